/- A part of the proofs over this seat: RefL. -/
import Derived.Test.YthlncmkeccgfeaaGreatDoorRefG
set_option linter.unusedVariables false
set_option linter.unusedSimpArgs false
set_option maxRecDepth 100000
namespace Go.Proofs
open Go.Vcg
namespace Rt
attribute [local congr] Reads.congr ReadsS.congr pLoad.congr pLoadS.congr pStore.congr Runs.congr CallsH.congr bcase.congr boolV.congr Stable.congr pAlloc.congr
variable {n : Nat} {h : Heap} {r : Nat} {bv : Value} {l : List UInt8} {p : Nat} {ext : Bool} {gr code pos lang : Nat} {R : Value → Heap → Prop} {E : List PanicEntry → Heap → Prop}

/-! ### What the reference reads of an extended text -/
mutual
def atomX : Nat → List UInt8 → Nat → Nat → Res (T × Nat × Nat)
  | 0, _, _, _ => .out
  | f + 1, l, p, gr =>
    if isM l [46] p then .ok (.node 1 anyW 0 0 0 [], p + 1, gr)
    else if isM l [91] p then (brkM true l (p + 1)).with gr
    else if isM l [40] p then groupR true l p gr (extX f l [] (p + 1) (gr + 1))
    else if isM l [123] p ∨ isM l [42] p ∨ isM l [43] p ∨ isM l [63] p then .bad 3 p
    else if isM l [92] p then (escM l extSigns p).with gr
    else match l[p]? with
      | some c => .ok (single c, p + 1, gr)
      | none => .out
def branchX : Nat → List UInt8 → List T → Nat → Nat → Res (T × Nat × Nat)
  | 0, _, _, _, _ => .out
  | f + 1, l, ts, p, gr =>
    if l.length ≤ p ∨ isM l [124] p ∨ isM l [41] p then (if ts.isEmpty then .bad 3 p else .ok (joinM 4 ts, p, gr))
    else if isM l [94] p ∨ isM l [36] p then branchX f l (ts ++ [.node (if isM l [36] p then 3 else 2) .zero 0 0 0 []]) (p + 1) gr
    else match atomX f l p gr with
      | .ok (t, p', gr') => (match timesX true f l t p' with
        | .ok (u, p2) => branchX f l (ts ++ [u]) p2 gr'
        | .bad a b => .bad a b
        | .out => .out)
      | x => x
def extX : Nat → List UInt8 → List T → Nat → Nat → Res (T × Nat × Nat)
  | 0, _, _, _, _ => .out
  | f + 1, l, ts, p, gr => match branchX f l [] p gr with
    | .ok (t, p', gr') => if isM l [124] p' then extX f l (ts ++ [t]) (p' + 1) gr' else .ok (joinM 5 (ts ++ [t]), p', gr')
    | x => x
end
def BranchXOk (k : Nat) : Prop := ∀ {n : Nat} {h : Heap} {r : Nat} {bv : Value} {l : List UInt8} {p gr : Nat} {R : Value → Heap → Prop} {E : List PanicEntry → Heap → Prop},
  Kx n h r bv l p true gr 0 0 0 → OwesK n h r bv l true (branchX k l [] p gr) R → CallsH Tryz.prog 59 #[ptr r] h R E
def ExtXOk (k : Nat) : Prop := ∀ {n : Nat} {h : Heap} {r : Nat} {bv : Value} {l : List UInt8} {p gr : Nat} {R : Value → Heap → Prop} {E : List PanicEntry → Heap → Prop},
  Kx n h r bv l p true gr 0 0 0 → OwesK n h r bv l true (extX k l [] p gr) R → CallsH Tryz.prog 38 #[ptr r] h R E
theorem ext_spec {k : Nat} (hB : ∀ i, i < k → BranchXOk i) (hcode : ∀ {i : Nat} {l : List UInt8} {p gr e w : Nat}, branchX i l [] p gr = .bad e w → e ≠ 0) (hk0 : k ≤ 1000000) : ExtXOk k := by
  intro n h r bv l p gr R E c hk
  refine C38 ?_
  unfold S38
  refine alloc_rule Tryz.zero36 fun h1 a1 => ?_
  have s1 := a1.size
  have c1 := c.al a1
  have hr := c.rlt
  have hl := c.len
  have hn := c.nle
  have f1 : Fm h.size r h h1 := Fm.al a1 (Nat.le_refl _)
  refine Loop1.fuel (fun j v h' => ∃ (ts : List T) (q g : Nat), j + ts.length ≤ k ∧ Fm h.size r h h' ∧ h1.size ≤ h'.size ∧ Kx n h' r bv l q true g 0 0 0 ∧ (∃ cs, h'[h.size]? = some (.cells cs 36 (0, 0)) ∧ cs.size = 9) ∧ Kids h' h1.size v ts ∧ OwesK n h r bv l true (extX j l ts q g) R)
    (n := k) ⟨[], p, gr, by simp, f1, Nat.le_refl _, c1, ⟨_, a1.at_, rfl⟩, Kids.nil _ _, hk⟩ fun j v h2 hi => ?_
  obtain ⟨ts, q, g, hjk, f2, s2, c2, ⟨cs, d2, z2⟩, kid2, hk2⟩ := hi
  have hr2 := c2.rlt
  cases j with
  | zero => unfold extX at hk2; exact hk2.elim
  | succ j =>
  unfold extX at hk2
  -- the end: all branches together
  have last : ∀ {h' : Heap} {v' : Value} {us : List T}, us ≠ [] → Fm h.size r h h' → h1.size ≤ h'.size → h'[h.size]? = h2[h.size]? → r < h'.size → Kids h' h1.size v' us → (∀ h'' vs, Fm h.size r h h'' → (∀ k, k < h'.size → k ≠ h.size → h''[k]? = h'[k]?) → h'.size ≤ h''.size → IsRe h'' (fun b => h1.size ≤ b) (joinM 5 us) vs → R (.agg vs.toArray) h'') →
      CallsH Tryz.prog 60 #[.int .i64 5, v'] h' (fun t17 h7 => pStore Tryz.prog 36 (.pointer (some ⟨h.size, 0, none⟩)) t17 h7 fun h8 => pLoad Tryz.prog 36 (.pointer (some ⟨h.size, 0, none⟩)) h8 fun r4 => R r4 h8) E := by
    intro h' v' us hne f' s' d' hr' kid' hq
    refine rseveral_spec (kind := 5) kid' s' hne fun h7 vs f7 ht7 => ?_
    have s7 := f7.size
    refine ret_re (Q := fun b => h1.size ≤ b) ((f7.same h.size (by omega) (by omega)).trans (d'.trans d2)) z2 (fun x hx => by omega) ht7 fun h8 u8' ht8 => ?_
    refine hq h8 vs (f'.trans ((⟨s7, fun k k1 k2 => f7.same k (by omega) (by omega)⟩ : Fm h.size r h' h7).trans (Fm.upd u8' (.inl (Nat.le_refl _))))) (fun k k1 k2 => (u8'.other _ k2).trans (f7.same k k1 (by omega))) (by rw [u8'.size]; exact s7) ht8
  refine hB j (by omega) c2 ?_
  cases hm : branchX j l [] q g with
  | out => rw [hm] at hk2; exact hk2.elim
  | bad e w =>
    rw [hm] at hk2
    intro h3 vs t q' g' f3 c3 ht3
    have s3 := f3.size
    have kid3 := kid2.fm f3 (by omega)
    have hap := kid2.apart (h' := h3) (by omega) ht3
    have hr3 := c3.rlt
    refine push_kid kid3 hap (by omega) (by omega) fun v' h5 k5 f5 => ?_
    have s5 := (f5 r).size
    have c5 := c3.still ((f5 r).less (by omega)) ((f5 h5.size).same r (by omega) (by omega))
    refine Join0.intro (fun _ => False) ?_ (fun _ hf => hf.elim)
    refine rbad_spec c5 ?_
    rw [decide_eq_false (hcode hm), boolV_bool, show (!false) = true from rfl, bcase_true]
    refine last (by simp) (f2.trans ((f3.less (by omega)).trans ((f5 r).less (by omega)))) (by omega) (((f5 r).same h.size (by omega) (by omega)).trans (f3.same h.size (by omega) (by omega))) (by omega) k5 fun h8 ws f8 o8 s8 ht8 => ?_
    exact hk2 h8 ws _ _ _ f8 (c5.on ⟨s8, fun k k1 k2 => o8 k (by omega) (by omega)⟩ ((o8 r (by omega) (by omega)).trans c5.rd) c5.le c5.g9) (ht8.frame fun b hb _ => ⟨by omega, rfl⟩)
  | ok x =>
    obtain ⟨t, q', g'⟩ := x
    rw [hm] at hk2
    simp only at hk2
    intro h3 vs f3 c3 ht3
    simp only at c3 ht3
    have s3 := f3.size
    have kid3 := kid2.fm f3 (by omega)
    have hap := kid2.apart (h' := h3) (by omega) ht3
    have hr3 := c3.rlt
    refine push_kid kid3 hap (by omega) (by omega) fun v' h5 k5 f5 => ?_
    have s5 := (f5 r).size
    have c5 := c3.still ((f5 r).less (by omega)) ((f5 h5.size).same r (by omega) (by omega))
    have f05 := f2.trans ((f3.less (by omega)).trans ((f5 r).less (by omega)))
    have d5 := ((f5 r).same h.size (by omega) (by omega)).trans (f3.same h.size (by omega) (by omega))
    refine Join0.intro (fun h' => h' = h5 ∧ isM l [124] q' = true) ?_ ?_
    · refine rbad_spec c5 ?_
      rw [boolV_bool, show (!decide ((0 : Nat) = 0)) = false from rfl, bcase_false]
      refine ris_spec c5 (by simp) ?_
      rw [reads_not, boolV_bool]
      refine bcase_of (fun hb => ?_) (fun hb => ⟨rfl, by simpa using hb⟩)
      have hb : isM l [124] q' = false := by simpa using hb
      rw [if_neg (by rw [hb]; simp)] at hk2
      refine last (by simp) f05 (by omega) d5 (by omega) k5 fun h8 ws f8 o8 s8 ht8 => ?_
      exact hk2 h8 ws f8 (c5.on ⟨s8, fun k k1 k2 => o8 k (by omega) (by omega)⟩ ((o8 r (by omega) (by omega)).trans c5.rd) c5.le c5.g9) (ht8.frame fun b hb _ => ⟨by omega, rfl⟩)
    rintro h12 ⟨rfl, hb⟩
    rw [if_pos hb] at hk2
    have hlt := isM_lt hb
    rw [reads_nil, Tryz.fa71_1, addr_add, Nat.zero_add, c5.ld1, reads_add, wrap_n1 _ (by omega), reads_nil, Tryz.fa71_1, addr_add, Nat.zero_add]
    refine c5.goto (by omega) fun h13 f13 s13 o13 c13 => ?_
    exact ⟨j, by omega, ts ++ [t], q' + 1, g', by simp; omega, f05.trans (f13.less (by omega)), by omega, c13, ⟨cs, (o13 _ (by omega)).trans (d5.trans d2), z2⟩, k5.fm f13 (by omega), hk2⟩
end Rt
end Go.Proofs

set_option maxRecDepth 100000
namespace Go.Proofs
open Go.Vcg
namespace Rt
attribute [local congr] Reads.congr ReadsS.congr pLoad.congr pLoadS.congr pStore.congr Runs.congr CallsH.congr bcase.congr boolV.congr Stable.congr pAlloc.congr
variable {n : Nat} {h : Heap} {r : Nat} {bv : Value} {l : List UInt8} {p : Nat} {ext : Bool} {gr code pos lang : Nat} {R : Value → Heap → Prop} {E : List PanicEntry → Heap → Prop}

def exit59 (t0 t2 t3 : Value) (R : Value → Heap → Prop) (E : List PanicEntry → Heap → Prop) (h6 : Heap) : Prop :=
  Reads Tryz.prog (builtinS .len #[34] 3 #[t3]) h6 fun t52 =>
  Reads Tryz.prog (binS .eql 3 true t52 (.int .i64 0)) h6 fun t53 =>
  boolV t53 fun b7 => bcase b7 (
    Reads Tryz.prog (nilS t0) h6 fun t56 =>
    Reads Tryz.prog (Instr.fieldAt 71 t56 1) h6 fun t57 =>
    pLoad Tryz.prog 3 t57 h6 fun t58 =>
    CallsH Tryz.prog 37 #[t0, (.int .i64 3), t58] h6 (fun t59 h7 =>
    pStore Tryz.prog 36 t2 t59 h7 fun h8 =>
    pLoad Tryz.prog 36 t2 h8 fun r8 => R r8 h8) E) (
    CallsH Tryz.prog 60 #[(.int .i64 4), t3] h6 (fun t61 h9 =>
  pStore Tryz.prog 36 t2 t61 h9 fun h10 =>
  pLoad Tryz.prog 36 t2 h10 fun r9 => R r9 h10) E)
def AtomXOk (k : Nat) : Prop := ∀ {n : Nat} {h : Heap} {r : Nat} {bv : Value} {l : List UInt8} {p gr : Nat} {R : Value → Heap → Prop} {E : List PanicEntry → Heap → Prop},
  Kx n h r bv l p true gr 0 0 0 → p < l.length → OwesK n h r bv l true (atomX k l p gr) R → CallsH Tryz.prog 63 #[ptr r] h R E
theorem branchX_spec {k : Nat} (hA : ∀ i, i < k → AtomXOk i) (hcA : ∀ {i : Nat} {l : List UInt8} {p gr e w : Nat}, atomX i l p gr = .bad e w → e ≠ 0) (hcT : ∀ {i : Nat} {l : List UInt8} {t : T} {p e w : Nat}, timesX true i l t p = .bad e w → e ≠ 0) (hk0 : k ≤ 1000000) : BranchXOk k := by
  intro n h r bv l p gr R E c hk
  refine C59 ?_
  unfold S59
  refine alloc_rule Tryz.zero36 fun h1 a1 => ?_
  have s1 := a1.size
  have c1 := c.al a1
  have hr := c.rlt
  have hl := c.len
  have hn := c.nle
  have f1 : Fm h.size r h h1 := Fm.al a1 (Nat.le_refl _)
  -- the end, with something read
  have out : ∀ {h' : Heap} {v' : Value} {us : List T}, us ≠ [] → Fm h.size r h h' → h1.size ≤ h'.size → (∃ cs, h'[h.size]? = some (.cells cs 36 (0, 0)) ∧ cs.size = 9) → r < h'.size → Kids h' h1.size v' us → (∀ h'' vs, Fm h.size r h h'' → (∀ k, k < h'.size → k ≠ h.size → h''[k]? = h'[k]?) → h'.size ≤ h''.size → IsRe h'' (fun b => h1.size ≤ b) (joinM 4 us) vs → R (.agg vs.toArray) h'') →
      exit59 (ptr r) (.pointer (some ⟨h.size, 0, none⟩)) v' R E h' := by
    rintro h' v' us hne f' s' ⟨cs, d', z'⟩ hr' kid' hq
    have hpos : 1 ≤ us.length := List.length_pos_iff.2 hne
    unfold exit59
    rw [reads_klen kid', reads_eq, boolV_bool]
    refine bcase_of (fun h0 => by have := of_decide_eq_true h0; omega) (fun _ => ?_)
    refine rseveral_spec (kind := 4) kid' s' hne fun h7 vs f7 ht7 => ?_
    have s7 := f7.size
    refine ret_re (Q := fun b => h1.size ≤ b) ((f7.same h.size (by omega) (by omega)).trans d') z' (fun x hx => by omega) ht7 fun h8 u8' ht8 => ?_
    refine hq h8 vs (f'.trans ((⟨s7, fun k k1 k2 => f7.same k (by omega) (by omega)⟩ : Fm h.size r h' h7).trans (Fm.upd u8' (.inl (Nat.le_refl _))))) (fun k k1 k2 => (u8'.other _ k2).trans (f7.same k k1 (by omega))) (by rw [u8'.size]; exact s7) ht8
  refine Loop1.fuel (fun j v h' => ∃ (ts : List T) (q g e w : Nat), j + ts.length ≤ k ∧ Fm h.size r h h' ∧ h1.size ≤ h'.size ∧ Kx n h' r bv l q true g e w (if e = 0 then 0 else langN true) ∧ (∃ cs, h'[h.size]? = some (.cells cs 36 (0, 0)) ∧ cs.size = 9) ∧ Kids h' h1.size v ts ∧ (if e = 0 then w = 0 ∧ OwesK n h r bv l true (branchX j l ts q g) R else ts ≠ [] ∧ OwesK n h r bv l true (.bad e w) R))
    (n := k) ⟨[], p, gr, 0, 0, by simp, f1, Nat.le_refl _, c1, ⟨_, a1.at_, rfl⟩, Kids.nil _ _, rfl, hk⟩ fun j v h2 hi => ?_
  obtain ⟨ts, q, g, e, w, hjk, f2, s2, c2, d2, kid2, hk2⟩ := hi
  have hr2 := c2.rlt
  by_cases he : e = 0
  rotate_left
  · rw [if_neg he] at hk2 c2
    refine Join0.intro (fun _ => False) ?_ (fun _ hf => hf.elim)
    refine rbad_spec c2 ?_
    rw [reads_not, boolV_bool, decide_eq_false he, show (!!false) = false from rfl, bcase_false]
    refine out hk2.1 f2 s2 d2 (by omega) kid2 fun h8 ws f8 o8 s8 ht8 => ?_
    exact hk2.2 h8 ws _ _ _ f8 (c2.on ⟨s8, fun k k1 k2 => o8 k (by omega) (by omega)⟩ ((o8 r (by omega) (by omega)).trans c2.rd) c2.le c2.g9) (ht8.frame fun b hb _ => ⟨by omega, rfl⟩)
  subst he
  simp only [if_true] at hk2 c2
  obtain ⟨rfl, hk2⟩ := hk2
  have hq2 := c2.le
  cases j with
  | zero => unfold branchX at hk2; exact hk2.elim
  | succ j =>
  unfold branchX at hk2
  -- nothing more here
  have stop : (l.length ≤ q ∨ isM l [124] q = true ∨ isM l [41] q = true) → exit59 (ptr r) (.pointer (some ⟨h.size, 0, none⟩)) v R E h2 := by
    intro hc
    rw [if_pos hc] at hk2
    by_cases hts : ts = []
    · subst hts
      simp only [List.isEmpty_nil, if_true] at hk2
      unfold exit59
      rw [reads_klen kid2, reads_eq, boolV_bool]
      refine bcase_of (fun _ => ?_) (fun h0 => by simp at h0)
      rw [reads_nil, Tryz.fa71_1, addr_add, Nat.zero_add, c2.ld1]
      refine rfail_spec (e := 3) c2 (by omega) fun h7 f7 c7 => ?_
      have s7 := f7.size
      obtain ⟨cs, d2, z2⟩ := d2
      refine ret_re (t := .node 0 .zero 0 0 0 []) (Q := fun _ => False) ((f7.same h.size (by omega) (by omega)).trans d2) z2 (fun _ h => h.elim) IsRe.leaf fun h8 u8' ht => ?_
      exact hk2 h8 _ _ _ _ (f2.trans ((f7.less (by omega)).trans (Fm.upd u8' (.inl (Nat.le_refl _))))) (c7.upd u8' (by omega) (by omega)) (ht.frame fun b hb _ => hb.elim)
    · have hem : ts.isEmpty = false := by cases ts <;> simp at hts ⊢
      simp only [hem, Bool.false_eq_true, if_false] at hk2
      refine out hts f2 s2 d2 (by omega) kid2 fun h8 ws f8 o8 s8 ht8 => ?_
      exact hk2 h8 ws f8 (c2.on ⟨s8, fun k k1 k2 => o8 k (by omega) (by omega)⟩ ((o8 r (by omega) (by omega)).trans c2.rd) c2.le c2.g9) (ht8.frame fun b hb _ => ⟨by omega, rfl⟩)
  refine Join0.intro (fun h' => h' = h2 ∧ ¬ (l.length ≤ q ∨ isM l [124] q = true ∨ isM l [41] q = true)) ?_ ?_
  · refine rbad_spec c2 ?_
    rw [reads_not, boolV_bool, show (!!decide ((0 : Nat) = 0)) = true from rfl, bcase_true]
    refine rend_spec c2 ?_
    rw [reads_not, boolV_bool]
    refine bcase_of (fun x1 => ?_) (fun x1 => stop (.inl (by simpa using x1)))
    refine ris_spec c2 (by simp) ?_
    rw [reads_not, boolV_bool]
    refine bcase_of (fun x2 => ?_) (fun x2 => stop (.inr (.inl (by simpa using x2))))
    refine ris_spec c2 (by simp) ?_
    rw [reads_not, boolV_bool]
    refine bcase_of (fun x3 => ⟨rfl, ?_⟩) (fun x3 => stop (.inr (.inr (by simpa using x3))))
    have y1 : ¬ l.length ≤ q := by simpa using x1
    have y2 : isM l [124] q = false := by simpa using x2
    have y3 : isM l [41] q = false := by simpa using x3
    rintro (z | z | z)
    · exact y1 z
    · rw [y2] at z; cases z
    · rw [y3] at z; cases z
  rintro h23 ⟨rfl, hcond⟩
  rw [if_neg hcond] at hk2
  have hlt : q < l.length := Nat.lt_of_not_le fun x => hcond (.inl x)
  obtain ⟨cs, d2, z2⟩ := d2
  refine Join1.intro (fun v h' => h' = h23 ∧ v = .bool (isM l [94] q || isM l [36] q)) ?_ ?_
  · refine ris_spec c2 (by simp) ?_
    rw [boolV_bool]
    refine bcase_of (fun x => ⟨rfl, by rw [x]; rfl⟩) (fun x => ris_spec c2 (by simp) ⟨rfl, by rw [x]; rfl⟩)
  rintro v' h26 ⟨rfl, rfl⟩
  rw [boolV_bool]
  refine bcase_of (fun ha => ?_) (fun ha => ?_)
  · rw [if_pos (by simpa using ha)] at hk2
    refine Join1.intro (fun v h' => h' = h26 ∧ v = .int .i64 ((if isM l [36] q = true then 3 else 2 : Nat))) ?_ ?_
    · refine ris_spec c2 (by simp) ?_
      rw [boolV_bool]
      refine bcase_of (fun x => ⟨rfl, by rw [if_pos x]; rfl⟩) (fun x => ⟨rfl, by rw [if_neg (by rw [x]; simp)]; rfl⟩)
    rintro v'' h28 ⟨rfl, rfl⟩
    rw [reads_nil, Tryz.fa71_1, addr_add, Nat.zero_add, c2.ld1, reads_add, wrap_n1 _ (by omega), reads_nil, Tryz.fa71_1, addr_add, Nat.zero_add]
    refine c2.goto (by omega) fun h29 f29 s29 o29 c29 => ?_
    rw [Tryz.bd36_0]
    generalize (if isM l [36] q = true then 3 else 2 : Nat) = kd at *
    refine push_kid (t := .node kd .zero 0 0 0 []) (vs := reL kd .zero 0 0 0 (.slice none 0 0)) (n := h1.size) (kid2.fm f29 (by omega)) IsRe.leaf (by omega) (by omega) fun v3 h31 k31 f31 => ?_
    have s31 := (f31 r).size
    exact ⟨j, by omega, _, q + 1, g, 0, 0, by simp; omega, f2.trans ((f29.less (by omega)).trans ((f31 r).less (by omega))), by omega, c29.still ((f31 r).less (by omega)) ((f31 h31.size).same r (by omega) (by omega)), ⟨cs, ((f31 r).same _ (by omega) (by omega)).trans ((o29 _ (by omega)).trans d2), z2⟩, k31, rfl, hk2⟩
  rw [if_neg (by simpa using ha)] at hk2
  -- a tree is put behind
  have more : ∀ {h' : Heap} {u : T} {ws : List Value} {q' g' e' w' j' : Nat}, j' ≤ j → Fm h26.size r h26 h' → IsRe h' (fun b => h26.size ≤ b) u ws → Kx n h' r bv l q' true g' e' w' (if e' = 0 then 0 else langN true) → (if e' = 0 then w' = 0 ∧ OwesK n h r bv l true (branchX j l (ts ++ [u]) q' g') R else OwesK n h r bv l true (.bad e' w') R) →
      Runs Tryz.prog (vS (Instr.buildSlice 34 1 #[(0, .agg ws.toArray)])) h' (fun t28 h34 => Runs Tryz.prog (builtin .append #[34, 34] 34 #[false, false] #[v, t28]) h34 (fun t29 h35 => ∃ j2, j2 < j + 1 ∧ ∃ (ts : List T) (q g e w : Nat), j2 + ts.length ≤ k ∧ Fm h.size r h h35 ∧ h1.size ≤ h35.size ∧ Kx n h35 r bv l q true g e w (if e = 0 then 0 else langN true) ∧ (∃ cs, h35[h.size]? = some (.cells cs 36 (0, 0)) ∧ cs.size = 9) ∧ Kids h35 h1.size t29 ts ∧ (if e = 0 then w = 0 ∧ OwesK n h r bv l true (branchX j2 l ts q g) R else ts ≠ [] ∧ OwesK n h r bv l true (.bad e w) R)) E) E := by
    intro h' u ws q' g' e' w' j' _ f' hu c' ho
    have s' := f'.size
    have hr' := c'.rlt
    refine push_kid (kid2.fm f' (by omega)) (kid2.apart (by omega) hu) (by omega) (by omega) fun v3 h35 k35 f35 => ?_
    have s35 := (f35 r).size
    refine ⟨j, by omega, _, q', g', e', w', by simp; omega, f2.trans ((f'.less (by omega)).trans ((f35 r).less (by omega))), by omega, c'.still ((f35 r).less (by omega)) ((f35 h35.size).same r (by omega) (by omega)), ⟨cs, ((f35 r).same _ (by omega) (by omega)).trans ((f'.same _ (by omega) (by omega)).trans d2), z2⟩, k35, ?_⟩
    split
    · rename_i x; rw [if_pos x] at ho; exact ho
    · rename_i x; rw [if_neg x] at ho; exact ⟨by simp, ho⟩
  refine hA j (by omega) c2 hlt ?_
  cases hm : atomX j l q g with
  | out => rw [hm] at hk2; exact hk2.elim
  | bad e w =>
    rw [hm] at hk2
    intro h32 vs t q' g' f32 c32 ht
    have s32 := f32.size
    have hr32 := c32.rlt
    refine rtimes_bad (Q := fun b => h26.size ≤ b ∧ b < h32.size) c32 (hcA hm) (ht.frame fun b hb hlt => ⟨⟨hb, hlt⟩, rfl⟩) (fun x hx => by omega) fun h33 ws f33 c33 ht33 => ?_
    have he := hcA hm
    exact more (e' := e) (w' := w) (Nat.le_refl j) (f32.trans (f33.less (by omega))) (ht33.frame fun b hb _ => ⟨hb.1, rfl⟩) (by rw [if_neg he]; exact c33) (by rw [if_neg he]; exact hk2)
  | ok x =>
    obtain ⟨t, q', g'⟩ := x
    rw [hm] at hk2
    simp only at hk2
    intro h32 vs f32 c32 ht
    simp only at c32 ht
    have s32 := f32.size
    have hr32 := c32.rlt
    refine rtimes_spec (k := j) (Q := fun b => h26.size ≤ b ∧ b < h32.size) c32 (ht.frame fun b hb hlt => ⟨⟨hb, hlt⟩, rfl⟩) (fun x hx => by omega) ?_
    cases hm2 : timesX true j l t q' with
    | out => rw [hm2] at hk2; exact hk2.elim
    | bad e w =>
      rw [hm2] at hk2
      intro h33 ws u q2 f33 c33 ht33
      have he := hcT hm2
      exact more (e' := e) (w' := w) (Nat.le_refl j) (f32.trans (f33.less (by omega))) (ht33.frame fun b hb _ => ⟨by omega, rfl⟩) (by rw [if_neg he]; exact c33) (by rw [if_neg he]; exact hk2)
    | ok y =>
      obtain ⟨u, q2⟩ := y
      rw [hm2] at hk2
      simp only at hk2
      intro h33 ws f33 c33 ht33
      exact more (e' := 0) (w' := 0) (Nat.le_refl j) (f32.trans (f33.less (by omega))) (ht33.frame fun b hb _ => ⟨by rcases hb with hb | hb; exact hb.1; omega, rfl⟩) c33 ⟨rfl, hk2⟩
end Rt
end Go.Proofs

set_option maxRecDepth 100000
namespace Go.Proofs
open Go.Vcg
namespace Rt
variable {l : List UInt8} {p gr : Nat}

/-! ### An error's code is not 0 -/
theorem intM_code {t : T} {frm e w : Nat} {shut : List UInt8} (h : intM l t frm shut p = .bad e w) : e ≠ 0 := by
  unfold intM at h
  split at h
  · cases h; omega
  · split at h
    · cases h; omega
    · cases h
theorem timesX_code {ext : Bool} : ∀ (k : Nat) {t : T} {p e w : Nat}, timesX ext k l t p = .bad e w → e ≠ 0
  | 0, t, p, e, w, h => by unfold timesX at h; cases h
  | k + 1, t, p, e, w, h => by
    unfold timesX at h
    split at h
    · exact timesX_code k h
    split at h
    · exact timesX_code k h
    split at h
    · exact timesX_code k h
    split at h
    · split at h
      · exact timesX_code k h
      · rename_i a b hi; cases h; exact intM_code hi
      · cases h
    · cases h
theorem with_bad {m : Res (T × Nat)} {e w : Nat} (h : m.with gr = .bad e w) : m = .bad e w := by
  cases m with
  | out => cases h
  | bad c q => cases h; rfl
  | ok y => cases h
theorem escM_code {signs : List UInt8} {e w : Nat} (h : escM l signs p = .bad e w) : e ≠ 0 := by
  unfold escM at h
  split at h
  · cases h; omega
  · split at h
    · cases h
    · split at h
      · cases h
      · cases h; omega
theorem readL_code : ∀ (k : Nat) {first : Bool} {s : W4} {p e w lang : Nat}, readL lang l k first s p = .bad e w → e ≠ 0
  | 0, first, s, p, e, w, lang, h => by unfold readL at h; cases h
  | k + 1, first, s, p, e, w, lang, h => by
    have item : ∀ {q a b : Nat}, itemS lang l q = .bad a b → a ≠ 0 := by
      intro q a b h
      unfold itemS at h
      split at h
      · cases h; omega
      split at h
      · split at h
        · split at h
          · cases h
          · cases h; omega
        · cases h; omega
      split at h
      · split at h
        · cases h
        · cases h; omega
      · cases h
    unfold readL at h
    split at h
    · cases h; omega
    split at h
    · cases h
    split at h
    · split at h
      · exact readL_code k h
      · rename_i a b hr
        cases h
        unfold rangedS at hr
        split at hr
        · cases hr
        · split at hr
          · split at hr
            · cases hr; omega
            · split at hr
              · cases hr; omega
              · cases hr
          · rename_i hi; cases hr; exact item hi
          · cases hr
      · cases h
    · rename_i a b hi; cases h; exact item hi
    · cases h
theorem brkM_code {ext : Bool} {e w : Nat} (h : brkM ext l p = .bad e w) : e ≠ 0 := by
  unfold brkM at h
  split at h
  · cases h
  · rename_i a b hb
    cases h
    unfold bracketS at hb
    split at hb
    · cases hb
    · exact readL_code _ hb
  · cases h
theorem codeX : ∀ (f : Nat), (∀ {p gr e w : Nat}, atomX f l p gr = .bad e w → e ≠ 0) ∧ (∀ {ts : List T} {p gr e w : Nat}, branchX f l ts p gr = .bad e w → e ≠ 0) ∧ (∀ {ts : List T} {p gr e w : Nat}, extX f l ts p gr = .bad e w → e ≠ 0)
  | 0 => by
    refine ⟨?_, ?_, ?_⟩
    · intro p gr e w h
      unfold atomX at h
      cases h
    · intro ts p gr e w h
      unfold branchX at h
      cases h
    · intro ts p gr e w h
      unfold extX at h
      cases h
  | f + 1 => by
    obtain ⟨iA, iB, iE⟩ := codeX f
    refine ⟨?_, ?_, ?_⟩
    · intro p gr e w h
      unfold atomX at h
      split at h
      · cases h
      split at h
      · exact brkM_code (with_bad h)
      split at h
      · unfold groupR at h
        split at h
        · cases h; omega
        · split at h
          · split at h
            · cases h; omega
            · cases h
          · rename_i hm; cases h; exact iE hm
          · cases h
      split at h
      · cases h; omega
      split at h
      · exact escM_code (with_bad h)
      · split at h <;> cases h
    · intro ts p gr e w h
      unfold branchX at h
      split at h
      · split at h
        · cases h; omega
        · cases h
      split at h
      · exact iB h
      cases hm : atomX f l p gr with
      | out => rw [hm] at h; cases h
      | bad a b => rw [hm] at h; cases h; exact iA hm
      | ok x =>
        rw [hm] at h
        obtain ⟨t, q, g⟩ := x
        simp only at h
        cases hm2 : timesX true f l t q with
        | out => rw [hm2] at h; cases h
        | bad a b => rw [hm2] at h; cases h; exact timesX_code f hm2
        | ok y => rw [hm2] at h; exact iB h
    · intro ts p gr e w h
      unfold extX at h
      cases hm : branchX f l [] p gr with
      | out => rw [hm] at h; cases h
      | bad a b => rw [hm] at h; cases h; exact iB hm
      | ok x =>
        rw [hm] at h
        obtain ⟨t, q, g⟩ := x
        simp only at h
        split at h
        · exact iE h
        · cases h
end Rt
end Go.Proofs

set_option maxRecDepth 100000
namespace Go.Proofs
open Go.Vcg
namespace Rt
variable {l : List UInt8}

/-! ### Where the reference's branches end -/
theorem branchX_stop : ∀ (f : Nat) {ts : List T} {p gr : Nat} {t : T} {q g : Nat}, branchX f l ts p gr = .ok (t, q, g) → l.length ≤ q ∨ isM l [124] q = true ∨ isM l [41] q = true
  | 0, ts, p, gr, t, q, g, h => by unfold branchX at h; cases h
  | f + 1, ts, p, gr, t, q, g, h => by
    unfold branchX at h
    split at h
    · rename_i hc
      split at h
      · cases h
      · cases h; exact hc
    split at h
    · exact branchX_stop f h
    cases hm : atomX f l p gr with
    | out => rw [hm] at h; cases h
    | bad a b => rw [hm] at h; cases h
    | ok x =>
      rw [hm] at h
      obtain ⟨t', q', g'⟩ := x
      simp only at h
      cases hm2 : timesX true f l t' q' with
      | out => rw [hm2] at h; cases h
      | bad a b => rw [hm2] at h; cases h
      | ok y => rw [hm2] at h; exact branchX_stop f h
theorem extX_stop : ∀ (f : Nat) {ts : List T} {p gr : Nat} {t : T} {q g : Nat}, extX f l ts p gr = .ok (t, q, g) → l.length ≤ q ∨ isM l [41] q = true
  | 0, ts, p, gr, t, q, g, h => by unfold extX at h; cases h
  | f + 1, ts, p, gr, t, q, g, h => by
    unfold extX at h
    cases hm : branchX f l [] p gr with
    | out => rw [hm] at h; cases h
    | bad a b => rw [hm] at h; cases h
    | ok x =>
      rw [hm] at h
      obtain ⟨t', q', g'⟩ := x
      simp only at h
      split at h
      · exact extX_stop f h
      · rename_i hn
        cases h
        rcases branchX_stop f hm with e | e | e
        · exact .inl e
        · exact absurd e hn
        · exact .inr e
end Rt
end Go.Proofs

set_option maxRecDepth 100000
namespace Go.Proofs
open Go.Vcg
namespace Rt
attribute [local congr] Reads.congr ReadsS.congr pLoad.congr pLoadS.congr pStore.congr Runs.congr CallsH.congr bcase.congr boolV.congr Stable.congr pAlloc.congr
variable {n : Nat} {h : Heap} {r : Nat} {bv : Value} {l : List UInt8} {p : Nat} {ext : Bool} {gr code pos lang : Nat} {R : Value → Heap → Prop} {E : List PanicEntry → Heap → Prop}

/-- behind a bracket -/
def tail63 (t0 t2 t4 t6 t45 : Value) (R : Value → Heap → Prop) (E : List PanicEntry → Heap → Prop) (h10 : Heap) : Prop :=
  Reads Tryz.prog (Instr.fieldAt 42 t6 0) h10 fun t47 =>
      pLoad Tryz.prog 3 t47 h10 fun t48 =>
      Reads Tryz.prog (binS .neq 3 true t48 (.int .i64 0)) h10 fun t49 =>
      boolV t49 fun b5 => bcase b5 (
        Reads Tryz.prog (Instr.fieldAt 42 t6 0) h10 fun t51 =>
        pLoad Tryz.prog 3 t51 h10 fun t52 =>
        Reads Tryz.prog (Instr.fieldAt 42 t6 1) h10 fun t53 =>
        pLoad Tryz.prog 3 t53 h10 fun t54 =>
        CallsH Tryz.prog 37 #[t0, t52, t54] h10 (fun t55 h11 =>
        pStore Tryz.prog 36 t2 t55 h11 fun h12 =>
        pLoad Tryz.prog 36 t2 h12 fun r6 => R r6 h12) E) (
        Reads Tryz.prog (nilS t0) h10 fun t58 =>
      Reads Tryz.prog (Instr.fieldAt 71 t58 1) h10 fun t59 =>
      pStore Tryz.prog 3 t59 t45 h10 fun h13 =>
      pLoad Tryz.prog 33 t4 h13 fun t60 =>
      Reads Tryz.prog (Instr.build 36 #[(0, (.int .i64 1)), (1, t60)]) h13 fun t61 =>
      pStore Tryz.prog 36 t2 t61 h13 fun h14 =>
      pLoad Tryz.prog 36 t2 h14 fun r7 => R r7 h14)
theorem tail63_bad {b2 b4 b6 e w : Nat} {x : Value} {cs : Array Value} (c : Kx n h r bv l p ext gr 0 0 0) (he : e ≠ 0) (r2 : h[b2]? = some (.cells cs 36 (0, 0))) (z : cs.size = 9) (r6 : h[b6]? = some (.cells #[.int .i64 e, .int .i64 w, .int .i64 lang] 42 (0, 0))) (n2 : n ≤ b2) (x2 : b2 ≠ r)
    (hk : ∀ h' vs t, Fm b2 r h h' → Kx n h' r bv l p ext gr e w (langN ext) → IsRe h' (fun b => h.size ≤ b) t vs → R (.agg vs.toArray) h') : tail63 (ptr r) (.pointer (some ⟨b2, 0, none⟩)) (.pointer (some ⟨b4, 0, none⟩)) (.pointer (some ⟨b6, 0, none⟩)) x R E h := by
  have l2 := at_lt r2
  unfold tail63
  rw [Tryz.fa42_0, addr_add, pLoad_one (v := .int .i64 e) Tryz.agg3 (by rw [hcell_of r6]; rfl), reads_ne, boolV_bool]
  refine bcase_of (fun _ => ?_) (fun h0 => by simp at h0; omega)
  rw [Tryz.fa42_0, addr_add, pLoad_one (v := .int .i64 e) Tryz.agg3 (by rw [hcell_of r6]; rfl), Tryz.fa42_1, addr_add, Nat.zero_add, pLoad_one (v := .int .i64 w) Tryz.agg3 (by rw [hcell_of r6]; rfl)]
  refine rfail_spec c he fun h11 f11 c11 => ?_
  have s11 := f11.size
  refine ret_re (t := .node 0 .zero 0 0 0 []) (Q := fun _ => False) ((f11.same _ l2 x2).trans r2) z (fun _ h => h.elim) IsRe.leaf fun h12 u12 ht => ?_
  exact hk h12 _ _ ((f11.less (by omega)).trans (Fm.upd u12 (.inl (Nat.le_refl _)))) (c11.upd u12 n2 x2) (ht.frame fun b hb _ => hb.elim)
theorem tail63_ok {b2 b4 b6 q : Nat} {s : W4} {cs : Array Value} {w : Nat} (c : Kx n h r bv l p ext gr 0 0 0) (hq : q ≤ l.length) (r2 : h[b2]? = some (.cells cs 36 (0, 0))) (z : cs.size = 9) (r4 : At h b4 s) (r6 : h[b6]? = some (.cells #[.int .i64 (0 : Nat), .int .i64 w, .int .i64 lang] 42 (0, 0))) (n2 : n ≤ b2) (x2 : b2 ≠ r) (x4 : b4 ≠ r)
    (hk : ∀ h', Fm b2 r h h' → Kx n h' r bv l q ext gr 0 0 0 → R (.agg (reL 1 s 0 0 0 (.slice none 0 0)).toArray) h') : tail63 (ptr r) (.pointer (some ⟨b2, 0, none⟩)) (.pointer (some ⟨b4, 0, none⟩)) (.pointer (some ⟨b6, 0, none⟩)) (.int .i64 q) R E h := by
  have l2 := at_lt r2
  unfold tail63
  rw [Tryz.fa42_0, addr_add, pLoad_one (v := .int .i64 (0 : Nat)) Tryz.agg3 (by rw [hcell_of r6]; rfl), reads_ne, boolV_bool]
  refine bcase_of (fun h0 => by simp at h0) (fun _ => ?_)
  rw [reads_nil, Tryz.fa71_1, addr_add, Nat.zero_add]
  refine c.goto hq fun h13 f13 s13 o13 c13 => ?_
  refine getSet ((o13 _ x4).trans r4) ?_
  rw [show Value.agg s.vals.toArray = .agg #[.int .u64 s.a, .int .u64 s.b, .int .u64 s.c, .int .u64 s.d] from rfl, Tryz.bd36_0_1]
  refine ret_full ((o13 _ x2).trans r2) (xs := (reL 1 s 0 0 0 (.slice none 0 0)).toArray) Tryz.size36 Tryz.agg36 z (flat_reL rfl) fun h14 u14 => ?_
  exact hk h14 ((f13.less (by omega)).trans (Fm.upd u14 (.inl (Nat.le_refl _)))) (c13.upd u14 n2 x2)
end Rt
end Go.Proofs
