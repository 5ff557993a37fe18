/- A part of the proofs over this seat: Dep2. -/
import Derived.Test.YthlncmkeccgfeaaGreatDoorRefN
import Derived.Test.YthlncmkeccgfeaaGreatDoorRefL
set_option linter.unusedVariables false
set_option linter.unusedSimpArgs false
set_option maxRecDepth 100000
namespace Go.Proofs
open Go.Vcg
namespace Rt
attribute [local congr] Reads.congr ReadsS.congr pLoad.congr pLoadS.congr pStore.congr Runs.congr CallsH.congr bcase.congr boolV.congr Stable.congr pAlloc.congr
variable {n : Nat} {h : Heap} {r : Nat} {bv : Value} {l : List UInt8} {p : Nat} {ext : Bool} {gr code pos lang : Nat} {R : Value → Heap → Prop} {E : List PanicEntry → Heap → Prop}

/-! ### The reference reads the extended grammar -/
theorem all_extX : ∀ k, k ≤ 1000000 → AtomXOk k ∧ BranchXOk k ∧ ExtXOk k := by
  intro k
  induction k using Nat.strongRecOn with
  | _ k ih =>
    intro hk
    refine ⟨?_, branchX_spec (fun i hi => (ih i hi (by omega)).1) (fun {i l p gr e w} h => (codeX i).1 h) (fun h => timesX_code _ h) hk, ext_spec (fun i hi => (ih i hi (by omega)).2.1) (fun {i l p gr e w} h => (codeX i).2.1 h) hk⟩
    cases k with
    | zero =>
      intro n h r bv l p gr R E c hp hk
      unfold atomX at hk
      exact hk.elim
    | succ k =>
      intro n h r bv l p gr R E c hp hk
      rw [← atom_ext hp] at hk
      exact ratom_spec c hp (fun e w h => (codeX k).2.2 h) (fun t q g h => extX_stop k h) (fun _ {n h R} c2 hk2 => (ih k (by omega) (by omega)).2.2 c2 hk2) hk

/-! ### The reference reads the basic grammar -/
def BasROk (k : Nat) : Prop := ∀ {n : Nat} {h : Heap} {r : Nat} {bv : Value} {l : List UInt8} {p op gr : Nat} {R : Value → Heap → Prop} {E : List PanicEntry → Heap → Prop},
  Kx n h r bv l p false gr 0 0 0 → OwesK n h r bv l false (basicM k l p op gr) R → CallsH Tryz.prog 39 #[ptr r] h R E
def AtmROk (k : Nat) : Prop := ∀ {n : Nat} {h : Heap} {r : Nat} {bv : Value} {l : List UInt8} {p op gr : Nat} {R : Value → Heap → Prop} {E : List PanicEntry → Heap → Prop},
  Kx n h r bv l p false gr 0 0 0 → p < l.length → OwesK n h r bv l false (atomM k l p op gr) R → CallsH Tryz.prog 63 #[ptr r] h R E
theorem basR_spec {k : Nat} (hA : ∀ i, i < k → AtmROk i) (hk0 : k ≤ 1000000) : BasROk k := by
  intro n h r bv l p op gr R E c hk
  refine C39 ?_
  unfold S39
  refine alloc_rule Tryz.zero36 fun h1 a1 => ?_
  have s1 := a1.size
  have c1 := c.al a1
  have hr := c.rlt
  have hl := c.len
  have hn := c.nle
  have f1 : Fm h.size r h h1 := Fm.al a1 (Nat.le_refl _)
  cases k with
  | zero => unfold basicM at hk; exact hk.elim
  | succ k =>
  unfold basicM at hk
  -- the end, with something read
  have out : ∀ {h' : Heap} {v' : Value} {us : List T}, us ≠ [] → Fm h.size r h h' → h1.size ≤ h'.size → (∃ cs, h'[h.size]? = some (.cells cs 36 (0, 0)) ∧ cs.size = 9) → r < h'.size → Kids h' h1.size v' us → (∀ h'' vs, Fm h.size r h h'' → (∀ k, k < h'.size → k ≠ h.size → h''[k]? = h'[k]?) → h'.size ≤ h''.size → IsRe h'' (fun b => h1.size ≤ b) (joinM 4 us) vs → R (.agg vs.toArray) h'') →
      exit59 (ptr r) (.pointer (some ⟨h.size, 0, none⟩)) v' R E h' := by
    rintro h' v' us hne f' s' ⟨cs, d', z'⟩ hr' kid' hq
    have hpos : 1 ≤ us.length := List.length_pos_iff.2 hne
    unfold exit59
    rw [reads_klen kid', reads_eq, boolV_bool]
    refine bcase_of (fun h0 => by have := of_decide_eq_true h0; omega) (fun _ => ?_)
    refine rseveral_spec (kind := 4) kid' s' hne fun h7 vs f7 ht7 => ?_
    have s7 := f7.size
    refine ret_re (Q := fun b => h1.size ≤ b) ((f7.same h.size (by omega) (by omega)).trans d') z' (fun x hx => by omega) ht7 fun h8 u8' ht8 => ?_
    refine hq h8 vs (f'.trans ((⟨s7, fun k k1 k2 => f7.same k (by omega) (by omega)⟩ : Fm h.size r h' h7).trans (Fm.upd u8' (.inl (Nat.le_refl _))))) (fun k k1 k2 => (u8'.other _ k2).trans (f7.same k k1 (by omega))) (by rw [u8'.size]; exact s7) ht8
  -- what the loop keeps
  have Inv : ∃ Inv : Nat → Value → Heap → Prop, ∀ j v h', Inv j v h' ↔ ∃ (ts : List T) (q g e w : Nat), j + ts.length ≤ k + 1 ∧ Fm h.size r h h' ∧ h1.size ≤ h'.size ∧ Kx n h' r bv l q false g e w (if e = 0 then 0 else langN false) ∧ (∃ cs, h'[h.size]? = some (.cells cs 36 (0, 0)) ∧ cs.size = 9) ∧ Kids h' h1.size v ts ∧
      (if e = 0 then w = 0 ∧ (OwesK n h r bv l false (basL j l ts q op g) R ∨ ((l.length ≤ q ∨ isM l [92, 41] q = true) ∧ OwesK n h r bv l false (finB l ts q g) R)) else ts ≠ [] ∧ OwesK n h r bv l false (.bad e w) R) := ⟨_, fun _ _ _ => Iff.rfl⟩
  obtain ⟨Inv, hInv⟩ := Inv
  refine Join1.intro (fun v h' => Inv k v h') ?_ ?_
  · refine ris_spec c1 (by simp) ?_
    rw [boolV_bool]
    refine bcase_of (fun h94 => ?_) (fun h94 => ?_)
    · rw [if_pos h94] at hk
      have hlt := isM_lt h94
      rw [reads_nil, Tryz.fa71_1, addr_add, Nat.zero_add, c1.ld1, reads_add, wrap_n1 _ (by omega), reads_nil, Tryz.fa71_1, addr_add, Nat.zero_add]
      refine c1.goto (by omega) fun h3 f3 s3 o3 c3 => ?_
      rw [Tryz.bd36_0]
      refine push_kid (t := .node 2 .zero 0 0 0 []) (vs := reL 2 .zero 0 0 0 (.slice none 0 0)) (n := h1.size) (Kids.nil h3 _) IsRe.leaf (by omega) (by simp) fun v' h5 k5 f5 => ?_
      have s5 := (f5 r).size
      exact (hInv ..).2 ⟨_, p + 1, gr, 0, 0, by simp, f1.trans ((f3.less (by omega)).trans ((f5 r).less (by omega))), by omega, c3.still ((f5 r).less (by omega)) ((f5 h5.size).same r (by omega) (by omega)), ⟨_, ((f5 r).same _ (by omega) (by omega)).trans ((o3 _ (by omega)).trans a1.at_), rfl⟩, k5, by rw [if_pos rfl]; exact ⟨rfl, .inl hk⟩⟩
    · rw [if_neg (by rw [h94]; simp)] at hk
      exact (hInv ..).2 ⟨[], p, gr, 0, 0, by simp, f1, Nat.le_refl _, c1, ⟨_, a1.at_, rfl⟩, Kids.nil _ _, by rw [if_pos rfl]; exact ⟨rfl, .inl hk⟩⟩
  intro v0 h6 hi6
  refine Loop2.fuel (fun j v b h' => (∃ first : Bool, b = .bool first) ∧ Inv j v h') (n := k) ⟨⟨true, rfl⟩, hi6⟩ fun j v b h2 hi => ?_
  obtain ⟨⟨first, rfl⟩, hi⟩ := hi
  obtain ⟨ts, q, g, e, w, hjk, f2, s2, c2, d2, kid2, hk2⟩ := (hInv ..).1 hi
  have hr2 := c2.rlt
  by_cases he : e = 0
  rotate_left
  · rw [if_neg he] at hk2 c2
    have ex : exit59 (ptr r) (.pointer (some ⟨h.size, 0, none⟩)) v R E h2 := by
      refine out hk2.1 f2 s2 d2 (by omega) kid2 fun h8 ws f8 o8 s8 ht8 => ?_
      exact hk2.2 h8 ws _ _ _ f8 (c2.on ⟨s8, fun k k1 k2 => o8 k (by omega) (by omega)⟩ ((o8 r (by omega) (by omega)).trans c2.rd) c2.le c2.g9) (ht8.frame fun b hb _ => ⟨by omega, rfl⟩)
    refine Join0.intro (fun _ => False) ?_ (fun _ hf => hf.elim)
    refine rshut_spec c2 ?_
    rw [reads_not, boolV_bool]
    refine bcase_of (fun _ => ?_) (fun _ => ex)
    refine rbad_spec c2 ?_
    rw [reads_not, boolV_bool, decide_eq_false he, show (!!false) = false from rfl, bcase_false]
    exact ex
  subst he
  simp only [if_true] at hk2 c2
  obtain ⟨rfl, hk2⟩ := hk2
  have hq2 := c2.le
  -- nothing more here
  have stop : OwesK n h r bv l false (finB l ts q g) R → exit59 (ptr r) (.pointer (some ⟨h.size, 0, none⟩)) v R E h2 := by
    intro hk2
    unfold finB at hk2
    by_cases hts : ts = []
    · subst hts
      simp only [List.isEmpty_nil, if_true] at hk2
      unfold exit59
      rw [reads_klen kid2, reads_eq, boolV_bool]
      refine bcase_of (fun _ => ?_) (fun h0 => by simp at h0)
      rw [reads_nil, Tryz.fa71_1, addr_add, Nat.zero_add, c2.ld1]
      refine rfail_spec (e := 3) c2 (by omega) fun h7 f7 c7 => ?_
      have s7 := f7.size
      obtain ⟨cs, d2, z2⟩ := d2
      refine ret_re (t := .node 0 .zero 0 0 0 []) (Q := fun _ => False) ((f7.same h.size (by omega) (by omega)).trans d2) z2 (fun _ h => h.elim) IsRe.leaf fun h8 u8' ht => ?_
      exact hk2 h8 _ _ _ _ (f2.trans ((f7.less (by omega)).trans (Fm.upd u8' (.inl (Nat.le_refl _))))) (c7.upd u8' (by omega) (by omega)) (ht.frame fun b hb _ => hb.elim)
    · have hem : ts.isEmpty = false := by cases ts <;> simp at hts ⊢
      simp only [hem, Bool.false_eq_true, if_false] at hk2
      refine out hts f2 s2 d2 (by omega) kid2 fun h8 ws f8 o8 s8 ht8 => ?_
      exact hk2 h8 ws f8 (c2.on ⟨s8, fun k k1 k2 => o8 k (by omega) (by omega)⟩ ((o8 r (by omega) (by omega)).trans c2.rd) c2.le c2.g9) (ht8.frame fun b hb _ => ⟨by omega, rfl⟩)
  have es : signM false 41 = [92, 41] := rfl
  refine Join0.intro (fun h' => h' = h2 ∧ ¬ (l.length ≤ q ∨ isM l [92, 41] q = true)) ?_ ?_
  · refine rshut_spec c2 ?_
    rw [reads_not, boolV_bool, es]
    refine bcase_of (fun x1 => ?_) (fun x1 => ?_)
    · refine rbad_spec c2 ?_
      rw [reads_not, boolV_bool, show (!!decide ((0 : Nat) = 0)) = true from rfl, bcase_true]
      refine ⟨rfl, ?_⟩
      simp only [Bool.not_eq_true', Bool.or_eq_false_iff, decide_eq_false_iff_not] at x1
      rintro (z | z)
      · exact x1.1 z
      · rw [x1.2] at z; cases z
    · have hc : l.length ≤ q ∨ isM l [92, 41] q = true := by
        simp only [Bool.not_eq_false', Bool.or_eq_true, decide_eq_true_eq] at x1
        exact x1
      refine stop ?_
      rcases hk2 with hk2 | ⟨_, hk2⟩
      · cases j with
        | zero => unfold basL at hk2; exact hk2.elim
        | succ j => unfold basL at hk2; rw [if_pos hc] at hk2; exact hk2
      · exact hk2
  rintro h18 ⟨rfl, hcond⟩
  have hlt : q < l.length := Nat.lt_of_not_le fun x => hcond (.inl x)
  replace hk2 : OwesK n h r bv l false (basL j l ts q op g) R := hk2.resolve_right fun x => hcond x.1
  cases j with
  | zero => unfold basL at hk2; exact hk2.elim
  | succ j =>
  unfold basL at hk2
  rw [if_neg hcond] at hk2
  obtain ⟨cs, d2, z2⟩ := d2
  refine Join1.intro (fun v h' => h' = h18 ∧ v = .bool (isM l [36] q && (decide (q + 1 = l.length) || isM l [92, 41] (q + 1)))) ?_ ?_
  · refine ⟨?_, trivial⟩
    refine ris_spec c2 (by simp) ?_
    refine ⟨trivial, ?_⟩
    rw [boolV_bool]
    refine bcase_of (fun hy => ?_) (fun hy => ?_)
    · rw [hy, reads_nil, Tryz.fa71_1, addr_add, Nat.zero_add, c2.ld1, reads_add, wrap_n1 _ (by omega), reads_nil, Tryz.fa71_0, addr_add, c2.ld0, reads_blen c2.by_ Tryz.underlying29, reads_eq, dec_nn_eq, boolV_bool]
      refine bcase_of (fun he => ⟨rfl, by rw [he]; rfl⟩) (fun he => ?_)
      rw [reads_nil, Tryz.fa71_0, addr_add, c2.ld0, reads_nil, Tryz.fa71_1, addr_add, Nat.zero_add, c2.ld1, reads_add, wrap_n1 _ (by omega), reads_nil, Tryz.fa71_0, addr_add, c2.ld0, reads_blen c2.by_ Tryz.underlying29, reads_nil, Tryz.fa71_1, addr_add, Nat.zero_add, c2.ld1, reads_add, wrap_n3 _ (by omega), reads_min2]
      have em : (if ((q + 3 : Nat) : Int) < ((l.length : Nat) : Int) then ((q + 3 : Nat) : Int) else ((l.length : Nat) : Int)) = ((if l.length < q + 3 then l.length else q + 3 : Nat) : Int) := by
        split <;> split <;> first | rfl | omega
      rw [em]
      refine reads_bslice c2.by_ Tryz.underlying29 Tryz.size5 (by split <;> omega) (by split <;> omega) fun u hu => ?_
      rw [reads_bstring hu Tryz.underlying29 Tryz.underlying5 Tryz.underlying9, reads_seq, two_ahead (by omega), he, Bool.false_or]
      exact ⟨rfl, rfl⟩
    · simp only [hy, Bool.false_and, true_and]
  rintro vb h20 ⟨rfl, rfl⟩
  rw [boolV_bool]
  refine bcase_of (fun hd => ?_) (fun hd => ?_)
  · have hd : isM l [36] q = true ∧ (q + 1 = l.length ∨ isM l [92, 41] (q + 1) = true) := by simpa using hd
    rw [if_pos hd] at hk2
    rw [reads_nil, Tryz.fa71_1, addr_add, Nat.zero_add, c2.ld1, reads_add, wrap_n1 _ (by omega), reads_nil, Tryz.fa71_1, addr_add, Nat.zero_add]
    refine c2.goto (by omega) fun h21 f21 s21 o21 c21 => ?_
    rw [Tryz.bd36_0]
    refine push_kid (t := .node 3 .zero 0 0 0 []) (vs := reL 3 .zero 0 0 0 (.slice none 0 0)) (n := h1.size) (kid2.fm f21 (by omega)) IsRe.leaf (by omega) (by omega) fun v3 h31 k31 f31 => ?_
    have s31 := (f31 r).size
    refine ⟨j, by omega, ⟨false, rfl⟩, (hInv ..).2 ⟨_, q + 1, g, 0, 0, by simp; omega, f2.trans ((f21.less (by omega)).trans ((f31 r).less (by omega))), by omega, c21.still ((f31 r).less (by omega)) ((f31 h31.size).same r (by omega) (by omega)), ⟨cs, ((f31 r).same _ (by omega) (by omega)).trans ((o21 _ (by omega)).trans d2), z2⟩, k31, ?_⟩⟩
    rw [if_pos rfl]
    exact ⟨rfl, .inr ⟨hd.2.imp (fun x => by omega) id, hk2⟩⟩
  rw [if_neg (by simpa using hd)] at hk2
  -- a tree is put behind
  have more : ∀ {h' : Heap} {u : T} {ws : List Value} {q' g' e' w' : Nat}, Fm h20.size r h20 h' → IsRe h' (fun b => h20.size ≤ b) u ws → Kx n h' r bv l q' false g' e' w' (if e' = 0 then 0 else langN false) → (if e' = 0 then w' = 0 ∧ OwesK n h r bv l false (basL j l (ts ++ [u]) q' op g') R else OwesK n h r bv l false (.bad e' w') R) →
      Runs Tryz.prog (vS (Instr.buildSlice 34 1 #[(0, .agg ws.toArray)])) h' (fun t28 h34 => Runs Tryz.prog (builtin .append #[34, 34] 34 #[false, false] #[v, t28]) h34 (fun t29 h35 => ∃ j2, j2 < j + 1 ∧ (∃ first : Bool, Value.bool false = .bool first) ∧ Inv j2 t29 h35) E) E := by
    intro h' u ws q' g' e' w' f' hu c' ho
    have s' := f'.size
    have hr' := c'.rlt
    refine push_kid (kid2.fm f' (by omega)) (kid2.apart (by omega) hu) (by omega) (by omega) fun v3 h35 k35 f35 => ?_
    have s35 := (f35 r).size
    refine ⟨j, by omega, ⟨false, rfl⟩, (hInv ..).2 ⟨_, q', g', e', w', by simp; omega, f2.trans ((f'.less (by omega)).trans ((f35 r).less (by omega))), by omega, c'.still ((f35 r).less (by omega)) ((f35 h35.size).same r (by omega) (by omega)), ⟨cs, ((f35 r).same _ (by omega) (by omega)).trans ((f'.same _ (by omega) (by omega)).trans d2), z2⟩, k35, ?_⟩⟩
    split
    · rename_i x; rw [if_pos x] at ho; exact ⟨ho.1, .inl ho.2⟩
    · rename_i x; rw [if_neg x] at ho; exact ⟨by simp, ho⟩
  -- behind an atom
  have behind : ∀ {h32 : Heap} {t : T} {vs : List Value} {q' g' : Nat}, Fm h20.size r h20 h32 → Kx n h32 r bv l q' false g' 0 0 0 → IsRe h32 (fun b => h20.size ≤ b) t vs → atomM j l q op g = .ok (t, q', g') →
      CallsH Tryz.prog 62 #[ptr r, .agg vs.toArray] h32 (fun t99 h33 => Runs Tryz.prog (vS (Instr.buildSlice 34 1 #[(0, t99)])) h33 (fun t28 h34 => Runs Tryz.prog (builtin .append #[34, 34] 34 #[false, false] #[v, t28]) h34 (fun t29 h35 => ∃ j2, j2 < j + 1 ∧ (∃ first : Bool, Value.bool false = .bool first) ∧ Inv j2 t29 h35) E) E) E := by
    intro h32 t vs q' g' f32 c32 ht hm
    rw [hm] at hk2
    simp only at hk2
    have s32 := f32.size
    have hr32 := c32.rlt
    refine rtimes_spec (k := j) (Q := fun b => h20.size ≤ b ∧ b < h32.size) c32 (ht.frame fun b hb hlt => ⟨⟨hb, hlt⟩, rfl⟩) (fun x hx => by omega) ?_
    rw [timesX_bas]
    cases hm2 : timesBM j l t q' with
    | out => rw [hm2] at hk2; exact hk2.elim
    | bad e w =>
      rw [hm2] at hk2
      intro h33 ws u q2 f33 c33 ht33
      have he := timesBM_code _ hm2
      exact more (e' := e) (w' := w) (f32.trans (f33.less (by omega))) (ht33.frame fun b hb _ => ⟨by omega, rfl⟩) (by rw [if_neg he]; exact c33) (by rw [if_neg he]; exact hk2)
    | ok y =>
      obtain ⟨u, q2⟩ := y
      rw [hm2] at hk2
      simp only at hk2
      intro h33 ws f33 c33 ht33
      exact more (e' := 0) (w' := 0) (f32.trans (f33.less (by omega))) (ht33.frame fun b hb _ => ⟨by rcases hb with hb | hb; exact hb.1; omega, rfl⟩) c33 ⟨rfl, hk2⟩
  refine Join1.intro (fun v h' => h' = h20 ∧ v = .bool (first && isM l [42] q)) ?_ ?_
  · rw [boolV_bool]
    refine bcase_of (fun x => ?_) (fun x => ⟨rfl, by rw [x]; rfl⟩)
    exact ris_spec c2 (by simp) ⟨rfl, by rw [x]; rfl⟩
  rintro vb h25 ⟨rfl, rfl⟩
  rw [boolV_bool]
  refine bcase_of (fun hs => ?_) (fun _ => ?_)
  · have h42 : isM l [42] q = true := by
      simp only [Bool.and_eq_true] at hs
      exact hs.2
    have hm : ∃ j', j = j' + 1 := by
      cases j with
      | zero => unfold atomM at hk2; exact hk2.elim
      | succ j => exact ⟨j, rfl⟩
    have ha : atomM j l q op g = .ok (single 42, q + 1, g) := by
      obtain ⟨j', rfl⟩ := hm
      have hc : l[q] = 42 := by rw [at_dec hlt] at h42; exact of_decide_eq_true h42
      rw [← atom_bas (op := op) (gr := g) (k := j') hlt]
      have two : ∀ {y : UInt8}, isM l [92, y] q = false := by
        intro y
        cases e : isM l [92, y] q with
        | false => rfl
        | true =>
          have := two_one e
          rw [at_dec hlt, hc] at this
          exact absurd this (by decide)
      unfold atomR
      rw [List.getElem?_eq_getElem hlt, hc]
      have e40 : signM false 40 = [92, 40] := rfl
      have e123 : signM false 123 = [92, 123] := rfl
      rw [e40, e123]
      simp only [two]
      rfl
    rw [reads_nil, Tryz.fa71_1, addr_add, Nat.zero_add, c2.ld1, reads_add, wrap_n1 _ (by omega), reads_nil, Tryz.fa71_1, addr_add, Nat.zero_add]
    refine c2.goto (by omega) fun h26 f26 s26 o26 c26 => ?_
    refine one_spec (c := 42) fun h27 f27 => ?_
    have s27 := f27.size
    have f27' : Fm h26.size r h26 h27 := ⟨s27, fun k k1 _ => f27.same k k1 (by omega)⟩
    exact behind (t := single 42) (f26.trans (f27'.less (by omega))) (c26.still (f27'.less c26.nle) (f27.same r (by omega) (by omega))) IsRe.leaf ha
  refine hA j (by omega) (op := op) c2 hlt ?_
  cases hm : atomM j l q op g with
  | out => rw [hm] at hk2; exact hk2.elim
  | bad e w =>
    rw [hm] at hk2
    intro h32 vs t q' g' f32 c32 ht
    have s32 := f32.size
    have hr32 := c32.rlt
    have he := (codeB _).1 hm
    refine rtimes_bad (Q := fun b => h25.size ≤ b ∧ b < h32.size) c32 he (ht.frame fun b hb hlt => ⟨⟨hb, hlt⟩, rfl⟩) (fun x hx => by omega) fun h33 ws f33 c33 ht33 => ?_
    exact more (e' := e) (w' := w) (f32.trans (f33.less (by omega))) (ht33.frame fun b hb _ => ⟨hb.1, rfl⟩) (by rw [if_neg he]; exact c33) (by rw [if_neg he]; exact hk2)
  | ok x =>
    obtain ⟨t, q', g'⟩ := x
    intro h32 vs f32 c32 ht
    exact behind f32 c32 ht hm
theorem all_basR : ∀ k, k ≤ 1000000 → AtmROk k ∧ BasROk k := by
  intro k
  induction k using Nat.strongRecOn with
  | _ k ih =>
    intro hk
    refine ⟨?_, basR_spec (fun i hi => (ih i hi (by omega)).1) hk⟩
    cases k with
    | zero =>
      intro n h r bv l p op gr R E c hp hk
      unfold atomM at hk
      exact hk.elim
    | succ k =>
      intro n h r bv l p op gr R E c hp hk
      rw [← atom_bas (op := op) hp] at hk
      refine ratom_spec c hp (fun e w h => (codeB k).2.2 h) (fun t q g h => ?_) (fun _ {n h R} c2 hk2 => (ih k (by omega) (by omega)).2 c2 hk2) hk
      have es : (signM false 40).length = 2 := rfl
      rcases Nat.lt_or_ge l.length (p + 2) with hlt | hge
      · exfalso
        cases k with
        | zero => unfold basicM at h; cases h
        | succ k =>
          unfold basicM at h
          rw [if_neg (fun e => by have := isM_lt e; omega)] at h
          cases k with
          | zero => unfold basL at h; cases h
          | succ k =>
            unfold basL at h
            rw [if_pos (.inl (by omega))] at h
            cases h
      · exact ((stopB k).2.2 (by omega) h).2
end Rt
end Go.Proofs

set_option maxRecDepth 100000
namespace Go.Proofs
open Go.Vcg
namespace Rt
variable {l : List UInt8} {p : Nat}

/-! ### How many groups are open: the reference's scan -/
def stepO (l : List UInt8) (p : Nat) (d : Int) : Nat × Int :=
  match l[p]? with
  | none => (p + 1, d)
  | some c => if c = 92 then (p + 2, d) else if c = 91 then (match bracketS 4 l (p + 1) with | .ok y => (y.2, d) | _ => (p + 1, d)) else if c = 40 then (p + 1, d + 1) else if c = 41 then (p + 1, d - 1) else (p + 1, d)
inductive Scan (l : List UInt8) : Nat → Int → Nat → Int → Prop
  | refl (p : Nat) (d : Int) : Scan l p d p d
  | step {p q : Nat} {d e : Int} : p < l.length → (stepO l p d).1 ≤ l.length → Scan l (stepO l p d).1 (stepO l p d).2 q e → Scan l p d q e
theorem Scan.trans {p q r : Nat} {d e f : Int} (h : Scan l p d q e) : Scan l q e r f → Scan l p d r f := by
  induction h with
  | refl p d => exact id
  | step h1 h2 _ ih => exact fun h => .step h1 h2 (ih h)
theorem Scan.le {p q : Nat} {d e : Int} (h : Scan l p d q e) : p ≤ l.length → q ≤ l.length := by
  induction h with
  | refl p d => exact id
  | step h1 h2 _ ih => exact fun _ => ih h2
theorem stepO_gt {d : Int} (hp : p < l.length) : p < (stepO l p d).1 := by
  unfold stepO
  rw [List.getElem?_eq_getElem hp]
  simp only
  split
  · simp only; omega
  split
  · have := bracketS_end (l := l) (lang := 4) (p := p + 1) (by omega)
    cases hb : bracketS 4 l (p + 1) with
    | ok y => rw [hb] at this; simp only at this ⊢; omega
    | bad a b => simp only; omega
    | out => simp only; omega
  split
  · simp only; omega
  split <;> (simp only; omega)
theorem Scan.one {x : UInt8} {d : Int} (h : isM l [x] p = true) (hx : x ≠ 92 ∧ x ≠ 91 ∧ x ≠ 40 ∧ x ≠ 41) : Scan l p d (p + 1) d := by
  have hlt := isM_lt h
  have hg : l[p]? = some x := by rw [isM_one] at h; unfold isB at h; exact of_decide_eq_true h
  have e : stepO l p d = (p + 1, d) := by
    unfold stepO
    rw [hg]
    simp only
    rw [if_neg hx.1, if_neg hx.2.1, if_neg hx.2.2.1, if_neg hx.2.2.2]
  refine .step hlt (by rw [e]; exact hlt) ?_
  rw [e]
  exact .refl ..
theorem Scan.opens {d : Int} (h : isM l [40] p = true) : Scan l p d (p + 1) (d + 1) := by
  have hlt := isM_lt h
  have hg : l[p]? = some 40 := by rw [isM_one] at h; unfold isB at h; exact of_decide_eq_true h
  have e : stepO l p d = (p + 1, d + 1) := by
    unfold stepO
    rw [hg]
    rfl
  refine .step hlt (by rw [e]; exact hlt) ?_
  rw [e]
  exact .refl ..
theorem Scan.shuts {d : Int} (h : isM l [41] p = true) : Scan l p d (p + 1) (d - 1) := by
  have hlt := isM_lt h
  have hg : l[p]? = some 41 := by rw [isM_one] at h; unfold isB at h; exact of_decide_eq_true h
  have e : stepO l p d = (p + 1, d - 1) := by
    unfold stepO
    rw [hg]
    rfl
  refine .step hlt (by rw [e]; exact hlt) ?_
  rw [e]
  exact .refl ..
theorem Scan.esc {d : Int} {x : T × Nat} {signs : List UInt8} (h : isM l [92] p = true) (hx : escM l signs p = .ok x) : Scan l p d x.2 d := by
  have hlt := isM_lt h
  have hg : l[p]? = some 92 := by rw [isM_one] at h; unfold isB at h; exact of_decide_eq_true h
  have e : stepO l p d = (p + 2, d) := by
    unfold stepO
    rw [hg]
    rfl
  have e2 : x.2 = p + 2 ∧ p + 2 ≤ l.length := by
    unfold escM at hx
    split at hx
    · cases hx
    · rename_i c hc
      have : p + 1 < l.length := by
        apply Nat.lt_of_not_le
        intro hle
        rw [List.getElem?_eq_none hle] at hc
        cases hc
      split at hx
      · cases hx; exact ⟨rfl, this⟩
      · split at hx
        · cases hx; exact ⟨rfl, this⟩
        · cases hx
  rw [e2.1]
  refine .step hlt (by rw [e]; exact e2.2) ?_
  rw [e]
  exact .refl ..
theorem Scan.brk {d : Int} {x : T × Nat} (h : isM l [91] p = true) (hx : brkM true l (p + 1) = .ok x) : Scan l p d x.2 d := by
  have hlt := isM_lt h
  have hg : l[p]? = some 91 := by rw [isM_one] at h; unfold isB at h; exact of_decide_eq_true h
  have hend := bracketS_end (l := l) (lang := 4) (p := p + 1) hlt
  unfold brkM at hx
  have e4 : langN true = 4 := rfl
  rw [e4] at hx
  cases hb : bracketS 4 l (p + 1) with
  | out => rw [hb] at hx; cases hx
  | bad a b => rw [hb] at hx; cases hx
  | ok y =>
    rw [hb] at hx hend
    cases hx
    have e : stepO l p d = (y.2, d) := by
      unfold stepO
      rw [hg]
      simp only
      rw [if_neg (by decide), if_pos trivial, hb]
    refine .step hlt (by rw [e]; exact hend.2.2) ?_
    rw [e]
    exact .refl ..
theorem Scan.digs {d : Int} : ∀ (j : Nat) {p : Nat}, p ≤ l.length → j ≤ dlen (l.drop p) → Scan l p d (p + j) d
  | 0, p, _, _ => .refl ..
  | j + 1, p, hp, h => by
    have hle := dlen_le (l.drop p)
    rw [List.length_drop] at hle
    have hlt : p < l.length := by omega
    have hd := dlen_lt (l := l.drop p) (i := 0) (by rw [List.length_drop]; omega) (by omega)
    have hd' : isDig l[p] = true := by simpa using hd
    have e : l.drop p = l[p] :: l.drop (p + 1) := List.drop_eq_getElem_cons hlt
    have h' : j ≤ dlen (l.drop (p + 1)) := by
      rw [e, dlen, if_pos hd'] at h
      omega
    refine (Scan.one (x := l[p]) (d := d) ?_ ?_).trans (by have := Scan.digs (d := d) j (p := p + 1) hlt h'; rwa [Nat.add_assoc, Nat.add_comm 1 j] at this)
    · rw [isM_one]; unfold isB; rw [List.getElem?_eq_getElem hlt]; simp
    · unfold isDig at hd'
      simp only [Bool.and_eq_true, decide_eq_true_eq] at hd'
      refine ⟨?_, ?_, ?_, ?_⟩ <;> (intro e; rw [e] at hd'; revert hd'; decide)
theorem Scan.num {d : Int} (hp : p ≤ l.length) : Scan l p d (numR l p).2 d := Scan.digs (dlen (l.drop p)) hp (Nat.le_refl _)
theorem Scan.int {d : Int} {t : T} {frm : Nat} {x : T × Nat} (hp : p ≤ l.length) (h : intM l t frm [125] p = .ok x) : Scan l p d x.2 d := by
  have h1 := Scan.num (d := d) hp
  have l1 := h1.le hp
  unfold intM at h
  cases hs : secondR l [125] (numR l p).1 (numR l p).2 with
  | none => rw [hs] at h; cases h
  | some y =>
    rw [hs] at h
    simp only at h
    split at h
    · cases h
    rename_i hc
    simp only [not_or, not_and, Bool.not_eq_false] at hc
    cases h
    have h2 : Scan l (numR l p).2 d y.2 d := by
      unfold secondR at hs
      split at hs
      · rename_i h44
        have s44 := Scan.one (d := d) h44.2 (by decide)
        split at hs
        · cases hs; exact s44
        · split at hs
          · cases hs
          · cases hs; exact s44.trans (Scan.num (isM_lt h44.2))
      · cases hs; exact .refl ..
    exact h1.trans (h2.trans (Scan.one hc.2.1 (by decide)))
theorem Scan.times {d : Int} : ∀ (k : Nat) {e : T} {p : Nat} {x : T × Nat}, p ≤ l.length → timesLM k l e p = .ok x → Scan l p d x.2 d
  | 0, e, p, x, hp, h => by unfold timesLM at h; cases h
  | k + 1, e, p, x, hp, h => by
    unfold timesLM at h
    split at h
    · rename_i h1; exact (Scan.one h1 (by decide)).trans (Scan.times k (isM_lt h1) h)
    split at h
    · rename_i h1; exact (Scan.one h1 (by decide)).trans (Scan.times k (isM_lt h1) h)
    split at h
    · rename_i h1; exact (Scan.one h1 (by decide)).trans (Scan.times k (isM_lt h1) h)
    split at h
    · rename_i h1
      have s1 := Scan.one (d := d) h1 (by decide)
      cases hi : intM l e p [125] (p + 1) with
      | out => rw [hi] at h; cases h
      | bad a b => rw [hi] at h; cases h
      | ok y =>
        rw [hi] at h
        have s2 := Scan.int (d := d) (isM_lt h1) hi
        exact s1.trans (s2.trans (Scan.times k (s2.le (isM_lt h1)) h))
    · cases h; exact .refl ..
theorem timesLM_more : ∀ (k f : Nat) {e : T} {p : Nat}, k ≤ f → timesLM k l e p ≠ .out → timesLM f l e p = timesLM k l e p
  | 0, f, e, p, _, h => absurd (by unfold timesLM; rfl) h
  | k + 1, 0, e, p, hf, _ => by omega
  | k + 1, f + 1, e, p, hf, h => by
    unfold timesLM at h ⊢
    split
    · rename_i h1; rw [if_pos h1] at h; exact timesLM_more k f (by omega) h
    rename_i h1; rw [if_neg h1] at h
    split
    · rename_i h1; rw [if_pos h1] at h; exact timesLM_more k f (by omega) h
    rename_i h1; rw [if_neg h1] at h
    split
    · rename_i h1; rw [if_pos h1] at h; exact timesLM_more k f (by omega) h
    rename_i h1; rw [if_neg h1] at h
    split
    · rename_i h1; rw [if_pos h1] at h
      cases hi : intM l e p [125] (p + 1) with
      | out => rfl
      | bad a b => rfl
      | ok y => rw [hi] at h; exact timesLM_more k f (by omega) h
    · rfl
theorem timesLM_code {k : Nat} {e : T} {p a b : Nat} (h : timesLM k l e p = .bad a b) : a = 7 := by
  induction k generalizing e p with
  | zero => unfold timesLM at h; cases h
  | succ k ih =>
    unfold timesLM at h
    split at h
    · exact ih h
    split at h
    · exact ih h
    split at h
    · exact ih h
    split at h
    · split at h
      · exact ih h
      · rename_i hi
        cases h
        unfold intM at hi
        split at hi
        · cases hi; rfl
        · split at hi
          · cases hi; rfl
          · cases hi
      · cases h
    · cases h
end Rt
end Go.Proofs

set_option maxRecDepth 100000
namespace Go.Proofs
open Go.Vcg
namespace Rt
variable {l : List UInt8}

/-! ### What the program reads and what the reference reads -/
def RelR (l : List UInt8) (p op : Nat) (m x : Res (T × Nat × Nat)) : Prop :=
  match m with
  | .out => True
  | .ok a => x = .ok a ∧ Scan l p op a.2.1 op
  | .bad c w => ∃ c', x = .bad c' w ∧ if c' = 3 ∧ isM l [41] w = true then ∃ e : Nat, Scan l p op w e ∧ c = (if e = 0 then 9 else 3) else c = c'
theorem RelR.behind {p q op : Nat} {m x : Res (T × Nat × Nat)} (s : Scan l p op q op) (h : RelR l q op m x) : RelR l p op m x := by
  cases m with
  | out => trivial
  | ok a => exact ⟨h.1, s.trans h.2⟩
  | bad c w =>
    obtain ⟨c', h1, h2⟩ := h
    refine ⟨c', h1, ?_⟩
    split
    · rename_i hc
      rw [if_pos hc] at h2
      obtain ⟨e, h3, h4⟩ := h2
      exact ⟨e, s.trans h3, h4⟩
    · rename_i hc
      rw [if_neg hc] at h2
      exact h2
theorem RelR.bad {p op c w : Nat} (h : c ≠ 3 ∨ isM l [41] w = false) : RelR l p op (.bad c w) (.bad c w) := by
  refine ⟨c, rfl, ?_⟩
  rw [if_neg]
  rintro ⟨a, b⟩
  rcases h with h | h
  · exact h a
  · rw [h] at b; cases b
def thenR (m : Res (T × Nat × Nat)) (K : T → Nat → Nat → Res (T × Nat × Nat)) : Res (T × Nat × Nat) :=
  match m with
  | .ok (t, q, g) => K t q g
  | .bad a b => .bad a b
  | .out => .out
/-- an atom and what stands behind it -/
def pieceX (f : Nat) (l : List UInt8) (p gr : Nat) : Res (T × Nat × Nat) := thenR (atomX f l p gr) fun t p' gr' => (timesX true f l t p').with gr'
theorem piece_rel {k f p op : Nat} {m x : Res (T × Nat × Nat)} (hf : k ≤ f) (hp : p ≤ l.length) (h : RelR l p op m x) :
    RelR l p op (thenTimes k l m) (thenR x fun t p' gr' => (timesX true f l t p').with gr') := by
  cases m with
  | out => trivial
  | bad c w =>
    obtain ⟨c', h1, h2⟩ := h
    subst h1
    exact ⟨c', rfl, h2⟩
  | ok a =>
    obtain ⟨h1, s⟩ := h
    subst h1
    obtain ⟨t, q, g⟩ := a
    simp only [thenTimes, thenR, timesX_ext] at s ⊢
    cases ht : timesLM k l t q with
    | out => trivial
    | bad a b =>
      rw [timesLM_more k f hf (by rw [ht]; simp), ht]
      exact RelR.bad (.inl (by rw [timesLM_code ht]; omega))
    | ok y =>
      rw [timesLM_more k f hf (by rw [ht]; simp), ht]
      obtain ⟨u, q2⟩ := y
      exact ⟨rfl, s.trans (Scan.times k (s.le hp) ht)⟩
theorem with_rel {p op gr : Nat} {m : Res (T × Nat)} (hb : ∀ a b, m = .bad a b → a ≠ 3) (hs : ∀ x, m = .ok x → Scan l p op x.2 op) : RelR l p op (m.with gr) (m.with gr) := by
  cases m with
  | out => trivial
  | bad a b => exact RelR.bad (.inl (hb a b rfl))
  | ok x => exact ⟨rfl, hs x rfl⟩
theorem not_at {p : Nat} {x y : UInt8} (h : isM l [x] p = true) (hxy : x ≠ y) : isM l [y] p = false := by
  rw [isM_one] at h ⊢
  unfold isB at h ⊢
  rw [of_decide_eq_true h]
  simp [hxy]
theorem timesM_iff {p : Nat} : timesM l p = true ↔ isM l [123] p = true ∨ isM l [42] p = true ∨ isM l [43] p = true ∨ isM l [63] p = true := by
  unfold timesM
  simp only [Bool.or_eq_true]
  constructor
  · rintro (((h | h) | h) | h) <;> simp [h]
  · rintro (h | h | h | h) <;> simp [h]
theorem escM_code10 {p : Nat} {signs : List UInt8} {a b : Nat} (h : escM l signs p = .bad a b) : a ≠ 3 := by
  unfold escM at h
  split at h
  · cases h; omega
  · split at h
    · cases h
    · split at h
      · cases h
      · cases h; omega
theorem brkM_code8 {p : Nat} (hp : p ≤ l.length) {a b : Nat} (h : brkM true l p = .bad a b) : a ≠ 3 := by
  have := bracketS_end (l := l) (lang := langN true) hp
  unfold brkM at h
  split at h
  · cases h
  · rename_i hb
    cases h
    rw [hb] at this
    omega
  · cases h
theorem group_rel {p op gr : Nat} {m x : Res (T × Nat × Nat)} (hp : isM l [40] p = true) (hstop : ∀ t q g, x = .ok (t, q, g) → l.length ≤ q ∨ isM l [41] q = true) (h : RelR l (p + 1) (op + 1) m x) : RelR l p op (groupM l p [41] gr m) (groupR true l p gr x) := by
  have hlt := isM_lt hp
  have so : Scan l p op (p + 1) (op + 1 : Nat) := by
    have := Scan.opens (d := op) hp
    exact_mod_cast this
  unfold groupM groupR
  split
  · rename_i h9
    exact RelR.bad (.inl (by omega))
  rename_i h9
  cases m with
  | out => trivial
  | bad c w =>
    obtain ⟨c', h1, h2⟩ := h
    subst h1
    refine ⟨c', rfl, ?_⟩
    split
    · rename_i hc
      rw [if_pos hc] at h2
      obtain ⟨e, h3, h4⟩ := h2
      exact ⟨e, so.trans h3, h4⟩
    · rename_i hc
      rw [if_neg hc] at h2
      exact h2
  | ok a =>
    obtain ⟨h1, s⟩ := h
    subst h1
    obtain ⟨t, q, g⟩ := a
    simp only at s ⊢
    have hq := s.le hlt
    by_cases hl : l.length ≤ q
    · have e : q = l.length := by omega
      subst e
      rw [isM_end, if_neg (by simp), if_pos (Nat.le_refl _)]
      exact RelR.bad (.inl (by omega))
    · have h41 := (hstop t q g rfl).resolve_left hl
      rw [if_pos h41, if_neg hl]
      refine ⟨rfl, ?_⟩
      have s2 := Scan.shuts (d := (op + 1 : Nat)) h41
      have e : (((op + 1 : Nat) : Int) - 1) = (op : Nat) := by omega
      rw [e] at s2
      exact so.trans (s.trans s2)
theorem node_times {f p gr : Nat} {ts : List T} (h : timesM l p = true) : branchX (f + 2) l ts p gr = .bad 3 p := by
  have ht' := timesM_iff.1 h
  have hlt : p < l.length := by rcases ht' with h | h | h | h <;> exact isM_lt h
  have no : ∀ y : UInt8, y ≠ 123 → y ≠ 42 → y ≠ 43 → y ≠ 63 → isM l [y] p = false := by
    intro y h1 h2 h3 h4
    rcases ht' with h | h | h | h
    · exact not_at h (Ne.symm h1)
    · exact not_at h (Ne.symm h2)
    · exact not_at h (Ne.symm h3)
    · exact not_at h (Ne.symm h4)
  unfold branchX
  rw [no 124 (by decide) (by decide) (by decide) (by decide), no 41 (by decide) (by decide) (by decide) (by decide), no 94 (by decide) (by decide) (by decide) (by decide), no 36 (by decide) (by decide) (by decide) (by decide)]
  rw [if_neg (by simp; omega), if_neg (by simp)]
  unfold atomX
  rw [no 46 (by decide) (by decide) (by decide) (by decide), no 91 (by decide) (by decide) (by decide) (by decide), no 40 (by decide) (by decide) (by decide) (by decide)]
  rw [if_neg (by simp), if_neg (by simp), if_neg (by simp), if_pos ht']
theorem piece_then {f p gr : Nat} {K : T → Nat → Nat → Res (T × Nat × Nat)} : thenR (atomX f l p gr) (fun t p' gr' => match timesX true f l t p' with
        | .ok (u, p2) => K u p2 gr'
        | .bad a b => .bad a b
        | .out => .out) = thenR (pieceX f l p gr) K := by
  unfold pieceX thenR
  cases atomX f l p gr with
  | out => rfl
  | bad a b => rfl
  | ok x =>
    obtain ⟨t, q, g⟩ := x
    simp only
    cases timesX true f l t q with
    | out => rfl
    | bad a b => rfl
    | ok y => rfl
/-- what goes on behind a piece -/
theorem RelR.bind {p op : Nat} {m x : Res (T × Nat × Nat)} {K K' : T → Nat → Nat → Res (T × Nat × Nat)} (hp : p ≤ l.length) (h : RelR l p op m x) (hk : ∀ t q g, q ≤ l.length → RelR l q op (K t q g) (K' t q g)) :
    RelR l p op (thenR m K) (thenR x K') := by
  cases m with
  | out => trivial
  | bad c w =>
    obtain ⟨c', h1, h2⟩ := h
    subst h1
    exact ⟨c', rfl, h2⟩
  | ok a =>
    obtain ⟨h1, s⟩ := h
    subst h1
    obtain ⟨t, q, g⟩ := a
    exact (hk t q g (s.le hp)).behind s
theorem rel_all : ∀ (k : Nat),
    (∀ {f p op gr : Nat}, k + 1 ≤ f → p < l.length → isM l [94] p = false → isM l [36] p = false → isM l [41] p = false → RelR l p op (itemM k l p op gr) (pieceX f l p gr)) ∧
    (∀ {f p op gr : Nat} {ts : List T}, k + 1 ≤ f → p ≤ l.length → RelR l p op (branchL k l ts p op gr) (branchX f l ts p gr)) ∧
    (∀ {f p op gr : Nat} {ts : List T}, k + 1 ≤ f → p ≤ l.length → RelR l p op (altL k l ts p op gr) (if isM l [124] p then extX f l ts (p + 1) gr else .ok (joinM 5 ts, p, gr))) ∧
    (∀ {f p op gr : Nat}, k + 1 ≤ f → p ≤ l.length → RelR l p op (branchesM k l p op gr) (extX f l [] p gr)) := by
  intro k
  induction k with
  | zero =>
    refine ⟨?_, ?_, ?_, ?_⟩
    · intros; unfold itemM; trivial
    · intros; unfold branchL; trivial
    · intros; unfold altL; trivial
    · intros; unfold branchesM; trivial
  | succ k ih =>
    obtain ⟨iI, iL, iA, iB⟩ := ih
    refine ⟨?_, ?_, ?_, ?_⟩
    · intro f p op gr hf hp h94 h36 n41
      obtain ⟨f, rfl⟩ : ∃ j, f = j + 1 := ⟨f - 1, by omega⟩
      unfold itemM pieceX
      by_cases ht : timesM l p = true
      · rw [if_pos ht]
        have ht' := timesM_iff.1 ht
        have e : atomX (f + 1) l p gr = .bad 3 p := by
          unfold atomX
          rw [if_neg (by rcases ht' with h | h | h | h <;> simp [not_at h (show _ ≠ (46 : UInt8) from by decide)]),
            if_neg (by rcases ht' with h | h | h | h <;> simp [not_at h (show _ ≠ (91 : UInt8) from by decide)]),
            if_neg (by rcases ht' with h | h | h | h <;> simp [not_at h (show _ ≠ (40 : UInt8) from by decide)]), if_pos ht']
        rw [e]
        exact RelR.bad (.inr n41)
      rw [if_neg ht, if_neg (by rw [h94]; simp), if_neg (by rw [h36]; simp)]
      have ht' : ¬ (isM l [123] p = true ∨ isM l [42] p = true ∨ isM l [43] p = true ∨ isM l [63] p = true) := fun e => ht (timesM_iff.2 e)
      unfold atomX
      by_cases h40 : isM l [40] p = true
      · rw [if_pos h40, if_neg (by simp [not_at h40 (show _ ≠ (46 : UInt8) from by decide)]), if_neg (by simp [not_at h40 (show _ ≠ (91 : UInt8) from by decide)]), if_pos h40]
        exact piece_rel (k := k) (by omega) (by omega) (group_rel h40 (fun t q g h => extX_stop _ h) (iB (by omega) hp))
      rw [if_neg h40, if_neg h40, if_neg ht']
      by_cases h92 : isM l [92] p = true
      · rw [if_pos h92, if_neg (by simp [not_at h92 (show _ ≠ (46 : UInt8) from by decide)]), if_neg (by simp [not_at h92 (show _ ≠ (91 : UInt8) from by decide)]), if_pos h92]
        exact piece_rel (k := k) (by omega) (by omega) (with_rel (fun a b h => escM_code10 h) (fun x h => Scan.esc h92 h))
      rw [if_neg h92, if_neg h92]
      by_cases h46 : isM l [46] p = true
      · rw [if_pos h46, if_pos h46]
        exact piece_rel (k := k) (by omega) (by omega) (m := .ok (.node 1 anyW 0 0 0 [], p + 1, gr)) ⟨rfl, Scan.one h46 (by decide)⟩
      rw [if_neg h46, if_neg h46]
      by_cases h91 : isM l [91] p = true
      · rw [if_pos h91, if_pos h91]
        exact piece_rel (k := k) (by omega) (by omega) (with_rel (fun a b h => brkM_code8 hp h) (fun x h => Scan.brk h91 h))
      rw [if_neg h91, if_neg h91]
      have hg := List.getElem?_eq_getElem hp
      have hone : isM l [l[p]] p = true := by rw [isM_one]; unfold isB; rw [hg]; simp
      rw [hg]
      refine piece_rel (k := k) (by omega) (by omega) (m := .ok (single l[p], p + 1, gr)) ⟨rfl, Scan.one hone ⟨?_, ?_, ?_, ?_⟩⟩
      · intro e; rw [e] at hone; exact h92 hone
      · intro e; rw [e] at hone; exact h91 hone
      · intro e; rw [e] at hone; exact h40 hone
      · intro e; rw [e, n41] at hone; cases hone
    · intro f p op gr ts hf hp
      obtain ⟨f, rfl⟩ : ∃ j, f = j + 1 := ⟨f - 1, by omega⟩
      unfold branchL branchX
      by_cases hc : l.length ≤ p ∨ isM l [124] p = true ∨ isM l [41] p = true
      · rw [if_pos hc, if_pos hc]
        by_cases he : ts.isEmpty = true
        · rw [if_pos he, if_pos he]
          by_cases h41 : isM l [41] p = true
          · by_cases h0 : op = 0
            · subst h0
              rw [if_pos ⟨h41, rfl⟩]
              refine ⟨3, rfl, ?_⟩
              rw [if_pos ⟨rfl, h41⟩]
              exact ⟨0, .refl .., rfl⟩
            · rw [if_neg (fun e => h0 e.2)]
              refine ⟨3, rfl, ?_⟩
              rw [if_pos ⟨rfl, h41⟩]
              exact ⟨op, .refl .., by rw [if_neg h0]⟩
          · rw [if_neg (fun e => h41 e.1)]
            exact RelR.bad (.inr (by simpa using h41))
        · rw [if_neg he, if_neg he]
          exact ⟨rfl, .refl ..⟩
      rw [if_neg hc, if_neg hc]
      have hlt : p < l.length := Nat.lt_of_not_le fun e => hc (.inl e)
      have n41 : isM l [41] p = false := by
        cases h : isM l [41] p
        · rfl
        · exact absurd (.inr (.inr h)) hc
      -- an anchor
      have anchor : ∀ {kd : Nat} {x : UInt8}, isM l [x] p = true → x ≠ 123 → x ≠ 42 → x ≠ 43 → x ≠ 63 → (x ≠ 92 ∧ x ≠ 91 ∧ x ≠ 40 ∧ x ≠ 41) → (∀ k, itemM (k + 1) l p op gr = (anchorM l kd (p + 1)).with gr) →
          RelR l p op (match itemM k l p op gr with | .ok (t, p', gr') => branchL k l (ts ++ [t]) p' op gr' | x => x) (branchX f l (ts ++ [.node kd .zero 0 0 0 []]) (p + 1) gr) := by
        intro kd x hx _ _ _ _ hpl hit
        cases k with
        | zero => unfold itemM; trivial
        | succ k =>
          rw [hit k]
          unfold anchorM
          by_cases ht : timesM l (p + 1) = true
          · rw [if_pos ht]
            obtain ⟨f, rfl⟩ : ∃ j, f = j + 2 := ⟨f - 2, by omega⟩
            rw [node_times ht]
            exact RelR.bad (.inr (by rcases timesM_iff.1 ht with h | h | h | h <;> exact not_at h (by decide)))
          · rw [if_neg ht]
            exact (iL (by omega) hlt).behind (Scan.one hx hpl)
      by_cases h94 : isM l [94] p = true
      · rw [if_pos (.inl h94), if_neg (by simp [not_at h94 (show _ ≠ (36 : UInt8) from by decide)])]
        refine anchor h94 (by decide) (by decide) (by decide) (by decide) (by decide) fun k => ?_
        unfold itemM
        have : ¬ timesM l p = true := fun e => by rcases timesM_iff.1 e with h | h | h | h <;> (rw [not_at h94 (by decide)] at h; cases h)
        rw [if_neg this, if_pos h94]
      by_cases h36 : isM l [36] p = true
      · rw [if_pos (.inr h36), if_pos h36]
        refine anchor h36 (by decide) (by decide) (by decide) (by decide) (by decide) fun k => ?_
        unfold itemM
        have : ¬ timesM l p = true := fun e => by rcases timesM_iff.1 e with h | h | h | h <;> (rw [not_at h36 (by decide)] at h; cases h)
        rw [if_neg this, if_neg h94, if_pos h36]
      rw [if_neg (fun e => e.elim h94 h36)]
      have key : RelR l p op (thenR (itemM k l p op gr) fun t p' gr' => branchL k l (ts ++ [t]) p' op gr') (thenR (pieceX f l p gr) fun u p2 gr' => branchX f l (ts ++ [u]) p2 gr') :=
        RelR.bind hp (iI (by omega) hlt (by simpa using h94) (by simpa using h36) n41) fun t q g hq => iL (by omega) hq
      rw [← piece_then] at key
      unfold thenR at key
      revert key
      rcases itemM k l p op gr with _ | ⟨a, b⟩ | ⟨t, q, g⟩ <;> rcases atomX f l p gr with _ | ⟨a', b'⟩ | ⟨t', q', g'⟩ <;> exact id
    · intro f p op gr ts hf hp
      obtain ⟨f, rfl⟩ : ∃ j, f = j + 1 := ⟨f - 1, by omega⟩
      unfold altL extX
      by_cases h : isM l [124] p = true
      · rw [if_pos h, if_pos h]
        have key : RelR l p op (thenR (branchL k l [] (p + 1) op gr) fun t p' gr' => altL k l (ts ++ [t]) p' op gr') (thenR (branchX f l [] (p + 1) gr) fun t p' gr' => if isM l [124] p' = true then extX f l (ts ++ [t]) (p' + 1) gr' else .ok (joinM 5 (ts ++ [t]), p', gr')) :=
          (RelR.bind (isM_lt h) (iL (by omega) (isM_lt h)) fun t q g hq => iA (by omega) hq).behind (Scan.one h (by decide))
        unfold thenR at key
        revert key
        rcases branchL k l [] (p + 1) op gr with _ | ⟨a, b⟩ | ⟨t, q, g⟩ <;> rcases branchX f l [] (p + 1) gr with _ | ⟨a', b'⟩ | ⟨t', q', g'⟩ <;> exact id
      · rw [if_neg h, if_neg h]
        exact ⟨rfl, .refl ..⟩
    · intro f p op gr hf hp
      obtain ⟨f, rfl⟩ : ∃ j, f = j + 1 := ⟨f - 1, by omega⟩
      unfold branchesM extX
      have key : RelR l p op (thenR (branchL k l [] p op gr) fun t p' gr' => altL k l [t] p' op gr') (thenR (branchX f l [] p gr) fun t p' gr' => if isM l [124] p' = true then extX f l ([] ++ [t]) (p' + 1) gr' else .ok (joinM 5 ([] ++ [t]), p', gr')) :=
        RelR.bind hp (iL (by omega) hp) fun t q g hq => iA (ts := [t]) (by omega) hq
      unfold thenR at key
      revert key
      rcases branchL k l [] p op gr with _ | ⟨a, b⟩ | ⟨t, q, g⟩ <;> rcases branchX f l [] p gr with _ | ⟨a', b'⟩ | ⟨t', q', g'⟩ <;> exact id
end Rt
end Go.Proofs
