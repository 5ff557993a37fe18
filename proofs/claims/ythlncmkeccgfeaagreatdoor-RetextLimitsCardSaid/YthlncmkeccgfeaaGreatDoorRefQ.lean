/- A part of the proofs over this seat: RefQ. -/
import Derived.Test.YthlncmkeccgfeaaGreatDoorDep2
import Derived.Test.YthlncmkeccgfeaaGreatDoorTxt3
set_option linter.unusedVariables false
set_option linter.unusedSimpArgs false
set_option maxRecDepth 100000
namespace Go.Proofs
open Go.Vcg
namespace Rt
variable {l : List UInt8}

/-! ### The reference's parse -/
def openM (l : List UInt8) (at_ : Nat) : Nat → Nat → Int → Int
  | 0, _, d => d
  | f + 1, i, d => if i < at_ then openM l at_ f (stepO l i d).1 (stepO l i d).2 else d
theorem Scan.ge {p q : Nat} {d e : Int} (h : Scan l p d q e) : p ≤ q := by
  induction h with
  | refl p d => exact Nat.le_refl _
  | @step p q d e h1 h2 _ ih => have := stepO_gt (d := d) h1; omega
theorem openM_scan {p q : Nat} {d e : Int} (h : Scan l p d q e) : ∀ f, q ≤ f + p → openM l q f p d = e := by
  induction h with
  | refl p d =>
    intro f _
    cases f with
    | zero => rfl
    | succ f => unfold openM; rw [if_neg (by omega)]
  | @step p q d e h1 h2 h3 ih =>
    intro f hf
    have g1 := stepO_gt (d := d) h1
    have g2 := h3.ge
    obtain ⟨f, rfl⟩ : ∃ j, f = j + 1 := ⟨f - 1, by omega⟩
    unfold openM
    rw [if_pos (by omega)]
    exact ih f (by omega)
/-- an error of an extended text: a closing sign where nothing is open -/
def lastR (ext : Bool) (l : List UInt8) (c w : Nat) : Nat :=
  if ext = true ∧ c = 3 ∧ isM l [41] w = true ∧ ¬ 0 < openM l w l.length 0 0 then 9 else c
def parseR (f : Nat) (l : List UInt8) (ext : Bool) : Res (T × Nat × Nat) :=
  if ext = true ∧ isM l [41] 0 = true then .bad 9 0 else
    match (if ext then extX f l [] 0 0 else basicM f l 0 0 0) with
    | .ok (t, p, gr) => if l.length ≤ p then .ok (t, p, gr) else .bad 9 p
    | .bad c w => .bad (lastR ext l c w) w
    | .out => .out
theorem parseR_basic {f : Nat} : parseR f l false = wholeM f l false := by
  unfold parseR wholeM
  rw [if_neg (by simp)]
  simp only [Bool.false_eq_true, if_false]
  cases basicM f l 0 0 0 with
  | out => rfl
  | ok x => rfl
  | bad c w => simp [lastR]
theorem parseR_ext {k f : Nat} (hf : k + 3 ≤ f) (hm : wholeM (k + 2) l true ≠ .out) : parseR f l true = wholeM (k + 2) l true := by
  have hr := (rel_all (l := l) (k + 2)).2.2.2 (f := f) (p := 0) (op := 0) (gr := 0) (by omega) (by omega)
  unfold parseR wholeM at *
  simp only [if_true] at hm ⊢
  by_cases h0 : isM l [41] 0 = true
  · rw [if_pos ⟨trivial, h0⟩]
    have : branchesM (k + 2) l 0 0 0 = .bad 9 0 := by
      unfold branchesM branchL
      rw [if_pos (.inr (.inr h0)), if_pos (by rfl), if_pos ⟨h0, rfl⟩]
    rw [this]
  rw [if_neg (fun e => h0 e.2)]
  cases hb : branchesM (k + 2) l 0 0 0 with
  | out => rw [hb] at hm; exact absurd rfl hm
  | ok x =>
    rw [hb] at hr
    rw [hr.1]
  | bad c w =>
    rw [hb] at hr
    obtain ⟨c', h1, h2⟩ := hr
    rw [h1]
    simp only
    unfold lastR
    split at h2
    · rename_i hc
      obtain ⟨e, h3, h4⟩ := h2
      have hw := isM_lt hc.2
      have ho : openM l w l.length 0 0 = (e : Int) := openM_scan h3 l.length (by omega)
      rw [ho, h4]
      by_cases he : e = 0
      · subst he
        rw [if_pos ⟨rfl, hc.1, hc.2, by simp⟩]
        rfl
      · rw [if_neg (fun z => z.2.2.2 (by omega)), if_neg he, hc.1]
    · rename_i hc
      rw [if_neg (fun z => hc ⟨z.2.1, z.2.2.1⟩), h2]
def fuelR (l : List UInt8) : Nat := fuel l + 1
theorem parseR_whole (hm : wholeM (fuel l) l true ≠ .out) : parseR (fuelR l) l true = wholeM (fuel l) l true :=
  parseR_ext (k := 3 * l.length) (by unfold fuelR fuel; omega) (by unfold fuel at *; exact hm)
end Rt
end Go.Proofs

set_option maxRecDepth 100000
namespace Go.Proofs
open Go.Vcg
namespace Rt
attribute [local congr] Reads.congr ReadsS.congr pLoad.congr pLoadS.congr pStore.congr Runs.congr CallsH.congr bcase.congr boolV.congr Stable.congr pAlloc.congr
variable {n : Nat} {h : Heap} {r : Nat} {bv : Value} {l : List UInt8} {p : Nat} {ext : Bool} {gr code pos lang : Nat} {R : Value → Heap → Prop} {E : List PanicEntry → Heap → Prop}

theorem wrapI (a : Int) (h : -1000 ≤ a ∧ a ≤ 1000) : IntKind.i64.wrap a = a := by rw [IntWalk.i64_in _ (by omega)]
/-- how many groups are open -/
theorem ropen_spec {at_ : Nat} (hb : IsBytes h bv l) (hbl : ∀ b o m c, bv = .slice (some ⟨b, o, none⟩) m c → b < h.size) (hlen : l.length ≤ 256) (hat : at_ ≤ l.length)
    (hk : ∀ h', Fm h.size h.size h h' → R (.bool (decide (0 < openM l at_ l.length 0 0))) h') : CallsH Tryz.prog 42 #[bv, .int .i64 at_] h R E := by
  refine C42 ?_
  unfold S42
  obtain ⟨Z, hZ⟩ : ∃ Z, openM l at_ l.length 0 0 = Z := ⟨_, rfl⟩
  rw [hZ] at hk
  have by_ : ∀ {h'}, Fm h.size h.size h h' → IsBytes h' bv l := fun f => hb.frame fun b o k hv => f.same b (hbl b o _ k hv) (by have := hbl b o _ k hv; omega)
  refine Loop2.fuel (fun k a c h' => ∃ (i : Nat) (d : Int), a = .int .i64 d ∧ c = .int .i64 i ∧ Fm h.size h.size h h' ∧ -(i : Int) ≤ d ∧ d ≤ i ∧ i ≤ l.length + 1 ∧ at_ ≤ k + i ∧ openM l at_ k i d = Z)
    (n := l.length) ⟨0, 0, rfl, rfl, Fm.refl .., by omega, by omega, by omega, by omega, hZ⟩ fun k a c h1 hi => ?_
  obtain ⟨i, d, rfl, rfl, f1, d1, d2, hi, hat2, ho⟩ := hi
  have s1 := f1.size
  rw [reads_lt, dec_nn_lt, boolV_bool]
  refine bcase_of (fun hc => ?_) (fun hc => ?_)
  rotate_left
  · have hc := of_decide_eq_false hc
    have e : openM l at_ k i d = d := by
      cases k with
      | zero => rfl
      | succ k => unfold openM; rw [if_neg hc]
    rw [reads_gt, ← e, ho]
    exact hk h1 f1
  have hc : i < at_ := of_decide_eq_true hc
  have hlt : i < l.length := by omega
  obtain ⟨k, rfl⟩ : ∃ j, k = j + 1 := ⟨k - 1, by omega⟩
  unfold openM at ho
  rw [if_pos hc] at ho
  have hg := stepO_gt (d := d) hlt
  -- the next place
  have next : ∀ {h' : Heap} {i' : Nat} {d' : Int}, stepO l i d = (i', d') → Fm h.size h.size h h' → -(i' : Int) ≤ d' → d' ≤ i' → i' ≤ l.length + 1 → ∃ j, j < k + 1 ∧ ∃ (i : Nat) (e : Int), Value.int .i64 d' = .int .i64 e ∧ Value.int .i64 i' = .int .i64 i ∧ Fm h.size h.size h h' ∧ -(i : Int) ≤ e ∧ e ≤ i ∧ i ≤ l.length + 1 ∧ at_ ≤ j + i ∧ openM l at_ j i e = Z := by
    intro h' i' d' he f' g1 g2 g3
    rw [he] at ho hg
    exact ⟨k, by omega, i', d', rfl, rfl, f', g1, g2, g3, by simp only at hg; omega, ho⟩
  have hs : stepO l i d = if l[i] = 92 then (i + 2, d) else if l[i] = 91 then (match bracketS 4 l (i + 1) with | .ok y => (y.2, d) | _ => (i + 1, d)) else if l[i] = 40 then (i + 1, d + 1) else if l[i] = 41 then (i + 1, d - 1) else (i + 1, d) := by
    unfold stepO
    rw [List.getElem?_eq_getElem hlt] <;> rfl
  refine idx_load (by_ f1) Tryz.underlying29 Tryz.size5 Tryz.agg5 hlt ?_
  rw [reads_eq, show decide ((l[i].toNat : Int) = 92) = decide (l[i] = 92) from dec_u8_eq _ 92, boolV_bool]
  refine bcase_of (fun h92 => ?_) (fun h92 => ?_)
  · rw [if_pos (of_decide_eq_true h92)] at hs
    rw [reads_add, wrap_n1 _ (by omega), reads_add, wrap_n1 _ (by omega)]
    exact next hs f1 (by omega) (by omega) (by omega)
  rw [if_neg (of_decide_eq_false h92)] at hs
  rw [reads_eq, show decide ((l[i].toNat : Int) = 91) = decide (l[i] = 91) from dec_u8_eq _ 91, boolV_bool]
  refine bcase_of (fun h91 => ?_) (fun h91 => ?_)
  · rw [if_pos (of_decide_eq_true h91)] at hs
    rw [reads_add, wrap_n1 _ (by omega)]
    have hend := bracketS_end (l := l) (lang := 4) (p := i + 1) (by omega)
    refine rbracket_spec (lang := 4) (by_ f1) (fun b o m c e => by have := hbl b o m c e; omega) (by omega) (by omega) (.inr rfl) ?_
    cases hm : bracketS 4 l (i + 1) with
    | out => rw [hm] at hend; exact hend.elim
    | bad e w =>
      rw [hm] at hend hs
      simp only at hend hs
      intro h2 f2
      have s2 := f2.size
      rw [reads_ext0, reads_ext1, reads_ext2]
      refine alloc_rule Tryz.zero33 fun h3 a3 => alloc_rule Tryz.zero42 fun h4 a4 => ?_
      have s3 := a3.size
      have s4 := a4.size
      refine putSet (s := W4.zero) ((a4.old _ (by omega)).trans a3.at_) rfl fun h5 u5 => ?_
      have s5 := u5.size
      refine storeFull ((u5.other _ (by omega)).trans a4.at_) (xs := #[.int .i64 e, .int .i64 w, .int .i64 (4 : Nat)]) Tryz.size42 rfl flat3 fun h6 u6 => ?_
      have s6 := u6.size
      have f6 : Fm h.size h.size h h6 := f1.trans ((Fm.lift f2 (by omega) (by omega)).trans ((Fm.al a3 (by omega)).trans ((Fm.al a4 (by omega)).trans ((Fm.upd u5 (.inl (by omega))).trans (Fm.upd u6 (.inl (by omega)))))))
      rw [Tryz.fa42_0, addr_add, pLoad_one (v := .int .i64 e) Tryz.agg3 (by rw [hcell_of u6.same]; rfl), reads_eq, boolV_bool]
      refine bcase_of (fun h0 => by simp at h0; omega) (fun _ => ?_)
      rw [reads_add, wrap_n1 _ (by omega)]
      exact next hs f6 (by omega) (by omega) (by omega)
    | ok y =>
      rw [hm] at hend hs
      simp only at hend hs
      intro h2 f2
      have s2 := f2.size
      rw [reads_ext0, reads_ext1, reads_ext2]
      refine alloc_rule Tryz.zero33 fun h3 a3 => alloc_rule Tryz.zero42 fun h4 a4 => ?_
      have s3 := a3.size
      have s4 := a4.size
      refine putSet (s := y.1) ((a4.old _ (by omega)).trans a3.at_) rfl fun h5 u5 => ?_
      have s5 := u5.size
      refine storeFull ((u5.other _ (by omega)).trans a4.at_) (xs := #[.int .i64 (0 : Nat), .int .i64 (0 : Nat), .int .i64 (0 : Nat)]) Tryz.size42 rfl flat3 fun h6 u6 => ?_
      have s6 := u6.size
      have f6 : Fm h.size h.size h h6 := f1.trans ((Fm.lift f2 (by omega) (by omega)).trans ((Fm.al a3 (by omega)).trans ((Fm.al a4 (by omega)).trans ((Fm.upd u5 (.inl (by omega))).trans (Fm.upd u6 (.inl (by omega)))))))
      rw [Tryz.fa42_0, addr_add, pLoad_one (v := .int .i64 (0 : Nat)) Tryz.agg3 (by rw [hcell_of u6.same]; rfl), reads_eq, boolV_bool]
      refine bcase_of (fun _ => ?_) (fun h0 => by simp at h0)
      rw [reads_sub, wrap_s1 _ (by omega) (by omega), reads_add, wrap_n1 _ (by omega), show y.2 - 1 + 1 = y.2 from by omega]
      exact next hs f6 (by omega) (by omega) (by omega)
  rw [if_neg (of_decide_eq_false h91)] at hs
  rw [reads_eq, show decide ((l[i].toNat : Int) = 40) = decide (l[i] = 40) from dec_u8_eq _ 40, boolV_bool]
  refine bcase_of (fun h40 => ?_) (fun h40 => ?_)
  · rw [if_pos (of_decide_eq_true h40)] at hs
    rw [reads_add, wrapI _ (by omega), reads_add, wrap_n1 _ (by omega)]
    exact next hs f1 (by omega) (by omega) (by omega)
  rw [if_neg (of_decide_eq_false h40)] at hs
  rw [reads_eq, show decide ((l[i].toNat : Int) = 41) = decide (l[i] = 41) from dec_u8_eq _ 41, boolV_bool]
  refine bcase_of (fun h41 => ?_) (fun h41 => ?_)
  · rw [if_pos (of_decide_eq_true h41)] at hs
    rw [reads_sub, wrapI _ (by omega), reads_add, wrap_n1 _ (by omega)]
    exact next hs f1 (by omega) (by omega) (by omega)
  rw [if_neg (of_decide_eq_false h41)] at hs
  rw [reads_add, wrap_n1 _ (by omega)]
  exact next hs f1 (by omega) (by omega) (by omega)

/-- the reference's Parse -/
theorem rparse_spec {f : Nat} (hf : f ≤ 1000000) (hb : IsBytes h bv l) (hbl : ∀ b o m c, bv = .slice (some ⟨b, o, none⟩) m c → b < h.size) (hnot : l.length ≤ 256 → parseR f l ext ≠ .out)
    (hlong : 256 < l.length → ∀ h', Fm h.size h.size h h' → R (.tuple #[.agg (reL 0 .zero 0 0 0 (.slice none 0 0)).toArray, .int .i64 0, faultV 2 0 (langN ext)]) h')
    (hbad : l.length ≤ 256 → ∀ e w h', parseR f l ext = .bad e w → Fm h.size h.size h h' → R (.tuple #[.agg (reL 0 .zero 0 0 0 (.slice none 0 0)).toArray, .int .i64 0, faultV e w (langN ext)]) h')
    (hok : l.length ≤ 256 → ∀ t q g h' vs, parseR f l ext = .ok (t, q, g) → Fm h.size h.size h h' → IsRe h' (fun b => h.size ≤ b) t vs → R (.tuple #[.agg vs.toArray, .int .i64 g, faultV 0 0 0]) h') :
    CallsH Tryz.prog 16 #[bv, .bool ext] h R E := by
  refine C16 ?_
  unfold S16
  obtain ⟨p0, n0, c0, rfl⟩ : ∃ p n c, bv = .slice p n c := by
    rcases hb with ⟨e, _⟩ | ⟨b, o, c, e, _⟩
    · exact ⟨_, _, _, e⟩
    · exact ⟨_, _, _, e⟩
  refine alloc_rule Tryz.zero36 fun h1 a1 => alloc_rule Tryz.zero42 fun h2 a2 => ?_
  have s1 := a1.size
  have s2 := a2.size
  rw [Tryz.bd71_0_2]
  refine new_rule fun h3 a3 => ?_
  have s3 := a3.size
  have f3 : Fm h.size h2.size h h3 := (Fm.al a1 (Nat.le_refl _)).trans ((Fm.al a2 (by omega)).trans (Fm.al a3 (by omega)))
  have hb3 : IsBytes h3 (.slice p0 n0 c0) l := hb.frame fun b o k hv => f3.same b (hbl b o _ k hv) (by have := hbl b o _ k hv; omega)
  have down : ∀ {h' : Heap}, Fm h.size h2.size h h' → Fm h.size h.size h h' := fun f => ⟨f.size, fun k k1 _ => f.same k k1 (by omega)⟩
  have r4 : h3[h.size]? = some (.cells (Value.agg (reL 0 .zero 0 0 0 (.slice none 0 0)).toArray).cells 36 (0, 0)) := (a3.old _ (by omega)).trans ((a2.old _ (by omega)).trans a1.at_)
  have r6 : h3[h1.size]? = some (.cells (Value.agg #[.int .i64 0, .int .i64 0, .int .i64 0]).cells 42 (0, 0)) := (a3.old _ (by omega)).trans a2.at_
  rw [reads_blen hb3 Tryz.underlying29, reads_gt, show (256 : Int) = ((256 : Nat) : Int) from rfl, dec_nn_lt, boolV_bool]
  refine bcase_of (fun hl => ?_) (fun hl => ?_)
  · have hl := of_decide_eq_true hl
    rw [Tryz.bd36]
    have rl : ∀ {R' : Value → Heap → Prop}, R' (.int .i64 (langN ext : Nat)) h3 → CallsH Tryz.prog 35 #[ptr h2.size] h3 R' E := by
      intro R' hq
      refine C35 ?_
      unfold S35
      rw [reads_nil, Tryz.fa71_2, addr_add, Nat.zero_add, pLoad_one (v := .bool ext) Tryz.agg4 (by rw [hcell_of a3.at_]; rfl), boolV_bool]
      cases ext
      · exact hq
      · exact hq
    refine rl ?_
    refine rfault_spec fun h5 f5 => ?_
    have s5 := f5.size
    refine storeFull ((f5.same _ (by omega) (by omega)).trans r4) (xs := (reL 0 .zero 0 0 0 (.slice none 0 0)).toArray) Tryz.size36 rfl (flat_reL rfl) fun h6 u6 => ?_
    have s6 := u6.size
    refine storeFull ((u6.other _ (by omega)).trans ((f5.same _ (by omega) (by omega)).trans r6)) (xs := #[.int .i64 (2 : Nat), .int .i64 (0 : Nat), .int .i64 (langN ext : Nat)]) Tryz.size42 rfl flat3 fun h7 u7 => ?_
    have s7 := u7.size
    refine load_all ((u7.other _ (by omega)).trans u6.same) Tryz.agg36 ?_
    refine load_all u7.same Tryz.agg42 ?_
    exact hlong hl h7 (down (f3.trans ((Fm.lift f5 (by omega) (by omega)).trans ((Fm.upd u6 (.inl (by omega))).trans (Fm.upd u7 (.inl (by omega)))))))
  have hl : l.length ≤ 256 := by have := of_decide_eq_false hl; omega
  have hnot := hnot hl
  have hbad := hbad hl
  have hok := hok hl
  refine alloc_rule Tryz.zero36 fun h8 a8 => ?_
  have s8 := a8.size
  have c3 : Kx h.size h3 h2.size (.slice p0 n0 c0) l 0 ext 0 0 0 0 := ⟨a3.at_, hb3, fun b o m c e => by have := hbl b o m c e; omega, by omega, hl, by omega, by omega⟩
  have c8 := c3.al a8
  have f8 : Fm h.size h2.size h h8 := f3.trans (Fm.al a8 (by omega))
  have r4 : h8[h.size]? = some (.cells (Value.agg (reL 0 .zero 0 0 0 (.slice none 0 0)).toArray).cells 36 (0, 0)) := (a8.old _ (by omega)).trans r4
  have r6 : h8[h1.size]? = some (.cells (Value.agg #[.int .i64 0, .int .i64 0, .int .i64 0]).cells 42 (0, 0)) := (a8.old _ (by omega)).trans r6
  -- what was read
  have St : ∃ St : Prop → Heap → Prop, ∀ fin h', St fin h' ↔ ∃ (q g e w : Nat) (t : T) (vs : List Value), Fm h.size h2.size h h' ∧ Fm h3.size h2.size h8 h' ∧ h3.size < h'.size ∧ Kx h.size h' h2.size (.slice p0 n0 c0) l q ext g e w (if e = 0 then 0 else langN ext) ∧ h'[h3.size]? = some (.cells vs.toArray 36 (0, 0)) ∧ vs.length = 9 ∧
      (if e = 0 then IsRe h' (fun b => h3.size < b) t vs ∧ parseR f l ext = (if l.length ≤ q then .ok (t, q, g) else .bad 9 q) else parseR f l ext = .bad (lastR ext l e w) w) ∧ (e = 0 → w = 0 ∧ (fin → l.length ≤ q)) := ⟨_, fun _ _ => Iff.rfl⟩
  obtain ⟨St, hSt⟩ := St
  have put : ∀ {m : Res (T × Nat × Nat)}, (parseR f l ext = match m with | .ok (t, p, gr) => if l.length ≤ p then .ok (t, p, gr) else .bad 9 p | .bad c w => .bad (lastR ext l c w) w | .out => .out) → (∀ e w, m = .bad e w → e ≠ 0) →
      OwesK h.size h8 h2.size (.slice p0 n0 c0) l ext m (fun t34 h12 => pStore Tryz.prog 36 (.pointer (some ⟨h3.size, 0, none⟩)) t34 h12 fun h13 => St False h13) := by
    intro m hm hcode
    cases m with
    | out => exact (hnot hm).elim
    | bad e w =>
      intro h12 vs t q g f12 c12 ht
      have s12 := f12.size
      refine storeFull ((f12.same _ (by omega) (by omega)).trans a8.at_) (xs := vs.toArray) (by rw [Tryz.size36]; simp [ht.len]) (by simp [ht.len, Value.cells]) (by simpa using ht.flat) fun h13 u13 => ?_
      have he := hcode e w rfl
      refine (hSt ..).2 ⟨q, g, e, w, t, vs, f8.trans ((f12.less (by omega)).trans (Fm.upd u13 (.inl (by omega)))), (f12.less (by omega)).trans (Fm.upd u13 (.inl (Nat.le_refl _))), by rw [u13.size]; omega, ?_, u13.same, ht.len, by rw [if_neg he]; exact hm, fun h0 => absurd h0 he⟩
      rw [if_neg he]
      exact c12.upd u13 (by omega) (by omega)
    | ok x =>
      obtain ⟨t, q, g⟩ := x
      intro h12 vs f12 c12 ht
      simp only at c12 ht
      have s12 := f12.size
      refine storeFull ((f12.same _ (by omega) (by omega)).trans a8.at_) (xs := vs.toArray) (by rw [Tryz.size36]; simp [ht.len]) (by simp [ht.len, Value.cells]) (by simpa using ht.flat) fun h13 u13 => ?_
      exact (hSt ..).2 ⟨q, g, 0, 0, t, vs, f8.trans ((f12.less (by omega)).trans (Fm.upd u13 (.inl (by omega)))), (f12.less (by omega)).trans (Fm.upd u13 (.inl (Nat.le_refl _))), by rw [u13.size]; omega, c12.upd u13 (by omega) (by omega), u13.same, ht.len, by rw [if_pos rfl]; exact ⟨ht.frame fun b hb _ => ⟨by omega, u13.other b (by omega)⟩, hm⟩, fun _ => ⟨rfl, False.elim⟩⟩
  refine Join0.intro (St False) ?_ ?_
  · refine Join1.intro (fun v h' => h' = h8 ∧ v = .bool (ext && isM l [41] 0)) ?_ ?_
    · rw [boolV_bool]
      refine bcase_of (fun he => ?_) (fun he => ⟨rfl, by rw [he]; rfl⟩)
      rw [he]
      subst he
      exact ris_spec c8 (by simp) ⟨rfl, rfl⟩
    rintro v h10 ⟨rfl, rfl⟩
    rw [boolV_bool]
    refine bcase_of (fun h41 => ?_) (fun h41 => ?_)
    · have h41 : ext = true ∧ isM l [41] 0 = true := by simpa using h41
      refine rfail_spec (e := 9) (q := 0) c8 (by omega) fun h11 f11 c11 => ?_
      have s11 := f11.size
      refine (hSt ..).2 ⟨0, 0, 9, 0, .node 0 .zero 0 0 0 [], (reL 0 .zero 0 0 0 (.slice none 0 0)), f8.trans (f11.less (by omega)), f11.less (by omega), by omega, ?_, (f11.same _ (by omega) (by omega)).trans a8.at_, rfl, ?_, fun h0 => by omega⟩
      · rw [if_neg (by omega)]; exact c11
      · rw [if_neg (by omega)]
        unfold parseR
        rw [if_pos h41]
        unfold lastR
        rw [if_neg (by omega)]
    · have h41 : ¬ (ext = true ∧ isM l [41] 0 = true) := by simpa using h41
      have hP : ∀ {m : Res (T × Nat × Nat)}, (if ext then extX f l [] 0 0 else basicM f l 0 0 0) = m → parseR f l ext = match m with | .ok (t, p, gr) => if l.length ≤ p then .ok (t, p, gr) else .bad 9 p | .bad c w => .bad (lastR ext l c w) w | .out => .out := by
        intro m hm
        unfold parseR
        rw [if_neg h41, hm] <;> rcases m with _ | ⟨a, b⟩ | ⟨t, q, g⟩ <;> rfl
      rw [boolV_bool]
      cases ext with
      | true =>
        rw [bcase_true]
        exact (all_extX f hf).2.2 c8 (put (hP rfl) (fun e w h => (codeX f).2.2 h))
      | false =>
        rw [bcase_false]
        exact (all_basR f hf).2 (op := 0) c8 (put (hP rfl) (fun e w h => (codeB f).2.2 h))
  intro h16 hst
  refine Join0.intro (St True) ?_ ?_
  · obtain ⟨q, g, e, w, t, vs, fA, fB, sB, c, hv, hv9, hm, h0⟩ := (hSt ..).1 hst
    refine Join1.intro (fun v h' => h' = h16 ∧ v = .bool (decide (e = 0) && !decide (l.length ≤ q))) ?_ ?_
    · refine rbad_spec c ?_
      rw [reads_not, boolV_bool, Bool.not_not]
      refine bcase_of (fun he => ?_) (fun he => ⟨rfl, by rw [he]; rfl⟩)
      refine rend_spec c ?_
      rw [reads_not]
      exact ⟨rfl, by rw [he]; rfl⟩
    rintro v h19 ⟨rfl, rfl⟩
    rw [boolV_bool]
    refine bcase_of (fun hc => ?_) (fun hc => ?_)
    · have hc : e = 0 ∧ ¬ l.length ≤ q := by
        simp only [Bool.and_eq_true, decide_eq_true_eq, Bool.not_eq_true', decide_eq_false_iff_not] at hc
        exact hc
      obtain ⟨rfl, hq⟩ := hc
      obtain ⟨rfl, _⟩ := h0 rfl
      rw [if_pos rfl] at c hm
      rw [if_neg hq] at hm
      have hr19 := c.rlt
      rw [reads_nil, Tryz.fa71_1, addr_add, Nat.zero_add, c.ld1]
      refine rfail_spec (e := 9) c (by omega) fun h20 f20 c20 => ?_
      have s20 := f20.size
      refine (hSt ..).2 ⟨q, g, 9, q, t, vs, fA.trans (f20.less (by omega)), fB.trans (f20.less (by omega)), by omega, ?_, (f20.same _ (by omega) (by omega)).trans hv, hv9, ?_, fun h0 => by omega⟩
      · rw [if_neg (by omega)]; exact c20
      · rw [if_neg (by omega)]
        unfold lastR
        rw [if_neg (by omega)]
        exact hm.2
    · refine (hSt ..).2 ⟨q, g, e, w, t, vs, fA, fB, sB, c, hv, hv9, hm, fun he => ⟨(h0 he).1, fun _ => ?_⟩⟩
      subst he
      simpa using hc
  intro h21 hst
  obtain ⟨q, g, e, w, t, vs, fA, fB, sB, c, hv, hv9, hm, h0⟩ := (hSt ..).1 hst
  have r4 := (fB.same h.size (by omega) (by omega)).trans r4
  have r6 := (fB.same h1.size (by omega) (by omega)).trans r6
  refine rbad_spec c ?_
  rw [boolV_bool]
  refine bcase_of (fun he => ?_) (fun he => ?_)
  · have he : e ≠ 0 := by simpa using he
    rw [if_neg he] at c hm
    rw [reads_nil, Tryz.fa71_4, addr_add, Nat.zero_add]
    refine load_row c.rd Tryz.agg42 (by simp) ?_
    rw [show (.agg ((((#[.slice p0 n0 c0, .int .i64 q, .bool ext, .int .i64 g, .int .i64 e, .int .i64 w, .int .i64 (langN ext : Nat)] : Array Value).toList.drop 4).take 3).toArray) : Value) = .agg #[.int .i64 e, .int .i64 w, .int .i64 (langN ext : Nat)] from rfl]
    refine alloc_rule Tryz.zero42 fun h23 a23 => ?_
    have s23 := a23.size
    refine storeFull a23.at_ (xs := #[.int .i64 e, .int .i64 w, .int .i64 (langN ext : Nat)]) Tryz.size42 rfl flat3 fun h24 u24 => ?_
    have s24 := u24.size
    have f24 : Fm h21.size h2.size h21 h24 := (Fm.al a23 (Nat.le_refl _)).trans (Fm.upd u24 (.inl (Nat.le_refl _)))
    have f24' := fA.trans (f24.less (by omega))
    have by24 : IsBytes h24 (.slice p0 n0 c0) l := hb.frame fun b o k hv => f24'.same b (hbl b o _ k hv) (by have := hbl b o _ k hv; omega)
    have ld0 : ∀ {k : Value → Prop}, pLoad Tryz.prog 3 (.pointer (some ⟨h21.size, 0, none⟩)) h24 k = k (.int .i64 e) := pLoad_one Tryz.agg3 (by rw [hcell_of u24.same]; rfl)
    have ld1 : ∀ {k : Value → Prop}, pLoad Tryz.prog 3 (.pointer (some ⟨h21.size, 1, none⟩)) h24 k = k (.int .i64 w) := pLoad_one Tryz.agg3 (by rw [hcell_of u24.same]; rfl)
    refine Join0.intro (fun h' => Fm h21.size h2.size h21 h' ∧ h'[h21.size]? = some (.cells #[.int .i64 (lastR ext l e w), .int .i64 w, .int .i64 (langN ext : Nat)] 42 (0, 0))) ?_ ?_
    · have keep : ¬ (ext = true ∧ e = 3 ∧ isM l [41] w = true ∧ ¬ 0 < openM l w l.length 0 0) → ∀ {h'}, Fm h24.size h24.size h24 h' → Fm h21.size h2.size h21 h' ∧ h'[h21.size]? = some (.cells #[.int .i64 (lastR ext l e w), .int .i64 w, .int .i64 (langN ext : Nat)] 42 (0, 0)) := by
        intro hc h' f
        unfold lastR
        rw [if_neg hc]
        exact ⟨f24.trans ⟨f.size, fun k k1 k2 => f.same k (by omega) (by omega)⟩, (f.same _ (by omega) (by omega)).trans u24.same⟩
      rw [boolV_bool]
      refine bcase_of (fun hx => ?_) (fun hx => keep (fun z => by rw [hx] at z; cases z.1) (Fm.refl ..))
      rw [Tryz.fa42_0, addr_add, ld0, reads_eq, show (3 : Int) = ((3 : Nat) : Int) from rfl, dec_nn_eq, boolV_bool]
      refine bcase_of (fun h3e => ?_) (fun h3e => keep (fun z => of_decide_eq_false h3e z.2.1) (Fm.refl ..))
      rw [Tryz.fa42_1, addr_add, Nat.zero_add, ld1, reads_blen by24 Tryz.underlying29, reads_lt, dec_nn_lt, boolV_bool]
      refine bcase_of (fun hwl => ?_) (fun hwl => keep (fun z => of_decide_eq_false hwl (isM_lt z.2.2.1)) (Fm.refl ..))
      have hwl : w < l.length := of_decide_eq_true hwl
      rw [Tryz.fa42_1, addr_add, Nat.zero_add, ld1]
      refine idx_load by24 Tryz.underlying29 Tryz.size5 Tryz.agg5 hwl ?_
      rw [reads_eq, show decide ((l[w].toNat : Int) = 41) = decide (l[w] = 41) from dec_u8_eq _ 41, ← at_dec hwl, boolV_bool]
      refine bcase_of (fun h41 => ?_) (fun h41 => keep (fun z => by rw [h41] at z; cases z.2.2.1) (Fm.refl ..))
      rw [Tryz.fa42_1, addr_add, Nat.zero_add, ld1]
      refine ropen_spec by24 (fun b o m c e => by have := hbl b o m c e; omega) hl (by omega) fun h25 f25 => ?_
      have s25 := f25.size
      rw [reads_not, boolV_bool]
      refine bcase_of (fun hop => ?_) (fun hop => keep (fun z => z.2.2.2 (by simpa using hop)) f25)
      have hop : ¬ 0 < openM l w l.length 0 0 := by simpa using hop
      rw [Tryz.fa42_0, addr_add]
      refine store1 ((f25.same _ (by omega) (by omega)).trans u24.same) Tryz.size3 rfl (by simp) fun h26 u26 => ?_
      refine ⟨f24.trans ((⟨f25.size, fun k k1 k2 => f25.same k (by omega) (by omega)⟩ : Fm h21.size h2.size h24 h25).trans (Fm.upd u26 (.inl (Nat.le_refl _)))), ?_⟩
      unfold lastR
      rw [if_pos ⟨hx, of_decide_eq_true h3e, h41, hop⟩]
      exact u26.same
    rintro h27 ⟨f27, b27⟩
    have s27 := f27.size
    refine ⟨fun h' => h'[h21.size]? = some (.cells #[.int .i64 (lastR ext l e w), .int .i64 w, .int .i64 (langN ext : Nat)] 42 (0, 0)), b27, ?_⟩
    refine readsS_lift (fun h k => Tryz.bd36) ?_
    refine pLoadS_all (cs := #[.int .i64 (lastR ext l e w), .int .i64 w, .int .i64 (langN ext : Nat)]) Tryz.agg42 (fun h' hh => hh) ?_
    refine ⟨?_, trivial⟩
    refine storeFull ((f27.same _ (by omega) (by omega)).trans r4) (xs := (reL 0 .zero 0 0 0 (.slice none 0 0)).toArray) Tryz.size36 rfl (flat_reL rfl) fun h28 u28 => ⟨(u28.other _ (by omega)).trans b27, ?_, trivial⟩
    have s28 := u28.size
    refine storeFull ((u28.other _ (by omega)).trans ((f27.same _ (by omega) (by omega)).trans r6)) (xs := #[.int .i64 (lastR ext l e w), .int .i64 w, .int .i64 (langN ext : Nat)]) Tryz.size42 rfl flat3 fun h29 u29 => ⟨trivial, ?_⟩
    refine load_all ((u29.other _ (by omega)).trans u28.same) Tryz.agg36 ?_
    refine load_all u29.same Tryz.agg42 ?_
    exact hbad _ _ h29 hm (down (fA.trans ((f27.less (by omega)).trans ((Fm.upd u28 (.inl (by omega))).trans (Fm.upd u29 (.inl (by omega)))))))
  · have he : e = 0 := by simpa using he
    subst he
    obtain ⟨rfl, hq⟩ := h0 rfl
    rw [if_pos rfl] at c hm
    rw [if_pos (hq trivial)] at hm
    obtain ⟨ht, hm⟩ := hm
    refine ⟨fun h' => h'[h3.size]? = some (.cells vs.toArray 36 (0, 0)) ∧ RdrR h' h2.size (.slice p0 n0 c0) q ext g 0 0 0, ⟨hv, c.rd⟩, ?_⟩
    refine pLoadS_all (cs := vs.toArray) (by rw [Tryz.agg36]; simp [hv9]) (fun h' hh => hh.1) ?_
    refine readsS_lift (fun h k => reads_nil) ?_
    refine readsS_lift (fun h k => Tryz.fa71_3) ?_
    rw [addr_add, Nat.zero_add]
    refine pLoadS_one Tryz.agg3 (v := .int .i64 g) (fun h' hh => by rw [hcell_of hh.2]; rfl) ?_
    refine readsS_lift (fun h k => Tryz.bd42) ?_
    refine ⟨?_, trivial⟩
    refine storeFull r4 (xs := vs.toArray) (by rw [Tryz.size36]; simp [hv9]) (by simp [hv9, Value.cells, reL, W4.vals]) (by simpa using ht.flat) fun h28 u28 => ⟨⟨(u28.other _ (by omega)).trans hv, (u28.other _ (by omega)).trans c.rd⟩, ?_, trivial⟩
    have s28 := u28.size
    refine storeFull ((u28.other _ (by omega)).trans r6) (xs := #[.int .i64 (0 : Nat), .int .i64 (0 : Nat), .int .i64 (0 : Nat)]) Tryz.size42 rfl flat3 fun h29 u29 => ⟨trivial, ?_⟩
    refine load_all ((u29.other _ (by omega)).trans u28.same) (by rw [Tryz.agg36]; simp [hv9]) ?_
    refine load_all u29.same Tryz.agg42 ?_
    exact hok t q g h29 vs hm (down (fA.trans ((Fm.upd u28 (.inl (by omega))).trans (Fm.upd u29 (.inl (by omega)))))) (ht.frame fun b hb _ => ⟨by omega, (u29.other b (by omega)).trans (u28.other b (by omega))⟩)
end Rt
end Go.Proofs

set_option maxRecDepth 100000
namespace Go.Proofs
open Go.Vcg
namespace Rt
attribute [local congr] Reads.congr ReadsS.congr pLoad.congr pLoadS.congr pStore.congr Runs.congr CallsH.congr bcase.congr boolV.congr Stable.congr pAlloc.congr
variable {n : Nat} {h : Heap} {l : List UInt8} {R : Value → Heap → Prop} {E : List PanicEntry → Heap → Prop}

/-! ### A set's bytes, rising -/
def bytesG (s : W4) : Nat → Nat → List UInt8
  | 0, _ => []
  | f + 1, b => if s.has (u8 b) then u8 b :: bytesG s f (b + 1) else bytesG s f (b + 1)
theorem bytesG_len (s : W4) : ∀ (f b : Nat), (bytesG s f b).length ≤ f
  | 0, _ => Nat.le_refl _
  | f + 1, b => by
    have := bytesG_len s f (b + 1)
    unfold bytesG
    split
    · simp only [List.length_cons]; omega
    · omega
theorem rbytes_spec {s : W4} (hs : s.ok) (hk : ∀ h' v, Fm h.size h.size h h' → ByteRow h' h.size v (bytesG s 256 0) → R v h') : CallsH Tryz.prog 71 #[.agg s.vals.toArray] h R E := by
  refine C71 ?_
  unfold S71
  refine new_rule fun h1 a1 => ?_
  have s1 := a1.size
  refine Loop2.fuel (fun k v c h' => ∃ (b : Nat) (out : List UInt8), c = .int .i64 b ∧ k + b = 256 ∧ out.length ≤ b ∧ Fm h.size h.size h h' ∧ h1.size ≤ h'.size ∧ At h' h.size s ∧ ByteRow h' h1.size v out ∧ out ++ bytesG s k b = bytesG s 256 0)
    (n := 256) ⟨0, [], rfl, rfl, Nat.le_refl _, Fm.al a1 (Nat.le_refl _), Nat.le_refl _, a1.at_, ⟨rfl, .inl ⟨rfl, rfl⟩⟩, rfl⟩ fun k v c h2 hi => ?_
  obtain ⟨b, out, rfl, hkb, hout, f2, s2, a2, r2, ho⟩ := hi
  rw [reads_lt, show (256 : Int) = ((256 : Nat) : Int) from rfl, dec_nn_lt, boolV_bool]
  refine bcase_of (fun hc => ?_) (fun hc => ?_)
  rotate_left
  · have hc := of_decide_eq_false hc
    obtain rfl : k = 0 := by omega
    unfold bytesG at ho
    rw [List.append_nil] at ho
    subst ho
    exact hk h2 v f2 ⟨r2.1, r2.2.imp id (fun ⟨g, cap, cur, e1, e2, e3⟩ => ⟨g, cap, cur, e1, by omega, e3⟩)⟩
  have hc : b < 256 := of_decide_eq_true hc
  obtain ⟨k, rfl⟩ : ∃ j, k = j + 1 := ⟨k - 1, by omega⟩
  unfold bytesG at ho
  have e8 : (u8 b).toNat = b := u8_toNat hc
  refine getSet a2 ?_
  rw [reads_conv_int Tryz.underlying3 Tryz.underlying5, wrap_u8 hc]
  refine cast (congrArg (fun z : Nat => CallsH Tryz.prog 102 #[.agg s.vals.toArray, .int .u8 z] h2 _ E) e8) ?_
  refine rhas_spec hs fun h3 f3 => ?_
  have s3 := f3.size
  have r3 : ByteRow h3 h1.size v out := r2.frame fun k k1 k2 => f3.same k k2 (by omega)
  have a3 : At h3 h.size s := (f3.same _ (by have := at_lt a2; omega) (by have := at_lt a2; omega)).trans a2
  have g3 := f2.trans (Fm.lift (n := h.size) (r := h.size) f3 (by omega) (by omega))
  rw [boolV_bool]
  refine bcase_of (fun hh => ?_) (fun hh => ?_)
  · rw [if_pos hh] at ho
    rw [reads_conv_int Tryz.underlying3 Tryz.underlying5, wrap_u8 hc]
    refine cast (congrArg (fun z : Nat => Runs Tryz.prog (vS (Instr.buildSlice 29 1 #[(0, .int .u8 z)])) h3 _ E) e8) ?_
    refine push_byte r3 (by omega) (by omega) fun v' h5 r5 f5 => ?_
    have s5 := (f5 h.size).size
    rw [reads_add, wrap_n1 _ (by omega)]
    exact ⟨k, by omega, b + 1, out ++ [u8 b], rfl, by omega, by simp; omega, g3.trans ((f5 h.size).less (by omega)), by omega, ((f5 h5.size).same _ (by omega) (by omega)).trans a3, r5, by rw [List.append_assoc]; exact ho⟩
  · rw [if_neg (by rw [hh]; simp)] at ho
    rw [reads_add, wrap_n1 _ (by omega)]
    exact ⟨k, by omega, b + 1, out, rfl, by omega, by omega, g3, by omega, a3, r3, ho⟩

/-! ### A byte as two digits -/
theorem slice2_rule {x y : Value} {K : Value → Heap → Prop} (hx : x.cells.size = 1 ∧ y.cells.size = 1) (hk : ∀ h', Al h h' (.cells (x.cells ++ y.cells) 5 (0, 0)) → K (.slice (some ⟨h.size, 0, none⟩) 2 2) h') :
    Runs Tryz.prog (vS (Instr.buildSlice 29 2 #[(0, x), (1, y)])) h K E := by
  intro w hw
  subst hw
  obtain ⟨i, hi, hz, hsz, _⟩ := Tryz.info5
  have hf := Go.Great.fill_whole (s := 1) (by omega) [x, y] ((Array.range (2 * 1)).map ((Value.int .u8 0).cells[· % (Value.int .u8 0).cells.size]!)) (by
    intro v hv
    rcases List.mem_cons.1 hv with rfl | hv
    · exact hx.1
    · rw [List.mem_singleton.1 hv]; exact hx.2) (by simp)
  have e := run_buildSlice (P := Tryz.prog) w 29 5 2 #[(0, x), (1, y)] _ i _ Tryz.underlying29 hi hz (by rw [hsz]; omega) (by rw [hsz]; omega) (by rw [hsz]; exact hf)
  have er : (([x, y].flatMap fun v => v.cells.toList).toArray) = x.cells ++ y.cells := by
    apply Array.ext'
    simp
  rw [er] at e
  simp only [vS, Sem.run_bind, e, Result.andThen_ok, Sem.run_pure, uponH]
  exact ⟨⟨rfl, rfl, rfl⟩, hk _ (Al.push ..)⟩
theorem rhex_spec {c : UInt8} (hk : ∀ h', Fm h.size h.size h h' → R (str (hexM c)) h') : CallsH Tryz.prog 72 #[str [c]] h R E := by
  have hc := c.toNat_lt
  refine C72 ?_
  unfold S72
  refine runs_sbytes fun v h1 cap f1 hb hv hlt => ?_
  have s1 := f1.size
  rw [reads_blen hb Tryz.underlying29]
  have e1 : ((c.toNat : Int).fdiv (2 ^ (min ((4 : Int)).toNat IntKind.u8.bits))) = ((c.toNat / 16 : Nat) : Int) := by
    have : (2 : Int) ^ (min ((4 : Int)).toNat IntKind.u8.bits) = 16 := by decide
    rw [this, Int.fdiv_eq_ediv_of_nonneg _ (by omega)]
    rfl
  have e2 : (IntKind.u8.wrap (BitVec.ofInt IntKind.u8.bits (c.toNat : Int) &&& BitVec.ofInt IntKind.u8.bits 15).toNat) = ((c.toNat % 16 : Nat) : Int) := by
    have : ((BitVec.ofInt IntKind.u8.bits (c.toNat : Int) &&& BitVec.ofInt IntKind.u8.bits 15)).toNat = c.toNat % 16 := and15_8 hc
    rw [this, wrap_u8 (by omega)]
  refine Loop2.fuel (fun k a b h' => ∃ out : List UInt8, Fm h.size h.size h h' ∧ h1.size ≤ h'.size ∧ IsBytes h' v [c] ∧ ByteRow h' h1.size a out ∧ ((k = 1 ∧ b = .int .i64 (0 : Nat) ∧ out = []) ∨ (k = 0 ∧ b = .int .i64 (1 : Nat) ∧ out = hexM c))) (n := 1)
    ⟨[], f1, Nat.le_refl _, hb, ⟨rfl, .inl ⟨rfl, rfl⟩⟩, .inl ⟨rfl, rfl, rfl⟩⟩ fun k a b h2 hi => ?_
  obtain ⟨out, f2, s2, hb2, r2, hi⟩ := hi
  rcases hi with ⟨rfl, rfl, rfl⟩ | ⟨rfl, rfl, rfl⟩
  · rw [reads_lt, dec_nn_lt, boolV_bool, show decide (0 < [c].length) = true from rfl, bcase_true]
    have dg : ∀ (i : Nat) (hi : i < ([48, 49, 50, 51, 52, 53, 54, 55, 56, 57, 97, 98, 99, 100, 101, 102] : List UInt8).length), ([48, 49, 50, 51, 52, 53, 54, 55, 56, 57, 97, 98, 99, 100, 101, 102] : List UInt8)[i] = digitOf i := by
      intro i hi
      unfold digitOf
      rw [List.getElem?_eq_getElem hi]
      rfl
    refine idx_load (i := 0) hb2 Tryz.underlying29 Tryz.size5 Tryz.agg5 (by simp) ?_
    refine readsS_lift (v := .int .u8 (c.toNat / 16 : Nat)) (fun h k => by rw [reads_shr (by omega : ¬ (4 : Int) < 0), List.getElem_cons_zero, e1]) ?_
    refine readsS_lift (v := .int .u8 (digitOf (c.toNat / 16)).toNat) (fun h k => by rw [reads_sindexK Tryz.underlying9 (show c.toNat / 16 < ([48, 49, 50, 51, 52, 53, 54, 55, 56, 57, 97, 98, 99, 100, 101, 102] : List UInt8).length from by simp; omega), dg]) ?_
    refine readsS_lift (v := .int .u8 (c.toNat % 16 : Nat)) (fun h k => by rw [List.getElem_cons_zero, reads_and, e2]) ?_
    refine readsS_lift (v := .int .u8 (digitOf (c.toNat % 16)).toNat) (fun h k => by rw [reads_sindexK Tryz.underlying9 (show c.toNat % 16 < ([48, 49, 50, 51, 52, 53, 54, 55, 56, 57, 97, 98, 99, 100, 101, 102] : List UInt8).length from by simp; omega), dg]) ?_
    refine ⟨slice2_rule ⟨rfl, rfl⟩ fun h3 a3 => ?_, trivial⟩
    have s3 := a3.size
    refine ⟨trivial, ?_, trivial⟩
    have hb3 : IsBytes h3 (.slice (some ⟨h2.size, 0, none⟩) 2 2) (hexM c) := by
      refine .inr ⟨h2.size, 0, 2, rfl, by unfold hexM; simp, fun i hi => ?_⟩
      have hi : i < 2 := by unfold hexM at hi; simpa using hi
      rw [hcell_of a3.at_, Nat.zero_add]
      rcases (by omega : i = 0 ∨ i = 1) with rfl | rfl <;> rfl
    refine push_bytes (r2.al a3) hb3 (by omega) (by unfold hexM; simp) fun v' h4 r4 f4 => ?_
    have s4 := (f4 h.size).size
    refine ⟨trivial, ?_⟩
    rw [reads_add, wrap_n1 _ (by omega)]
    refine ⟨0, by omega, hexM c, f2.trans ((Fm.al a3 (by omega)).trans ((f4 h.size).less (by omega))), by omega, ?_, r4, .inr ⟨rfl, rfl, rfl⟩⟩
    refine hb2.frame fun b o c e => ?_
    rw [hv] at e
    injection e with e1 e2 e3
    injection e1 with e1
    injection e1 with e1
    subst e1
    exact ((f4 h4.size).same _ (by omega) (by omega)).trans (a3.old _ (by omega))
  · rw [reads_lt, dec_nn_lt, boolV_bool, show decide (1 < [c].length) = false from rfl, bcase_false, reads_bstring r2.is Tryz.underlying29 Tryz.underlying5 Tryz.underlying9]
    exact hk h2 f2
end Rt
end Go.Proofs
