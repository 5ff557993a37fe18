/- A part of the proofs over this seat: Txt3. -/
import Derived.Test.YthlncmkeccgfeaaGreatDoorTxt
import Derived.Test.YthlncmkeccgfeaaGreatDoorWrt
import Derived.Great.BuildSlice
import Derived.Lib.SlBytesConst
set_option linter.unusedVariables false
set_option linter.unusedSimpArgs false
set_option maxRecDepth 100000
namespace Go.Proofs
open Go.Vcg
namespace Rt
variable {l : List UInt8} {p : Nat} {ext : Bool} {op gr : Nat}

/-! ### Reading comes to an end -/
def T.kind : T → Nat
  | .node k _ _ _ _ _ => k
def Good (t : T) : Prop := 1 ≤ t.kind ∧ t.kind ≤ 7 ∧ fitT t
def errC (code : Nat) : Prop := code = 3 ∨ code = 5 ∨ code = 7 ∨ code = 8 ∨ code = 9 ∨ code = 10
/-- it ends behind `a`, within the text -/
def Ends1 (l : List UInt8) (a B : Nat) (m : Res (T × Nat)) : Prop :=
  match m with
  | .out => False
  | .bad code pos => errC code ∧ pos ≤ l.length
  | .ok x => Good x.1 ∧ a ≤ x.2 ∧ x.2 ≤ l.length ∧ szT x.1 + B ≤ 3 * x.2
def Ends (l : List UInt8) (a B : Nat) (m : Res (T × Nat × Nat)) : Prop :=
  match m with
  | .out => False
  | .bad code pos => errC code ∧ pos ≤ l.length
  | .ok x => Good x.1 ∧ a ≤ x.2.1 ∧ x.2.1 ≤ l.length ∧ x.2.2 ≤ 9 ∧ szT x.1 + B ≤ 3 * x.2.1
theorem Ends1.with {a B : Nat} {m : Res (T × Nat)} (h : Ends1 l a B m) (hg : gr ≤ 9) : Ends l a B (m.with gr) := by
  cases m with
  | out => exact h
  | bad c q => exact h
  | ok x => obtain ⟨t, q⟩ := x; exact ⟨h.1, h.2.1, h.2.2.1, hg, h.2.2.2⟩
theorem Ends1.down {a b B B' : Nat} {m : Res (T × Nat)} (h : Ends1 l a B m) (hb : b ≤ a) (hB : B' ≤ B) : Ends1 l b B' m := by
  cases m with
  | out => exact h
  | bad c q => exact h
  | ok x => exact ⟨h.1, Nat.le_trans hb h.2.1, h.2.2.1, by have := h.2.2.2; omega⟩
theorem szT_rep {t : T} {mn mx : Int} : szT (repM t mn mx) = szT t + 1 := by simp [repM, szT, szL]
theorem szT_leaf {k : Nat} {s : W4} : szT (.node k s 0 0 0 []) = 1 := by simp [szT, szL]
theorem szT_single {c : UInt8} : szT (single c) = 1 := szT_leaf
theorem szL_snoc : ∀ (ts : List T) (t : T), szL (ts ++ [t]) = szL ts + szT t
  | [], t => by simp [szL]
  | u :: ts, t => by simp only [List.cons_append, szL, szL_snoc ts t]; omega
theorem szT_join {k : Nat} {ts : List T} : szT (joinM k ts) ≤ szL ts + 1 := by
  unfold joinM
  split
  · simp [szL]
  · simp [szT]
theorem szT_join1 {k : Nat} {t : T} : joinM k [t] = t := rfl
theorem W4.zero_fit : W4.zero.ok := W4.zero_ok
theorem good_leaf {k : Nat} (h1 : 1 ≤ k) (h2 : k ≤ 7) {s : W4} (hs : s.ok) : Good (.node k s 0 0 0 []) := ⟨h1, h2, by simp [fitT, fitL, hs]⟩
theorem good_single {c : UInt8} : Good (single c) := good_leaf (by omega) (by omega) (setOf_ok _)
theorem good_rep {t : T} {mn mx : Int} (h : Good t) (h1 : 0 ≤ mn) (h2 : mn ≤ 255) (h3 : mx ≤ 255) : Good (repM t mn mx) := by
  refine ⟨by simp [repM, T.kind], by simp [repM, T.kind], ?_⟩
  simp only [repM, fitT, fitL]
  exact ⟨W4.zero_ok, h1, by omega, by omega, by omega, h.2.2, trivial⟩
theorem good_join {k : Nat} {ts : List T} (h1 : 1 ≤ k) (h2 : k ≤ 7) (h : ∀ t ∈ ts, Good t) : Good (joinM k ts) := by
  have hf : ∀ {us : List T}, (∀ t ∈ us, Good t) → fitL us := by
    intro us hu
    induction us with
    | nil => simp [fitL]
    | cons t us ih =>
      simp only [fitL]
      exact ⟨(hu t (List.mem_cons_self ..)).2.2, ih fun x hx => hu x (List.mem_cons_of_mem _ hx)⟩
  unfold joinM
  split
  · exact h _ (List.mem_cons_self ..)
  · refine ⟨h1, h2, ?_⟩
    simp only [fitT]
    exact ⟨W4.zero_ok, by omega, by omega, by omega, by omega, hf h⟩
theorem secondR_le {shut : List UInt8} {mn : Int} {x : Int × Nat} (hs : shut ≠ []) (hp : p ≤ l.length) (h : secondR l shut mn p = some x) : p ≤ x.2 ∧ x.2 ≤ l.length := by
  unfold secondR at h
  split at h
  · rename_i hc
    have h1 := isM_le hp hc.2
    simp only [List.length_cons, List.length_nil] at h1
    split at h
    · cases h; constructor <;> simp only <;> omega
    · split at h
      · cases h
      · have := numR_le (l := l) (p := p + 1) (by omega)
        cases h
        exact ⟨by omega, this.2⟩
  · cases h
    exact ⟨Nat.le_refl _, hp⟩
theorem intM_end {t : T} {frm : Nat} {shut : List UInt8} (hs : shut ≠ []) {B : Nat} (ht : Good t) (hf : frm ≤ l.length) (hp : p ≤ l.length) (hB : szT t + 1 + B ≤ 3 * p) : Ends1 l p B (intM l t frm shut p) := by
  have h1 := numR_le hp
  unfold intM
  split
  · exact ⟨.inr (.inr (.inl rfl)), hf⟩
  · rename_i x hx
    have h2 := secondR_le hs h1.2 hx
    split
    · exact ⟨.inr (.inr (.inl rfl)), hf⟩
    · rename_i hc
      simp only [not_or, not_and, Bool.not_eq_false] at hc
      have h3 := isM_le h2.2 hc.2.1
      exact ⟨good_rep ht (by omega) (by omega) (by omega), by simp only; omega, h3, by simp only [szT_rep]; omega⟩
theorem timesLM_end : ∀ (k : Nat) {e : T} {p B : Nat}, Good e → p ≤ l.length → l.length < k + p → szT e + B ≤ 3 * p → Ends1 l p B (timesLM k l e p)
  | 0, e, p, B, he, hp, hk, hB => by omega
  | k + 1, e, p, B, he, hp, hk, hB => by
    have up : ∀ {e' : T} {q : Nat}, Good e' → p < q → q ≤ l.length → szT e' + B ≤ 3 * q → Ends1 l p B (timesLM k l e' q) := fun h1 h2 h3 h4 => (timesLM_end k h1 h3 (by omega) h4).down (by omega) (Nat.le_refl _)
    unfold timesLM
    split
    · rename_i h; have := isM_le hp h; simp only [List.length_cons, List.length_nil] at this
      exact up (good_rep he (by omega) (by omega) (by omega)) (by omega) (by omega) (by rw [szT_rep]; omega)
    split
    · rename_i h; have := isM_le hp h; simp only [List.length_cons, List.length_nil] at this
      exact up (good_rep he (by omega) (by omega) (by omega)) (by omega) (by omega) (by rw [szT_rep]; omega)
    split
    · rename_i h; have := isM_le hp h; simp only [List.length_cons, List.length_nil] at this
      exact up (good_rep he (by omega) (by omega) (by omega)) (by omega) (by omega) (by rw [szT_rep]; omega)
    split
    · rename_i h; have := isM_le hp h; simp only [List.length_cons, List.length_nil] at this
      have := intM_end (frm := p) (shut := [125]) (p := p + 1) (B := B) (by simp) he hp (by omega) (by omega)
      unfold Ends1 at this
      split <;> rename_i e <;> rw [e] at this
      · exact up this.1 (by omega) this.2.2.1 this.2.2.2
      · exact this
      · exact this
    · exact ⟨he, Nat.le_refl _, hp, hB⟩
theorem timesBM_end : ∀ (k : Nat) {e : T} {p B : Nat}, Good e → p ≤ l.length → l.length < k + p → szT e + B ≤ 3 * p → Ends1 l p B (timesBM k l e p)
  | 0, e, p, B, he, hp, hk, hB => by omega
  | k + 1, e, p, B, he, hp, hk, hB => by
    have up : ∀ {e' : T} {q : Nat}, Good e' → p < q → q ≤ l.length → szT e' + B ≤ 3 * q → Ends1 l p B (timesBM k l e' q) := fun h1 h2 h3 h4 => (timesBM_end k h1 h3 (by omega) h4).down (by omega) (Nat.le_refl _)
    unfold timesBM
    split
    · rename_i h; have := isM_le hp h; simp only [List.length_cons, List.length_nil] at this
      exact up (good_rep he (by omega) (by omega) (by omega)) (by omega) (by omega) (by rw [szT_rep]; omega)
    split
    · rename_i h; have := isM_le hp h; simp only [List.length_cons, List.length_nil] at this
      have := intM_end (frm := p) (shut := [92, 125]) (p := p + 2) (B := B) (by simp) he hp (by omega) (by omega)
      unfold Ends1 at this
      split <;> rename_i e <;> rw [e] at this
      · exact up this.1 (by omega) this.2.2.1 this.2.2.2
      · exact this
      · exact this
    · exact ⟨he, Nat.le_refl _, hp, hB⟩
theorem escM_end {signs : List UInt8} (hp : p < l.length) : Ends1 l (p + 1) (3 * p + 2) (escM l signs p) := by
  unfold escM
  split
  · exact ⟨.inr (.inr (.inr (.inr (.inr rfl)))), by omega⟩
  · rename_i c hc
    have := (List.getElem?_eq_some_iff.1 hc).1
    split
    · exact ⟨good_single, by simp only; omega, by simp only; omega, by simp only [szT_single]; omega⟩
    · split
      · exact ⟨good_single, by simp only; omega, by simp only; omega, by simp only [szT_single]; omega⟩
      · exact ⟨.inr (.inr (.inr (.inr (.inr rfl)))), by omega⟩
theorem brkM_end (hp : p ≤ l.length) : Ends1 l p (3 * p) (brkM ext l p) := by
  have := bracketS_end (lang := langN ext) hp
  unfold brkM
  split <;> rename_i e <;> rw [e] at this
  · exact ⟨good_leaf (by omega) (by omega) this.1, by simp only; omega, this.2.2, by simp only [szT_leaf]; omega⟩
  · refine ⟨?_, this.2⟩
    rcases this.1 with h | h
    · exact .inr (.inr (.inr (.inl h)))
    · exact .inr (.inr (.inl h))
  · exact this
theorem anchorM_end {kind : Nat} (h1 : 1 ≤ kind) (h2 : kind ≤ 7) {B : Nat} (hp : p ≤ l.length) (hB : B + 1 ≤ 3 * p) : Ends1 l p B (anchorM l kind p) := by
  unfold anchorM
  split
  · exact ⟨.inl rfl, hp⟩
  · exact ⟨good_leaf h1 h2 W4.zero_ok, Nat.le_refl _, hp, by simp only [szT_leaf]; omega⟩
theorem groupM_end {start a B B' : Nat} {shut : List UInt8} {m : Res (T × Nat × Nat)} (hs : start ≤ l.length) (hg : gr ≤ 9) (hB : B' + 1 ≤ B + 3 * shut.length) (hm : gr ≠ 9 → Ends l a B m) : Ends l a B' (groupM l start shut gr m) := by
  unfold groupM
  split
  · exact ⟨.inr (.inl rfl), hs⟩
  · rename_i h9
    have hm := hm h9
    cases m with
    | out => exact hm
    | bad c q => exact hm
    | ok x =>
      obtain ⟨t, q, g⟩ := x
      obtain ⟨h1, h2, h3, h4, h5⟩ := hm
      simp only at h1 h2 h3 h4 h5
      simp only
      split
      · rename_i hc
        have := isM_le h3 hc
        refine ⟨⟨by simp [T.kind], by simp [T.kind], ?_⟩, by simp only; omega, this, h4, by simp only [szT, szL]; omega⟩
        simp only [fitT, fitL]
        exact ⟨W4.zero_ok, by omega, by omega, by omega, by omega, h1.2.2, trivial⟩
      · exact ⟨.inr (.inr (.inr (.inr (.inl rfl)))), Nat.le_refl _⟩
theorem thenTimes_end {k a b B : Nat} {m : Res (T × Nat × Nat)} (hb : b ≤ a) (ha : l.length < k + a) (hm : Ends l a B m) : Ends l b B (thenTimes k l m) := by
  unfold thenTimes
  cases m with
  | out => exact hm
  | bad c q => exact hm
  | ok x =>
    obtain ⟨t, q, g⟩ := x
    obtain ⟨h1, h2, h3, h4, h5⟩ := hm
    simp only at h1 h2 h3 h4 h5
    have := timesLM_end k h1 h3 (by omega) h5
    simp only
    unfold Ends1 at this
    cases hr : timesLM k l t q with
    | out => rw [hr] at this; exact this
    | bad c q => rw [hr] at this; exact this
    | ok y => rw [hr] at this; obtain ⟨u, q2⟩ := y; exact ⟨this.1, by have := this.2.1; simp only at this ⊢; omega, this.2.2.1, h4, this.2.2.2⟩
theorem Ends.down {a b B B' : Nat} {m : Res (T × Nat × Nat)} (h : Ends l a B m) (hb : b ≤ a) (hB : B' ≤ B) : Ends l b B' m := by
  cases m with
  | out => exact h
  | bad c q => exact h
  | ok x => exact ⟨h.1, Nat.le_trans hb h.2.1, h.2.2.1, h.2.2.2.1, by have := h.2.2.2.2; omega⟩
theorem ext_end : ∀ (f : Nat),
    (∀ {p op gr}, p < l.length → gr ≤ 9 → 3 * (l.length - p) ≤ f → Ends l (p + 1) (3 * p + 2) (itemM f l p op gr)) ∧
    (∀ {B ts p op gr}, p ≤ l.length → gr ≤ 9 → (∀ t ∈ ts, Good t) → szL ts + B ≤ 3 * p → (ts ≠ [] → szL ts + B + 2 ≤ 3 * p) → 3 * (l.length - p) + 1 ≤ f → Ends l (if ts = [] then p + 1 else p) (B + 1) (branchL f l ts p op gr)) ∧
    (∀ {B ts p op gr}, p ≤ l.length → gr ≤ 9 → (∀ t ∈ ts, Good t) → ts ≠ [] → szL ts + B + 1 ≤ 3 * p → (2 ≤ ts.length → szL ts + B + 2 ≤ 3 * p) → 3 * (l.length - p) + 1 ≤ f → Ends l p (B + 1) (altL f l ts p op gr)) ∧
    (∀ {p op gr}, p ≤ l.length → gr ≤ 9 → 3 * (l.length - p) + 2 ≤ f → Ends l (p + 1) (3 * p + 1) (branchesM f l p op gr))
  | 0 => ⟨fun _ _ _ => by omega, fun _ _ _ _ _ _ => by omega, fun _ _ _ _ _ _ _ => by omega, fun _ _ _ => by omega⟩
  | f + 1 => by
    obtain ⟨ihI, ihL, ihA, ihB⟩ := ext_end f
    refine ⟨?_, ?_, ?_, ?_⟩
    · intro p op gr hp hg hf
      have room : ∀ {x : UInt8}, isM l [x] p = true → p + 1 ≤ l.length := fun h => by have := isM_le (by omega) h; simpa using this
      unfold itemM
      split
      · exact ⟨.inl rfl, by omega⟩
      split
      · exact ((anchorM_end (by omega) (by omega) (by omega) (by omega)).with hg)
      split
      · exact ((anchorM_end (by omega) (by omega) (by omega) (by omega)).with hg)
      split
      · refine thenTimes_end (a := p + 2) (by omega) (by omega) (groupM_end (B := 3 * (p + 1) + 1) (by omega) hg (by simp; omega) fun h9 => ?_)
        exact ihB (by omega) (by omega) (by omega)
      split
      · exact thenTimes_end (a := p + 1) (by omega) (by omega) ((escM_end hp).with hg)
      split
      · exact thenTimes_end (a := p + 1) (by omega) (by omega) ⟨good_leaf (by omega) (by omega) (W4.not_ok _), Nat.le_refl _, by simp only; omega, hg, by simp only [szT_leaf]; omega⟩
      split
      · exact thenTimes_end (a := p + 1) (by omega) (by omega) (((brkM_end (by omega)).with hg).down (Nat.le_refl _) (by omega))
      · rw [List.getElem?_eq_getElem hp]
        exact thenTimes_end (a := p + 1) (by omega) (by omega) ⟨good_single, Nat.le_refl _, by simp only; omega, hg, by simp only [szT_single]; omega⟩
    · intro B ts p op gr hp hg hts hB0 hB2 hf
      have a1 : (if ts = [] then p + 1 else p) ≤ p + 1 := by split <;> omega
      have a2 : ts ≠ [] → (if ts = [] then p + 1 else p) = p := fun h => if_neg h
      generalize (if ts = [] then p + 1 else p) = a at a1 a2 ⊢
      unfold branchL
      split
      · split
        · rename_i he
          split
          · exact ⟨.inr (.inr (.inr (.inr (.inl rfl)))), hp⟩
          · exact ⟨.inl rfl, hp⟩
        · rename_i he
          rw [a2 (by intro e; rw [e] at he; simp at he)]
          exact ⟨good_join (by omega) (by omega) hts, Nat.le_refl _, hp, hg, by have := szT_join (k := 4) (ts := ts); have := hB2 (by intro e; rw [e] at he; simp at he); simp only; omega⟩
      · rename_i hc
        have hlt : p < l.length := Nat.lt_of_not_le fun e => hc (.inl e)
        have := ihI (op := op) hlt hg (by omega)
        cases hm : itemM f l p op gr with
        | out => rw [hm] at this; exact this
        | bad c q => rw [hm] at this; exact this
        | ok x =>
          rw [hm] at this
          obtain ⟨t, q, g⟩ := x
          obtain ⟨h1, h2, h3, h4, h5⟩ := this
          simp only at h1 h2 h3 h4 h5
          have := ihL (B := B) (ts := ts ++ [t]) (op := op) h3 h4 (fun u hu => by rcases List.mem_append.1 hu with h | h; exact hts u h; rw [List.mem_singleton.1 h]; exact h1) (by rw [szL_snoc]; omega) (fun _ => by rw [szL_snoc]; omega) (by omega)
          rw [if_neg (by simp)] at this
          exact this.down (by omega) (Nat.le_refl _)
    · intro B ts p op gr hp hg hts hne hB1 hB2 hf
      unfold altL
      split
      · rename_i hc
        have h1 := isM_le hp hc
        simp only [List.length_cons, List.length_nil] at h1
        have := ihL (B := 3 * (p + 1)) (ts := []) (p := p + 1) (op := op) (by omega) hg (fun _ h => by simp at h) (by simp [szL]) (fun h => absurd rfl h) (by omega)
        cases hm : branchL f l [] (p + 1) op gr with
        | out => rw [hm] at this; exact this
        | bad c q => rw [hm] at this; exact this
        | ok x =>
          rw [hm] at this
          obtain ⟨t, q, g⟩ := x
          obtain ⟨h1, h2, h3, h4, h5⟩ := this
          simp only [if_true] at h1 h2 h3 h4 h5
          exact (ihA (B := B) (ts := ts ++ [t]) (op := op) h3 h4 (fun u hu => by rcases List.mem_append.1 hu with h | h; exact hts u h; rw [List.mem_singleton.1 h]; exact h1) (by simp) (by rw [szL_snoc]; omega) (fun _ => by rw [szL_snoc]; omega) (by omega)).down (by omega) (Nat.le_refl _)
      · refine ⟨good_join (by omega) (by omega) hts, Nat.le_refl _, hp, hg, ?_⟩
        simp only
        match ts, hne with
        | [t], _ => simp only [szT_join1, szL] at *; omega
        | t :: u :: r, _ =>
          have := szT_join (k := 5) (ts := t :: u :: r)
          have := hB2 (by simp)
          omega
    · intro p op gr hp hg hf
      unfold branchesM
      have := ihL (B := 3 * p) (ts := []) (op := op) hp hg (fun _ h => by simp at h) (by simp [szL]) (fun h => absurd rfl h) (by omega)
      cases hm : branchL f l [] p op gr with
      | out => rw [hm] at this; exact this
      | bad c q => rw [hm] at this; exact this
      | ok x =>
        rw [hm] at this
        obtain ⟨t, q, g⟩ := x
        obtain ⟨h1, h2, h3, h4, h5⟩ := this
        simp only [if_true] at h1 h2 h3 h4 h5
        exact (ihA (B := 3 * p) (ts := [t]) (op := op) h3 h4 (fun u hu => by rw [List.mem_singleton.1 hu]; exact h1) (by simp) (by simp only [szL]; omega) (fun h => by simp at h) (by omega)).down (by omega) (Nat.le_refl _)
theorem finB_end {a B : Nat} {ts : List T} (hp : p ≤ l.length) (hg : gr ≤ 9) (hts : ∀ t ∈ ts, Good t) (ha : ts ≠ [] → a ≤ p) (hB : ts ≠ [] → szL ts + B + 2 ≤ 3 * p) : Ends l a (B + 1) (finB l ts p gr) := by
  unfold finB
  split
  · exact ⟨.inl rfl, hp⟩
  · rename_i he
    have hne : ts ≠ [] := by intro e; rw [e] at he; simp at he
    exact ⟨good_join (by omega) (by omega) hts, ha hne, hp, hg, by have := szT_join (k := 4) (ts := ts); have := hB hne; simp only; omega⟩
theorem bas_end : ∀ (f : Nat),
    (∀ {p op gr}, p < l.length → gr ≤ 9 → 3 * (l.length - p) ≤ f → Ends l (p + 1) (3 * p + 2) (atomM f l p op gr)) ∧
    (∀ {B ts p op gr}, p ≤ l.length → gr ≤ 9 → (∀ t ∈ ts, Good t) → szL ts + B ≤ 3 * p → (ts ≠ [] → szL ts + B + 2 ≤ 3 * p) → 3 * (l.length - p) + 1 ≤ f → Ends l (if ts = [] then p + 1 else p) (B + 1) (basL f l ts p op gr)) ∧
    (∀ {p op gr}, p ≤ l.length → gr ≤ 9 → 3 * (l.length - p) + 2 ≤ f → Ends l (p + 1) (3 * p + 1) (basicM f l p op gr))
  | 0 => ⟨fun _ _ _ => by omega, fun _ _ _ _ _ _ => by omega, fun _ _ _ => by omega⟩
  | f + 1 => by
    obtain ⟨ihA, ihL, ihB⟩ := bas_end f
    refine ⟨?_, ?_, ?_⟩
    · intro p op gr hp hg hf
      unfold atomM
      split
      · rename_i h
        have := isM_le (by omega) h
        simp only [List.length_cons, List.length_nil] at this
        refine (groupM_end (a := p + 3) (B := 3 * (p + 2) + 1) (by omega) hg (by simp; omega) fun h9 => ?_).down (by omega) (Nat.le_refl _)
        exact ihB (by omega) (by omega) (by omega)
      split
      · exact ⟨.inl rfl, by omega⟩
      split
      · exact (escM_end hp).with hg
      split
      · exact ⟨good_leaf (by omega) (by omega) (W4.not_ok _), Nat.le_refl _, by simp only; omega, hg, by simp only [szT_leaf]; omega⟩
      split
      · exact ((brkM_end (by omega)).with hg).down (Nat.le_refl _) (by omega)
      · rw [List.getElem?_eq_getElem hp]
        exact ⟨good_single, Nat.le_refl _, by simp only; omega, hg, by simp only [szT_single]; omega⟩
    · intro B ts p op gr hp hg hts hB0 hB2 hf
      have more : ∀ {t : T}, Good t → ∀ u ∈ ts ++ [t], Good u := fun ht u hu => by rcases List.mem_append.1 hu with h | h; exact hts u h; rw [List.mem_singleton.1 h]; exact ht
      have a1 : (if ts = [] then p + 1 else p) ≤ p + 1 := by split <;> omega
      have a2 : ts ≠ [] → (if ts = [] then p + 1 else p) = p := fun h => if_neg h
      generalize (if ts = [] then p + 1 else p) = a at a1 a2 ⊢
      unfold basL
      split
      · exact finB_end hp hg hts (fun h => by rw [a2 h]; exact Nat.le_refl _) hB2
      split
      · rename_i h1 h2
        have := isM_le hp h2.1
        simp only [List.length_cons, List.length_nil] at this
        exact finB_end (by omega) hg (more (good_leaf (by omega) (by omega) W4.zero_ok)) (fun _ => a1) (fun _ => by rw [szL_snoc, szT_leaf]; omega)
      · rename_i hc _
        have hlt : p < l.length := Nat.lt_of_not_le fun e => hc (.inl e)
        have := ihA (op := op) hlt hg (by omega)
        cases hm : atomM f l p op gr with
        | out => rw [hm] at this; exact this
        | bad c q => rw [hm] at this; exact this
        | ok x =>
          rw [hm] at this
          obtain ⟨t, q, g⟩ := x
          obtain ⟨h1, h2, h3, h4, h5⟩ := this
          simp only at h1 h2 h3 h4 h5
          have := timesBM_end f h1 h3 (by omega) h5
          unfold Ends1 at this
          simp only
          cases hr : timesBM f l t q with
          | out => rw [hr] at this; exact this
          | bad c q => rw [hr] at this; exact this
          | ok y =>
            rw [hr] at this
            obtain ⟨u, q2⟩ := y
            simp only at this
            have := ihL (B := B) (ts := ts ++ [u]) (op := op) this.2.2.1 h4 (more this.1) (by rw [szL_snoc]; omega) (fun _ => by rw [szL_snoc]; omega) (by omega)
            rw [if_neg (by simp)] at this
            exact this.down (by omega) (Nat.le_refl _)
    · intro p op gr hp hg hf
      unfold basicM
      split
      · rename_i h
        have := isM_le hp h
        simp only [List.length_cons, List.length_nil] at this
        have := ihL (B := 3 * p) (ts := [.node 2 .zero 0 0 0 []]) (p := p + 1) (op := op) (by omega) hg (fun u hu => by rw [List.mem_singleton.1 hu]; exact good_leaf (by omega) (by omega) W4.zero_ok) (by simp only [szL, szT_leaf]; omega) (fun _ => by simp only [szL, szT_leaf]; omega) (by omega)
        rw [if_neg (by simp)] at this
        exact this
      · have := ihL (B := 3 * p) (ts := []) (op := op) hp hg (fun _ h => by simp at h) (by simp [szL]) (fun h => absurd rfl h) (by omega)
        rw [if_pos rfl] at this
        exact this
/-- the whole of a text -/
def fuel (l : List UInt8) : Nat := 3 * l.length + 2
theorem whole_end : Ends l 1 1 (wholeM (fuel l) l ext) := by
  have h1 : Ends l 1 1 (if ext then branchesM (fuel l) l 0 0 0 else basicM (fuel l) l 0 0 0) := by
    split
    · exact (ext_end (l := l) (fuel l)).2.2.2 (by omega) (by omega) (by unfold fuel; omega)
    · exact (bas_end (l := l) (fuel l)).2.2 (by omega) (by omega) (by unfold fuel; omega)
  unfold wholeM
  cases hm : (if ext then branchesM (fuel l) l 0 0 0 else basicM (fuel l) l 0 0 0) with
  | out => rw [hm] at h1; exact h1
  | bad c q => rw [hm] at h1; exact h1
  | ok x =>
    rw [hm] at h1
    obtain ⟨t, q, g⟩ := x
    simp only
    split
    · exact h1
    · exact ⟨.inr (.inr (.inr (.inr (.inl rfl)))), h1.2.2.1⟩
end Rt
end Go.Proofs

set_option maxRecDepth 100000
namespace Go.Proofs
open Go.Vcg
namespace Rt
attribute [local congr] Reads.congr ReadsS.congr pLoad.congr pLoadS.congr pStore.congr Runs.congr CallsH.congr bcase.congr boolV.congr Stable.congr pAlloc.congr
variable {n b : Nat} {h : Heap} {l : List UInt8} {gr : Nat} {ext : Bool} {R : Value → Heap → Prop} {E : List PanicEntry → Heap → Prop}
theorem textM_ne (t : T) : textM t ≠ [] := by
  cases t with
  | node k s mn mx g ts =>
    unfold textM
    split
    · split
      · simp
      · unfold setTextM; split <;> simp
    · split
      · simp
      · split
        · simp
        · simp
def kindOf : T → Nat | .node k _ _ _ _ _ => k
theorem text_spec {t : T} {vs : List Value} {Q : Nat → Prop} (hb : h[b]? = some (.cells (vs ++ [Value.int .i64 gr, Value.bool ext]).toArray 66 (0, 0))) (ht : IsRe h Q t vs) (hk0 : kindOf t ≠ 0) (hfit : fitT t) (hlen : (textM t).length ≤ 1000000)
    (hk : ∀ h', Fm h.size h.size h h' → R (str (textM t)) h') : CallsH Tryz.prog 21 #[ptr b] h R E := by
  have hvl := ht.len
  have hcs : ((vs ++ [Value.int .i64 gr, Value.bool ext]).toArray).size = 11 := by simp [hvl]
  refine C21 ?_
  unfold S21
  refine Join0.intro (fun h' => h' = h) ?_ ?_
  · rw [Tryz.eql24_s, boolV_bool, bcase_false, reads_nil, Tryz.fa66_0, addr_add, Tryz.fa36_0, addr_add]
    cases t with
    | node k s mn mx g ts =>
      have ht' := ht
      obtain ⟨q, cc, rfl, _⟩ := kidsOf ht
      rw [pLoad_one (v := .int .i64 k) Tryz.agg3 (by rw [hcell_of hb]; rfl), reads_eq, show (0 : Int) = ((0 : Nat) : Int) from rfl, dec_nn_eq, decide_eq_false (show ¬ k = 0 from hk0), boolV_bool, bcase_false]
  rintro h1 rfl
  refine alloc_rule Tryz.zero87 fun h2 a2 => ?_
  have s2 := a2.size
  rw [reads_nil, Tryz.fa66_0, addr_add]
  refine load_row ((a2.old b (at_lt hb)).trans hb) Tryz.agg36 (by omega) ?_
  have e9 : ((vs ++ [Value.int .i64 gr, Value.bool ext]).toArray.toList.drop (0 + 0)).take 9 = vs := by
    simp [hvl, List.take_append]
  rw [e9]
  have ht2 : IsRe h2 (fun x => x < h1.size) t vs := ht.frame fun x _ hx => ⟨hx, a2.old x hx⟩
  have sb2 : SB h2 h2.size h1.size [] := ⟨by omega, .pointer none, .slice none 0 0, .inl rfl, a2.at_, Owns.nil ..⟩
  refine write_spec _ (Nat.le_refl _) hfit ht2 (fun x hx => by omega) sb2 (Nat.le_refl _) (by simpa using hlen) fun h3 sb3 f3 _ => ?_
  rw [List.nil_append] at sb3
  have s3 := f3.size
  refine string_spec sb3 (textM_ne t) hlen fun h4 s4 f4 => ?_
  exact hk h4 ⟨by omega, fun k hk _ => (f4 k (by omega)).trans ((f3.same k (by omega) (by omega)).trans (a2.old k hk))⟩

/-! ### awake -/
theorem awake_fit : fitT awakeTree := by
  have h1 : (setOf [97]).ok := foldl_ok _ W4.zero_ok
  have h2 : (setOf [98]).ok := foldl_ok _ W4.zero_ok
  simp only [awakeTree, single, fitT, fitL, h1, h2, W4.zero_ok, true_and, and_true]
  decide
theorem baseM_10_1 : baseM 10 1 = [49] := by rw [baseM_lt (by omega)]; rfl
theorem text97 : (if setOf [97] = anyW then [46] else setTextM (setOf [97])) = ([91, 54, 49, 93] : List UInt8) := by with_unfolding_all rfl
theorem text98 : (if setOf [98] = anyW then [46] else setTextM (setOf [98])) = ([91, 54, 50, 93] : List UInt8) := by with_unfolding_all rfl
theorem awake_text : textM awakeTree = [40, 114, 101, 112, 32, 49, 32, 45, 32, 40, 103, 114, 111, 117, 112, 32, 49, 32, 40, 97, 108, 116, 32, 91, 54, 49, 93, 32, 91, 54, 50, 93, 41, 41, 41] := by
  have e : numM 1 = [49] := baseM_10_1
  simp [awakeTree, single, textM, textsM, headM, e, baseM_10_1, text97, text98]
theorem runs_awake {K : Value → Heap → Prop}
    (hk : K (.slice (some ⟨h.size, 0, none⟩) 6 6) (h.push (.cells #[.int .u8 40, .int .u8 97, .int .u8 124, .int .u8 98, .int .u8 41, .int .u8 43] 5))) :
    Runs Tryz.prog (vS (Instr.buildSlice 29 6 #[(0, (.int .u8 40)), (1, (.int .u8 97)), (2, (.int .u8 124)), (3, (.int .u8 98)), (4, (.int .u8 41)), (5, (.int .u8 43))])) h K E := by
  intro w hw
  subst hw
  obtain ⟨i, hi, hz, hsz, _⟩ := Tryz.info5
  have e := run_buildSlice (P := Tryz.prog) w 29 5 6 #[(0, (.int .u8 40)), (1, (.int .u8 97)), (2, (.int .u8 124)), (3, (.int .u8 98)), (4, (.int .u8 41)), (5, (.int .u8 43))] #[.int .u8 40, .int .u8 97, .int .u8 124, .int .u8 98, .int .u8 41, .int .u8 43] i (.int .u8 0) Tryz.underlying29 hi hz (by rw [hsz]; omega) (by rw [hsz]; omega) (by
    rw [hsz]
    have e6 : (Array.range (6 * 1)).map (fun j => (Value.int IntKind.u8 0).cells[j % (Value.int IntKind.u8 0).cells.size]!) = #[.int .u8 0, .int .u8 0, .int .u8 0, .int .u8 0, .int .u8 0, .int .u8 0] := by
      apply Array.ext'
      simp [Array.toList_map, Array.toList_range, List.range, List.range.loop, Value.cells]
    rw [e6]
    rfl)
  simp only [vS, Sem.run_bind, e, Result.andThen_ok, Sem.run_pure, uponH]
  exact ⟨⟨rfl, rfl, rfl⟩, hk⟩
theorem runs_const29 {C : Array Value} {m c : Nat} {K : Value → Heap → Prop} (hk : ∀ h', Al h h' (.cells C 5 (C.size, C.size + 1)) → K (.slice (some ⟨h.size, 0, none⟩) m c) h') :
    Runs Tryz.prog (vS (convert 29 29 (.slice (some ⟨h.size, 0, none⟩) m c))) (h.push (.cells C 5)) K E := by
  intro w hw
  have e := Go.Lib.run_convert_bytes_const (P := Tryz.prog) { w with heap := h } 29 5 C m c Tryz.underlying29 Tryz.underlying5
  have ew : ({ w with heap := h } : World).alloc (.cells C 5) = w := by
    cases w; simp only [World.alloc] at hw ⊢; rw [hw]
  rw [ew] at e
  simp only [vS, Sem.run_bind, e, Result.andThen_ok, Sem.run_pure, uponH]
  exact ⟨⟨rfl, rfl, rfl⟩, hk _ (Al.push ..)⟩
theorem awake_spec {S : Glb} (gl : Gl S h) (hn : S.N ≤ h.size) (hk : ∀ h', Fm h.size h.size h h' → R (.bool true) h') : CallsH Tryz.prog 10 #[] h R E := by
  refine C10 ?_
  unfold S10
  refine runs_awake (runs_const29 fun h1 a1 => ?_)
  have s1 := a1.size
  have f1 : Fm h.size h.size h h1 := Fm.al a1 (Nat.le_refl _)
  have hby : IsBytes h1 (.slice (some ⟨h.size, 0, none⟩) 6 6) awakeText := by
    refine .inr ⟨h.size, 0, 6, rfl, by decide, fun i hi => ?_⟩
    have hi : i < 6 := hi
    rw [hcell_of a1.at_, Nat.zero_add]
    rcases (by omega : i = 0 ∨ i = 1 ∨ i = 2 ∨ i = 3 ∨ i = 4 ∨ i = 5) with rfl | rfl | rfl | rfl | rfl | rfl <;> rfl
  refine parse_ok (k := 20) (by omega) (gl.fm f1 hn hn) (by omega) hby (fun b o m c e => by injection e with e; injection e with e; injection e with e; omega) (by decide) awake_model fun h2 b vs f2 hb2 h2b ht2 => ?_
  have s2 := f2.size
  rw [reads_ext0, reads_ext1, Tryz.eql26_n, boolV_bool, bcase_true, Tryz.neq24_s, boolV_bool, bcase_true]
  refine text_spec h2b ht2 (by decide) awake_fit (by rw [awake_text]; decide) fun h3 f3 => ?_
  rw [reads_seq, awake_text]
  exact hk h3 (f1.trans ((Fm.lift f2 (by omega) (by omega)).trans (Fm.lift f3 (by omega) (by omega))))
end Rt
end Go.Proofs
