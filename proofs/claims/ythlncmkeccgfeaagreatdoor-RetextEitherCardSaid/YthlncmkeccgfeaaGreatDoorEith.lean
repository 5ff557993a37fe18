/- A part of the proofs over this seat: Eith. -/
import Derived.Test.YthlncmkeccgfeaaGreatDoorPre3
set_option linter.unusedVariables false
set_option linter.unusedSimpArgs false
set_option maxRecDepth 100000
namespace Go.Proofs
open Go.Vcg
namespace Rt

/-! ### A text with something ahead of it: how the back is read -/
variable {f0 b : List UInt8} {p : Nat} {op gr : Nat}
theorem get_suf : (f0 ++ b)[f0.length + p]? = b[p]? := by
  rw [List.getElem?_append_right (by omega)]
  congr 1
  omega
theorem drop_suf : (f0 ++ b).drop (f0.length + p) = b.drop p := by
  rw [List.drop_append, List.drop_eq_nil_of_le (by omega), List.nil_append]
  congr 1
  omega
theorem len_suf : (f0 ++ b).length = f0.length + b.length := List.length_append
theorem isM_suf {s : List UInt8} : isM (f0 ++ b) s (f0.length + p) = isM b s p := by
  unfold isM
  rw [drop_suf]
theorem isB_suf {x : UInt8} : isB (f0 ++ b) (f0.length + p) x = isB b p x := by
  unfold isB
  rw [get_suf]
theorem isB_suf1 {x : UInt8} : isB (f0 ++ b) (f0.length + p + 1) x = isB b (p + 1) x := by rw [Nat.add_assoc, isB_suf]
def shI (o : Nat) : Res ItemR → Res ItemR
  | .ok x => .ok (x.1, x.2.1, x.2.2.1, o + x.2.2.2)
  | .bad c q => .bad c (o + q)
  | .out => .out
def shW (o : Nat) : Res (W4 × Nat) → Res (W4 × Nat)
  | .ok x => .ok (x.1, o + x.2)
  | .bad c q => .bad c (o + q)
  | .out => .out
theorem itemS_suf : itemS 4 (f0 ++ b) (f0.length + p) = shI f0.length (itemS 4 b p) := by
  unfold itemS
  rw [isB_suf, isB_suf1, isB_suf1, isB_suf1, isB_suf, get_suf, show f0.length + p + 2 = f0.length + (p + 2) from by omega, drop_suf]
  by_cases h1 : (isB b p 91 && (isB b (p + 1) 46 || isB b (p + 1) 61)) = true
  · rw [if_pos h1, if_pos h1]; rfl
  rw [if_neg h1, if_neg h1]
  by_cases h2 : (isB b p 91 && isB b (p + 1) 58) = true
  · rw [if_pos h2, if_pos h2]
    cases classM (Go.Lib.cut (b.drop (p + 2)) [58, 93]).1 with
    | none => rfl
    | some s =>
      simp only
      by_cases h3 : (Go.Lib.cut (b.drop (p + 2)) [58, 93]).2.2 = true
      · rw [if_pos h3, if_pos h3]
        simp only [shI]
        congr 4
        omega
      · rw [if_neg h3, if_neg h3]; rfl
  · rw [if_neg h2, if_neg h2]
    simp only [show decide ((4 : Nat) = 2) = false from rfl, Bool.and_false, Bool.false_eq_true, if_false, shI]
    congr 4
theorem rangedS_suf {frm : Nat} {x : ItemR} : rangedS 4 (f0 ++ b) (f0.length + frm) (x.1, x.2.1, x.2.2.1, f0.length + x.2.2.2) = shW f0.length (rangedS 4 b frm x) := by
  unfold rangedS
  simp only
  rw [isB_suf, isB_suf1, show decide ((f0 ++ b).length ≤ f0.length + x.2.2.2 + 1) = decide (b.length ≤ x.2.2.2 + 1) from decide_eq_decide.2 (by rw [len_suf]; omega)]
  by_cases h1 : (!x.1 || !isB b x.2.2.2 45 || isB b (x.2.2.2 + 1) 93 || decide (b.length ≤ x.2.2.2 + 1)) = true
  · rw [if_pos h1, if_pos h1]; rfl
  rw [if_neg h1, if_neg h1, show f0.length + x.2.2.2 + 1 = f0.length + (x.2.2.2 + 1) from by omega, itemS_suf]
  cases itemS 4 b (x.2.2.2 + 1) with
  | out => rfl
  | bad c q => rfl
  | ok y =>
    simp only [shI]
    by_cases h2 : (!y.1) = true
    · rw [if_pos h2, if_pos h2]; rfl
    rw [if_neg h2, if_neg h2]
    by_cases h3 : y.2.1 < x.2.1
    · rw [if_pos h3, if_pos h3]; rfl
    · rw [if_neg h3, if_neg h3]; rfl
theorem readL_suf : ∀ (k k' : Nat) {first : Bool} {s : W4} {p : Nat}, p ≤ b.length → b.length < k + p → b.length < k' + p → readL 4 (f0 ++ b) k' first s (f0.length + p) = shW f0.length (readL 4 b k first s p)
  | 0, _, first, s, p, hp, hk, _ => by omega
  | k + 1, 0, first, s, p, hp, _, hk => by omega
  | k + 1, k' + 1, first, s, p, hp, hk, hk' => by
    rw [readL, readL, isB_suf, itemS_suf]
    by_cases h1 : b.length ≤ p
    · rw [if_pos h1, if_pos (by rw [len_suf]; omega), len_suf]; rfl
    rw [if_neg h1, if_neg (by rw [len_suf]; omega)]
    by_cases h2 : (!first && isB b p 93) = true
    · rw [if_pos h2, if_pos h2]; rfl
    rw [if_neg h2, if_neg h2]
    cases hx : itemS 4 b p with
    | out => rfl
    | bad c q => rfl
    | ok x =>
      have hle := itemS_le (by omega) hx
      simp only [shI]
      rw [rangedS_suf]
      cases hy : rangedS 4 b p x with
      | out => rfl
      | bad c q => rfl
      | ok y =>
        have h4 := rangedS_le hle.2 hy
        simp only [shW]
        exact readL_suf k k' h4.2 (by omega) (by omega)
def sh (t : T) : Nat × Nat := match t with
  | .node k _ _ _ _ ts => (k, ts.length)
/-- the same but for the place, and what a tree holds -/
def Sh (o : Nat) (m m' : Res (T × Nat)) : Prop :=
  match m, m' with
  | .ok x, .ok y => sh x.1 = sh y.1 ∧ y.2 = o + x.2
  | .bad c q, .bad c' q' => c' = c ∧ q' = o + q
  | .out, .out => True
  | _, _ => False
theorem brkM_suf (hp : p ≤ b.length) : Sh f0.length (brkM true b p) (brkM true (f0 ++ b) (f0.length + p)) := by
  have ht : turnedS 4 (f0 ++ b) (f0.length + p) = turnedS 4 b p := by
    unfold turnedS
    rw [isB_suf, isB_suf]
  have hq : (if turnedS 4 b p then p + 1 else p) ≤ b.length := by
    split
    · rename_i h
      unfold turnedS at h
      simp only [Bool.or_eq_true, Bool.and_eq_true] at h
      rcases h with h | h
      · have := isB_lt h; omega
      · have := isB_lt h.1; omega
    · exact hp
  have he : (if turnedS 4 b p then f0.length + p + 1 else f0.length + p) = f0.length + (if turnedS 4 b p then p + 1 else p) := by split <;> omega
  unfold brkM bracketS langN
  simp only [if_true]
  rw [ht, he, readL_suf (b.length + 1) ((f0 ++ b).length + 1) hq (by omega) (by rw [len_suf]; omega)]
  cases readL 4 b (b.length + 1) true .zero (if turnedS 4 b p then p + 1 else p) with
  | out => trivial
  | bad c q => exact ⟨rfl, rfl⟩
  | ok x => exact ⟨rfl, rfl⟩
theorem numR_suf : numR (f0 ++ b) (f0.length + p) = ((numR b p).1, f0.length + (numR b p).2) := by
  unfold numR
  rw [drop_suf]
  simp only [Nat.add_assoc]
theorem secondR_suf {shut : List UInt8} {mn : Int} : secondR (f0 ++ b) shut mn (f0.length + p) = (secondR b shut mn p).map fun x => (x.1, f0.length + x.2) := by
  unfold secondR
  rw [isM_suf, show f0.length + p + 1 = f0.length + (p + 1) from by omega, isM_suf, numR_suf]
  by_cases h1 : 0 ≤ mn ∧ isM b [44] p = true
  · rw [if_pos h1, if_pos h1]
    by_cases h2 : isM b shut (p + 1) = true
    · rw [if_pos h2, if_pos h2]; rfl
    rw [if_neg h2, if_neg h2]
    by_cases h3 : (numR b (p + 1)).1 < 0
    · rw [if_pos h3, if_pos h3]; rfl
    · rw [if_neg h3, if_neg h3]; rfl
  · rw [if_neg h1, if_neg h1]; rfl
theorem intM_suf {t t' : T} {frm : Nat} {shut : List UInt8} : Sh f0.length (intM b t frm shut p) (intM (f0 ++ b) t' (f0.length + frm) shut (f0.length + p)) := by
  unfold intM
  rw [numR_suf, secondR_suf]
  cases secondR b shut (numR b p).1 (numR b p).2 with
  | none => exact ⟨rfl, rfl⟩
  | some x =>
    simp only [Option.map_some]
    rw [isM_suf]
    by_cases h : (numR b p).1 < 0 ∨ isM b shut x.2 = false ∨ 255 < (numR b p).1 ∨ 255 < x.1 ∨ (0 ≤ x.1 ∧ x.1 < (numR b p).1)
    · rw [if_pos h, if_pos h]; exact ⟨rfl, rfl⟩
    · rw [if_neg h, if_neg h]; exact ⟨rfl, by simp only; omega⟩
theorem timesM_suf : timesM (f0 ++ b) (f0.length + p) = timesM b p := by
  unfold timesM
  rw [isM_suf, isM_suf, isM_suf, isM_suf]
theorem timesLM_suf : ∀ (k k' : Nat) {e e' : T} {p : Nat}, sh e = sh e' → p ≤ b.length → b.length < k + p → b.length < k' + p → Sh f0.length (timesLM k b e p) (timesLM k' (f0 ++ b) e' (f0.length + p))
  | 0, _, e, e', p, _, hp, hk, _ => by omega
  | k + 1, 0, e, e', p, _, hp, _, hk => by omega
  | k + 1, k' + 1, e, e', p, he, hp, hk, hk' => by
    unfold timesLM
    rw [isM_suf, isM_suf, isM_suf, isM_suf, show f0.length + p + 1 = f0.length + (p + 1) from by omega]
    by_cases h1 : isM b [42] p = true
    · have := isM_lt h1
      rw [if_pos h1, if_pos h1]
      exact timesLM_suf k k' rfl (by omega) (by omega) (by omega)
    rw [if_neg h1, if_neg h1]
    by_cases h2 : isM b [43] p = true
    · have := isM_lt h2
      rw [if_pos h2, if_pos h2]
      exact timesLM_suf k k' rfl (by omega) (by omega) (by omega)
    rw [if_neg h2, if_neg h2]
    by_cases h3 : isM b [63] p = true
    · have := isM_lt h3
      rw [if_pos h3, if_pos h3]
      exact timesLM_suf k k' rfl (by omega) (by omega) (by omega)
    rw [if_neg h3, if_neg h3]
    by_cases h4 : isM b [123] p = true
    · have hlt := isM_lt h4
      rw [if_pos h4, if_pos h4]
      have hi := intM_suf (f0 := f0) (b := b) (t := e) (t' := e') (frm := p) (shut := [125]) (p := p + 1)
      cases h5 : intM b e p [125] (p + 1) with
      | out =>
        rw [h5] at hi
        cases h6 : intM (f0 ++ b) e' (f0.length + p) [125] (f0.length + (p + 1)) with
        | out => trivial
        | bad c q => rw [h6] at hi; exact hi.elim
        | ok y => rw [h6] at hi; exact hi.elim
      | bad c q =>
        rw [h5] at hi
        cases h6 : intM (f0 ++ b) e' (f0.length + p) [125] (f0.length + (p + 1)) with
        | out => rw [h6] at hi; exact hi.elim
        | bad c q => rw [h6] at hi; exact hi
        | ok y => rw [h6] at hi; exact hi.elim
      | ok x =>
        rw [h5] at hi
        have hle := intM_le (by simp) (by omega) h5
        cases h6 : intM (f0 ++ b) e' (f0.length + p) [125] (f0.length + (p + 1)) with
        | out => rw [h6] at hi; exact hi.elim
        | bad c q => rw [h6] at hi; exact hi.elim
        | ok y =>
          rw [h6] at hi
          obtain ⟨u, q⟩ := y
          obtain ⟨g1, g2⟩ := hi
          simp only at g1 g2
          subst g2
          exact timesLM_suf k k' g1 hle.2.1 (by omega) (by omega)
    · rw [if_neg h4, if_neg h4]
      exact ⟨he, rfl⟩
theorem anchorM_suf {kind : Nat} : Sh f0.length (anchorM b kind p) (anchorM (f0 ++ b) kind (f0.length + p)) := by
  unfold anchorM
  rw [timesM_suf]
  by_cases h : timesM b p = true
  · rw [if_pos h, if_pos h]; exact ⟨rfl, rfl⟩
  · rw [if_neg h, if_neg h]; exact ⟨rfl, rfl⟩
theorem escM_suf {signs : List UInt8} : Sh f0.length (escM b signs p) (escM (f0 ++ b) signs (f0.length + p)) := by
  unfold escM
  rw [show f0.length + p + 1 = f0.length + (p + 1) from by omega, get_suf]
  cases b[p + 1]? with
  | none => exact ⟨rfl, rfl⟩
  | some c =>
    simp only
    by_cases h1 : c = 110
    · rw [if_pos h1, if_pos h1]; exact ⟨rfl, by simp only; omega⟩
    rw [if_neg h1, if_neg h1]
    by_cases h2 : signs.contains c = true
    · rw [if_pos h2, if_pos h2]; exact ⟨rfl, by simp only; omega⟩
    · rw [if_neg h2, if_neg h2]; exact ⟨rfl, rfl⟩
end Rt
end Go.Proofs

set_option maxRecDepth 100000
namespace Go.Proofs
open Go.Vcg
namespace Rt
variable {f0 b : List UInt8} {p : Nat} {op gr : Nat}

/-- how many parentheses may open yet -/
def cnt (b : List UInt8) (p : Nat) : Nat := (b.drop p).count 40
theorem cnt_le {q : Nat} (h : p ≤ q) : cnt b q ≤ cnt b p := by
  obtain ⟨j, rfl⟩ : ∃ j, q = p + j := ⟨q - p, by omega⟩
  unfold cnt
  rw [← List.drop_drop]
  exact (List.drop_sublist j _).count_le 40
theorem cnt_open (h : isM b [40] p = true) : cnt b p = cnt b (p + 1) + 1 := by
  have hlt := isM_lt h
  rw [isM_one] at h
  unfold isB at h
  have h := of_decide_eq_true h
  rw [List.getElem?_eq_getElem hlt] at h
  have h := Option.some.inj h
  unfold cnt
  rw [List.drop_eq_getElem_cons hlt, h, List.count_cons_self]
def Sh3 (b : List UInt8) (o G : Nat) (m m' : Res (T × Nat × Nat)) : Prop :=
  match m, m' with
  | .ok x, .ok y => sh x.1 = sh y.1 ∧ y.2.1 = o + x.2.1 ∧ y.2.2 = G + x.2.2 ∧ G + x.2.2 + cnt b x.2.1 ≤ 9
  | .bad c q, .bad c' q' => c' = c ∧ q' = o + q
  | .out, .out => True
  | _, _ => False
theorem Sh.with {o G : Nat} {m m' : Res (T × Nat)} (h : Sh o m m') (hg : ∀ t q, m = .ok (t, q) → G + gr + cnt b q ≤ 9) : Sh3 b o G (m.with gr) (m'.with (G + gr)) := by
  cases m with
  | out => cases m' with
    | out => trivial
    | bad c q => exact h.elim
    | ok y => exact h.elim
  | bad c q => cases m' with
    | out => exact h.elim
    | bad c q => exact h
    | ok y => exact h.elim
  | ok x => cases m' with
    | out => exact h.elim
    | bad c q => exact h.elim
    | ok y =>
      obtain ⟨t, q⟩ := x
      obtain ⟨u, q'⟩ := y
      exact ⟨h.1, h.2, rfl, hg t q rfl⟩
/-- the three ways at once -/
theorem Sh3.cases {o G : Nat} {m m' : Res (T × Nat × Nat)} (h : Sh3 b o G m m') : (m = .out ∧ m' = .out) ∨ (∃ c q, m = .bad c q ∧ m' = .bad c (o + q)) ∨ ∃ t t' q g, m = .ok (t, q, g) ∧ m' = .ok (t', o + q, G + g) ∧ sh t = sh t' ∧ G + g + cnt b q ≤ 9 := by
  cases m with
  | out => cases m' with
    | out => exact .inl ⟨rfl, rfl⟩
    | bad c q => exact h.elim
    | ok y => exact h.elim
  | bad c q => cases m' with
    | out => exact h.elim
    | bad c' q' => obtain ⟨rfl, rfl⟩ := h; exact .inr (.inl ⟨_, _, rfl, rfl⟩)
    | ok y => exact h.elim
  | ok x => cases m' with
    | out => exact h.elim
    | bad c q => exact h.elim
    | ok y =>
      obtain ⟨t, q, g⟩ := x
      obtain ⟨t', q', g'⟩ := y
      obtain ⟨h1, h2, h3, h4⟩ := h
      simp only at h2 h3
      subst h2 h3
      exact .inr (.inr ⟨t, t', q, g, rfl, rfl, h1, h4⟩)
theorem timesLM_mono {l : List UInt8} : ∀ (k : Nat) {e : T} {p : Nat} {u : T} {q : Nat}, p ≤ l.length → timesLM k l e p = .ok (u, q) → p ≤ q
  | 0, e, p, u, q, _, h => by unfold timesLM at h; cases h
  | k + 1, e, p, u, q, hp, h => by
    unfold timesLM at h
    split at h
    · rename_i c; have := isM_lt c; have := timesLM_mono k (by omega) h; omega
    split at h
    · rename_i c; have := isM_lt c; have := timesLM_mono k (by omega) h; omega
    split at h
    · rename_i c; have := isM_lt c; have := timesLM_mono k (by omega) h; omega
    split at h
    · rename_i c
      have := isM_lt c
      split at h
      · rename_i x hx
        have h1 := intM_le (by simp) (by omega) hx
        have := timesLM_mono k h1.2.1 h
        omega
      · cases h
      · cases h
    · cases h
      exact Nat.le_refl _
theorem thenTimes_suf {f f' o G p0 : Nat} {m m' : Res (T × Nat × Nat)} (ho : o = f0.length) (h : Sh3 b o G m m') (hm : ∀ t q g, m = .ok (t, q, g) → p0 ≤ q ∧ q ≤ b.length) (hf : b.length < f + p0) (hf' : b.length < f' + p0) :
    Sh3 b o G (thenTimes f b m) (thenTimes f' (f0 ++ b) m') := by
  subst ho
  rcases h.cases with ⟨rfl, rfl⟩ | ⟨c, q, rfl, rfl⟩ | ⟨t, t', q, g, rfl, rfl, h1, h2⟩
  · trivial
  · exact ⟨rfl, rfl⟩
  · obtain ⟨h3, h4⟩ := hm t q g rfl
    unfold thenTimes
    simp only
    refine (timesLM_suf f f' h1 h4 (by omega) (by omega)).with fun u q' hu => ?_
    have : q ≤ q' := by
      exact timesLM_mono f h4 hu
    have := cnt_le (b := b) this
    omega
theorem sh_join {k : Nat} {ts ts' : List T} (h : ts.map sh = ts'.map sh) : sh (joinM k ts) = sh (joinM k ts') := by
  have hl : ts.length = ts'.length := by have := congrArg List.length h; simpa using this
  match ts, ts' with
  | [], [] => rfl
  | [t], [t'] => simpa [joinM] using h
  | t :: u :: r, t' :: u' :: r' => simp only [joinM, sh]; simp at hl; simp [hl]
  | [], _ :: _ => simp at hl
  | _ :: _, [] => simp at hl
  | [_], _ :: _ :: _ => simp at hl
  | _ :: _ :: _, [_] => simp at hl
theorem map_snoc {ts ts' : List T} {t t' : T} (h : ts.map sh = ts'.map sh) (h' : sh t = sh t') : (ts ++ [t]).map sh = (ts' ++ [t']).map sh := by simp [h, h']
/-- of branches, with some ahead -/
def ShA (b : List UInt8) (o G : Nat) (pr : List T) (m m' : Res (T × Nat × Nat)) : Prop :=
  (m = .out ∧ m' = .out) ∨ (∃ c q, m = .bad c q ∧ m' = .bad c (o + q)) ∨
    ∃ us us' q g, m = .ok (joinM 5 us, q, g) ∧ m' = .ok (joinM 5 (pr ++ us'), o + q, G + g) ∧ us.map sh = us'.map sh ∧ us ≠ [] ∧ (∀ t ∈ us, NotAlt t) ∧ G + g + cnt b q ≤ 9
theorem ShA.sh3 {o G : Nat} {m m' : Res (T × Nat × Nat)} (h : ShA b o G [] m m') : Sh3 b o G m m' := by
  rcases h with ⟨rfl, rfl⟩ | ⟨c, q, rfl, rfl⟩ | ⟨us, us', q, g, rfl, rfl, h1, _, _, h2⟩
  · trivial
  · exact ⟨rfl, rfl⟩
  · exact ⟨sh_join h1, rfl, rfl, h2⟩
theorem ext_suf : ∀ (f : Nat),
    (∀ {f' p op gr G}, p < b.length → G + gr + cnt b p ≤ 9 → 3 * (b.length - p) ≤ f → 3 * (b.length - p) ≤ f' → Sh3 b f0.length G (itemM f b p op gr) (itemM f' (f0 ++ b) (f0.length + p) op (G + gr))) ∧
    (∀ {f' ts ts' p op gr G}, p ≤ b.length → G + gr + cnt b p ≤ 9 → (∀ t ∈ ts, Good t) → ts.map sh = ts'.map sh → 3 * (b.length - p) + 1 ≤ f → 3 * (b.length - p) + 1 ≤ f' → Sh3 b f0.length G (branchL f b ts p op gr) (branchL f' (f0 ++ b) ts' (f0.length + p) op (G + gr))) ∧
    (∀ {f' ts ts' pr p op gr G}, p ≤ b.length → G + gr + cnt b p ≤ 9 → (∀ t ∈ ts, Good t) → ts ≠ [] → (∀ t ∈ ts, NotAlt t) → ts.map sh = ts'.map sh → 3 * (b.length - p) + 1 ≤ f → 3 * (b.length - p) + 1 ≤ f' →
      ShA b f0.length G pr (altL f b ts p op gr) (altL f' (f0 ++ b) (pr ++ ts') (f0.length + p) op (G + gr))) ∧
    (∀ {f' p op gr G}, p ≤ b.length → G + gr + cnt b p ≤ 9 → 3 * (b.length - p) + 2 ≤ f → 3 * (b.length - p) + 2 ≤ f' → Sh3 b f0.length G (branchesM f b p op gr) (branchesM f' (f0 ++ b) (f0.length + p) op (G + gr)))
  | 0 => ⟨fun _ _ _ _ => by omega, fun _ _ _ _ _ => by omega, fun _ _ _ _ _ _ _ => by omega, fun _ _ _ _ => by omega⟩
  | f + 1 => by
    obtain ⟨ihI, ihL, ihA, ihB⟩ := ext_suf f
    obtain ⟨eI, eL, eA, eB⟩ := ext_end (l := b) f
    refine ⟨?_, ?_, ?_, ?_⟩
    · intro f' p op gr G hp hg hf hf'
      obtain ⟨f', rfl⟩ : ∃ j, f' = j + 1 := ⟨f' - 1, by omega⟩
      have cn : ∀ {q}, p ≤ q → G + gr + cnt b q ≤ 9 := fun h => by have := cnt_le (b := b) h; omega
      have sufP : f0.length + p + 1 = f0.length + (p + 1) := by omega
      unfold itemM
      rw [timesM_suf, isM_suf, isM_suf, isM_suf, isM_suf, isM_suf, isM_suf, get_suf, sufP]
      by_cases c1 : timesM b p = true
      · rw [if_pos c1, if_pos c1]; exact ⟨rfl, rfl⟩
      rw [if_neg c1, if_neg c1]
      have anch : ∀ {kind : Nat}, Sh3 b f0.length G ((anchorM b kind (p + 1)).with gr) ((anchorM (f0 ++ b) kind (f0.length + (p + 1))).with (G + gr)) := fun {kind} => anchorM_suf.with fun t q h => by
        unfold anchorM at h
        split at h
        · cases h
        · cases h; exact cn (by omega)
      by_cases c2 : isM b [94] p = true
      · rw [if_pos c2, if_pos c2]; exact anch
      rw [if_neg c2, if_neg c2]
      by_cases c3 : isM b [36] p = true
      · rw [if_pos c3, if_pos c3]; exact anch
      rw [if_neg c3, if_neg c3]
      by_cases c4 : isM b [40] p = true
      · rw [if_pos c4, if_pos c4]
        have hc := cnt_open c4
        have hB := ihB (f' := f') (p := p + 1) (op := op + 1) (gr := gr + 1) (G := G) (by omega) (by omega) (by omega) (by omega)
        have hE := eB (p := p + 1) (op := op + 1) (gr := gr + 1) (by omega) (by omega) (by omega)
        refine thenTimes_suf (p0 := p + 1) rfl ?_ ?_ (by omega) (by omega)
        · unfold groupM
          rw [if_neg (by omega), if_neg (by omega), show G + gr + 1 = G + (gr + 1) from by omega]
          rcases hB.cases with ⟨e1, e2⟩ | ⟨c, q, e1, e2⟩ | ⟨t, t', q, g, e1, e2, h1, h2⟩
          · rw [e1, e2]; trivial
          · rw [e1, e2]; exact ⟨rfl, rfl⟩
          · rw [e1, e2]
            simp only
            rw [isM_suf]
            by_cases c : isM b [41] q = true
            · rw [if_pos c, if_pos c]
              exact ⟨rfl, by simp only; omega, rfl, by have := cnt_le (b := b) (p := q) (q := q + 1) (by omega); simp only [List.length_cons, List.length_nil, Nat.zero_add]; omega⟩
            · rw [if_neg c, if_neg c, len_suf]; exact ⟨rfl, rfl⟩
        · intro t q g hm
          have := groupM_end (l := b) (start := p) (shut := [41]) (gr := gr) (B := 3 * (p + 1) + 1) (B' := 0) (by omega) (by omega) (by simp) (fun _ => hE)
          rw [hm] at this
          exact ⟨by have := this.2.1; simp only at this; omega, this.2.2.1⟩
      rw [if_neg c4, if_neg c4]
      by_cases c5 : isM b [92] p = true
      · rw [if_pos c5, if_pos c5]
        have he := escM_end (l := b) (signs := extSigns) hp
        refine thenTimes_suf (p0 := p + 1) rfl (escM_suf.with fun t q h => ?_) (fun t q g hm => ?_) (by omega) (by omega)
        · rw [h] at he; exact cn (by have := he.2.1; simp only at this; omega)
        · have := he.with (gr := gr) (by omega)
          rw [hm] at this
          exact ⟨this.2.1, this.2.2.1⟩
      rw [if_neg c5, if_neg c5]
      by_cases c6 : isM b [46] p = true
      · rw [if_pos c6, if_pos c6]
        exact thenTimes_suf (p0 := p + 1) rfl ⟨rfl, rfl, rfl, cn (by simp only; omega)⟩ (fun t q g hm => by cases hm; omega) (by omega) (by omega)
      rw [if_neg c6, if_neg c6]
      by_cases c7 : isM b [91] p = true
      · rw [if_pos c7, if_pos c7]
        have he := brkM_end (l := b) (ext := true) (p := p + 1) (by omega)
        refine thenTimes_suf (p0 := p + 1) rfl ((brkM_suf (by omega)).with fun t q h => ?_) (fun t q g hm => ?_) (by omega) (by omega)
        · rw [h] at he; exact cn (by have := he.2.1; simp only at this; omega)
        · have := he.with (gr := gr) (by omega)
          rw [hm] at this
          exact ⟨this.2.1, this.2.2.1⟩
      rw [if_neg c7, if_neg c7, List.getElem?_eq_getElem hp]
      exact thenTimes_suf (p0 := p + 1) rfl ⟨rfl, rfl, rfl, cn (by simp only; omega)⟩ (fun t q g hm => by cases hm; omega) (by omega) (by omega)
    · intro f' ts ts' p op gr G hp hg hts hsh hf hf'
      obtain ⟨f', rfl⟩ : ∃ j, f' = j + 1 := ⟨f' - 1, by omega⟩
      have hl : ts.length = ts'.length := by have := congrArg List.length hsh; simpa using this
      have hem : ts'.isEmpty = ts.isEmpty := by cases ts <;> cases ts' <;> simp at hl ⊢
      have hcond : ((f0 ++ b).length ≤ f0.length + p ∨ isM b [124] p = true ∨ isM b [41] p = true) ↔ (b.length ≤ p ∨ isM b [124] p = true ∨ isM b [41] p = true) := by rw [len_suf, Nat.add_le_add_iff_left]
      unfold branchL
      rw [isM_suf, isM_suf, hem]
      by_cases c1 : b.length ≤ p ∨ isM b [124] p = true ∨ isM b [41] p = true
      · have c1' := hcond.2 c1
        rw [if_pos c1, if_pos c1']
        by_cases c2 : ts.isEmpty = true
        · rw [if_pos c2, if_pos c2]
          by_cases c3 : isM b [41] p = true ∧ op = 0
          · rw [if_pos c3, if_pos c3]; exact ⟨rfl, rfl⟩
          · rw [if_neg c3, if_neg c3]; exact ⟨rfl, rfl⟩
        · rw [if_neg c2, if_neg c2]
          exact ⟨sh_join hsh, rfl, rfl, hg⟩
      · have c1' : ¬ ((f0 ++ b).length ≤ f0.length + p ∨ isM b [124] p = true ∨ isM b [41] p = true) := fun e => c1 (hcond.1 e)
        rw [if_neg c1, if_neg c1']
        have hlt : p < b.length := Nat.lt_of_not_le fun e => c1 (.inl e)
        have hI := ihI (f' := f') (op := op) (gr := gr) (G := G) hlt hg (by omega) (by omega)
        have hE := eI (op := op) (gr := gr) hlt (by omega) (by omega)
        rcases hI.cases with ⟨e1, e2⟩ | ⟨c, q, e1, e2⟩ | ⟨t, t', q, g, e1, e2, h1, h2⟩
        · rw [e1, e2]; trivial
        · rw [e1, e2]; exact ⟨rfl, rfl⟩
        · rw [e1] at hE
          rw [e1, e2]
          obtain ⟨g1, g2, g3, g4, _⟩ := hE
          simp only at g1 g2 g3 g4
          exact ihL g3 h2 (fun u hu => by rcases List.mem_append.1 hu with h | h; exact hts u h; rw [List.mem_singleton.1 h]; exact g1) (map_snoc hsh h1) (by omega) (by omega)
    · intro f' ts ts' pr p op gr G hp hg hts hne hna hsh hf hf'
      obtain ⟨f', rfl⟩ : ∃ j, f' = j + 1 := ⟨f' - 1, by omega⟩
      unfold altL
      rw [isM_suf]
      by_cases c1 : isM b [124] p = true
      · have hlt := isM_lt c1
        rw [if_pos c1, if_pos c1, show f0.length + p + 1 = f0.length + (p + 1) from by omega]
        have hcn : G + gr + cnt b (p + 1) ≤ 9 := by have := cnt_le (b := b) (p := p) (q := p + 1) (by omega); omega
        have hL := ihL (f' := f') (ts := []) (ts' := []) (p := p + 1) (op := op) (gr := gr) (G := G) (by omega) hcn (fun _ h => by simp at h) rfl (by omega) (by omega)
        have hE := eL (B := 3 * (p + 1)) (ts := []) (p := p + 1) (op := op) (gr := gr) (by omega) (by omega) (fun _ h => by simp at h) (by simp [szL]) (fun h => absurd rfl h) (by omega)
        rcases hL.cases with ⟨e1, e2⟩ | ⟨c, q, e1, e2⟩ | ⟨t, t', q, g, e1, e2, h1, h2⟩
        · rw [e1, e2]; exact .inl ⟨rfl, rfl⟩
        · rw [e1, e2]; exact .inr (.inl ⟨_, _, rfl, rfl⟩)
        · have hk := branchL_kind f (fun _ h => by simp at h) e1
          rw [e1] at hE
          rw [e1, e2]
          obtain ⟨g1, g2, g3, g4, _⟩ := hE
          simp only [if_true] at g1 g2 g3 g4
          simp only
          rw [List.append_assoc]
          exact ihA g3 h2 (fun u hu => by rcases List.mem_append.1 hu with h | h; exact hts u h; rw [List.mem_singleton.1 h]; exact g1) (by simp)
            (fun u hu => by rcases List.mem_append.1 hu with h | h; exact hna u h; rw [List.mem_singleton.1 h]; exact hk) (map_snoc hsh h1) (by omega) (by omega)
      · rw [if_neg c1, if_neg c1]
        exact .inr (.inr ⟨ts, ts', p, gr, rfl, rfl, hsh, hne, hna, hg⟩)
    · intro f' p op gr G hp hg hf hf'
      obtain ⟨f', rfl⟩ : ∃ j, f' = j + 1 := ⟨f' - 1, by omega⟩
      unfold branchesM
      have hL := ihL (f' := f') (ts := []) (ts' := []) (op := op) (gr := gr) (G := G) hp hg (fun _ h => by simp at h) rfl (by omega) (by omega)
      have hE := eL (B := 3 * p) (ts := []) (op := op) (gr := gr) hp (by omega) (fun _ h => by simp at h) (by simp [szL]) (fun h => absurd rfl h) (by omega)
      rcases hL.cases with ⟨e1, e2⟩ | ⟨c, q, e1, e2⟩ | ⟨t, t', q, g, e1, e2, h1, h2⟩
      · rw [e1, e2]; trivial
      · rw [e1, e2]; exact ⟨rfl, rfl⟩
      · have hk := branchL_kind f (fun _ h => by simp at h) e1
        rw [e1] at hE
        rw [e1, e2]
        obtain ⟨g1, g2, g3, g4, _⟩ := hE
        simp only [if_true] at g1 g2 g3 g4
        simp only
        exact (ihA (pr := []) (ts := [t]) (ts' := [t']) g3 h2 (fun u hu => by rw [List.mem_singleton.1 hu]; exact g1) (by simp) (fun u hu => by rw [List.mem_singleton.1 hu]; exact hk) (by simp [h1]) (by omega) (by omega)).sh3
end Rt
end Go.Proofs

set_option maxRecDepth 100000
namespace Go.Proofs
open Go.Vcg
namespace Rt
variable {a b : List UInt8}

def branchN (t : T) : Nat := if (sh t).1 = 5 then (sh t).2 else 1
theorem branchN_join {ts : List T} (h : ts ≠ []) (hn : ∀ t ∈ ts, NotAlt t) : branchN (joinM 5 ts) = ts.length := by
  match ts, h with
  | [t], _ =>
    have := hn t (List.mem_cons_self ..)
    obtain ⟨k, s, mn, mx, g, us⟩ := t
    unfold branchN joinM
    exact if_neg this
  | t :: u :: r, _ => rfl
theorem bar_len : (a ++ 124 :: b).length = a.length + b.length + 1 := by simp; omega
theorem bar_suf : a ++ 124 :: b = (a ++ [124]) ++ b := by simp
theorem either_front (hlast : ∀ p, p + 1 = a.length → a[p]? ≠ some 92) {c q : Nat} (h : wholeM (fuel a) a true = .bad c q) : (q = a.length ∧ a ≠ []) ∨ wholeM (fuel (a ++ 124 :: b)) (a ++ 124 :: b) true = .bad c q := by
  by_cases ha : a = []
  · subst ha
    right
    have e : wholeM (fuel []) [] true = .bad 3 0 := by
      have h0 : isM [] [41] 0 = false := by rw [isM_one]; rfl
      unfold wholeM
      simp only [if_true]
      rw [show fuel [] = 0 + 1 + 1 from rfl]
      unfold branchesM branchL
      rw [if_pos (.inl (Nat.le_refl _)), h0]
      rfl
    rw [e] at h
    cases h
    have hbar : isM ([] ++ 124 :: b) [124] 0 = true := by rw [isM_one]; rfl
    have h41 : isM ([] ++ 124 :: b) [41] 0 = false := by rw [isM_one]; rfl
    unfold wholeM fuel
    simp only [if_true]
    obtain ⟨f, hf⟩ : ∃ f, 3 * ([] ++ 124 :: b).length + 2 = f + 2 := ⟨_, rfl⟩
    rw [hf]
    unfold branchesM branchL
    rw [if_pos (.inr (.inl hbar)), h41]
    rfl
  · have hR := (ext_pre (b := b) hlast (fuel a)).2.2.2 (f' := fuel (a ++ 124 :: b)) (p := 0) (op := 0) (gr := 0) (by omega) (by omega) (by unfold fuel; omega) (by unfold fuel; rw [bar_len]; omega)
    unfold wholeM at h ⊢
    simp only [if_true] at h ⊢
    rcases hR with ⟨c', e⟩ | ⟨e, hlt⟩ | ⟨ts, g, f'', e, _⟩
    · rw [e] at h
      cases h
      exact .inl ⟨rfl, ha⟩
    · right
      rw [e]
      cases hm : branchesM (fuel a) a 0 0 0 with
      | out => rw [hm] at h; cases h
      | bad c' q' => rw [hm] at h; exact h
      | ok x =>
        rw [hm] at h
        obtain ⟨t, p, g⟩ := x
        have := hlt t p g hm
        simp only at h ⊢
        rw [if_neg (by omega)] at h
        rw [if_neg (by rw [bar_len]; omega)]
        exact h
    · rw [e] at h
      simp only at h
      rw [if_pos (Nat.le_refl _)] at h
      cases h
theorem either_back (hlast : ∀ p, p + 1 = a.length → a[p]? ≠ some 92) {t1 : T} {p1 g1 : Nat} (h : wholeM (fuel a) a true = .ok (t1, p1, g1)) (hg : g1 + b.count 40 ≤ 9) :
    match wholeM (fuel b) b true with
    | .out => False
    | .bad c q => wholeM (fuel (a ++ 124 :: b)) (a ++ 124 :: b) true = .bad c (a.length + 1 + q)
    | .ok x => ∃ ts p, wholeM (fuel (a ++ 124 :: b)) (a ++ 124 :: b) true = .ok (.node 5 .zero 0 0 0 ts, p, g1 + x.2.2) ∧ ts.length = branchN t1 + branchN x.1 := by
  have hR := (ext_pre (b := b) hlast (fuel a)).2.2.2 (f' := fuel (a ++ 124 :: b)) (p := 0) (op := 0) (gr := 0) (by omega) (by omega) (by unfold fuel; omega) (by unfold fuel; rw [bar_len]; omega)
  unfold wholeM at h
  simp only [if_true] at h
  obtain ⟨ts, f'', hts, hna, e, hf'', em⟩ : ∃ ts f'', ts ≠ [] ∧ (∀ t ∈ ts, NotAlt t) ∧ t1 = joinM 5 ts ∧ 3 * (b.length + 1) + 1 ≤ f'' ∧ branchesM (fuel (a ++ 124 :: b)) (a ++ 124 :: b) 0 0 0 = altL f'' (a ++ 124 :: b) ts a.length 0 g1 := by
    rcases hR with ⟨c', e⟩ | ⟨e, hlt⟩ | ⟨ts, g, f'', e, h1, h2, h3, h4, h5⟩
    · rw [e] at h; cases h
    · cases hm : branchesM (fuel a) a 0 0 0 with
      | out => rw [hm] at h; cases h
      | bad c' q' => rw [hm] at h; cases h
      | ok x =>
        rw [hm] at h
        obtain ⟨t, p, g⟩ := x
        have := hlt t p g hm
        simp only at h
        rw [if_neg (by omega)] at h
        cases h
    · rw [e] at h
      simp only at h
      rw [if_pos (Nat.le_refl _)] at h
      cases h
      exact ⟨ts, f'', h1, h2, rfl, h4, h5⟩
  obtain ⟨f3, rfl⟩ : ∃ j, f'' = j + 1 := ⟨f'' - 1, by omega⟩
  have hbar : isM (a ++ 124 :: b) [124] a.length = true := by rw [isM_one]; unfold isB; rw [get_bar]; rfl
  have hc0 : cnt b 0 = b.count 40 := rfl
  have ho : (a ++ [(124 : UInt8)]).length = a.length + 1 := by simp
  have fb : fuel b = 3 * b.length + 1 + 1 := rfl
  have hL := (ext_suf (f0 := a ++ [124]) (b := b) (3 * b.length + 1)).2.1 (f' := f3) (ts := []) (ts' := []) (p := 0) (op := 0) (gr := 0) (G := g1) (by omega) (by rw [hc0]; omega) (fun _ h => by simp at h) rfl (by omega) (by omega)
  have hE := (ext_end (l := b) (3 * b.length + 1)).2.1 (B := 0) (ts := []) (p := 0) (op := 0) (gr := 0) (by omega) (by omega) (fun _ h => by simp at h) (by simp [szL]) (fun h => absurd rfl h) (by omega)
  have hend := whole_end (l := b) (ext := true)
  unfold wholeM at hend ⊢
  simp only [if_true] at hend ⊢
  rw [em, altL, if_pos hbar, fb] at *
  rw [branchesM] at hend ⊢
  rw [← bar_suf, ho] at hL
  simp only [Nat.add_zero] at hL
  rcases hL.cases with ⟨e1, e2⟩ | ⟨c, q, e1, e2⟩ | ⟨t, t', q, g, e1, e2, h1, h2⟩
  · rw [e1] at hend; exact hend.elim
  · rw [e1, e2]
  · have hk := branchL_kind _ (fun _ h => by simp at h) e1
    rw [e1] at hE hend
    rw [e1, e2]
    obtain ⟨g1', g2', g3', g4', _⟩ := hE
    simp only [if_true] at g1' g2' g3' g4'
    simp only at hend ⊢
    have hA := (ext_suf (f0 := a ++ [124]) (b := b) (3 * b.length + 1)).2.2.1 (f' := f3) (ts := [t]) (ts' := [t']) (pr := ts) (p := q) (op := 0) (gr := g) (G := g1) g3' h2 (fun u hu => by rw [List.mem_singleton.1 hu]; exact g1') (by simp)
      (fun u hu => by rw [List.mem_singleton.1 hu]; exact hk) (by simp [h1]) (by omega) (by omega)
    rw [← bar_suf, ho] at hA
    rcases hA with ⟨d1, d2⟩ | ⟨c, q', d1, d2⟩ | ⟨us, us', q', g', d1, d2, k1, k2, k3, k4⟩
    · rw [d1] at hend; exact hend.elim
    · rw [d1, d2]
    · rw [d1, d2]
      simp only
      by_cases hq : b.length ≤ q'
      · have hq' : (a ++ 124 :: b).length ≤ a.length + 1 + q' := by rw [bar_len]; omega
        rw [if_pos hq, if_pos hq']
        have hul : us.length = us'.length := by have := congrArg List.length k1; simpa using this
        have h2l : joinM 5 (ts ++ us') = .node 5 .zero 0 0 0 (ts ++ us') := by
          match ts, us', hts, k2, hul with
          | t :: r, u :: v, _, _, _ =>
            cases r with
            | nil => rfl
            | cons x y => rfl
          | t :: r, [], _, k2, hul => simp at hul; exact absurd hul k2
        refine ⟨ts ++ us', a.length + 1 + q', by rw [h2l], ?_⟩
        rw [e, branchN_join hts hna, branchN_join k2 k3, List.length_append, hul]
      · have hq' : ¬ (a ++ 124 :: b).length ≤ a.length + 1 + q' := by rw [bar_len]; omega
        rw [if_neg hq, if_neg hq']
end Rt
end Go.Proofs
