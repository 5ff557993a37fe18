/- A part of the proofs over this seat: Pre3. -/
import Derived.Test.YthlncmkeccgfeaaGreatDoorEnd
set_option linter.unusedVariables false
set_option linter.unusedSimpArgs false
set_option maxRecDepth 100000
namespace Go.Proofs
open Go.Vcg
namespace Rt

/-! ### A text with a bar behind it: how the front is read -/
variable {a b : List UInt8} {p : Nat} {op gr : Nat}
theorem isM_one {l : List UInt8} {x : UInt8} : isM l [x] p = isB l p x := by
  unfold isM isB
  rw [← List.head?_drop]
  cases l.drop p with
  | nil => rfl
  | cons c r =>
    simp [List.isPrefixOf, eq_comm]
    exact (decide_eq_decide.2 Iff.rfl : decide (x = c) = decide (x = c)) ▸ rfl
theorem get_pre (h : p < a.length) : (a ++ 124 :: b)[p]? = a[p]? := List.getElem?_append_left h
theorem get_bar : (a ++ 124 :: b)[a.length]? = some 124 := by simp
theorem isB_pre {x : UInt8} (hp : p ≤ a.length) (hx : x ≠ 124) : isB (a ++ 124 :: b) p x = isB a p x := by
  unfold isB
  rcases Nat.lt_or_eq_of_le hp with h | h
  · rw [get_pre h]
  · subst h
    rw [get_bar, List.getElem?_eq_none (Nat.le_refl _)]
    simp [Ne.symm hx]
theorem isM_pre {x : UInt8} (hp : p ≤ a.length) (hx : x ≠ 124) : isM (a ++ 124 :: b) [x] p = isM a [x] p := by rw [isM_one, isM_one, isB_pre hp hx]
theorem isM_pre' {x : UInt8} (hp : p < a.length) : isM (a ++ 124 :: b) [x] p = isM a [x] p := by
  rw [isM_one, isM_one]
  unfold isB
  rw [get_pre hp]
theorem isM_end {x : UInt8} : isM a [x] a.length = false := by
  rw [isM_one]
  unfold isB
  rw [List.getElem?_eq_none (Nat.le_refl _)]
  simp
theorem isM_lt {x : UInt8} (h : isM a [x] p = true) : p < a.length := isB_lt (by rwa [isM_one] at h)
theorem drop_pre (hp : p ≤ a.length) : (a ++ 124 :: b).drop p = a.drop p ++ 124 :: b := List.drop_append_of_le_length hp
theorem dlen_pre : ∀ (x : List UInt8), dlen (x ++ 124 :: b) = dlen x
  | [] => by
    simp only [List.nil_append, dlen]
    rfl
  | c :: x => by simp only [List.cons_append, dlen, dlen_pre x]
theorem dval_pre {x : List UInt8} {k : Nat} (hk : k ≤ x.length) : dval (x ++ 124 :: b) k = dval x k := by
  unfold dval
  rw [List.take_append_of_le_length hk]
theorem numR_pre (hp : p ≤ a.length) : numR (a ++ 124 :: b) p = numR a p := by
  unfold numR
  rw [drop_pre hp, dlen_pre, dval_pre (dlen_le _)]
theorem secondR_pre {mn : Int} (hp : p ≤ a.length) : secondR (a ++ 124 :: b) [125] mn p = secondR a [125] mn p := by
  unfold secondR
  rw [isM_pre hp (by decide)]
  by_cases hc : 0 ≤ mn ∧ isM a [44] p = true
  · have := isM_lt hc.2
    rw [if_pos hc, if_pos hc, isM_pre (by omega) (by decide), numR_pre (by omega)]
  · rw [if_neg hc, if_neg hc]
theorem intM_pre {t : T} {frm : Nat} (hp : p ≤ a.length) : intM (a ++ 124 :: b) t frm [125] p = intM a t frm [125] p := by
  have h1 := numR_le hp
  unfold intM
  rw [numR_pre hp, secondR_pre h1.2]
  cases hs : secondR a [125] (numR a p).1 (numR a p).2 with
  | none => rfl
  | some x =>
    have h2 := secondR_le (by simp) h1.2 hs
    simp only
    rw [isM_pre h2.2 (by decide)]
theorem timesM_pre (hp : p ≤ a.length) : timesM (a ++ 124 :: b) p = timesM a p := by
  unfold timesM
  rw [isM_pre hp (by decide), isM_pre hp (by decide), isM_pre hp (by decide), isM_pre hp (by decide)]
theorem intM_le {l : List UInt8} {t : T} {frm : Nat} {shut : List UInt8} {x : T × Nat} (hs : shut ≠ []) (hp : p ≤ l.length) (h : intM l t frm shut p = .ok x) : p ≤ x.2 ∧ x.2 ≤ l.length ∧ ∃ mn mx, x.1 = repM t mn mx := by
  have h1 := numR_le hp
  unfold intM at h
  split at h
  · cases h
  · rename_i y hy
    have h2 := secondR_le hs h1.2 hy
    split at h
    · cases h
    · rename_i hc
      simp only [not_or, not_and, Bool.not_eq_false] at hc
      have h3 := isM_le h2.2 hc.2.1
      cases h
      exact ⟨by simp only; omega, h3, _, _, rfl⟩
theorem timesLM_pre : ∀ (k k' : Nat) {e : T} {p : Nat}, p ≤ a.length → a.length < k + p → a.length < k' + p → timesLM k' (a ++ 124 :: b) e p = timesLM k a e p
  | 0, _, e, p, hp, hk, _ => by omega
  | k + 1, 0, e, p, hp, _, hk => by omega
  | k + 1, k' + 1, e, p, hp, hk, hk' => by
    unfold timesLM
    rw [isM_pre hp (by decide), isM_pre hp (by decide), isM_pre hp (by decide), isM_pre hp (by decide)]
    by_cases h1 : isM a [42] p = true
    · have := isM_lt h1
      rw [if_pos h1, if_pos h1]
      exact timesLM_pre k k' (by omega) (by omega) (by omega)
    rw [if_neg h1, if_neg h1]
    by_cases h2 : isM a [43] p = true
    · have := isM_lt h2
      rw [if_pos h2, if_pos h2]
      exact timesLM_pre k k' (by omega) (by omega) (by omega)
    rw [if_neg h2, if_neg h2]
    by_cases h3 : isM a [63] p = true
    · have := isM_lt h3
      rw [if_pos h3, if_pos h3]
      exact timesLM_pre k k' (by omega) (by omega) (by omega)
    rw [if_neg h3, if_neg h3]
    by_cases h4 : isM a [123] p = true
    · have hlt := isM_lt h4
      rw [if_pos h4, if_pos h4, intM_pre (by omega)]
      cases hi : intM a e p [125] (p + 1) with
      | out => rfl
      | bad c q => rfl
      | ok x =>
        have := intM_le (by simp) (by omega) hi
        exact timesLM_pre k k' this.2.1 (by omega) (by omega)
    · rw [if_neg h4, if_neg h4]
theorem anchorM_pre {kind : Nat} (hp : p ≤ a.length) : anchorM (a ++ 124 :: b) kind p = anchorM a kind p := by
  unfold anchorM
  rw [timesM_pre hp]
theorem escM_pre {signs : List UInt8} (hp : p + 1 < a.length) : escM (a ++ 124 :: b) signs p = escM a signs p := by
  unfold escM
  rw [get_pre hp]

/-! ### Brackets -/
theorem pre2 {c : UInt8} {l : List UInt8} : List.isPrefixOf [58, 93] (c :: (l ++ 124 :: b)) = List.isPrefixOf [58, 93] (c :: l) := by
  cases l with
  | nil => simp [List.isPrefixOf]
  | cons d r => simp [List.isPrefixOf]
theorem idx_pre : ∀ (s : List UInt8), (0 ≤ Go.Lib.index s [58, 93] → Go.Lib.index (s ++ 124 :: b) [58, 93] = Go.Lib.index s [58, 93]) ∧
    (Go.Lib.index s [58, 93] < 0 → Go.Lib.index (s ++ 124 :: b) [58, 93] < 0 ∨ (s.length : Int) + 1 ≤ Go.Lib.index (s ++ 124 :: b) [58, 93])
  | [] => by
    refine ⟨fun h => absurd h (by decide), fun _ => ?_⟩
    simp only [List.nil_append]
    unfold Go.Lib.index
    rw [if_neg (by simp [List.isPrefixOf])]
    have := Go.Lib.index_ge b [58, 93]
    by_cases hb : Go.Lib.index b [58, 93] = -1
    · left; simp [hb]
    · right; simp [hb]; omega
  | c :: s => by
    have ih := idx_pre s
    have h1 := Go.Lib.index_ge s [58, 93]
    have h2 := Go.Lib.index_ge (s ++ 124 :: b) [58, 93]
    simp only [List.cons_append]
    unfold Go.Lib.index
    rw [pre2]
    by_cases hp : List.isPrefixOf [58, 93] (c :: s) = true
    · rw [if_pos hp, if_pos hp]
      exact ⟨fun _ => rfl, fun h => absurd h (by decide)⟩
    · rw [if_neg hp, if_neg hp]
      by_cases hs : Go.Lib.index s [58, 93] = -1
      · rw [if_pos (by simp [hs])]
        refine ⟨fun h => absurd h (by decide), fun _ => ?_⟩
        rcases ih.2 (by omega) with h | h
        · left
          rw [if_pos (by simp; omega)]
          decide
        · right
          rw [if_neg (by simp; omega)]
          simp only [List.length_cons]
          omega
      · rw [if_neg (by simp [hs])]
        have := ih.1 (by omega)
        rw [this, if_neg (by simp [hs])]
        exact ⟨fun _ => rfl, fun h => by omega⟩
theorem classM_bar {l : List UInt8} (h : (124 : UInt8) ∈ l) : classM l = none := by
  unfold classM
  have ne : ∀ m : List UInt8, (124 : UInt8) ∉ m → l ≠ m := fun m hm e => hm (e ▸ h)
  rw [if_neg (ne _ (by decide)), if_neg (ne _ (by decide)), if_neg (ne _ (by decide)), if_neg (ne _ (by decide)), if_neg (ne _ (by decide)), if_neg (ne _ (by decide)),
    if_neg (ne _ (by decide)), if_neg (ne _ (by decide)), if_neg (ne _ (by decide)), if_neg (ne _ (by decide)), if_neg (ne _ (by decide)), if_neg (ne _ (by decide))]
theorem itemS_pre (hp : p < a.length) : itemS 4 (a ++ 124 :: b) p = itemS 4 a p := by
  unfold itemS
  rw [isB_pre (by omega) (by decide), isB_pre (by omega) (by decide), isB_pre (by omega) (by decide), isB_pre (by omega) (by decide), isB_pre (by omega) (by decide), get_pre hp]
  by_cases h1 : (isB a p 91 && (isB a (p + 1) 46 || isB a (p + 1) 61)) = true
  · rw [if_pos h1, if_pos h1]
  rw [if_neg h1, if_neg h1]
  by_cases h2 : (isB a p 91 && isB a (p + 1) 58) = true
  · rw [if_pos h2, if_pos h2]
    have h3 : p + 1 < a.length := by
      simp only [Bool.and_eq_true] at h2
      exact isB_lt h2.2
    rw [drop_pre (by omega)]
    have hi := idx_pre (b := b) (a.drop (p + 2))
    have bar : (124 : UInt8) ∈ (Go.Lib.cut (a.drop (p + 2) ++ 124 :: b) [58, 93]).1 → ∀ (r : Res ItemR), Go.Lib.index (a.drop (p + 2)) [58, 93] < 0 →
        (match classM (Go.Lib.cut (a.drop (p + 2) ++ 124 :: b) [58, 93]).1 with
          | some s => if (Go.Lib.cut (a.drop (p + 2) ++ 124 :: b) [58, 93]).2.2 then .ok (false, 0, s, p + (Go.Lib.cut (a.drop (p + 2) ++ 124 :: b) [58, 93]).1.length + 4) else .bad 8 p
          | none => .bad 8 p : Res ItemR) =
        (match classM (Go.Lib.cut (a.drop (p + 2)) [58, 93]).1 with
          | some s => if (Go.Lib.cut (a.drop (p + 2)) [58, 93]).2.2 then .ok (false, 0, s, p + (Go.Lib.cut (a.drop (p + 2)) [58, 93]).1.length + 4) else .bad 8 p
          | none => .bad 8 p : Res ItemR) := by
      intro hm _ hn
      rw [classM_bar hm]
      have : (Go.Lib.cut (a.drop (p + 2)) [58, 93]).2.2 = false := by
        unfold Go.Lib.cut
        rw [if_neg (by omega)]
      rw [this]
      cases classM (Go.Lib.cut (a.drop (p + 2)) [58, 93]).1 <;> rfl
    by_cases h0 : 0 ≤ Go.Lib.index (a.drop (p + 2)) [58, 93]
    · have e := hi.1 h0
      have room := Go.Lib.index_room _ _ h0
      have e1 : (Go.Lib.cut (a.drop (p + 2) ++ 124 :: b) [58, 93]).1 = (Go.Lib.cut (a.drop (p + 2)) [58, 93]).1 := by
        unfold Go.Lib.cut
        rw [e, if_pos h0, if_pos h0]
        simp only [List.length_cons, List.length_nil] at room
        exact List.take_append_of_le_length (by omega)
      have e2 : (Go.Lib.cut (a.drop (p + 2) ++ 124 :: b) [58, 93]).2.2 = (Go.Lib.cut (a.drop (p + 2)) [58, 93]).2.2 := by
        unfold Go.Lib.cut
        rw [e, if_pos h0, if_pos h0]
      rw [e1, e2]
    · refine bar ?_ .out (by omega) 
      unfold Go.Lib.cut
      rcases hi.2 (by omega) with h | h
      · rw [if_neg (by omega)]
        simp
      · rw [if_pos (by omega)]
        simp only
        generalize Go.Lib.index (a.drop (p + 2) ++ 124 :: b) [58, 93] = j at h
        obtain ⟨m, hm⟩ : ∃ m, j.toNat = (a.drop (p + 2)).length + (m + 1) := ⟨j.toNat - (a.drop (p + 2)).length - 1, by omega⟩
        rw [hm, List.take_length_add_append]
        simp
  · rw [if_neg h2, if_neg h2]
    simp only [show decide ((4 : Nat) = 2) = false from rfl, Bool.and_false, Bool.false_eq_true, if_false]
theorem rangedS_pre {frm : Nat} {x : ItemR} (hq : x.2.2.2 ≤ a.length) :
    (x.2.2.2 + 1 = a.length ∧ isB a x.2.2.2 45 = true ∧ rangedS 4 a frm x = .ok (x.2.2.1, x.2.2.2)) ∨ rangedS 4 (a ++ 124 :: b) frm x = rangedS 4 a frm x := by
  unfold rangedS
  rw [isB_pre hq (by decide)]
  by_cases h1 : x.1 = true
  · by_cases h2 : isB a x.2.2.2 45 = true
    · have hlt := isB_lt h2
      rw [isB_pre (by omega) (by decide)]
      by_cases h3 : isB a (x.2.2.2 + 1) 93 = true
      · right; simp [h1, h2, h3]
      · by_cases h4 : x.2.2.2 + 1 = a.length
        · left
          exact ⟨h4, h2, by rw [if_pos (by simp; right; omega)]⟩
        · right
          have h5 : ¬ a.length ≤ x.2.2.2 + 1 := by omega
          have h6 : ¬ (a ++ 124 :: b).length ≤ x.2.2.2 + 1 := by simp; omega
          rw [itemS_pre (by omega)]
          have e1 : (!x.1 || !isB a x.2.2.2 45 || isB a (x.2.2.2 + 1) 93 || decide (a.length ≤ x.2.2.2 + 1)) = false := by rw [h1, h2]; simp [h3, h5]
          have e2 : (!x.1 || !isB a x.2.2.2 45 || isB a (x.2.2.2 + 1) 93 || decide ((a ++ 124 :: b).length ≤ x.2.2.2 + 1)) = false := by rw [h1, h2]; simp only [h3, h6]; rfl
          rw [e1, e2]
    · right; simp [h2]
  · right; simp [h1]
end Rt
end Go.Proofs

set_option maxRecDepth 100000
namespace Go.Proofs
open Go.Vcg
namespace Rt
variable {a b : List UInt8} {p : Nat} {op gr : Nat}

theorem readL_pre : ∀ (k k' : Nat) {first : Bool} {s : W4} {p : Nat}, p ≤ a.length → a.length < k + p → a.length < k' + p →
    (∃ c, readL 4 a k first s p = .bad c a.length) ∨ readL 4 (a ++ 124 :: b) k' first s p = readL 4 a k first s p
  | 0, _, first, s, p, hp, hk, _ => by omega
  | k + 1, 0, first, s, p, hp, _, hk => by omega
  | k + 1, k' + 1, first, s, p, hp, hk, hk' => by
    by_cases h1 : a.length ≤ p
    · left
      exact ⟨8, by unfold readL; rw [if_pos h1]⟩
    have hlt : p < a.length := by omega
    by_cases h2 : (!first && isB a p 93) = true
    · right
      unfold readL
      rw [if_neg h1, if_neg (by simp; omega), isB_pre (by omega) (by decide), if_pos h2, if_pos h2]
    cases hx : itemS 4 a p with
    | out =>
      right
      unfold readL
      rw [if_neg h1, if_neg (by simp; omega), isB_pre (by omega) (by decide), if_neg h2, if_neg h2, itemS_pre hlt, hx]
    | bad c q =>
      right
      unfold readL
      rw [if_neg h1, if_neg (by simp; omega), isB_pre (by omega) (by decide), if_neg h2, if_neg h2, itemS_pre hlt, hx]
    | ok x =>
      have hle := itemS_le hlt hx
      have hok := itemS_ok hx
      rcases rangedS_pre (b := b) (frm := p) hle.2 with ⟨g1, g2, g3⟩ | hr
      · -- a range that the front's end cuts off
        left
        refine ⟨8, ?_⟩
        unfold readL
        rw [if_neg h1, if_neg h2, hx]
        simp only
        rw [g3]
        simp only
        generalize x.2.2.2 = q at *
        have hq : a[q]? = some 45 := by unfold isB at g2; exact of_decide_eq_true g2
        have nb : ∀ y : UInt8, y ≠ 45 → isB a q y = false := fun y hy => by unfold isB; rw [hq]; simp [Ne.symm hy]
        obtain ⟨k, rfl⟩ : ∃ j, k = j + 2 := ⟨k - 2, by omega⟩
        have hi : itemS 4 a q = .ok (true, 45, setOf [45], q + 1) := by
          unfold itemS
          rw [nb 91 (by decide), nb 92 (by decide), hq]
          rfl
        have hr : rangedS 4 a q (true, 45, setOf [45], q + 1) = .ok (setOf [45], q + 1) := by
          unfold rangedS
          have : isB a (q + 1) 45 = false := by unfold isB; rw [g1, List.getElem?_eq_none (Nat.le_refl _)]; rfl
          simp only [this, Bool.not_false, Bool.or_true, Bool.true_or, if_true]
        unfold readL
        rw [if_neg (by omega), nb 93 (by decide), if_neg (by simp), hi]
        simp only
        rw [hr]
        simp only
        unfold readL
        rw [if_pos (by omega)]
      · cases hy : rangedS 4 a p x with
        | out =>
          right
          unfold readL
          rw [if_neg h1, if_neg (by simp; omega), isB_pre (by omega) (by decide), if_neg h2, if_neg h2, itemS_pre hlt, hx]
          simp only
          rw [hr, hy]
        | bad c q =>
          right
          unfold readL
          rw [if_neg h1, if_neg (by simp; omega), isB_pre (by omega) (by decide), if_neg h2, if_neg h2, itemS_pre hlt, hx]
          simp only
          rw [hr, hy]
        | ok y =>
          have h4 := rangedS_le hle.2 hy
          have e1 : readL 4 a (k + 1) first s p = readL 4 a k false (unionM [s, y.1]) y.2 := by
            rw [readL, if_neg h1, if_neg h2, hx]
            simp only
            rw [hy]
          have e2 : readL 4 (a ++ 124 :: b) (k' + 1) first s p = readL 4 (a ++ 124 :: b) k' false (unionM [s, y.1]) y.2 := by
            rw [readL, if_neg (by simp; omega), isB_pre (by omega) (by decide), if_neg h2, itemS_pre hlt, hx]
            simp only
            rw [hr, hy]
          rw [e1, e2]
          exact readL_pre k k' h4.2 (by omega) (by omega)
theorem brkM_pre (hp : p ≤ a.length) : (∃ c, brkM true a p = .bad c a.length) ∨ brkM true (a ++ 124 :: b) p = brkM true a p := by
  have ht : turnedS 4 (a ++ 124 :: b) p = turnedS 4 a p := by
    unfold turnedS
    rw [isB_pre hp (by decide), isB_pre hp (by decide)]
  have hq : (if turnedS 4 a p then p + 1 else p) ≤ a.length := by
    split
    · rename_i h
      unfold turnedS at h
      simp only [Bool.or_eq_true, Bool.and_eq_true] at h
      rcases h with h | h
      · have := isB_lt h; omega
      · have := isB_lt h.1; omega
    · exact hp
  unfold brkM bracketS langN
  simp only [if_true]
  rw [ht]
  rcases readL_pre (b := b) (a.length + 1) ((a ++ 124 :: b).length + 1) (first := true) (s := .zero) hq (by omega) (by simp; omega) with ⟨c, h⟩ | h
  · left
    exact ⟨c, by rw [h]⟩
  · right
    rw [h]

/-- the front's reading is an error at its end, or the whole's is the same -/
def RI (a : List UInt8) {α : Type} (m m' : Res α) : Prop := (∃ c, m = .bad c a.length) ∨ m' = m
theorem thenTimes_pre {f f' p0 : Nat} {m m' : Res (T × Nat × Nat)} (h : RI a m m') (hm : ∀ t q g, m = .ok (t, q, g) → p0 ≤ q ∧ q ≤ a.length) (hf : a.length < f + p0) (hf' : a.length < f' + p0) : RI a (thenTimes f a m) (thenTimes f' (a ++ 124 :: b) m') := by
  rcases h with ⟨c, rfl⟩ | rfl
  · left; exact ⟨c, rfl⟩
  · right
    cases m' with
    | out => rfl
    | bad c q => rfl
    | ok x =>
      obtain ⟨t, q, g⟩ := x
      obtain ⟨h1, h2⟩ := hm t q g rfl
      unfold thenTimes
      simp only
      rw [timesLM_pre f f' h2 (by omega) (by omega)]
def NotAlt (t : T) : Prop := t.kind ≠ 5
/-- so for what may go on behind the front -/
def RA (a b : List UInt8) (op : Nat) (m m' : Res (T × Nat × Nat)) : Prop :=
  (∃ c, m = .bad c a.length) ∨ (m' = m ∧ ∀ t q g, m = .ok (t, q, g) → q < a.length) ∨
  ∃ ts g f'', m = .ok (joinM 5 ts, a.length, g) ∧ ts ≠ [] ∧ (∀ t ∈ ts, NotAlt t) ∧ g ≤ 9 ∧ 3 * (b.length + 1) + 1 ≤ f'' ∧ m' = altL f'' (a ++ 124 :: b) ts a.length op g
theorem timesLM_kind {l : List UInt8} : ∀ (k : Nat) {e : T} {p : Nat} {x : T × Nat}, NotAlt e → timesLM k l e p = .ok x → NotAlt x.1
  | 0, e, p, x, _, h => by unfold timesLM at h; cases h
  | k + 1, e, p, x, he, h => by
    have rep : ∀ {t : T} {mn mx : Int}, NotAlt (repM t mn mx) := by intro t mn mx; show (6 : Nat) ≠ 5; decide
    unfold timesLM at h
    split at h
    · exact timesLM_kind k rep h
    split at h
    · exact timesLM_kind k rep h
    split at h
    · exact timesLM_kind k rep h
    split at h
    · split at h
      · rename_i y hy
        have : NotAlt y.1 := by
          unfold intM at hy
          split at hy
          · cases hy
          · split at hy
            · cases hy
            · cases hy; exact rep
        exact timesLM_kind k this h
      · cases h
      · cases h
    · cases h
      exact he
theorem thenTimes_kind {l : List UInt8} {k : Nat} {m : Res (T × Nat × Nat)} {x : T × Nat × Nat} (hm : ∀ y, m = .ok y → NotAlt y.1) (h : thenTimes k l m = .ok x) : NotAlt x.1 := by
  unfold thenTimes at h
  cases m with
  | out => cases h
  | bad c q => cases h
  | ok y =>
    obtain ⟨t, q, g⟩ := y
    simp only at h
    cases hr : timesLM k l t q with
    | out => rw [hr] at h; cases h
    | bad c q => rw [hr] at h; cases h
    | ok z =>
      rw [hr] at h
      obtain ⟨u, q2⟩ := z
      cases h
      exact timesLM_kind k (hm _ rfl) hr
theorem with_ok {m : Res (T × Nat)} {x : T × Nat × Nat} (h : m.with gr = .ok x) : m = .ok (x.1, x.2.1) := by
  cases m with
  | out => cases h
  | bad c q => cases h
  | ok y => obtain ⟨t, q⟩ := y; cases h; rfl
theorem itemM_kind {l : List UInt8} {f : Nat} {x : T × Nat × Nat} (h : itemM f l p op gr = .ok x) : NotAlt x.1 := by
  have leaf : ∀ {k : Nat} {s : W4}, k ≠ 5 → NotAlt (.node k s 0 0 0 []) := fun h => h
  have anch : ∀ {k q : Nat} {y : T × Nat}, k ≠ 5 → anchorM l k q = .ok y → NotAlt y.1 := by
    intro k q y hk h
    unfold anchorM at h
    split at h
    · cases h
    · cases h; exact leaf hk
  cases f with
  | zero => unfold itemM at h; cases h
  | succ f =>
    unfold itemM at h
    split at h
    · cases h
    split at h
    · exact anch (by decide) (with_ok h)
    split at h
    · exact anch (by decide) (with_ok h)
    split at h
    · refine thenTimes_kind (fun y hy => ?_) h
      unfold groupM at hy
      split at hy
      · cases hy
      · split at hy
        · split at hy
          · cases hy; show (7 : Nat) ≠ 5; decide
          · cases hy
        · cases hy
        · cases hy
    split at h
    · refine thenTimes_kind (fun y hy => ?_) h
      have hy := with_ok hy
      unfold escM at hy
      split at hy
      · cases hy
      · split at hy
        · injection hy with hy; have := congrArg Prod.fst hy; simp only at this; rw [← this]; exact leaf (by decide)
        · split at hy
          · injection hy with hy; have := congrArg Prod.fst hy; simp only at this; rw [← this]; exact leaf (by decide)
          · cases hy
    split at h
    · exact thenTimes_kind (fun y hy => by cases hy; exact leaf (by decide)) h
    split at h
    · refine thenTimes_kind (fun y hy => ?_) h
      have hy := with_ok hy
      unfold brkM at hy
      split at hy
      · injection hy with hy; have := congrArg Prod.fst hy; simp only at this; rw [← this]; exact leaf (by decide)
      · cases hy
      · cases hy
    · split at h
      · exact thenTimes_kind (fun y hy => by cases hy; exact leaf (by decide)) h
      · cases h
theorem branchL_kind {l : List UInt8} : ∀ (f : Nat) {ts : List T} {p op gr : Nat} {x : T × Nat × Nat}, (∀ t ∈ ts, NotAlt t) → branchL f l ts p op gr = .ok x → NotAlt x.1
  | 0, ts, p, op, gr, x, _, h => by unfold branchL at h; cases h
  | f + 1, ts, p, op, gr, x, hts, h => by
    unfold branchL at h
    split at h
    · split at h
      · split at h <;> cases h
      · cases h
        unfold joinM
        split
        · exact hts _ (List.mem_cons_self ..)
        · show (4 : Nat) ≠ 5; decide
    · cases hm : itemM f l p op gr with
      | out => rw [hm] at h; cases h
      | bad c q => rw [hm] at h; cases h
      | ok y =>
        rw [hm] at h
        obtain ⟨t, q, g⟩ := y
        exact branchL_kind f (fun u hu => by rcases List.mem_append.1 hu with h' | h'; exact hts u h'; rw [List.mem_singleton.1 h']; exact itemM_kind hm) h
end Rt
end Go.Proofs

set_option maxRecDepth 100000
namespace Go.Proofs
open Go.Vcg
namespace Rt
variable {a b : List UInt8} {p : Nat} {op gr : Nat}

/-- the whole of the front's reading, seen in the longer text -/
theorem ext_pre (hlast : ∀ p, p + 1 = a.length → a[p]? ≠ some 92) : ∀ (f : Nat),
    (∀ {f' p op gr}, p < a.length → gr ≤ 9 → 3 * (a.length - p) ≤ f → 3 * (a.length + b.length + 1 - p) ≤ f' → RI a (itemM f a p op gr) (itemM f' (a ++ 124 :: b) p op gr)) ∧
    (∀ {f' ts p op gr}, p ≤ a.length → gr ≤ 9 → (∀ t ∈ ts, Good t) → 3 * (a.length - p) + 1 ≤ f → 3 * (a.length + b.length + 1 - p) + 1 ≤ f' → RI a (branchL f a ts p op gr) (branchL f' (a ++ 124 :: b) ts p op gr)) ∧
    (∀ {f' ts p op gr}, p ≤ a.length → gr ≤ 9 → (∀ t ∈ ts, Good t) → ts ≠ [] → (∀ t ∈ ts, NotAlt t) → 3 * (a.length - p) + 1 ≤ f → 3 * (a.length + b.length + 1 - p) + 1 ≤ f' → RA a b op (altL f a ts p op gr) (altL f' (a ++ 124 :: b) ts p op gr)) ∧
    (∀ {f' p op gr}, p ≤ a.length → gr ≤ 9 → 3 * (a.length - p) + 2 ≤ f → 3 * (a.length + b.length + 1 - p) + 2 ≤ f' → RA a b op (branchesM f a p op gr) (branchesM f' (a ++ 124 :: b) p op gr))
  | 0 => ⟨fun _ _ _ _ => by omega, fun _ _ _ _ _ => by omega, fun _ _ _ _ _ _ _ => by omega, fun _ _ _ _ => by omega⟩
  | f + 1 => by
    obtain ⟨ihI, ihL, ihA, ihB⟩ := ext_pre hlast f
    obtain ⟨eI, eL, eA, eB⟩ := ext_end (l := a) f
    have hM : (a ++ 124 :: b).length = a.length + b.length + 1 := by simp; omega
    refine ⟨?_, ?_, ?_, ?_⟩
    · intro f' p op gr hp hg hf hf'
      obtain ⟨f', rfl⟩ : ∃ j, f' = j + 1 := ⟨f' - 1, by omega⟩
      have hp' : p ≤ a.length := by omega
      have m94 := isM_pre (b := b) (x := 94) hp' (by decide)
      have m36 := isM_pre (b := b) (x := 36) hp' (by decide)
      have m40 := isM_pre (b := b) (x := 40) hp' (by decide)
      have m92 := isM_pre (b := b) (x := 92) hp' (by decide)
      have m46 := isM_pre (b := b) (x := 46) hp' (by decide)
      have m91 := isM_pre (b := b) (x := 91) hp' (by decide)
      unfold itemM
      rw [timesM_pre hp', m94, m36, m40, m92, m46, m91, anchorM_pre (by omega), anchorM_pre (by omega), get_pre hp]
      by_cases c1 : timesM a p = true
      · rw [if_pos c1, if_pos c1]; exact .inr rfl
      rw [if_neg c1, if_neg c1]
      by_cases c2 : isM a [94] p = true
      · rw [if_pos c2, if_pos c2]; exact .inr rfl
      rw [if_neg c2, if_neg c2]
      by_cases c3 : isM a [36] p = true
      · rw [if_pos c3, if_pos c3]; exact .inr rfl
      rw [if_neg c3, if_neg c3]
      by_cases c4 : isM a [40] p = true
      · rw [if_pos c4, if_pos c4]
        by_cases h9 : gr = 9
        · unfold groupM
          rw [if_pos h9, if_pos h9]
          exact .inr rfl
        have hB := ihB (f' := f') (p := p + 1) (op := op + 1) (gr := gr + 1) (by omega) (by omega) (by omega) (by omega)
        have hE := eB (p := p + 1) (op := op + 1) (gr := gr + 1) (by omega) (by omega) (by omega)
        refine thenTimes_pre (p0 := p + 1) ?_ ?_ (by omega) (by omega)
        · unfold groupM
          rw [if_neg h9, if_neg h9]
          rcases hB with ⟨c, e⟩ | ⟨e, hlt⟩ | ⟨ts, g, f'', e, _⟩
          · rw [e]; exact .inl ⟨c, rfl⟩
          · rw [e]
            cases hm : branchesM f a (p + 1) (op + 1) (gr + 1) with
            | out => exact .inr rfl
            | bad c q => exact .inr rfl
            | ok x =>
              obtain ⟨t, q, g⟩ := x
              have hq := hlt t q g hm
              simp only
              rw [isM_pre (by omega) (by decide)]
              by_cases c : isM a [41] q = true
              · rw [if_pos c, if_pos c]; exact .inr rfl
              · rw [if_neg c, if_neg c]; exact .inl ⟨9, rfl⟩
          · rw [e]
            simp only
            rw [isM_end, if_neg (by simp)]
            exact .inl ⟨9, rfl⟩
        · intro t q g hm
          have := groupM_end (l := a) (start := p) (shut := [41]) (gr := gr) (B := 3 * (p + 1) + 1) (B' := 0) (by omega) hg (by simp) (fun _ => hE)
          rw [hm] at this
          exact ⟨by have := this.2.1; simp only at this; omega, this.2.2.1⟩
      rw [if_neg c4, if_neg c4]
      by_cases c5 : isM a [92] p = true
      · rw [if_pos c5, if_pos c5]
        have hne : p + 1 ≠ a.length := fun e => hlast p e (by rw [isM_one] at c5; unfold isB at c5; exact of_decide_eq_true c5)
        rw [escM_pre (by omega)]
        refine thenTimes_pre (p0 := p + 1) (.inr rfl) (fun t q g hm => ?_) (by omega) (by omega)
        have := (escM_end (signs := extSigns) hp).with (gr := gr) hg
        rw [hm] at this
        exact ⟨this.2.1, this.2.2.1⟩
      rw [if_neg c5, if_neg c5]
      by_cases c6 : isM a [46] p = true
      · rw [if_pos c6, if_pos c6]
        exact thenTimes_pre (p0 := p + 1) (.inr rfl) (fun t q g hm => by cases hm; omega) (by omega) (by omega)
      rw [if_neg c6, if_neg c6]
      by_cases c7 : isM a [91] p = true
      · rw [if_pos c7, if_pos c7]
        refine thenTimes_pre (p0 := p + 1) ?_ (fun t q g hm => ?_) (by omega) (by omega)
        · rcases brkM_pre (b := b) (show p + 1 ≤ a.length from by omega) with ⟨c, e⟩ | e
          · rw [e]; exact .inl ⟨c, rfl⟩
          · rw [e]; exact .inr rfl
        · have := (brkM_end (l := a) (ext := true) (p := p + 1) (by omega)).with (gr := gr) hg
          rw [hm] at this
          exact ⟨this.2.1, this.2.2.1⟩
      rw [if_neg c7, if_neg c7, List.getElem?_eq_getElem hp]
      exact thenTimes_pre (p0 := p + 1) (.inr rfl) (fun t q g hm => by cases hm; omega) (by omega) (by omega)
    · intro f' ts p op gr hp hg hts hf hf'
      obtain ⟨f', rfl⟩ : ∃ j, f' = j + 1 := ⟨f' - 1, by omega⟩
      unfold branchL
      rcases Nat.lt_or_eq_of_le hp with hlt | he
      · rw [isM_pre' hlt, isM_pre' hlt]
        by_cases c1 : isM a [124] p = true ∨ isM a [41] p = true
        · have ca : a.length ≤ p ∨ isM a [124] p = true ∨ isM a [41] p = true := .inr c1
          have cM : (a ++ 124 :: b).length ≤ p ∨ isM a [124] p = true ∨ isM a [41] p = true := .inr c1
          rw [if_pos ca, if_pos cM]
          exact .inr rfl
        · have ca : ¬ (a.length ≤ p ∨ isM a [124] p = true ∨ isM a [41] p = true) := fun e => e.elim (by omega) c1
          have cM : ¬ ((a ++ 124 :: b).length ≤ p ∨ isM a [124] p = true ∨ isM a [41] p = true) := fun e => e.elim (by omega) c1
          rw [if_neg ca, if_neg cM]
          have hI := ihI (f' := f') (op := op) hlt hg (by omega) (by omega)
          have hE := eI (op := op) hlt hg (by omega)
          rcases hI with ⟨c, e⟩ | e
          · rw [e]; exact .inl ⟨c, rfl⟩
          · rw [e]
            cases hm : itemM f a p op gr with
            | out => exact .inr rfl
            | bad c q => exact .inr rfl
            | ok x =>
              rw [hm] at hE
              obtain ⟨t, q, g⟩ := x
              obtain ⟨g1, g2, g3, g4, _⟩ := hE
              simp only at g1 g2 g3 g4
              exact ihL g3 g4 (fun u hu => by rcases List.mem_append.1 hu with h | h; exact hts u h; rw [List.mem_singleton.1 h]; exact g1) (by omega) (by omega)
      · subst he
        have hbar : isM (a ++ 124 :: b) [124] a.length = true := by rw [isM_one]; unfold isB; rw [get_bar]; rfl
        have ca : a.length ≤ a.length ∨ isM a [124] a.length = true ∨ isM a [41] a.length = true := .inl (Nat.le_refl _)
        have cM : (a ++ 124 :: b).length ≤ a.length ∨ isM (a ++ 124 :: b) [124] a.length = true ∨ isM (a ++ 124 :: b) [41] a.length = true := .inr (.inl hbar)
        rw [if_pos ca, if_pos cM]
        by_cases c : ts.isEmpty = true
        · rw [if_pos c, if_pos c, isM_end, if_neg (by simp)]
          exact .inl ⟨3, rfl⟩
        · rw [if_neg c, if_neg c]
          exact .inr rfl
    · intro f' ts p op gr hp hg hts hne hna hf hf'
      rcases Nat.lt_or_eq_of_le hp with hlt | he
      · obtain ⟨f', rfl⟩ : ∃ j, f' = j + 1 := ⟨f' - 1, by omega⟩
        unfold altL
        rw [isM_pre' hlt]
        by_cases c1 : isM a [124] p = true
        · rw [if_pos c1, if_pos c1]
          have hL := ihL (f' := f') (ts := []) (p := p + 1) (op := op) (by omega) hg (fun _ h => by simp at h) (by omega) (by omega)
          have hE := eL (B := 3 * (p + 1)) (ts := []) (p := p + 1) (op := op) (by omega) hg (fun _ h => by simp at h) (by simp [szL]) (fun h => absurd rfl h) (by omega)
          rcases hL with ⟨c, e⟩ | e
          · rw [e]; exact .inl ⟨c, rfl⟩
          · rw [e]
            cases hm : branchL f a [] (p + 1) op gr with
            | out => exact .inr (.inl ⟨rfl, fun _ _ _ h => by cases h⟩)
            | bad c q => exact .inr (.inl ⟨rfl, fun _ _ _ h => by cases h⟩)
            | ok x =>
              rw [hm] at hE
              obtain ⟨t, q, g⟩ := x
              obtain ⟨g1, g2, g3, g4, _⟩ := hE
              simp only [if_true] at g1 g2 g3 g4
              exact ihA g3 g4 (fun u hu => by rcases List.mem_append.1 hu with h | h; exact hts u h; rw [List.mem_singleton.1 h]; exact g1) (by simp)
                (fun u hu => by rcases List.mem_append.1 hu with h | h; exact hna u h; rw [List.mem_singleton.1 h]; exact branchL_kind f (fun _ h => by simp at h) hm) (by omega) (by omega)
        · rw [if_neg c1, if_neg c1]
          exact .inr (.inl ⟨rfl, fun _ _ _ h => by cases h; exact hlt⟩)
      · subst he
        refine .inr (.inr ⟨ts, gr, f', ?_, hne, hna, hg, by omega, rfl⟩)
        unfold altL
        rw [isM_end, if_neg (by simp)]
    · intro f' p op gr hp hg hf hf'
      obtain ⟨f', rfl⟩ : ∃ j, f' = j + 1 := ⟨f' - 1, by omega⟩
      unfold branchesM
      have hL := ihL (f' := f') (ts := []) (op := op) hp hg (fun _ h => by simp at h) (by omega) (by omega)
      have hE := eL (B := 3 * p) (ts := []) (op := op) hp hg (fun _ h => by simp at h) (by simp [szL]) (fun h => absurd rfl h) (by omega)
      rcases hL with ⟨c, e⟩ | e
      · rw [e]; exact .inl ⟨c, rfl⟩
      · rw [e]
        cases hm : branchL f a [] p op gr with
        | out => exact .inr (.inl ⟨rfl, fun _ _ _ h => by cases h⟩)
        | bad c q => exact .inr (.inl ⟨rfl, fun _ _ _ h => by cases h⟩)
        | ok x =>
          rw [hm] at hE
          obtain ⟨t, q, g⟩ := x
          obtain ⟨g1, g2, g3, g4, _⟩ := hE
          simp only [if_true] at g1 g2 g3 g4
          exact ihA g3 g4 (fun u hu => by rw [List.mem_singleton.1 hu]; exact g1) (by simp) (fun u hu => by rw [List.mem_singleton.1 hu]; exact branchL_kind f (fun _ h => by simp at h) hm) (by omega) (by omega)
end Rt
end Go.Proofs
