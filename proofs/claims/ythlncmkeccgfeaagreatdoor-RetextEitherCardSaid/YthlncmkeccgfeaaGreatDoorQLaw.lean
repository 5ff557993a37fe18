/- A part of the proofs over this seat: QLaw. -/
import Derived.Test.YthlncmkeccgfeaaGreatDoorSam
set_option linter.unusedVariables false
set_option linter.unusedSimpArgs false
set_option maxRecDepth 100000
namespace Go.Proofs
open Go.Vcg
namespace Rt
/-- what begins a quoted byte -/
def headOk (ext : Bool) (x : UInt8) : Bool :=
  if ext then ![124, 41, 42, 43, 63, 123, 94, 36, 40, 46, 91].contains x else ![42, 94, 36, 46, 91].contains x
def escOk (ext : Bool) (x : UInt8) : Bool := if ext then extSigns.contains x else basSigns.contains x
/-- a quoted byte: itself, or a backslash and what stands for it -/
theorem qByte_cases (ext : Bool) (c : UInt8) : (qByte ext c = [c] ∧ headOk ext c = true ∧ c ≠ 92) ∨ (c = 10 ∧ qByte ext c = [92, 110]) ∨ (qByte ext c = [92, c] ∧ c ≠ 110 ∧ escOk ext c = true) := by
  have h : ∀ (e : Bool) (n : Fin 256), (let c := UInt8.ofNat n.val; (qByte e c = [c] ∧ headOk e c = true ∧ c ≠ 92) ∨ (c = 10 ∧ qByte e c = [92, 110]) ∨ (qByte e c = [92, c] ∧ c ≠ 110 ∧ escOk e c = true)) := by decide +kernel
  have := h ext ⟨c.toNat, c.toNat_lt⟩
  simpa using this

theorem isM1 {l tl : List UInt8} {p : Nat} {a y : UInt8} (h : l.drop p = y :: tl) : isM l [a] p = (a == y) := by
  unfold isM
  rw [h]
  simp [List.isPrefixOf]
theorem isM0 {l x : List UInt8} {a : UInt8} {p : Nat} (h : l.drop p = []) : isM l (a :: x) p = false := by
  unfold isM
  rw [h]
  rfl
/-- what follows begins as a quoted byte does, or ends -/
def Hd (ext : Bool) (r : List UInt8) : Prop := ∀ y ∈ r.head?, headOk ext y = true
theorem Hd.isM {ext : Bool} {l : List UInt8} {p : Nat} (h : Hd ext (l.drop p)) {a : UInt8} (ha : headOk ext a = false) : isM l [a] p = false := by
  cases hd : l.drop p with
  | nil => exact isM0 hd
  | cons y tl =>
    rw [isM1 hd]
    have := h y (by rw [hd]; rfl)
    by_cases e : a = y
    · subst e; rw [ha] at this; cases this
    · simpa using e
theorem Hd.quote (ext : Bool) : ∀ (s : List UInt8), Hd ext (quoteM s ext)
  | [], y, hy => by simp [quoteM] at hy
  | c :: s, y, hy => by
    simp only [quoteM, List.flatMap_cons] at hy
    rcases qByte_cases ext c with ⟨h1, h2, _⟩ | ⟨_, h1⟩ | ⟨h1, _⟩
    · rw [h1] at hy
      simp at hy
      subst hy
      exact h2
    · rw [h1] at hy
      simp at hy
      subst hy
      cases ext <;> rfl
    · rw [h1] at hy
      simp at hy
      subst hy
      cases ext <;> rfl
theorem Hd.times {l : List UInt8} {p : Nat} (h : Hd true (l.drop p)) : timesM l p = false := by
  unfold timesM
  rw [h.isM rfl, h.isM rfl, h.isM rfl, h.isM rfl]
  rfl
theorem Hd.loop {l : List UInt8} {p k : Nat} {t : T} (h : Hd true (l.drop p)) : timesLM (k + 1) l t p = .ok (t, p) := by
  unfold timesLM
  rw [h.isM rfl, h.isM rfl, h.isM rfl, h.isM rfl]
  rfl
theorem drop_more {l q rest : List UInt8} {p : Nat} (h : l.drop p = q ++ rest) : l.drop (p + q.length) = rest := by
  rw [← List.drop_drop, h, List.drop_left]

theorem item_quoted {l rest : List UInt8} {p k : Nat} {c : UInt8} (h : l.drop p = qByte true c ++ rest) (hr : Hd true rest) (op gr : Nat) :
    itemM (k + 2) l p op gr = .ok (single c, p + (qByte true c).length, gr) := by
  have hd : Hd true (l.drop p) := by
    intro y hy
    rw [h] at hy
    rcases qByte_cases true c with ⟨h1, h2, _⟩ | ⟨_, h1⟩ | ⟨h1, _⟩ <;> rw [h1] at hy <;> simp at hy <;> subst hy
    · exact h2
    · rfl
    · rfl
  have h2 := drop_more h
  have hg : ∀ i, l[p + i]? = (qByte true c ++ rest)[i]? := fun i => by rw [← h, List.getElem?_drop]
  unfold itemM
  rw [hd.times]
  simp only [hd.isM (a := 94) rfl, hd.isM (a := 36) rfl, hd.isM (a := 40) rfl, hd.isM (a := 46) rfl, hd.isM (a := 91) rfl, Bool.false_eq_true, if_false]
  rcases qByte_cases true c with ⟨h1, _, h3⟩ | ⟨hc, h1⟩ | ⟨h1, h3, h4⟩
  · rw [h1] at h h2 hg ⊢
    have e0 : isM l [92] p = false := by rw [isM1 h]; simpa using Ne.symm h3
    have g0 : l[p]? = some c := by simpa using hg 0
    rw [e0, g0]
    simp only [Bool.false_eq_true, if_false, thenTimes]
    rw [Hd.loop (by rw [show p + 1 = p + [c].length from rfl, h2]; exact hr)]
    rfl
  · subst hc
    rw [h1] at h h2 hg ⊢
    have e0 : isM l [92] p = true := by rw [isM1 h]; rfl
    have g1 : l[p + 1]? = some 110 := by simpa using hg 1
    rw [e0]
    simp only [if_true, escM, g1, Res.with, thenTimes]
    rw [Hd.loop (by rw [show p + 2 = p + [92, (110 : UInt8)].length from rfl, h2]; exact hr)]
    rfl
  · rw [h1] at h h2 hg ⊢
    have e0 : isM l [92] p = true := by rw [isM1 h]; rfl
    have g1 : l[p + 1]? = some c := by simpa using hg 1
    rw [e0]
    simp only [escOk, if_true] at h4
    simp only [if_true, escM, g1, h3, if_false, h4, Res.with, thenTimes]
    rw [Hd.loop (by rw [show p + 2 = p + [92, c].length from rfl, h2]; exact hr)]
    rfl

theorem qByte_ne (ext : Bool) (c : UInt8) : ∃ y tl, qByte ext c = y :: tl := by
  rcases qByte_cases ext c with ⟨h1, _⟩ | ⟨_, h1⟩ | ⟨h1, _⟩ <;> exact ⟨_, _, h1⟩
theorem drop_lt {l : List UInt8} {p : Nat} {y : UInt8} {tl : List UInt8} (h : l.drop p = y :: tl) : p < l.length := by
  have : (l.drop p).length = tl.length + 1 := by rw [h]; rfl
  simp at this
  omega
theorem branch_quoted : ∀ (s : List UInt8) {l : List UInt8} {p k op gr : Nat} {ts : List T}, l.drop p = quoteM s true → p ≤ l.length → s.length + 3 ≤ k → ts ++ s.map single ≠ [] →
    branchL k l ts p op gr = .ok (joinM 4 (ts ++ s.map single), l.length, gr)
  | [], l, p, k, op, gr, ts, h, hp, hk, hne => by
    obtain ⟨k, rfl⟩ : ∃ j, k = j + 1 := ⟨k - 1, by omega⟩
    have hl : l.length ≤ p := by
      have : (l.drop p).length = 0 := by rw [h]; rfl
      simp at this
      omega
    have : p = l.length := by omega
    subst this
    have hts : ts.isEmpty = false := by cases ts <;> simp at hne ⊢
    unfold branchL
    rw [if_pos (.inl hl), hts]
    simp
  | c :: s, l, p, k, op, gr, ts, h, hp, hk, hne => by
    obtain ⟨k, rfl⟩ : ∃ j, k = j + 3 := ⟨k - 3, by simp at hk; omega⟩
    have h' : l.drop p = qByte true c ++ quoteM s true := by rw [h]; simp [quoteM]
    have hd : Hd true (l.drop p) := by rw [h]; exact Hd.quote true _
    obtain ⟨y, tl, hy⟩ := qByte_ne true c
    have hlt : p < l.length := drop_lt (by rw [h', hy]; rfl)
    have h2 := drop_more h'
    have hp2 : p + (qByte true c).length ≤ l.length := by
      have : (l.drop p).length = (qByte true c).length + (quoteM s true).length := by rw [h', List.length_append]
      simp at this
      omega
    unfold branchL
    rw [if_neg (by simp [hd.isM (a := 124) rfl, hd.isM (a := 41) rfl]; omega), item_quoted h' (Hd.quote true s)]
    simp only
    rw [branch_quoted s h2 hp2 (by simp at hk; omega) (by simp)]
    simp
theorem whole_quoted_ext {s : List UInt8} {k : Nat} (hs : s ≠ []) (hk : s.length + 10 ≤ k) : wholeM k (quoteM s true) true = .ok (joinM 4 (s.map single), (quoteM s true).length, 0) := by
  obtain ⟨k, rfl⟩ : ∃ j, k = j + 2 := ⟨k - 2, by omega⟩
  unfold wholeM
  simp only [if_true]
  unfold branchesM
  rw [branch_quoted s (p := 0) (by simp) (by omega) (by omega) (by simpa using hs)]
  simp only
  unfold altL
  rw [isM0 (by simp)]
  simp [joinM]

/-! ### The basic grammar -/
theorem isM2 {l tl : List UInt8} {p : Nat} {a b y z : UInt8} (h : l.drop p = y :: z :: tl) : isM l [a, b] p = (a == y && b == z) := by
  unfold isM
  rw [h]
  simp [List.isPrefixOf]
theorem isM2n {l tl : List UInt8} {p : Nat} {a b y : UInt8} (h : l.drop p = y :: tl) (hn : a ≠ y) : isM l [a, b] p = false := by
  unfold isM
  rw [h]
  have : (a == y) = false := by simpa using hn
  simp [List.isPrefixOf, this]
/-- behind a backslash of a quoted text stands no sign that opens -/
def Hb (r : List UInt8) : Prop := ∀ b : UInt8, b = 40 ∨ b = 41 ∨ b = 123 ∨ b = 125 → ∀ tl, r ≠ 92 :: b :: tl
theorem Hb.quote : ∀ (s : List UInt8), Hb (quoteM s false)
  | [], b, hb, tl, h => by simp [quoteM] at h
  | c :: s, b, hb, tl, h => by
    simp only [quoteM, List.flatMap_cons] at h
    rcases qByte_cases false c with ⟨h1, h2, h3⟩ | ⟨_, h1⟩ | ⟨h1, h2, h3⟩
    · rw [h1] at h
      simp at h
      exact h3 h.1
    · rw [h1] at h
      simp at h
      obtain ⟨rfl, _⟩ := h
      simp at hb
    · rw [h1] at h
      simp at h
      obtain ⟨rfl, _⟩ := h
      rcases hb with rfl | rfl | rfl | rfl <;> simp [escOk, basSigns] at h3
theorem Hb.isM {l : List UInt8} {p : Nat} (h : Hb (l.drop p)) {b : UInt8} (hb : b = 40 ∨ b = 41 ∨ b = 123 ∨ b = 125) : isM l [92, b] p = false := by
  cases hd : l.drop p with
  | nil => exact isM0 hd
  | cons y tl =>
    by_cases hy : (92 : UInt8) = y
    · subst hy
      cases tl with
      | nil => unfold Rt.isM; rw [hd]; simp [List.isPrefixOf]
      | cons z tl =>
        rw [isM2 hd]
        by_cases e : b = z
        · subst e; exact absurd hd (h b hb tl)
        · simpa using e
    · exact isM2n hd hy
theorem loopB {l : List UInt8} {p k : Nat} {t : T} (h : Hd false (l.drop p)) (hb : Hb (l.drop p)) : timesBM (k + 1) l t p = .ok (t, p) := by
  unfold timesBM
  rw [h.isM rfl, hb.isM (by simp)]
  rfl
theorem atom_quoted {l rest : List UInt8} {p k : Nat} {c : UInt8} (h : l.drop p = qByte false c ++ rest) (hb : Hb (l.drop p)) (op gr : Nat) :
    atomM (k + 1) l p op gr = .ok (single c, p + (qByte false c).length, gr) := by
  have hd : Hd false (l.drop p) := by
    intro y hy
    rw [h] at hy
    rcases qByte_cases false c with ⟨h1, h2, _⟩ | ⟨_, h1⟩ | ⟨h1, _⟩ <;> rw [h1] at hy <;> simp at hy <;> subst hy
    · exact h2
    · rfl
    · rfl
  have hg : ∀ i, l[p + i]? = (qByte false c ++ rest)[i]? := fun i => by rw [← h, List.getElem?_drop]
  unfold atomM
  simp only [hb.isM (b := 40) (by simp), hb.isM (b := 123) (by simp), hb.isM (b := 125) (by simp), hd.isM (a := 46) rfl, hd.isM (a := 91) rfl, Bool.false_eq_true, if_false, or_self]
  rcases qByte_cases false c with ⟨h1, _, h3⟩ | ⟨hc, h1⟩ | ⟨h1, h3, h4⟩
  · rw [h1] at h hg ⊢
    have e0 : isM l [92] p = false := by rw [isM1 h]; simpa using Ne.symm h3
    have g0 : l[p]? = some c := by simpa using hg 0
    rw [e0, g0]
    simp
  · subst hc
    rw [h1] at h hg ⊢
    have e0 : isM l [92] p = true := by rw [isM1 h]; rfl
    have g1 : l[p + 1]? = some 110 := by simpa using hg 1
    rw [e0]
    simp [escM, g1, Res.with]
  · rw [h1] at h hg ⊢
    have e0 : isM l [92] p = true := by rw [isM1 h]; rfl
    have g1 : l[p + 1]? = some c := by simpa using hg 1
    rw [e0]
    simp only [escOk, Bool.false_eq_true, if_false] at h4
    simp only [if_true, escM, g1, h3, if_false, h4, Res.with]
    rfl
theorem basic_quoted : ∀ (s : List UInt8) {l : List UInt8} {p k op gr : Nat} {ts : List T}, l.drop p = quoteM s false → p ≤ l.length → s.length + 3 ≤ k → ts ++ s.map single ≠ [] →
    basL k l ts p op gr = .ok (joinM 4 (ts ++ s.map single), l.length, gr)
  | [], l, p, k, op, gr, ts, h, hp, hk, hne => by
    obtain ⟨k, rfl⟩ : ∃ j, k = j + 1 := ⟨k - 1, by omega⟩
    have hl : l.length ≤ p := by
      have : (l.drop p).length = 0 := by rw [h]; rfl
      simp at this
      omega
    have : p = l.length := by omega
    subst this
    have hts : ts.isEmpty = false := by cases ts <;> simp at hne ⊢
    unfold basL
    rw [if_pos (.inl hl), finB, hts]
    simp
  | c :: s, l, p, k, op, gr, ts, h, hp, hk, hne => by
    obtain ⟨k, rfl⟩ : ∃ j, k = j + 2 := ⟨k - 2, by simp at hk; omega⟩
    have h' : l.drop p = qByte false c ++ quoteM s false := by rw [h]; simp [quoteM]
    have hd : Hd false (l.drop p) := by rw [h]; exact Hd.quote false _
    have hb : Hb (l.drop p) := by rw [h]; exact Hb.quote _
    obtain ⟨y, tl, hy⟩ := qByte_ne false c
    have hlt : p < l.length := drop_lt (by rw [h', hy]; rfl)
    have h2 := drop_more h'
    have hp2 : p + (qByte false c).length ≤ l.length := by
      have : (l.drop p).length = (qByte false c).length + (quoteM s false).length := by rw [h', List.length_append]
      simp at this
      omega
    unfold basL
    rw [if_neg (by simp [hb.isM (b := 41) (by simp)]; omega), if_neg (by simp [hd.isM (a := 36) rfl]), atom_quoted h' hb]
    simp only
    rw [loopB (by rw [h2]; exact Hd.quote false s) (by rw [h2]; exact Hb.quote s)]
    simp only
    rw [basic_quoted s h2 hp2 (by simp at hk; omega) (by simp)]
    simp
theorem whole_quoted_bas {s : List UInt8} {k : Nat} (hs : s ≠ []) (hk : s.length + 10 ≤ k) : wholeM k (quoteM s false) false = .ok (joinM 4 (s.map single), (quoteM s false).length, 0) := by
  obtain ⟨k, rfl⟩ : ∃ j, k = j + 2 := ⟨k - 2, by omega⟩
  unfold wholeM
  simp only [Bool.false_eq_true, if_false]
  unfold basicM
  have hd : Hd false ((quoteM s false).drop 0) := by rw [List.drop_zero]; exact Hd.quote false s
  rw [hd.isM (a := 94) rfl]
  simp only [Bool.false_eq_true, if_false]
  rw [basic_quoted s (p := 0) (by simp) (by omega) (by omega) (by simpa using hs)]
  simp
/-- what is quoted stands for itself -/
theorem whole_quoted {s : List UInt8} {ext : Bool} {k : Nat} (hs : s ≠ []) (hk : s.length + 10 ≤ k) : wholeM k (quoteM s ext) ext = .ok (joinM 4 (s.map single), (quoteM s ext).length, 0) := by
  cases ext
  · exact whole_quoted_bas hs hk
  · exact whole_quoted_ext hs hk
end Rt
end Go.Proofs
