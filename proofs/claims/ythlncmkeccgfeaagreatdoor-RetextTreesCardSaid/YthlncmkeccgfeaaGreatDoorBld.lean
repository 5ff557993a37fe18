/- A part of the proofs over this seat: Bld. -/
import Derived.Test.YthlncmkeccgfeaaGreatDoorEqs
import Derived.Lib.Builder
import Derived.Lib.AppendStr
import Derived.Lib.UnsafeStr
set_option linter.unusedVariables false
set_option linter.unusedSimpArgs false
set_option maxRecDepth 100000
namespace Go.Proofs
open Go.Vcg
namespace Rt
attribute [local congr] Reads.congr ReadsS.congr pLoad.congr pLoadS.congr pStore.congr Runs.congr CallsH.congr bcase.congr boolV.congr Stable.congr pAlloc.congr
mutual
def sameT : T → T → Bool
  | .node k s mn mx g ts, .node k' s' mn' mx' g' us => decide (k = k') && (decide (s = s') && (decide (mn = mn') && (decide (mx = mx') && (decide (g = g') && sameL ts us))))
def sameL : List T → List T → Bool
  | [], [] => true
  | t :: ts, u :: us => sameT t u && sameL ts us
  | _, _ => false
end
theorem sameL_len : ∀ {ts us : List T}, ts.length ≠ us.length → sameL ts us = false
  | [], [], h => absurd rfl h
  | [], _ :: _, _ => by unfold sameL; rfl
  | _ :: _, [], _ => by unfold sameL; rfl
  | t :: ts, u :: us, h => by unfold sameL; rw [sameL_len (by simpa using h)]; simp

theorem kidsOf {h : Heap} {Q : Nat → Prop} {k g : Nat} {s : W4} {mn mx : Int} {ts : List T} {vs : List Value} (ht : IsRe h Q (.node k s mn mx g ts) vs) : ∃ q c, vs = reL k s mn mx g (.slice q ts.length c) ∧
    (ts ≠ [] → ∃ b cur, q = some ⟨b, 0, none⟩ ∧ ts.length * 9 ≤ cur.size ∧ h[b]? = some (.cells cur 36 (0, 0)) ∧ IsRow h Q ts (cur.toList.take (ts.length * 9))) := by
  simp only [IsRe] at ht
  obtain ⟨kv, rfl, hk⟩ := ht
  rcases hk with ⟨rfl, rfl⟩ | ⟨b, cap, cur, hQ, rfl, h1, h2, h3, h4⟩
  · exact ⟨none, 0, rfl, fun h => absurd rfl h⟩
  · exact ⟨_, _, rfl, fun _ => ⟨b, cur, rfl, h2, h3, h4⟩⟩

theorem same_spec : ∀ (m : Nat) {h : Heap} {Q Q' : Nat → Prop} {t u : T} {vs ws : List Value} {R : Value → Heap → Prop} {E : List PanicEntry → Heap → Prop}, szT t ≤ m → szT t ≤ 1000000 → IsRe h Q t vs → IsRe h Q' u ws →
    (∀ h', Fm h.size h.size h h' → R (.bool (sameT t u)) h') → CallsH Tryz.prog 14 #[.agg vs.toArray, .agg ws.toArray] h R E := by
  intro m
  induction m with
  | zero => intro h Q Q' t u vs ws R E hm; cases t; simp [szT] at hm
  | succ m ih =>
    intro h Q Q' t u vs ws R E hm hm0 ht hu hk
    cases t with
    | node k s mn mx g ts =>
    cases u with
    | node k' s' mn' mx' g' us =>
    have hlen : ts.length ≤ 1000000 := by
      have := szL_len ts
      simp only [szT] at hm0
      omega
    obtain ⟨q, cc, rfl, hts⟩ := kidsOf ht
    obtain ⟨q', cc', rfl, hus⟩ := kidsOf hu
    unfold sameT at hk
    refine C14 ?_
    unfold S14
    refine new_rule fun h1 a1 => new_rule fun h2 a2 => ?_
    have s1 := a1.size
    have s2 := a2.size
    have f2 : Fm h.size h.size h h2 := (Fm.al a1 (Nat.le_refl _)).trans (Fm.al a2 (by omega))
    have b1 : h2[h.size]? = some (.cells (reL k s mn mx g (.slice q ts.length cc)).toArray 36 (0, 0)) := (a2.old h.size (by omega)).trans a1.at_
    have b2 : h2[h1.size]? = some (.cells (reL k' s' mn' mx' g' (.slice q' us.length cc')).toArray 36 (0, 0)) := a2.at_
    -- what is read of the two
    have l0 : ∀ {K : Value → Prop} {hh : Heap}, hh[h.size]? = h2[h.size]? → pLoad Tryz.prog 3 (.pointer (some ⟨h.size, 0, none⟩)) hh K = K (.int .i64 k) := fun e => pLoad_one Tryz.agg3 (by rw [hcell_of (e.trans b1)]; rfl)
    refine Join0.intro (fun h' => h' = h2 ∧ ts.length = us.length ∧ (∀ h', Fm h.size h.size h h' → R (.bool (sameL ts us)) h')) ?_ ?_
    · rw [Tryz.fa36_0, addr_add, pLoad_one (v := .int .i64 k) Tryz.agg3 (by rw [hcell_of b1]; rfl), Tryz.fa36_0, addr_add, pLoad_one (v := .int .i64 k') Tryz.agg3 (by rw [hcell_of b2]; rfl), reads_ne, dec_nn_eq, boolV_bool]
      refine bcase_of (fun hc => ?_) (fun hc => ?_)
      · have e : decide (k = k') = false := by simpa using hc
        rw [e] at hk
        exact hk h2 f2
      have e : decide (k = k') = true := by simpa using hc
      rw [e, Bool.true_and] at hk
      clear hc e
      rw [Tryz.fa36_1, addr_add, Nat.zero_add]
      refine load_row b1 Tryz.agg33 (by simp [reL]) ?_
      rw [Tryz.fa36_1, addr_add, Nat.zero_add]
      refine load_row b2 Tryz.agg33 (by simp [reL]) ?_
      have ev : ∀ (k : Nat) (s : W4) (mn mx : Int) (g : Nat) (kv : Value), (((reL k s mn mx g kv).toArray.toList.drop 1).take 4).toArray = s.vals.toArray := fun _ _ _ _ _ _ => rfl
      rw [ev, ev, reads_neqSet, boolV_bool]
      refine bcase_of (fun hc => ?_) (fun hc => ?_)
      · have e : decide (s = s') = false := by simpa using hc
        rw [e] at hk
        exact hk h2 f2
      have e : decide (s = s') = true := by simpa using hc
      rw [e, Bool.true_and] at hk
      clear hc e
      rw [Tryz.fa36_2, addr_add, Nat.zero_add, pLoad_one (v := .int .i64 mn) Tryz.agg3 (by rw [hcell_of b1]; rfl), Tryz.fa36_2, addr_add, Nat.zero_add, pLoad_one (v := .int .i64 mn') Tryz.agg3 (by rw [hcell_of b2]; rfl), reads_ne, boolV_bool]
      refine bcase_of (fun hc => ?_) (fun hc => ?_)
      · have e : decide (mn = mn') = false := by simpa using hc
        rw [e] at hk
        exact hk h2 f2
      have e : decide (mn = mn') = true := by simpa using hc
      rw [e, Bool.true_and] at hk
      clear hc e
      rw [Tryz.fa36_3, addr_add, Nat.zero_add, pLoad_one (v := .int .i64 mx) Tryz.agg3 (by rw [hcell_of b1]; rfl), Tryz.fa36_3, addr_add, Nat.zero_add, pLoad_one (v := .int .i64 mx') Tryz.agg3 (by rw [hcell_of b2]; rfl), reads_ne, boolV_bool]
      refine bcase_of (fun hc => ?_) (fun hc => ?_)
      · have e : decide (mx = mx') = false := by simpa using hc
        rw [e] at hk
        exact hk h2 f2
      have e : decide (mx = mx') = true := by simpa using hc
      rw [e, Bool.true_and] at hk
      clear hc e
      rw [Tryz.fa36_4, addr_add, Nat.zero_add, pLoad_one (v := .int .i64 g) Tryz.agg3 (by rw [hcell_of b1]; rfl), Tryz.fa36_4, addr_add, Nat.zero_add, pLoad_one (v := .int .i64 g') Tryz.agg3 (by rw [hcell_of b2]; rfl), reads_ne, dec_nn_eq, boolV_bool]
      refine bcase_of (fun hc => ?_) (fun hc => ?_)
      · have e : decide (g = g') = false := by simpa using hc
        rw [e] at hk
        exact hk h2 f2
      have e : decide (g = g') = true := by simpa using hc
      rw [e, Bool.true_and] at hk
      clear hc e
      rw [Tryz.fa36_5, addr_add, Nat.zero_add, pLoad_one (v := .slice q ts.length cc) Tryz.agg34 (by rw [hcell_of b1]; rfl), reads_rlen Tryz.underlying34, Tryz.fa36_5, addr_add, Nat.zero_add, pLoad_one (v := .slice q' us.length cc') Tryz.agg34 (by rw [hcell_of b2]; rfl), reads_rlen Tryz.underlying34, reads_ne, dec_nn_eq, boolV_bool]
      refine bcase_of (fun hc => ?_) (fun hc => ?_)
      · have e : ts.length ≠ us.length := by simpa using hc
        rw [sameL_len e] at hk
        exact hk h2 f2
      · exact ⟨rfl, by simpa using hc, hk⟩
    · rintro h3 ⟨rfl, hl, hk⟩
      rw [Tryz.fa36_5, addr_add, Nat.zero_add, pLoad_one (v := .slice q ts.length cc) Tryz.agg34 (by rw [hcell_of b1]; rfl), reads_rlen Tryz.underlying34]
      refine Loop1.fuel (fun k a h' => ∃ i, i ≤ ts.length ∧ k = ts.length - i ∧ a = .int .i64 i ∧ Fm h3.size h3.size h3 h' ∧ sameL ts us = sameL (ts.drop i) (us.drop i)) (n := ts.length) ⟨0, by omega, by simp, rfl, Fm.refl .., by simp⟩ fun k a h4 hi => ?_
      obtain ⟨i, hi, rfl, rfl, f4, hd⟩ := hi
      have s4 := f4.size
      have f24 : Fm h.size h.size h h4 := f2.trans ⟨f4.size, fun k hk _ => f4.same k (by omega) (by omega)⟩
      rw [reads_lt, boolV_bool]
      refine bcase_of (fun hc => ?_) (fun hc => ?_)
      · have hlt : i < ts.length := by have := of_decide_eq_true hc; omega
        have hlu : i < us.length := by omega
        obtain ⟨bk, cur, rfl, hcur, hbk, hrow⟩ := hts (by rintro rfl; simp at hlt)
        obtain ⟨bk', cur', rfl, hcur', hbk', hrow'⟩ := hus (by rintro rfl; simp at hlu)
        have c1 := (f4.same h.size (by omega) (by omega)).trans b1
        have c2 := (f4.same h1.size (by omega) (by omega)).trans b2
        have d1 := (f24.same bk (at_lt hbk) (by have := at_lt hbk; omega)).trans hbk
        have d2 := (f24.same bk' (at_lt hbk') (by have := at_lt hbk'; omega)).trans hbk'
        have htk : IsRe h Q ts[i] ((cur.toList.drop (i * 9)).take 9) := by
          have := hrow.get hlt
          rwa [take_drop9 hlt] at this
        have huk : IsRe h Q' us[i] ((cur'.toList.drop (i * 9)).take 9) := by
          have := hrow'.get hlu
          rwa [take_drop9 hlu] at this
        rw [Tryz.fa36_5, addr_add, Nat.zero_add, pLoad_one (v := .slice (some ⟨bk, 0, none⟩) ts.length cc) Tryz.agg34 (by rw [hcell_of c1]; rfl), reads_idxRow Tryz.underlying34 Tryz.size36 hlt, addr_add, Nat.zero_add]
        refine load_row d1 Tryz.agg36 (by omega) ?_
        rw [Tryz.fa36_5, addr_add, Nat.zero_add, pLoad_one (v := .slice (some ⟨bk', 0, none⟩) us.length cc') Tryz.agg34 (by rw [hcell_of c2]; rfl), reads_idxRow Tryz.underlying34 Tryz.size36 hlu, addr_add, Nat.zero_add]
        refine load_row d2 Tryz.agg36 (by omega) ?_
        refine ⟨?_, trivial⟩
        have hsz : szT ts[i] ≤ szL ts := szL_get hlt
        refine ih (by simp only [szT] at hm; omega) (by simp only [szT] at hm0; omega) (htk.frame (Q' := fun _ => True) fun b hb hlt => ⟨trivial, f24.same b hlt (by omega)⟩) (huk.frame (Q' := fun _ => True) fun b hb hlt => ⟨trivial, f24.same b hlt (by omega)⟩) fun h5 f5 => ?_
        have s5 := f5.size
        refine ⟨trivial, ?_⟩
        have hcons : sameL (ts.drop i) (us.drop i) = (sameT ts[i] us[i] && sameL (ts.drop (i + 1)) (us.drop (i + 1))) := by
          rw [List.drop_eq_getElem_cons hlt, List.drop_eq_getElem_cons hlu]
          simp only [sameL]
        rw [reads_not, boolV_bool]
        refine bcase_of (fun hs => ?_) (fun hs => ?_)
        · have e : sameT ts[i] us[i] = false := by simpa using hs
          rw [hd, hcons, e, Bool.false_and] at hk
          exact hk h5 (f24.trans ⟨f5.size, fun k hk _ => f5.same k (by omega) (by omega)⟩)
        · have e : sameT ts[i] us[i] = true := by simpa using hs
          rw [reads_add, wrap_n1 _ (by omega)]
          refine ⟨ts.length - (i + 1), by omega, i + 1, by omega, rfl, rfl, f4.trans ⟨f5.size, fun k hk _ => f5.same k (by omega) (by omega)⟩, ?_⟩
          rw [hd, hcons, e, Bool.true_and]
      · have hil : i = ts.length := by have := of_decide_eq_false hc; omega
        have e : sameL (ts.drop i) (us.drop i) = true := by
          rw [hil, List.drop_length, hl, List.drop_length]
          simp only [sameL]
        rw [hd, e] at hk
        exact hk h4 f24
end Rt
end Go.Proofs

set_option maxRecDepth 100000
namespace Go.Proofs
open Go.Vcg
namespace Rt
/-- what begins a quoted byte -/
def headOk (ext : Bool) (x : UInt8) : Bool :=
  if ext then ![124, 41, 42, 43, 63, 123, 94, 36, 40, 46, 91].contains x else ![42, 94, 36, 46, 91].contains x
def escOk (ext : Bool) (x : UInt8) : Bool := if ext then extSigns.contains x else basSigns.contains x
/-- a quoted byte: itself, or a backslash and what stands for it -/
theorem qByte_cases (ext : Bool) (c : UInt8) : (qByte ext c = [c] ∧ headOk ext c = true ∧ c ≠ 92) ∨ (c = 10 ∧ qByte ext c = [92, 110]) ∨ (qByte ext c = [92, c] ∧ c ≠ 110 ∧ escOk ext c = true) := by
  have h : ∀ (e : Bool) (n : Fin 256), (let c := UInt8.ofNat n.val; (qByte e c = [c] ∧ headOk e c = true ∧ c ≠ 92) ∨ (c = 10 ∧ qByte e c = [92, 110]) ∨ (qByte e c = [92, c] ∧ c ≠ 110 ∧ escOk e c = true)) := by decide +kernel
  have := h ext ⟨c.toNat, c.toNat_lt⟩
  simpa using this

theorem isM1 {l tl : List UInt8} {p : Nat} {a y : UInt8} (h : l.drop p = y :: tl) : isM l [a] p = (a == y) := by
  unfold isM
  rw [h]
  simp [List.isPrefixOf]
theorem isM0 {l x : List UInt8} {a : UInt8} {p : Nat} (h : l.drop p = []) : isM l (a :: x) p = false := by
  unfold isM
  rw [h]
  rfl
/-- what follows begins as a quoted byte does, or ends -/
def Hd (ext : Bool) (r : List UInt8) : Prop := ∀ y ∈ r.head?, headOk ext y = true
theorem Hd.isM {ext : Bool} {l : List UInt8} {p : Nat} (h : Hd ext (l.drop p)) {a : UInt8} (ha : headOk ext a = false) : isM l [a] p = false := by
  cases hd : l.drop p with
  | nil => exact isM0 hd
  | cons y tl =>
    rw [isM1 hd]
    have := h y (by rw [hd]; rfl)
    by_cases e : a = y
    · subst e; rw [ha] at this; cases this
    · simpa using e
theorem Hd.quote (ext : Bool) : ∀ (s : List UInt8), Hd ext (quoteM s ext)
  | [], y, hy => by simp [quoteM] at hy
  | c :: s, y, hy => by
    simp only [quoteM, List.flatMap_cons] at hy
    rcases qByte_cases ext c with ⟨h1, h2, _⟩ | ⟨_, h1⟩ | ⟨h1, _⟩
    · rw [h1] at hy
      simp at hy
      subst hy
      exact h2
    · rw [h1] at hy
      simp at hy
      subst hy
      cases ext <;> rfl
    · rw [h1] at hy
      simp at hy
      subst hy
      cases ext <;> rfl
theorem Hd.times {l : List UInt8} {p : Nat} (h : Hd true (l.drop p)) : timesM l p = false := by
  unfold timesM
  rw [h.isM rfl, h.isM rfl, h.isM rfl, h.isM rfl]
  rfl
theorem Hd.loop {l : List UInt8} {p k : Nat} {t : T} (h : Hd true (l.drop p)) : timesLM (k + 1) l t p = .ok (t, p) := by
  unfold timesLM
  rw [h.isM rfl, h.isM rfl, h.isM rfl, h.isM rfl]
  rfl
theorem drop_more {l q rest : List UInt8} {p : Nat} (h : l.drop p = q ++ rest) : l.drop (p + q.length) = rest := by
  rw [← List.drop_drop, h, List.drop_left]

theorem item_quoted {l rest : List UInt8} {p k : Nat} {c : UInt8} (h : l.drop p = qByte true c ++ rest) (hr : Hd true rest) (op gr : Nat) :
    itemM (k + 2) l p op gr = .ok (single c, p + (qByte true c).length, gr) := by
  have hd : Hd true (l.drop p) := by
    intro y hy
    rw [h] at hy
    rcases qByte_cases true c with ⟨h1, h2, _⟩ | ⟨_, h1⟩ | ⟨h1, _⟩ <;> rw [h1] at hy <;> simp at hy <;> subst hy
    · exact h2
    · rfl
    · rfl
  have h2 := drop_more h
  have hg : ∀ i, l[p + i]? = (qByte true c ++ rest)[i]? := fun i => by rw [← h, List.getElem?_drop]
  unfold itemM
  rw [hd.times]
  simp only [hd.isM (a := 94) rfl, hd.isM (a := 36) rfl, hd.isM (a := 40) rfl, hd.isM (a := 46) rfl, hd.isM (a := 91) rfl, Bool.false_eq_true, if_false]
  rcases qByte_cases true c with ⟨h1, _, h3⟩ | ⟨hc, h1⟩ | ⟨h1, h3, h4⟩
  · rw [h1] at h h2 hg ⊢
    have e0 : isM l [92] p = false := by rw [isM1 h]; simpa using Ne.symm h3
    have g0 : l[p]? = some c := by simpa using hg 0
    rw [e0, g0]
    simp only [Bool.false_eq_true, if_false, thenTimes]
    rw [Hd.loop (by rw [show p + 1 = p + [c].length from rfl, h2]; exact hr)]
    rfl
  · subst hc
    rw [h1] at h h2 hg ⊢
    have e0 : isM l [92] p = true := by rw [isM1 h]; rfl
    have g1 : l[p + 1]? = some 110 := by simpa using hg 1
    rw [e0]
    simp only [if_true, escM, g1, Res.with, thenTimes]
    rw [Hd.loop (by rw [show p + 2 = p + [92, (110 : UInt8)].length from rfl, h2]; exact hr)]
    rfl
  · rw [h1] at h h2 hg ⊢
    have e0 : isM l [92] p = true := by rw [isM1 h]; rfl
    have g1 : l[p + 1]? = some c := by simpa using hg 1
    rw [e0]
    simp only [escOk, if_true] at h4
    simp only [if_true, escM, g1, h3, if_false, h4, Res.with, thenTimes]
    rw [Hd.loop (by rw [show p + 2 = p + [92, c].length from rfl, h2]; exact hr)]
    rfl

theorem qByte_ne (ext : Bool) (c : UInt8) : ∃ y tl, qByte ext c = y :: tl := by
  rcases qByte_cases ext c with ⟨h1, _⟩ | ⟨_, h1⟩ | ⟨h1, _⟩ <;> exact ⟨_, _, h1⟩
theorem drop_lt {l : List UInt8} {p : Nat} {y : UInt8} {tl : List UInt8} (h : l.drop p = y :: tl) : p < l.length := by
  have : (l.drop p).length = tl.length + 1 := by rw [h]; rfl
  simp at this
  omega
theorem branch_quoted : ∀ (s : List UInt8) {l : List UInt8} {p k op gr : Nat} {ts : List T}, l.drop p = quoteM s true → p ≤ l.length → s.length + 3 ≤ k → ts ++ s.map single ≠ [] →
    branchL k l ts p op gr = .ok (joinM 4 (ts ++ s.map single), l.length, gr)
  | [], l, p, k, op, gr, ts, h, hp, hk, hne => by
    obtain ⟨k, rfl⟩ : ∃ j, k = j + 1 := ⟨k - 1, by omega⟩
    have hl : l.length ≤ p := by
      have : (l.drop p).length = 0 := by rw [h]; rfl
      simp at this
      omega
    have : p = l.length := by omega
    subst this
    have hts : ts.isEmpty = false := by cases ts <;> simp at hne ⊢
    unfold branchL
    rw [if_pos (.inl hl), hts]
    simp
  | c :: s, l, p, k, op, gr, ts, h, hp, hk, hne => by
    obtain ⟨k, rfl⟩ : ∃ j, k = j + 3 := ⟨k - 3, by simp at hk; omega⟩
    have h' : l.drop p = qByte true c ++ quoteM s true := by rw [h]; simp [quoteM]
    have hd : Hd true (l.drop p) := by rw [h]; exact Hd.quote true _
    obtain ⟨y, tl, hy⟩ := qByte_ne true c
    have hlt : p < l.length := drop_lt (by rw [h', hy]; rfl)
    have h2 := drop_more h'
    have hp2 : p + (qByte true c).length ≤ l.length := by
      have : (l.drop p).length = (qByte true c).length + (quoteM s true).length := by rw [h', List.length_append]
      simp at this
      omega
    unfold branchL
    rw [if_neg (by simp [hd.isM (a := 124) rfl, hd.isM (a := 41) rfl]; omega), item_quoted h' (Hd.quote true s)]
    simp only
    rw [branch_quoted s h2 hp2 (by simp at hk; omega) (by simp)]
    simp
theorem whole_quoted_ext {s : List UInt8} {k : Nat} (hs : s ≠ []) (hk : s.length + 10 ≤ k) : wholeM k (quoteM s true) true = .ok (joinM 4 (s.map single), (quoteM s true).length, 0) := by
  obtain ⟨k, rfl⟩ : ∃ j, k = j + 2 := ⟨k - 2, by omega⟩
  unfold wholeM
  simp only [if_true]
  unfold branchesM
  rw [branch_quoted s (p := 0) (by simp) (by omega) (by omega) (by simpa using hs)]
  simp only
  unfold altL
  rw [isM0 (by simp)]
  simp [joinM]

/-! ### The basic grammar -/
theorem isM2 {l tl : List UInt8} {p : Nat} {a b y z : UInt8} (h : l.drop p = y :: z :: tl) : isM l [a, b] p = (a == y && b == z) := by
  unfold isM
  rw [h]
  simp [List.isPrefixOf]
theorem isM2n {l tl : List UInt8} {p : Nat} {a b y : UInt8} (h : l.drop p = y :: tl) (hn : a ≠ y) : isM l [a, b] p = false := by
  unfold isM
  rw [h]
  have : (a == y) = false := by simpa using hn
  simp [List.isPrefixOf, this]
/-- behind a backslash of a quoted text stands no sign that opens -/
def Hb (r : List UInt8) : Prop := ∀ b : UInt8, b = 40 ∨ b = 41 ∨ b = 123 ∨ b = 125 → ∀ tl, r ≠ 92 :: b :: tl
theorem Hb.quote : ∀ (s : List UInt8), Hb (quoteM s false)
  | [], b, hb, tl, h => by simp [quoteM] at h
  | c :: s, b, hb, tl, h => by
    simp only [quoteM, List.flatMap_cons] at h
    rcases qByte_cases false c with ⟨h1, h2, h3⟩ | ⟨_, h1⟩ | ⟨h1, h2, h3⟩
    · rw [h1] at h
      simp at h
      exact h3 h.1
    · rw [h1] at h
      simp at h
      obtain ⟨rfl, _⟩ := h
      simp at hb
    · rw [h1] at h
      simp at h
      obtain ⟨rfl, _⟩ := h
      rcases hb with rfl | rfl | rfl | rfl <;> simp [escOk, basSigns] at h3
theorem Hb.isM {l : List UInt8} {p : Nat} (h : Hb (l.drop p)) {b : UInt8} (hb : b = 40 ∨ b = 41 ∨ b = 123 ∨ b = 125) : isM l [92, b] p = false := by
  cases hd : l.drop p with
  | nil => exact isM0 hd
  | cons y tl =>
    by_cases hy : (92 : UInt8) = y
    · subst hy
      cases tl with
      | nil => unfold Rt.isM; rw [hd]; simp [List.isPrefixOf]
      | cons z tl =>
        rw [isM2 hd]
        by_cases e : b = z
        · subst e; exact absurd hd (h b hb tl)
        · simpa using e
    · exact isM2n hd hy
theorem loopB {l : List UInt8} {p k : Nat} {t : T} (h : Hd false (l.drop p)) (hb : Hb (l.drop p)) : timesBM (k + 1) l t p = .ok (t, p) := by
  unfold timesBM
  rw [h.isM rfl, hb.isM (by simp)]
  rfl
theorem atom_quoted {l rest : List UInt8} {p k : Nat} {c : UInt8} (h : l.drop p = qByte false c ++ rest) (hb : Hb (l.drop p)) (op gr : Nat) :
    atomM (k + 1) l p op gr = .ok (single c, p + (qByte false c).length, gr) := by
  have hd : Hd false (l.drop p) := by
    intro y hy
    rw [h] at hy
    rcases qByte_cases false c with ⟨h1, h2, _⟩ | ⟨_, h1⟩ | ⟨h1, _⟩ <;> rw [h1] at hy <;> simp at hy <;> subst hy
    · exact h2
    · rfl
    · rfl
  have hg : ∀ i, l[p + i]? = (qByte false c ++ rest)[i]? := fun i => by rw [← h, List.getElem?_drop]
  unfold atomM
  simp only [hb.isM (b := 40) (by simp), hb.isM (b := 123) (by simp), hb.isM (b := 125) (by simp), hd.isM (a := 46) rfl, hd.isM (a := 91) rfl, Bool.false_eq_true, if_false, or_self]
  rcases qByte_cases false c with ⟨h1, _, h3⟩ | ⟨hc, h1⟩ | ⟨h1, h3, h4⟩
  · rw [h1] at h hg ⊢
    have e0 : isM l [92] p = false := by rw [isM1 h]; simpa using Ne.symm h3
    have g0 : l[p]? = some c := by simpa using hg 0
    rw [e0, g0]
    simp
  · subst hc
    rw [h1] at h hg ⊢
    have e0 : isM l [92] p = true := by rw [isM1 h]; rfl
    have g1 : l[p + 1]? = some 110 := by simpa using hg 1
    rw [e0]
    simp [escM, g1, Res.with]
  · rw [h1] at h hg ⊢
    have e0 : isM l [92] p = true := by rw [isM1 h]; rfl
    have g1 : l[p + 1]? = some c := by simpa using hg 1
    rw [e0]
    simp only [escOk, Bool.false_eq_true, if_false] at h4
    simp only [if_true, escM, g1, h3, if_false, h4, Res.with]
    rfl
theorem basic_quoted : ∀ (s : List UInt8) {l : List UInt8} {p k op gr : Nat} {ts : List T}, l.drop p = quoteM s false → p ≤ l.length → s.length + 3 ≤ k → ts ++ s.map single ≠ [] →
    basL k l ts p op gr = .ok (joinM 4 (ts ++ s.map single), l.length, gr)
  | [], l, p, k, op, gr, ts, h, hp, hk, hne => by
    obtain ⟨k, rfl⟩ : ∃ j, k = j + 1 := ⟨k - 1, by omega⟩
    have hl : l.length ≤ p := by
      have : (l.drop p).length = 0 := by rw [h]; rfl
      simp at this
      omega
    have : p = l.length := by omega
    subst this
    have hts : ts.isEmpty = false := by cases ts <;> simp at hne ⊢
    unfold basL
    rw [if_pos (.inl hl), finB, hts]
    simp
  | c :: s, l, p, k, op, gr, ts, h, hp, hk, hne => by
    obtain ⟨k, rfl⟩ : ∃ j, k = j + 2 := ⟨k - 2, by simp at hk; omega⟩
    have h' : l.drop p = qByte false c ++ quoteM s false := by rw [h]; simp [quoteM]
    have hd : Hd false (l.drop p) := by rw [h]; exact Hd.quote false _
    have hb : Hb (l.drop p) := by rw [h]; exact Hb.quote _
    obtain ⟨y, tl, hy⟩ := qByte_ne false c
    have hlt : p < l.length := drop_lt (by rw [h', hy]; rfl)
    have h2 := drop_more h'
    have hp2 : p + (qByte false c).length ≤ l.length := by
      have : (l.drop p).length = (qByte false c).length + (quoteM s false).length := by rw [h', List.length_append]
      simp at this
      omega
    unfold basL
    rw [if_neg (by simp [hb.isM (b := 41) (by simp)]; omega), if_neg (by simp [hd.isM (a := 36) rfl]), atom_quoted h' hb]
    simp only
    rw [loopB (by rw [h2]; exact Hd.quote false s) (by rw [h2]; exact Hb.quote s)]
    simp only
    rw [basic_quoted s h2 hp2 (by simp at hk; omega) (by simp)]
    simp
theorem whole_quoted_bas {s : List UInt8} {k : Nat} (hs : s ≠ []) (hk : s.length + 10 ≤ k) : wholeM k (quoteM s false) false = .ok (joinM 4 (s.map single), (quoteM s false).length, 0) := by
  obtain ⟨k, rfl⟩ : ∃ j, k = j + 2 := ⟨k - 2, by omega⟩
  unfold wholeM
  simp only [Bool.false_eq_true, if_false]
  unfold basicM
  have hd : Hd false ((quoteM s false).drop 0) := by rw [List.drop_zero]; exact Hd.quote false s
  rw [hd.isM (a := 94) rfl]
  simp only [Bool.false_eq_true, if_false]
  rw [basic_quoted s (p := 0) (by simp) (by omega) (by omega) (by simpa using hs)]
  simp
/-- what is quoted stands for itself -/
theorem whole_quoted {s : List UInt8} {ext : Bool} {k : Nat} (hs : s ≠ []) (hk : s.length + 10 ≤ k) : wholeM k (quoteM s ext) ext = .ok (joinM 4 (s.map single), (quoteM s ext).length, 0) := by
  cases ext
  · exact whole_quoted_bas hs hk
  · exact whole_quoted_ext hs hk
end Rt
end Go.Proofs

set_option maxRecDepth 100000
namespace Go.Proofs
open Go.Vcg
namespace Rt
def awakeText : List UInt8 := [40, 97, 124, 98, 41, 43]
def awakeTree : T := .node 6 .zero 1 (-1) 0 [.node 7 .zero 0 0 1 [.node 5 .zero 0 0 0 [single 97, single 98]]]
theorem awake_model : wholeM 20 awakeText true = .ok (awakeTree, 6, 1) := by
  with_unfolding_all rfl
end Rt
end Go.Proofs

set_option maxRecDepth 100000
namespace Go.Proofs
open Go.Vcg
namespace Rt
variable {n b : Nat} {h : Heap} {l : List UInt8} {R : Value → Heap → Prop} {E : List PanicEntry → Heap → Prop}
theorem cv85_91 {x y : Value} {k : Value → Prop} (hb : h[b]? = some (.cells #[x, y] 87 (0, 0))) : Reads Tryz.prog (convert 85 91 (ptr b)) h k = k (ptr b) := reads_of fun w hw => by
  subst hw
  have hi : ∃ j, Tryz.prog.info? 87 = some j ∧ j.size ≠ 0 := by
    have h2 : sizeT Tryz.prog 87 = some 2 := by kernel_rfl
    unfold sizeT at h2
    split at h2
    · rename_i i hi; exact ⟨i, hi, by simp at h2; omega⟩
    · cases h2
  obtain ⟨j, hj, h0⟩ := hi
  exact Go.Lib.run_to_unsafe w ⟨b, 0, none⟩ Tryz.underlying85 Tryz.underlying91 hj h0 (e := 87) (cells := 2) (by simp [World.shape?, hb]) (by simp)
theorem cv91_85 {x y : Value} {k : Value → Prop} (hb : h[b]? = some (.cells #[x, y] 87 (0, 0))) : Reads Tryz.prog (convert 91 85 (ptr b)) h k = k (ptr b) := reads_of fun w hw => by
  subst hw
  have hi : ∃ j, Tryz.prog.info? 87 = some j := by
    have h2 : sizeT Tryz.prog 87 = some 2 := by kernel_rfl
    unfold sizeT at h2
    split at h2
    · rename_i i hi; exact ⟨i, hi⟩
    · cases h2
  obtain ⟨j, hj⟩ := hi
  exact Go.Lib.run_from_unsafe w ⟨b, 0, none⟩ Tryz.underlying91 Tryz.underlying85 hj (e := 87) (cells := 2) (by simp [World.shape?, hb]) (by kernel_rfl)
theorem noescape_spec {x : Value} {K : Value → Heap → Prop} (hk : K x h) : Runs Tryz.prog (do let d ← Deferred.ofValue (.func (.func 112) #[] #[]) #[x]; invoke d.target d.args) h K E := by
  intro w hw
  subst hw
  have hr := run_callFunc_extern (P := Tryz.prog) (f := 112) (fn := Tryz.f112) (e := Extern.AbiNoEscape.same) Tryz.func112 (by kernel_rfl) (by kernel_rfl) (by kernel_rfl) (by kernel_rfl) #[x] w
  rw [Go.Lib.run_noEscape] at hr
  simp [Deferred.ofValue, invoke, hr, uponH, Same.refl]
  exact hk

/-- a strings.Builder at block b, which holds the bytes l -/
def SB (h : Heap) (n b : Nat) (l : List UInt8) : Prop := b < n ∧ ∃ p v, (p = .pointer none ∨ p = ptr b) ∧ h[b]? = some (.cells #[p, v] 87 (0, 0)) ∧ ByteRow h n v l
/-- all but a builder's own blocks: what is no row of bytes stays -/
structure Fq (b : Nat) (h h' : Heap) : Prop where
  size : h.size ≤ h'.size
  same : ∀ k, k < h.size → k ≠ b → (∀ cur, h[k]? ≠ some (.cells cur 5 (0, 0))) → h'[k]? = h[k]?
theorem Fq.refl (b : Nat) (h : Heap) : Fq b h h := ⟨Nat.le_refl _, fun _ _ _ _ => rfl⟩
theorem Fq.trans {b : Nat} {h h' h'' : Heap} (x : Fq b h h') (y : Fq b h' h'') : Fq b h h'' := by
  refine ⟨Nat.le_trans x.size y.size, fun k hk hb h5 => ?_⟩
  have e := x.same k hk hb h5
  exact (y.same k (Nat.lt_of_lt_of_le hk x.size) hb (by rw [e]; exact h5)).trans e
theorem Fq.of {b m : Nat} {h h' : Heap} (f : Fm h.size m h h') (hm : h.size ≤ m) : Fq b h h' := ⟨f.size, fun k hk _ _ => f.same k hk (by omega)⟩
theorem Fq.upd {b : Nat} {h h' : Heap} {o : Obj} (u : Upd h h' b o) : Fq b h h' := ⟨by rw [u.size]; exact Nat.le_refl _, fun k _ hb _ => u.other k hb⟩
theorem Fq.al {b : Nat} {h h' : Heap} {o : Obj} (a : Al h h' o) : Fq b h h' := ⟨by rw [a.size]; omega, fun k hk _ _ => a.old k hk⟩
theorem Fq.grown {b : Nat} {h h' : Heap} {v : Value} (g : GrownH h h' v.ownBlock) (hr : ByteRow h n v l) : Fq b h h' := by
  refine ⟨g.size, fun k hk _ h5 => g.block k hk ?_⟩
  intro e
  rcases hr.2 with ⟨rfl, _⟩ | ⟨g', cap, cur, rfl, e2, e3, _⟩
  · cases e
  · have : k = g' := by simpa [Value.ownBlock] using e
    subst this
    exact h5 cur e3
theorem eq85 {k : Value → Prop} : Reads Tryz.prog (binS .neq 85 false (ptr b) (ptr b)) h k = k (.bool false) := reads_of fun w hw => by
  have hi : ∃ j, Tryz.prog.info? 87 = some j := by
    have h2 : sizeT Tryz.prog 87 = some 2 := by kernel_rfl
    unfold sizeT at h2
    split at h2
    · rename_i i hi; exact ⟨i, hi⟩
    · cases h2
  obtain ⟨j, hj⟩ := hi
  have := Go.Lib.run_neq_ptr_same w ⟨b, 0, none⟩ Tryz.underlying85 hj
  simp only [binS, guardS, ptr]
  simpa using this
theorem ByteRow.frame {h' : Heap} {v : Value} (k : ByteRow h n v l) (hs : ∀ b, n ≤ b → b < h.size → h'[b]? = h[b]?) : ByteRow h' n v l := by
  obtain ⟨h1, h2⟩ := k
  refine ⟨h1, h2.imp id ?_⟩
  rintro ⟨g, cap, cur, e1, e2, e3, e4⟩
  exact ⟨g, cap, cur, e1, e2, (hs g e2 (at_lt e3)).trans e3, e4⟩
theorem copy_spec {v : Value} {p : Value} (hp : p = .pointer none ∨ p = ptr b) (hb : h[b]? = some (.cells #[p, v] 87 (0, 0)))
    (hk : ∀ h', h'.size = h.size → (∀ k, k ≠ b → h'[k]? = h[k]?) → h'[b]? = some (.cells #[ptr b, v] 87 (0, 0)) → R (.tuple #[]) h') : CallsH Tryz.prog 97 #[ptr b] h R E := by
  refine C97 ?_
  unfold S97
  rw [reads_nil, Tryz.fa87_0, addr_add, pLoad_one (v := p) Tryz.agg85 (by rw [hcell_of hb]; rfl)]
  rcases hp with rfl | rfl
  · rw [Tryz.eql85_n, boolV_bool, bcase_true, cv85_91 hb]
    refine noescape_spec ?_
    rw [cv91_85 hb, reads_nil, Tryz.fa87_0, addr_add]
    refine store1 hb Tryz.size85 rfl (by simp) fun h' hu => hk h' hu.size hu.other hu.same
  · rw [Tryz.eql85_s, boolV_bool, bcase_false, reads_nil, Tryz.fa87_0, addr_add, pLoad_one (v := ptr b) Tryz.agg85 (by rw [hcell_of hb]; rfl), eq85, boolV_bool, bcase_false]
    exact hk h rfl (fun _ _ => rfl) hb
theorem push_byteq {v : Value} {c : UInt8} {K : Value → Heap → Prop} (b : ByteRow h n v l) (hn : n ≤ h.size) (hlen : l.length ≤ 1000000000) (hK : ∀ v' h', ByteRow h' n v' (l ++ [c]) → (∀ r, Fm n r h h') → (∀ r, Fq r h h') → K v' h') :
    Runs Tryz.prog (vS (Instr.buildSlice 29 1 #[(0, .int .u8 c.toNat)])) h (fun s h1 => Runs Tryz.prog (builtin .append #[29, 29] 29 #[false, false] #[v, s]) h1 K E) E := by
  refine slice1_rule Tryz.info5 Tryz.underlying29 rfl (by omega) (by omega) fun h1 a1 => ?_
  have s1 := a1.size
  have ho : Owns h1 n 5 1 v l.length (l.map bval) := by
    obtain ⟨hl, ho⟩ := b
    refine ⟨hl, ho.imp id ?_⟩
    rintro ⟨g, cap, cur, e1, e2, e3, e4⟩
    exact ⟨g, cap, cur, e1, e2, (a1.old g (at_lt e3)).trans e3, e4⟩
  refine runs_append' (size := 1) (bytes := 1) (news := [bval c]) Tryz.info5 Tryz.underlying29 rfl (by omega) ho rfl ?_ ?_ (by simp [maxLen]; omega) (by omega) (by omega) fun v' h2 ho' hg hnil hat => ?_
  · intro j u hj
    rw [addr_add, Nat.zero_add, hcell_of a1.at_]
    simpa [Value.cells, bval] using hj
  · intro u hu
    simp only [List.mem_cons, List.not_mem_nil, or_false] at hu
    subst hu
    rfl
  · refine hK v' h2 ?_ (fun r => ?_) fun r => (Fq.al a1).trans (Fq.grown hg ho)
    · unfold ByteRow
      simpa using ho'
    · refine ⟨by have := hg.size; omega, fun k hk _ => ?_⟩
      rw [hg.block k (by omega) ?_, a1.old k (by omega)]
      intro e
      rcases ho.2 with ⟨rfl, _⟩ | ⟨g, cap, cur, rfl, e2, _⟩
      · cases e
      · have : k = g := by simpa [Value.ownBlock] using e
        omega
theorem wbyte_spec {c : UInt8} (hs : SB h n b l) (hn : n ≤ h.size) (hl : l.length ≤ 1000000) (hk : ∀ h', SB h' n b (l ++ [c]) → Fm n b h h' → Fq b h h' → R .nilIface h') : CallsH Tryz.prog 70 #[ptr b, .int .u8 c.toNat] h R E := by
  obtain ⟨hbn, p, v, hp, hb, hr⟩ := hs
  refine C70 ?_
  unfold S70
  refine copy_spec hp hb fun h1 s1 o1 b1 => ?_
  have r1 : ByteRow h1 n v l := hr.frame fun k h1 h2 => o1 k (by omega)
  rw [reads_nil, Tryz.fa87_1, addr_add, Nat.zero_add, pLoad_one (v := v) Tryz.agg29 (by rw [hcell_of b1]; rfl)]
  refine push_byteq (c := c) r1 (by omega) (by omega) fun v' h2 r2 f2 q2 => ?_
  have b2 := ((f2 h2.size).same b hbn (by have := (f2 0).size; omega)).trans b1
  rw [reads_nil, Tryz.fa87_1, addr_add, Nat.zero_add]
  have hv : flat v' = true := by
    rcases r2.2 with ⟨rfl, _⟩ | ⟨g, cap, cur, rfl, _⟩ <;> rfl
  refine store1 b2 Tryz.size29 hv (by simp) fun h3 hu3 => ?_
  have f1 : Fm n b h h1 := ⟨by omega, fun k _ hkb => o1 k hkb⟩
  refine hk h3 ⟨hbn, ptr b, v', .inr rfl, hu3.same, r2.frame fun k h1 h2 => hu3.other k (by omega)⟩ ?_ ?_
  · exact (f1.trans (f2 b)).trans (Fm.upd hu3 (.inr rfl))
  · exact (Fq.trans ⟨by omega, fun k hk hb _ => o1 k hb⟩ (q2 b)).trans (Fq.upd hu3)
theorem blen_spec (hs : SB h n b l) (hk : R (.int .i64 l.length) h) : CallsH Tryz.prog 99 #[ptr b] h R E := by
  obtain ⟨hbn, p, v, hp, hb, hr⟩ := hs
  refine C99 ?_
  unfold S99
  rw [reads_nil, Tryz.fa87_1, addr_add, Nat.zero_add, pLoad_one (v := v) Tryz.agg29 (by rw [hcell_of hb]; rfl), reads_blen hr.is Tryz.underlying29]
  exact hk
theorem push_str {v : Value} {x : List UInt8} {cs : Array Bool} {K : Value → Heap → Prop} (r : ByteRow h n v l) (hn : n ≤ h.size) (hl : l.length ≤ 1000000) (hx : x.length ≤ 1000000) (hK : ∀ v' h', ByteRow h' n v' (l ++ x) → (∀ r, Fm n r h h') → (∀ r, Fq r h h') → K v' h') :
    Runs Tryz.prog (builtin .append #[29, 9] 29 cs #[v, str x]) h K E := by
  obtain ⟨i, hi, hz, hsize, hby⟩ := Tryz.info5
  intro w hw
  subst hw
  have hsz : (⟨x.toArray⟩ : ByteArray).size = x.length := by simp [ByteArray.size]
  obtain ⟨v', w', hr, ho, hg, hnil⟩ := Go.Lib.run_append_own_string (P := Tryz.prog) w n 29 9 29 5 i Tryz.underlying29 Tryz.underlying9 hi hz hsize hby v l.length (l.map bval) r ⟨x.toArray⟩ (by rw [hsz]; simp [maxLen]; omega) (by rw [hsz]; omega) hn
  have hcells : Go.Lib.strCells ⟨x.toArray⟩ = x.map bval := by simp [Go.Lib.strCells, bval]
  rw [hsz, hcells] at ho
  unfold str
  simp only [builtin, Sem.run_bind, hr, Result.andThen_ok, Sem.run_pure, uponH]
  refine ⟨⟨hg.os, hg.tape, hg.output⟩, hK v' w'.heap ?_ (fun q => ⟨hg.size, fun k hk _ => hg.block k (by omega) ?_⟩) fun q => Fq.grown ⟨hg.size, hg.block⟩ r⟩
  · unfold ByteRow
    rw [List.length_append, List.map_append]
    exact ho
  · intro e
    rcases r.2 with ⟨rfl, _⟩ | ⟨g, cap, cur, rfl, e2, _⟩
    · cases e
    · have : k = g := by simpa [Value.ownBlock] using e
      omega
theorem wstr_spec {x : List UInt8} (hs : SB h n b l) (hn : n ≤ h.size) (hl : l.length ≤ 1000000) (hx : x.length ≤ 1000000) (hk : ∀ h' v, SB h' n b (l ++ x) → Fm n b h h' → Fq b h h' → R v h') : CallsH Tryz.prog 67 #[ptr b, str x] h R E := by
  obtain ⟨hbn, p, v, hp, hb, hr⟩ := hs
  refine C67 ?_
  unfold S67
  refine copy_spec hp hb fun h1 s1 o1 b1 => ?_
  have r1 : ByteRow h1 n v l := hr.frame fun k h1 h2 => o1 k (by omega)
  rw [reads_nil, Tryz.fa87_1, addr_add, Nat.zero_add, pLoad_one (v := v) Tryz.agg29 (by rw [hcell_of b1]; rfl)]
  refine push_str r1 (by omega) hl hx fun v' h2 r2 f2 q2 => ?_
  have b2 := ((f2 h2.size).same b hbn (by have := (f2 0).size; omega)).trans b1
  rw [reads_nil, Tryz.fa87_1, addr_add, Nat.zero_add]
  have hv : flat v' = true := by
    rcases r2.2 with ⟨rfl, _⟩ | ⟨g, cap, cur, rfl, _⟩ <;> rfl
  refine store1 b2 Tryz.size29 hv (by simp) fun h3 hu3 => ?_
  rw [reads_slen Tryz.underlying9]
  have f1 : Fm n b h h1 := ⟨by omega, fun k _ hkb => o1 k hkb⟩
  exact hk h3 _ ⟨hbn, ptr b, v', .inr rfl, hu3.same, r2.frame fun k h1 h2 => hu3.other k (by omega)⟩ ((f1.trans (f2 b)).trans (Fm.upd hu3 (.inr rfl))) ((Fq.trans ⟨by omega, fun k hk hb _ => o1 k hb⟩ (q2 b)).trans (Fq.upd hu3))
theorem string_spec (hs : SB h n b l) (h0 : l ≠ []) (hl : l.length ≤ 1000000) (hk : ∀ h', h'.size = h.size → (∀ k, k < n → h'[k]? = h[k]?) → R (str l) h') : CallsH Tryz.prog 45 #[ptr b] h R E := by
  obtain ⟨hbn, p, v, hp, hb, hr⟩ := hs
  have his := hr.is
  obtain ⟨hlen, ho⟩ := hr
  rcases ho with ⟨_, hz⟩ | ⟨g, cap, cur, rfl, e2, e3, e4, e5, e6, e7⟩
  · exact absurd (List.length_eq_zero_iff.1 hz) h0
  have hl0 : l.length ≠ 0 := fun e => h0 (List.length_eq_zero_iff.1 e)
  refine C45 ?_
  unfold S45
  rw [reads_nil, Tryz.fa87_1, addr_add, Nat.zero_add, pLoad_one (v := .slice (some ⟨g, 0, none⟩) l.length cap) Tryz.agg29 (by rw [hcell_of hb]; rfl)]
  rw [reads_pure (s := builtinS .unsafeSliceData #[29] 113 #[.slice (some ⟨g, 0, none⟩) l.length cap]) (v := .pointer (some ⟨g, 0, none⟩)) (fun w => Go.Lib.run_unsafeSliceData_row (P := Tryz.prog) w #[29] 113 ⟨g, 0, none⟩ l.length cap (by omega))]
  rw [reads_nil, Tryz.fa87_1, addr_add, Nat.zero_add, pLoad_one (v := .slice (some ⟨g, 0, none⟩) l.length cap) Tryz.agg29 (by rw [hcell_of hb]; rfl), reads_rlen Tryz.underlying29]
  refine ⟨?_, trivial⟩
  intro w hw
  subst hw
  have hat : ∀ j x, l[j]? = some x → w.cell? ((⟨g, 0, none⟩ : Addr).add j) = some (.int .u8 x.toNat) := by
    intro j x hj
    rw [cell_eq, addr_add, hcell_of e3]
    obtain ⟨hjl, rfl⟩ := List.getElem?_eq_some_iff.1 hj
    have : (cur.toList.take (l.length * 1))[j]? = (l.map bval)[j]? := by rw [e7]
    rw [List.getElem?_take, if_pos (by omega)] at this
    simpa [hjl, bval] using this
  have hr := Go.Lib.run_unsafeString_row (P := Tryz.prog) w 113 3 9 5 Tryz.underlying113 (by kernel_rfl) g cur.size (by simp [World.shape?, e3]) l h0 (by omega) (by omega) hat
  simp only [builtin, Sem.run_bind, hr, Result.andThen_ok, Sem.run_pure, uponH]
  unfold World.freeze
  rw [if_neg hl0]
  refine ⟨⟨rfl, rfl, rfl⟩, trivial, hk _ (by simp only [Array.size_modify]) fun k hk => ?_⟩
  have : g ≠ k := by omega
  simp only [Array.getElem?_modify, this, if_false]
end Rt
end Go.Proofs
