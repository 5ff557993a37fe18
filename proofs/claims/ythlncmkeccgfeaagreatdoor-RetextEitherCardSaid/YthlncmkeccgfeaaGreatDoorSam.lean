/- A part of the proofs over this seat: Sam. -/
import Derived.Test.YthlncmkeccgfeaaGreatDoorEqs
set_option linter.unusedVariables false
set_option linter.unusedSimpArgs false
set_option maxRecDepth 100000
namespace Go.Proofs
open Go.Vcg
namespace Rt
attribute [local congr] Reads.congr ReadsS.congr pLoad.congr pLoadS.congr pStore.congr Runs.congr CallsH.congr bcase.congr boolV.congr Stable.congr pAlloc.congr
mutual
def sameT : T → T → Bool
  | .node k s mn mx g ts, .node k' s' mn' mx' g' us => decide (k = k') && (decide (s = s') && (decide (mn = mn') && (decide (mx = mx') && (decide (g = g') && sameL ts us))))
def sameL : List T → List T → Bool
  | [], [] => true
  | t :: ts, u :: us => sameT t u && sameL ts us
  | _, _ => false
end
theorem sameL_len : ∀ {ts us : List T}, ts.length ≠ us.length → sameL ts us = false
  | [], [], h => absurd rfl h
  | [], _ :: _, _ => by unfold sameL; rfl
  | _ :: _, [], _ => by unfold sameL; rfl
  | t :: ts, u :: us, h => by unfold sameL; rw [sameL_len (by simpa using h)]; simp

theorem kidsOf {h : Heap} {Q : Nat → Prop} {k g : Nat} {s : W4} {mn mx : Int} {ts : List T} {vs : List Value} (ht : IsRe h Q (.node k s mn mx g ts) vs) : ∃ q c, vs = reL k s mn mx g (.slice q ts.length c) ∧
    (ts ≠ [] → ∃ b cur, q = some ⟨b, 0, none⟩ ∧ ts.length * 9 ≤ cur.size ∧ h[b]? = some (.cells cur 36 (0, 0)) ∧ IsRow h Q ts (cur.toList.take (ts.length * 9))) := by
  simp only [IsRe] at ht
  obtain ⟨kv, rfl, hk⟩ := ht
  rcases hk with ⟨rfl, rfl⟩ | ⟨b, cap, cur, hQ, rfl, h1, h2, h3, h4⟩
  · exact ⟨none, 0, rfl, fun h => absurd rfl h⟩
  · exact ⟨_, _, rfl, fun _ => ⟨b, cur, rfl, h2, h3, h4⟩⟩

theorem same_spec : ∀ (m : Nat) {h : Heap} {Q Q' : Nat → Prop} {t u : T} {vs ws : List Value} {R : Value → Heap → Prop} {E : List PanicEntry → Heap → Prop}, szT t ≤ m → szT t ≤ 1000000 → IsRe h Q t vs → IsRe h Q' u ws →
    (∀ h', Fm h.size h.size h h' → R (.bool (sameT t u)) h') → CallsH Tryz.prog 14 #[.agg vs.toArray, .agg ws.toArray] h R E := by
  intro m
  induction m with
  | zero => intro h Q Q' t u vs ws R E hm; cases t; simp [szT] at hm
  | succ m ih =>
    intro h Q Q' t u vs ws R E hm hm0 ht hu hk
    cases t with
    | node k s mn mx g ts =>
    cases u with
    | node k' s' mn' mx' g' us =>
    have hlen : ts.length ≤ 1000000 := by
      have := szL_len ts
      simp only [szT] at hm0
      omega
    obtain ⟨q, cc, rfl, hts⟩ := kidsOf ht
    obtain ⟨q', cc', rfl, hus⟩ := kidsOf hu
    unfold sameT at hk
    refine C14 ?_
    unfold S14
    refine new_rule fun h1 a1 => new_rule fun h2 a2 => ?_
    have s1 := a1.size
    have s2 := a2.size
    have f2 : Fm h.size h.size h h2 := (Fm.al a1 (Nat.le_refl _)).trans (Fm.al a2 (by omega))
    have b1 : h2[h.size]? = some (.cells (reL k s mn mx g (.slice q ts.length cc)).toArray 36 (0, 0)) := (a2.old h.size (by omega)).trans a1.at_
    have b2 : h2[h1.size]? = some (.cells (reL k' s' mn' mx' g' (.slice q' us.length cc')).toArray 36 (0, 0)) := a2.at_
    -- what is read of the two
    have l0 : ∀ {K : Value → Prop} {hh : Heap}, hh[h.size]? = h2[h.size]? → pLoad Tryz.prog 3 (.pointer (some ⟨h.size, 0, none⟩)) hh K = K (.int .i64 k) := fun e => pLoad_one Tryz.agg3 (by rw [hcell_of (e.trans b1)]; rfl)
    refine Join0.intro (fun h' => h' = h2 ∧ ts.length = us.length ∧ (∀ h', Fm h.size h.size h h' → R (.bool (sameL ts us)) h')) ?_ ?_
    · rw [Tryz.fa36_0, addr_add, pLoad_one (v := .int .i64 k) Tryz.agg3 (by rw [hcell_of b1]; rfl), Tryz.fa36_0, addr_add, pLoad_one (v := .int .i64 k') Tryz.agg3 (by rw [hcell_of b2]; rfl), reads_ne, dec_nn_eq, boolV_bool]
      refine bcase_of (fun hc => ?_) (fun hc => ?_)
      · have e : decide (k = k') = false := by simpa using hc
        rw [e] at hk
        exact hk h2 f2
      have e : decide (k = k') = true := by simpa using hc
      rw [e, Bool.true_and] at hk
      clear hc e
      rw [Tryz.fa36_1, addr_add, Nat.zero_add]
      refine load_row b1 Tryz.agg33 (by simp [reL]) ?_
      rw [Tryz.fa36_1, addr_add, Nat.zero_add]
      refine load_row b2 Tryz.agg33 (by simp [reL]) ?_
      have ev : ∀ (k : Nat) (s : W4) (mn mx : Int) (g : Nat) (kv : Value), (((reL k s mn mx g kv).toArray.toList.drop 1).take 4).toArray = s.vals.toArray := fun _ _ _ _ _ _ => rfl
      rw [ev, ev, reads_neqSet, boolV_bool]
      refine bcase_of (fun hc => ?_) (fun hc => ?_)
      · have e : decide (s = s') = false := by simpa using hc
        rw [e] at hk
        exact hk h2 f2
      have e : decide (s = s') = true := by simpa using hc
      rw [e, Bool.true_and] at hk
      clear hc e
      rw [Tryz.fa36_2, addr_add, Nat.zero_add, pLoad_one (v := .int .i64 mn) Tryz.agg3 (by rw [hcell_of b1]; rfl), Tryz.fa36_2, addr_add, Nat.zero_add, pLoad_one (v := .int .i64 mn') Tryz.agg3 (by rw [hcell_of b2]; rfl), reads_ne, boolV_bool]
      refine bcase_of (fun hc => ?_) (fun hc => ?_)
      · have e : decide (mn = mn') = false := by simpa using hc
        rw [e] at hk
        exact hk h2 f2
      have e : decide (mn = mn') = true := by simpa using hc
      rw [e, Bool.true_and] at hk
      clear hc e
      rw [Tryz.fa36_3, addr_add, Nat.zero_add, pLoad_one (v := .int .i64 mx) Tryz.agg3 (by rw [hcell_of b1]; rfl), Tryz.fa36_3, addr_add, Nat.zero_add, pLoad_one (v := .int .i64 mx') Tryz.agg3 (by rw [hcell_of b2]; rfl), reads_ne, boolV_bool]
      refine bcase_of (fun hc => ?_) (fun hc => ?_)
      · have e : decide (mx = mx') = false := by simpa using hc
        rw [e] at hk
        exact hk h2 f2
      have e : decide (mx = mx') = true := by simpa using hc
      rw [e, Bool.true_and] at hk
      clear hc e
      rw [Tryz.fa36_4, addr_add, Nat.zero_add, pLoad_one (v := .int .i64 g) Tryz.agg3 (by rw [hcell_of b1]; rfl), Tryz.fa36_4, addr_add, Nat.zero_add, pLoad_one (v := .int .i64 g') Tryz.agg3 (by rw [hcell_of b2]; rfl), reads_ne, dec_nn_eq, boolV_bool]
      refine bcase_of (fun hc => ?_) (fun hc => ?_)
      · have e : decide (g = g') = false := by simpa using hc
        rw [e] at hk
        exact hk h2 f2
      have e : decide (g = g') = true := by simpa using hc
      rw [e, Bool.true_and] at hk
      clear hc e
      rw [Tryz.fa36_5, addr_add, Nat.zero_add, pLoad_one (v := .slice q ts.length cc) Tryz.agg34 (by rw [hcell_of b1]; rfl), reads_rlen Tryz.underlying34, Tryz.fa36_5, addr_add, Nat.zero_add, pLoad_one (v := .slice q' us.length cc') Tryz.agg34 (by rw [hcell_of b2]; rfl), reads_rlen Tryz.underlying34, reads_ne, dec_nn_eq, boolV_bool]
      refine bcase_of (fun hc => ?_) (fun hc => ?_)
      · have e : ts.length ≠ us.length := by simpa using hc
        rw [sameL_len e] at hk
        exact hk h2 f2
      · exact ⟨rfl, by simpa using hc, hk⟩
    · rintro h3 ⟨rfl, hl, hk⟩
      rw [Tryz.fa36_5, addr_add, Nat.zero_add, pLoad_one (v := .slice q ts.length cc) Tryz.agg34 (by rw [hcell_of b1]; rfl), reads_rlen Tryz.underlying34]
      refine Loop1.fuel (fun k a h' => ∃ i, i ≤ ts.length ∧ k = ts.length - i ∧ a = .int .i64 i ∧ Fm h3.size h3.size h3 h' ∧ sameL ts us = sameL (ts.drop i) (us.drop i)) (n := ts.length) ⟨0, by omega, by simp, rfl, Fm.refl .., by simp⟩ fun k a h4 hi => ?_
      obtain ⟨i, hi, rfl, rfl, f4, hd⟩ := hi
      have s4 := f4.size
      have f24 : Fm h.size h.size h h4 := f2.trans ⟨f4.size, fun k hk _ => f4.same k (by omega) (by omega)⟩
      rw [reads_lt, boolV_bool]
      refine bcase_of (fun hc => ?_) (fun hc => ?_)
      · have hlt : i < ts.length := by have := of_decide_eq_true hc; omega
        have hlu : i < us.length := by omega
        obtain ⟨bk, cur, rfl, hcur, hbk, hrow⟩ := hts (by rintro rfl; simp at hlt)
        obtain ⟨bk', cur', rfl, hcur', hbk', hrow'⟩ := hus (by rintro rfl; simp at hlu)
        have c1 := (f4.same h.size (by omega) (by omega)).trans b1
        have c2 := (f4.same h1.size (by omega) (by omega)).trans b2
        have d1 := (f24.same bk (at_lt hbk) (by have := at_lt hbk; omega)).trans hbk
        have d2 := (f24.same bk' (at_lt hbk') (by have := at_lt hbk'; omega)).trans hbk'
        have htk : IsRe h Q ts[i] ((cur.toList.drop (i * 9)).take 9) := by
          have := hrow.get hlt
          rwa [take_drop9 hlt] at this
        have huk : IsRe h Q' us[i] ((cur'.toList.drop (i * 9)).take 9) := by
          have := hrow'.get hlu
          rwa [take_drop9 hlu] at this
        rw [Tryz.fa36_5, addr_add, Nat.zero_add, pLoad_one (v := .slice (some ⟨bk, 0, none⟩) ts.length cc) Tryz.agg34 (by rw [hcell_of c1]; rfl), reads_idxRow Tryz.underlying34 Tryz.size36 hlt, addr_add, Nat.zero_add]
        refine load_row d1 Tryz.agg36 (by omega) ?_
        rw [Tryz.fa36_5, addr_add, Nat.zero_add, pLoad_one (v := .slice (some ⟨bk', 0, none⟩) us.length cc') Tryz.agg34 (by rw [hcell_of c2]; rfl), reads_idxRow Tryz.underlying34 Tryz.size36 hlu, addr_add, Nat.zero_add]
        refine load_row d2 Tryz.agg36 (by omega) ?_
        refine ⟨?_, trivial⟩
        have hsz : szT ts[i] ≤ szL ts := szL_get hlt
        refine ih (by simp only [szT] at hm; omega) (by simp only [szT] at hm0; omega) (htk.frame (Q' := fun _ => True) fun b hb hlt => ⟨trivial, f24.same b hlt (by omega)⟩) (huk.frame (Q' := fun _ => True) fun b hb hlt => ⟨trivial, f24.same b hlt (by omega)⟩) fun h5 f5 => ?_
        have s5 := f5.size
        refine ⟨trivial, ?_⟩
        have hcons : sameL (ts.drop i) (us.drop i) = (sameT ts[i] us[i] && sameL (ts.drop (i + 1)) (us.drop (i + 1))) := by
          rw [List.drop_eq_getElem_cons hlt, List.drop_eq_getElem_cons hlu]
          simp only [sameL]
        rw [reads_not, boolV_bool]
        refine bcase_of (fun hs => ?_) (fun hs => ?_)
        · have e : sameT ts[i] us[i] = false := by simpa using hs
          rw [hd, hcons, e, Bool.false_and] at hk
          exact hk h5 (f24.trans ⟨f5.size, fun k hk _ => f5.same k (by omega) (by omega)⟩)
        · have e : sameT ts[i] us[i] = true := by simpa using hs
          rw [reads_add, wrap_n1 _ (by omega)]
          refine ⟨ts.length - (i + 1), by omega, i + 1, by omega, rfl, rfl, f4.trans ⟨f5.size, fun k hk _ => f5.same k (by omega) (by omega)⟩, ?_⟩
          rw [hd, hcons, e, Bool.true_and]
      · have hil : i = ts.length := by have := of_decide_eq_false hc; omega
        have e : sameL (ts.drop i) (us.drop i) = true := by
          rw [hil, List.drop_length, hl, List.drop_length]
          simp only [sameL]
        rw [hd, e] at hk
        exact hk h4 f24
end Rt
end Go.Proofs
