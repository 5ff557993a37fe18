/- A part of the proofs over this seat: Tel. -/
import Derived.Test.YthlncmkeccgfeaaGreatDoorAsw
set_option linter.unusedVariables false
set_option linter.unusedSimpArgs false
set_option maxRecDepth 100000
namespace Go.Proofs
open Go.Vcg Go.Extern
namespace Rt
attribute [local congr] Reads.congr ReadsS.congr pLoad.congr pLoadS.congr pStore.congr Runs.congr CallsH.congr bcase.congr boolV.congr Stable.congr pAlloc.congr
variable {S : Glb} {n : Nat} {h : Heap} {r : Nat} {R : Value → Heap → Prop} {E : List PanicEntry → Heap → Prop}

theorem more_spec {code : Nat} (g : Gl S h) (h1 : 11 ≤ code) (h2 : code ≤ 21) (hk : R (S.v (codeAt code)) h) : CallsH Tryz.prog 50 #[.int .i64 code] h R E := by
  refine C50 ?_
  unfold S50
  have hg : ∀ i, i < 22 → i ≠ 10 → hcell h ⟨i, 0, none⟩ = some (S.v i) := fun i a b => (g.s i a b).1
  rcases (by omega : code = 11 ∨ code = 12 ∨ code = 13 ∨ code = 14 ∨ code = 15 ∨ code = 16 ∨ code = 17 ∨ code = 18 ∨ code = 19 ∨ code = 20 ∨ code = 21) with rfl | rfl | rfl | rfl | rfl | rfl | rfl | rfl | rfl | rfl | rfl <;>
  · simp only [boolV_bool, bcase_true, bcase_false, need, reads_eq, pLoad, Tryz.agg26, reads_eq]
    simp [hg, bcase]
    exact hk
theorem of_all {code : Nat} (g : Gl S h) (h1 : 1 ≤ code) (h2 : code ≤ 21) (hk : R (S.v (codeAt code)) h) : CallsH Tryz.prog 27 #[.int .i64 code] h R E := by
  by_cases h10 : code ≤ 10
  · exact of27_spec g h1 h10 hk
  · refine C27 ?_
    unfold S27
    have hne : ∀ (j : Nat), j ≤ 10 → decide ((code : Int) = (j : Int)) = false := fun j hj => decide_eq_false (by omega)
    simp only [boolV_bool, bcase_true, bcase_false, need, reads_eq, Tryz.agg26, reads_eq]
    simp only [show ((1 : Int)) = ((1 : Nat) : Int) from rfl, show ((2 : Int)) = ((2 : Nat) : Int) from rfl, show ((3 : Int)) = ((3 : Nat) : Int) from rfl, show ((4 : Int)) = ((4 : Nat) : Int) from rfl, show ((5 : Int)) = ((5 : Nat) : Int) from rfl,
      show ((6 : Int)) = ((6 : Nat) : Int) from rfl, show ((7 : Int)) = ((7 : Nat) : Int) from rfl, show ((8 : Int)) = ((8 : Nat) : Int) from rfl, show ((9 : Int)) = ((9 : Nat) : Int) from rfl, show ((10 : Int)) = ((10 : Nat) : Int) from rfl]
    rw [hne 1 (by omega), hne 2 (by omega), hne 3 (by omega), hne 4 (by omega), hne 5 (by omega), hne 6 (by omega), hne 7 (by omega), hne 8 (by omega), hne 9 (by omega), hne 10 (by omega)]
    simp only [boolV_bool, bcase_false]
    exact more_spec g (by omega) h2 hk
theorem codeAt_lt {c : Nat} (h1 : 1 ≤ c) (h2 : c ≤ 21) : codeAt c < 22 ∧ codeAt c ≠ 10 := by unfold codeAt; split <;> omega
theorem codeAt_inj {c d : Nat} (h1 : 1 ≤ c) (h2 : 1 ≤ d) (h : codeAt c = codeAt d) : c = d := by unfold codeAt at h; split at h <;> split at h <;> omega
theorem fIs_spec {lang code pos q j : Nat} {e : Value} (gl : Gl S h) (he : IsErr S h q lang code pos e) (hc1 : 1 ≤ code) (hc2 : code ≤ 21) (hj1 : 1 ≤ j) (hj2 : j ≤ 21) (hk : R (.bool (decide (code = j))) h) : CallsH Tryz.prog 43 #[e, .int .i64 j] h R E := by
  refine C43 ?_
  unfold S43
  refine of_all gl hj1 hj2 ?_
  have he' := he
  obtain ⟨a, b, ha, hb, rfl, e1, e2⟩ := he'
  obtain ⟨_, x, hx, _, _⟩ := gl.s _ (codeAt_lt hj1 hj2).1 (codeAt_lt hj1 hj2).2
  rw [Tryz.neq26_s, boolV_bool, bcase_true]
  have : Reads Tryz.prog (binS .neq 26 true (S.v (codeAt j)) .nilIface) h = fun k => k (.bool true) := by
    funext k; rw [hx, Tryz.neq26_s]
  rw [this]
  simp only [boolV_bool, bcase_true]
  refine isErr_spec gl he (codeAt_lt hj1 hj2).1 (codeAt_lt hj1 hj2).2 (codeAt_lt hc1 hc2).1 (codeAt_lt hc1 hc2).2 ?_
  have : decide (codeAt code = codeAt j) = decide (code = j) := decide_eq_decide.2 ⟨fun e => codeAt_inj hc1 hj1 e, fun e => by rw [e]⟩
  rw [this]
  exact hk
def faultV (code pos lang : Nat) : Value := .agg #[.int .i64 code, .int .i64 pos, .int .i64 lang]
theorem flat3 {a b c : Int} : ∀ v ∈ (#[Value.int .i64 a, .int .i64 b, .int .i64 c] : Array Value).toList, flat v = true := by
  intro v hv
  simp at hv
  rcases hv with rfl | rfl | rfl <;> rfl
theorem tell_nil (hk : ∀ h', Fm h.size h.size h h' → R (faultV 0 0 0) h') : CallsH Tryz.prog 17 #[.nilIface] h R E := by
  refine C17 ?_
  unfold S17
  refine alloc_rule Tryz.zero42 fun h1 a1 => ?_
  rw [Tryz.eql26_n, boolV_bool, bcase_true, Tryz.bd42]
  refine ret_full a1.at_ Tryz.size42 Tryz.agg42 rfl flat3 fun h2 u2 => ?_
  exact hk h2 ((Fm.al a1 (Nat.le_refl _)).trans (Fm.upd u2 (.inl (Nat.le_refl _))))
theorem tell_spec {lang code pos q : Nat} {e : Value} (gl : Gl S h) (hn : S.N ≤ h.size) (he : IsErr S h q lang code pos e) (hc1 : 1 ≤ code) (hc2 : code ≤ 21)
    (hk : ∀ h', Fm h.size h.size h h' → R (faultV code pos lang) h') : CallsH Tryz.prog 17 #[e] h R E := by
  obtain ⟨a, b, ha, hb, rfl, e1, e2⟩ := he
  have la := at_lt e1
  have lb := at_lt e2
  refine C17 ?_
  unfold S17
  refine alloc_rule Tryz.zero42 fun h1 a1 => ?_
  have s1 := a1.size
  rw [Tryz.eql26_s, boolV_bool, bcase_false, Tryz.bd42_0]
  refine alloc_rule Tryz.zero42 fun h2 a2 => ?_
  have s2 := a2.size
  refine storeFull a2.at_ (xs := #[.int .i64 22, .int .i64 0, .int .i64 0]) Tryz.size42 rfl flat3 fun h3 u3 => ?_
  have s3 := u3.size
  have f3 : Fm h.size h.size h h3 := ((Fm.al a1 (Nat.le_refl _)).trans (Fm.al a2 (by omega))).trans (Fm.upd u3 (.inl (by omega)))
  have r3 : h3[h.size]? = some (.cells (Value.agg #[.int .i64 0, .int .i64 0, .int .i64 0]).cells 42 (0, 0)) := (u3.other _ (by omega)).trans ((a2.old _ (by omega)).trans a1.at_)
  refine Loop1.fuel (fun k v h' => ∃ c : Nat, v = .int .i64 c ∧ c ≤ 21 ∧ k = c ∧ Fm h.size h.size h h' ∧ h'.size = h3.size ∧ h'[h.size]? = h3[h.size]? ∧ h'[h1.size]? = some (.cells #[.int .i64 (if c < code then (code : Int) else 22), .int .i64 0, .int .i64 0] 42 (0, 0))) (n := 21)
    ⟨21, rfl, by omega, rfl, f3, rfl, rfl, by rw [u3.same, if_neg (by omega)]⟩ fun k v h4 hi => ?_
  obtain ⟨c, rfl, hc, rfl, f4, s4, r4, b4⟩ := hi
  rw [reads_ge, boolV_bool]
  refine bcase_of (fun hc' => ?_) (fun hc' => ?_)
  · have hcp : 1 ≤ k := by have := of_decide_eq_true hc'; omega
    have he4 : IsErr S h4 0 lang code pos (.iface 81 (ptr a)) := ⟨a, b, by omega, by omega, rfl, (f4.same a la (by omega)).trans e1, (f4.same b lb (by omega)).trans e2⟩
    refine fIs_spec (gl.fm f4 hn hn) he4 hc1 hc2 hcp hc ?_
    rw [boolV_bool]
    refine bcase_of (fun hd => ?_) (fun hd => ?_)
    · have hd : code = k := of_decide_eq_true hd
      rw [Tryz.fa42_0, addr_add]
      refine store1 b4 Tryz.size3 rfl (by simp) fun h5 u5 => ?_
      have s5 := u5.size
      rw [reads_sub, wrap_s1 _ hcp (by omega)]
      refine ⟨k - 1, by omega, k - 1, rfl, by omega, rfl, f4.trans (Fm.upd u5 (.inl (by omega))), by omega, (u5.other _ (by omega)).trans r4, ?_⟩
      rw [u5.same, hd, if_pos (show k - 1 < k by omega)]
      rfl
    · have hd : code ≠ k := of_decide_eq_false hd
      rw [reads_sub, wrap_s1 _ hcp (by omega)]
      refine ⟨k - 1, by omega, k - 1, rfl, by omega, rfl, f4, s4, r4, ?_⟩
      rw [b4]
      by_cases hlt : k < code
      · rw [if_pos hlt, if_pos (by omega)]
      · rw [if_neg hlt, if_neg (by omega)]
  · have hc0 : k = 0 := by have := of_decide_eq_false hc'; omega
    subst hc0
    rw [if_pos (by omega)] at b4
    refine alloc_rule Tryz.zero77 fun h5 a5 => ?_
    have s5 := a5.size
    have f5 : Fm h.size h.size h h5 := f4.trans (Fm.al a5 (by omega))
    have b5 := (a5.old _ (at_lt b4)).trans b4
    have r5 := (a5.old h.size (by omega)).trans (r4.trans r3)
    refine Join0.intro (fun h' => Fm h.size h.size h h' ∧ h5.size ≤ h'.size ∧ h'[h.size]? = h5[h.size]? ∧ h'[h1.size]? = some (.cells #[.int .i64 code, .int .i64 pos, .int .i64 0] 42 (0, 0))) ?_ ?_
    · rw [reads_mkiface Tryz.underlying78 (by simp)]
      have c5 : h5[a]? = some (.cells #[.iface 77 (ptr b), .int .i64 lang] 84 (0, 0)) := (f5.same a la (by omega)).trans e1
      refine as_front as77 a5.at_ (gl.fm f5 hn hn) (by omega) fun h6 x f6 hx6 b6 => ?_
      have s6 := f6.size
      refine as_placed ((f6.same h4.size (by omega) (by omega)).trans a5.at_) b6 ((f6.same a (by omega) (by omega)).trans c5) fun h7 f7 b7 => ?_
      have s7 := f7.size
      rw [boolV_bool, bcase_true]
      rw [pLoad_one (v := ptr b) Tryz.agg77 (by rw [hcell_of b7]; rfl), reads_nil, Tryz.fa80_1, addr_add, Nat.zero_add]
      have f57 : Fm h5.size h4.size h5 h7 := Fm.trans (h' := h6) ⟨f6.size, fun k hk _ => f6.same k hk (by omega)⟩ (f7.less (by omega))
      have d7 : h7[b]? = some (.cells #[S.v (codeAt code), .int .i64 pos] 80 (0, 0)) := (f57.same b (by omega) (by omega)).trans ((f5.same b lb (by omega)).trans e2)
      rw [pLoad_one (v := .int .i64 pos) Tryz.agg3 (by rw [hcell_of d7]; rfl), Tryz.fa42_1, addr_add, Nat.zero_add]
      refine store1 ((f57.same h1.size (by omega) (by omega)).trans b5) Tryz.size3 rfl (by simp) fun h8 u8 => ?_
      have s8 := u8.size
      refine ⟨f5.trans (Fm.trans (h' := h7) ⟨by omega, fun k hk hk' => f57.same k (by omega) (by omega)⟩ (Fm.upd u8 (.inl (by omega)))), by omega, (u8.other _ (by omega)).trans (f57.same _ (by omega) (by omega)), ?_⟩
      rw [u8.same]
      rfl
    rintro h6 ⟨f6, s6, r6, b6⟩
    refine alloc_rule Tryz.zero81 fun h7 a7 => ?_
    have s7 := a7.size
    have f7 : Fm h.size h.size h h7 := f6.trans (Fm.al a7 (by omega))
    have b7 := (a7.old _ (at_lt b6)).trans b6
    rw [reads_mkiface Tryz.underlying82 (by simp)]
    have c7 : h7[a]? = some (.cells #[.iface 77 (ptr b), .int .i64 lang] 84 (0, 0)) := (f7.same a la (by omega)).trans e1
    refine as_front as81 a7.at_ (gl.fm f7 hn hn) (by omega) fun h8 x f8 hx8 b8 => ?_
    have s8 := f8.size
    refine as_hit as81 (x := ptr a) ((f8.same h6.size (by omega) (by omega)).trans a7.at_) b8 (to81 _) (ve81 _) rfl fun h9 f9 b9 => ?_
    have s9 := f9.size
    rw [boolV_bool, bcase_true]
    rw [pLoad_one (v := ptr a) Tryz.agg81 (by rw [hcell_of b9]; rfl), reads_nil, Tryz.fa84_1, addr_add, Nat.zero_add]
    have f79 : Fm h7.size h6.size h7 h9 := Fm.trans (h' := h8) ⟨f8.size, fun k hk _ => f8.same k hk (by omega)⟩ (f9.less (by omega))
    rw [pLoad_one (v := .int .i64 lang) Tryz.agg3 (by rw [hcell_of ((f79.same a (by omega) (by omega)).trans c7)]; rfl), Tryz.fa42_2, addr_add, Nat.zero_add]
    refine store1 ((f79.same h1.size (by omega) (by omega)).trans b7) Tryz.size3 rfl (by simp) fun h10 u10 => ?_
    have s10 := u10.size
    refine load_all u10.same Tryz.agg42 ?_
    have r10 : h10[h.size]? = some (.cells (Value.agg #[.int .i64 0, .int .i64 0, .int .i64 0]).cells 42 (0, 0)) := (u10.other _ (by omega)).trans ((f79.same _ (by omega) (by omega)).trans ((a7.old _ (by omega)).trans (r6.trans r5)))
    refine ret_full r10 Tryz.size42 Tryz.agg42 rfl flat3 fun h11 u11 => ?_
    exact hk h11 ((f7.trans (Fm.trans (h' := h9) ⟨by omega, fun k hk hk' => f79.same k (by omega) (by omega)⟩ (Fm.upd u10 (.inl (by omega))))).trans (Fm.upd u11 (.inl (Nat.le_refl _))))
end Rt
end Go.Proofs
