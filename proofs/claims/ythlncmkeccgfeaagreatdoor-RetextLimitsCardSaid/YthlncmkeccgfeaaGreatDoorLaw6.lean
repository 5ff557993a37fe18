/- A part of the proofs over this seat: Law6. -/
import Derived.Test.YthlncmkeccgfeaaGreatDoorAsw
import Derived.Test.YthlncmkeccgfeaaGreatDoorTxt3
set_option linter.unusedVariables false
set_option linter.unusedSimpArgs false
set_option maxRecDepth 100000
namespace Go.Proofs
open Go.Vcg Go.Extern
namespace Rt
attribute [local congr] Reads.congr ReadsS.congr pLoad.congr pLoadS.congr pStore.congr Runs.congr CallsH.congr bcase.congr boolV.congr Stable.congr pAlloc.congr
variable {S : Glb} {n : Nat} {h : Heap} {r : Nat} {R : Value → Heap → Prop} {E : List PanicEntry → Heap → Prop}

theorem more_spec {code : Nat} (g : Gl S h) (h1 : 11 ≤ code) (h2 : code ≤ 21) (hk : R (S.v (codeAt code)) h) : CallsH Tryz.prog 50 #[.int .i64 code] h R E := by
  refine C50 ?_
  unfold S50
  have hg : ∀ i, i < 22 → i ≠ 10 → hcell h ⟨i, 0, none⟩ = some (S.v i) := fun i a b => (g.s i a b).1
  rcases (by omega : code = 11 ∨ code = 12 ∨ code = 13 ∨ code = 14 ∨ code = 15 ∨ code = 16 ∨ code = 17 ∨ code = 18 ∨ code = 19 ∨ code = 20 ∨ code = 21) with rfl | rfl | rfl | rfl | rfl | rfl | rfl | rfl | rfl | rfl | rfl <;>
  · simp only [boolV_bool, bcase_true, bcase_false, need, reads_eq, pLoad, Tryz.agg26, reads_eq]
    simp [hg, bcase]
    exact hk
theorem of_all {code : Nat} (g : Gl S h) (h1 : 1 ≤ code) (h2 : code ≤ 21) (hk : R (S.v (codeAt code)) h) : CallsH Tryz.prog 27 #[.int .i64 code] h R E := by
  by_cases h10 : code ≤ 10
  · exact of27_spec g h1 h10 hk
  · refine C27 ?_
    unfold S27
    have hne : ∀ (j : Nat), j ≤ 10 → decide ((code : Int) = (j : Int)) = false := fun j hj => decide_eq_false (by omega)
    simp only [boolV_bool, bcase_true, bcase_false, need, reads_eq, Tryz.agg26, reads_eq]
    simp only [show ((1 : Int)) = ((1 : Nat) : Int) from rfl, show ((2 : Int)) = ((2 : Nat) : Int) from rfl, show ((3 : Int)) = ((3 : Nat) : Int) from rfl, show ((4 : Int)) = ((4 : Nat) : Int) from rfl, show ((5 : Int)) = ((5 : Nat) : Int) from rfl,
      show ((6 : Int)) = ((6 : Nat) : Int) from rfl, show ((7 : Int)) = ((7 : Nat) : Int) from rfl, show ((8 : Int)) = ((8 : Nat) : Int) from rfl, show ((9 : Int)) = ((9 : Nat) : Int) from rfl, show ((10 : Int)) = ((10 : Nat) : Int) from rfl]
    rw [hne 1 (by omega), hne 2 (by omega), hne 3 (by omega), hne 4 (by omega), hne 5 (by omega), hne 6 (by omega), hne 7 (by omega), hne 8 (by omega), hne 9 (by omega), hne 10 (by omega)]
    simp only [boolV_bool, bcase_false]
    exact more_spec g (by omega) h2 hk
theorem codeAt_lt {c : Nat} (h1 : 1 ≤ c) (h2 : c ≤ 21) : codeAt c < 22 ∧ codeAt c ≠ 10 := by unfold codeAt; split <;> omega
theorem codeAt_inj {c d : Nat} (h1 : 1 ≤ c) (h2 : 1 ≤ d) (h : codeAt c = codeAt d) : c = d := by unfold codeAt at h; split at h <;> split at h <;> omega
theorem fIs_spec {lang code pos q j : Nat} {e : Value} (gl : Gl S h) (he : IsErr S h q lang code pos e) (hc1 : 1 ≤ code) (hc2 : code ≤ 21) (hj1 : 1 ≤ j) (hj2 : j ≤ 21) (hk : R (.bool (decide (code = j))) h) : CallsH Tryz.prog 43 #[e, .int .i64 j] h R E := by
  refine C43 ?_
  unfold S43
  refine of_all gl hj1 hj2 ?_
  have he' := he
  obtain ⟨a, b, ha, hb, rfl, e1, e2⟩ := he'
  obtain ⟨_, x, hx, _, _⟩ := gl.s _ (codeAt_lt hj1 hj2).1 (codeAt_lt hj1 hj2).2
  rw [Tryz.neq26_s, boolV_bool, bcase_true]
  have : Reads Tryz.prog (binS .neq 26 true (S.v (codeAt j)) .nilIface) h = fun k => k (.bool true) := by
    funext k; rw [hx, Tryz.neq26_s]
  rw [this]
  simp only [boolV_bool, bcase_true]
  refine isErr_spec gl he (codeAt_lt hj1 hj2).1 (codeAt_lt hj1 hj2).2 (codeAt_lt hc1 hc2).1 (codeAt_lt hc1 hc2).2 ?_
  have : decide (codeAt code = codeAt j) = decide (code = j) := decide_eq_decide.2 ⟨fun e => codeAt_inj hc1 hj1 e, fun e => by rw [e]⟩
  rw [this]
  exact hk
def faultV (code pos lang : Nat) : Value := .agg #[.int .i64 code, .int .i64 pos, .int .i64 lang]
theorem flat3 {a b c : Int} : ∀ v ∈ (#[Value.int .i64 a, .int .i64 b, .int .i64 c] : Array Value).toList, flat v = true := by
  intro v hv
  simp at hv
  rcases hv with rfl | rfl | rfl <;> rfl
theorem tell_nil (hk : ∀ h', Fm h.size h.size h h' → R (faultV 0 0 0) h') : CallsH Tryz.prog 17 #[.nilIface] h R E := by
  refine C17 ?_
  unfold S17
  refine alloc_rule Tryz.zero42 fun h1 a1 => ?_
  rw [Tryz.eql26_n, boolV_bool, bcase_true, Tryz.bd42]
  refine ret_full a1.at_ Tryz.size42 Tryz.agg42 rfl flat3 fun h2 u2 => ?_
  exact hk h2 ((Fm.al a1 (Nat.le_refl _)).trans (Fm.upd u2 (.inl (Nat.le_refl _))))
theorem tell_spec {lang code pos q : Nat} {e : Value} (gl : Gl S h) (hn : S.N ≤ h.size) (he : IsErr S h q lang code pos e) (hc1 : 1 ≤ code) (hc2 : code ≤ 21)
    (hk : ∀ h', Fm h.size h.size h h' → R (faultV code pos lang) h') : CallsH Tryz.prog 17 #[e] h R E := by
  obtain ⟨a, b, ha, hb, rfl, e1, e2⟩ := he
  have la := at_lt e1
  have lb := at_lt e2
  refine C17 ?_
  unfold S17
  refine alloc_rule Tryz.zero42 fun h1 a1 => ?_
  have s1 := a1.size
  rw [Tryz.eql26_s, boolV_bool, bcase_false, Tryz.bd42_0]
  refine alloc_rule Tryz.zero42 fun h2 a2 => ?_
  have s2 := a2.size
  refine storeFull a2.at_ (xs := #[.int .i64 22, .int .i64 0, .int .i64 0]) Tryz.size42 rfl flat3 fun h3 u3 => ?_
  have s3 := u3.size
  have f3 : Fm h.size h.size h h3 := ((Fm.al a1 (Nat.le_refl _)).trans (Fm.al a2 (by omega))).trans (Fm.upd u3 (.inl (by omega)))
  have r3 : h3[h.size]? = some (.cells (Value.agg #[.int .i64 0, .int .i64 0, .int .i64 0]).cells 42 (0, 0)) := (u3.other _ (by omega)).trans ((a2.old _ (by omega)).trans a1.at_)
  refine Loop1.fuel (fun k v h' => ∃ c : Nat, v = .int .i64 c ∧ c ≤ 21 ∧ k = c ∧ Fm h.size h.size h h' ∧ h'.size = h3.size ∧ h'[h.size]? = h3[h.size]? ∧ h'[h1.size]? = some (.cells #[.int .i64 (if c < code then (code : Int) else 22), .int .i64 0, .int .i64 0] 42 (0, 0))) (n := 21)
    ⟨21, rfl, by omega, rfl, f3, rfl, rfl, by rw [u3.same, if_neg (by omega)]⟩ fun k v h4 hi => ?_
  obtain ⟨c, rfl, hc, rfl, f4, s4, r4, b4⟩ := hi
  rw [reads_ge, boolV_bool]
  refine bcase_of (fun hc' => ?_) (fun hc' => ?_)
  · have hcp : 1 ≤ k := by have := of_decide_eq_true hc'; omega
    have he4 : IsErr S h4 0 lang code pos (.iface 81 (ptr a)) := ⟨a, b, by omega, by omega, rfl, (f4.same a la (by omega)).trans e1, (f4.same b lb (by omega)).trans e2⟩
    refine fIs_spec (gl.fm f4 hn hn) he4 hc1 hc2 hcp hc ?_
    rw [boolV_bool]
    refine bcase_of (fun hd => ?_) (fun hd => ?_)
    · have hd : code = k := of_decide_eq_true hd
      rw [Tryz.fa42_0, addr_add]
      refine store1 b4 Tryz.size3 rfl (by simp) fun h5 u5 => ?_
      have s5 := u5.size
      rw [reads_sub, wrap_s1 _ hcp (by omega)]
      refine ⟨k - 1, by omega, k - 1, rfl, by omega, rfl, f4.trans (Fm.upd u5 (.inl (by omega))), by omega, (u5.other _ (by omega)).trans r4, ?_⟩
      rw [u5.same, hd, if_pos (show k - 1 < k by omega)]
      rfl
    · have hd : code ≠ k := of_decide_eq_false hd
      rw [reads_sub, wrap_s1 _ hcp (by omega)]
      refine ⟨k - 1, by omega, k - 1, rfl, by omega, rfl, f4, s4, r4, ?_⟩
      rw [b4]
      by_cases hlt : k < code
      · rw [if_pos hlt, if_pos (by omega)]
      · rw [if_neg hlt, if_neg (by omega)]
  · have hc0 : k = 0 := by have := of_decide_eq_false hc'; omega
    subst hc0
    rw [if_pos (by omega)] at b4
    refine alloc_rule Tryz.zero77 fun h5 a5 => ?_
    have s5 := a5.size
    have f5 : Fm h.size h.size h h5 := f4.trans (Fm.al a5 (by omega))
    have b5 := (a5.old _ (at_lt b4)).trans b4
    have r5 := (a5.old h.size (by omega)).trans (r4.trans r3)
    refine Join0.intro (fun h' => Fm h.size h.size h h' ∧ h5.size ≤ h'.size ∧ h'[h.size]? = h5[h.size]? ∧ h'[h1.size]? = some (.cells #[.int .i64 code, .int .i64 pos, .int .i64 0] 42 (0, 0))) ?_ ?_
    · rw [reads_mkiface Tryz.underlying78 (by simp)]
      have c5 : h5[a]? = some (.cells #[.iface 77 (ptr b), .int .i64 lang] 84 (0, 0)) := (f5.same a la (by omega)).trans e1
      refine as_front as77 a5.at_ (gl.fm f5 hn hn) (by omega) fun h6 x f6 hx6 b6 => ?_
      have s6 := f6.size
      refine as_placed ((f6.same h4.size (by omega) (by omega)).trans a5.at_) b6 ((f6.same a (by omega) (by omega)).trans c5) fun h7 f7 b7 => ?_
      have s7 := f7.size
      rw [boolV_bool, bcase_true]
      rw [pLoad_one (v := ptr b) Tryz.agg77 (by rw [hcell_of b7]; rfl), reads_nil, Tryz.fa80_1, addr_add, Nat.zero_add]
      have f57 : Fm h5.size h4.size h5 h7 := Fm.trans (h' := h6) ⟨f6.size, fun k hk _ => f6.same k hk (by omega)⟩ (f7.less (by omega))
      have d7 : h7[b]? = some (.cells #[S.v (codeAt code), .int .i64 pos] 80 (0, 0)) := (f57.same b (by omega) (by omega)).trans ((f5.same b lb (by omega)).trans e2)
      rw [pLoad_one (v := .int .i64 pos) Tryz.agg3 (by rw [hcell_of d7]; rfl), Tryz.fa42_1, addr_add, Nat.zero_add]
      refine store1 ((f57.same h1.size (by omega) (by omega)).trans b5) Tryz.size3 rfl (by simp) fun h8 u8 => ?_
      have s8 := u8.size
      refine ⟨f5.trans (Fm.trans (h' := h7) ⟨by omega, fun k hk hk' => f57.same k (by omega) (by omega)⟩ (Fm.upd u8 (.inl (by omega)))), by omega, (u8.other _ (by omega)).trans (f57.same _ (by omega) (by omega)), ?_⟩
      rw [u8.same]
      rfl
    rintro h6 ⟨f6, s6, r6, b6⟩
    refine alloc_rule Tryz.zero81 fun h7 a7 => ?_
    have s7 := a7.size
    have f7 : Fm h.size h.size h h7 := f6.trans (Fm.al a7 (by omega))
    have b7 := (a7.old _ (at_lt b6)).trans b6
    rw [reads_mkiface Tryz.underlying82 (by simp)]
    have c7 : h7[a]? = some (.cells #[.iface 77 (ptr b), .int .i64 lang] 84 (0, 0)) := (f7.same a la (by omega)).trans e1
    refine as_front as81 a7.at_ (gl.fm f7 hn hn) (by omega) fun h8 x f8 hx8 b8 => ?_
    have s8 := f8.size
    refine as_hit as81 (x := ptr a) ((f8.same h6.size (by omega) (by omega)).trans a7.at_) b8 (to81 _) (ve81 _) rfl fun h9 f9 b9 => ?_
    have s9 := f9.size
    rw [boolV_bool, bcase_true]
    rw [pLoad_one (v := ptr a) Tryz.agg81 (by rw [hcell_of b9]; rfl), reads_nil, Tryz.fa84_1, addr_add, Nat.zero_add]
    have f79 : Fm h7.size h6.size h7 h9 := Fm.trans (h' := h8) ⟨f8.size, fun k hk _ => f8.same k hk (by omega)⟩ (f9.less (by omega))
    rw [pLoad_one (v := .int .i64 lang) Tryz.agg3 (by rw [hcell_of ((f79.same a (by omega) (by omega)).trans c7)]; rfl), Tryz.fa42_2, addr_add, Nat.zero_add]
    refine store1 ((f79.same h1.size (by omega) (by omega)).trans b7) Tryz.size3 rfl (by simp) fun h10 u10 => ?_
    have s10 := u10.size
    refine load_all u10.same Tryz.agg42 ?_
    have r10 : h10[h.size]? = some (.cells (Value.agg #[.int .i64 0, .int .i64 0, .int .i64 0]).cells 42 (0, 0)) := (u10.other _ (by omega)).trans ((f79.same _ (by omega) (by omega)).trans ((a7.old _ (by omega)).trans (r6.trans r5)))
    refine ret_full r10 Tryz.size42 Tryz.agg42 rfl flat3 fun h11 u11 => ?_
    exact hk h11 ((f7.trans (Fm.trans (h' := h9) ⟨by omega, fun k hk hk' => f79.same k (by omega) (by omega)⟩ (Fm.upd u10 (.inl (by omega))))).trans (Fm.upd u11 (.inl (Nat.le_refl _))))
end Rt
end Go.Proofs

set_option maxRecDepth 100000
namespace Go.Proofs
open Go.Vcg Go.Extern
namespace Rt
attribute [local congr] Reads.congr ReadsS.congr pLoad.congr pLoadS.congr pStore.congr Runs.congr CallsH.congr bcase.congr boolV.congr Stable.congr pAlloc.congr
variable {S : Glb} {n : Nat} {h : Heap} {r : Nat} {bv : Value} {l : List UInt8} {p : Nat} {ext : Bool} {op gr : Nat} {R : Value → Heap → Prop} {E : List PanicEntry → Heap → Prop}

def H29C : Hints := { r := fun _ => none, s := fun i => match i with | 6 => some [] | _ => none, l := fun _ => none, d := fun _ => none }
def S29C (P : Program) (E : List PanicEntry → Heap → Prop) (t0 t1 t2 : Value) (h : Heap) (k : List Value → Heap → Prop) : Prop :=
  Reads P (Instr.typeAssert t2 20 26 true) h fun t11 =>
  Reads P (Instr.extract t11 0) h fun t12 =>
  Reads P (Instr.extract t11 1) h fun t13 =>
  pAlloc P 62 h fun t5 h1 =>
  Join0 (fun J1 =>
    Reads P (Instr.makeInterface 64 t5) h1 fun t15 =>
    CallsH P 30 #[t12, t15] h1 (fun t16 h2 =>
    Reads P (Op.unary .not t16) h2 fun t17 =>
    boolV t17 fun b2 => bcase b2 (
      Runs P (vS (Instr.panic t2)) h2 (fun u3 h3 =>
      J1 h3) E) (
      J1 h2)) E)
  (fun h4 =>
  Reads P (Instr.fieldAt 62 t5 0) h4 fun t19 =>
  pLoad P 26 t19 h4 fun t20 =>
  pStore P 24 t0 (.pointer none) h4 fun h5 =>
  pStore P 26 t1 t20 h5 fun h6 =>
  k [t0, t1] h6)
theorem V29C {E : List PanicEntry → Heap → Prop} {t0 t1 t2 : Value} {h : Heap} {k k' : List Value → Heap → Prop} : S29C Tryz.prog E t0 t1 t2 h k = vc Tryz.prog H29C E c29C (zipF [0, 1, 2] [t0, t1, t2] []) h (looksK [0, 1] [] k k') := by kernel_rfl

theorem V29B2 {E : List PanicEntry → Heap → Prop} {t0 t1 t2 : Value} {h : Heap} {k k' : List Value → Heap → Prop} :
    (Reads Tryz.prog (binS .neq 20 true t2 .nilIface) h fun t8 => k [t0, t1, t2, t8] h) = vc Tryz.prog H29B E c29B (zipF [0, 1, 2] [t0, t1, t2] []) h (looksK [0, 1, 2, 8] [] k k') := by kernel_rfl
theorem catch_spec {x y : Nat} {e : Value} {kn : List Value → Heap → Prop} (gl : Gl S h) (hn : S.N ≤ h.size) (hx : h[x]? = some (.cells #[.pointer none] 24 (0, 0))) (hy : h[y]? = some (.cells #[.nilIface] 26 (0, 0))) (hxy : x ≠ y) (he : ∃ t u, e = .iface t u)
    (hk : ∀ h', h.size ≤ h'.size → (∀ k, k < h.size → k ≠ y → h'[k]? = h[k]?) → h'[y]? = some (.cells #[e] 26 (0, 0)) → kn [ptr x, ptr y] h') : S29C Tryz.prog E (ptr x) (ptr y) (.iface 62 (.agg #[e])) h kn := by
  obtain ⟨t, u, rfl⟩ := he
  unfold S29C
  have q : ∀ k : Value → Prop, Reads Tryz.prog (Instr.typeAssert (.iface 62 (.agg #[.iface t u])) 20 26 true) h k = k (.tuple [.iface 62 (.agg #[.iface t u]), .bool true].toArray) := fun k => reads_pure fun w => run_typeAssert_hasB Tryz.underlying26 (by kernel_rfl) _ 20 w
  rw [q, reads_ext0, reads_ext1]
  refine alloc_rule Tryz.zero62 fun h1 a1 => ?_
  have s1 := a1.size
  have lx := at_lt hx
  have ly := at_lt hy
  refine Join0.intro (fun h' => Fm h1.size h.size h1 h' ∧ h'[h.size]? = some (.cells #[.iface t u] 62 (0, 0))) ?_ ?_
  · rw [reads_mkiface Tryz.underlying64 (by simp)]
    refine as_front as62 a1.at_ (gl.fm (Fm.al a1 (Nat.le_refl _)) hn hn) (by omega) fun h2 a f2 ha ba => ?_
    have s2 := f2.size
    refine as_hit as62 (x := .iface t u) ((f2.same _ (by omega) (by omega)).trans a1.at_) ba (to62 _) (ve62 _) rfl fun h3 f3 b3 => ?_
    have s3 := f3.size
    rw [reads_not, boolV_bool]
    refine bcase_of (fun hc => by simp at hc) (fun _ => ?_)
    exact ⟨Fm.trans (h' := h2) ⟨f2.size, fun k hk _ => f2.same k hk (by omega)⟩ (f3.less (by omega)), b3⟩
  rintro h2 ⟨f2, b2⟩
  have s2 := f2.size
  rw [Tryz.fa62_0, addr_add, pLoad_one (v := .iface t u) Tryz.agg26 (by rw [hcell_of b2]; rfl)]
  refine store1 ((f2.same x (by omega) (by omega)).trans ((a1.old x lx).trans hx)) Tryz.size24 rfl (by simp) fun h3 u3 => ?_
  have s3 := u3.size
  refine store1 ((u3.other y (Ne.symm hxy)).trans ((f2.same y (by omega) (by omega)).trans ((a1.old y ly).trans hy))) Tryz.size26 rfl (by simp) fun h4 u4 => ?_
  have s4 := u4.size
  refine hk h4 (by omega) (fun k hk hky => ?_) (by rw [u4.same]; rfl)
  rw [u4.other k hky]
  by_cases hkx : k = x
  · subst hkx
    rw [u3.same, hx]
    rfl
  · rw [u3.other k hkx, f2.same k (by omega) (by omega), a1.old k hk]

/-- a barred one has panicked: it is caught, what it bears is the answer -/
theorem closure_catch {x y : Nat} {e : Value} {w : World} (gl : Gl S w.heap) (hn : S.N ≤ w.heap.size) (hx : w.heap[x]? = some (.cells #[.pointer none] 24 (0, 0))) (hy : w.heap[y]? = some (.cells #[.nilIface] 26 (0, 0))) (hxy : x ≠ y) (he : ∃ t u, e = .iface t u) :
    CallsD Tryz.prog 29 #[ptr x, ptr y] (.panicking [{ v := .iface 62 (.agg #[e]), recovered := false }]) w fun e' u' w' => e' = .returned (.tuple #[]) ∧ u' = .panicking [{ v := .iface 62 (.agg #[e]), recovered := true }] ∧ Same w w' ∧
      w.heap.size ≤ w'.heap.size ∧ (∀ k, k < w.heap.size → k ≠ y → w'.heap[k]? = w.heap[k]?) ∧ w'.heap[y]? = some (.cells #[e] 26 (0, 0)) := by
  refine callsD_of_wpS Tryz.func29 body29_eq fun c₀ cs hm => ?_
  refine wpS_seq (wpS_region ?_)
  have er : List.range ops29A.size = [0, 1] := rfl
  rw [er]
  have hr : recoverD (c₀ :: cs) = some (.iface 62 (.agg #[e]), { c₀ with mode := .panicking [{ v := .iface 62 (.agg #[e]), recovered := true }] } :: cs) := by simp [recoverD, hm]
  have en : Tryz.f29.ntmps = 21 := by kernel_rfl
  simp only [wpOpsS, ops29A]
  simp [Region.wanted, execOp, resolve, invoke, builtin, hr, Oper.upon, Act.eval, Act.put, en]
  refine wpS_seq (wpS_of_wp ?_)
  have ha : Agrees [] 21 { tmps := #[ptr x, ptr y] ++ ((Array.replicate 19 undef).setIfInBounds 4 (.iface 62 (.agg #[e]))).setIfInBounds 0 (.iface 62 (.agg #[e])), defers := [] } (zipF [0, 1, 2] [ptr x, ptr y, .iface 62 (.agg #[e])] []) := by
    exact agrees_of rfl (by simp) (by simp [zipF])
  have hv : vc Tryz.prog H29B (fun _ _ => False) c29B (zipF [0, 1, 2] [ptr x, ptr y, Value.iface 62 (.agg #[e])] []) w.heap (looksK [0, 1, 2, 8] [] (fun vs h' => vs = [ptr x, ptr y, .iface 62 (.agg #[e]), .bool true] ∧ h' = w.heap) fun _ _ => False) := by
    rw [← V29B2, Tryz.neq20_s]
    exact ⟨rfl, rfl⟩
  refine last_piece (H := H29B) (E := fun _ _ => False) (w₀ := w) Tryz.mixed (n := 21) (by kernel_rfl) ha (Same.refl w) hv (fun _ _ _ _ h _ => h.elim) (fun _ _ _ _ _ h => h.elim) ?_
  rintro vs a' w' ha' hw' ⟨rfl, hh⟩
  have h8 : a'.eval (.tmp 8) = .bool true := ha'.eval (x := .tmp 8) rfl
  refine wpS_of_wp (wp_cond_true h8 ?_)
  have ha3 : Agrees [] 21 a' (zipF [0, 1, 2] [ptr x, ptr y, .iface 62 (.agg #[e])] []) := ha'.forget fun t v hl => by
    simp only [zipF, Vcg.look] at hl ⊢
    split at hl
    · exact hl
    · split at hl
      · exact hl
      · split at hl
        · exact hl
        · cases hl
  have hv2 : vc Tryz.prog H29C (fun _ _ => False) c29C (zipF [0, 1, 2] [ptr x, ptr y, Value.iface 62 (.agg #[e])] []) w'.heap (looksK [0, 1] [] (fun vs h' => w.heap.size ≤ h'.size ∧ (∀ k, k < w.heap.size → k ≠ y → h'[k]? = w.heap[k]?) ∧ h'[y]? = some (.cells #[e] 26 (0, 0))) fun _ _ => False) := by
    rw [← V29C, hh]
    exact catch_spec gl hn hx hy hxy he fun h' s k b => ⟨s, k, b⟩
  refine last_piece (H := H29C) (E := fun _ _ => False) (w₀ := w) Tryz.mixed (n := 21) (by kernel_rfl) ha3 hw' hv2 (fun _ _ _ _ h _ => h.elim) (fun _ _ _ _ _ h => h.elim) ?_
  rintro vs a2 w2 ha2 hw2 ⟨k1, k2, k3⟩
  refine ⟨ha2.defers, _, rfl, .tuple #[], ?_, rfl, rfl, hw2, k1, k2, k3⟩
  have er : Tryz.f29.results = #[] := by kernel_rfl
  simp [results, er]

def ops11F : Array Oper := #[
  { dst := some 21, op := .move (.tmp 6), type := 55, pos := "retext.go:98", after := #[], guard := none },
  { dst := some 22, op := .call { callee := .value (.func 31), args := #[.tmp 21], argTypes := #[55] }, type := 36, pos := "retext.go:98", after := #[{ on := 0, ground := .data }], guard := none },
  { dst := some 7, op := .alloc 36, type := 0, pos := "retext.go:98", after := #[], guard := none },
  { dst := none, op := .store 36 (.tmp 7) (.tmp 22), type := 0, pos := "retext.go:98", after := #[{ on := 2, ground := .data }, { on := 1, ground := .data }, { on := 1, ground := .chain }, { on := 0, ground := .phase }, { on := 1, ground := .phase }, { on := 2, ground := .phase }], guard := none }]
noncomputable def c11G : Code := cTail c11E
theorem c11E_eq : c11E = .seq (.region 5 ops11F false) c11G := by kernel_rfl
theorem fails_wp {Q : Exit → Act → World → Prop} {a : Act} {w : World} {x : Value} (h6 : a.tmps[6]? = some x) (hs : 21 < a.tmps.size) {X : List PanicEntry → World → Prop}
    (hc : Calls Tryz.prog 31 #[x] w fun e w' => ∃ c, e = .panicked c ∧ X c w') (hq : ∀ c w', X c w' → Q (.panic c) { a with tmps := a.tmps.setIfInBounds 21 x } w') : c11E.wp Tryz.prog Q a w := by
  rw [c11E_eq]
  refine wp_seq (wp_region ?_)
  have e : List.range ops11F.size = [0, 1, 2, 3] := rfl
  rw [e]
  have h31 : Tryz.prog.funcs[31]? = some Tryz.f31 := Tryz.func31
  have hname : Tryz.f31.name ≠ "runtime.NumGoroutine" := by have : (Tryz.f31.name == "runtime.NumGoroutine") = false := by kernel_rfl
                                                            simpa using this
  have hbody : ∃ c, Tryz.f31.body = some c := by
    have : Tryz.f31.body.isSome = true := by kernel_rfl
    exact Option.isSome_iff_exists.1 this
  obtain ⟨cb, hbody⟩ := hbody
  simp only [wpOps, ops11F]
  simp [Region.wanted, Oper.wp, execOp, Oper.upon, resolve, Deferred.ofValue, invoke, callFunc, h31, hname, hbody, Act.eval, Act.put, h6, hs]
  have hc' : Calls Tryz.prog 31 #[x] w _ := hc.mono (R' := fun e w' => ∃ c, e = .panicked c ∧ Q (.panic c) { tmps := a.tmps.setIfInBounds 21 x, defers := a.defers } w') fun e w' ⟨c, h1, h2⟩ => ⟨c, h1, hq c w' h2⟩
  first
    | (refine .inl (.inl (hc'.mono ?_)); rintro e w' ⟨c, rfl, hx⟩; exact hx)
    | (refine .inl (hc'.mono ?_); rintro e w' ⟨c, rfl, hx⟩; exact hx)
end Rt
end Go.Proofs

set_option maxRecDepth 100000
namespace Go.Proofs
open Go.Vcg Go.Extern
namespace Rt
attribute [local congr] Reads.congr ReadsS.congr pLoad.congr pLoadS.congr pStore.congr Runs.congr CallsH.congr bcase.congr boolV.congr Stable.congr pAlloc.congr
variable {S : Glb} {n : Nat} {h : Heap} {r : Nat} {bv : Value} {l : List UInt8} {p : Nat} {ext : Bool} {op gr : Nat} {R : Value → Heap → Prop} {E : List PanicEntry → Heap → Prop}

/-- the first steps of Parse -/
theorem parse_front (w : World) (hb : IsBytes w.heap bv l) (hq : ∀ (h1 : Heap) (a3 : Act) (w3 : World), Same w w3 → (∃ h2, Al w.heap h1 (.cells #[.pointer none] 24 (0, 0)) ∧ Al h1 h2 (.cells #[.nilIface] 26 (0, 0)) ∧ Al h2 w3.heap (.cells #[bv, .int .i64 0, .bool ext, .int .i64 0, .int .i64 0] 57 (0, 0))) →
      Agrees [] 31 a3 (zipF [0, 1, 4, 5, 6] [bv, .bool ext, ptr w.heap.size, ptr h1.size, ptr (w.heap.size + 2)] []) → (Code.seq c11C (.seq c11D c11E)).wp Tryz.prog (bodyPostD Tryz.prog Tryz.f11 (Post w R E)) a3 w3) :
    Calls Tryz.prog 11 #[bv, .bool ext] w (Post w R E) := by
  refine calls_of_wp_defers Tryz.func11 body11_eq ?_
  have en : Tryz.f11.ntmps = 31 := by kernel_rfl
  refine piece (H := H11A) (E := fun _ _ => False) (D := []) (n := 31) (outs := [0, 1, 4, 5]) (rets := []) (fr := enumF 0 [bv, .bool ext])
    (kn := fun vs h2 => ∃ h1, Al w.heap h1 (.cells #[.pointer none] 24 (0, 0)) ∧ Al h1 h2 (.cells #[.nilIface] 26 (0, 0)) ∧ vs = [bv, .bool ext, ptr w.heap.size, ptr h1.size]) (kr := fun _ _ => False)
    Tryz.mixed (by kernel_rfl) ?_ (Same.refl w) ?_ (fun _ _ _ _ h _ => h.elim) (fun _ _ _ _ _ h => h.elim) ?_
  · exact agrees_of rfl (by simp [en]) (by simp [enumF])
  · rw [← V11A]
    unfold S11A
    refine alloc_rule Tryz.zero24 fun h1 a1 => alloc_rule Tryz.zero26 fun h2 a2 => ?_
    exact ⟨h1, a1, a2, rfl⟩
  rintro vs a2 w2 ha2 hw2 ⟨h1, al1, al2, rfl⟩
  have s1 := al1.size
  have s2 := al2.size
  refine piece (H := H11B) (E := fun _ _ => False) (D := []) (n := 31) (w₀ := w) (outs := [0, 1, 4, 5, 6]) (rets := [])
    (kn := fun vs h3 => Al w2.heap h3 (.cells #[bv, .int .i64 0, .bool ext, .int .i64 0, .int .i64 0] 57 (0, 0)) ∧ vs = [bv, .bool ext, ptr w.heap.size, ptr h1.size, ptr w2.heap.size]) (kr := fun _ _ => False)
    Tryz.mixed (by kernel_rfl) ha2 hw2 ?_ (fun _ _ _ _ h _ => h.elim) (fun _ _ _ _ _ h => h.elim) ?_
  · rw [← V11B]
    unfold S11B
    have : ∃ q m c, bv = .slice q m c := by
      rcases hb with ⟨rfl, _⟩ | ⟨b, o, c, rfl, _⟩
      · exact ⟨_, _, _, rfl⟩
      · exact ⟨_, _, _, rfl⟩
    obtain ⟨q, m, c, rfl⟩ := this
    rw [Tryz.bd57_0_2]
    refine new_rule fun h3 a3 => ?_
    exact ⟨a3, rfl⟩
  rintro vs a3 w3 ha3 hw3 ⟨al3, rfl⟩
  have e2 : w2.heap.size = w.heap.size + 2 := by omega
  rw [e2] at ha3
  exact hq h1 a3 w3 hw3 ⟨w2.heap, al1, al2, al3⟩ ha3

theorem parse_bad {k : Nat} (hk0 : k ≤ 1000000) (gl : Gl S h) (hn : S.N ≤ h.size) (hb : IsBytes h bv l) (hbl : ∀ b o m c, bv = .slice (some ⟨b, o, none⟩) m c → b < h.size) (hlen : l.length ≤ 256) {code pos : Nat}
    (hm : wholeM k l ext = .bad code pos) (hk : ∀ h' e, Fm h.size h.size h h' → IsErr S h' h.size (if ext then 4 else 3) code pos e → R (.tuple #[.pointer none, e]) h') :
    CallsH Tryz.prog 11 #[bv, .bool ext] h R E := by
  intro w hw
  subst hw
  refine parse_front w hb fun h1 a3 w3 hw3 ⟨h2, al1, al2, al3⟩ ha3 => ?_
  have s1 := al1.size
  have s2 := al2.size
  have s3 := al3.size
  have f3 : Fm w.heap.size w.heap.size w.heap w3.heap := ((Fm.al al1 (Nat.le_refl _)).trans (Fm.al al2 (by omega))).trans (Fm.al al3 (by omega))
  have e2 : h2.size = w.heap.size + 2 := by omega
  have rd : w3.heap[w.heap.size + 2]? = some (.cells #[bv, .int .i64 0, .bool ext, .int .i64 0, .int .i64 0] 57 (0, 0)) := by rw [← e2]; exact al3.at_
  have c3 : Cx S w.heap.size w3.heap (w.heap.size + 2) bv l 0 ext 0 0 :=
    ⟨rd, hb.frame fun b o c hv => f3.same b (hbl b o _ c hv) (by have := hbl b o _ c hv; omega), fun b o m c hv => ⟨by have := hbl b o m c hv; omega, hbl b o m c hv⟩, Nat.zero_le _, hlen, gl.fm f3 hn hn, by omega, hn, by omega, Nat.le_refl _, by omega⟩
  refine piece (H := H11C) (E := fun _ _ => False) (D := []) (n := 31) (w₀ := w) (outs := [0, 1, 4, 5, 6]) (rets := [])
    (kn := fun vs h4 => h4 = w3.heap ∧ vs = [bv, .bool ext, ptr w.heap.size, ptr h1.size, ptr (w.heap.size + 2)]) (kr := fun _ _ => False)
    Tryz.mixed (by kernel_rfl) ha3 hw3 ?_ (fun _ _ _ _ h _ => h.elim) (fun _ _ _ _ _ h => h.elim) ?_
  · rw [← V11C]
    unfold S11C
    rw [reads_blen c3.by_ Tryz.underlying29, reads_gt, boolV_bool]
    refine bcase_of (fun hc => ?_) (fun _ => ⟨rfl, rfl⟩)
    have := of_decide_eq_true hc
    omega
  rintro vs a4 w4 ha4 hw4 ⟨hh4, rfl⟩
  refine wp_seq (defer_wp (x := ptr w.heap.size) (y := ptr h1.size) (ha4.vals 4 _ rfl) (ha4.vals 5 _ rfl) (by rw [ha4.size]; omega) ?_)
  have h6 : (a4.tmps.setIfInBounds 20 (.func (.func 29) #[] #[ptr w.heap.size, ptr h1.size]))[6]? = some (ptr (w.heap.size + 2)) := by
    rw [Array.getElem?_setIfInBounds_ne (by omega)]
    exact ha4.vals 6 _ rfl
  have g4 : Gl S w4.heap := by rw [hh4]; exact gl.fm f3 hn hn
  have hW := whole_spec (R := fun _ _ => False) (E := fun c h' => Fails S h' w4.heap.size ext code pos c ∧ Fm w4.heap.size (w.heap.size + 2) w4.heap h') (n := w.heap.size) hk0 (c := by rw [hh4]; exact c3) (by
    rw [hm]
    intro c h' hf f
    exact ⟨hf, f⟩) w4 rfl
  refine fails_wp (X := fun c w' => Same w w' ∧ Fails S w'.heap w4.heap.size ext code pos c ∧ Fm w4.heap.size (w.heap.size + 2) w4.heap w'.heap) h6 (by simp [ha4.size]) (hW.mono fun e w' he => ?_) ?_
  · cases e with
    | returned v => exact he.2.elim
    | panicked c => exact ⟨c, rfl, hw4.trans he.1, he.2⟩
    | outgrown => exact he.elim
  rintro c w5 ⟨hw5, ⟨e, hie, rfl⟩, f5⟩
  have s5 := f5.size
  have s4 : w4.heap.size = w3.heap.size := by rw [hh4]
  simp only [bodyPostD]
  rw [ha4.defers]
  have e5 : ∀ k, k < w4.heap.size → k ≠ w.heap.size + 2 → w5.heap[k]? = w3.heap[k]? := fun k hk hk2 => by rw [f5.same k hk hk2, hh4]
  have b4 : w5.heap[w.heap.size]? = some (.cells #[.pointer none] 24 (0, 0)) := (e5 _ (by omega) (by omega)).trans ((al3.old _ (by omega)).trans ((al2.old _ (by omega)).trans al1.at_))
  have b5 : w5.heap[h1.size]? = some (.cells #[.nilIface] 26 (0, 0)) := (e5 _ (by omega) (by omega)).trans ((al3.old _ (by omega)).trans al2.at_)
  have hit : ∃ t u, e = .iface t u := by obtain ⟨a, b, _, _, rfl, _⟩ := hie; exact ⟨_, _, rfl⟩
  refine leaves_cons (f := 29) (args := #[ptr w.heap.size, ptr h1.size]) (by simp) ?_ ?_
  · have h29 : Tryz.prog.funcs[29]? = some Tryz.f29 := Tryz.func29
    have hname : Tryz.f29.name ≠ "runtime.NumGoroutine" := by have : (Tryz.f29.name == "runtime.NumGoroutine") = false := by kernel_rfl
                                                              simpa using this
    simp [invoke, callFunc, h29, hname, body29_eq]
  · refine CallsD.mono (closure_catch (S := S) (g4.fm f5 (by omega) (by omega)) (by omega) b4 b5 (by omega) hit) ?_
    rintro e' u' w7 ⟨rfl, rfl, hs7, k1, k2, k3⟩
    have ha6 : Agrees [{ target := .fn (.func 29) #[ptr w.heap.size, ptr h1.size], args := #[] }] 31 { tmps := (a4.tmps.setIfInBounds 20 (.func (.func 29) #[] #[ptr w.heap.size, ptr h1.size])).setIfInBounds 21 (ptr (w.heap.size + 2)), defers := [{ target := .fn (.func 29) #[ptr w.heap.size, ptr h1.size], args := #[] }] }
        (zipF [4, 5] [ptr w.heap.size, ptr h1.size] []) := by
      refine agrees_of rfl (by simp [ha4.size]) ?_
      intro q hq
      simp only [zipF, List.mem_cons, List.not_mem_nil, or_false] at hq
      rcases hq with rfl | rfl <;>
      · simp only
        rw [Array.getElem?_setIfInBounds_ne (by omega), Array.getElem?_setIfInBounds_ne (by omega)]
        exact ha4.vals _ _ rfl
    have hst : settle (.panicking [{ v := Value.iface 62 (.agg #[e]), recovered := true }]) = .returning := by simp [settle]
    have hr := results11 (w := w7) (u := .pointer none) (v := e) (x := ptr w.heap.size) (y := ptr h1.size) ha6 rfl rfl (load_one Tryz.agg24 ((k2 _ (by omega) (by omega)).trans b4)) (load_one Tryz.agg26 k3)
    simp only [hst, Leaves]
    refine ⟨.tuple #[.pointer none, e], ?_, ⟨hw5.trans hs7, ?_⟩⟩
    · exact hr
    · refine hk _ e ⟨by omega, fun k hk _ => ?_⟩ ((hie.fm fun k hk1 hk2 => k2 k hk1 (by omega)).less (by omega))
      rw [k2 k (by omega) (by omega), e5 k (by omega) (by omega), f3.same k hk (by omega)]

theorem langOf_spec {b : Nat} {x y z u : Value} {ext : Bool} (hb : h[b]? = some (.cells #[x, y, .bool ext, z, u] 57 (0, 0))) (hk : R (.int .i64 ((if ext then 4 else 3 : Nat) : Int)) h) : CallsH Tryz.prog 28 #[ptr b] h R E := by
  refine C28 ?_
  unfold S28
  simp only [boolV_bool, bcase_true, bcase_false, need, reads_nil, Tryz.fa57_2, addr_add, Tryz.agg4]
  rw [pLoad_one (v := .bool ext) Tryz.agg4 (by rw [hcell_of hb]; rfl), boolV_bool]
  cases ext
  · exact hk
  · exact hk

def H11L : Hints := { r := fun _ => none, s := fun _ => none, l := fun _ => none, d := fun _ => none }
def S11L (P : Program) (E : List PanicEntry → Heap → Prop) (t0 t1 t4 t5 t6 : Value) (h : Heap) (k k' : List Value → Heap → Prop) : Prop :=
  Reads P (builtinS .len #[29] 3 #[t0]) h fun t13 =>
  Reads P (binS .gtr 3 true t13 (.int .i64 256)) h fun t14 =>
  boolV t14 fun b1 => bcase b1 (
    CallsH P 27 #[(.int .i64 2)] h (fun t15 h1 =>
    CallsH P 26 #[t15, (.int .i64 0)] h1 (fun t16 h2 =>
    CallsH P 28 #[t6] h2 (fun t18 h3 =>
    CallsH P 25 #[t16, t18] h3 (fun t19 h4 =>
    pStore P 24 t4 (.pointer none) h4 fun h5 =>
    pStore P 26 t5 t19 h5 fun h6 =>
    k' [t4, t5] h6) E) E) E) E) (
    k [t0, t1, t4, t5, t6] h)
theorem V11L {E : List PanicEntry → Heap → Prop} {t0 t1 t4 t5 t6 : Value} {h : Heap} {k k' : List Value → Heap → Prop} : S11L Tryz.prog E t0 t1 t4 t5 t6 h k k' = vc Tryz.prog H11L E c11C (zipF [0, 1, 4, 5, 6] [t0, t1, t4, t5, t6] []) h (looksK [0, 1, 4, 5, 6] [4, 5] k k') := by kernel_rfl

theorem parse_long (gl : Gl S h) (hn : S.N ≤ h.size) (hb : IsBytes h bv l) (hbl : ∀ b o m c, bv = .slice (some ⟨b, o, none⟩) m c → b < h.size) (hlen : 256 < l.length)
    (hk : ∀ h' e, Fm h.size h.size h h' → IsErr S h' h.size (if ext then 4 else 3) 2 0 e → R (.tuple #[.pointer none, e]) h') : CallsH Tryz.prog 11 #[bv, .bool ext] h R E := by
  intro w hw
  subst hw
  refine parse_front w hb fun h1 a3 w3 hw3 ⟨h2, al1, al2, al3⟩ ha3 => ?_
  have s1 := al1.size
  have s2 := al2.size
  have s3 := al3.size
  have f3 : Fm w.heap.size w.heap.size w.heap w3.heap := ((Fm.al al1 (Nat.le_refl _)).trans (Fm.al al2 (by omega))).trans (Fm.al al3 (by omega))
  have e2 : h2.size = w.heap.size + 2 := by omega
  have rd : w3.heap[w.heap.size + 2]? = some (.cells #[bv, .int .i64 0, .bool ext, .int .i64 0, .int .i64 0] 57 (0, 0)) := by rw [← e2]; exact al3.at_
  have b4 : w3.heap[w.heap.size]? = some (.cells #[.pointer none] 24 (0, 0)) := (al3.old _ (by omega)).trans ((al2.old _ (by omega)).trans al1.at_)
  have b5 : w3.heap[h1.size]? = some (.cells #[.nilIface] 26 (0, 0)) := (al3.old _ (by omega)).trans al2.at_
  have by3 : IsBytes w3.heap bv l := hb.frame fun b o c hv => f3.same b (hbl b o _ c hv) (by have := hbl b o _ c hv; omega)
  have g3 := gl.fm f3 hn hn
  refine piece (H := H11L) (E := fun _ _ => False) (D := []) (n := 31) (w₀ := w) (outs := [0, 1, 4, 5, 6]) (rets := [4, 5]) (kn := fun _ _ => False)
    (kr := fun vs h' => vs = [ptr w.heap.size, ptr h1.size] ∧ ∃ e, Fm w.heap.size w.heap.size w.heap h' ∧ IsErr S h' w.heap.size (if ext then 4 else 3) 2 0 e ∧ h'[w.heap.size]? = some (.cells #[.pointer none] 24 (0, 0)) ∧ h'[h1.size]? = some (.cells #[e] 26 (0, 0)))
    Tryz.mixed (by kernel_rfl) ha3 hw3 ?_ (fun _ _ _ _ h _ => h.elim) ?_ (fun _ _ _ _ _ h => h.elim)
  · rw [← V11L]
    unfold S11L
    rw [reads_blen by3 Tryz.underlying29, reads_gt, boolV_bool]
    refine bcase_of (fun _ => ?_) (fun hc => ?_)
    · refine of27_spec (code := 2) g3 (by omega) (by omega) ?_
      obtain ⟨_, x, hx, _⟩ := g3.s (codeAt 2) (by decide) (by decide)
      rw [hx]
      refine at_spec (pos := 0) fun h4 a4 => ?_
      have s4 := a4.size
      refine langOf_spec ((a4.old _ (by omega)).trans rd) ?_
      refine in_spec fun h5 a5 => ?_
      have s5 := a5.size
      refine store1 ((a5.old _ (by omega)).trans ((a4.old _ (by omega)).trans b4)) Tryz.size24 rfl (by simp) fun h6 u6 => ?_
      have s6 := u6.size
      refine store1 ((u6.other _ (by omega)).trans ((a5.old _ (by omega)).trans ((a4.old _ (by omega)).trans b5))) Tryz.size26 rfl (by simp) fun h7 u7 => ?_
      have s7 := u7.size
      refine ⟨rfl, _, ?_, ⟨h4.size, w3.heap.size, by omega, by omega, rfl, ?_, ?_⟩, ?_, by rw [u7.same]; rfl⟩
      · exact (((f3.trans (Fm.al a4 (by omega))).trans (Fm.al a5 (by omega))).trans (Fm.upd u6 (.inl (by omega)))).trans (Fm.upd u7 (.inl (by omega)))
      · exact (u7.other _ (by omega)).trans ((u6.other _ (by omega)).trans a5.at_)
      · rw [hx]
        exact (u7.other _ (by omega)).trans ((u6.other _ (by omega)).trans ((a5.old _ (by omega)).trans a4.at_))
      · rw [u7.other _ (by omega), u6.same]; rfl
    · have := of_decide_eq_false hc
      omega
  rintro vs a6 w6 ha6 hw6 ⟨rfl, e, f6, he6, h4, h5⟩
  simp only [bodyPostD]
  rw [ha6.defers]
  have hr := results11 (w := w6) (u := .pointer none) (v := e) (x := ptr w.heap.size) (y := ptr h1.size) ha6 rfl rfl (load_one Tryz.agg24 h4) (load_one Tryz.agg26 h5)
  simp only [Leaves]
  exact ⟨_, hr, hw6, hk _ e f6 he6⟩
end Rt
end Go.Proofs

set_option maxRecDepth 100000
namespace Go.Proofs
open Go.Vcg
namespace Rt
attribute [local congr] Reads.congr ReadsS.congr pLoad.congr pLoadS.congr pStore.congr Runs.congr CallsH.congr bcase.congr boolV.congr Stable.congr pAlloc.congr
variable {S : Glb} {n : Nat} {h : Heap} {r : Nat} {bv : Value} {l : List UInt8} {p : Nat} {ext : Bool} {op gr : Nat} {R : Value → Heap → Prop} {E : List PanicEntry → Heap → Prop}

theorem fld36_0 {h : Heap} {k : Value → Prop} {b c d e f g x y : Value} {K : IntKind} {n : Int} : Reads Tryz.prog (Instr.field 36 (.agg #[.int K n, b, c, d, e, f, g, x, y]) 0) h k = k (.int K n) := reads_pure fun w => show (Instr.field 36 (.agg #[.int K n, b, c, d, e, f, g, x, y]) 0).run Tryz.prog w = .ok (.int K n) w from by kernel_rfl
theorem reads_eqB {h : Heap} {k : Value → Prop} {a b : Bool} : Reads Tryz.prog (binS .eql 4 false (.bool a) (.bool b)) h k = k (.bool (decide (a = b))) := by
  cases a <;> cases b
  · exact reads_pure fun w => show (binS .eql 4 false (.bool false) (.bool false)).run Tryz.prog w = .ok (.bool true) w from by kernel_rfl
  · exact reads_pure fun w => show (binS .eql 4 false (.bool false) (.bool true)).run Tryz.prog w = .ok (.bool false) w from by kernel_rfl
  · exact reads_pure fun w => show (binS .eql 4 false (.bool true) (.bool false)).run Tryz.prog w = .ok (.bool false) w from by kernel_rfl
  · exact reads_pure fun w => show (binS .eql 4 false (.bool true) (.bool true)).run Tryz.prog w = .ok (.bool true) w from by kernel_rfl
theorem IsErr.ifc {q lang code pos : Nat} {e : Value} (he : IsErr S h q lang code pos e) : ∃ t v, e = .iface t v := by
  obtain ⟨a, b, _, _, rfl, _⟩ := he
  exact ⟨_, _, rfl⟩
/-- Parse, all of it -/
theorem parse_spec (gl : Gl S h) (hn : S.N ≤ h.size) (hb : IsBytes h bv l) (hbl : ∀ b o m c, bv = .slice (some ⟨b, o, none⟩) m c → b < h.size)
    (hok : ∀ h' b vs t p gr, l.length ≤ 256 → wholeM (fuel l) l ext = .ok (t, p, gr) → Good t → 1 ≤ p → p ≤ l.length → gr ≤ 9 → szT t ≤ 768 → Fm h.size h.size h h' → h.size ≤ b → h'[b]? = some (.cells (vs ++ [.int .i64 gr, .bool ext]).toArray 66 (0, 0)) → IsRe h' (fun x => h.size ≤ x ∧ x ≠ b) t vs → R (.tuple #[ptr b, .nilIface]) h')
    (hbad : ∀ h' e code pos, 1 ≤ code → code ≤ 10 → pos ≤ l.length → (code = 2 ↔ 256 < l.length) → (l.length ≤ 256 → wholeM (fuel l) l ext = .bad code pos) → (256 < l.length → pos = 0) → Fm h.size h.size h h' → IsErr S h' h.size (if ext then 4 else 3) code pos e → R (.tuple #[.pointer none, e]) h') :
    CallsH Tryz.prog 11 #[bv, .bool ext] h R E := by
  rcases Nat.lt_or_ge 256 l.length with hl | hl
  · exact parse_long gl hn hb hbl hl fun h' e f he => hbad h' e 2 0 (by omega) (by omega) (by omega) (by simp [hl]) (by omega) (fun _ => rfl) f he
  · have hend := whole_end (l := l) (ext := ext)
    cases hm : wholeM (fuel l) l ext with
    | out => rw [hm] at hend; exact hend.elim
    | bad code pos =>
      rw [hm] at hend
      refine parse_bad (k := fuel l) (by unfold fuel; omega) gl hn hb hbl hl hm fun h' e f he => hbad h' e code pos ?_ ?_ hend.2 ?_ (fun _ => hm) (by omega) f he
      · have := hend.1; unfold errC at this; omega
      · have := hend.1; unfold errC at this; omega
      · have := hend.1; unfold errC at this; omega
    | ok x =>
      rw [hm] at hend
      obtain ⟨t, p, gr⟩ := x
      obtain ⟨h1, h2, h3, h4, h5⟩ := hend
      simp only at h1 h2 h3 h4 h5
      exact parse_ok (k := fuel l) (by unfold fuel; omega) gl hn hb hbl hl hm fun h' b vs f hb' h66 ht => hok h' b vs t p gr hl hm h1 h2 h3 h4 (by omega) f hb' h66 ht
theorem places_spec (gl : Gl S h) (hn : S.N ≤ h.size) (hb : IsBytes h bv l) (hbl : ∀ b o m c, bv = .slice (some ⟨b, o, none⟩) m c → b < h.size) (hk : ∀ h', Fm h.size h.size h h' → R (.bool true) h') : CallsH Tryz.prog 6 #[bv, .bool ext] h R E := by
  refine C6 ?_
  unfold S6
  have fin : ∀ {h'}, Fm h.size h.size h h' → CallsH Tryz.prog 10 #[] h' (fun t h'' => R t h'') E := by
    intro h' f
    have := f.size
    exact awake_spec (gl.fm f hn hn) (by omega) fun h'' f'' => hk h'' (f.trans (Fm.lift f'' (by omega) (by omega)))
  refine parse_spec gl hn hb hbl (fun h1 b vs t p gr hl hm hg hp1 hp2 hgr hsz f1 hb1 h66 ht => ?_) (fun h1 e code pos hc1 hc2 hpos h2 _ _ f1 he => ?_)
  · have s1 := f1.size
    rw [reads_ext0, reads_ext1]
    refine tell_nil fun h2 f2 => ?_
    have s2 := f2.size
    have f02 := f1.trans (Fm.lift (n := h.size) (r := h.size) f2 (by omega) (by omega))
    refine alloc_rule Tryz.zero42 fun h3 a3 => ?_
    have s3 := a3.size
    refine storeFull a3.at_ (xs := #[.int .i64 (0 : Nat), .int .i64 (0 : Nat), .int .i64 (0 : Nat)]) Tryz.size42 rfl flat3 fun h4 u4 => ?_
    have s4 := u4.size
    have f04 : Fm h.size h.size h h4 := f02.trans ((Fm.al a3 (by omega)).trans (Fm.upd u4 (.inl (by omega))))
    have f14 : ∀ k, k < h1.size → h4[k]? = h1[k]? := fun k hk => by rw [u4.other _ (by omega), a3.old _ (by omega), f2.same _ hk (by omega)]
    have hb4 := hb.frame fun b o k hv => f04.same b (hbl b o _ k hv) (by have := hbl b o _ k hv; omega)
    have lb := at_lt h66
    rw [Tryz.neq26_n, boolV_bool, bcase_false, Tryz.neq24_s, boolV_bool, bcase_true, reads_blen hb4 Tryz.underlying29, reads_gt, boolV_bool]
    refine bcase_of (fun hc => ?_) (fun hc => by have := of_decide_eq_false hc; omega)
    refine groups_spec ht.len ((f14 b lb).trans h66) ?_
    rw [reads_le, boolV_bool]
    refine bcase_of (fun hc => ?_) (fun hc => by have := of_decide_eq_false hc; omega)
    have ht4 : IsRe h4 (fun x => h.size ≤ x ∧ x ≠ b) t vs := ht.frame fun x hx hlt => ⟨hx, f14 x hlt⟩
    refine tree_spec ((f14 b lb).trans h66) ht4 (by omega) fun h5 ws f5 ht5 => ?_
    have s5 := f5.size
    obtain ⟨k, s, mn, mx, g, ts⟩ := t
    obtain ⟨q, cc, rfl, _⟩ := kidsOf ht5
    have hk1 : 1 ≤ k := hg.1
    rw [show Value.agg (reL k s mn mx g (.slice q ts.length cc)).toArray = .agg #[.int .i64 k, .int .u64 s.a, .int .u64 s.b, .int .u64 s.c, .int .u64 s.d, .int .i64 mn, .int .i64 mx, .int .i64 g, .slice q ts.length cc] from rfl, fld36_0, reads_ge, boolV_bool]
    refine bcase_of (fun hc => ?_) (fun hc => by have := of_decide_eq_false hc; omega)
    exact fin (f04.trans (Fm.lift (n := h.size) (r := h.size) f5 (by omega) (by omega)))
  · have s1 := f1.size
    have g1 := gl.fm f1 hn hn
    rw [reads_ext0, reads_ext1]
    refine tell_spec g1 (by omega) he hc1 (by omega) fun h2' f2 => ?_
    have s2 := f2.size
    have f02 := f1.trans (Fm.lift (n := h.size) (r := h.size) f2 (by omega) (by omega))
    refine alloc_rule Tryz.zero42 fun h3 a3 => ?_
    have s3 := a3.size
    refine storeFull a3.at_ (xs := #[.int .i64 code, .int .i64 pos, .int .i64 ((if ext then 4 else 3 : Nat))]) Tryz.size42 rfl flat3 fun h4 u4 => ?_
    have s4 := u4.size
    have f04 : Fm h.size h.size h h4 := f02.trans ((Fm.al a3 (by omega)).trans (Fm.upd u4 (.inl (by omega))))
    have hb4 := hb.frame fun b o k hv => f04.same b (hbl b o _ k hv) (by have := hbl b o _ k hv; omega)
    have b4 := u4.same
    obtain ⟨ta, va, rfl⟩ := he.ifc
    rw [Tryz.neq26_s, boolV_bool, bcase_true]
    refine Join1.intro (fun v h' => h' = h4 ∧ v = .int .i64 ((if ext then 4 else 3 : Nat))) ?_ ?_
    · rw [boolV_bool]
      cases ext
      · exact ⟨rfl, rfl⟩
      · exact ⟨rfl, rfl⟩
    rintro v h5 ⟨rfl, rfl⟩
    rw [Tryz.eql24_n, boolV_bool, bcase_true, Tryz.fa42_2, addr_add, Nat.zero_add, pLoad_one (v := .int .i64 ((if ext then 4 else 3 : Nat))) Tryz.agg3 (by rw [hcell_of b4]; rfl), reads_eq, boolV_bool]
    refine bcase_of (fun _ => ?_) (fun hc => by simp at hc)
    rw [Tryz.fa42_1, addr_add, Nat.zero_add, pLoad_one (v := .int .i64 pos) Tryz.agg3 (by rw [hcell_of b4]; rfl), reads_ge, boolV_bool]
    refine bcase_of (fun _ => ?_) (fun hc => by have := of_decide_eq_false hc; omega)
    rw [Tryz.fa42_1, addr_add, Nat.zero_add, pLoad_one (v := .int .i64 pos) Tryz.agg3 (by rw [hcell_of b4]; rfl), reads_blen hb4 Tryz.underlying29, reads_le, boolV_bool]
    refine bcase_of (fun _ => ?_) (fun hc => by have := of_decide_eq_false hc; omega)
    rw [Tryz.fa42_0, addr_add, pLoad_one (v := .int .i64 code) Tryz.agg3 (by rw [hcell_of b4]; rfl), reads_ne, boolV_bool]
    refine bcase_of (fun _ => ?_) (fun hc => by simp at hc; omega)
    rw [Tryz.fa42_0, addr_add, pLoad_one (v := .int .i64 code) Tryz.agg3 (by rw [hcell_of b4]; rfl), reads_eq, reads_blen hb4 Tryz.underlying29, reads_gt, reads_eqB, boolV_bool]
    refine bcase_of (fun _ => ?_) (fun hc => ?_)
    · exact fin f04
    · exfalso
      have hc := of_decide_eq_false hc
      apply hc
      apply decide_eq_decide.2
      omega
end Rt
end Go.Proofs
