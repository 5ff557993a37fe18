/- A part of the proofs over this seat: Prs4. -/
import Derived.Test.YthlncmkeccgfeaaGreatDoorTel
set_option linter.unusedVariables false
set_option linter.unusedSimpArgs false
set_option maxRecDepth 100000
namespace Go.Proofs
open Go.Vcg Go.Extern
namespace Rt
attribute [local congr] Reads.congr ReadsS.congr pLoad.congr pLoadS.congr pStore.congr Runs.congr CallsH.congr bcase.congr boolV.congr Stable.congr pAlloc.congr
variable {S : Glb} {n : Nat} {h : Heap} {r : Nat} {bv : Value} {l : List UInt8} {p : Nat} {ext : Bool} {op gr : Nat} {R : Value → Heap → Prop} {E : List PanicEntry → Heap → Prop}

def H29C : Hints := { r := fun _ => none, s := fun i => match i with | 6 => some [] | _ => none, l := fun _ => none, d := fun _ => none }
def S29C (P : Program) (E : List PanicEntry → Heap → Prop) (t0 t1 t2 : Value) (h : Heap) (k : List Value → Heap → Prop) : Prop :=
  Reads P (Instr.typeAssert t2 20 26 true) h fun t11 =>
  Reads P (Instr.extract t11 0) h fun t12 =>
  Reads P (Instr.extract t11 1) h fun t13 =>
  pAlloc P 62 h fun t5 h1 =>
  Join0 (fun J1 =>
    Reads P (Instr.makeInterface 64 t5) h1 fun t15 =>
    CallsH P 30 #[t12, t15] h1 (fun t16 h2 =>
    Reads P (Op.unary .not t16) h2 fun t17 =>
    boolV t17 fun b2 => bcase b2 (
      Runs P (vS (Instr.panic t2)) h2 (fun u3 h3 =>
      J1 h3) E) (
      J1 h2)) E)
  (fun h4 =>
  Reads P (Instr.fieldAt 62 t5 0) h4 fun t19 =>
  pLoad P 26 t19 h4 fun t20 =>
  pStore P 24 t0 (.pointer none) h4 fun h5 =>
  pStore P 26 t1 t20 h5 fun h6 =>
  k [t0, t1] h6)
theorem V29C {E : List PanicEntry → Heap → Prop} {t0 t1 t2 : Value} {h : Heap} {k k' : List Value → Heap → Prop} : S29C Tryz.prog E t0 t1 t2 h k = vc Tryz.prog H29C E c29C (zipF [0, 1, 2] [t0, t1, t2] []) h (looksK [0, 1] [] k k') := by kernel_rfl

theorem V29B2 {E : List PanicEntry → Heap → Prop} {t0 t1 t2 : Value} {h : Heap} {k k' : List Value → Heap → Prop} :
    (Reads Tryz.prog (binS .neq 20 true t2 .nilIface) h fun t8 => k [t0, t1, t2, t8] h) = vc Tryz.prog H29B E c29B (zipF [0, 1, 2] [t0, t1, t2] []) h (looksK [0, 1, 2, 8] [] k k') := by kernel_rfl
theorem catch_spec {x y : Nat} {e : Value} {kn : List Value → Heap → Prop} (gl : Gl S h) (hn : S.N ≤ h.size) (hx : h[x]? = some (.cells #[.pointer none] 24 (0, 0))) (hy : h[y]? = some (.cells #[.nilIface] 26 (0, 0))) (hxy : x ≠ y) (he : ∃ t u, e = .iface t u)
    (hk : ∀ h', h.size ≤ h'.size → (∀ k, k < h.size → k ≠ y → h'[k]? = h[k]?) → h'[y]? = some (.cells #[e] 26 (0, 0)) → kn [ptr x, ptr y] h') : S29C Tryz.prog E (ptr x) (ptr y) (.iface 62 (.agg #[e])) h kn := by
  obtain ⟨t, u, rfl⟩ := he
  unfold S29C
  have q : ∀ k : Value → Prop, Reads Tryz.prog (Instr.typeAssert (.iface 62 (.agg #[.iface t u])) 20 26 true) h k = k (.tuple [.iface 62 (.agg #[.iface t u]), .bool true].toArray) := fun k => reads_pure fun w => run_typeAssert_hasB Tryz.underlying26 (by kernel_rfl) _ 20 w
  rw [q, reads_ext0, reads_ext1]
  refine alloc_rule Tryz.zero62 fun h1 a1 => ?_
  have s1 := a1.size
  have lx := at_lt hx
  have ly := at_lt hy
  refine Join0.intro (fun h' => Fm h1.size h.size h1 h' ∧ h'[h.size]? = some (.cells #[.iface t u] 62 (0, 0))) ?_ ?_
  · rw [reads_mkiface Tryz.underlying64 (by simp)]
    refine as_front as62 a1.at_ (gl.fm (Fm.al a1 (Nat.le_refl _)) hn hn) (by omega) fun h2 a f2 ha ba => ?_
    have s2 := f2.size
    refine as_hit as62 (x := .iface t u) ((f2.same _ (by omega) (by omega)).trans a1.at_) ba (to62 _) (ve62 _) rfl fun h3 f3 b3 => ?_
    have s3 := f3.size
    rw [reads_not, boolV_bool]
    refine bcase_of (fun hc => by simp at hc) (fun _ => ?_)
    exact ⟨Fm.trans (h' := h2) ⟨f2.size, fun k hk _ => f2.same k hk (by omega)⟩ (f3.less (by omega)), b3⟩
  rintro h2 ⟨f2, b2⟩
  have s2 := f2.size
  rw [Tryz.fa62_0, addr_add, pLoad_one (v := .iface t u) Tryz.agg26 (by rw [hcell_of b2]; rfl)]
  refine store1 ((f2.same x (by omega) (by omega)).trans ((a1.old x lx).trans hx)) Tryz.size24 rfl (by simp) fun h3 u3 => ?_
  have s3 := u3.size
  refine store1 ((u3.other y (Ne.symm hxy)).trans ((f2.same y (by omega) (by omega)).trans ((a1.old y ly).trans hy))) Tryz.size26 rfl (by simp) fun h4 u4 => ?_
  have s4 := u4.size
  refine hk h4 (by omega) (fun k hk hky => ?_) (by rw [u4.same]; rfl)
  rw [u4.other k hky]
  by_cases hkx : k = x
  · subst hkx
    rw [u3.same, hx]
    rfl
  · rw [u3.other k hkx, f2.same k (by omega) (by omega), a1.old k hk]

/-- a barred one has panicked: it is caught, what it bears is the answer -/
theorem closure_catch {x y : Nat} {e : Value} {w : World} (gl : Gl S w.heap) (hn : S.N ≤ w.heap.size) (hx : w.heap[x]? = some (.cells #[.pointer none] 24 (0, 0))) (hy : w.heap[y]? = some (.cells #[.nilIface] 26 (0, 0))) (hxy : x ≠ y) (he : ∃ t u, e = .iface t u) :
    CallsD Tryz.prog 29 #[ptr x, ptr y] (.panicking [{ v := .iface 62 (.agg #[e]), recovered := false }]) w fun e' u' w' => e' = .returned (.tuple #[]) ∧ u' = .panicking [{ v := .iface 62 (.agg #[e]), recovered := true }] ∧ Same w w' ∧
      w.heap.size ≤ w'.heap.size ∧ (∀ k, k < w.heap.size → k ≠ y → w'.heap[k]? = w.heap[k]?) ∧ w'.heap[y]? = some (.cells #[e] 26 (0, 0)) := by
  refine callsD_of_wpS Tryz.func29 body29_eq fun c₀ cs hm => ?_
  refine wpS_seq (wpS_region ?_)
  have er : List.range ops29A.size = [0, 1] := rfl
  rw [er]
  have hr : recoverD (c₀ :: cs) = some (.iface 62 (.agg #[e]), { c₀ with mode := .panicking [{ v := .iface 62 (.agg #[e]), recovered := true }] } :: cs) := by simp [recoverD, hm]
  have en : Tryz.f29.ntmps = 21 := by kernel_rfl
  simp only [wpOpsS, ops29A]
  simp [Region.wanted, execOp, resolve, invoke, builtin, hr, Oper.upon, Act.eval, Act.put, en]
  refine wpS_seq (wpS_of_wp ?_)
  have ha : Agrees [] 21 { tmps := #[ptr x, ptr y] ++ ((Array.replicate 19 undef).setIfInBounds 4 (.iface 62 (.agg #[e]))).setIfInBounds 0 (.iface 62 (.agg #[e])), defers := [] } (zipF [0, 1, 2] [ptr x, ptr y, .iface 62 (.agg #[e])] []) := by
    exact agrees_of rfl (by simp) (by simp [zipF])
  have hv : vc Tryz.prog H29B (fun _ _ => False) c29B (zipF [0, 1, 2] [ptr x, ptr y, Value.iface 62 (.agg #[e])] []) w.heap (looksK [0, 1, 2, 8] [] (fun vs h' => vs = [ptr x, ptr y, .iface 62 (.agg #[e]), .bool true] ∧ h' = w.heap) fun _ _ => False) := by
    rw [← V29B2, Tryz.neq20_s]
    exact ⟨rfl, rfl⟩
  refine last_piece (H := H29B) (E := fun _ _ => False) (w₀ := w) Tryz.mixed (n := 21) (by kernel_rfl) ha (Same.refl w) hv (fun _ _ _ _ h _ => h.elim) (fun _ _ _ _ _ h => h.elim) ?_
  rintro vs a' w' ha' hw' ⟨rfl, hh⟩
  have h8 : a'.eval (.tmp 8) = .bool true := ha'.eval (x := .tmp 8) rfl
  refine wpS_of_wp (wp_cond_true h8 ?_)
  have ha3 : Agrees [] 21 a' (zipF [0, 1, 2] [ptr x, ptr y, .iface 62 (.agg #[e])] []) := ha'.forget fun t v hl => by
    simp only [zipF, Vcg.look] at hl ⊢
    split at hl
    · exact hl
    · split at hl
      · exact hl
      · split at hl
        · exact hl
        · cases hl
  have hv2 : vc Tryz.prog H29C (fun _ _ => False) c29C (zipF [0, 1, 2] [ptr x, ptr y, Value.iface 62 (.agg #[e])] []) w'.heap (looksK [0, 1] [] (fun vs h' => w.heap.size ≤ h'.size ∧ (∀ k, k < w.heap.size → k ≠ y → h'[k]? = w.heap[k]?) ∧ h'[y]? = some (.cells #[e] 26 (0, 0))) fun _ _ => False) := by
    rw [← V29C, hh]
    exact catch_spec gl hn hx hy hxy he fun h' s k b => ⟨s, k, b⟩
  refine last_piece (H := H29C) (E := fun _ _ => False) (w₀ := w) Tryz.mixed (n := 21) (by kernel_rfl) ha3 hw' hv2 (fun _ _ _ _ h _ => h.elim) (fun _ _ _ _ _ h => h.elim) ?_
  rintro vs a2 w2 ha2 hw2 ⟨k1, k2, k3⟩
  refine ⟨ha2.defers, _, rfl, .tuple #[], ?_, rfl, rfl, hw2, k1, k2, k3⟩
  have er : Tryz.f29.results = #[] := by kernel_rfl
  simp [results, er]

def ops11F : Array Oper := #[
  { dst := some 21, op := .move (.tmp 6), type := 55, pos := "retext.go:98", after := #[], guard := none },
  { dst := some 22, op := .call { callee := .value (.func 31), args := #[.tmp 21], argTypes := #[55] }, type := 36, pos := "retext.go:98", after := #[{ on := 0, ground := .data }], guard := none },
  { dst := some 7, op := .alloc 36, type := 0, pos := "retext.go:98", after := #[], guard := none },
  { dst := none, op := .store 36 (.tmp 7) (.tmp 22), type := 0, pos := "retext.go:98", after := #[{ on := 2, ground := .data }, { on := 1, ground := .data }, { on := 1, ground := .chain }, { on := 0, ground := .phase }, { on := 1, ground := .phase }, { on := 2, ground := .phase }], guard := none }]
noncomputable def c11G : Code := cTail c11E
theorem c11E_eq : c11E = .seq (.region 5 ops11F false) c11G := by kernel_rfl
theorem fails_wp {Q : Exit → Act → World → Prop} {a : Act} {w : World} {x : Value} (h6 : a.tmps[6]? = some x) (hs : 21 < a.tmps.size) {X : List PanicEntry → World → Prop}
    (hc : Calls Tryz.prog 31 #[x] w fun e w' => ∃ c, e = .panicked c ∧ X c w') (hq : ∀ c w', X c w' → Q (.panic c) { a with tmps := a.tmps.setIfInBounds 21 x } w') : c11E.wp Tryz.prog Q a w := by
  rw [c11E_eq]
  refine wp_seq (wp_region ?_)
  have e : List.range ops11F.size = [0, 1, 2, 3] := rfl
  rw [e]
  have h31 : Tryz.prog.funcs[31]? = some Tryz.f31 := Tryz.func31
  have hname : Tryz.f31.name ≠ "runtime.NumGoroutine" := by have : (Tryz.f31.name == "runtime.NumGoroutine") = false := by kernel_rfl
                                                            simpa using this
  have hbody : ∃ c, Tryz.f31.body = some c := by
    have : Tryz.f31.body.isSome = true := by kernel_rfl
    exact Option.isSome_iff_exists.1 this
  obtain ⟨cb, hbody⟩ := hbody
  simp only [wpOps, ops11F]
  simp [Region.wanted, Oper.wp, execOp, Oper.upon, resolve, Deferred.ofValue, invoke, callFunc, h31, hname, hbody, Act.eval, Act.put, h6, hs]
  have hc' : Calls Tryz.prog 31 #[x] w _ := hc.mono (R' := fun e w' => ∃ c, e = .panicked c ∧ Q (.panic c) { tmps := a.tmps.setIfInBounds 21 x, defers := a.defers } w') fun e w' ⟨c, h1, h2⟩ => ⟨c, h1, hq c w' h2⟩
  first
    | (refine .inl (.inl (hc'.mono ?_)); rintro e w' ⟨c, rfl, hx⟩; exact hx)
    | (refine .inl (hc'.mono ?_); rintro e w' ⟨c, rfl, hx⟩; exact hx)
end Rt
end Go.Proofs
