/- A part of the proofs over this seat: SkQ3. -/
import Derived.Test.YtlgflejdbgoinaaGreatDoorVcgP
import Derived.Recover
set_option linter.unusedVariables false
set_option linter.unusedSimpArgs false
set_option maxRecDepth 100000
namespace Go.Proofs
open Go.Vcg Go.Extern
namespace Rt
attribute [local congr] Reads.congr ReadsS.congr pLoad.congr pLoadS.congr pStore.congr Runs.congr CallsH.congr bcase.congr boolV.congr Stable.congr pAlloc.congr
variable {S : Glb} {n : Nat} {h : Heap} {r : Nat} {ov : Value} {l : List Op} {p op : Nat} {ac : Bool} {R : Value → Heap → Prop} {E : List PanicEntry → Heap → Prop}

def H21B : Hints := { r := fun _ => none, s := fun _ => none, l := fun _ => none, d := fun _ => none }
def S21B (P : Program) (E : List PanicEntry → Heap → Prop) (t2 : Value) (h : Heap) (k k' : List Value → Heap → Prop) : Prop :=
  Reads P (binS .neq 20 true t2 .nilIface) h fun t8 =>
  k [t8] h
def H21C : Hints := { r := fun _ => none, s := fun i => match i with | 6 => some [] | _ => none, l := fun _ => none, d := fun _ => none }
def S21C (P : Program) (E : List PanicEntry → Heap → Prop) (t0 t1 t2 : Value) (h : Heap) (k k' : List Value → Heap → Prop) : Prop :=
  Reads P (Instr.typeAssert t2 20 26 true) h fun t11 =>
  Reads P (Instr.extract t11 0) h fun t12 =>
  Reads P (Instr.extract t11 1) h fun t13 =>
  pAlloc P 58 h fun t5 h1 =>
  Join0 (fun J1 =>
    Reads P (Instr.makeInterface 60 t5) h1 fun t15 =>
    CallsH P 22 #[t12, t15] h1 (fun t16 h2 =>
    Reads P (Op.unary .not t16) h2 fun t17 =>
    boolV t17 fun b2 => bcase b2 (
      Runs P (vS (Instr.panic t2)) h2 (fun u3 h3 =>
      J1 h3) E) (
      J1 h2)) E)
  (fun h4 =>
  Reads P (Instr.fieldAt 58 t5 0) h4 fun t19 =>
  pLoad P 26 t19 h4 fun t20 =>
  pStore P 24 t0 (.pointer none) h4 fun h5 =>
  pStore P 26 t1 t20 h5 fun h6 =>
  k [t0, t1] h6)

noncomputable def body21 : Code := Tryz.f21.body.getD .skip
noncomputable def c21B : Code := cHead (cTail body21)
noncomputable def c21C : Code := match cTail (cTail body21) with | .cond _ x _ => x | c => c
def ops21A : Array Oper := #[
  { dst := some 6, op := .call { callee := .builtin .recover, args := #[], argTypes := #[] }, type := 20, pos := "seek.go:76", after := #[], guard := none },
  { dst := some 2, op := .assign (.tmp 6), type := 20, pos := "seek.go:76", after := #[{ on := 0, ground := .data }, { on := 0, ground := .chain }, { on := 0, ground := .phase }], guard := none }]
theorem body21_eq : Tryz.f21.body = some (.seq (.region 0 ops21A false) (.seq c21B (.cond (.tmp 8) c21C .skip))) := by kernel_rfl
theorem V21B {E : List PanicEntry → Heap → Prop} {t2 : Value} {h : Heap} {k k' : List Value → Heap → Prop} :
    (Reads Tryz.prog (binS .neq 20 true t2 .nilIface) h fun t8 => k [t8] h) = vc Tryz.prog H21B E c21B (zipF [2] [t2] []) h (looksK [8] [] k k') := by kernel_rfl
theorem V21C {E : List PanicEntry → Heap → Prop} {t0 t1 t2 : Value} {h : Heap} {k k' : List Value → Heap → Prop} : S21C Tryz.prog E t0 t1 t2 h k k' = vc Tryz.prog H21C E c21C (zipF [0, 1, 2] [t0, t1, t2] []) h (looksK [0, 1] [] k k') := by kernel_rfl
theorem V21B2 {E : List PanicEntry → Heap → Prop} {t0 t1 t2 : Value} {h : Heap} {k k' : List Value → Heap → Prop} :
    (Reads Tryz.prog (binS .neq 20 true t2 .nilIface) h fun t8 => k [t0, t1, t2, t8] h) = vc Tryz.prog H21B E c21B (zipF [0, 1, 2] [t0, t1, t2] []) h (looksK [0, 1, 2, 8] [] k k') := by kernel_rfl
theorem en21 : Tryz.f21.ntmps = 21 := by kernel_rfl
/-- nothing has panicked: the closure does nothing -/
theorem closure_quiet {x y : Value} {w : World} : CallsD Tryz.prog 21 #[x, y] .returning w fun e u' w' => e = .returned (.tuple #[]) ∧ u' = .returning ∧ Same w w' ∧ w'.heap = w.heap := by
  refine callsD_of_wpS Tryz.func21 body21_eq fun c₀ cs hm => ?_
  refine wpS_seq (wpS_region ?_)
  have e : List.range ops21A.size = [0, 1] := rfl
  rw [e]
  have hr : recoverD (c₀ :: cs) = none := by simp [recoverD, hm]
  have en : Tryz.f21.ntmps = 21 := by kernel_rfl
  simp only [wpOpsS, ops21A]
  simp [Region.wanted, execOp, resolve, invoke, builtin, hr, Oper.upon, Act.eval, Act.put, en]
  refine wpS_seq (wpS_of_wp ?_)
  have ha : Agrees [] 21 { tmps := #[x, y] ++ ((Array.replicate 19 undef).setIfInBounds 4 .nilIface).setIfInBounds 0 .nilIface, defers := [] } (zipF [2] [.nilIface] []) := by
    exact agrees_of rfl (by simp) (by simp [zipF])
  have hv : vc Tryz.prog H21B (fun _ _ => False) c21B (zipF [2] [Value.nilIface] []) w.heap (looksK [8] [] (fun vs h' => vs = [Value.bool false] ∧ h' = w.heap) fun _ _ => False) := by
    rw [← V21B, Tryz.neq20_n]
    exact ⟨rfl, rfl⟩
  refine last_piece (H := H21B) (E := fun _ _ => False) (w₀ := w) Tryz.mixed (n := 21) (by kernel_rfl) ha (Same.refl w) hv (fun _ _ _ _ h _ _ _ => h.elim) (fun _ _ _ _ _ h => h.elim) ?_
  rintro vs a' w' ha' hw' ⟨rfl, hh⟩
  have h8 : a'.eval (.tmp 8) = .bool false := ha'.eval (x := .tmp 8) rfl
  refine wpS_of_wp (wp_cond_false h8 (wp_skip ?_))
  refine ⟨ha'.defers, .returning, by rw [← hm], ?_⟩
  refine ⟨.tuple #[], ?_, rfl, rfl, hw', hh⟩
  have er : Tryz.f21.results = #[] := by kernel_rfl
  simp [results, er]
theorem catch_spec {x y : Nat} {e : Value} {kn kr : List Value → Heap → Prop} (gl : Gl S h) (hn : S.N ≤ h.size) (hx : h[x]? = some (.cells #[.pointer none] 24 (0, 0))) (hy : h[y]? = some (.cells #[.nilIface] 26 (0, 0))) (hxy : x ≠ y) (he : ∃ t u, e = .iface t u)
    (hk : ∀ h', h.size ≤ h'.size → (∀ k, k < h.size → k ≠ y → h'[k]? = h[k]?) → h'[y]? = some (.cells #[e] 26 (0, 0)) → kn [ptr x, ptr y] h') : S21C Tryz.prog E (ptr x) (ptr y) (.iface 58 (.agg #[e])) h kn kr := by
  obtain ⟨t, u, rfl⟩ := he
  unfold S21C
  have q : ∀ k : Value → Prop, Reads Tryz.prog (Instr.typeAssert (.iface 58 (.agg #[.iface t u])) 20 26 true) h k = k (.tuple [.iface 58 (.agg #[.iface t u]), .bool true].toArray) := fun k => reads_pure fun w => run_typeAssert_hasB Tryz.underlying26 (by kernel_rfl) _ 20 w
  rw [q, reads_ext0, reads_ext1]
  refine alloc_rule Tryz.zero58 fun h1 a1 => ?_
  have s1 := a1.size
  have lx := at_lt hx
  have ly := at_lt hy
  refine Join0.intro (fun h' => Fm h1.size h.size h1 h' ∧ h'[h.size]? = some (.cells #[.iface t u] 58 (0, 0))) ?_ ?_
  · rw [reads_mkiface Tryz.underlying60 (by simp)]
    refine as_front as62 a1.at_ (gl.fm (Fm.al a1 (Nat.le_refl _)) hn hn) (by omega) fun h2 a f2 ha ba => ?_
    have s2 := f2.size
    refine as_hit as62 (x := .iface t u) ((f2.same _ (by omega) (by omega)).trans a1.at_) ba (to62 _) (ve62 _) rfl fun h3 f3 b3 => ?_
    have s3 := f3.size
    rw [reads_not, boolV_bool]
    refine bcase_of (fun hc => by simp at hc) (fun _ => ?_)
    exact ⟨Fm.trans (h' := h2) ⟨f2.size, fun k hk _ => f2.same k hk (by omega)⟩ (f3.less (by omega)), b3⟩
  rintro h2 ⟨f2, b2⟩
  have s2 := f2.size
  rw [Tryz.fa58_0, addr_add, pLoad_one (v := .iface t u) Tryz.agg26 (by rw [hcell_of b2]; rfl)]
  refine store1 ((f2.same x (by omega) (by omega)).trans ((a1.old x lx).trans hx)) Tryz.size24 rfl (by simp) fun h3 u3 => ?_
  have s3 := u3.size
  refine store1 ((u3.other y (Ne.symm hxy)).trans ((f2.same y (by omega) (by omega)).trans ((a1.old y ly).trans hy))) Tryz.size26 rfl (by simp) fun h4 u4 => ?_
  have s4 := u4.size
  refine hk h4 (by omega) (fun k hk hky => ?_) (by rw [u4.same]; rfl)
  rw [u4.other k hky]
  by_cases hkx : k = x
  · subst hkx
    rw [u3.same, hx]
    rfl
  · rw [u3.other k hkx, f2.same k (by omega) (by omega), a1.old k hk]

/-- a barred one has panicked: it is caught, what it bears is the answer -/
theorem closure_catch {x y : Nat} {e : Value} {w : World} (gl : Gl S w.heap) (hn : S.N ≤ w.heap.size) (hx : w.heap[x]? = some (.cells #[.pointer none] 24 (0, 0))) (hy : w.heap[y]? = some (.cells #[.nilIface] 26 (0, 0))) (hxy : x ≠ y) (he : ∃ t u, e = .iface t u) :
    CallsD Tryz.prog 21 #[ptr x, ptr y] (.panicking [{ v := .iface 58 (.agg #[e]), recovered := false }]) w fun e' u' w' => e' = .returned (.tuple #[]) ∧ u' = .panicking [{ v := .iface 58 (.agg #[e]), recovered := true }] ∧ Same w w' ∧
      w.heap.size ≤ w'.heap.size ∧ (∀ k, k < w.heap.size → k ≠ y → w'.heap[k]? = w.heap[k]?) ∧ w'.heap[y]? = some (.cells #[e] 26 (0, 0)) := by
  refine callsD_of_wpS Tryz.func21 body21_eq fun c₀ cs hm => ?_
  refine wpS_seq (wpS_region ?_)
  have er : List.range ops21A.size = [0, 1] := rfl
  rw [er]
  have hr : recoverD (c₀ :: cs) = some (.iface 58 (.agg #[e]), { c₀ with mode := .panicking [{ v := .iface 58 (.agg #[e]), recovered := true }] } :: cs) := by simp [recoverD, hm]
  have en : Tryz.f21.ntmps = 21 := by kernel_rfl
  simp only [wpOpsS, ops21A]
  simp [Region.wanted, execOp, resolve, invoke, builtin, hr, Oper.upon, Act.eval, Act.put, en]
  refine wpS_seq (wpS_of_wp ?_)
  have ha : Agrees [] 21 { tmps := #[ptr x, ptr y] ++ ((Array.replicate 19 undef).setIfInBounds 4 (.iface 58 (.agg #[e]))).setIfInBounds 0 (.iface 58 (.agg #[e])), defers := [] } (zipF [0, 1, 2] [ptr x, ptr y, .iface 58 (.agg #[e])] []) := by
    exact agrees_of rfl (by simp) (by simp [zipF])
  have hv : vc Tryz.prog H21B (fun _ _ => False) c21B (zipF [0, 1, 2] [ptr x, ptr y, Value.iface 58 (.agg #[e])] []) w.heap (looksK [0, 1, 2, 8] [] (fun vs h' => vs = [ptr x, ptr y, .iface 58 (.agg #[e]), .bool true] ∧ h' = w.heap) fun _ _ => False) := by
    rw [← V21B2, Tryz.neq20_s]
    exact ⟨rfl, rfl⟩
  refine last_piece (H := H21B) (E := fun _ _ => False) (w₀ := w) Tryz.mixed (n := 21) (by kernel_rfl) ha (Same.refl w) hv (fun _ _ _ _ h _ _ _ => h.elim) (fun _ _ _ _ _ h => h.elim) ?_
  rintro vs a' w' ha' hw' ⟨rfl, hh⟩
  have h8 : a'.eval (.tmp 8) = .bool true := ha'.eval (x := .tmp 8) rfl
  refine wpS_of_wp (wp_cond_true h8 ?_)
  have ha3 : Agrees [] 21 a' (zipF [0, 1, 2] [ptr x, ptr y, .iface 58 (.agg #[e])] []) := ha'.forget fun t v hl => by
    simp only [zipF, Vcg.look] at hl ⊢
    split at hl
    · exact hl
    · split at hl
      · exact hl
      · split at hl
        · exact hl
        · cases hl
  have hv2 : vc Tryz.prog H21C (fun _ _ => False) c21C (zipF [0, 1, 2] [ptr x, ptr y, Value.iface 58 (.agg #[e])] []) w'.heap (looksK [0, 1] [] (fun vs h' => w.heap.size ≤ h'.size ∧ (∀ k, k < w.heap.size → k ≠ y → h'[k]? = w.heap[k]?) ∧ h'[y]? = some (.cells #[e] 26 (0, 0))) fun _ _ => False) := by
    rw [← V21C, hh]
    exact catch_spec gl hn hx hy hxy he fun h' s k b => ⟨s, k, b⟩
  refine last_piece (H := H21C) (E := fun _ _ => False) (w₀ := w) Tryz.mixed (n := 21) (by kernel_rfl) ha3 hw' hv2 (fun _ _ _ _ h _ _ _ => h.elim) (fun _ _ _ _ _ h => h.elim) ?_
  rintro vs a2 w2 ha2 hw2 ⟨k1, k2, k3⟩
  refine ⟨ha2.defers, _, rfl, .tuple #[], ?_, rfl, rfl, hw2, k1, k2, k3⟩
  have er : Tryz.f21.results = #[] := by kernel_rfl
  simp [results, er]

end Rt
end Go.Proofs

set_option maxRecDepth 100000
namespace Go.Proofs
open Go.Vcg Go.Extern
namespace Rt
attribute [local congr] Reads.congr ReadsS.congr pLoad.congr pLoadS.congr pStore.congr Runs.congr CallsH.congr bcase.congr boolV.congr Stable.congr pAlloc.congr
variable {S : Glb} {n : Nat} {h : Heap} {r : Nat} {ov : Value} {l : List Op} {p op : Nat} {ac : Bool} {R : Value → Heap → Prop} {E : List PanicEntry → Heap → Prop}

def H10A : Hints := { r := fun _ => none, s := fun _ => none, l := fun _ => none, d := fun _ => none }
def S10A (P : Program) (E : List PanicEntry → Heap → Prop) (t0 : Value) (h : Heap) (k k' : List Value → Heap → Prop) : Prop :=
  pAlloc P 24 h fun t2 h1 =>
  pAlloc P 26 h1 fun t3 h2 =>
  k [t0, t2, t3] h2
def H10B : Hints := { r := fun _ => none, s := fun _ => none, l := fun _ => none, d := fun _ => none }
def S10B (P : Program) (E : List PanicEntry → Heap → Prop) (t0 t2 t3 : Value) (h : Heap) (k k' : List Value → Heap → Prop) : Prop :=
  Reads P (builtinS .len #[22] 3 #[t0]) h fun t9 =>
  Reads P (binS .gtr 3 true t9 (.int .i64 64)) h fun t10 =>
  boolV t10 fun b1 => bcase b1 (
    CallsH P 20 #[(.int .i64 5), (.int .i64 0)] h (fun t11 h1 =>
    pStore P 24 t2 (.pointer none) h1 fun h2 =>
    pStore P 26 t3 t11 h2 fun h3 =>
    k' [t2, t3] h3) E) (
    k [t0, t2, t3] h)
def H10C : Hints := { r := fun _ => none, s := fun _ => none, l := fun i => match i with | 4 => some [14] | _ => none, d := fun _ => none }
def S10C (P : Program) (E : List PanicEntry → Heap → Prop) (t0 t2 t3 : Value) (h : Heap) (k k' : List Value → Heap → Prop) : Prop :=
  Reads P (builtinS .len #[22] 3 #[t0]) h fun t13 =>
  Loop1 (.int .i64 0) h (fun C1 t14 h1 =>
    Reads P (binS .lss 3 false t14 t13) h1 fun t15 =>
    boolV t15 fun b2 => bcase b2 (
      Reads P (Instr.indexAt 22 t0 t14) h1 fun t17 =>
    pLoad P 9 t17 h1 fun t18 =>
    Reads P (builtinS .len #[9] 3 #[t18]) h1 fun t20 =>
    Reads P (binS .gtr 3 true t20 (.int .i64 1024)) h1 fun t21 =>
    boolV t21 fun b3 => bcase b3 (
      CallsH P 20 #[(.int .i64 2), t14] h1 (fun t23 h2 =>
      pStore P 24 t2 (.pointer none) h2 fun h3 =>
      pStore P 26 t3 t23 h3 fun h4 =>
      k' [t2, t3] h4) E) (
      Reads P (binS .add 3 true t14 (.int .i64 1)) h1 fun t24 =>
    C1 t24 h1)) (
      k [t0, t2, t3] h1))
def H10D : Hints := { r := fun _ => none, s := fun _ => none, l := fun _ => none, d := fun _ => none }
def S10D (P : Program) (E : List PanicEntry → Heap → Prop) (t0 t2 t3 : Value) (h : Heap) (k k' : List Value → Heap → Prop) : Prop :=
  Reads P (builtinS .len #[22] 3 #[t0]) h fun t26 =>
  Reads P (binS .eql 3 true t26 (.int .i64 0)) h fun t27 =>
  boolV t27 fun b1 => bcase b1 (
    Reads P (Instr.build 40 #[(0, (.int .i64 10))]) h fun t28 =>
    Reads P (Instr.build 55 #[(0, t28)]) h fun t29 =>
    pNew 55 t29 h fun t30 h1 =>
    pStore P 24 t2 t30 h1 fun h2 =>
    pStore P 26 t3 .nilIface h2 fun h3 =>
    k' [t2, t3] h3) (
    k [t0, t2, t3] h)
def H10E : Hints := { r := fun _ => none, s := fun i => match i with | 16 => some [] | 18 => some [] | _ => none, l := fun _ => none, d := fun _ => none }
def S10E (P : Program) (E : List PanicEntry → Heap → Prop) (t0 t2 t3 : Value) (h : Heap) (k k' : List Value → Heap → Prop) : Prop :=
  Reads P (Instr.build 63 #[(0, t0)]) h fun t33 =>
  pNew 63 t33 h fun t34 h1 =>
  CallsH P 23 #[t34] h1 (fun t36 h2 =>
  pAlloc P 40 h2 fun t7 h3 =>
  pStore P 40 t7 t36 h3 fun h4 =>
  Join0 (fun J1 =>
    Reads P (nilS t34) h4 fun t38 =>
    Reads P (Instr.fieldAt 63 t38 1) h4 fun t39 =>
    pLoad P 3 t39 h4 fun t40 =>
    Reads P (builtinS .len #[22] 3 #[t0]) h4 fun t42 =>
    Reads P (binS .lss 3 false t40 t42) h4 fun t43 =>
    boolV t43 fun b2 => bcase b2 (
      Reads P (nilS t34) h4 fun t46 =>
      Reads P (Instr.fieldAt 63 t46 1) h4 fun t47 =>
      pLoad P 3 t47 h4 fun t48 =>
      CallsH P 24 #[t34, (.int .i64 9), t48] h4 (fun t49 h5 =>
      J1 h5) E) (
      J1 h4))
  (fun h6 =>
  Join0 (fun J3 =>
    Reads P (nilS t34) h6 fun t51 =>
    Reads P (Instr.fieldAt 63 t51 3) h6 fun t52 =>
    pLoad P 4 t52 h6 fun t53 =>
    Reads P (Op.unary .not t53) h6 fun t54 =>
    boolV t54 fun b4 => bcase b4 (
      pLoad P 40 t7 h6 fun t55 =>
      Reads P (Instr.build 40 #[(0, (.int .i64 10))]) h6 fun t56 =>
      CallsH P 25 #[(.int .i64 1), t55, t56] h6 (fun t57 h7 =>
      pStore P 40 t7 t57 h7 fun h8 =>
      J3 h8) E) (
      J3 h6))
  (fun h9 =>
  pLoad P 40 t7 h9 fun t58 =>
  Reads P (Instr.build 55 #[(0, t58)]) h9 fun t59 =>
  pNew 55 t59 h9 fun t60 h10 =>
  pStore P 24 t2 t60 h10 fun h11 =>
  pStore P 26 t3 .nilIface h11 fun h12 =>
  k' [t2, t3] h12))) E

noncomputable def body10 : Code := Tryz.f10.body.getD .skip
noncomputable def c10A : Code := cHead body10
noncomputable def c10B : Code := cHead (cTail body10)
noncomputable def c10C : Code := cHead (cTail (cTail body10))
noncomputable def c10D : Code := cHead (cTail (cTail (cTail body10)))
noncomputable def c10F : Code := cHead (cTail (cTail (cTail (cTail body10))))
noncomputable def c10E : Code := cTail (cTail (cTail (cTail (cTail body10))))
theorem body10_eq : Tryz.f10.body = some (.seq c10A (.seq c10B (.seq c10C (.seq c10D (.seq c10F c10E))))) := by kernel_rfl
theorem V10A {E : List PanicEntry → Heap → Prop} {t0 : Value} {h : Heap} {k k' : List Value → Heap → Prop} : S10A Tryz.prog E t0 h k k' = vc Tryz.prog H10A E c10A (enumF 0 [t0]) h (looksK [0, 2, 3] [2, 3] k k') := by kernel_rfl
theorem V10B {E : List PanicEntry → Heap → Prop} {t0 t2 t3 : Value} {h : Heap} {k k' : List Value → Heap → Prop} : S10B Tryz.prog E t0 t2 t3 h k k' = vc Tryz.prog H10B E c10B (zipF [0, 2, 3] [t0, t2, t3] []) h (looksK [0, 2, 3] [2, 3] k k') := by kernel_rfl
theorem V10C {E : List PanicEntry → Heap → Prop} {t0 t2 t3 : Value} {h : Heap} {k k' : List Value → Heap → Prop} : S10C Tryz.prog E t0 t2 t3 h k k' = vc Tryz.prog H10C E c10C (zipF [0, 2, 3] [t0, t2, t3] []) h (looksK [0, 2, 3] [2, 3] k k') := by kernel_rfl
theorem V10D {E : List PanicEntry → Heap → Prop} {t0 t2 t3 : Value} {h : Heap} {k k' : List Value → Heap → Prop} : S10D Tryz.prog E t0 t2 t3 h k k' = vc Tryz.prog H10D E c10D (zipF [0, 2, 3] [t0, t2, t3] []) h (looksK [0, 2, 3] [2, 3] k k') := by kernel_rfl
theorem V10E {E : List PanicEntry → Heap → Prop} {t0 t2 t3 : Value} {h : Heap} {k k' : List Value → Heap → Prop} : S10E Tryz.prog E t0 t2 t3 h k k' = vc Tryz.prog H10E E c10E (zipF [0, 2, 3] [t0, t2, t3] []) h (looksK [] [2, 3] k k') := by kernel_rfl
def ops10F : Array Oper := #[
  { dst := some 31, op := .makeFunc (.func 21) #[] #[.tmp 2, .tmp 3], type := 1, pos := "seek.go:75", after := #[], guard := none },
  { dst := none, op := .defer { callee := .value (.tmp 31), args := #[], argTypes := #[] }, type := 0, pos := "seek.go:75", after := #[{ on := 0, ground := .data }], guard := none }]
theorem c10F_eq : c10F = .region 11 ops10F false := by kernel_rfl
theorem defer_wp {Q : Exit → Act → World → Prop} {a : Act} {w : World} {x y : Value} (h4 : a.tmps[2]? = some x) (h5 : a.tmps[3]? = some y) (hs : 31 < a.tmps.size)
    (hq : Q .normal { tmps := a.tmps.setIfInBounds 31 (.func (.func 21) #[] #[x, y]), defers := { target := .fn (.func 21) #[x, y], args := #[] } :: a.defers } w) : c10F.wp Tryz.prog Q a w := by
  rw [c10F_eq]
  refine wp_region ?_
  have e : List.range ops10F.size = [0, 1] := rfl
  rw [e]
  simp only [wpOps, ops10F]
  simp [Region.wanted, Oper.wp, execOp, Instr.makeFunc, Oper.upon, resolve, Deferred.ofValue, Act.eval, Act.put, h4, h5, hs]
  exact .inl (.inl hq)
theorem en10 : Tryz.f10.ntmps = 61 := by kernel_rfl
theorem keep2 : 2 ∉ dsts c10E := memN_mem (by kernel_rfl)
theorem keep3 : 3 ∉ dsts c10E := memN_mem (by kernel_rfl)

theorem pLoad_mono {P : Program} {T : TypeId} {a : Value} {k k' : Value → Prop} (hk : ∀ v, k v → k' v) (H : pLoad P T a h k) : pLoad P T a h k' := by
  unfold pLoad at *
  split at H
  · split at H
    · obtain ⟨v, h1, h2⟩ := H; exact ⟨v, h1, hk _ h2⟩
    · obtain ⟨v, h1, h2⟩ := H; exact ⟨v, h1, hk _ h2⟩
    · exact H.elim
  · exact H.elim
theorem load_one {P : Program} {T t : TypeId} {b : Nat} {v : Value} (hT : aggN P T = some none) (hb : h[b]? = some (.cells #[v] t (0, 0))) : pLoad P T (ptr b) h fun z => z = v := by
  unfold ptr
  rw [pLoad_one (v := v) hT (by rw [hcell_of hb]; rfl)]
theorem results10 {D : List Deferred} {a : Act} {w : World} {x y u v : Value} {fr : Fr} (ha : Agrees D 61 a fr) (h4 : Vcg.look fr 2 = some x) (h5 : Vcg.look fr 3 = some y)
    (hx : pLoad Tryz.prog 24 x w.heap fun z => z = u) (hy : pLoad Tryz.prog 26 y w.heap fun z => z = v) : (results Tryz.f10 a.tmps).run Tryz.prog w = .ok (.tuple #[u, v]) w := by
  have er : Tryz.f10.results = #[.cell 2 24, .cell 3 26] := by kernel_rfl
  have hr : retAll Tryz.prog [.cell 2 24, .cell 3 26] fr w.heap (fun vs => vs = [u, v]) := by
    simp only [retAll, h4, h5, need]
    refine pLoad_mono ?_ hx
    rintro z rfl
    refine pLoad_mono ?_ hy
    rintro z rfl
    rfl
  obtain ⟨vs, k1, rfl⟩ := retAll_sound ha _ _ hr
  rw [results_eq, er, Array.mapM_eq_mapM_toList (m := Sem), Sem.run_bind, Sem.run_map]
  simp only [k1]
  simp

/-- what stands in the two results -/
def Fin (x y : Nat) (R : Value → Heap → Prop) (vs : List Value) (h' : Heap) : Prop := vs = [ptr x, ptr y] ∧ ∃ v e, h'[x]? = some (.cells #[v] 24 (0, 0)) ∧ h'[y]? = some (.cells #[e] 26 (0, 0)) ∧ R (.tuple #[v, e]) h'
theorem ret_plain {w w' : World} {a : Act} {x y : Nat} {vs : List Value} (ha : Agrees [] 61 a (zipF [2, 3] vs [])) (hw : Same w w') (hf : Fin x y R vs w'.heap) : bodyPostD Tryz.prog Tryz.f10 (Post w R E) .ret a w' := by
  obtain ⟨rfl, v, e, h4, h5, hk⟩ := hf
  simp only [bodyPostD]
  rw [ha.defers]
  have hr := results10 (w := w') (u := v) (v := e) (x := ptr x) (y := ptr y) ha rfl rfl (load_one Tryz.agg24 h4) (load_one Tryz.agg26 h5)
  simp only [Leaves]
  exact ⟨_, hr, hw, hk⟩
theorem inv21 {x y : Value} {w : World} : (invoke (.fn (.func 21) #[x, y]) #[]).run Tryz.prog w = .ok (.enter 21 #[x, y]) w := by
  have h29 : Tryz.prog.funcs[21]? = some Tryz.f21 := Tryz.func21
  have hname : Tryz.f21.name ≠ "runtime.NumGoroutine" := by have : (Tryz.f21.name == "runtime.NumGoroutine") = false := by kernel_rfl
                                                            simpa using this
  simp [invoke, callFunc, h29, hname, body21_eq]
theorem ret_defer {w w' : World} {a : Act} {x y : Nat} {vs : List Value} (ha : Agrees [{ target := .fn (.func 21) #[ptr x, ptr y], args := #[] }] 61 a (zipF [2, 3] vs [])) (hw : Same w w') (hf : Fin x y R vs w'.heap) :
    bodyPostD Tryz.prog Tryz.f10 (Post w R E) .ret a w' := by
  obtain ⟨rfl, v, e, h4, h5, hk⟩ := hf
  simp only [bodyPostD]
  rw [ha.defers]
  refine leaves_cons (f := 21) (args := #[ptr x, ptr y]) (by simp) inv21 ?_
  refine CallsD.mono closure_quiet ?_
  rintro e' u' w7 ⟨rfl, rfl, hs7, hh7⟩
  simp only [settle, Leaves]
  refine ⟨_, results10 ha rfl rfl (u := v) (v := e) ?_ ?_, ⟨hw.trans hs7, ?_⟩⟩
  · rw [hh7]; exact load_one Tryz.agg24 h4
  · rw [hh7]; exact load_one Tryz.agg26 h5
  · rw [hh7]; exact hk
theorem panic_defer {w w' : World} {a : Act} {x y code pos m : Nat} {c : List PanicEntry} (hd : a.defers = [{ target := .fn (.func 21) #[ptr x, ptr y], args := #[] }]) (hs : a.tmps.size = 61) (h2 : a.tmps[2]? = some (ptr x)) (h3 : a.tmps[3]? = some (ptr y))
    (hw : Same w w') (gl : Gl S w'.heap) (hn : S.N ≤ w'.heap.size) (hx : w'.heap[x]? = some (.cells #[.pointer none] 24 (0, 0))) (hy : w'.heap[y]? = some (.cells #[.nilIface] 26 (0, 0))) (hxy : x ≠ y) (hf : Fails S w'.heap m code pos c) (hym : y < m)
    (hk : ∀ h' e, w'.heap.size ≤ h'.size → (∀ k, k < w'.heap.size → k ≠ y → h'[k]? = w'.heap[k]?) → IsErr S h' m 9 code pos e → R (.tuple #[.pointer none, e]) h') :
    bodyPostD Tryz.prog Tryz.f10 (Post w R E) (.panic c) a w' := by
  obtain ⟨e, hie, rfl⟩ := hf
  simp only [bodyPostD]
  rw [hd]
  have hit : ∃ t u, e = .iface t u := by obtain ⟨a, b, _, _, rfl, _⟩ := hie; exact ⟨_, _, rfl⟩
  refine leaves_cons (f := 21) (args := #[ptr x, ptr y]) (by simp) inv21 ?_
  refine CallsD.mono (closure_catch (S := S) gl hn hx hy hxy hit) ?_
  rintro e' u' w7 ⟨rfl, rfl, hs7, k1, k2, k3⟩
  have ha6 : Agrees [{ target := .fn (.func 21) #[ptr x, ptr y], args := #[] }] 61 a (zipF [2, 3] [ptr x, ptr y] []) := by
    refine agrees_of hd hs ?_
    intro q hq
    simp only [zipF, List.mem_cons, List.not_mem_nil, or_false] at hq
    rcases hq with rfl | rfl
    · exact h2
    · exact h3
  have hst : settle (.panicking [{ v := Value.iface 58 (.agg #[e]), recovered := true }]) = .returning := by simp [settle]
  have lx := at_lt hx
  have hr := results10 (w := w7) (u := .pointer none) (v := e) (x := ptr x) (y := ptr y) ha6 rfl rfl (load_one Tryz.agg24 ((k2 _ lx hxy).trans hx)) (load_one Tryz.agg26 k3)
  simp only [hst, Leaves]
  refine ⟨.tuple #[.pointer none, e], hr, ⟨hw.trans hs7, hk _ e k1 k2 (hie.fm fun k hk1 hk2 => k2 k hk1 (by omega))⟩⟩

/-! ### What Parse tells -/
def longAt (l : List Op) : Option Nat := l.findIdx? fun s => decide (1024 < s.length)
def printU : U := leafU 10 [] 0 0 false
def endM (l : List Op) : Res (U × Nat × Bool) → Res U
  | .ok (t, p, ac) => if p < l.length then .bad 9 p else .ok (if ac then t else twoU 1 t printU)
  | .bad a b => .bad a b
  | .out => .out
def parseM (k : Nat) (l : List Op) : Res U :=
  if 64 < l.length then .bad 5 0 else match longAt l with
    | some i => .bad 2 i
    | none => if l = [] then .ok printU else endM l (exprM k l 0 0 false)
def OwesP (S : Glb) (h : Heap) (m : Res U) (R : Value → Heap → Prop) : Prop :=
  match m with
  | .out => False
  | .bad code pos => ∀ h' e, Fm h.size h.size h h' → IsErr S h' h.size 9 code pos e → R (.tuple #[.pointer none, e]) h'
  | .ok t => ∀ h' b vs, Fm h.size h.size h h' → h.size ≤ b → h'[b]? = some (.cells vs.toArray 55 (0, 0)) → IsSk h' (fun x => h.size ≤ x ∧ x ≠ b) t vs → R (.tuple #[ptr b, .nilIface]) h'
end Rt
end Go.Proofs

set_option maxRecDepth 100000
namespace Go.Proofs
open Go.Vcg Go.Extern
namespace Rt
attribute [local congr] Reads.congr ReadsS.congr pLoad.congr pLoadS.congr pStore.congr Runs.congr CallsH.congr bcase.congr boolV.congr Stable.congr pAlloc.congr
variable {S : Glb} {n : Nat} {h : Heap} {r : Nat} {ov : Value} {l : List Op} {p op : Nat} {ac : Bool} {R : Value → Heap → Prop} {E : List PanicEntry → Heap → Prop}

theorem two_stores {x y : Nat} {u u' v e : Value} {K : Heap → Prop} (hx : h[x]? = some (.cells #[u] 24 (0, 0))) (hy : h[y]? = some (.cells #[u'] 26 (0, 0))) (hxy : x ≠ y) (hv : flat v = true) (he : flat e = true)
    (hK : ∀ h', h'.size = h.size → h'[x]? = some (.cells #[v] 24 (0, 0)) → h'[y]? = some (.cells #[e] 26 (0, 0)) → (∀ k, k ≠ x → k ≠ y → h'[k]? = h[k]?) → K h') :
    pStore Tryz.prog 24 (ptr x) v h fun h2 => pStore Tryz.prog 26 (ptr y) e h2 K := by
  refine store1 hx Tryz.size24 hv (by simp) fun h2 u2 => ?_
  refine store1 ((u2.other y (Ne.symm hxy)).trans hy) Tryz.size26 he (by simp) fun h3 u3 => ?_
  refine hK h3 (by rw [u3.size, u2.size]) ?_ (by rw [u3.same]; rfl) (fun k h1 h2 => (u3.other k h2).trans (u2.other k h1))
  rw [u3.other x hxy, u2.same]
  rfl
theorem bd55s {vs : List Value} {k : Value → Prop} (hl : vs.length = 7) : Reads Tryz.prog (Instr.build 55 #[(0, .agg vs.toArray)]) h k = k (.agg vs.toArray) := by
  match vs, hl with
  | [x0, x1, x2, x3, x4, x5, x6], _ => exact Tryz.bd55_0
theorem IsErr.iface {m lang code pos : Nat} {e : Value} (he : IsErr S h m lang code pos e) : flat e = true := by
  obtain ⟨a, b, _, _, rfl, _⟩ := he
  rfl
theorem error_fin {h0 : Heap} {x y code pos m : Nat} {e : Value} (f : Fm h0.size h0.size h0 h) (hie : IsErr S h m 9 code pos e) (hx : h[x]? = some (.cells #[.pointer none] 24 (0, 0))) (hy : h[y]? = some (.cells #[.nilIface] 26 (0, 0))) (hxy : x ≠ y) (hx0 : h0.size ≤ x) (hy0 : h0.size ≤ y) (hm : x < m ∧ y < m)
    (hk : ∀ h' e, Fm h0.size h0.size h0 h' → IsErr S h' h0.size 9 code pos e → R (.tuple #[.pointer none, e]) h') :
    pStore Tryz.prog 24 (ptr x) (.pointer none) h fun h2 => pStore Tryz.prog 26 (ptr y) e h2 fun h3 => Fin x y R [ptr x, ptr y] h3 := by
  refine two_stores hx hy hxy rfl hie.iface fun h' s e1 e2 e3 => ?_
  refine ⟨rfl, _, _, e1, e2, hk h' e (f.trans ⟨by omega, fun k hk _ => e3 k (by omega) (by omega)⟩) ?_⟩
  exact (hie.fm fun k _ hk => e3 k (by omega) (by omega)).less (by omega)
theorem tree_fin {h0 : Heap} {x y b : Nat} {vs : List Value} {t : U} (f : Fm h0.size h0.size h0 h) (hb : h[b]? = some (.cells vs.toArray 55 (0, 0))) (ht : IsSk h (fun z => h0.size ≤ z ∧ z ≠ b ∧ z ≠ x ∧ z ≠ y) t vs) (hx : h[x]? = some (.cells #[.pointer none] 24 (0, 0))) (hy : h[y]? = some (.cells #[.nilIface] 26 (0, 0))) (hxy : x ≠ y) (hx0 : h0.size ≤ x) (hy0 : h0.size ≤ y) (hbx : b ≠ x) (hby : b ≠ y) (hb0 : h0.size ≤ b)
    (hk : ∀ h' b vs, Fm h0.size h0.size h0 h' → h0.size ≤ b → h'[b]? = some (.cells vs.toArray 55 (0, 0)) → IsSk h' (fun x => h0.size ≤ x ∧ x ≠ b) t vs → R (.tuple #[ptr b, .nilIface]) h') :
    pStore Tryz.prog 24 (ptr x) (ptr b) h fun h2 => pStore Tryz.prog 26 (ptr y) .nilIface h2 fun h3 => Fin x y R [ptr x, ptr y] h3 := by
  refine two_stores hx hy hxy rfl rfl fun h' s e1 e2 e3 => ?_
  refine ⟨rfl, _, _, e1, e2, hk h' b vs (f.trans ⟨by omega, fun k hk _ => e3 k (by omega) (by omega)⟩) hb0 ((e3 b hbx hby).trans hb) ?_⟩
  exact ht.frame fun z hz _ => ⟨⟨hz.1, hz.2.1⟩, e3 z hz.2.2.1 hz.2.2.2⟩

theorem longAt_some {i : Nat} (hi : i < l.length) (h1 : 1024 < l[i].length) (h2 : ∀ j, j < i → ∀ s, l[j]? = some s → s.length ≤ 1024) : longAt l = some i := by
  unfold longAt
  rw [List.findIdx?_eq_some_iff_getElem]
  refine ⟨hi, by simpa using h1, fun j hj => ?_⟩
  have := h2 j hj _ (List.getElem?_eq_getElem (by omega))
  simp
  omega
theorem longAt_none (h2 : ∀ j, j < l.length → ∀ s, l[j]? = some s → s.length ≤ 1024) : longAt l = none ∧ ∀ s ∈ l, s.length ≤ 1024 := by
  have key : ∀ s ∈ l, s.length ≤ 1024 := by
    intro s hs
    obtain ⟨j, hj, rfl⟩ := List.mem_iff_getElem.1 hs
    exact h2 j hj _ (List.getElem?_eq_getElem hj)
  refine ⟨?_, key⟩
  unfold longAt
  rw [List.findIdx?_eq_none_iff]
  intro s hs
  have := key s hs
  simp
  omega

theorem rest_spec {w : Heap} {k : Nat} {x y : Nat} (f0 : Fm w.size w.size w h) (gl : Gl S w) (hn : S.N ≤ w.size) (hb : IsOps w ov l) (hbl : ∀ b o m c, ov = .slice (some ⟨b, o, none⟩) m c → b < w.size) (hlen : l.length ≤ 64) (hsh : ∀ s ∈ l, s.length ≤ 1024)
    (hx : h[x]? = some (.cells #[.pointer none] 24 (0, 0))) (hy : h[y]? = some (.cells #[.nilIface] 26 (0, 0))) (hxy : x ≠ y) (hx0 : w.size ≤ x) (hy0 : w.size ≤ y) (hk : OwesP S w (endM l (exprM k l 0 0 false)) R) :
    S10E Tryz.prog (fun c h' => ∃ code pos, endM l (exprM k l 0 0 false) = .bad code pos ∧ Fails S h' h.size code pos c ∧ Fm h.size h.size h h') ov (ptr x) (ptr y) h (fun _ _ => False) (Fin x y R) := by
  unfold S10E
  have lx := at_lt hx
  have ly := at_lt hy
  have hb0 : IsOps h ov l := hb.frame f0.size fun b o c hv hlt => f0.same b hlt (by omega)
  have hsz := f0.size
  obtain ⟨q, m, c, hov⟩ : ∃ q m c, ov = .slice q m c := by
    rcases hb with ⟨rfl, _⟩ | ⟨b, o, c, rfl, _⟩
    · exact ⟨_, _, _, rfl⟩
    · exact ⟨_, _, _, rfl⟩
  have hbd : ∀ k : Value → Prop, Reads Tryz.prog (Instr.build 63 #[(0, ov)]) h k = k (.agg #[ov, .int .i64 0, .int .i64 0, .bool false]) := by
    intro k
    subst hov
    exact Tryz.bd63_0
  rw [hbd]
  refine new_rule fun h1 a1 => ?_
  have s1 := a1.size
  have f1 : Fm w.size w.size w h1 := f0.trans (Fm.al a1 hsz)
  have c1 : Cx S h1.size h1 h.size ov l 0 0 false :=
    ⟨a1.at_, hb0.frame (by omega) fun b o c hv hlt => a1.old b hlt, fun b o m c hv => ⟨by have := hbl b o m c hv; omega, by have := hbl b o m c hv; omega⟩, Nat.zero_le _, hlen, hsh, gl.fm f1 hn hn, by omega, by omega, Nat.le_refl _, Nat.le_refl _⟩
  have flift : ∀ {h' : Heap}, Fm h1.size h.size h1 h' → Fm h.size h.size h h' := fun f => ⟨by have := f.size; omega, fun b hb _ => (f.same b (by omega) (by omega)).trans (a1.old b hb)⟩
  refine (all_ok k).2.2 c1 ?_
  cases hm : exprM k l 0 0 false with
  | out => rw [hm] at hk; exact hk
  | bad a b =>
    rw [hm] at hk
    intro cc h' hf f
    exact ⟨a, b, rfl, hf.more (by omega), flift f⟩
  | ok z =>
    obtain ⟨t, p', ac'⟩ := z
    rw [hm] at hk
    intro h2 vs f2 c2 ht
    have s2 := f2.size
    refine alloc_rule Tryz.zero40 fun h3 a3 => ?_
    have s3 := a3.size
    refine storeFull a3.at_ (xs := vs.toArray) (by rw [Tryz.size40]; simp [ht.len]) (by simp [ht.len, Value.cells]) (by simpa using ht.flat) fun h4 u4 => ?_
    have s4 := u4.size
    have c4 : Cx S h1.size h4 h.size ov l p' 0 ac' := (c2.al a3).upd u4 c2.nle (by omega)
    have e4 : ∀ b, b < h2.size → h4[b]? = h2[b]? := fun b hb => (u4.other b (by omega)).trans (a3.old b hb)
    have f4 : Fm h.size h.size h h4 := (flift f2).trans ⟨by omega, fun b hb _ => e4 b (by omega)⟩
    have ht4 : IsSk h4 (fun b => h1.size ≤ b ∧ b ≠ h2.size) t vs := ht.frame fun b hb hlt => ⟨⟨hb, by omega⟩, e4 b hlt⟩
    unfold endM at hk
    simp only at hk
    refine Join0.intro (fun h' => h' = h4 ∧ ¬ p' < l.length) ?_ ?_
    · simp only [reads_nil, Tryz.fa63_1, addr_add, c4.ld1, Nat.zero_add, reads_olen c4.by_, reads_lt, dec_nn_lt, boolV_bool]
      refine bcase_of (fun hc => ?_) (fun hc => ⟨trivial, of_decide_eq_false hc⟩)
      refine bar_spec (code := 9) c4.gl (by omega) (by omega) fun cc h' hf f => ⟨9, p', ?_, hf.more (by omega), f4.trans ⟨f.size, fun b hb _ => f.same b (by omega) (by omega)⟩⟩
      unfold endM
      simp only
      rw [if_pos (of_decide_eq_true hc)]
    rintro h5 ⟨rfl, hend⟩
    rw [if_neg hend] at hk
    -- the tree that is told
    have fin : ∀ (h6 : Heap) (t' : U) (vs' : List Value), Fm h.size h.size h h6 → h6[h2.size]? = some (.cells vs'.toArray 40 (0, 0)) → IsSk h6 (fun b => h1.size ≤ b ∧ b ≠ h2.size) t' vs' → OwesP S w (.ok t') R →
        pLoad Tryz.prog 40 (ptr h2.size) h6 fun t58 => Reads Tryz.prog (Instr.build 55 #[(0, t58)]) h6 fun t59 => pNew 55 t59 h6 fun t60 h10 => pStore Tryz.prog 24 (ptr x) t60 h10 fun h11 => pStore Tryz.prog 26 (ptr y) .nilIface h11 fun h12 => Fin x y R [ptr x, ptr y] h12 := by
      intro h6 t' vs' f6 b6 ht6 hk6
      have l6 := at_lt b6
      refine load_all b6 (by rw [Tryz.agg40]; simp [ht6.len]) ?_
      rw [bd55s ht6.len]
      refine new_rule fun h7 a7 => ?_
      have s7 := a7.size
      have f6s := f6.size
      refine tree_fin (f0.trans ⟨by omega, fun b hb _ => (a7.old b (by omega)).trans (f6.same b (by omega) (by omega))⟩) a7.at_ (ht6.frame fun b hb hlt => ⟨⟨by omega, by omega, by omega, by omega⟩, a7.old b hlt⟩)
        ((a7.old x (by omega)).trans ((f6.same x lx (by omega)).trans hx)) ((a7.old y (by omega)).trans ((f6.same y ly (by omega)).trans hy)) hxy hx0 hy0 (by omega) (by omega) (by omega) hk6
    refine Join0.intro (fun h' => ∃ t' vs', Fm h.size h.size h h' ∧ h'[h2.size]? = some (.cells vs'.toArray 40 (0, 0)) ∧ IsSk h' (fun b => h1.size ≤ b ∧ b ≠ h2.size) t' vs' ∧ OwesP S w (.ok t') R) ?_ ?_
    · simp only [reads_nil, Tryz.fa63_3, addr_add, Nat.zero_add]
      rw [c4.ld (i := 3) (v := .bool ac') Tryz.agg4 rfl, reads_not, boolV_bool]
      refine bcase_of (fun hc => ?_) (fun hc => ?_)
      · have hac : ac' = false := by simpa using hc
        subst hac
        refine load_all u4.same (by rw [Tryz.agg40]; simp [ht.len]) ?_
        rw [Tryz.bd40_0]
        refine two_spec (kind := 1) (u := printU) (ws := skL 10 [] 0 0 false (.slice none 0 0) (.slice none 0 0)) (Q := fun b => h1.size ≤ b ∧ b ≠ h2.size) ht4 IsSk.leaf fun h6 vs6 f6 ht6 => ?_
        have s6 := f6.size
        have b6 := (f6.same h2.size (by omega) (by omega)).trans u4.same
        refine storeFull b6 (xs := vs6.toArray) (by rw [Tryz.size40]; simp [ht6.len]) (by simp [ht6.len, ht.len]) (by simpa using ht6.flat) fun h7 u7 => ?_
        have s7 := u7.size
        refine ⟨_, vs6, ?_, u7.same, ht6.frame fun b hb hlt => ⟨by omega, u7.other b (by omega)⟩, hk⟩
        exact f4.trans ⟨by omega, fun b hb _ => (u7.other b (by omega)).trans (f6.same b (by omega) (by omega))⟩
      · have hac : ac' = true := by simpa using hc
        subst hac
        exact ⟨t, vs, f4, u4.same, ht4, hk⟩
    rintro h6 ⟨t', vs', f6, b6, ht6, hk6⟩
    exact fin h6 t' vs' f6 b6 ht6 hk6
end Rt
end Go.Proofs

set_option maxRecDepth 100000
namespace Go.Proofs
open Go.Vcg Go.Extern
namespace Rt
attribute [local congr] Reads.congr ReadsS.congr pLoad.congr pLoadS.congr pStore.congr Runs.congr CallsH.congr bcase.congr boolV.congr Stable.congr pAlloc.congr
variable {S : Glb} {n : Nat} {h : Heap} {r : Nat} {ov : Value} {l : List Op} {p op : Nat} {ac : Bool} {R : Value → Heap → Prop} {E : List PanicEntry → Heap → Prop}

theorem parse_spec {k : Nat} (gl : Gl S h) (hn : S.N ≤ h.size) (hb : IsOps h ov l) (hbl : ∀ b o m c, ov = .slice (some ⟨b, o, none⟩) m c → b < h.size) (hk : OwesP S h (parseM k l) R) : CallsH Tryz.prog 10 #[ov] h R E := by
  intro w hw
  subst hw
  refine calls_of_wp_defers Tryz.func10 body10_eq ?_
  refine piece (H := H10A) (E := fun _ _ => False) (D := []) (n := 61) (outs := [0, 2, 3]) (rets := [2, 3]) (fr := enumF 0 [ov])
    (kn := fun vs h2 => ∃ h1, Al w.heap h1 (.cells #[.pointer none] 24 (0, 0)) ∧ Al h1 h2 (.cells #[.nilIface] 26 (0, 0)) ∧ vs = [ov, ptr w.heap.size, ptr h1.size]) (kr := fun _ _ => False)
    Tryz.mixed (by kernel_rfl) ?_ (Same.refl w) ?_ (fun _ _ _ _ h _ _ _ => h.elim) (fun _ _ _ _ _ h => h.elim) ?_
  · exact agrees_of rfl (by simp [en10]) (by simp [enumF])
  · rw [← V10A]
    unfold S10A
    refine alloc_rule Tryz.zero24 fun h1 a1 => alloc_rule Tryz.zero26 fun h2 a2 => ?_
    exact ⟨h1, a1, a2, rfl⟩
  rintro vs a2 w2 ha2 hw2 ⟨h1, al1, al2, rfl⟩
  have s1 := al1.size
  have s2 := al2.size
  have f2 : Fm w.heap.size w.heap.size w.heap w2.heap := (Fm.al al1 (Nat.le_refl _)).trans (Fm.al al2 (by omega))
  have g2 : Gl S w2.heap := gl.fm f2 hn hn
  have b2 : IsOps w2.heap ov l := hb.frame f2.size fun b o c hv hlt => f2.same b hlt (by omega)
  have hx : w2.heap[w.heap.size]? = some (.cells #[.pointer none] 24 (0, 0)) := (al2.old _ (by omega)).trans al1.at_
  have hy : w2.heap[h1.size]? = some (.cells #[.nilIface] 26 (0, 0)) := al2.at_
  unfold parseM at hk
  -- too many
  refine piece (H := H10B) (E := fun _ _ => False) (D := []) (n := 61) (w₀ := w) (outs := [0, 2, 3]) (rets := [2, 3])
    (kn := fun vs h3 => ¬ 64 < l.length ∧ h3 = w2.heap ∧ vs = [ov, ptr w.heap.size, ptr h1.size]) (kr := Fin w.heap.size h1.size R)
    Tryz.mixed (by kernel_rfl) ha2 hw2 ?_ (fun _ _ _ _ h _ _ _ => h.elim) (fun vs a w' ha hw hf => ret_plain ha hw hf) ?_
  · rw [← V10B]
    unfold S10B
    rw [reads_olen b2, reads_gt, boolV_bool]
    refine bcase_of (fun hc => ?_) (fun hc => ⟨by have := of_decide_eq_false hc; omega, rfl, rfl⟩)
    rw [if_pos (by have := of_decide_eq_true hc; omega)] at hk
    refine fail_spec (code := 5) (pos := 0) g2 (by omega) (by omega) fun v h3 hv f3 => ?_
    exact error_fin (f2.trans ⟨f3.size, fun b hb _ => f3.same b (by omega) (by omega)⟩) hv ((f3.same _ (by omega) (by omega)).trans hx) ((f3.same _ (by omega) (by omega)).trans hy) (by omega) (Nat.le_refl _) (by omega) (by omega) hk
  rintro vs a3 w3 ha3 hw3 ⟨h64, hh3, rfl⟩
  rw [if_neg h64] at hk
  -- one too long
  refine piece (H := H10C) (E := fun _ _ => False) (D := []) (n := 61) (w₀ := w) (outs := [0, 2, 3]) (rets := [2, 3])
    (kn := fun vs h4 => (∀ j, j < l.length → ∀ s, l[j]? = some s → s.length ≤ 1024) ∧ h4 = w2.heap ∧ vs = [ov, ptr w.heap.size, ptr h1.size]) (kr := Fin w.heap.size h1.size R)
    Tryz.mixed (by kernel_rfl) ha3 hw3 ?_ (fun _ _ _ _ h _ _ _ => h.elim) (fun vs a w' ha hw hf => ret_plain ha hw hf) ?_
  · rw [← V10C, hh3]
    unfold S10C
    rw [reads_olen b2]
    refine Loop1.fuel (fun k a h' => ∃ i : Nat, a = .int .i64 i ∧ i ≤ l.length ∧ k = l.length - i ∧ h' = w2.heap ∧ ∀ j, j < i → ∀ s, l[j]? = some s → s.length ≤ 1024) (n := l.length) ⟨0, rfl, by omega, by omega, rfl, fun j hj => by omega⟩ fun k a h4 hi => ?_
    obtain ⟨i, rfl, hil, rfl, rfl, hall⟩ := hi
    rw [reads_lt, dec_nn_lt, boolV_bool]
    refine bcase_of (fun hc => ?_) (fun hc => ?_)
    · have hlt := of_decide_eq_true hc
      refine ops_load b2 hlt ?_
      rw [reads_slen Tryz.underlying9, reads_gt, boolV_bool]
      refine bcase_of (fun hc => ?_) (fun hc => ?_)
      · rw [longAt_some hlt (by have := of_decide_eq_true hc; omega) hall] at hk
        refine fail_spec (code := 2) (pos := i) g2 (by omega) (by omega) fun v h3 hv f3 => ?_
        exact error_fin (f2.trans ⟨f3.size, fun b hb _ => f3.same b (by omega) (by omega)⟩) hv ((f3.same _ (by omega) (by omega)).trans hx) ((f3.same _ (by omega) (by omega)).trans hy) (by omega) (Nat.le_refl _) (by omega) (by omega) hk
      · rw [reads_add, wrap_n1 _ (by omega)]
        refine ⟨l.length - (i + 1), by omega, i + 1, rfl, by omega, rfl, rfl, fun j hj s hs => ?_⟩
        rcases Nat.lt_succ_iff_lt_or_eq.1 hj with hj | rfl
        · exact hall j hj s hs
        · rw [List.getElem?_eq_getElem hlt] at hs
          cases hs
          have := of_decide_eq_false hc
          omega
    · have : i = l.length := by have := of_decide_eq_false hc; omega
      subst this
      exact ⟨hall, rfl, rfl⟩
  rintro vs a4 w4 ha4 hw4 ⟨hall, hh4, rfl⟩
  obtain ⟨hln, hsh⟩ := longAt_none hall
  rw [hln] at hk
  simp only at hk
  -- none
  refine piece (H := H10D) (E := fun _ _ => False) (D := []) (n := 61) (w₀ := w) (outs := [0, 2, 3]) (rets := [2, 3])
    (kn := fun vs h5 => l ≠ [] ∧ h5 = w2.heap ∧ vs = [ov, ptr w.heap.size, ptr h1.size]) (kr := Fin w.heap.size h1.size R)
    Tryz.mixed (by kernel_rfl) ha4 hw4 ?_ (fun _ _ _ _ h _ _ _ => h.elim) (fun vs a w' ha hw hf => ret_plain ha hw hf) ?_
  · rw [← V10D, hh4]
    unfold S10D
    rw [reads_olen b2, reads_eq, boolV_bool]
    refine bcase_of (fun hc => ?_) (fun hc => ⟨by rintro rfl; exact absurd hc (by simp), rfl, rfl⟩)
    have hl0 : l = [] := List.length_eq_zero_iff.1 (by have := of_decide_eq_true hc; omega)
    rw [if_pos hl0] at hk
    rw [Tryz.bd40_0]
    have e7 : (Value.agg #[.int .i64 10, str [], .int .i64 0, .int .i64 0, .bool false, .slice none 0 0, .slice none 0 0]) = .agg (skL 10 [] 0 0 false (.slice none 0 0) (.slice none 0 0)).toArray := rfl
    rw [e7, bd55s rfl]
    refine new_rule fun h5 a5 => ?_
    have s5 := a5.size
    exact tree_fin (f2.trans (Fm.al a5 (by omega))) a5.at_ IsSk.leaf ((a5.old _ (by omega)).trans hx) ((a5.old _ (by omega)).trans hy) (by omega) (Nat.le_refl _) (by omega) (by omega) (by omega) (by omega) hk
  rintro vs a5 w5 ha5 hw5 ⟨hl0, hh5, rfl⟩
  rw [if_neg hl0] at hk
  refine wp_seq (defer_wp (x := ptr w.heap.size) (y := ptr h1.size) (ha5.vals 2 _ rfl) (ha5.vals 3 _ rfl) (by rw [ha5.size]; omega) ?_)
  have ha6 : Agrees [{ target := .fn (.func 21) #[ptr w.heap.size, ptr h1.size], args := #[] }] 61 { tmps := a5.tmps.setIfInBounds 31 (.func (.func 21) #[] #[ptr w.heap.size, ptr h1.size]), defers := { target := .fn (.func 21) #[ptr w.heap.size, ptr h1.size], args := #[] } :: a5.defers }
      (zipF [0, 2, 3] [ov, ptr w.heap.size, ptr h1.size] []) := by
    refine agrees_of (by rw [ha5.defers]) (by simp [ha5.size]) ?_
    intro q hq
    simp only [zipF, List.mem_cons, List.not_mem_nil, or_false] at hq
    rcases hq with rfl | rfl | rfl <;>
    · simp only
      rw [Array.getElem?_setIfInBounds_ne (by omega)]
      exact ha5.vals _ _ rfl
  have hv := rest_spec (R := R) (k := k) f2 gl hn hb hbl (by omega) hsh hx hy (by omega) (Nat.le_refl _) (by omega) hk
  rw [V10E, ← hh5] at hv
  refine last_piece (H := H10E) (w₀ := w) (outs := []) (rets := [2, 3]) (kn := fun _ _ => False) (kr := Fin w.heap.size h1.size R) Tryz.mixed (by kernel_rfl) ha6 hw5 hv ?_ (fun vs a w' ha hw hf => ret_defer ha hw hf) (fun _ _ _ _ _ h => h.elim)
  rintro c a' w' hw' ⟨code, pos, hm, hf, f⟩ hd hs hkp
  rw [hm] at hk
  rw [hh5] at hf f
  have e2 : a'.tmps[2]? = some (ptr w.heap.size) := (hkp.vals 2 keep2).trans (ha6.vals 2 _ rfl)
  have e3 : a'.tmps[3]? = some (ptr h1.size) := (hkp.vals 3 keep3).trans (ha6.vals 3 _ rfl)
  have sf := f.size
  refine panic_defer (S := S) (m := w2.heap.size) hd hs e2 e3 hw' (g2.fm f (by omega) (by omega)) (by omega) ((f.same _ (by omega) (by omega)).trans hx) ((f.same _ (by omega) (by omega)).trans hy) (by omega) hf (by omega) fun h' e k1 k2 hie => ?_
  refine hk h' e ⟨by omega, fun b hb _ => ?_⟩ (hie.less (by omega))
  rw [k2 b (by omega) (by omega), f.same b (by omega) (by omega)]
  exact f2.same b hb (by omega)
end Rt
end Go.Proofs
