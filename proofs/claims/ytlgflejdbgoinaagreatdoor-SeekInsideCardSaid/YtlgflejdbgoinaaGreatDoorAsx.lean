/- A part of the proofs over this seat: Asx. -/
import Derived.Test.YtlgflejdbgoinaaGreatDoorTxt
import Derived.LaidEql
import Derived.Stop.Asserts
import Derived.RowKitTokens
set_option linter.unusedVariables false
set_option linter.unusedSimpArgs false
set_option maxRecDepth 100000
namespace Go.Proofs
open Go.Vcg Go.Extern
namespace Rt
attribute [local congr] Reads.congr ReadsS.congr pLoad.congr pLoadS.congr pStore.congr Runs.congr CallsH.congr bcase.congr boolV.congr Stable.congr pAlloc.congr
variable {S : Glb} {n : Nat} {h : Heap} {r : Nat} {R : Value → Heap → Prop} {E : List PanicEntry → Heap → Prop}

/-! ### errors.As and errors.Is: the entries of internal/reflectlite -/
abbrev rt (t : Nat) : Value := .iface 101 (.agg #[.pointer (some ⟨26, t, none⟩)])
abbrev rv (t : Nat) (a : Addr) (f : Int) : Value := .agg #[.pointer (some ⟨26, t, none⟩), .pointer (some a), .int .u64 f]
@[irreducible] def ext1 (f : FuncId) (args : Array Value) : Sem Next := do let d ← Deferred.ofValue (.func (.func f) #[] #[]) args; invoke d.target d.args
@[irreducible] def meth (m : String) (x : Value) (args : Array Value) : Sem Next := invoke (.fn (.method m) #[]) (#[x] ++ args)
theorem ext1_eq (f : FuncId) (args : Array Value) : (do let d ← Deferred.ofValue (.func (.func f) #[] #[]) args; invoke d.target d.args : Sem Next) = ext1 f args := by unfold ext1; rfl
theorem meth_eq (m : String) (x : Value) (args : Array Value) : invoke (.fn (.method m) #[]) (#[x] ++ args) = meth m x args := by unfold meth; rfl
theorem runs_val {P : Program} {s : Sem Next} {v : Value} {K : Value → Heap → Prop} (hr : ∀ w : World, w.heap = h → s.run P w = .ok (.value v) w) (hk : K v h) : Runs P s h K E := by
  intro w hw
  subst hw
  rw [hr w rfl]
  exact ⟨Same.refl w, hk⟩
theorem runs_new {P : Program} {s : Sem Next} {v : Value} {o : Obj} {K : Value → Heap → Prop} (hr : ∀ w : World, w.heap = h → s.run P w = .ok (.value v) { w with heap := h.push o }) (hk : ∀ h', Al h h' o → K v h') : Runs P s h K E := by
  intro w hw
  subst hw
  rw [hr w rfl]
  exact ⟨⟨rfl, rfl, rfl⟩, hk _ (Al.push ..)⟩
theorem runs_enter {P : Program} {s : Sem Next} {f : FuncId} {args : Array Value} {K : Value → Heap → Prop} (hr : ∀ w : World, w.heap = h → s.run P w = .ok (.enter f args) w) (hk : CallsH P f args h K E) : Runs P s h K E := by
  intro w hw
  subst hw
  rw [hr w rfl]
  exact ⟨Same.refl w, hk⟩
theorem runs_set {P : Program} {s : Sem Next} {v x : Value} {b : Nat} {T : TypeId} {old : Value} {K : Value → Heap → Prop} (hb : h[b]? = some (.cells #[old] T (0, 0))) (hr : ∀ w : World, w.heap = h → s.run P w = .ok (.value v) (w.setCell ⟨b, 0, none⟩ x))
    (hk : ∀ h', Upd h h' b (.cells #[x] T (0, 0)) → K v h') : Runs P s h K E := by
  intro w hw
  subst hw
  rw [hr w rfl, setCell_eq]
  exact ⟨⟨rfl, rfl, rfl⟩, hk _ (hset_upd (off := 0) hb)⟩

theorem ext_is {f : FuncId} {fn : Func} {e : Array Value → Sem Value} (hf : Tryz.prog.funcs[f]? = some fn) (h1 : (fn.name == "runtime.NumGoroutine") = false) (h2 : fn.body.isNone = true) (h3 : Extern.findNext fn = none) (h4 : Extern.find fn = some e) {args : Array Value} {w w' : World} {v : Value}
    (hr : (e args).run Tryz.prog w = .ok v w') : (ext1 f args).run Tryz.prog w = .ok (.value v) w' := by
  have e1 := run_callFunc_extern hf h1 h2 h3 h4 args w
  rw [hr] at e1
  unfold ext1
  simp [Deferred.ofValue, invoke, e1]
theorem rlm (z : Sem Value) (f : TypeId → Addr → Nat → Nat → Sem Value) (v : Value) :
    ReflectliteValue.method z f #[v] = (do match ← ReflectliteValue.parts v with | none => z | some (t, a, fl) => f t a fl (fl % 32)) := rfl
theorem rls (v x : Value) : ReflectliteValue.set #[v, x] = (do
    let (some (dst, a, fl), some (src, b, _)) := (← ReflectliteValue.parts v, ← ReflectliteValue.parts x)
      | unsupported (.noEntry "extern/(internal/reflectlite.Value).Set.zeroValue")
    if fl / ReflectliteValue.flagAddr % 2 == 0 then unsupported (.noEntry "extern/(internal/reflectlite.Value).Set.unaddressable")
    let val ← loadVar src b
    if ← Rtype.directlyAssignable dst src then storeVar dst a val
    else if ← Rtype.implements dst src then
      if (← Rtype.kind src) == 20 then
        match val with
        | .nilIface => unsupported (.noEntry "extern/reflectlite: a nil value of one interface type handed on as a value of another")
        | _ => storeVar dst a val
      else storeVar dst a (.iface src val)
    else panicString ("reflectlite.Set: value of type " ++ (← Rtype.spelt src) ++ " is not assignable to type " ++ (← Rtype.spelt dst))
    pure (.tuple #[])) := rfl
/-- what is known of a target's type X, of the type Y behind it, and of the error's type -/
structure AsOk (X Y : Nat) (k : Int) (fx fy fe : Int) : Prop where
  vo : ∀ (t : Addr) (w : World), (ext1 39 #[.iface X (.pointer (some t))]).run Tryz.prog w = .ok (.value (rv X ⟨w.heap.size, 0, none⟩ fx)) { w with heap := w.heap.push (.cells #[.pointer (some t)] X) }
  ty : ∀ (a : Addr) (w : World), (ext1 40 #[rv X a fx]).run Tryz.prog w = .ok (.value (rt X)) w
  kd : ∀ w : World, (meth "Kind" (rt X) #[]).run Tryz.prog w = .ok (.value (.int .u8 22)) w
  nn : ∀ (a p : Addr) (w : World), w.cell? a = some (.pointer (some p)) → (ext1 41 #[rv X a fx]).run Tryz.prog w = .ok (.value (.bool false)) w
  el : ∀ w : World, (meth "Elem" (rt X) #[]).run Tryz.prog w = .ok (.value (rt Y)) w
  ky : ∀ w : World, (meth "Kind" (rt Y) #[]).run Tryz.prog w = .ok (.value (.int .u8 k)) w
  k20 : k ≠ 20
  im : ∀ w : World, (meth "Implements" (rt Y) #[rt 26]).run Tryz.prog w = .ok (.value (.bool true)) w
  ev : ∀ (a p : Addr) (w : World), w.cell? a = some (.pointer (some p)) → (ext1 56 #[rv X a fx]).run Tryz.prog w = .ok (.value (rv Y p fy)) w
  ay : ∀ w : World, (meth "AssignableTo" (rt Y) #[rt Y]).run Tryz.prog w = .ok (.value (.bool true)) w
  st : ∀ (b t : Nat) (x old : Value) (w : World), w.heap[b]? = some (.cells #[x] Y (0, 0)) → w.heap[t]? = some (.cells #[old] Y (0, 0)) → flat x = true → (ext1 57 #[rv Y ⟨t, 0, none⟩ fy, rv Y ⟨b, 0, none⟩ fe]).run Tryz.prog w = .ok (.value (.tuple #[])) (w.setCell ⟨t, 0, none⟩ x)
theorem loaded0 {T t : TypeId} {b : Nat} {x : Value} {w : World} (hT : aggN Tryz.prog T = some none) (hb : w.heap[b]? = some (.cells #[x] t (0, 0))) : (loadVar T ⟨b, 0, none⟩).run Tryz.prog w = .ok x w :=
  run_loadVar1 hT (by rw [hcell_of hb]; rfl)
theorem loaded1 {b : Nat} {x : Value} {w : World} {t : TypeId} (hb : w.heap[b]? = some (.cells #[x] t (0, 0))) : (loadVar 58 ⟨b, 0, none⟩).run Tryz.prog w = .ok (.agg #[x]) w := by
  have hT : aggN Tryz.prog 58 = some (some 1) := by kernel_rfl
  have := run_loadVarN (P := Tryz.prog) (t := 58) (a := ⟨b, 0, none⟩) (w := w) (n := 1) (vs := [x]) hT (by
    have := hcells_of hb 1 0 0 (by simp)
    simpa using this)
  simpa using this
theorem flat_cells {x : Value} (hx : flat x = true) : x.cells = #[x] := by cases x <;> first | rfl | simp [flat] at hx
theorem stored {T t : TypeId} {b : Nat} {x v old : Value} {w : World} (hT : sizeT Tryz.prog T = some 1) (hx : flat x = true) (hb : w.heap[b]? = some (.cells #[old] t (0, 0))) (hv : v.cells = #[x]) : (storeVar T ⟨b, 0, none⟩ v).run Tryz.prog w = .ok () (w.setCell ⟨b, 0, none⟩ x) := by
  have hcell : hcell w.heap ⟨b, 0, none⟩ = some old := by rw [hcell_of hb]; rfl
  have hz : hfrozen w.heap ⟨b, 0, none⟩ = false := by simp [hfrozen, hb]
  have hp : hputN w.heap ⟨b, 0, none⟩ 0 [x] = some (hset w.heap ⟨b, 0, none⟩ x) := by
    simp only [hputN, addr_add, Nat.add_zero, hput1, hcell, hx, hz, Bool.not_false, Bool.and_self]
  have := run_storeCells (P := Tryz.prog) [x] 0 w _ hp
  unfold sizeT at hT
  split at hT
  · rename_i i hi
    simp only [Option.some.injEq] at hT
    simp only [storeVar, sizeOf, typeInfo, program, Sem.run_bind, Sem.run_pure, Sem.run, Result.andThen_ok, hi, hv, hT]
    simpa [setCell_eq] using this
  · cases hT
theorem parts82x (a : Addr) (w : World) : (ReflectliteValue.parts (rv 77 a 150)).run Tryz.prog w = .ok (some (77, a, 150)) w := by kernel_rfl
theorem parts81a (a : Addr) (w : World) : (ReflectliteValue.parts (rv 76 a 406)).run Tryz.prog w = .ok (some (76, a, 406)) w := by kernel_rfl
theorem parts81b (a : Addr) (w : World) : (ReflectliteValue.parts (rv 76 a 150)).run Tryz.prog w = .ok (some (76, a, 150)) w := by kernel_rfl
theorem elemOf82 (w : World) : (Rtype.elem? 77).run Tryz.prog w = .ok (some 76) w := by kernel_rfl
theorem mk81 (p : Addr) (w : World) : (ReflectliteValue.mk 76 p ReflectliteValue.flagAddr).run Tryz.prog w = .ok (rv 76 p 406) w := by kernel_rfl
theorem direct81 (w : World) : (Rtype.directlyAssignable 76 76).run Tryz.prog w = .ok true w := by kernel_rfl
theorem as81 : AsOk 77 76 22 150 406 150 where
  vo := fun t w => by kernel_rfl
  ty := fun a w => by kernel_rfl
  kd := fun w => by kernel_rfl
  nn := fun a p w ha => by
    refine ext_is (e := ReflectliteValue.method (ReflectliteValue.valueError "reflectlite.Value.IsNil" 0) ReflectliteValue.isNil) Tryz.func41 (by kernel_rfl) (by kernel_rfl) (by kernel_rfl) (by kernel_rfl) ?_
    rw [rlm]
    simp only [Sem.run_bind, parts82x, Result.andThen]
    simp [ReflectliteValue.isNil, loadVar, isAgg, underlying, Tryz.underlying77, ha, Result.andThen]
  el := fun w => by kernel_rfl
  ky := fun w => by kernel_rfl
  k20 := by decide
  im := fun w => by kernel_rfl
  ev := fun a p w ha => by
    refine ext_is (e := ReflectliteValue.method (ReflectliteValue.valueError "reflectlite.Value.Elem" 0) ReflectliteValue.elem) Tryz.func56 (by kernel_rfl) (by kernel_rfl) (by kernel_rfl) (by kernel_rfl) ?_
    rw [rlm]
    simp only [Sem.run_bind, parts82x, Result.andThen]
    simp [ReflectliteValue.elem, loadVar, isAgg, underlying, Tryz.underlying77, ha, Result.andThen, elemOf82, mk81]
  ay := fun w => by kernel_rfl
  st := fun b t x old w hb ht hx => by
    refine ext_is (e := ReflectliteValue.set) Tryz.func57 (by kernel_rfl) (by kernel_rfl) (by kernel_rfl) (by kernel_rfl) ?_
    rw [rls]
    have hl : (loadVar 76 ⟨b, 0, none⟩).run Tryz.prog w = .ok x w := loaded0 (Tryz.agg76) hb
    have hs : (storeVar 76 ⟨t, 0, none⟩ x).run Tryz.prog w = .ok () (w.setCell ⟨t, 0, none⟩ x) := by
      have := stored (T := 76) (v := x) (by kernel_rfl) hx ht (flat_cells hx)
      exact this
    simp only [Sem.run_bind, parts81a, parts81b, Result.andThen]
    simp [ReflectliteValue.flagAddr, hl, direct81, hs, Result.andThen]
theorem parts78x (a : Addr) (w : World) : (ReflectliteValue.parts (rv 73 a 150)).run Tryz.prog w = .ok (some (73, a, 150)) w := by kernel_rfl
theorem parts77a (a : Addr) (w : World) : (ReflectliteValue.parts (rv 72 a 406)).run Tryz.prog w = .ok (some (72, a, 406)) w := by kernel_rfl
theorem parts77b (a : Addr) (w : World) : (ReflectliteValue.parts (rv 72 a 150)).run Tryz.prog w = .ok (some (72, a, 150)) w := by kernel_rfl
theorem elemOf78 (w : World) : (Rtype.elem? 73).run Tryz.prog w = .ok (some 72) w := by kernel_rfl
theorem mk77 (p : Addr) (w : World) : (ReflectliteValue.mk 72 p ReflectliteValue.flagAddr).run Tryz.prog w = .ok (rv 72 p 406) w := by kernel_rfl
theorem direct77 (w : World) : (Rtype.directlyAssignable 72 72).run Tryz.prog w = .ok true w := by kernel_rfl
theorem as77 : AsOk 73 72 22 150 406 150 where
  vo := fun t w => by kernel_rfl
  ty := fun a w => by kernel_rfl
  kd := fun w => by kernel_rfl
  nn := fun a p w ha => by
    refine ext_is (e := ReflectliteValue.method (ReflectliteValue.valueError "reflectlite.Value.IsNil" 0) ReflectliteValue.isNil) Tryz.func41 (by kernel_rfl) (by kernel_rfl) (by kernel_rfl) (by kernel_rfl) ?_
    rw [rlm]
    simp only [Sem.run_bind, parts78x, Result.andThen]
    simp [ReflectliteValue.isNil, loadVar, isAgg, underlying, Tryz.underlying73, ha, Result.andThen]
  el := fun w => by kernel_rfl
  ky := fun w => by kernel_rfl
  k20 := by decide
  im := fun w => by kernel_rfl
  ev := fun a p w ha => by
    refine ext_is (e := ReflectliteValue.method (ReflectliteValue.valueError "reflectlite.Value.Elem" 0) ReflectliteValue.elem) Tryz.func56 (by kernel_rfl) (by kernel_rfl) (by kernel_rfl) (by kernel_rfl) ?_
    rw [rlm]
    simp only [Sem.run_bind, parts78x, Result.andThen]
    simp [ReflectliteValue.elem, loadVar, isAgg, underlying, Tryz.underlying73, ha, Result.andThen, elemOf78, mk77]
  ay := fun w => by kernel_rfl
  st := fun b t x old w hb ht hx => by
    refine ext_is (e := ReflectliteValue.set) Tryz.func57 (by kernel_rfl) (by kernel_rfl) (by kernel_rfl) (by kernel_rfl) ?_
    rw [rls]
    have hl : (loadVar 72 ⟨b, 0, none⟩).run Tryz.prog w = .ok x w := loaded0 (Tryz.agg72) hb
    have hs : (storeVar 72 ⟨t, 0, none⟩ x).run Tryz.prog w = .ok () (w.setCell ⟨t, 0, none⟩ x) := by
      have := stored (T := 72) (v := x) (by kernel_rfl) hx ht (flat_cells hx)
      exact this
    simp only [Sem.run_bind, parts77a, parts77b, Result.andThen]
    simp [ReflectliteValue.flagAddr, hl, direct77, hs, Result.andThen]
theorem parts64x (a : Addr) (w : World) : (ReflectliteValue.parts (rv 60 a 150)).run Tryz.prog w = .ok (some (60, a, 150)) w := by kernel_rfl
theorem parts62a (a : Addr) (w : World) : (ReflectliteValue.parts (rv 58 a 409)).run Tryz.prog w = .ok (some (58, a, 409)) w := by kernel_rfl
theorem parts62b (a : Addr) (w : World) : (ReflectliteValue.parts (rv 58 a 153)).run Tryz.prog w = .ok (some (58, a, 153)) w := by kernel_rfl
theorem elemOf64 (w : World) : (Rtype.elem? 60).run Tryz.prog w = .ok (some 58) w := by kernel_rfl
theorem mk62 (p : Addr) (w : World) : (ReflectliteValue.mk 58 p ReflectliteValue.flagAddr).run Tryz.prog w = .ok (rv 58 p 409) w := by kernel_rfl
theorem direct62 (w : World) : (Rtype.directlyAssignable 58 58).run Tryz.prog w = .ok true w := by kernel_rfl
theorem as62 : AsOk 60 58 25 150 409 153 where
  vo := fun t w => by kernel_rfl
  ty := fun a w => by kernel_rfl
  kd := fun w => by kernel_rfl
  nn := fun a p w ha => by
    refine ext_is (e := ReflectliteValue.method (ReflectliteValue.valueError "reflectlite.Value.IsNil" 0) ReflectliteValue.isNil) Tryz.func41 (by kernel_rfl) (by kernel_rfl) (by kernel_rfl) (by kernel_rfl) ?_
    rw [rlm]
    simp only [Sem.run_bind, parts64x, Result.andThen]
    simp [ReflectliteValue.isNil, loadVar, isAgg, underlying, Tryz.underlying60, ha, Result.andThen]
  el := fun w => by kernel_rfl
  ky := fun w => by kernel_rfl
  k20 := by decide
  im := fun w => by kernel_rfl
  ev := fun a p w ha => by
    refine ext_is (e := ReflectliteValue.method (ReflectliteValue.valueError "reflectlite.Value.Elem" 0) ReflectliteValue.elem) Tryz.func56 (by kernel_rfl) (by kernel_rfl) (by kernel_rfl) (by kernel_rfl) ?_
    rw [rlm]
    simp only [Sem.run_bind, parts64x, Result.andThen]
    simp [ReflectliteValue.elem, loadVar, isAgg, underlying, Tryz.underlying60, ha, Result.andThen, elemOf64, mk62]
  ay := fun w => by kernel_rfl
  st := fun b t x old w hb ht hx => by
    refine ext_is (e := ReflectliteValue.set) Tryz.func57 (by kernel_rfl) (by kernel_rfl) (by kernel_rfl) (by kernel_rfl) ?_
    rw [rls]
    have hl : (loadVar 58 ⟨b, 0, none⟩).run Tryz.prog w = .ok (.agg #[x]) w := loaded1 hb
    have hs : (storeVar 58 ⟨t, 0, none⟩ (.agg #[x])).run Tryz.prog w = .ok () (w.setCell ⟨t, 0, none⟩ x) := by
      have := stored (T := 58) (v := (.agg #[x])) (by kernel_rfl) hx ht rfl
      exact this
    simp only [Sem.run_bind, parts62a, parts62b, Result.andThen]
    simp [ReflectliteValue.flagAddr, hl, direct62, hs, Result.andThen]
end Rt
end Go.Proofs
