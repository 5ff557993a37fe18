/- SeekNil: an expression that there is not -/
import Derived.Test.YtlgflejdbgoinaaGreatDoorFrm
import Derived.Test.YtlgflejdbgoinaaGreatDoorSkS
set_option linter.unusedVariables false
set_option linter.unusedSimpArgs false
set_option maxRecDepth 100000
namespace Go.Proofs.YtlgflejdbgoinaaGreatDoor
open Go.Vcg Go.ChangeShapes Go.WideShapes Go.ChangeAt Go.RowKit
namespace lawNil
theorem contract (H : Type) (enc : TypeId × Value → H) (W : World) (base : Nat) (args : Array Value) (ds gs : List (DataW H)) (before : List MemPlace)
    (hval : ∀ (j : Nat) t v, Tryz.f6.params[j]? = some t → args[j]? = some v → Value.okWide Tryz.prog W .any base t v)
    (hW : DataW.Whole enc Tryz.prog Tryz.f6.params.toList Rows.seekNilSpec.vars false W args.toList ds gs before) (hL : laidMetH Tryz.prog Frm.laidA W) (hsh : W.ShapedOpen Tryz.prog) :
    Calls Tryz.prog 6 args W fun e W' => ∃ v, e = .returned v ∧ Rows.seekNilSpec.post enc Tryz.prog Tryz.f6 false true false false W args v W' := by
  have hW' := hW
  obtain ⟨p, q, hA0, hV, rfl, hfz, hnd⟩ := hW
  have hA : DataW.TrodAll enc Tryz.prog W 0 (fun _ => true) true Tryz.f6.params.toList args.toList ds p := hA0
  have hA1 := hA
  rw [Tryz.params6] at hA hval
  obtain ⟨hargs, rfl, rfl⟩ := trodAll_nil hA
  obtain rfl : args = #[] := by cases args; simp_all
  obtain ⟨rfl, rfl⟩ := trodVars_none hV
  clear hA0
  simp only [List.append_nil] at hW'
  obtain ⟨S, hgl, hn⟩ := Frm.glb (more := []) hL.1 hL.2 hsh
  have walk := Rt.nil_spec (E := fun _ _ => False) (R := fun v h' => v = .bool true ∧ Fm W.heap.size W.heap.size W.heap h')  hgl hn   (fun h' f => ⟨rfl, f⟩) W rfl
  refine walk.mono fun e W' he => ?_
  cases e with
  | returned v =>
    obtain ⟨hsame, rfl, f⟩ := he
    have fk : ∀ k, k < W.heap.size → W'.heap[k]? = W.heap[k]? := fun k hk => f.same k hk (by omega)
    refine ⟨_, rfl, Frm.post_old (pa := ([] : List MemPlace)) (pv := []) hW' (fun _ _ _ => trodAll_cons_mk (shut_bool Tryz.underlying4 _) trodAll_mk0) (fun sp hsp => ?_) (fun _ _ => rfl) (by simp)
      (Frm.kept hsame fk _) (fun b off hp => Frm.frozen_at fk (hW'.lt _ hp)) (ok_one (by kernel_rfl) rfl (okWide_bool_mk Tryz.underlying4 _))⟩
    exact Frm.again (fun t ht => by rw [Tryz.params6] at ht; cases ht) hA1 (fun x hx => by cases hx) (fun x hx => by cases hx)
  | panicked c => exact he.2.elim
  | outgrown => exact he.elim

theorem reads (os : Os) {H : Type} (enc : TypeId × Value → H) : ∃ places, DataW.whole enc Tryz.prog ((World.doorLaid Tryz.prog 430 os).forCall (fun _ _ => 0) ⟨#[], #[], []⟩).memory Tryz.f6.params.toList (OpenSpec.ofChange Rows.seekNilSpec).vars false (#[] : Array Value).toList 8 = some ([], [], places) :=
  ⟨[], by kernel_rfl⟩
theorem lifted (os : Os) (started : os.Started) (H : Type) (enc : TypeId × Value → H) (F : Stop.Interp) :
    ReturnsInHanded {} Tryz.checked os 6 .any ((OpenSpec.ofChange Rows.seekNilSpec).preRow enc Tryz.prog Tryz.f6 Rows.seekNilRow.domain false Rows.seekNilRow.laid) (((OpenSpec.ofChange Rows.seekNilSpec).at F).post enc Tryz.prog Tryz.f6 false true false false) := by
  obtain ⟨places, hx⟩ := reads os enc
  have eL : Rows.seekNilRow.laid = Frm.laidA := by kernel_rfl
  rw [eL]
  refine returnsInHanded_of_row (C := Tryz.checked) (s := OpenSpec.ofChange Rows.seekNilSpec) Frm.own started (by kernel_rfl) Tryz.func6
    (witness_row_atRef (enc := enc) (C := Tryz.checked) false (World.doorLaid Tryz.prog 430 os) #[] rfl (by kernel_rfl) (by kernel_rfl) (by kernel_rfl)
      (OpenSpec.preRow_of_cond 8 hx (by kernel_rfl) (fun k hk => by cases hk) (by kernel_rfl) (Frm.door_met os _))) ?_
  intro W base args ds gs before hval hW _ _ _ hL hsh _
  exact contract H enc W base args ds gs before hval hW hL hsh
theorem said : Rows.SeekNilSaid :=
  OpenClaim.holds_of_cond 6 Tryz.f6 rfl rfl rfl rfl rfl rfl rfl ⟨rfl, rfl, rfl, rfl, rfl⟩ rfl rfl rfl rfl rfl (by kernel_rfl) Tryz.func6 (by kernel_rfl)
    (of_decide_eq_true (by kernel_rfl)) (by unfold Func.isWrapper; first | (rw [if_pos (by decide +kernel)]; kernel_rfl) | (rw [if_neg (by decide +kernel)]; exact ⟨rfl, rfl⟩))
    (fun os started H enc _ F => by rw [OpenClaim.pre_eq_preRow]; exact lifted os started H enc F)
theorem plain (f : FuncId) (fn : Func) (hf : Tryz.pinned.checked.prog.funcNamed "pidgin/pidginlaw22.SeekNil" = some f) (hfn : Tryz.pinned.checked.prog.funcs[f]? = some fn) :
    true = Tryz.pinned.checked.prog.looks [] ∧ ∀ (j : Nat) t, fn.params[j]? = some t → Tryz.pinned.checked.prog.wantsStandIn t = false := by
  obtain rfl : f = 6 := Option.some.inj ((show Tryz.prog.funcNamed "pidgin/pidginlaw22.SeekNil" = some 6 by kernel_rfl).symm.trans hf) |>.symm
  obtain rfl : fn = Tryz.f6 := (Option.some.inj (Tryz.func6.symm.trans hfn)).symm
  refine ⟨by kernel_rfl, fun j t ht => ?_⟩
  rw [Tryz.params6] at ht
  simp at ht
/-- THE CARD -/
theorem card : Rows.SeekNilCardSaid :=
  Claim7.holds_tied_plain_at .later [] _ _ _ _ said (fun _ h => by cases h) (by kernel_rfl) (fun _ h => by cases h) seekNil_row_tie rfl ⟨rfl, rfl⟩ (by kernel_rfl) rfl plain (by kernel_rfl)
end lawNil
end Go.Proofs.YtlgflejdbgoinaaGreatDoor
#print axioms Go.Proofs.YtlgflejdbgoinaaGreatDoor.lawNil.card
