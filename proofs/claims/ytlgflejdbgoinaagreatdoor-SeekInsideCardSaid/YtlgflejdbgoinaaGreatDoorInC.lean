/- SeekInside: parentheses around all of it, and -a between, change nothing -/
import Derived.Test.YtlgflejdbgoinaaGreatDoorFrm
import Derived.Test.YtlgflejdbgoinaaGreatDoorSkK
set_option linter.unusedVariables false
set_option linter.unusedSimpArgs false
set_option maxRecDepth 100000
namespace Go.Proofs.YtlgflejdbgoinaaGreatDoor
open Go.Vcg Go.ChangeShapes Go.WideShapes Go.ChangeAt Go.RowKit
namespace lawInside
theorem contract (H : Type) (enc : TypeId × Value → H) (W : World) (base : Nat) (args : Array Value) (ds gs : List (DataW H)) (before : List MemPlace)
    (hval : ∀ (j : Nat) t v, Tryz.f3.params[j]? = some t → args[j]? = some v → Value.okWide Tryz.prog W .any base t v)
    (hW : DataW.Whole enc Tryz.prog Tryz.f3.params.toList Rows.seekInsideSpec.vars false W args.toList ds gs before) (hL : laidMetH Tryz.prog Frm.laidA W) (hsh : W.ShapedOpen Tryz.prog) :
    Calls Tryz.prog 3 args W fun e W' => ∃ v, e = .returned v ∧ Rows.seekInsideSpec.post enc Tryz.prog Tryz.f3 false true false false W args v W' := by
  have hW' := hW
  obtain ⟨p, q, hA0, hV, rfl, hfz, hnd⟩ := hW
  have hA : DataW.TrodAll enc Tryz.prog W 0 (fun _ => true) true Tryz.f3.params.toList args.toList ds p := hA0
  have hA1 := hA
  rw [Tryz.params3] at hA hval
  obtain ⟨v0, vs0, d0, ds0, p0, q0, hargs0, rfl, rfl, h0, r0⟩ := trodAll_cons hA
  obtain ⟨v1, vs1, d1, ds1, p1, q1, hargs1, rfl, rfl, h1, r1⟩ := trodAll_cons r0
  obtain ⟨rfl, rfl, rfl⟩ := trodAll_nil r1
  obtain rfl : args = #[v0, v1] := by cases args; simp_all
  obtain ⟨rfl, rfl⟩ := trodVars_none hV
  obtain ⟨l0, hb0, hlt0, _⟩ := Frm.open_ops (hval 0 22 v0 rfl rfl) h0
  obtain ⟨l1, hb1, hlt1, _⟩ := Frm.open_ops (hval 1 22 v1 rfl rfl) h1
  clear hA0
  simp only [List.append_nil] at hW'
  obtain ⟨S, hgl, hn⟩ := Frm.glb (more := []) hL.1 hL.2 hsh
  have walk := Rt.inside_spec (E := fun _ _ => False) (R := fun v h' => v = .bool true ∧ Fm W.heap.size W.heap.size W.heap h')  hgl hn hb0 hlt0 hb1 hlt1  (fun h' f => ⟨rfl, f⟩) W rfl
  refine walk.mono fun e W' he => ?_
  cases e with
  | returned v =>
    obtain ⟨hsame, rfl, f⟩ := he
    have fk : ∀ k, k < W.heap.size → W'.heap[k]? = W.heap[k]? := fun k hk => f.same k hk (by omega)
    refine ⟨_, rfl, Frm.post_old (pa := p0 ++ (p1 ++ ([]))) (pv := []) hW' (fun _ _ _ => trodAll_cons_mk (shut_bool Tryz.underlying4 _) trodAll_mk0) (fun sp hsp => ?_) (fun _ _ => rfl) (by simp)
      (Frm.kept hsame fk _) (fun b off hp => Frm.frozen_at fk (hW'.lt _ hp)) (ok_one (by kernel_rfl) rfl (okWide_bool_mk Tryz.underlying4 _))⟩
    refine Frm.again (fun t ht => ?_) hA1 (fun x hx => Frm.same_at fk (hW'.lt _ (by simpa using hx))) (fun x hx => hsp x (by simpa using hx))
    rw [Tryz.params3] at ht
    have ht : t = 22 := by simpa using ht
    rcases ht with rfl
    · exact ⟨by kernel_rfl, of_decide_eq_true (by kernel_rfl)⟩
  | panicked c => exact he.2.elim
  | outgrown => exact he.elim

theorem reads (os : Os) {H : Type} (enc : TypeId × Value → H) : ∃ places, DataW.whole enc Tryz.prog ((World.doorLaid Tryz.prog 430 os).forCall (fun _ _ => 0) ⟨#[], #[.slice none 0 0, .slice none 0 0], []⟩).memory Tryz.f3.params.toList (OpenSpec.ofChange Rows.seekInsideSpec).vars false #[Value.slice none 0 0, .slice none 0 0].toList 8 = some ([.nil, .nil], [], places) :=
  ⟨[], by kernel_rfl⟩
theorem lifted (os : Os) (started : os.Started) (H : Type) (enc : TypeId × Value → H) (F : Stop.Interp) :
    ReturnsInHanded {} Tryz.checked os 3 .any ((OpenSpec.ofChange Rows.seekInsideSpec).preRow enc Tryz.prog Tryz.f3 Rows.seekInsideRow.domain false Rows.seekInsideRow.laid) (((OpenSpec.ofChange Rows.seekInsideSpec).at F).post enc Tryz.prog Tryz.f3 false true false false) := by
  obtain ⟨places, hx⟩ := reads os enc
  have eL : Rows.seekInsideRow.laid = Frm.laidA := by kernel_rfl
  rw [eL]
  refine returnsInHanded_of_row (C := Tryz.checked) (s := OpenSpec.ofChange Rows.seekInsideSpec) Frm.own started (by kernel_rfl) Tryz.func3
    (witness_row_atRef (enc := enc) (C := Tryz.checked) false (World.doorLaid Tryz.prog 430 os) #[.slice none 0 0, .slice none 0 0] rfl (by kernel_rfl) (by kernel_rfl) (by kernel_rfl)
      (OpenSpec.preRow_of_cond 8 hx (by kernel_rfl) (fun k hk => by cases hk) (by kernel_rfl) (Frm.door_met os _))) ?_
  intro W base args ds gs before hval hW _ _ _ hL hsh _
  exact contract H enc W base args ds gs before hval hW hL hsh
theorem said : Rows.SeekInsideSaid :=
  OpenClaim.holds_of_cond 3 Tryz.f3 rfl rfl rfl rfl rfl rfl rfl ⟨rfl, rfl, rfl, rfl, rfl⟩ rfl rfl rfl rfl rfl (by kernel_rfl) Tryz.func3 (by kernel_rfl)
    (of_decide_eq_true (by kernel_rfl)) (by unfold Func.isWrapper; first | (rw [if_pos (by decide +kernel)]; kernel_rfl) | (rw [if_neg (by decide +kernel)]; exact ⟨rfl, rfl⟩))
    (fun os started H enc _ F => by rw [OpenClaim.pre_eq_preRow]; exact lifted os started H enc F)
theorem plain (f : FuncId) (fn : Func) (hf : Tryz.pinned.checked.prog.funcNamed "pidgin/pidginlaw22.SeekInside" = some f) (hfn : Tryz.pinned.checked.prog.funcs[f]? = some fn) :
    true = Tryz.pinned.checked.prog.looks [] ∧ ∀ (j : Nat) t, fn.params[j]? = some t → Tryz.pinned.checked.prog.wantsStandIn t = false := by
  obtain rfl : f = 3 := Option.some.inj ((show Tryz.prog.funcNamed "pidgin/pidginlaw22.SeekInside" = some 3 by kernel_rfl).symm.trans hf) |>.symm
  obtain rfl : fn = Tryz.f3 := (Option.some.inj (Tryz.func3.symm.trans hfn)).symm
  refine ⟨by kernel_rfl, fun j t ht => ?_⟩
  rw [Tryz.params3] at ht
  have ht : t = 22 := by simpa using Array.mem_of_getElem? ht
  rcases ht with rfl
  · exact (show Tryz.prog.wantsStandIn 22 = false by kernel_rfl)
/-- THE CARD -/
theorem card : Rows.SeekInsideCardSaid :=
  Claim7.holds_tied_plain_at .later [] _ _ _ _ said (fun _ h => by cases h) (by kernel_rfl) (fun _ h => by cases h) seekInside_row_tie rfl ⟨rfl, rfl⟩ (by kernel_rfl) rfl plain (by kernel_rfl)
end lawInside
end Go.Proofs.YtlgflejdbgoinaaGreatDoor
#print axioms Go.Proofs.YtlgflejdbgoinaaGreatDoor.lawInside.card
