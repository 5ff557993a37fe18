/- For every four ints and either grammar, the law RetextLimits of package pidginlaw8 returns true and leaves its arguments as they were; premise: the 25 package variables that the row lists hold at the start what the program's text lays in them (the card ties them). -/
import Derived.Test.YthlncmkeccgfeaaGreatDoorFrmP
import Derived.Test.YthlncmkeccgfeaaGreatDoorLawL
set_option linter.unusedVariables false
set_option linter.unusedSimpArgs false
set_option maxRecDepth 100000
namespace Go.Proofs.YthlncmkeccgfeaaGreatDoor
open Go.Vcg Go.ChangeShapes Go.WideShapes Go.ChangeAt Go.RowKit
namespace lawLimits
theorem contract (H : Type) (enc : TypeId × Value → H) (W : World) (base : Nat) (args : Array Value) (ds gs : List (DataW H)) (before : List MemPlace)
    (hval : ∀ (j : Nat) t v, Tryz.f7.params[j]? = some t → args[j]? = some v → Value.okWide Tryz.prog W .any base t v)
    (hW : DataW.Whole enc Tryz.prog Tryz.f7.params.toList Rows.retextLimitsSpec.vars false W args.toList ds gs before) (hL : laidMetH Tryz.prog Frm.laidP W) (hsh : W.ShapedOpen Tryz.prog) :
    Calls Tryz.prog 7 args W fun e W' => ∃ v, e = .returned v ∧ Rows.retextLimitsSpec.post enc Tryz.prog Tryz.f7 false true false false W args v W' := by
  have hW' := hW
  obtain ⟨p, q, hA0, hV, rfl, hfz, hnd⟩ := hW
  have hA : DataW.TrodAll enc Tryz.prog W 0 (fun _ => true) true Tryz.f7.params.toList args.toList ds p := hA0
  have hA1 := hA
  rw [Tryz.params7] at hA hval
  obtain ⟨v0, vs0, d0, ds0, p0, q0, hargs, rfl, rfl, h0, r0⟩ := trodAll_cons hA
  obtain ⟨v1, vs1, d1, ds1, p1, q1, hargs1, rfl, rfl, h1, r1⟩ := trodAll_cons r0
  obtain ⟨v2, vs2, d2, ds2, p2, q2, hargs2, rfl, rfl, h2, r2⟩ := trodAll_cons r1
  obtain ⟨v3, vs3, d3, ds3, p3, q3, hargs3, rfl, rfl, h3, r3⟩ := trodAll_cons r2
  obtain ⟨v4, vs4, d4, ds4, p4, q4, hargs4, rfl, rfl, h4, r4⟩ := trodAll_cons r3
  obtain ⟨rfl, rfl, rfl⟩ := trodAll_nil r4
  obtain rfl : args = #[v0, v1, v2, v3, v4] := by cases args; simp_all
  obtain ⟨rfl, rfl⟩ := trodVars_none hV
  obtain ⟨x0, rfl, rfl, rfl, _⟩ := open_int Tryz.underlying3 (hval 0 3 v0 rfl rfl) h0
  obtain ⟨x1, rfl, rfl, rfl, _⟩ := open_int Tryz.underlying3 (hval 1 3 v1 rfl rfl) h1
  obtain ⟨x2, rfl, rfl, rfl, _⟩ := open_int Tryz.underlying3 (hval 2 3 v2 rfl rfl) h2
  obtain ⟨x3, rfl, rfl, rfl, _⟩ := open_int Tryz.underlying3 (hval 3 3 v3 rfl rfl) h3
  obtain ⟨ext, rfl, rfl, rfl⟩ := open_bool Tryz.underlying4 (hval 4 4 v4 rfl rfl) h4
  clear hA0
  simp only [List.append_nil] at hW'
  obtain ⟨⟨S, hgl, hn⟩, hpw, h24⟩ := Frm.glbP hL hsh
  have walk := Rt.limits_spec (E := fun _ _ => False) (R := fun v h' => v = .bool true ∧ Fm W.heap.size W.heap.size W.heap h') (x0 := x0) (x1 := x1) (x2 := x2) (x3 := x3) (ext := ext) hgl hn hpw h24 (fun h' f => ⟨rfl, f⟩) W rfl
  refine walk.mono fun e W' he => ?_
  cases e with
  | returned v =>
    obtain ⟨hsame, rfl, f⟩ := he
    have fk : ∀ k, k < W.heap.size → W'.heap[k]? = W.heap[k]? := fun k hk => f.same k hk (by omega)
    refine ⟨_, rfl, Frm.post_old (pa := ([] : List MemPlace) ++ ([] ++ ([] ++ ([] ++ ([] ++ []))))) (pv := []) hW' (fun _ _ _ => trodAll_cons_mk (shut_bool Tryz.underlying4 _) trodAll_mk0) (fun sp hsp => ?_) (fun _ _ => rfl) (by simp)
      (Frm.kept hsame fk _) (fun b off hp => Frm.frozen_at fk (hW'.lt _ hp)) (ok_one (by kernel_rfl) rfl (okWide_bool_mk Tryz.underlying4 _))⟩
    refine Frm.again (fun t ht => ?_) hA1 (fun x hx => Frm.same_at fk (hW'.lt _ (by simp at hx))) (fun x hx => hsp x (by simp at hx))
    rw [Tryz.params7] at ht
    have ht : t = 3 ∨ t = 4 := by simpa using ht
    rcases ht with rfl | rfl
    · exact ⟨by kernel_rfl, of_decide_eq_true (by kernel_rfl)⟩
    · exact ⟨by kernel_rfl, of_decide_eq_true (by kernel_rfl)⟩
  | panicked c => exact he.2.elim
  | outgrown => exact he.elim

theorem reads (os : Os) {H : Type} (enc : TypeId × Value → H) : ∃ places, DataW.whole enc Tryz.prog ((World.doorLaid Tryz.prog 430 os).forCall (fun _ _ => 0) ⟨#[], #[.int .i64 0, .int .i64 0, .int .i64 0, .int .i64 0, .bool false], []⟩).memory Tryz.f7.params.toList (OpenSpec.ofChange Rows.retextLimitsSpec).vars false #[Value.int .i64 0, .int .i64 0, .int .i64 0, .int .i64 0, .bool false].toList 8 = some ([.lit (.int .i64 0), .lit (.int .i64 0), .lit (.int .i64 0), .lit (.int .i64 0), .lit (.bool false)], [], places) :=
  ⟨[], by kernel_rfl⟩
theorem lifted (os : Os) (started : os.Started) (H : Type) (enc : TypeId × Value → H) (F : Stop.Interp) :
    ReturnsInHanded {} Tryz.checked os 7 .any ((OpenSpec.ofChange Rows.retextLimitsSpec).preRow enc Tryz.prog Tryz.f7 Rows.retextLimitsRow.domain false Rows.retextLimitsRow.laid) (((OpenSpec.ofChange Rows.retextLimitsSpec).at F).post enc Tryz.prog Tryz.f7 false true false false) := by
  obtain ⟨places, hx⟩ := reads os enc
  have eL : Rows.retextLimitsRow.laid = Frm.laidP := by kernel_rfl
  rw [eL]
  refine returnsInHanded_of_row (C := Tryz.checked) (s := OpenSpec.ofChange Rows.retextLimitsSpec) Frm.own started (by kernel_rfl) Tryz.func7
    (witness_row_atRef (enc := enc) (C := Tryz.checked) false (World.doorLaid Tryz.prog 430 os) #[.int .i64 0, .int .i64 0, .int .i64 0, .int .i64 0, .bool false] rfl (by kernel_rfl) (by kernel_rfl) (by kernel_rfl)
      (OpenSpec.preRow_of_cond 8 hx (by kernel_rfl) (fun k hk => by cases hk) (by kernel_rfl) (Frm.door_metP os _))) ?_
  intro W base args ds gs before hval hW _ _ _ hL hsh _
  exact contract H enc W base args ds gs before hval hW hL hsh
theorem said : Rows.RetextLimitsSaid :=
  OpenClaim.holds_of_cond 7 Tryz.f7 rfl rfl rfl rfl rfl rfl rfl ⟨rfl, rfl, rfl, rfl, rfl⟩ rfl rfl rfl rfl rfl (by kernel_rfl) Tryz.func7 (by kernel_rfl)
    (of_decide_eq_true (by kernel_rfl)) (by unfold Func.isWrapper; first | (rw [if_pos (by decide +kernel)]; kernel_rfl) | (rw [if_neg (by decide +kernel)]; exact ⟨rfl, rfl⟩))
    (fun os started H enc _ F => by rw [OpenClaim.pre_eq_preRow]; exact lifted os started H enc F)
theorem plain (f : FuncId) (fn : Func) (hf : Tryz.pinned.checked.prog.funcNamed "pidgin/pidginlaw8.RetextLimits" = some f) (hfn : Tryz.pinned.checked.prog.funcs[f]? = some fn) :
    true = Tryz.pinned.checked.prog.looks [] ∧ ∀ (j : Nat) t, fn.params[j]? = some t → Tryz.pinned.checked.prog.wantsStandIn t = false := by
  obtain rfl : f = 7 := Option.some.inj ((show Tryz.prog.funcNamed "pidgin/pidginlaw8.RetextLimits" = some 7 by kernel_rfl).symm.trans hf) |>.symm
  obtain rfl : fn = Tryz.f7 := (Option.some.inj (Tryz.func7.symm.trans hfn)).symm
  refine ⟨by kernel_rfl, fun j t ht => ?_⟩
  rw [Tryz.params7] at ht
  have ht : t = 3 ∨ t = 4 := by simpa using Array.mem_of_getElem? ht
  rcases ht with rfl | rfl
  · exact (show Tryz.prog.wantsStandIn 3 = false by kernel_rfl)
  · exact (show Tryz.prog.wantsStandIn 4 = false by kernel_rfl)
/-- THE CARD -/
theorem card : Rows.RetextLimitsCardSaid :=
  Claim7.holds_tied_plain_at .later [] _ _ _ _ said (fun _ h => by cases h) (by kernel_rfl) (fun _ h => by cases h) retextLimits_row_tie rfl ⟨rfl, rfl⟩ (by kernel_rfl) rfl plain (by kernel_rfl)
end lawLimits
end Go.Proofs.YthlncmkeccgfeaaGreatDoor
#print axioms Go.Proofs.YthlncmkeccgfeaaGreatDoor.lawLimits.card
