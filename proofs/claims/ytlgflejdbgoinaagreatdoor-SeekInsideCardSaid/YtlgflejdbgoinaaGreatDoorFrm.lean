/- A part of the proofs over this seat: Frm. -/
import Derived.Test.YtlgflejdbgoinaaGreatDoorSkT
import Derived.Test.YtlgflejdbgoinaaGreatDoorCards
import Derived.Test.YtlgflejdbgoinaaGreatDoorTie
import Derived.WalkKit
import Derived.ProofKit
import Derived.OpenShut
import Derived.JoinedCond
import Derived.Deep.DeepHandedRow
import Derived.Deep.Strs
import Derived.Deep.DeepWitnessRowRef
import Derived.LaidMore
import Derived.LaidHandle
import Derived.ChangeSlices
import Derived.WideKeyArgs
import Derived.Shelf.Vars
import Derived.Stop.LaidErr
set_option linter.unusedVariables false
set_option linter.unusedSimpArgs false
set_option maxRecDepth 100000
namespace Go.Proofs.YtlgflejdbgoinaaGreatDoor
open Go.Vcg Go.ChangeShapes Go.WideShapes Go.ChangeAt Go.RowKit
namespace Frm

theorem nd : ∀ {α : Type} {l : List α}, l.Nodup → ∀ (i j : Nat) (hi : i < l.length) (hj : j < l.length), l[i] = l[j] → i = j
  | _, [], _, i, _, hi, _, _ => by simp at hi
  | _, x :: l, h, i, j, hi, hj, e => by
    have h' := List.nodup_cons.1 h
    cases i with
    | zero => cases j with
      | zero => rfl
      | succ j =>
        simp only [List.getElem_cons_zero, List.getElem_cons_succ] at e
        exact absurd (e ▸ List.getElem_mem _) h'.1
    | succ i => cases j with
      | zero =>
        simp only [List.getElem_cons_zero, List.getElem_cons_succ] at e
        exact absurd (e ▸ List.getElem_mem _) h'.1
      | succ j =>
        simp only [List.getElem_cons_succ] at e
        rw [nd h'.2 i j _ _ e]

/-! ### The sentinels -/
def sents : List (String × List UInt8) := [("pidgin/fault.errArg", [97, 114, 103, 117, 109, 101, 110, 116]), ("pidgin/fault.errLong", [108, 111, 110, 103]), ("pidgin/fault.errSyntax", [115, 121, 110, 116, 97, 120]),
  ("pidgin/fault.errDeep", [100, 101, 101, 112]), ("pidgin/fault.errMany", [109, 97, 110, 121]), ("pidgin/fault.errNumber", [110, 117, 109, 98, 101, 114]), ("pidgin/fault.errRange", [114, 97, 110, 103, 101]), ("pidgin/fault.errBracket", [98, 114, 97, 99, 107, 101, 116]),
  ("pidgin/fault.errGroup", [103, 114, 111, 117, 112]), ("pidgin/fault.errEscape", [101, 115, 99, 97, 112, 101]), ("pidgin/fault.errStates", [115, 116, 97, 116, 101, 115]), ("pidgin/fault.errDivide", [100, 105, 118, 105, 100, 101]), ("pidgin/fault.errValue", [118, 97, 108, 117, 101]),
  ("pidgin/fault.errOperand", [111, 112, 101, 114, 97, 110, 100]), ("pidgin/fault.errName", [110, 97, 109, 101]), ("pidgin/fault.errFile", [102, 105, 108, 101]), ("pidgin/fault.errDir", [100, 105, 114]), ("pidgin/fault.errExists", [101, 120, 105, 115, 116, 115]),
  ("pidgin/fault.errFull", [102, 117, 108, 108]), ("pidgin/fault.errLabel", [108, 97, 98, 101, 108]), ("pidgin/fault.errFuel", [102, 117, 101, 108])]
def mk (x : String × List UInt8) : String × DataW Unit := (x.1, .iface "*errors.errorString" (.ptr (.agg [.lit (.string x.2)])))
/-- which global variable each is -/
def glob (i : Nat) : Nat := i + 1
theorem star : "*" ++ "errors.errorString" = "*errors.errorString" := by decide
theorem row194 (u : TypeId) (h : Tryz.prog.typeName? 3 u = some "*errors.errorString") : u = 194 :=
  typeName_ptr_named (nm := "errors.errorString") (by rw [star]; kernel_rfl) (by kernel_rfl) (by decide) u (by rw [star]; exact h)
theorem cells213 : Tryz.prog.cellsOf 213 = 1 := by kernel_rfl
theorem cells9 : Tryz.prog.cellsOf 9 = 1 := by kernel_rfl
/-- what the list of sentinels gives: each holds a pointer of its own -/
theorem opened {W : World} {more : List (String × DataW Unit)} : ∀ (l : List (String × List UInt8)) {ps : List MemPlace}, DataW.LaidVars Tryz.prog W (l.map mk ++ more) ps → ps.Nodup →
    (∀ b off, MemPlace.cell b off ∈ ps → (∃ c t, W.heap[b]? = some (.cells c t (0, 0))) ∧ ∀ u v, W.cell? ⟨b, off, none⟩ = some (.iface u v) → Value.okWide Tryz.prog W .any 0 u v) →
    (∀ x ∈ l, ∀ g, Tryz.prog.globalNamed x.1 = some g → (Tryz.prog.globals[g]?).map (·.type) = some 26) →
    ∃ ads : List Addr, ads.length = l.length ∧ ads.Nodup ∧ (∀ a ∈ ads, MemPlace.cell a.block a.off ∈ ps ∧ a.spot = none) ∧
      ∀ i (h : i < l.length) (h' : i < ads.length), W.var? Tryz.prog l[i].1 = some #[.iface 194 (.pointer (some ads[i]))] ∧ (∃ s, W.cell? ads[i] = some (.string s))
  | [], ps, _, _, _, _ => ⟨[], rfl, List.nodup_nil, fun a ha => by simp at ha, fun i h => by simp at h⟩
  | x :: l, ps, hv, hnd, hrows, hty => by
    obtain ⟨g, t, cs, fuel, p, q, hg, ht, hvar, hd, hrest, rfl⟩ := hv
    have ht26 : t = 26 := by
      have := hty x (List.mem_cons_self ..) g hg
      rw [this] at ht
      exact (Option.some.inj ht).symm
    subst ht26
    obtain ⟨l0⟩ := cs
    have ok0 : ∀ u v, l0 = [.iface u v] → Value.okWide Tryz.prog W .any 0 u v := fun u v e => by
      subst e
      exact (hrows g 0 (by simp [MemPlace.row])).2 u v (by simpa using World.var?_cell hg hvar 0)
    obtain ⟨a, s, rfl, hc, hs, hz, hp⟩ := errorString_of_trod Tryz.underlying26 row194 Tryz.underlying194 Tryz.underlying213 rfl rfl Tryz.underlying9 cells213 cells9 hd ok0
    subst hp
    obtain ⟨ads, hl, hn, hin, hall⟩ := opened l hrest (List.nodup_append.1 hnd).2.1 (fun b off hm => hrows b off (List.mem_append_right _ hm)) (fun y hy => hty y (List.mem_cons_of_mem _ hy))
    have hsp : a.spot = none := World.cell?_spot hc
    refine ⟨a :: ads, by simp [hl], ?_, ?_, ?_⟩
    · refine List.nodup_cons.2 ⟨fun hm => ?_, hn⟩
      have := (List.nodup_append.1 hnd).2.2 (MemPlace.cell a.block a.off) (by simp [MemPlace.row]) (MemPlace.cell a.block a.off) (hin a hm).1
      exact this rfl
    · intro c hc'
      rcases List.mem_cons.1 hc' with rfl | hm
      · exact ⟨by simp [MemPlace.row], hsp⟩
      · exact ⟨List.mem_append_right _ (hin c hm).1, (hin c hm).2⟩
    · intro i hi hi'
      cases i with
      | zero => exact ⟨hvar, s, hc⟩
      | succ i => exact hall i (by simpa using hi) (by simpa using hi')

def err0 : String × DataW Unit := ("errors.errorType", Rows.laid_errors_errorType)
def laidA : List (String × DataW Unit) := err0 :: sents.map mk
/-- which global variable each is: what the tables say -/
theorem named {W : World} {more : List (String × DataW Unit)} (h : laidMet Tryz.prog (sents.map mk ++ more) W) : ∃ ads : List Addr, ads.length = 21 ∧ ads.Nodup ∧ (∀ a ∈ ads, a.spot = none ∧ ∃ c t, W.heap[a.block]? = some (.cells c t (0, 0))) ∧
    ∀ i (hi : i < ads.length), W.cell? ⟨glob i, 0, none⟩ = some (.iface 194 (.pointer (some ads[i]))) := by
  obtain ⟨ps, h1, h2, h3⟩ := h
  have hg : ∀ i (hi : i < sents.length), Tryz.prog.globalNamed sents[i].1 = some (glob i) := by
    intro i hi
    have hi' : i < 21 := hi
    have : ((List.range 21).all fun i => Tryz.prog.globalNamed (((sents[i]?).map (·.1)).getD (sents[0]).1) == some (glob i)) = true := by kernel_rfl
    have := List.all_eq_true.1 this i (List.mem_range.2 hi')
    rw [List.getElem?_eq_getElem hi] at this
    simpa using this
  have ht : ∀ x ∈ sents, ∀ g, Tryz.prog.globalNamed x.1 = some g → (Tryz.prog.globals[g]?).map (·.type) = some 26 := by
    intro x hx g hgx
    obtain ⟨i, hi, rfl⟩ := List.mem_iff_getElem.1 hx
    rw [hg i hi] at hgx
    obtain rfl := Option.some.inj hgx
    have hi' : i < 21 := hi
    have : ((List.range 21).all fun i => (Tryz.prog.globals[glob i]?).map (·.type) == some 26) = true := by kernel_rfl
    have := List.all_eq_true.1 this i (List.mem_range.2 hi')
    simpa using this
  obtain ⟨ads, hl, hn, hin, hall⟩ := opened sents h1 h2 h3 ht
  have hl21 : ads.length = 21 := hl
  refine ⟨ads, hl21, hn, fun a ha => ⟨(hin _ ha).2, (h3 _ _ (hin _ ha).1).1⟩, fun i hi => ?_⟩
  have hi' : i < sents.length := by rw [← hl]; exact hi
  have := World.var?_cell (hg i hi') (hall i hi' hi).1 0
  simpa using this
theorem et : Tryz.prog.globalNamed "errors.errorType" = some 0 := by kernel_rfl
theorem rt : (Tryz.prog.cutTypes.find? (·.1 == "internal/reflectlite.rtype")).map (·.2) = some 101 := by kernel_rfl
theorem oneRow : ((List.range 225).filter fun t => Tryz.prog.rowNamed t [101, 114, 114, 111, 114]) = [26] := by kernel_rfl
theorem tsize : Tryz.prog.types.size = 225 := by kernel_rfl
theorem handle {W : World} (h : handlesMet Tryz.prog [err0] W) : W.cell? ⟨0, 0, none⟩ = some (.iface 101 (.agg #[.pointer (some ⟨26, 26, none⟩)])) := by
  obtain ⟨name, u, ty, e1, e2, e3, e4, e5⟩ := h _ (List.mem_singleton.2 rfl)
  have en : name = [101, 114, 114, 111, 114] := (Option.some.inj e1).symm
  subst en
  obtain rfl := Option.some.inj (rt.symm.trans e2)
  have hm : ty ∈ (List.range 225).filter fun t => Tryz.prog.rowNamed t [101, 114, 114, 111, 114] := List.mem_filter.2 ⟨List.mem_range.2 (by rw [← tsize]; exact e3), e4⟩
  rw [oneRow] at hm
  obtain rfl := List.mem_singleton.1 hm
  have hh : typeHandle Tryz.prog 26 = .pointer (some ⟨26, 26, none⟩) := by kernel_rfl
  rw [hh] at e5
  simpa using World.var?_cell et e5 0
theorem maxLen_cell {W : World} (h : W.ShapedOpen Tryz.prog) : ∃ m, W.cell? ⟨23, 0, none⟩ = some (.int .i64 m) :=
  cell_of_shapedOpen_int (zero := #[.int .i64 0]) (t := 3) h (of_decide_eq_true (by kernel_rfl)) (by kernel_rfl) rfl (by kernel_rfl) (by kernel_rfl) Tryz.underlying3
theorem size26 {W : World} (h : W.ShapedOpen Tryz.prog) : 26 ≤ W.heap.size := by
  obtain ⟨zero, t, h0⟩ : ∃ zero t, ((begin Tryz.prog (fun _ _ => 0) default).world.heap[25]?).bind Obj.row? = some (zero, t) := ⟨_, _, rfl⟩
  obtain ⟨cs, hh, _⟩ := h.1 25 zero t (of_decide_eq_true (by kernel_rfl)) h0
  have := at_lt hh
  omega
/-- the globals, as the walks have them -/
def gl (ads : List Addr) (i : Nat) : Value := .iface 194 (.pointer (some (ads.getD (i - 1) ⟨0, 0, none⟩)))
theorem glb {W : World} {more : List (String × DataW Unit)} (hm : laidMet Tryz.prog (sents.map mk ++ more) W) (hh : handlesMet Tryz.prog [err0] W) (hs : W.ShapedOpen Tryz.prog) : ∃ S : Rt.Glb, Rt.Gl S W.heap ∧ S.N ≤ W.heap.size := by
  obtain ⟨ads, hl, hn, hall, h⟩ := named hm
  have idx : ∀ i, i < 22 → i ≠ 0 → (i - 1) < ads.length := fun i hi h10 => by omega
  have val : ∀ i (hi : i < 22) (h10 : i ≠ 0), gl ads i = .iface 194 (.pointer (some (ads[i - 1]'(idx i hi h10)))) := by
    intro i hi h10
    unfold gl
    rw [List.getD_eq_getElem?_getD, List.getElem?_eq_getElem (idx i hi h10)]
    rfl
  refine ⟨⟨gl ads, W.heap.size⟩, ⟨size26 hs, fun i hi h10 => ?_, fun i j hi hi10 hj hj10 e => ?_, ?_, ?_⟩, Nat.le_refl _⟩
  · have hj := idx i hi h10
    have := h _ hj
    have e : glob (i - 1) = i := by
      unfold glob
      omega
    rw [e, ← val i hi h10] at this
    obtain ⟨hsp, c, t, hc⟩ := hall _ (List.getElem_mem hj)
    exact ⟨this, _, val i hi h10, at_lt hc, c, t, hc⟩
  · simp only at e
    rw [val i hi hi10, val j hj hj10] at e
    have e := nd hn _ _ (idx i hi hi10) (idx j hj hj10) (by injection e with _ e; injection e with e; injection e)
    omega
  · exact handle hh
  · exact maxLen_cell hs

/-! ### A slice of strings that is handed in -/
theorem cells9' : Tryz.prog.cellsOf 9 = 1 := by kernel_rfl
theorem laidOut : laidOutB Tryz.prog = true := by kernel_rfl
theorem open_ops {H : Type} {enc : TypeId × Value → H} {W : World} {base : Nat} {v : Value} {d : DataW H} {p : List MemPlace} (hv : Value.okWide Tryz.prog W .any base 22 v) (h0 : DataW.Trod enc Tryz.prog W 0 (fun _ => true) true 22 v d p) :
    ∃ l : List (List UInt8), Rt.IsOps W.heap v l ∧ (∀ b o m c, v = .slice (some ⟨b, o, none⟩) m c → b < W.heap.size) ∧ l.length ≤ maxLen := by
  obtain ⟨a0, len0, cap0, rfl⟩ := okWide_slice Tryz.underlying22 hv
  have hplace : ∀ a, a0 = some a → a.spot = none ∧ a.block < W.heap.size := by
    rintro a rfl
    have hv' : Cell.ok Tryz.prog W .any base 22 (.slice (some a) len0 cap0) := by
      unfold Value.okWide at hv
      rw [Tryz.underlying22] at hv
      unfold Cell.okWide at hv
      rw [Tryz.underlying22] at hv
      exact hv
    unfold Cell.ok at hv'
    rw [Tryz.underlying22] at hv'
    obtain ⟨_, _, _, hsp, row, cells, hsh, _⟩ := hv'
    refine ⟨hsp, ?_⟩
    rcases Nat.lt_or_ge a.block W.heap.size with h | h
    · exact h
    · rw [World.shape?, Array.getElem?_eq_none h] at hsh
      cases hsh
  obtain ⟨fuel, hf⟩ := h0
  rcases Go.Deep.open_strs Tryz.underlying22 Tryz.underlying9 cells9' hf with ⟨hcs, hx⟩ | ⟨a, len', cap', m, Sx, hcs, _, hl, hm, hmm, hx, hcell⟩
  · simp [Value.cells] at hcs
    obtain ⟨rfl, rfl, rfl⟩ := hcs
    exact ⟨[], .inl ⟨rfl, rfl⟩, fun b o m c e => (by cases e), by simp⟩
  · simp [Value.cells] at hcs
    obtain ⟨rfl, rfl, rfl⟩ := hcs
    obtain ⟨hsp, hlt⟩ := hplace a rfl
    obtain ⟨b, o, s⟩ := a
    simp only at hsp hlt
    subst hsp
    simp only [if_true] at hmm
    refine ⟨(List.range len0).map fun i => (Sx i).data.toList, .inr ⟨b, o, cap0, by simp, by simpa using hl, hlt, ?_⟩, fun b' o' m c e => by injection e with e; injection e with e; injection e with e; omega, by simp; omega⟩
    intro i hi
    have hi' : i < len0 := by simpa using hi
    have := (hcell i (by omega)).1
    rw [addr_add] at this
    rw [← cell_eq]
    refine this.trans ?_
    simp [Vcg.str]

/-- what was read reads so again -/
theorem again {H : Type} {enc : TypeId × Value → H} {W W' : World} {sp : Nat → Bool} : ∀ {ts : List TypeId} {vs : List Value} {ds : List (DataW H)} {p : List MemPlace}, (∀ t ∈ ts, Tryz.prog.readableRec t = true ∧ t < Tryz.prog.types.size) →
    DataW.TrodAll enc Tryz.prog W 0 (fun _ => true) true ts vs ds p → (∀ x ∈ p, W.sameAt W' x) → (∀ x ∈ p, sp x.block = true) → DataW.TrodAll enc Tryz.prog W' 0 sp true ts vs ds p
  | [], vs, ds, p, ht, h, hs, hp => by
    cases vs with
    | nil =>
      obtain ⟨_, rfl, rfl⟩ := trodAll_nil h
      exact trodAll_mk0
    | cons v vs => cases (trodAll_nil h).1
  | t :: ts, vs, ds, p, ht, h, hs, hp => by
    cases vs with
    | nil =>
      obtain ⟨v0, vs0, d0, ds0, p0, q0, e, _⟩ := trodAll_cons h
      cases e
    | cons v vs =>
      obtain ⟨v0, vs0, d0, ds0, p0, q0, e, rfl, rfl, h0, r0⟩ := trodAll_cons h
      injection e with e1 e2
      subst e1 e2
      have h1 := ht t (List.mem_cons_self ..)
      exact trodAll_cons_mk (WideElems.Trod_stays laidOut h1.1 h1.2 h0 (fun x hx => hs x (List.mem_append_left _ hx)) (fun x hx => hp x (List.mem_append_left _ hx)))
        (again (fun u hu => ht u (List.mem_cons_of_mem _ hu)) r0 (fun x hx => hs x (List.mem_append_right _ hx)) (fun x hx => hp x (List.mem_append_right _ hx)))
theorem same_at {W W' : World} (f : ∀ k, k < W.heap.size → W'.heap[k]? = W.heap[k]?) {x : MemPlace} (hx : x.block < W.heap.size) : W.sameAt W' x := by
  cases x with
  | cell b o => exact World.cell?_of_block (w := W) (f b hx)
  | map b => exact f b hx
theorem frozen_at {W W' : World} (f : ∀ k, k < W.heap.size → W'.heap[k]? = W.heap[k]?) {b off : Nat} (hb : b < W.heap.size) : W'.frozen? ⟨b, off, none⟩ = W.frozen? ⟨b, off, none⟩ := by
  unfold World.frozen?
  rw [f b hb]
/-! ### The frame of a statement -/
theorem post_old {H : Type} {enc : TypeId × Value → H} {P : Program} {f : Func} {s : ChangeSpec} {apart fresh handsOn again : Bool} {W W' : World} {args : Array Value} {v : Value} {ds gs : List (DataW H)} {before pa pv : List MemPlace}
    (hW : DataW.Whole enc P f.params.toList s.vars apart W args.toList ds gs before)
    (hres : ∀ (b : Nat) (sp : Nat → Bool) (hd : Bool), DataW.TrodAll enc P W' b sp hd f.resultTypes.toList (v.resultList f.resultTypes.size) (s.fn H (ds ++ gs)).results [])
    (hargs : ∀ sp : Nat → Bool, (∀ p ∈ before, sp p.block = true) → DataW.TrodAll enc P W' 0 sp true f.params.toList args.toList (s.fn H (ds ++ gs)).args pa)
    (hvars : ∀ sp : Nat → Bool, (∀ p ∈ before, sp p.block = true) → DataW.TrodVars enc P W' sp s.vars (s.fn H (ds ++ gs)).vars pv)
    (hps : before = pa ++ pv) (hk : W.keptBut W' (· ∈ before)) (hfz : ∀ b off, MemPlace.cell b off ∈ before → W'.frozen? ⟨b, off, none⟩ = W.frozen? ⟨b, off, none⟩)
    (hok : ∀ (j : Nat) (t : TypeId) (r : Value), f.resultTypes[j]? = some t → (v.resultList f.resultTypes.size)[j]? = some r → Value.okWide P W' .any 0 t r) :
    s.post enc P f apart fresh handsOn again W args v W' := by
  have hold : ∀ p ∈ before, (fun b => decide (b < W.heap.size)) p.block = true := fun p hp => by simpa using hW.lt p hp
  refine ⟨ds, gs, before, [], pa, pv, hW, hres _ _ _, hargs _ hold, hvars _ hold, World.keptBut_mono (fun p hp => ⟨hp, ?_⟩) hk, fun _ => ?_⟩
  · rw [hps, List.mem_append] at hp
    exact Or.inr hp
  · obtain ⟨_, _, _, _, _, hz, hn⟩ := hW
    refine ⟨hok, _, _, ([] ++ pa) ++ pv, ⟨[] ++ pa, pv, trodAll_append (hargs _ (fun _ _ => rfl)) (hres _ _ _), hvars _ (fun _ _ => rfl), rfl, ?_, ?_⟩, ?_⟩
    · intro b off hp
      have hp' : MemPlace.cell b off ∈ before := by rw [hps]; simpa using hp
      rw [hfz b off hp']
      exact hz b off hp'
    · intro ha
      have := hn ha
      rw [hps] at this
      simpa using this
    · intro p hp _
      rw [hps]
      simpa using hp
/-- all that was there is there -/
theorem kept {W W' : World} (hs : Same W W') (f : ∀ k, k < W.heap.size → W'.heap[k]? = W.heap[k]?) (may : MemPlace → Prop) : W.keptBut W' may := by
  refine ⟨hs.os, hs.output, fun i hi => ?_⟩
  rw [f i hi]
  generalize W.heap[i]? = o
  cases o with
  | none => rfl
  | some o => cases o <;> simp
theorem own : ownKnob Tryz.prog.godebug = none := by kernel_rfl
/-- a start for the witness -/
theorem door_met (os : Os) (args : Array Value) : laidMetH Tryz.prog laidA ((World.doorLaid Tryz.prog 430 os).forCall (fun _ _ => 0) ⟨#[], args, []⟩).memory :=
  laidMetH_of_parts (laidMet_of_run' 8 (by kernel_rfl) (by kernel_rfl)) (by kernel_rfl)
end Frm
end Go.Proofs.YtlgflejdbgoinaaGreatDoor
