/- A part of the proofs over this seat: Frm. -/
import Derived.Test.YthlncmkeccgfeaaGreatDoorLaw3
import Derived.Test.YthlncmkeccgfeaaGreatDoorCards
import Derived.Test.YthlncmkeccgfeaaGreatDoorTie
import Derived.WalkKit
import Derived.ProofKit
import Derived.OpenShut
import Derived.JoinedCond
import Derived.Deep.DeepHandedRow
import Derived.Deep.DeepWitnessRowRef
import Derived.LaidMore
import Derived.Stop.LaidErr
set_option linter.unusedVariables false
set_option linter.unusedSimpArgs false
set_option maxRecDepth 100000
namespace Go.Proofs.YthlncmkeccgfeaaGreatDoor
open Go.Vcg Go.ChangeShapes Go.WideShapes Go.ChangeAt Go.RowKit
namespace Frm

/-! ### The sentinels -/
def sents : List (String × List UInt8) := [("pidgin/fault.errArg", [97, 114, 103, 117, 109, 101, 110, 116]), ("pidgin/fault.errLong", [108, 111, 110, 103]), ("pidgin/fault.errSyntax", [115, 121, 110, 116, 97, 120]),
  ("pidgin/fault.errDeep", [100, 101, 101, 112]), ("pidgin/fault.errMany", [109, 97, 110, 121]), ("pidgin/fault.errNumber", [110, 117, 109, 98, 101, 114]), ("pidgin/fault.errRange", [114, 97, 110, 103, 101]), ("pidgin/fault.errBracket", [98, 114, 97, 99, 107, 101, 116]),
  ("pidgin/fault.errGroup", [103, 114, 111, 117, 112]), ("pidgin/fault.errEscape", [101, 115, 99, 97, 112, 101]), ("pidgin/fault.errStates", [115, 116, 97, 116, 101, 115]), ("pidgin/fault.errDivide", [100, 105, 118, 105, 100, 101]), ("pidgin/fault.errValue", [118, 97, 108, 117, 101]),
  ("pidgin/fault.errOperand", [111, 112, 101, 114, 97, 110, 100]), ("pidgin/fault.errName", [110, 97, 109, 101]), ("pidgin/fault.errFile", [102, 105, 108, 101]), ("pidgin/fault.errDir", [100, 105, 114]), ("pidgin/fault.errExists", [101, 120, 105, 115, 116, 115]),
  ("pidgin/fault.errFull", [102, 117, 108, 108]), ("pidgin/fault.errLabel", [108, 97, 98, 101, 108]), ("pidgin/fault.errFuel", [102, 117, 101, 108])]
def mk (x : String × List UInt8) : String × DataW Unit := (x.1, .iface "*errors.errorString" (.ptr (.agg [.lit (.string x.2)])))
/-- which global variable each is -/
def glob (i : Nat) : Nat := if i < 10 then i else i + 1
theorem data {W : World} (h : laidMetH Tryz.prog Rows.retextBackRow.laid W) : laidMet Tryz.prog (sents.map mk) W := by
  have e : Rows.retextBackRow.laid = ("errors.errorType", Rows.laid_errors_errorType) :: sents.map mk := by kernel_rfl
  rw [e] at h
  exact h.1
theorem star : "*" ++ "errors.errorString" = "*errors.errorString" := by decide
theorem row199 (u : TypeId) (h : Tryz.prog.typeName? 3 u = some "*errors.errorString") : u = 199 :=
  typeName_ptr_named (nm := "errors.errorString") (by rw [star]; kernel_rfl) (by kernel_rfl) (by decide) u (by rw [star]; exact h)
theorem cells217 : Tryz.prog.cellsOf 217 = 1 := by kernel_rfl
theorem cells9 : Tryz.prog.cellsOf 9 = 1 := by kernel_rfl
/-- what the list of sentinels gives: each holds a pointer of its own -/
theorem opened {W : World} : ∀ (l : List (String × List UInt8)) {ps : List MemPlace}, DataW.LaidVars Tryz.prog W (l.map mk) ps → ps.Nodup →
    (∀ b off, MemPlace.cell b off ∈ ps → (∃ c t, W.heap[b]? = some (.cells c t (0, 0))) ∧ ∀ u v, W.cell? ⟨b, off, none⟩ = some (.iface u v) → Value.okWide Tryz.prog W .any 0 u v) →
    (∀ x ∈ l, ∀ g, Tryz.prog.globalNamed x.1 = some g → (Tryz.prog.globals[g]?).map (·.type) = some 26) →
    ∃ ads : List Addr, ads.length = l.length ∧ ads.Nodup ∧ (∀ a ∈ ads, MemPlace.cell a.block a.off ∈ ps ∧ a.spot = none) ∧
      ∀ i (h : i < l.length) (h' : i < ads.length), W.var? Tryz.prog l[i].1 = some #[.iface 199 (.pointer (some ads[i]))] ∧ (∃ s, W.cell? ads[i] = some (.string s))
  | [], ps, _, _, _, _ => ⟨[], rfl, List.nodup_nil, fun a ha => by simp at ha, fun i h => by simp at h⟩
  | x :: l, ps, hv, hnd, hrows, hty => by
    obtain ⟨g, t, cs, fuel, p, q, hg, ht, hvar, hd, hrest, rfl⟩ := hv
    have ht26 : t = 26 := by
      have := hty x (List.mem_cons_self ..) g hg
      rw [this] at ht
      exact (Option.some.inj ht).symm
    subst ht26
    obtain ⟨l0⟩ := cs
    have ok0 : ∀ u v, l0 = [.iface u v] → Value.okWide Tryz.prog W .any 0 u v := fun u v e => by
      subst e
      exact (hrows g 0 (by simp [MemPlace.row])).2 u v (by simpa using World.var?_cell hg hvar 0)
    obtain ⟨a, s, rfl, hc, hs, hz, hp⟩ := errorString_of_trod Tryz.underlying26 row199 Tryz.underlying199 Tryz.underlying217 rfl rfl Tryz.underlying9 cells217 cells9 hd ok0
    subst hp
    obtain ⟨ads, hl, hn, hin, hall⟩ := opened l hrest (List.nodup_append.1 hnd).2.1 (fun b off hm => hrows b off (List.mem_append_right _ hm)) (fun y hy => hty y (List.mem_cons_of_mem _ hy))
    have hsp : a.spot = none := World.cell?_spot hc
    refine ⟨a :: ads, by simp [hl], ?_, ?_, ?_⟩
    · refine List.nodup_cons.2 ⟨fun hm => ?_, hn⟩
      have := (List.nodup_append.1 hnd).2.2 (MemPlace.cell a.block a.off) (by simp [MemPlace.row]) (MemPlace.cell a.block a.off) (hin a hm).1
      exact this rfl
    · intro c hc'
      rcases List.mem_cons.1 hc' with rfl | hm
      · exact ⟨by simp [MemPlace.row], hsp⟩
      · exact ⟨List.mem_append_right _ (hin c hm).1, (hin c hm).2⟩
    · intro i hi hi'
      cases i with
      | zero => exact ⟨hvar, s, hc⟩
      | succ i => exact hall i (by simpa using hi) (by simpa using hi')
theorem gl_of {W : World} (h : laidMetH Tryz.prog Rows.retextBackRow.laid W) : ∃ ads : List Addr, ads.length = 21 ∧ ads.Nodup ∧ (∀ a ∈ ads, a.spot = none ∧ (∃ s, W.cell? a = some (.string s)) ∧ ∃ c t, W.heap[a.block]? = some (.cells c t (0, 0))) ∧
    ∀ i (hi : i < ads.length), W.cell? ⟨glob i, 0, none⟩ = some (.iface 199 (.pointer (some ads[i]))) := by
  obtain ⟨ps, h1, h2, h3⟩ := data h
  have hg : ∀ i (hi : i < sents.length), Tryz.prog.globalNamed sents[i].1 = some (glob i) := by
    intro i hi
    have hi' : i < 21 := hi
    have : ((List.range 21).all fun i => Tryz.prog.globalNamed (((sents[i]?).map (·.1)).getD (sents[0]).1) == some (glob i)) = true := by kernel_rfl
    have := List.all_eq_true.1 this i (List.mem_range.2 hi')
    rw [List.getElem?_eq_getElem hi] at this
    simpa using this
  have ht : ∀ x ∈ sents, ∀ g, Tryz.prog.globalNamed x.1 = some g → (Tryz.prog.globals[g]?).map (·.type) = some 26 := by
    intro x hx g hgx
    obtain ⟨i, hi, rfl⟩ := List.mem_iff_getElem.1 hx
    rw [hg i hi] at hgx
    obtain rfl := Option.some.inj hgx
    have hi' : i < 21 := hi
    have : ((List.range 21).all fun i => (Tryz.prog.globals[glob i]?).map (·.type) == some 26) = true := by kernel_rfl
    have := List.all_eq_true.1 this i (List.mem_range.2 hi')
    simpa using this
  obtain ⟨ads, hl, hn, hin, hall⟩ := opened sents h1 h2 h3 ht
  have hl21 : ads.length = 21 := hl
  refine ⟨ads, hl21, hn, fun a ha => ?_, fun i hi => ?_⟩
  · obtain ⟨i, hi, rfl⟩ := List.mem_iff_getElem.1 ha
    exact ⟨(hin _ ha).2, (hall i (by rw [← hl]; exact hi) hi).2, (h3 _ _ (hin _ ha).1).1⟩
  · have hi' : i < sents.length := by rw [← hl]; exact hi
    have := World.var?_cell (hg i hi') (hall i hi' hi).1 0
    simpa using this
end Frm
end Go.Proofs.YthlncmkeccgfeaaGreatDoor
