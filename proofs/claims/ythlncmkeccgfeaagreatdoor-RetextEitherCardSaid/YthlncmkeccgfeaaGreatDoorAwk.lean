/- A part of the proofs over this seat: Awk. -/
import Derived.Test.YthlncmkeccgfeaaGreatDoorQLaw
set_option linter.unusedVariables false
set_option linter.unusedSimpArgs false
set_option maxRecDepth 100000
namespace Go.Proofs
open Go.Vcg
namespace Rt
def awakeText : List UInt8 := [40, 97, 124, 98, 41, 43]
def awakeTree : T := .node 6 .zero 1 (-1) 0 [.node 7 .zero 0 0 1 [.node 5 .zero 0 0 0 [single 97, single 98]]]
theorem awake_model : wholeM 20 awakeText true = .ok (awakeTree, 6, 1) := by
  with_unfolding_all rfl
end Rt
end Go.Proofs
