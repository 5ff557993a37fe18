/-
  DERIVED. GIVEN WITH THE SEED: THE CARDS: each row of YtlgflejdbgoinaaGreatDoorRows.lean that lists a variable, with what it lists TIED to the program's text (the seventh form; the later family's looks); each row that meets fmt, with fmt's text TOLD by the authors' own Lean function (tested against real Go, not proved from fmt's source: count such statements apart). THE CARD IS WHAT COUNTS. Prove the row's statement (the work); the ties are given (YtlgflejdbgoinaaGreatDoorTie.lean); close each card by the builder's one call (the guide's Derived/Test/ToyasCard.lean, 'card_holds'). Laid BY PROGRAM, IN A SANDBOX (cutbox-door.mjs). By AI agents, Wed Nov 11 2026. No macro, syntax, notation, axiom, sorry.
-/
import Derived.Test.YtlgflejdbgoinaaGreatDoorRows
import GoSem.ClaimSeven
namespace Go.Proofs.YtlgflejdbgoinaaGreatDoor
namespace Rows

/-- THE TIED CARD OF 'pidginlaw22.SeekInside'. -/
def seekInsideCard : Claim7 := { stood := { row := seekInsideRow, standIns := [], harness := (true, "ed473cab0528ca5b5dbb6b7826d5853b58de76d9550c7f18f59f2361cea16d45"), looks := true }, kinds := [], alts := [], laidByText := true, laidKinds := [.handle, .sentinel, .sentinel, .sentinel, .sentinel, .sentinel, .sentinel, .sentinel, .sentinel, .sentinel, .sentinel, .sentinel, .sentinel, .sentinel, .sentinel, .sentinel, .sentinel, .sentinel, .sentinel, .sentinel, .sentinel, .sentinel], laidTests := true, laidLooks := .later }
def SeekInsideCardSaid : Prop := Claim7.holds Tryz.pinned (.plain (OpenSpec.ofChange seekInsideSpec)) seekInsideCard

/-- THE TIED CARD OF 'pidginlaw22.SeekStrengths'. -/
def seekStrengthsCard : Claim7 := { stood := { row := seekStrengthsRow, standIns := [], harness := (true, "ed473cab0528ca5b5dbb6b7826d5853b58de76d9550c7f18f59f2361cea16d45"), looks := true }, kinds := [], alts := [], laidByText := true, laidKinds := [.handle, .sentinel, .sentinel, .sentinel, .sentinel, .sentinel, .sentinel, .sentinel, .sentinel, .sentinel, .sentinel, .sentinel, .sentinel, .sentinel, .sentinel, .sentinel, .sentinel, .sentinel, .sentinel, .sentinel, .sentinel, .sentinel], laidTests := true, laidLooks := .later }
def SeekStrengthsCardSaid : Prop := Claim7.holds Tryz.pinned (.plain (OpenSpec.ofChange seekStrengthsSpec)) seekStrengthsCard

/-- THE TIED CARD OF 'pidginlaw22.SeekNumbers'. -/
def seekNumbersCard : Claim7 := { stood := { row := seekNumbersRow, standIns := [], harness := (true, "ed473cab0528ca5b5dbb6b7826d5853b58de76d9550c7f18f59f2361cea16d45"), looks := true }, kinds := [], alts := [], laidByText := true, laidKinds := [.handle, .sentinel, .sentinel, .sentinel, .sentinel, .sentinel, .sentinel, .sentinel, .sentinel, .sentinel, .sentinel, .sentinel, .sentinel, .sentinel, .sentinel, .sentinel, .sentinel, .sentinel, .sentinel, .sentinel, .sentinel, .sentinel], laidTests := true, laidLooks := .later }
def SeekNumbersCardSaid : Prop := Claim7.holds Tryz.pinned (.plain (OpenSpec.ofChange seekNumbersSpec)) seekNumbersCard

/-- THE TIED CARD OF 'pidginlaw22.SeekNil'. -/
def seekNilCard : Claim7 := { stood := { row := seekNilRow, standIns := [], harness := (true, "ed473cab0528ca5b5dbb6b7826d5853b58de76d9550c7f18f59f2361cea16d45"), looks := true }, kinds := [], alts := [], laidByText := true, laidKinds := [.handle, .sentinel, .sentinel, .sentinel, .sentinel, .sentinel, .sentinel, .sentinel, .sentinel, .sentinel, .sentinel, .sentinel, .sentinel, .sentinel, .sentinel, .sentinel, .sentinel, .sentinel, .sentinel, .sentinel, .sentinel, .sentinel], laidTests := true, laidLooks := .later }
def SeekNilCardSaid : Prop := Claim7.holds Tryz.pinned (.plain (OpenSpec.ofChange seekNilSpec)) seekNilCard

/-- THE TIED CARD OF 'pidginlaw22.SeekDeep'. -/
def seekDeepCard : Claim7 := { stood := { row := seekDeepRow, standIns := [], harness := (true, "ed473cab0528ca5b5dbb6b7826d5853b58de76d9550c7f18f59f2361cea16d45"), looks := true }, kinds := [], alts := [], laidByText := true, laidKinds := [.data, .data, .data, .handle, .sentinel, .sentinel, .sentinel, .sentinel, .sentinel, .sentinel, .sentinel, .sentinel, .sentinel, .sentinel, .sentinel, .sentinel, .sentinel, .sentinel, .sentinel, .sentinel, .sentinel, .sentinel, .sentinel, .sentinel, .sentinel], laidTests := true, laidLooks := .later }
def SeekDeepCardSaid : Prop := Claim7.holds Tryz.pinned (.plain (OpenSpec.ofChange seekDeepSpec)) seekDeepCard

/-- THE TIED CARD OF 'pidginlaw22.SeekParses'. -/
def seekParsesCard : Claim7 := { stood := { row := seekParsesRow, standIns := [], harness := (true, "ed473cab0528ca5b5dbb6b7826d5853b58de76d9550c7f18f59f2361cea16d45"), looks := true }, kinds := [], alts := [], laidByText := true, laidKinds := [.data, .data, .data, .handle, .sentinel, .sentinel, .sentinel, .sentinel, .sentinel, .sentinel, .sentinel, .sentinel, .sentinel, .sentinel, .sentinel, .sentinel, .sentinel, .sentinel, .sentinel, .sentinel, .sentinel, .sentinel, .sentinel, .sentinel, .sentinel], laidTests := true, laidLooks := .later }
def SeekParsesCardSaid : Prop := Claim7.holds Tryz.pinned (.plain (OpenSpec.ofChange seekParsesSpec)) seekParsesCard

/-- THE SECOND FORM's CARD OF 'pidginlaw22.SeekInside'. -/
def seekInsideUptoCard : Claim7 := { stood := { row := seekInsideUptoRow, standIns := [], harness := (true, "ed473cab0528ca5b5dbb6b7826d5853b58de76d9550c7f18f59f2361cea16d45"), looks := true }, kinds := [], alts := [], laidByText := true, laidKinds := [.handle, .sentinel, .sentinel, .sentinel, .sentinel, .sentinel, .sentinel, .sentinel, .sentinel, .sentinel, .sentinel, .sentinel, .sentinel, .sentinel, .sentinel, .sentinel, .sentinel, .sentinel, .sentinel, .sentinel, .sentinel, .sentinel], laidTests := true, laidLooks := .later }
def SeekInsideUptoCardSaid : Prop := Claim7.holds Tryz.pinned (.plain (OpenSpec.upto seekInsideSpec)) seekInsideUptoCard

/-- THE SECOND FORM's CARD OF 'pidginlaw22.SeekStrengths'. -/
def seekStrengthsUptoCard : Claim7 := { stood := { row := seekStrengthsUptoRow, standIns := [], harness := (true, "ed473cab0528ca5b5dbb6b7826d5853b58de76d9550c7f18f59f2361cea16d45"), looks := true }, kinds := [], alts := [], laidByText := true, laidKinds := [.handle, .sentinel, .sentinel, .sentinel, .sentinel, .sentinel, .sentinel, .sentinel, .sentinel, .sentinel, .sentinel, .sentinel, .sentinel, .sentinel, .sentinel, .sentinel, .sentinel, .sentinel, .sentinel, .sentinel, .sentinel, .sentinel], laidTests := true, laidLooks := .later }
def SeekStrengthsUptoCardSaid : Prop := Claim7.holds Tryz.pinned (.plain (OpenSpec.upto seekStrengthsSpec)) seekStrengthsUptoCard

/-- THE SECOND FORM's CARD OF 'pidginlaw22.SeekNumbers'. -/
def seekNumbersUptoCard : Claim7 := { stood := { row := seekNumbersUptoRow, standIns := [], harness := (true, "ed473cab0528ca5b5dbb6b7826d5853b58de76d9550c7f18f59f2361cea16d45"), looks := true }, kinds := [], alts := [], laidByText := true, laidKinds := [.handle, .sentinel, .sentinel, .sentinel, .sentinel, .sentinel, .sentinel, .sentinel, .sentinel, .sentinel, .sentinel, .sentinel, .sentinel, .sentinel, .sentinel, .sentinel, .sentinel, .sentinel, .sentinel, .sentinel, .sentinel, .sentinel], laidTests := true, laidLooks := .later }
def SeekNumbersUptoCardSaid : Prop := Claim7.holds Tryz.pinned (.plain (OpenSpec.upto seekNumbersSpec)) seekNumbersUptoCard

/-- THE SECOND FORM's CARD OF 'pidginlaw22.SeekNil'. -/
def seekNilUptoCard : Claim7 := { stood := { row := seekNilUptoRow, standIns := [], harness := (true, "ed473cab0528ca5b5dbb6b7826d5853b58de76d9550c7f18f59f2361cea16d45"), looks := true }, kinds := [], alts := [], laidByText := true, laidKinds := [.handle, .sentinel, .sentinel, .sentinel, .sentinel, .sentinel, .sentinel, .sentinel, .sentinel, .sentinel, .sentinel, .sentinel, .sentinel, .sentinel, .sentinel, .sentinel, .sentinel, .sentinel, .sentinel, .sentinel, .sentinel, .sentinel], laidTests := true, laidLooks := .later }
def SeekNilUptoCardSaid : Prop := Claim7.holds Tryz.pinned (.plain (OpenSpec.upto seekNilSpec)) seekNilUptoCard

/-- THE SECOND FORM's CARD OF 'pidginlaw22.SeekDeep'. -/
def seekDeepUptoCard : Claim7 := { stood := { row := seekDeepUptoRow, standIns := [], harness := (true, "ed473cab0528ca5b5dbb6b7826d5853b58de76d9550c7f18f59f2361cea16d45"), looks := true }, kinds := [], alts := [], laidByText := true, laidKinds := [.data, .data, .data, .handle, .sentinel, .sentinel, .sentinel, .sentinel, .sentinel, .sentinel, .sentinel, .sentinel, .sentinel, .sentinel, .sentinel, .sentinel, .sentinel, .sentinel, .sentinel, .sentinel, .sentinel, .sentinel, .sentinel, .sentinel, .sentinel], laidTests := true, laidLooks := .later }
def SeekDeepUptoCardSaid : Prop := Claim7.holds Tryz.pinned (.plain (OpenSpec.upto seekDeepSpec)) seekDeepUptoCard

/-- THE SECOND FORM's CARD OF 'pidginlaw22.SeekParses'. -/
def seekParsesUptoCard : Claim7 := { stood := { row := seekParsesUptoRow, standIns := [], harness := (true, "ed473cab0528ca5b5dbb6b7826d5853b58de76d9550c7f18f59f2361cea16d45"), looks := true }, kinds := [], alts := [], laidByText := true, laidKinds := [.data, .data, .data, .handle, .sentinel, .sentinel, .sentinel, .sentinel, .sentinel, .sentinel, .sentinel, .sentinel, .sentinel, .sentinel, .sentinel, .sentinel, .sentinel, .sentinel, .sentinel, .sentinel, .sentinel, .sentinel, .sentinel, .sentinel, .sentinel], laidTests := true, laidLooks := .later }
def SeekParsesUptoCardSaid : Prop := Claim7.holds Tryz.pinned (.plain (OpenSpec.upto seekParsesSpec)) seekParsesUptoCard
end Rows
end Go.Proofs.YtlgflejdbgoinaaGreatDoor
