/-
  DERIVED. GIVEN WITH THE SEED: THE CARDS: each row of YthlncmkeccgfeaaGreatDoorRows.lean that lists a variable, with what it lists TIED to the program's text (the seventh form; the later family's looks); each row that meets fmt, with fmt's text TOLD by the authors' own Lean function (tested against real Go, not proved from fmt's source: count such statements apart). THE CARD IS WHAT COUNTS. Prove the row's statement (the work); the ties are given (YthlncmkeccgfeaaGreatDoorTie.lean); close each card by the builder's one call (the guide's Derived/Test/ToyasCard.lean, 'card_holds'). Laid BY PROGRAM, IN A SANDBOX (cutbox-door.mjs). By AI agents, Wed Nov 11 2026. No macro, syntax, notation, axiom, sorry.
-/
import Derived.Test.YthlncmkeccgfeaaGreatDoorRows
import GoSem.ClaimSeven
namespace Go.Proofs.YthlncmkeccgfeaaGreatDoor
namespace Rows

/-- THE TIED CARD OF 'pidginlaw8.RetextBack'. -/
def retextBackCard : Claim7 := { stood := { row := retextBackRow, standIns := [], harness := (true, "3809c5b1cb67c4e32e7d3f09d5fb8a5747749a5289ea37bf2dd21b4f9db613e8"), looks := true }, kinds := [], alts := [], laidByText := true, laidKinds := [.handle, .sentinel, .sentinel, .sentinel, .sentinel, .sentinel, .sentinel, .sentinel, .sentinel, .sentinel, .sentinel, .sentinel, .sentinel, .sentinel, .sentinel, .sentinel, .sentinel, .sentinel, .sentinel, .sentinel, .sentinel, .sentinel], laidTests := true, laidLooks := .later }
def RetextBackCardSaid : Prop := Claim7.holds Tryz.pinned (.plain (OpenSpec.ofChange retextBackSpec)) retextBackCard

/-- THE TIED CARD OF 'pidginlaw8.RetextTrees'. -/
def retextTreesCard : Claim7 := { stood := { row := retextTreesRow, standIns := [], harness := (true, "3809c5b1cb67c4e32e7d3f09d5fb8a5747749a5289ea37bf2dd21b4f9db613e8"), looks := true }, kinds := [], alts := [], laidByText := true, laidKinds := [.handle, .sentinel, .sentinel, .sentinel, .sentinel, .sentinel, .sentinel, .sentinel, .sentinel, .sentinel, .sentinel, .sentinel, .sentinel, .sentinel, .sentinel, .sentinel, .sentinel, .sentinel, .sentinel, .sentinel, .sentinel, .sentinel], laidTests := true, laidLooks := .later }
def RetextTreesCardSaid : Prop := Claim7.holds Tryz.pinned (.plain (OpenSpec.ofChange retextTreesSpec)) retextTreesCard

/-- THE TIED CARD OF 'pidginlaw8.RetextEither'. -/
def retextEitherCard : Claim7 := { stood := { row := retextEitherRow, standIns := [], harness := (true, "3809c5b1cb67c4e32e7d3f09d5fb8a5747749a5289ea37bf2dd21b4f9db613e8"), looks := true }, kinds := [], alts := [], laidByText := true, laidKinds := [.handle, .sentinel, .sentinel, .sentinel, .sentinel, .sentinel, .sentinel, .sentinel, .sentinel, .sentinel, .sentinel, .sentinel, .sentinel, .sentinel, .sentinel, .sentinel, .sentinel, .sentinel, .sentinel, .sentinel, .sentinel, .sentinel], laidTests := true, laidLooks := .later }
def RetextEitherCardSaid : Prop := Claim7.holds Tryz.pinned (.plain (OpenSpec.ofChange retextEitherSpec)) retextEitherCard

/-- THE TIED CARD OF 'pidginlaw8.RetextPlaces'. -/
def retextPlacesCard : Claim7 := { stood := { row := retextPlacesRow, standIns := [], harness := (true, "3809c5b1cb67c4e32e7d3f09d5fb8a5747749a5289ea37bf2dd21b4f9db613e8"), looks := true }, kinds := [], alts := [], laidByText := true, laidKinds := [.handle, .sentinel, .sentinel, .sentinel, .sentinel, .sentinel, .sentinel, .sentinel, .sentinel, .sentinel, .sentinel, .sentinel, .sentinel, .sentinel, .sentinel, .sentinel, .sentinel, .sentinel, .sentinel, .sentinel, .sentinel, .sentinel], laidTests := true, laidLooks := .later }
def RetextPlacesCardSaid : Prop := Claim7.holds Tryz.pinned (.plain (OpenSpec.ofChange retextPlacesSpec)) retextPlacesCard

/-- THE TIED CARD OF 'pidginlaw8.RetextLimits'. -/
def retextLimitsCard : Claim7 := { stood := { row := retextLimitsRow, standIns := [], harness := (true, "3809c5b1cb67c4e32e7d3f09d5fb8a5747749a5289ea37bf2dd21b4f9db613e8"), looks := true }, kinds := [], alts := [], laidByText := true, laidKinds := [.data, .data, .data, .handle, .sentinel, .sentinel, .sentinel, .sentinel, .sentinel, .sentinel, .sentinel, .sentinel, .sentinel, .sentinel, .sentinel, .sentinel, .sentinel, .sentinel, .sentinel, .sentinel, .sentinel, .sentinel, .sentinel, .sentinel, .sentinel], laidTests := true, laidLooks := .later }
def RetextLimitsCardSaid : Prop := Claim7.holds Tryz.pinned (.plain (OpenSpec.ofChange retextLimitsSpec)) retextLimitsCard

/-- THE TIED CARD OF 'pidginlaw8.RetextParses'. -/
def retextParsesCard : Claim7 := { stood := { row := retextParsesRow, standIns := [], harness := (true, "3809c5b1cb67c4e32e7d3f09d5fb8a5747749a5289ea37bf2dd21b4f9db613e8"), looks := true }, kinds := [], alts := [], laidByText := true, laidKinds := [.data, .data, .data, .handle, .sentinel, .sentinel, .sentinel, .sentinel, .sentinel, .sentinel, .sentinel, .sentinel, .sentinel, .sentinel, .sentinel, .sentinel, .sentinel, .sentinel, .sentinel, .sentinel, .sentinel, .sentinel, .sentinel, .sentinel, .sentinel], laidTests := true, laidLooks := .later }
def RetextParsesCardSaid : Prop := Claim7.holds Tryz.pinned (.plain (OpenSpec.ofChange retextParsesSpec)) retextParsesCard

/-- THE SECOND FORM's CARD OF 'pidginlaw8.RetextBack'. -/
def retextBackUptoCard : Claim7 := { stood := { row := retextBackUptoRow, standIns := [], harness := (true, "3809c5b1cb67c4e32e7d3f09d5fb8a5747749a5289ea37bf2dd21b4f9db613e8"), looks := true }, kinds := [], alts := [], laidByText := true, laidKinds := [.handle, .sentinel, .sentinel, .sentinel, .sentinel, .sentinel, .sentinel, .sentinel, .sentinel, .sentinel, .sentinel, .sentinel, .sentinel, .sentinel, .sentinel, .sentinel, .sentinel, .sentinel, .sentinel, .sentinel, .sentinel, .sentinel], laidTests := true, laidLooks := .later }
def RetextBackUptoCardSaid : Prop := Claim7.holds Tryz.pinned (.plain (OpenSpec.upto retextBackSpec)) retextBackUptoCard

/-- THE SECOND FORM's CARD OF 'pidginlaw8.RetextTrees'. -/
def retextTreesUptoCard : Claim7 := { stood := { row := retextTreesUptoRow, standIns := [], harness := (true, "3809c5b1cb67c4e32e7d3f09d5fb8a5747749a5289ea37bf2dd21b4f9db613e8"), looks := true }, kinds := [], alts := [], laidByText := true, laidKinds := [.handle, .sentinel, .sentinel, .sentinel, .sentinel, .sentinel, .sentinel, .sentinel, .sentinel, .sentinel, .sentinel, .sentinel, .sentinel, .sentinel, .sentinel, .sentinel, .sentinel, .sentinel, .sentinel, .sentinel, .sentinel, .sentinel], laidTests := true, laidLooks := .later }
def RetextTreesUptoCardSaid : Prop := Claim7.holds Tryz.pinned (.plain (OpenSpec.upto retextTreesSpec)) retextTreesUptoCard

/-- THE SECOND FORM's CARD OF 'pidginlaw8.RetextEither'. -/
def retextEitherUptoCard : Claim7 := { stood := { row := retextEitherUptoRow, standIns := [], harness := (true, "3809c5b1cb67c4e32e7d3f09d5fb8a5747749a5289ea37bf2dd21b4f9db613e8"), looks := true }, kinds := [], alts := [], laidByText := true, laidKinds := [.handle, .sentinel, .sentinel, .sentinel, .sentinel, .sentinel, .sentinel, .sentinel, .sentinel, .sentinel, .sentinel, .sentinel, .sentinel, .sentinel, .sentinel, .sentinel, .sentinel, .sentinel, .sentinel, .sentinel, .sentinel, .sentinel], laidTests := true, laidLooks := .later }
def RetextEitherUptoCardSaid : Prop := Claim7.holds Tryz.pinned (.plain (OpenSpec.upto retextEitherSpec)) retextEitherUptoCard

/-- THE SECOND FORM's CARD OF 'pidginlaw8.RetextPlaces'. -/
def retextPlacesUptoCard : Claim7 := { stood := { row := retextPlacesUptoRow, standIns := [], harness := (true, "3809c5b1cb67c4e32e7d3f09d5fb8a5747749a5289ea37bf2dd21b4f9db613e8"), looks := true }, kinds := [], alts := [], laidByText := true, laidKinds := [.handle, .sentinel, .sentinel, .sentinel, .sentinel, .sentinel, .sentinel, .sentinel, .sentinel, .sentinel, .sentinel, .sentinel, .sentinel, .sentinel, .sentinel, .sentinel, .sentinel, .sentinel, .sentinel, .sentinel, .sentinel, .sentinel], laidTests := true, laidLooks := .later }
def RetextPlacesUptoCardSaid : Prop := Claim7.holds Tryz.pinned (.plain (OpenSpec.upto retextPlacesSpec)) retextPlacesUptoCard

/-- THE SECOND FORM's CARD OF 'pidginlaw8.RetextLimits'. -/
def retextLimitsUptoCard : Claim7 := { stood := { row := retextLimitsUptoRow, standIns := [], harness := (true, "3809c5b1cb67c4e32e7d3f09d5fb8a5747749a5289ea37bf2dd21b4f9db613e8"), looks := true }, kinds := [], alts := [], laidByText := true, laidKinds := [.data, .data, .data, .handle, .sentinel, .sentinel, .sentinel, .sentinel, .sentinel, .sentinel, .sentinel, .sentinel, .sentinel, .sentinel, .sentinel, .sentinel, .sentinel, .sentinel, .sentinel, .sentinel, .sentinel, .sentinel, .sentinel, .sentinel, .sentinel], laidTests := true, laidLooks := .later }
def RetextLimitsUptoCardSaid : Prop := Claim7.holds Tryz.pinned (.plain (OpenSpec.upto retextLimitsSpec)) retextLimitsUptoCard

/-- THE SECOND FORM's CARD OF 'pidginlaw8.RetextParses'. -/
def retextParsesUptoCard : Claim7 := { stood := { row := retextParsesUptoRow, standIns := [], harness := (true, "3809c5b1cb67c4e32e7d3f09d5fb8a5747749a5289ea37bf2dd21b4f9db613e8"), looks := true }, kinds := [], alts := [], laidByText := true, laidKinds := [.data, .data, .data, .handle, .sentinel, .sentinel, .sentinel, .sentinel, .sentinel, .sentinel, .sentinel, .sentinel, .sentinel, .sentinel, .sentinel, .sentinel, .sentinel, .sentinel, .sentinel, .sentinel, .sentinel, .sentinel, .sentinel, .sentinel, .sentinel], laidTests := true, laidLooks := .later }
def RetextParsesUptoCardSaid : Prop := Claim7.holds Tryz.pinned (.plain (OpenSpec.upto retextParsesSpec)) retextParsesUptoCard
end Rows
end Go.Proofs.YthlncmkeccgfeaaGreatDoor
