/-
  DERIVED. GIVEN WITH THE SEED: THE CARDS: each row of YtmkkljbfmdngfaaGreatDoorRows.lean that lists a variable, with what it lists TIED to the program's text (the seventh form; the later family's looks); each row that meets fmt, with fmt's text TOLD by the authors' own Lean function (tested against real Go, not proved from fmt's source: count such statements apart). THE CARD IS WHAT COUNTS. Prove the row's statement (the work); the ties are given (YtmkkljbfmdngfaaGreatDoorTie.lean); close each card by the builder's one call (the guide's Derived/Test/ToyasCard.lean, 'card_holds'). Laid BY PROGRAM, IN A SANDBOX (cutbox-door.mjs). By AI agents, Wed Nov 11 2026. No macro, syntax, notation, axiom, sorry.
-/
import Derived.Test.YtmkkljbfmdngfaaGreatDoorRows
import GoSem.ClaimSeven
namespace Go.Proofs.YtmkkljbfmdngfaaGreatDoor
namespace Rows

/-- THE TIED CARD OF 'mailsacklaw11.ImageWhole'. -/
def imageWholeCard : Claim7 := { stood := { row := imageWholeRow, standIns := [], harness := (true, "62a66a85581ad086a7602c4f94e470cd42798d9e6249b23442ff07f77f455f21"), looks := false }, kinds := [], alts := [], laidByText := true, laidKinds := [.data, .data, .data], laidTests := true, laidLooks := .later }
def ImageWholeCardSaid : Prop := Claim7.holds Tryz.pinned (.plain (OpenSpec.ofChange imageWholeSpec)) imageWholeCard

/-- THE TIED CARD OF 'mailsacklaw11.ImageOther'. -/
def imageOtherCard : Claim7 := { stood := { row := imageOtherRow, standIns := [], harness := (true, "62a66a85581ad086a7602c4f94e470cd42798d9e6249b23442ff07f77f455f21"), looks := false }, kinds := [], alts := [], laidByText := true, laidKinds := [.data, .data, .data], laidTests := true, laidLooks := .later }
def ImageOtherCardSaid : Prop := Claim7.holds Tryz.pinned (.plain (OpenSpec.ofChange imageOtherSpec)) imageOtherCard

/-- THE TIED CARD OF 'mailsacklaw11.ImageRest'. -/
def imageRestCard : Claim7 := { stood := { row := imageRestRow, standIns := [], harness := (true, "62a66a85581ad086a7602c4f94e470cd42798d9e6249b23442ff07f77f455f21"), looks := false }, kinds := [], alts := [], laidByText := true, laidKinds := [.data, .data, .data], laidTests := true, laidLooks := .later }
def ImageRestCardSaid : Prop := Claim7.holds Tryz.pinned (.plain (OpenSpec.ofChange imageRestSpec)) imageRestCard

/-- THE TIED CARD OF 'mailsacklaw11.ImageMore'. -/
def imageMoreCard : Claim7 := { stood := { row := imageMoreRow, standIns := [], harness := (true, "62a66a85581ad086a7602c4f94e470cd42798d9e6249b23442ff07f77f455f21"), looks := false }, kinds := [], alts := [], laidByText := true, laidKinds := [.data, .data, .data], laidTests := true, laidLooks := .later }
def ImageMoreCardSaid : Prop := Claim7.holds Tryz.pinned (.plain (OpenSpec.ofChange imageMoreSpec)) imageMoreCard

/-- THE TIED CARD OF 'mailsacklaw12.LowerForms'. -/
def lowerFormsCard : Claim7 := { stood := { row := lowerFormsRow, standIns := [], harness := (true, "62a66a85581ad086a7602c4f94e470cd42798d9e6249b23442ff07f77f455f21"), looks := false }, kinds := [], alts := [], laidByText := true, laidKinds := [.data, .data, .data], laidTests := true, laidLooks := .later }
def LowerFormsCardSaid : Prop := Claim7.holds Tryz.pinned (.plain (OpenSpec.ofChange lowerFormsSpec)) lowerFormsCard

/-- THE TIED CARD OF 'mailsacklaw12.LowerJust'. -/
def lowerJustCard : Claim7 := { stood := { row := lowerJustRow, standIns := [], harness := (true, "62a66a85581ad086a7602c4f94e470cd42798d9e6249b23442ff07f77f455f21"), looks := false }, kinds := [], alts := [], laidByText := true, laidKinds := [.data, .data, .data], laidTests := true, laidLooks := .later }
def LowerJustCardSaid : Prop := Claim7.holds Tryz.pinned (.plain (OpenSpec.ofChange lowerJustSpec)) lowerJustCard

/-- THE TIED CARD OF 'mailsacklaw12.LowerOlder'. -/
def lowerOlderCard : Claim7 := { stood := { row := lowerOlderRow, standIns := [], harness := (true, "62a66a85581ad086a7602c4f94e470cd42798d9e6249b23442ff07f77f455f21"), looks := false }, kinds := [], alts := [], laidByText := true, laidKinds := [.data, .data, .data], laidTests := true, laidLooks := .later }
def LowerOlderCardSaid : Prop := Claim7.holds Tryz.pinned (.plain (OpenSpec.ofChange lowerOlderSpec)) lowerOlderCard

/-- THE TIED CARD OF 'mailsacklaw12.LowerAlone'. -/
def lowerAloneCard : Claim7 := { stood := { row := lowerAloneRow, standIns := [], harness := (true, "62a66a85581ad086a7602c4f94e470cd42798d9e6249b23442ff07f77f455f21"), looks := false }, kinds := [], alts := [], laidByText := true, laidKinds := [.data, .data, .data], laidTests := true, laidLooks := .later }
def LowerAloneCardSaid : Prop := Claim7.holds Tryz.pinned (.plain (OpenSpec.ofChange lowerAloneSpec)) lowerAloneCard

/-- THE TIED CARD OF 'mailsacklaw7.RowParts'. -/
def rowPartsCard : Claim7 := { stood := { row := rowPartsRow, standIns := [], harness := (true, "62a66a85581ad086a7602c4f94e470cd42798d9e6249b23442ff07f77f455f21"), looks := false }, kinds := [], alts := [], laidByText := true, laidKinds := [.data, .data, .data], laidTests := true, laidLooks := .later }
def RowPartsCardSaid : Prop := Claim7.holds Tryz.pinned (.plain (OpenSpec.ofChange rowPartsSpec)) rowPartsCard

/-- THE TIED CARD OF 'mailsacklaw7.RowDone'. -/
def rowDoneCard : Claim7 := { stood := { row := rowDoneRow, standIns := [], harness := (true, "62a66a85581ad086a7602c4f94e470cd42798d9e6249b23442ff07f77f455f21"), looks := false }, kinds := [], alts := [], laidByText := true, laidKinds := [.data, .data, .data], laidTests := true, laidLooks := .later }
def RowDoneCardSaid : Prop := Claim7.holds Tryz.pinned (.plain (OpenSpec.ofChange rowDoneSpec)) rowDoneCard

/-- THE SECOND FORM's CARD OF 'mailsacklaw11.ImageWhole'. -/
def imageWholeUptoCard : Claim7 := { stood := { row := imageWholeUptoRow, standIns := [], harness := (true, "62a66a85581ad086a7602c4f94e470cd42798d9e6249b23442ff07f77f455f21"), looks := false }, kinds := [], alts := [], laidByText := true, laidKinds := [.data, .data, .data], laidTests := true, laidLooks := .later }
def ImageWholeUptoCardSaid : Prop := Claim7.holds Tryz.pinned (.plain (OpenSpec.upto imageWholeSpec)) imageWholeUptoCard

/-- THE SECOND FORM's CARD OF 'mailsacklaw11.ImageOther'. -/
def imageOtherUptoCard : Claim7 := { stood := { row := imageOtherUptoRow, standIns := [], harness := (true, "62a66a85581ad086a7602c4f94e470cd42798d9e6249b23442ff07f77f455f21"), looks := false }, kinds := [], alts := [], laidByText := true, laidKinds := [.data, .data, .data], laidTests := true, laidLooks := .later }
def ImageOtherUptoCardSaid : Prop := Claim7.holds Tryz.pinned (.plain (OpenSpec.upto imageOtherSpec)) imageOtherUptoCard

/-- THE SECOND FORM's CARD OF 'mailsacklaw11.ImageRest'. -/
def imageRestUptoCard : Claim7 := { stood := { row := imageRestUptoRow, standIns := [], harness := (true, "62a66a85581ad086a7602c4f94e470cd42798d9e6249b23442ff07f77f455f21"), looks := false }, kinds := [], alts := [], laidByText := true, laidKinds := [.data, .data, .data], laidTests := true, laidLooks := .later }
def ImageRestUptoCardSaid : Prop := Claim7.holds Tryz.pinned (.plain (OpenSpec.upto imageRestSpec)) imageRestUptoCard

/-- THE SECOND FORM's CARD OF 'mailsacklaw11.ImageMore'. -/
def imageMoreUptoCard : Claim7 := { stood := { row := imageMoreUptoRow, standIns := [], harness := (true, "62a66a85581ad086a7602c4f94e470cd42798d9e6249b23442ff07f77f455f21"), looks := false }, kinds := [], alts := [], laidByText := true, laidKinds := [.data, .data, .data], laidTests := true, laidLooks := .later }
def ImageMoreUptoCardSaid : Prop := Claim7.holds Tryz.pinned (.plain (OpenSpec.upto imageMoreSpec)) imageMoreUptoCard

/-- THE SECOND FORM's CARD OF 'mailsacklaw12.LowerForms'. -/
def lowerFormsUptoCard : Claim7 := { stood := { row := lowerFormsUptoRow, standIns := [], harness := (true, "62a66a85581ad086a7602c4f94e470cd42798d9e6249b23442ff07f77f455f21"), looks := false }, kinds := [], alts := [], laidByText := true, laidKinds := [.data, .data, .data], laidTests := true, laidLooks := .later }
def LowerFormsUptoCardSaid : Prop := Claim7.holds Tryz.pinned (.plain (OpenSpec.upto lowerFormsSpec)) lowerFormsUptoCard

/-- THE SECOND FORM's CARD OF 'mailsacklaw12.LowerJust'. -/
def lowerJustUptoCard : Claim7 := { stood := { row := lowerJustUptoRow, standIns := [], harness := (true, "62a66a85581ad086a7602c4f94e470cd42798d9e6249b23442ff07f77f455f21"), looks := false }, kinds := [], alts := [], laidByText := true, laidKinds := [.data, .data, .data], laidTests := true, laidLooks := .later }
def LowerJustUptoCardSaid : Prop := Claim7.holds Tryz.pinned (.plain (OpenSpec.upto lowerJustSpec)) lowerJustUptoCard

/-- THE SECOND FORM's CARD OF 'mailsacklaw12.LowerOlder'. -/
def lowerOlderUptoCard : Claim7 := { stood := { row := lowerOlderUptoRow, standIns := [], harness := (true, "62a66a85581ad086a7602c4f94e470cd42798d9e6249b23442ff07f77f455f21"), looks := false }, kinds := [], alts := [], laidByText := true, laidKinds := [.data, .data, .data], laidTests := true, laidLooks := .later }
def LowerOlderUptoCardSaid : Prop := Claim7.holds Tryz.pinned (.plain (OpenSpec.upto lowerOlderSpec)) lowerOlderUptoCard

/-- THE SECOND FORM's CARD OF 'mailsacklaw12.LowerAlone'. -/
def lowerAloneUptoCard : Claim7 := { stood := { row := lowerAloneUptoRow, standIns := [], harness := (true, "62a66a85581ad086a7602c4f94e470cd42798d9e6249b23442ff07f77f455f21"), looks := false }, kinds := [], alts := [], laidByText := true, laidKinds := [.data, .data, .data], laidTests := true, laidLooks := .later }
def LowerAloneUptoCardSaid : Prop := Claim7.holds Tryz.pinned (.plain (OpenSpec.upto lowerAloneSpec)) lowerAloneUptoCard

/-- THE SECOND FORM's CARD OF 'mailsacklaw7.RowParts'. -/
def rowPartsUptoCard : Claim7 := { stood := { row := rowPartsUptoRow, standIns := [], harness := (true, "62a66a85581ad086a7602c4f94e470cd42798d9e6249b23442ff07f77f455f21"), looks := false }, kinds := [], alts := [], laidByText := true, laidKinds := [.data, .data, .data], laidTests := true, laidLooks := .later }
def RowPartsUptoCardSaid : Prop := Claim7.holds Tryz.pinned (.plain (OpenSpec.upto rowPartsSpec)) rowPartsUptoCard

/-- THE SECOND FORM's CARD OF 'mailsacklaw7.RowDone'. -/
def rowDoneUptoCard : Claim7 := { stood := { row := rowDoneUptoRow, standIns := [], harness := (true, "62a66a85581ad086a7602c4f94e470cd42798d9e6249b23442ff07f77f455f21"), looks := false }, kinds := [], alts := [], laidByText := true, laidKinds := [.data, .data, .data], laidTests := true, laidLooks := .later }
def RowDoneUptoCardSaid : Prop := Claim7.holds Tryz.pinned (.plain (OpenSpec.upto rowDoneSpec)) rowDoneUptoCard
end Rows
end Go.Proofs.YtmkkljbfmdngfaaGreatDoor
