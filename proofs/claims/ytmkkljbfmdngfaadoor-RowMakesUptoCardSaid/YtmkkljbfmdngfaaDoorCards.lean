/-
  DERIVED. GIVEN WITH THE SEED: THE CARDS: each row of YtmkkljbfmdngfaaDoorRows.lean that lists a variable, with what it lists TIED to the program's text (the seventh form; the later family's looks); each row that meets fmt, with fmt's text TOLD by the authors' own Lean function (tested against real Go, not proved from fmt's source: count such statements apart). THE CARD IS WHAT COUNTS. Prove the row's statement (the work); the ties are given (YtmkkljbfmdngfaaDoorTie.lean); close each card by the builder's one call (the guide's Derived/Test/ToyasCard.lean, 'card_holds'). Laid BY PROGRAM, IN A SANDBOX (cutbox-door.mjs). By AI agents, Wed Nov 11 2026. No macro, syntax, notation, axiom, sorry.
-/
import Derived.Test.YtmkkljbfmdngfaaDoorRows
import GoSem.ClaimSeven
namespace Go.Proofs.YtmkkljbfmdngfaaDoor
namespace Rows

/-- THE TIED CARD OF 'mailsacklaw8.Form1Apart'. -/
def form1ApartCard : Claim7 := { stood := { row := form1ApartRow, standIns := [], harness := (true, "6f55990d9238e3b62604624f64a9bca85b432c20770d8e86decad88905b0cc7f"), looks := false }, kinds := [], alts := [], laidByText := true, laidKinds := [.data, .data, .data], laidTests := true, laidLooks := .later }
def Form1ApartCardSaid : Prop := Claim7.holds Tryd.pinned (.plain (OpenSpec.ofChange form1ApartSpec)) form1ApartCard

/-- THE TIED CARD OF 'mailsacklaw9.Form2Apart'. -/
def form2ApartCard : Claim7 := { stood := { row := form2ApartRow, standIns := [], harness := (true, "6f55990d9238e3b62604624f64a9bca85b432c20770d8e86decad88905b0cc7f"), looks := false }, kinds := [], alts := [], laidByText := true, laidKinds := [.data, .data, .data], laidTests := true, laidLooks := .later }
def Form2ApartCardSaid : Prop := Claim7.holds Tryd.pinned (.plain (OpenSpec.ofChange form2ApartSpec)) form2ApartCard

/-- THE TIED CARD OF 'mailsacklaw8.Form1Forms'. -/
def form1FormsCard : Claim7 := { stood := { row := form1FormsRow, standIns := [], harness := (true, "6f55990d9238e3b62604624f64a9bca85b432c20770d8e86decad88905b0cc7f"), looks := false }, kinds := [], alts := [], laidByText := true, laidKinds := [.data, .data, .data], laidTests := true, laidLooks := .later }
def Form1FormsCardSaid : Prop := Claim7.holds Tryd.pinned (.plain (OpenSpec.ofChange form1FormsSpec)) form1FormsCard

/-- THE TIED CARD OF 'mailsacklaw8.Form1Back'. -/
def form1BackCard : Claim7 := { stood := { row := form1BackRow, standIns := [], harness := (true, "6f55990d9238e3b62604624f64a9bca85b432c20770d8e86decad88905b0cc7f"), looks := false }, kinds := [], alts := [], laidByText := true, laidKinds := [.data, .data, .data], laidTests := true, laidLooks := .later }
def Form1BackCardSaid : Prop := Claim7.holds Tryd.pinned (.plain (OpenSpec.ofChange form1BackSpec)) form1BackCard

/-- THE TIED CARD OF 'mailsacklaw8.Form1Cut'. -/
def form1CutCard : Claim7 := { stood := { row := form1CutRow, standIns := [], harness := (true, "6f55990d9238e3b62604624f64a9bca85b432c20770d8e86decad88905b0cc7f"), looks := false }, kinds := [], alts := [], laidByText := true, laidKinds := [.data, .data, .data], laidTests := true, laidLooks := .later }
def Form1CutCardSaid : Prop := Claim7.holds Tryd.pinned (.plain (OpenSpec.ofChange form1CutSpec)) form1CutCard

/-- THE TIED CARD OF 'mailsacklaw9.Form2Forms'. -/
def form2FormsCard : Claim7 := { stood := { row := form2FormsRow, standIns := [], harness := (true, "6f55990d9238e3b62604624f64a9bca85b432c20770d8e86decad88905b0cc7f"), looks := false }, kinds := [], alts := [], laidByText := true, laidKinds := [.data, .data, .data], laidTests := true, laidLooks := .later }
def Form2FormsCardSaid : Prop := Claim7.holds Tryd.pinned (.plain (OpenSpec.ofChange form2FormsSpec)) form2FormsCard

/-- THE TIED CARD OF 'mailsacklaw9.Form2Back'. -/
def form2BackCard : Claim7 := { stood := { row := form2BackRow, standIns := [], harness := (true, "6f55990d9238e3b62604624f64a9bca85b432c20770d8e86decad88905b0cc7f"), looks := false }, kinds := [], alts := [], laidByText := true, laidKinds := [.data, .data, .data], laidTests := true, laidLooks := .later }
def Form2BackCardSaid : Prop := Claim7.holds Tryd.pinned (.plain (OpenSpec.ofChange form2BackSpec)) form2BackCard

/-- THE TIED CARD OF 'mailsacklaw9.Form2Cut'. -/
def form2CutCard : Claim7 := { stood := { row := form2CutRow, standIns := [], harness := (true, "6f55990d9238e3b62604624f64a9bca85b432c20770d8e86decad88905b0cc7f"), looks := false }, kinds := [], alts := [], laidByText := true, laidKinds := [.data, .data, .data], laidTests := true, laidLooks := .later }
def Form2CutCardSaid : Prop := Claim7.holds Tryd.pinned (.plain (OpenSpec.ofChange form2CutSpec)) form2CutCard

/-- THE TIED CARD OF 'mailsacklaw7.RowRises'. -/
def rowRisesCard : Claim7 := { stood := { row := rowRisesRow, standIns := [], harness := (true, "6f55990d9238e3b62604624f64a9bca85b432c20770d8e86decad88905b0cc7f"), looks := false }, kinds := [], alts := [], laidByText := true, laidKinds := [.data, .data, .data], laidTests := true, laidLooks := .later }
def RowRisesCardSaid : Prop := Claim7.holds Tryd.pinned (.plain (OpenSpec.ofChange rowRisesSpec)) rowRisesCard

/-- THE TIED CARD OF 'mailsacklaw7.RowOrder'. -/
def rowOrderCard : Claim7 := { stood := { row := rowOrderRow, standIns := [], harness := (true, "6f55990d9238e3b62604624f64a9bca85b432c20770d8e86decad88905b0cc7f"), looks := false }, kinds := [], alts := [], laidByText := true, laidKinds := [.data, .data, .data], laidTests := true, laidLooks := .later }
def RowOrderCardSaid : Prop := Claim7.holds Tryd.pinned (.plain (OpenSpec.ofChange rowOrderSpec)) rowOrderCard

/-- THE TIED CARD OF 'mailsacklaw7.RowKeeps'. -/
def rowKeepsCard : Claim7 := { stood := { row := rowKeepsRow, standIns := [], harness := (true, "6f55990d9238e3b62604624f64a9bca85b432c20770d8e86decad88905b0cc7f"), looks := false }, kinds := [], alts := [], laidByText := true, laidKinds := [.data, .data, .data], laidTests := true, laidLooks := .later }
def RowKeepsCardSaid : Prop := Claim7.holds Tryd.pinned (.plain (OpenSpec.ofChange rowKeepsSpec)) rowKeepsCard

/-- THE TIED CARD OF 'mailsacklaw7.RowMakes'. -/
def rowMakesCard : Claim7 := { stood := { row := rowMakesRow, standIns := [], harness := (true, "6f55990d9238e3b62604624f64a9bca85b432c20770d8e86decad88905b0cc7f"), looks := false }, kinds := [], alts := [], laidByText := true, laidKinds := [.data, .data, .data], laidTests := true, laidLooks := .later }
def RowMakesCardSaid : Prop := Claim7.holds Tryd.pinned (.plain (OpenSpec.ofChange rowMakesSpec)) rowMakesCard

/-- THE SECOND FORM's CARD OF 'mailsacklaw8.Form1Apart'. -/
def form1ApartUptoCard : Claim7 := { stood := { row := form1ApartUptoRow, standIns := [], harness := (true, "6f55990d9238e3b62604624f64a9bca85b432c20770d8e86decad88905b0cc7f"), looks := false }, kinds := [], alts := [], laidByText := true, laidKinds := [.data, .data, .data], laidTests := true, laidLooks := .later }
def Form1ApartUptoCardSaid : Prop := Claim7.holds Tryd.pinned (.plain (OpenSpec.upto form1ApartSpec)) form1ApartUptoCard

/-- THE SECOND FORM's CARD OF 'mailsacklaw9.Form2Apart'. -/
def form2ApartUptoCard : Claim7 := { stood := { row := form2ApartUptoRow, standIns := [], harness := (true, "6f55990d9238e3b62604624f64a9bca85b432c20770d8e86decad88905b0cc7f"), looks := false }, kinds := [], alts := [], laidByText := true, laidKinds := [.data, .data, .data], laidTests := true, laidLooks := .later }
def Form2ApartUptoCardSaid : Prop := Claim7.holds Tryd.pinned (.plain (OpenSpec.upto form2ApartSpec)) form2ApartUptoCard

/-- THE SECOND FORM's CARD OF 'mailsacklaw8.Form1Forms'. -/
def form1FormsUptoCard : Claim7 := { stood := { row := form1FormsUptoRow, standIns := [], harness := (true, "6f55990d9238e3b62604624f64a9bca85b432c20770d8e86decad88905b0cc7f"), looks := false }, kinds := [], alts := [], laidByText := true, laidKinds := [.data, .data, .data], laidTests := true, laidLooks := .later }
def Form1FormsUptoCardSaid : Prop := Claim7.holds Tryd.pinned (.plain (OpenSpec.upto form1FormsSpec)) form1FormsUptoCard

/-- THE SECOND FORM's CARD OF 'mailsacklaw8.Form1Back'. -/
def form1BackUptoCard : Claim7 := { stood := { row := form1BackUptoRow, standIns := [], harness := (true, "6f55990d9238e3b62604624f64a9bca85b432c20770d8e86decad88905b0cc7f"), looks := false }, kinds := [], alts := [], laidByText := true, laidKinds := [.data, .data, .data], laidTests := true, laidLooks := .later }
def Form1BackUptoCardSaid : Prop := Claim7.holds Tryd.pinned (.plain (OpenSpec.upto form1BackSpec)) form1BackUptoCard

/-- THE SECOND FORM's CARD OF 'mailsacklaw8.Form1Cut'. -/
def form1CutUptoCard : Claim7 := { stood := { row := form1CutUptoRow, standIns := [], harness := (true, "6f55990d9238e3b62604624f64a9bca85b432c20770d8e86decad88905b0cc7f"), looks := false }, kinds := [], alts := [], laidByText := true, laidKinds := [.data, .data, .data], laidTests := true, laidLooks := .later }
def Form1CutUptoCardSaid : Prop := Claim7.holds Tryd.pinned (.plain (OpenSpec.upto form1CutSpec)) form1CutUptoCard

/-- THE SECOND FORM's CARD OF 'mailsacklaw9.Form2Forms'. -/
def form2FormsUptoCard : Claim7 := { stood := { row := form2FormsUptoRow, standIns := [], harness := (true, "6f55990d9238e3b62604624f64a9bca85b432c20770d8e86decad88905b0cc7f"), looks := false }, kinds := [], alts := [], laidByText := true, laidKinds := [.data, .data, .data], laidTests := true, laidLooks := .later }
def Form2FormsUptoCardSaid : Prop := Claim7.holds Tryd.pinned (.plain (OpenSpec.upto form2FormsSpec)) form2FormsUptoCard

/-- THE SECOND FORM's CARD OF 'mailsacklaw9.Form2Back'. -/
def form2BackUptoCard : Claim7 := { stood := { row := form2BackUptoRow, standIns := [], harness := (true, "6f55990d9238e3b62604624f64a9bca85b432c20770d8e86decad88905b0cc7f"), looks := false }, kinds := [], alts := [], laidByText := true, laidKinds := [.data, .data, .data], laidTests := true, laidLooks := .later }
def Form2BackUptoCardSaid : Prop := Claim7.holds Tryd.pinned (.plain (OpenSpec.upto form2BackSpec)) form2BackUptoCard

/-- THE SECOND FORM's CARD OF 'mailsacklaw9.Form2Cut'. -/
def form2CutUptoCard : Claim7 := { stood := { row := form2CutUptoRow, standIns := [], harness := (true, "6f55990d9238e3b62604624f64a9bca85b432c20770d8e86decad88905b0cc7f"), looks := false }, kinds := [], alts := [], laidByText := true, laidKinds := [.data, .data, .data], laidTests := true, laidLooks := .later }
def Form2CutUptoCardSaid : Prop := Claim7.holds Tryd.pinned (.plain (OpenSpec.upto form2CutSpec)) form2CutUptoCard

/-- THE SECOND FORM's CARD OF 'mailsacklaw7.RowRises'. -/
def rowRisesUptoCard : Claim7 := { stood := { row := rowRisesUptoRow, standIns := [], harness := (true, "6f55990d9238e3b62604624f64a9bca85b432c20770d8e86decad88905b0cc7f"), looks := false }, kinds := [], alts := [], laidByText := true, laidKinds := [.data, .data, .data], laidTests := true, laidLooks := .later }
def RowRisesUptoCardSaid : Prop := Claim7.holds Tryd.pinned (.plain (OpenSpec.upto rowRisesSpec)) rowRisesUptoCard

/-- THE SECOND FORM's CARD OF 'mailsacklaw7.RowOrder'. -/
def rowOrderUptoCard : Claim7 := { stood := { row := rowOrderUptoRow, standIns := [], harness := (true, "6f55990d9238e3b62604624f64a9bca85b432c20770d8e86decad88905b0cc7f"), looks := false }, kinds := [], alts := [], laidByText := true, laidKinds := [.data, .data, .data], laidTests := true, laidLooks := .later }
def RowOrderUptoCardSaid : Prop := Claim7.holds Tryd.pinned (.plain (OpenSpec.upto rowOrderSpec)) rowOrderUptoCard

/-- THE SECOND FORM's CARD OF 'mailsacklaw7.RowKeeps'. -/
def rowKeepsUptoCard : Claim7 := { stood := { row := rowKeepsUptoRow, standIns := [], harness := (true, "6f55990d9238e3b62604624f64a9bca85b432c20770d8e86decad88905b0cc7f"), looks := false }, kinds := [], alts := [], laidByText := true, laidKinds := [.data, .data, .data], laidTests := true, laidLooks := .later }
def RowKeepsUptoCardSaid : Prop := Claim7.holds Tryd.pinned (.plain (OpenSpec.upto rowKeepsSpec)) rowKeepsUptoCard

/-- THE SECOND FORM's CARD OF 'mailsacklaw7.RowMakes'. -/
def rowMakesUptoCard : Claim7 := { stood := { row := rowMakesUptoRow, standIns := [], harness := (true, "6f55990d9238e3b62604624f64a9bca85b432c20770d8e86decad88905b0cc7f"), looks := false }, kinds := [], alts := [], laidByText := true, laidKinds := [.data, .data, .data], laidTests := true, laidLooks := .later }
def RowMakesUptoCardSaid : Prop := Claim7.holds Tryd.pinned (.plain (OpenSpec.upto rowMakesSpec)) rowMakesUptoCard
end Rows
end Go.Proofs.YtmkkljbfmdngfaaDoor
