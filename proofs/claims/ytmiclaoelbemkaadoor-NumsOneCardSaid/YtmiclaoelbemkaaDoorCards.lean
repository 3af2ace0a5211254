/-
  DERIVED. GIVEN WITH THE SEED: THE CARDS: each row of YtmiclaoelbemkaaDoorRows.lean that lists a variable, with what it lists TIED to the program's text (the seventh form; the later family's looks); each row that meets fmt, with fmt's text TOLD by the authors' own Lean function (tested against real Go, not proved from fmt's source: count such statements apart). THE CARD IS WHAT COUNTS. Prove the row's statement (the work); the ties are given (YtmiclaoelbemkaaDoorTie.lean); close each card by the builder's one call (the guide's Derived/Test/ToyasCard.lean, 'card_holds'). Laid BY PROGRAM, IN A SANDBOX (cutbox-door.mjs). By AI agents, Wed Nov 11 2026. No macro, syntax, notation, axiom, sorry.
-/
import Derived.Test.YtmiclaoelbemkaaDoorRows
import GoSem.ClaimSeven
namespace Go.Proofs.YtmiclaoelbemkaaDoor
namespace Rows

/-- THE TIED CARD OF 'mailsacklaw4.NumsBack'. -/
def numsBackCard : Claim7 := { stood := { row := numsBackRow, standIns := [], harness := (true, "e9f70b744df9cc14fb3db9c7551cfdd0779abee12658482f9d969010c00b19ae"), looks := false }, kinds := [], alts := [], laidByText := true, laidKinds := [.data, .data, .data, .data, .pinned], laidTests := true, laidLooks := .later }
def NumsBackCardSaid : Prop := Claim7.holds Tryd.pinned (.plain (OpenSpec.ofChange numsBackSpec)) numsBackCard

/-- THE TIED CARD OF 'mailsacklaw4.NumsTurned'. -/
def numsTurnedCard : Claim7 := { stood := { row := numsTurnedRow, standIns := [], harness := (true, "e9f70b744df9cc14fb3db9c7551cfdd0779abee12658482f9d969010c00b19ae"), looks := false }, kinds := [], alts := [], laidByText := true, laidKinds := [.data, .data, .data, .data, .pinned], laidTests := true, laidLooks := .later }
def NumsTurnedCardSaid : Prop := Claim7.holds Tryd.pinned (.plain (OpenSpec.ofChange numsTurnedSpec)) numsTurnedCard

/-- THE TIED CARD OF 'mailsacklaw4.NumsMore'. -/
def numsMoreCard : Claim7 := { stood := { row := numsMoreRow, standIns := [], harness := (true, "e9f70b744df9cc14fb3db9c7551cfdd0779abee12658482f9d969010c00b19ae"), looks := false }, kinds := [], alts := [], laidByText := true, laidKinds := [.data, .data, .data, .data, .pinned], laidTests := true, laidLooks := .later }
def NumsMoreCardSaid : Prop := Claim7.holds Tryd.pinned (.plain (OpenSpec.ofChange numsMoreSpec)) numsMoreCard

/-- THE TIED CARD OF 'mailsacklaw4.NumsJoins'. -/
def numsJoinsCard : Claim7 := { stood := { row := numsJoinsRow, standIns := [], harness := (true, "e9f70b744df9cc14fb3db9c7551cfdd0779abee12658482f9d969010c00b19ae"), looks := false }, kinds := [], alts := [], laidByText := true, laidKinds := [.data, .data, .data, .data, .pinned], laidTests := true, laidLooks := .later }
def NumsJoinsCardSaid : Prop := Claim7.holds Tryd.pinned (.plain (OpenSpec.ofChange numsJoinsSpec)) numsJoinsCard

/-- THE TIED CARD OF 'mailsacklaw4.NumsOne'. -/
def numsOneCard : Claim7 := { stood := { row := numsOneRow, standIns := [], harness := (true, "e9f70b744df9cc14fb3db9c7551cfdd0779abee12658482f9d969010c00b19ae"), looks := false }, kinds := [], alts := [], laidByText := true, laidKinds := [.data, .data, .data, .data, .pinned], laidTests := true, laidLooks := .later }
def NumsOneCardSaid : Prop := Claim7.holds Tryd.pinned (.plain (OpenSpec.ofChange numsOneSpec)) numsOneCard

/-- THE SECOND FORM's CARD OF 'mailsacklaw4.NumsBack'. -/
def numsBackUptoCard : Claim7 := { stood := { row := numsBackUptoRow, standIns := [], harness := (true, "e9f70b744df9cc14fb3db9c7551cfdd0779abee12658482f9d969010c00b19ae"), looks := false }, kinds := [], alts := [], laidByText := true, laidKinds := [.data, .data, .data, .data, .pinned], laidTests := true, laidLooks := .later }
def NumsBackUptoCardSaid : Prop := Claim7.holds Tryd.pinned (.plain (OpenSpec.upto numsBackSpec)) numsBackUptoCard

/-- THE SECOND FORM's CARD OF 'mailsacklaw4.NumsTurned'. -/
def numsTurnedUptoCard : Claim7 := { stood := { row := numsTurnedUptoRow, standIns := [], harness := (true, "e9f70b744df9cc14fb3db9c7551cfdd0779abee12658482f9d969010c00b19ae"), looks := false }, kinds := [], alts := [], laidByText := true, laidKinds := [.data, .data, .data, .data, .pinned], laidTests := true, laidLooks := .later }
def NumsTurnedUptoCardSaid : Prop := Claim7.holds Tryd.pinned (.plain (OpenSpec.upto numsTurnedSpec)) numsTurnedUptoCard

/-- THE SECOND FORM's CARD OF 'mailsacklaw4.NumsMore'. -/
def numsMoreUptoCard : Claim7 := { stood := { row := numsMoreUptoRow, standIns := [], harness := (true, "e9f70b744df9cc14fb3db9c7551cfdd0779abee12658482f9d969010c00b19ae"), looks := false }, kinds := [], alts := [], laidByText := true, laidKinds := [.data, .data, .data, .data, .pinned], laidTests := true, laidLooks := .later }
def NumsMoreUptoCardSaid : Prop := Claim7.holds Tryd.pinned (.plain (OpenSpec.upto numsMoreSpec)) numsMoreUptoCard

/-- THE SECOND FORM's CARD OF 'mailsacklaw4.NumsJoins'. -/
def numsJoinsUptoCard : Claim7 := { stood := { row := numsJoinsUptoRow, standIns := [], harness := (true, "e9f70b744df9cc14fb3db9c7551cfdd0779abee12658482f9d969010c00b19ae"), looks := false }, kinds := [], alts := [], laidByText := true, laidKinds := [.data, .data, .data, .data, .pinned], laidTests := true, laidLooks := .later }
def NumsJoinsUptoCardSaid : Prop := Claim7.holds Tryd.pinned (.plain (OpenSpec.upto numsJoinsSpec)) numsJoinsUptoCard

/-- THE SECOND FORM's CARD OF 'mailsacklaw4.NumsOne'. -/
def numsOneUptoCard : Claim7 := { stood := { row := numsOneUptoRow, standIns := [], harness := (true, "e9f70b744df9cc14fb3db9c7551cfdd0779abee12658482f9d969010c00b19ae"), looks := false }, kinds := [], alts := [], laidByText := true, laidKinds := [.data, .data, .data, .data, .pinned], laidTests := true, laidLooks := .later }
def NumsOneUptoCardSaid : Prop := Claim7.holds Tryd.pinned (.plain (OpenSpec.upto numsOneSpec)) numsOneUptoCard
end Rows
end Go.Proofs.YtmiclaoelbemkaaDoor
