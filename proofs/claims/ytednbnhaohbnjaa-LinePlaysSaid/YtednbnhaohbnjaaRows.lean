/-
  No cell of these rows narrows 'for every input' (looked for: loops, veiled, ifaces, maps, wideKeys, modest, calm, conditions, laid).
  DERIVED. THE GIVEN ROWS OF THIS SEAT. 4 by the template 'for every input the law returns true; each argument reads behind the call as it read before'; 0 by the template 'total and deterministic' (their statements: YtednbnhaohbnjaaTotals.lean).
  GIVEN WITH THE SEED: the statements are not yours to turn. If you find one false, say at which input.
  Laid BY PROGRAM, IN A SANDBOX (cutbox-rows.mjs): the forced cells as the released guide's own fill.sh prints them over the translation 42430c7e7804b487… (all of the seat's roots in one cut). By AI agents, Wed Nov 11 2026. No macro, syntax, notation, axiom, sorry.
-/
import Derived.Test.YtednbnhaohbnjaaChecked
import GoSem.Claim
import GoSem.ClaimJoined
import GoSem.ClaimMapViews
import Derived.JoinedTies
import Derived.KernelRfl
namespace Go.Proofs.Ytednbnhaohbnjaa
/- THE CELL 'sum', in the pinned program and in every row, IS THE sha256 OF THE DUMP (.gsa) THAT YtednbnhaohbnjaaProg.lean LOADS. Nothing in Lean hashes anything: it is a label: what it is worth is what the hold of that sum in a sandbox is worth. -/
noncomputable def Try.pinned : Pinned := { name := "ytednbnhaohbnjaa", sum := "42430c7e7804b48739477b791bd458574e2bd1af2467da23232ba80088784d80", checked := Try.checked }
namespace Rows
def none {H : Type} : Left H := { results := [], args := [] }

/-- 'mailsacklaw2.LineTexts': WHATEVER THE INPUT: true; the input reads as it did. -/
def lineTextsSpec : ChangeSpec := { name := "lineTexts", fn := fun _ => fun
  | [d1, d2] => { results := [.lit (.bool true)], args := [d1, d2] }
  | _ => none }
def lineTextsRow : OpenClaim := { program := "ytednbnhaohbnjaa", sum := "42430c7e7804b48739477b791bd458574e2bd1af2467da23232ba80088784d80", func := "mailsack/mailsacklaw2.LineTexts", spec := "lineTexts", apart := false }
def LineTextsSaid : Prop := lineTextsRow.holds Try.pinned (OpenSpec.ofChange lineTextsSpec)

/-- ITS FALSE NEIGHBOUR: 'it returns false'. Refute it at one input. -/
def lineTextsWrong : ChangeSpec := { name := "lineTexts", fn := fun _ => fun
  | [d1, d2] => { results := [.lit (.bool false)], args := [d1, d2] }
  | _ => none }
def LineTextsWrongFalsely : Prop := lineTextsRow.holds Try.pinned (OpenSpec.ofChange lineTextsWrong)

/-- 'mailsacklaw2.LinePlays': WHATEVER THE INPUT: true; the input reads as it did. -/
def linePlaysSpec : ChangeSpec := { name := "linePlays", fn := fun _ => fun
  | [d1, d2] => { results := [.lit (.bool true)], args := [d1, d2] }
  | _ => none }
def linePlaysRow : OpenClaim := { program := "ytednbnhaohbnjaa", sum := "42430c7e7804b48739477b791bd458574e2bd1af2467da23232ba80088784d80", func := "mailsack/mailsacklaw2.LinePlays", spec := "linePlays", apart := false }
def LinePlaysSaid : Prop := linePlaysRow.holds Try.pinned (OpenSpec.ofChange linePlaysSpec)

/-- ITS FALSE NEIGHBOUR: 'it returns false'. Refute it at one input. -/
def linePlaysWrong : ChangeSpec := { name := "linePlays", fn := fun _ => fun
  | [d1, d2] => { results := [.lit (.bool false)], args := [d1, d2] }
  | _ => none }
def LinePlaysWrongFalsely : Prop := linePlaysRow.holds Try.pinned (OpenSpec.ofChange linePlaysWrong)

/-- 'mailsacklaw2.LineNil': WHATEVER THE INPUT: true; the input reads as it did. -/
def lineNilSpec : ChangeSpec := { name := "lineNil", fn := fun _ => fun
  | [d] => { results := [.lit (.bool true)], args := [d] }
  | _ => none }
def lineNilRow : OpenClaim := { program := "ytednbnhaohbnjaa", sum := "42430c7e7804b48739477b791bd458574e2bd1af2467da23232ba80088784d80", func := "mailsack/mailsacklaw2.LineNil", spec := "lineNil", apart := false }
def LineNilSaid : Prop := lineNilRow.holds Try.pinned (OpenSpec.ofChange lineNilSpec)

/-- ITS FALSE NEIGHBOUR: 'it returns false'. Refute it at one input. -/
def lineNilWrong : ChangeSpec := { name := "lineNil", fn := fun _ => fun
  | [d] => { results := [.lit (.bool false)], args := [d] }
  | _ => none }
def LineNilWrongFalsely : Prop := lineNilRow.holds Try.pinned (OpenSpec.ofChange lineNilWrong)

/-- 'mailsacklaw2.LineRoom': WHATEVER THE INPUT: true; the input reads as it did. -/
def lineRoomSpec : ChangeSpec := { name := "lineRoom", fn := fun _ => fun
  | [d1, d2] => { results := [.lit (.bool true)], args := [d1, d2] }
  | _ => none }
def lineRoomRow : OpenClaim := { program := "ytednbnhaohbnjaa", sum := "42430c7e7804b48739477b791bd458574e2bd1af2467da23232ba80088784d80", func := "mailsack/mailsacklaw2.LineRoom", spec := "lineRoom", apart := false }
def LineRoomSaid : Prop := lineRoomRow.holds Try.pinned (OpenSpec.ofChange lineRoomSpec)

/-- ITS FALSE NEIGHBOUR: 'it returns false'. Refute it at one input. -/
def lineRoomWrong : ChangeSpec := { name := "lineRoom", fn := fun _ => fun
  | [d1, d2] => { results := [.lit (.bool false)], args := [d1, d2] }
  | _ => none }
def LineRoomWrongFalsely : Prop := lineRoomRow.holds Try.pinned (OpenSpec.ofChange lineRoomWrong)

/- THE SECOND FORM. 'bulk': how many values and letters a reading holds, each counted each time it is reached (what is shared counts as often as it is met; a slice's spare places count too). A statement '..UptoSaid' is the law's where the arguments, and the package variables that the reading takes, are together of bulk at most 1048576: NARROWER than '..Said'. Prove '..Said' where nothing that the law and all that it calls make is longer than what came in: it says more and counts as full. Else prove '..UptoSaid'. A law counts once. -/
mutual
def uptoBulk {H : Type} : DataW H → Nat
  | .lit (.string bytes) => bytes.length + 1
  | .lit _ => 1
  | .nil => 1
  | .ptr d => uptoBulk d + 1
  | .slice elems spare => uptoBulkAll elems + uptoBulkAll spare + 1
  | .agg parts => uptoBulkAll parts + 1
  | .iface _ d => uptoBulk d + 1
  | .map entries => uptoBulkEntries entries + 1
  | .held _ => 1
def uptoBulkAll {H : Type} : List (DataW H) → Nat
  | [] => 0
  | d :: r => uptoBulk d + uptoBulkAll r
def uptoBulkEntries {H : Type} : List (Lit × DataW H) → Nat
  | [] => 0
  | x :: r => uptoBulkEntry x + uptoBulkEntries r
def uptoBulkEntry {H : Type} : Lit × DataW H → Nat
  | (.string bytes, d) => bytes.length + uptoBulk d + 1
  | (_, d) => uptoBulk d + 1
 end
def uptoSmall : (H : Type) → List (DataW H) → Bool := fun _ ds => decide (uptoBulkAll ds ≤ 1048576)
def OpenSpec.upto (s : _root_.Go.ChangeSpec) : _root_.Go.OpenSpec := { _root_.Go.OpenSpec.ofChange s with cond := some uptoSmall }

/-- 'mailsacklaw2.LineTexts', WHERE WHAT IT READS IS OF BULK AT MOST 1048576: true; the input reads as it did. -/
def lineTextsUptoRow : OpenClaim := { program := "ytednbnhaohbnjaa", sum := "42430c7e7804b48739477b791bd458574e2bd1af2467da23232ba80088784d80", func := "mailsack/mailsacklaw2.LineTexts", spec := "lineTexts", apart := false, narrowed := true }
def LineTextsUptoSaid : Prop := lineTextsUptoRow.holds Try.pinned (OpenSpec.upto lineTextsSpec)

/-- 'mailsacklaw2.LinePlays', WHERE WHAT IT READS IS OF BULK AT MOST 1048576: true; the input reads as it did. -/
def linePlaysUptoRow : OpenClaim := { program := "ytednbnhaohbnjaa", sum := "42430c7e7804b48739477b791bd458574e2bd1af2467da23232ba80088784d80", func := "mailsack/mailsacklaw2.LinePlays", spec := "linePlays", apart := false, narrowed := true }
def LinePlaysUptoSaid : Prop := linePlaysUptoRow.holds Try.pinned (OpenSpec.upto linePlaysSpec)

/-- 'mailsacklaw2.LineNil', WHERE WHAT IT READS IS OF BULK AT MOST 1048576: true; the input reads as it did. -/
def lineNilUptoRow : OpenClaim := { program := "ytednbnhaohbnjaa", sum := "42430c7e7804b48739477b791bd458574e2bd1af2467da23232ba80088784d80", func := "mailsack/mailsacklaw2.LineNil", spec := "lineNil", apart := false, narrowed := true }
def LineNilUptoSaid : Prop := lineNilUptoRow.holds Try.pinned (OpenSpec.upto lineNilSpec)

/-- 'mailsacklaw2.LineRoom', WHERE WHAT IT READS IS OF BULK AT MOST 1048576: true; the input reads as it did. -/
def lineRoomUptoRow : OpenClaim := { program := "ytednbnhaohbnjaa", sum := "42430c7e7804b48739477b791bd458574e2bd1af2467da23232ba80088784d80", func := "mailsack/mailsacklaw2.LineRoom", spec := "lineRoom", apart := false, narrowed := true }
def LineRoomUptoSaid : Prop := lineRoomUptoRow.holds Try.pinned (OpenSpec.upto lineRoomSpec)

end Rows
end Go.Proofs.Ytednbnhaohbnjaa
