/- What the program's variables hold that are listed. No condition. -/
import GoSem.Core.World
set_option linter.all false
namespace Go.Proofs.Ytednbnhaohbnjaa
namespace B
/-- Facts on memory that hold whenever a function of the program is called: none here. -/
def Gl : Addr → Option Value := fun _ => none
/-- The rows of variables that are listed ('m': a number that nothing is told of): none here. -/
def GzRow : Int → Nat → Option (Array Value) := fun _ _ => none
/-- Functions that may move rows of their caller (boxes from 5000 on). -/
def mvF (f : Nat) : Bool := false
end B
end Go.Proofs.Ytednbnhaohbnjaa
