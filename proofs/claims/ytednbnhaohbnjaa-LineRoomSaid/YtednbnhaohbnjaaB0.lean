/- What the program's variables hold that are listed. No condition. -/
import GoSem.Core.World
set_option linter.all false
namespace Go.Proofs.Ytednbnhaohbnjaa
namespace B
/-- Facts on memory that hold whenever a function of the program is called: none here. -/
def Gl : Addr → Option Value := fun _ => none
end B
end Go.Proofs.Ytednbnhaohbnjaa
