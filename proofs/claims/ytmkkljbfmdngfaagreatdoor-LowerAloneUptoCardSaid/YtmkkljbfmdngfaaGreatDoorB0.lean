/- What the program's variables hold that are listed. No condition. -/
import GoSem.Core.World
import Derived.Lib.ItoaNum
set_option linter.all false
namespace Go.Proofs.YtmkkljbfmdngfaaGreatDoor
namespace B
def Gl:Addr→Option Value:=fun _=>none
def GzRow:Int→Nat→Option (Array Value):=fun m g=>if g=1 then some #[.int .i64 m] else if g=0 then some (Lib.pow10Tab.map fun z=>Value.int .u64 z).toArray else none
def mvF (f:Nat) :Bool:=[63,107,108].contains f
end B
end Go.Proofs.YtmkkljbfmdngfaaGreatDoor
