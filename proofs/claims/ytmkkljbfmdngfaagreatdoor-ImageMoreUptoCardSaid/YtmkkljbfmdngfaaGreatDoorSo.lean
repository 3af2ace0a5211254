/- Joined. -/
import Derived.Ground.Names2Prog
import Derived.Shelf.Sort.Plain
import Derived.Test.YtmkkljbfmdngfaaGreatDoorProg
set_option linter.all false
namespace Go.Proofs
open Go.Shelf
end Go.Proofs
