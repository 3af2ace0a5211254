/- Readers: abstract texts and what their walks come to: printed by wip/B/gen. No condition. -/
import Derived.Test.YtmkkljbfmdngfaaDoorG1
import Derived.Test.YtmkkljbfmdngfaaDoorB30
import Derived.Test.YtmkkljbfmdngfaaDoorProg
import Derived.Shelf.RegionOpenPlain
import Derived.Lib.Strings
import Derived.Lib.Slices
import Derived.Lib.Walk
import Derived.Lib.Builder
import Derived.Lib.AppendStr
import Derived.Lib.UnsafeStr
import Derived.Lib.MakeNoZero
import Derived.WalkKit
import Derived.Laws.Externs
import Derived.Laws.IdiomCopy
import Derived.Laws.Tables
import Derived.KernelRfl
import Derived.Lib.FrozenHead
import Derived.Lib.FrozenHead2
import Derived.Test.YtmkkljbfmdngfaaDoorB31
set_option linter.all false
namespace Go.Proofs.YtmkkljbfmdngfaaDoor
namespace B
set_option maxRecDepth 100000
def af61 : AF := ⟨(.seq (.ops [⟨(some 2), (.mov (.c (.d .nilp)) true none), none⟩]) (.seq (.ops [⟨(some 3), (.mov (.t 0) false (some 1)), none⟩, ⟨(some 4), (.call 107 [((.t 3), (some 1))] none), none⟩, ⟨(some 5), (.build [(.d (.nils 1)), (.d (.int .i64 0))] [(0, (1, (.t 4)))]), none⟩, ⟨(some 6), (.box 2 true (.t 5)), none⟩, ⟨(some 2), (.mov (.t 6) true none), none⟩]) .ret)), [(.tm 2)], 1, 7⟩
theorem t61 : trF P HH 61 = some af61 := by kernel_rfl
def af63 : AF := ⟨(.seq (.ops [⟨(some 2), (.mov (.c (.d (.int .i64 0))) true none), none⟩]) (.seq (.seq (.ops [⟨(some 3), (.mov (.t 0) false none), none⟩, ⟨(some 4), (.ptrNil false (.t 3)), none⟩]) (.cond (.t 4) (.seq (.ops [⟨(some 2), (.mov (.c (.d (.int .i64 1))) true none), none⟩]) .ret) .skip)) (.seq (.ops [⟨(some 5), (.mov (.t 0) false none), none⟩, ⟨(some 6), (.nilCk (.t 5)), none⟩, ⟨(some 7), (.fieldA 1 (.t 6)), none⟩, ⟨(some 8), (.load false 1 (.t 7) true), none⟩, ⟨(some 2), (.mov (.t 8) true none), none⟩]) .ret))), [(.tm 2)], 1, 9⟩
theorem t63 : trF P HH 63 = some af63 := by kernel_rfl
def af64 : AF := ⟨(.seq (.ops [⟨(some 2), (.mov (.c (.d (.int .i64 0))) true none), none⟩]) (.seq (.seq (.ops [⟨(some 3), (.mov (.t 0) false none), none⟩, ⟨(some 4), (.ptrNil false (.t 3)), none⟩]) (.cond (.t 4) (.seq (.ops [⟨(some 2), (.mov (.c (.d (.int .i64 0))) true none), none⟩]) .ret) .skip)) (.seq (.ops [⟨(some 5), (.mov (.t 0) false none), none⟩, ⟨(some 6), (.nilCk (.t 5)), none⟩, ⟨(some 7), (.fieldA 0 (.t 6)), none⟩, ⟨(some 8), (.load false 1 (.t 7) false), none⟩, ⟨(some 9), (.len (.t 8)), none⟩, ⟨(some 2), (.mov (.t 9) true none), none⟩]) .ret))), [(.tm 2)], 1, 10⟩
theorem t64 : trF P HH 64 = some af64 := by kernel_rfl
def af66 : AF := ⟨(.seq (.ops [⟨(some 2), (.mov (.c (.d (.int .i64 0))) true none), none⟩]) (.seq (.seq (.ops [⟨(some 4), (.mov (.t 0) false none), none⟩, ⟨(some 5), (.nilCk (.t 4)), none⟩, ⟨(some 6), (.fieldA 1 (.t 5)), none⟩, ⟨(some 7), (.load false 1 (.t 6) false), none⟩, ⟨(some 8), (.bin false .eql (.t 7) (.c (.d (.int .i64 0)))), none⟩, ⟨(some 9), (.mov (.t 8) true none), none⟩, ⟨(some 10), (.mov (.t 0) false none), (some (9, true))⟩, ⟨(some 11), (.nilCk (.t 10)), (some (9, true))⟩, ⟨(some 12), (.fieldA 0 (.t 11)), (some (9, true))⟩, ⟨(some 13), (.load false 1 (.t 12) false), (some (9, true))⟩, ⟨(some 14), (.len (.t 13)), (some (9, true))⟩, ⟨(some 15), (.bin false .lss (.t 14) (.c (.d (.int .i64 4)))), (some (9, true))⟩, ⟨(some 16), (.pick (.t 9) (.t 15) (.c (.d (.bool false)))), none⟩]) (.cond (.t 16) (.ops [⟨(some 17), (.mov (.t 0) false none), none⟩, ⟨(some 18), (.call 69 [((.t 17), none), ((.c (.d (.int .i64 2))), none)] none), none⟩]) .skip)) (.seq (.seq (.ops [⟨(some 19), (.mov (.t 0) false none), none⟩, ⟨(some 20), (.nilCk (.t 19)), none⟩, ⟨(some 21), (.fieldA 1 (.t 20)), none⟩, ⟨(some 22), (.load false 1 (.t 21) false), none⟩, ⟨(some 23), (.bin false .neq (.t 22) (.c (.d (.int .i64 0)))), none⟩]) (.cond (.t 23) (.seq (.ops [⟨(some 2), (.mov (.c (.d (.int .i64 0))) true none), none⟩]) .ret) .skip)) (.seq (.draw [⟨(some 24), (.mov (.t 0) false none), none⟩, ⟨(some 25), (.nilCk (.t 24)), none⟩, ⟨(some 26), (.fieldA 0 (.t 25)), none⟩, ⟨(some 27), (.load false 1 (.t 26) false), none⟩, ⟨(some 28), (.idxA 1 (.t 27) (.c (.d (.int .i64 0)))), none⟩, ⟨(some 29), (.load false 1 (.t 28) false), none⟩, ⟨(some 30), (.convInt .i64 (.t 29)), none⟩, ⟨(some 31), (.bin false .shl (.t 30) (.c (.d (.int .u64 24)))), none⟩, ⟨(some 32), (.mov (.t 0) false none), none⟩, ⟨(some 33), (.nilCk (.t 32)), none⟩, ⟨(some 34), (.fieldA 0 (.t 33)), none⟩, ⟨(some 35), (.load false 1 (.t 34) false), none⟩, ⟨(some 36), (.idxA 1 (.t 35) (.c (.d (.int .i64 1)))), none⟩, ⟨(some 37), (.load false 1 (.t 36) false), none⟩, ⟨(some 38), (.convInt .i64 (.t 37)), none⟩, ⟨(some 39), (.bin false .shl (.t 38) (.c (.d (.int .u64 16)))), none⟩, ⟨(some 40), (.bin false .or (.t 31) (.t 39)), none⟩, ⟨(some 41), (.mov (.t 0) false none), none⟩, ⟨(some 42), (.nilCk (.t 41)), none⟩, ⟨(some 43), (.fieldA 0 (.t 42)), none⟩, ⟨(some 44), (.load false 1 (.t 43) false), none⟩, ⟨(some 45), (.idxA 1 (.t 44) (.c (.d (.int .i64 2)))), none⟩, ⟨(some 46), (.load false 1 (.t 45) false), none⟩, ⟨(some 47), (.convInt .i64 (.t 46)), none⟩, ⟨(some 48), (.bin false .shl (.t 47) (.c (.d (.int .u64 8)))), none⟩, ⟨(some 49), (.bin false .or (.t 40) (.t 48)), none⟩, ⟨(some 50), (.mov (.t 0) false none), none⟩, ⟨(some 51), (.nilCk (.t 50)), none⟩, ⟨(some 52), (.fieldA 0 (.t 51)), none⟩, ⟨(some 53), (.load false 1 (.t 52) false), none⟩, ⟨(some 54), (.idxA 1 (.t 53) (.c (.d (.int .i64 3)))), none⟩, ⟨(some 55), (.load false 1 (.t 54) false), none⟩, ⟨(some 56), (.convInt .i64 (.t 55)), none⟩, ⟨(some 57), (.bin false .or (.t 49) (.t 56)), none⟩, ⟨(some 3), (.mov (.t 57) true none), none⟩] [0, 0, 0, 0, 0, 0, 0, 0, 0, 0, 0, 0, 0, 0, 0, 0, 0, 0, 0, 0, 0, 0, 0, 0, 0, 0, 0, 0, 0, 0, 0, 0, 0, 3, 3] []) (.seq (.ops [⟨(some 58), (.mov (.t 0) false none), none⟩, ⟨(some 59), (.mov (.t 0) false none), none⟩, ⟨(some 60), (.nilCk (.t 59)), none⟩, ⟨(some 61), (.fieldA 0 (.t 60)), none⟩, ⟨(some 62), (.load false 1 (.t 61) false), none⟩, ⟨(some 63), (.slice 1 (.t 62) (some (.c (.d (.int .i64 4)))) none), none⟩, ⟨(some 64), (.nilCk (.t 58)), none⟩, ⟨(some 65), (.fieldA 0 (.t 64)), none⟩, ⟨none, (.store false 1 (.t 65) (.t 63) (some 1)), none⟩]) (.seq (.ops [⟨(some 66), (.mov (.t 3) true none), none⟩, ⟨(some 2), (.mov (.t 66) true none), none⟩]) .ret)))))), [(.tm 2)], 1, 67⟩
theorem t66 : trF P HH 66 = some af66 := by kernel_rfl
def af67 : AF := ⟨(.seq (.ops [⟨(some 4), (.mov (.c (.d (.str []))) true none), none⟩]) (.seq (.seq (.ops [⟨(some 9), (.mov (.t 0) false none), none⟩, ⟨(some 10), (.nilCk (.t 9)), none⟩, ⟨(some 11), (.fieldA 1 (.t 10)), none⟩, ⟨(some 12), (.load false 1 (.t 11) false), none⟩, ⟨(some 13), (.bin false .neq (.t 12) (.c (.d (.int .i64 0)))), none⟩]) (.cond (.t 13) (.seq (.ops [⟨(some 4), (.mov (.c (.d (.str []))) true none), none⟩]) .ret) .skip)) (.seq (.ops [⟨(some 15), (.mov (.t 0) false none), none⟩, ⟨(some 16), (.call 113 [((.t 15), none)] none), none⟩, ⟨(some 14), (.mov (.t 16) true none), none⟩, ⟨(some 17), (.extract (.t 14) 0 false), none⟩, ⟨(some 18), (.extract (.t 14) 1 false), none⟩, ⟨(some 19), (.extract (.t 14) 2 false), none⟩, ⟨(some 5), (.mov (.t 17) true none), none⟩, ⟨(some 6), (.mov (.t 18) true none), none⟩, ⟨(some 7), (.mov (.t 19) true none), none⟩]) (.seq (.block 0 (.seq (.ops [⟨(some 21), (.mov (.t 7) false none), none⟩, ⟨(some 22), (.bin false .neq (.t 21) (.c (.d (.int .i64 0)))), none⟩, ⟨(some 20), (.mov (.t 22) true none), none⟩]) (.cond (.t 20) .skip (.seq (.ops [⟨(some 24), (.mov (.t 5) false none), none⟩, ⟨(some 25), (.mov (.t 1) false none), none⟩, ⟨(some 26), (.bin false .gtr (.t 24) (.t 25)), none⟩, ⟨(some 23), (.mov (.t 26) true none), none⟩]) (.cond (.t 23) (.ops [⟨(some 7), (.mov (.c (.d (.int .i64 3))) true none), none⟩]) (.seq (.ops [⟨(some 28), (.mov (.t 5) false none), none⟩, ⟨(some 29), (.mov (.t 0) false none), none⟩, ⟨(some 30), (.nilCk (.t 29)), none⟩, ⟨(some 31), (.fieldA 0 (.t 30)), none⟩, ⟨(some 32), (.load false 1 (.t 31) false), none⟩, ⟨(some 33), (.len (.t 32)), none⟩, ⟨(some 34), (.mov (.t 6) false none), none⟩, ⟨(some 35), (.bin false .sub (.t 33) (.t 34)), none⟩, ⟨(some 36), (.bin false .gtr (.t 28) (.t 35)), none⟩, ⟨(some 27), (.mov (.t 36) true none), none⟩]) (.cond (.t 27) (.ops [⟨(some 7), (.mov (.c (.d (.int .i64 2))) true none), none⟩]) .skip))))))) (.seq (.seq (.ops [⟨(some 37), (.mov (.t 7) false none), none⟩, ⟨(some 38), (.bin false .neq (.t 37) (.c (.d (.int .i64 0)))), none⟩]) (.cond (.t 38) (.seq (.ops [⟨(some 39), (.mov (.t 0) false none), none⟩, ⟨(some 40), (.mov (.t 7) false none), none⟩, ⟨(some 41), (.call 69 [((.t 39), none), ((.t 40), none)] none), none⟩]) (.seq (.ops [⟨(some 4), (.mov (.c (.d (.str []))) true none), none⟩]) .ret)) .skip)) (.seq (.ops [⟨(some 42), (.mov (.t 0) false none), none⟩, ⟨(some 43), (.nilCk (.t 42)), none⟩, ⟨(some 44), (.fieldA 0 (.t 43)), none⟩, ⟨(some 45), (.load false 1 (.t 44) false), none⟩, ⟨(some 46), (.mov (.t 6) false none), none⟩, ⟨(some 47), (.mov (.t 6) false none), none⟩, ⟨(some 48), (.mov (.t 5) false none), none⟩, ⟨(some 49), (.bin false .add (.t 47) (.t 48)), none⟩, ⟨(some 50), (.slice 1 (.t 45) (some (.t 46)) (some (.t 49))), none⟩, ⟨(some 51), (.toStr (.t 50)), none⟩, ⟨(some 8), (.mov (.t 51) true none), none⟩]) (.seq (.ops [⟨(some 52), (.mov (.t 0) false none), none⟩, ⟨(some 53), (.mov (.t 0) false none), none⟩, ⟨(some 54), (.nilCk (.t 53)), none⟩, ⟨(some 55), (.fieldA 0 (.t 54)), none⟩, ⟨(some 56), (.load false 1 (.t 55) false), none⟩, ⟨(some 57), (.mov (.t 6) false none), none⟩, ⟨(some 58), (.mov (.t 5) false none), none⟩, ⟨(some 59), (.bin false .add (.t 57) (.t 58)), none⟩, ⟨(some 60), (.slice 1 (.t 56) (some (.t 59)) none), none⟩, ⟨(some 61), (.nilCk (.t 52)), none⟩, ⟨(some 62), (.fieldA 0 (.t 61)), none⟩, ⟨none, (.store false 1 (.t 62) (.t 60) (some 1)), none⟩]) (.seq (.ops [⟨(some 63), (.mov (.t 8) true none), none⟩, ⟨(some 4), (.mov (.t 63) true none), none⟩]) .ret)))))))), [(.tm 4)], 2, 64⟩
theorem t67 : trF P HH 67 = some af67 := by kernel_rfl
def af68 : AF := ⟨(.seq (.ops [⟨(some 2), (.mov (.c (.d (.int .i64 0))) true none), none⟩]) (.seq (.seq (.ops [⟨(some 4), (.mov (.t 0) false none), none⟩, ⟨(some 5), (.nilCk (.t 4)), none⟩, ⟨(some 6), (.fieldA 1 (.t 5)), none⟩, ⟨(some 7), (.load false 1 (.t 6) false), none⟩, ⟨(some 8), (.bin false .eql (.t 7) (.c (.d (.int .i64 0)))), none⟩, ⟨(some 9), (.mov (.t 8) true none), none⟩, ⟨(some 10), (.mov (.t 0) false none), (some (9, true))⟩, ⟨(some 11), (.nilCk (.t 10)), (some (9, true))⟩, ⟨(some 12), (.fieldA 0 (.t 11)), (some (9, true))⟩, ⟨(some 13), (.load false 1 (.t 12) false), (some (9, true))⟩, ⟨(some 14), (.len (.t 13)), (some (9, true))⟩, ⟨(some 15), (.bin false .lss (.t 14) (.c (.d (.int .i64 1)))), (some (9, true))⟩, ⟨(some 16), (.pick (.t 9) (.t 15) (.c (.d (.bool false)))), none⟩]) (.cond (.t 16) (.ops [⟨(some 17), (.mov (.t 0) false none), none⟩, ⟨(some 18), (.call 69 [((.t 17), none), ((.c (.d (.int .i64 2))), none)] none), none⟩]) .skip)) (.seq (.seq (.ops [⟨(some 19), (.mov (.t 0) false none), none⟩, ⟨(some 20), (.nilCk (.t 19)), none⟩, ⟨(some 21), (.fieldA 1 (.t 20)), none⟩, ⟨(some 22), (.load false 1 (.t 21) false), none⟩, ⟨(some 23), (.bin false .neq (.t 22) (.c (.d (.int .i64 0)))), none⟩]) (.cond (.t 23) (.seq (.ops [⟨(some 2), (.mov (.c (.d (.int .i64 0))) true none), none⟩]) .ret) .skip)) (.seq (.ops [⟨(some 24), (.mov (.t 0) false none), none⟩, ⟨(some 25), (.nilCk (.t 24)), none⟩, ⟨(some 26), (.fieldA 0 (.t 25)), none⟩, ⟨(some 27), (.load false 1 (.t 26) false), none⟩, ⟨(some 28), (.idxA 1 (.t 27) (.c (.d (.int .i64 0)))), none⟩, ⟨(some 29), (.load false 1 (.t 28) false), none⟩, ⟨(some 30), (.convInt .i64 (.t 29)), none⟩, ⟨(some 3), (.mov (.t 30) true none), none⟩]) (.seq (.ops [⟨(some 31), (.mov (.t 0) false none), none⟩, ⟨(some 32), (.mov (.t 0) false none), none⟩, ⟨(some 33), (.nilCk (.t 32)), none⟩, ⟨(some 34), (.fieldA 0 (.t 33)), none⟩, ⟨(some 35), (.load false 1 (.t 34) false), none⟩, ⟨(some 36), (.slice 1 (.t 35) (some (.c (.d (.int .i64 1)))) none), none⟩, ⟨(some 37), (.nilCk (.t 31)), none⟩, ⟨(some 38), (.fieldA 0 (.t 37)), none⟩, ⟨none, (.store false 1 (.t 38) (.t 36) (some 1)), none⟩]) (.seq (.ops [⟨(some 39), (.mov (.t 3) true none), none⟩, ⟨(some 2), (.mov (.t 39) true none), none⟩]) .ret)))))), [(.tm 2)], 1, 40⟩
theorem t68 : trF P HH 68 = some af68 := by kernel_rfl
def af69 : AF := ⟨(.seq (.ops [⟨(some 4), (.mov (.t 0) false none), none⟩, ⟨(some 5), (.nilCk (.t 4)), none⟩, ⟨(some 6), (.fieldA 1 (.t 5)), none⟩, ⟨(some 7), (.load false 1 (.t 6) false), none⟩, ⟨(some 8), (.bin false .eql (.t 7) (.c (.d (.int .i64 0)))), none⟩]) (.cond (.t 8) (.ops [⟨(some 9), (.mov (.t 0) false none), none⟩, ⟨(some 10), (.mov (.t 1) false none), none⟩, ⟨(some 11), (.nilCk (.t 9)), none⟩, ⟨(some 12), (.fieldA 1 (.t 11)), none⟩, ⟨none, (.store false 1 (.t 12) (.t 10) none), none⟩]) .skip)), [], 2, 13⟩
theorem t69 : trF P HH 69 = some af69 := by kernel_rfl
def af108 : AF := ⟨(.seq (.ops [⟨(some 2), (.mov (.c (.d (.int .i64 0))) true none), none⟩]) (.seq (.ops [⟨(some 3), (.mov (.t 0) false none), none⟩, ⟨(some 4), (.call 133 [((.t 3), none), ((.c (.d (.int .i64 4))), none)] none), none⟩, ⟨(some 2), (.mov (.t 4) true none), none⟩]) .ret)), [(.tm 2)], 1, 5⟩
theorem t108 : trF P HH 108 = some af108 := by kernel_rfl
def af110 : AF := ⟨(.seq (.ops [⟨(some 4), (.mov (.c (.d (.str []))) true none), none⟩]) (.seq (.seq (.ops [⟨(some 9), (.mov (.t 0) false none), none⟩, ⟨(some 10), (.call 134 [((.t 9), none)] none), none⟩]) (.cond (.t 10) (.seq (.ops [⟨(some 4), (.mov (.c (.d (.str []))) true none), none⟩]) .ret) .skip)) (.seq (.ops [⟨(some 12), (.mov (.t 0) false none), none⟩, ⟨(some 13), (.nilCk (.t 12)), none⟩, ⟨(some 14), (.fieldA 0 (.t 13)), none⟩, ⟨(some 15), (.load false 1 (.t 14) false), none⟩, ⟨(some 16), (.call 135 [((.t 15), (some 1))] none), none⟩, ⟨(some 11), (.mov (.t 16) true none), none⟩, ⟨(some 17), (.extract (.t 11) 0 false), none⟩, ⟨(some 18), (.extract (.t 11) 1 false), none⟩, ⟨(some 19), (.extract (.t 11) 2 false), none⟩, ⟨(some 5), (.mov (.t 17) true none), none⟩, ⟨(some 6), (.mov (.t 18) true none), none⟩, ⟨(some 7), (.mov (.t 19) true none), none⟩]) (.seq (.block 0 (.seq (.ops [⟨(some 21), (.mov (.t 7) false none), none⟩, ⟨(some 22), (.bin false .neq (.t 21) (.c (.d (.int .i64 0)))), none⟩, ⟨(some 20), (.mov (.t 22) true none), none⟩]) (.cond (.t 20) .skip (.seq (.ops [⟨(some 24), (.mov (.t 5) false none), none⟩, ⟨(some 25), (.mov (.t 1) false none), none⟩, ⟨(some 26), (.bin false .gtr (.t 24) (.t 25)), none⟩, ⟨(some 23), (.mov (.t 26) true none), none⟩]) (.cond (.t 23) (.ops [⟨(some 7), (.mov (.c (.d (.int .i64 3))) true none), none⟩]) (.seq (.ops [⟨(some 28), (.mov (.t 5) false none), none⟩, ⟨(some 29), (.mov (.t 0) false none), none⟩, ⟨(some 30), (.nilCk (.t 29)), none⟩, ⟨(some 31), (.fieldA 0 (.t 30)), none⟩, ⟨(some 32), (.load false 1 (.t 31) false), none⟩, ⟨(some 33), (.len (.t 32)), none⟩, ⟨(some 34), (.mov (.t 6) false none), none⟩, ⟨(some 35), (.bin false .sub (.t 33) (.t 34)), none⟩, ⟨(some 36), (.bin false .gtr (.t 28) (.t 35)), none⟩, ⟨(some 27), (.mov (.t 36) true none), none⟩]) (.cond (.t 27) (.ops [⟨(some 7), (.mov (.c (.d (.int .i64 2))) true none), none⟩]) .skip))))))) (.seq (.seq (.ops [⟨(some 37), (.mov (.t 7) false none), none⟩, ⟨(some 38), (.bin false .neq (.t 37) (.c (.d (.int .i64 0)))), none⟩]) (.cond (.t 38) (.seq (.ops [⟨(some 39), (.mov (.t 0) false none), none⟩, ⟨(some 40), (.mov (.t 7) false none), none⟩, ⟨(some 41), (.call 136 [((.t 39), none), ((.t 40), none)] none), none⟩]) (.seq (.ops [⟨(some 4), (.mov (.c (.d (.str []))) true none), none⟩]) .ret)) .skip)) (.seq (.ops [⟨(some 42), (.mov (.t 0) false none), none⟩, ⟨(some 43), (.nilCk (.t 42)), none⟩, ⟨(some 44), (.fieldA 0 (.t 43)), none⟩, ⟨(some 45), (.load false 1 (.t 44) false), none⟩, ⟨(some 46), (.mov (.t 6) false none), none⟩, ⟨(some 47), (.mov (.t 6) false none), none⟩, ⟨(some 48), (.mov (.t 5) false none), none⟩, ⟨(some 49), (.bin false .add (.t 47) (.t 48)), none⟩, ⟨(some 50), (.slice 1 (.t 45) (some (.t 46)) (some (.t 49))), none⟩, ⟨(some 51), (.toStr (.t 50)), none⟩, ⟨(some 8), (.mov (.t 51) true none), none⟩]) (.seq (.ops [⟨(some 52), (.mov (.t 0) false none), none⟩, ⟨(some 53), (.mov (.t 0) false none), none⟩, ⟨(some 54), (.nilCk (.t 53)), none⟩, ⟨(some 55), (.fieldA 0 (.t 54)), none⟩, ⟨(some 56), (.load false 1 (.t 55) false), none⟩, ⟨(some 57), (.mov (.t 6) false none), none⟩, ⟨(some 58), (.mov (.t 5) false none), none⟩, ⟨(some 59), (.bin false .add (.t 57) (.t 58)), none⟩, ⟨(some 60), (.slice 1 (.t 56) (some (.t 59)) none), none⟩, ⟨(some 61), (.nilCk (.t 52)), none⟩, ⟨(some 62), (.fieldA 0 (.t 61)), none⟩, ⟨none, (.store false 1 (.t 62) (.t 60) (some 1)), none⟩]) (.seq (.ops [⟨(some 63), (.mov (.t 8) true none), none⟩, ⟨(some 4), (.mov (.t 63) true none), none⟩]) .ret)))))))), [(.tm 4)], 2, 64⟩
theorem t110 : trF P HH 110 = some af110 := by kernel_rfl
def af113 : AF := ⟨(.seq (.ops [⟨(some 2), (.mov (.c (.d (.int .i64 0))) true none), none⟩, ⟨(some 3), (.mov (.c (.d (.int .i64 0))) true none), none⟩, ⟨(some 4), (.mov (.c (.d (.int .i64 0))) true none), none⟩]) (.seq (.ops [⟨(some 5), (.mov (.c (.d (.int .i64 0))) true none), none⟩]) (.seq (.seq (.ops [⟨(some 8), (.mov (.c (.d (.int .i64 0))) false none), none⟩]) (.block 0 (.loop (.seq (.ops [⟨(some 9), (.bin false .lss (.t 8) (.c (.d (.int .i64 6)))), none⟩]) (.seq (.cond (.t 9) .skip (.exit 0)) (.seq (.block 1 (.seq (.ops [⟨(some 10), (.mov (.t 8) true none), none⟩, ⟨(some 6), (.mov (.t 10) true none), none⟩]) (.seq (.seq (.ops [⟨(some 11), (.mov (.t 6) false none), none⟩, ⟨(some 12), (.mov (.t 0) false none), none⟩, ⟨(some 13), (.nilCk (.t 12)), none⟩, ⟨(some 14), (.fieldA 0 (.t 13)), none⟩, ⟨(some 15), (.load false 1 (.t 14) false), none⟩, ⟨(some 16), (.len (.t 15)), none⟩, ⟨(some 17), (.bin false .eql (.t 11) (.t 16)), none⟩]) (.cond (.t 17) (.seq (.ops [⟨(some 2), (.mov (.c (.d (.int .i64 0))) true none), none⟩, ⟨(some 3), (.mov (.c (.d (.int .i64 0))) true none), none⟩, ⟨(some 4), (.mov (.c (.d (.int .i64 2))) true none), none⟩]) .ret) .skip)) (.seq (.ops [⟨(some 18), (.mov (.t 0) false none), none⟩, ⟨(some 19), (.nilCk (.t 18)), none⟩, ⟨(some 20), (.fieldA 0 (.t 19)), none⟩, ⟨(some 21), (.load false 1 (.t 20) false), none⟩, ⟨(some 22), (.mov (.t 6) false none), none⟩, ⟨(some 23), (.idxA 1 (.t 21) (.t 22)), none⟩, ⟨(some 24), (.load false 1 (.t 23) false), none⟩, ⟨(some 25), (.convInt .i64 (.t 24)), none⟩, ⟨(some 7), (.mov (.t 25) true none), none⟩]) (.seq (.ops [⟨(some 26), (.mov (.t 5) false none), none⟩, ⟨(some 27), (.mov (.t 7) false none), none⟩, ⟨(some 28), (.bin false .and (.t 27) (.c (.d (.int .i64 127)))), none⟩, ⟨(some 29), (.mov (.t 6) false none), none⟩, ⟨(some 30), (.bin false .mul (.c (.d (.int .i64 7))) (.t 29)), none⟩, ⟨(some 31), (.convInt .u64 (.t 30)), none⟩, ⟨(some 32), (.bin false .shl (.t 28) (.t 31)), none⟩, ⟨(some 33), (.bin false .or (.t 26) (.t 32)), none⟩, ⟨(some 5), (.mov (.t 33) true none), none⟩]) (.seq (.ops [⟨(some 34), (.mov (.t 7) false none), none⟩, ⟨(some 35), (.bin false .lss (.t 34) (.c (.d (.int .i64 128)))), none⟩]) (.cond (.t 35) (.seq (.seq (.ops [⟨(some 36), (.mov (.t 7) false none), none⟩, ⟨(some 37), (.bin false .eql (.t 36) (.c (.d (.int .i64 0)))), none⟩, ⟨(some 38), (.mov (.t 37) true none), none⟩, ⟨(some 39), (.mov (.t 6) false none), (some (38, true))⟩, ⟨(some 40), (.bin false .gtr (.t 39) (.c (.d (.int .i64 0)))), (some (38, true))⟩, ⟨(some 41), (.pick (.t 38) (.t 40) (.c (.d (.bool false)))), none⟩, ⟨(some 42), (.mov (.t 41) true none), none⟩, ⟨(some 43), (.mov (.t 5) false none), (some (42, false))⟩, ⟨(some 44), (.bin false .gtr (.t 43) (.c (.d (.int .i64 1099511627776)))), (some (42, false))⟩, ⟨(some 45), (.pick (.t 42) (.c (.d (.bool true))) (.t 44)), none⟩]) (.cond (.t 45) (.seq (.ops [⟨(some 2), (.mov (.c (.d (.int .i64 0))) true none), none⟩, ⟨(some 3), (.mov (.c (.d (.int .i64 0))) true none), none⟩, ⟨(some 4), (.mov (.c (.d (.int .i64 3))) true none), none⟩]) .ret) .skip)) (.seq (.ops [⟨(some 46), (.mov (.t 5) true none), none⟩, ⟨(some 47), (.mov (.t 6) false none), none⟩, ⟨(some 48), (.bin false .add (.t 47) (.c (.d (.int .i64 1)))), none⟩, ⟨(some 2), (.mov (.t 46) true none), none⟩, ⟨(some 3), (.mov (.t 48) true none), none⟩, ⟨(some 4), (.mov (.c (.d (.int .i64 0))) true none), none⟩]) .ret)) .skip))))))) (.ops [⟨(some 49), (.bin false .add (.t 8) (.c (.d (.int .i64 1)))), none⟩, ⟨(some 8), (.mov (.t 49) true none), none⟩]))))))) (.seq (.ops [⟨(some 2), (.mov (.c (.d (.int .i64 0))) true none), none⟩, ⟨(some 3), (.mov (.c (.d (.int .i64 0))) true none), none⟩, ⟨(some 4), (.mov (.c (.d (.int .i64 3))) true none), none⟩]) .ret)))), [(.tm 2), (.tm 3), (.tm 4)], 1, 50⟩
theorem t113 : trF P HH 113 = some af113 := by kernel_rfl
def af133 : AF := ⟨(.seq (.ops [⟨(some 4), (.mov (.c (.d (.int .i64 0))) true none), none⟩]) (.seq (.seq (.ops [⟨(some 8), (.mov (.t 0) false none), none⟩, ⟨(some 9), (.call 134 [((.t 8), none)] none), none⟩]) (.cond (.t 9) (.seq (.ops [⟨(some 4), (.mov (.c (.d (.int .i64 0))) true none), none⟩]) .ret) .skip)) (.seq (.seq (.ops [⟨(some 10), (.mov (.t 0) false none), none⟩, ⟨(some 11), (.nilCk (.t 10)), none⟩, ⟨(some 12), (.fieldA 0 (.t 11)), none⟩, ⟨(some 13), (.load false 1 (.t 12) false), none⟩, ⟨(some 14), (.len (.t 13)), none⟩, ⟨(some 15), (.mov (.t 1) false none), none⟩, ⟨(some 16), (.bin false .lss (.t 14) (.t 15)), none⟩]) (.cond (.t 16) (.seq (.ops [⟨(some 17), (.mov (.t 0) false none), none⟩, ⟨(some 18), (.call 136 [((.t 17), none), ((.c (.d (.int .i64 2))), none)] none), none⟩]) (.seq (.ops [⟨(some 4), (.mov (.c (.d (.int .i64 0))) true none), none⟩]) .ret)) .skip)) (.seq (.ops [⟨(some 5), (.mov (.c (.d (.int .i64 0))) true none), none⟩]) (.seq (.seq (.ops [⟨(some 19), (.mov (.t 0) false none), none⟩, ⟨(some 20), (.nilCk (.t 19)), none⟩, ⟨(some 21), (.fieldA 0 (.t 20)), none⟩, ⟨(some 22), (.load false 1 (.t 21) false), none⟩, ⟨(some 23), (.mov (.t 1) false none), none⟩, ⟨(some 24), (.slice 1 (.t 22) none (some (.t 23))), none⟩, ⟨(some 25), (.len (.t 24)), none⟩, ⟨(some 26), (.mov (.c (.d (.int .i64 0))) false none), none⟩]) (.block 0 (.loop (.seq (.ops [⟨(some 27), (.bin false .lss (.t 26) (.t 25)), none⟩]) (.seq (.cond (.t 27) .skip (.exit 0)) (.seq (.block 1 (.seq (.ops [⟨(some 28), (.idxA 1 (.t 24) (.t 26)), none⟩, ⟨(some 29), (.load false 1 (.t 28) false), none⟩, ⟨(some 7), (.mov (.t 29) true none), none⟩]) (.ops [⟨(some 30), (.mov (.t 5) false none), none⟩, ⟨(some 31), (.bin false .shl (.t 30) (.c (.d (.int .u64 8)))), none⟩, ⟨(some 32), (.mov (.t 7) false none), none⟩, ⟨(some 33), (.convInt .i64 (.t 32)), none⟩, ⟨(some 34), (.bin false .or (.t 31) (.t 33)), none⟩, ⟨(some 5), (.mov (.t 34) true none), none⟩]))) (.ops [⟨(some 35), (.bin false .add (.t 26) (.c (.d (.int .i64 1)))), none⟩, ⟨(some 26), (.mov (.t 35) true none), none⟩]))))))) (.seq (.ops [⟨(some 36), (.mov (.t 0) false none), none⟩, ⟨(some 37), (.mov (.t 0) false none), none⟩, ⟨(some 38), (.nilCk (.t 37)), none⟩, ⟨(some 39), (.fieldA 0 (.t 38)), none⟩, ⟨(some 40), (.load false 1 (.t 39) false), none⟩, ⟨(some 41), (.mov (.t 1) false none), none⟩, ⟨(some 42), (.slice 1 (.t 40) (some (.t 41)) none), none⟩, ⟨(some 43), (.nilCk (.t 36)), none⟩, ⟨(some 44), (.fieldA 0 (.t 43)), none⟩, ⟨none, (.store false 1 (.t 44) (.t 42) (some 1)), none⟩]) (.seq (.ops [⟨(some 45), (.mov (.t 5) true none), none⟩, ⟨(some 4), (.mov (.t 45) true none), none⟩]) .ret))))))), [(.tm 4)], 2, 46⟩
theorem t133 : trF P HH 133 = some af133 := by kernel_rfl
def af134 : AF := ⟨(.seq (.ops [⟨(some 2), (.mov (.c (.d (.bool false))) true none), none⟩]) (.seq (.ops [⟨(some 3), (.mov (.t 0) false none), none⟩, ⟨(some 4), (.ptrNil false (.t 3)), none⟩, ⟨(some 5), (.mov (.t 4) true none), none⟩, ⟨(some 6), (.mov (.t 0) false none), (some (5, false))⟩, ⟨(some 7), (.nilCk (.t 6)), (some (5, false))⟩, ⟨(some 8), (.fieldA 1 (.t 7)), (some (5, false))⟩, ⟨(some 9), (.load false 1 (.t 8) false), (some (5, false))⟩, ⟨(some 10), (.bin false .neq (.t 9) (.c (.d (.int .i64 0)))), (some (5, false))⟩, ⟨(some 11), (.pick (.t 5) (.c (.d (.bool true))) (.t 10)), none⟩, ⟨(some 2), (.mov (.t 11) true none), none⟩]) .ret)), [(.tm 2)], 1, 12⟩
theorem t134 : trF P HH 134 = some af134 := by kernel_rfl
def af135 : AF := ⟨(.seq (.ops [⟨(some 2), (.mov (.c (.d (.int .i64 0))) true none), none⟩, ⟨(some 3), (.mov (.c (.d (.int .i64 0))) true none), none⟩, ⟨(some 4), (.mov (.c (.d (.int .i64 0))) true none), none⟩]) (.seq (.ops [⟨(some 5), (.mov (.c (.d (.int .i64 0))) true none), none⟩]) (.seq (.seq (.ops [⟨(some 7), (.mov (.c (.d (.int .i64 0))) false none), none⟩]) (.block 0 (.loop (.seq (.ops [⟨(some 8), (.bin false .lss (.t 7) (.c (.d (.int .i64 6)))), none⟩]) (.seq (.cond (.t 8) .skip (.exit 0)) (.seq (.block 1 (.seq (.ops [⟨(some 9), (.mov (.t 7) true none), none⟩, ⟨(some 6), (.mov (.t 9) true none), none⟩]) (.seq (.seq (.ops [⟨(some 10), (.mov (.t 6) false none), none⟩, ⟨(some 11), (.mov (.t 0) false (some 1)), none⟩, ⟨(some 12), (.len (.t 11)), none⟩, ⟨(some 13), (.bin false .eql (.t 10) (.t 12)), none⟩]) (.cond (.t 13) (.seq (.ops [⟨(some 2), (.mov (.c (.d (.int .i64 0))) true none), none⟩, ⟨(some 3), (.mov (.c (.d (.int .i64 0))) true none), none⟩, ⟨(some 4), (.mov (.c (.d (.int .i64 2))) true none), none⟩]) .ret) .skip)) (.seq (.ops [⟨(some 14), (.mov (.t 5) false none), none⟩, ⟨(some 15), (.mov (.t 0) false (some 1)), none⟩, ⟨(some 16), (.mov (.t 6) false none), none⟩, ⟨(some 17), (.idxA 1 (.t 15) (.t 16)), none⟩, ⟨(some 18), (.load false 1 (.t 17) false), none⟩, ⟨(some 19), (.bin false .and (.t 18) (.c (.d (.int .u8 127)))), none⟩, ⟨(some 20), (.convInt .i64 (.t 19)), none⟩, ⟨(some 21), (.mov (.t 6) false none), none⟩, ⟨(some 22), (.bin false .mul (.c (.d (.int .i64 7))) (.t 21)), none⟩, ⟨(some 23), (.bin false .shl (.t 20) (.t 22)), none⟩, ⟨(some 24), (.bin false .or (.t 14) (.t 23)), none⟩, ⟨(some 5), (.mov (.t 24) true none), none⟩]) (.seq (.seq (.ops [⟨(some 25), (.mov (.t 0) false (some 1)), none⟩, ⟨(some 26), (.mov (.t 6) false none), none⟩, ⟨(some 27), (.idxA 1 (.t 25) (.t 26)), none⟩, ⟨(some 28), (.load false 1 (.t 27) false), none⟩, ⟨(some 29), (.bin false .geq (.t 28) (.c (.d (.int .u8 128)))), none⟩]) (.cond (.t 29) (.exit 1) .skip)) (.seq (.seq (.ops [⟨(some 30), (.mov (.t 0) false (some 1)), none⟩, ⟨(some 31), (.mov (.t 6) false none), none⟩, ⟨(some 32), (.idxA 1 (.t 30) (.t 31)), none⟩, ⟨(some 33), (.load false 1 (.t 32) false), none⟩, ⟨(some 34), (.bin false .eql (.t 33) (.c (.d (.int .u8 0)))), none⟩, ⟨(some 35), (.mov (.t 34) true none), none⟩, ⟨(some 36), (.mov (.t 6) false none), (some (35, true))⟩, ⟨(some 37), (.bin false .gtr (.t 36) (.c (.d (.int .i64 0)))), (some (35, true))⟩, ⟨(some 38), (.pick (.t 35) (.t 37) (.c (.d (.bool false)))), none⟩, ⟨(some 39), (.mov (.t 38) true none), none⟩, ⟨(some 40), (.mov (.t 5) false none), (some (39, false))⟩, ⟨(some 41), (.bin false .gtr (.t 40) (.c (.d (.int .i64 1099511627776)))), (some (39, false))⟩, ⟨(some 42), (.pick (.t 39) (.c (.d (.bool true))) (.t 41)), none⟩]) (.cond (.t 42) (.seq (.ops [⟨(some 2), (.mov (.c (.d (.int .i64 0))) true none), none⟩, ⟨(some 3), (.mov (.c (.d (.int .i64 0))) true none), none⟩, ⟨(some 4), (.mov (.c (.d (.int .i64 3))) true none), none⟩]) .ret) .skip)) (.seq (.ops [⟨(some 43), (.mov (.t 5) true none), none⟩, ⟨(some 44), (.mov (.t 6) false none), none⟩, ⟨(some 45), (.bin false .add (.t 44) (.c (.d (.int .i64 1)))), none⟩, ⟨(some 2), (.mov (.t 43) true none), none⟩, ⟨(some 3), (.mov (.t 45) true none), none⟩, ⟨(some 4), (.mov (.c (.d (.int .i64 0))) true none), none⟩]) .ret))))))) (.ops [⟨(some 46), (.bin false .add (.t 7) (.c (.d (.int .i64 1)))), none⟩, ⟨(some 7), (.mov (.t 46) true none), none⟩]))))))) (.seq (.ops [⟨(some 2), (.mov (.c (.d (.int .i64 0))) true none), none⟩, ⟨(some 3), (.mov (.c (.d (.int .i64 0))) true none), none⟩, ⟨(some 4), (.mov (.c (.d (.int .i64 3))) true none), none⟩]) .ret)))), [(.tm 2), (.tm 3), (.tm 4)], 1, 47⟩
theorem t135 : trF P HH 135 = some af135 := by kernel_rfl
def af136 : AF := ⟨(.ops [⟨(some 4), (.mov (.t 0) false none), none⟩, ⟨(some 5), (.mov (.t 1) false none), none⟩, ⟨(some 6), (.nilCk (.t 4)), none⟩, ⟨(some 7), (.fieldA 1 (.t 6)), none⟩, ⟨none, (.store false 1 (.t 7) (.t 5) none), none⟩]), [], 2, 8⟩
theorem t136 : trF P HH 136 = some af136 := by kernel_rfl
def af137 : AF := ⟨(.seq (.ops [⟨(some 2), (.mov (.c (.d (.int .i64 0))) true none), none⟩]) (.seq (.ops [⟨(some 3), (.mov (.t 0) false none), none⟩, ⟨(some 4), (.call 133 [((.t 3), none), ((.c (.d (.int .i64 1))), none)] none), none⟩, ⟨(some 2), (.mov (.t 4) true none), none⟩]) .ret)), [(.tm 2)], 1, 5⟩
theorem t137 : trF P HH 137 = some af137 := by kernel_rfl
theorem vc63 (l0 : List D) (n1 : Int) (res : CV) (objs' : List (Nat × List CV)) : walkA P (tbF P [102,103,50,48,53,56,105,58,107] [] 63) (anOf af63 [(0, 1000, 0)]) af63 [CV.ptr (1000 : Nat) (0 : Nat)] [(1000, [CV.own 1 l0, CV.d (D.int .i64 n1)])] (fun rs => endE rs res objs') = ((((false) = true → EndR (CV.d (D.int .i64 (1 : Int))) res [(1000, [CV.own 1 l0, CV.d (D.int .i64 n1)])] objs') ∧ ((false) = false → EndR (CV.d (D.int .i64 n1)) res [(1000, [CV.own 1 l0, CV.d (D.int .i64 n1)])] objs'))) := by kernel_rfl
theorem vc64 (l0 : List D) (n1 : Int) (res : CV) (objs' : List (Nat × List CV)) : walkA P (tbF P [102,103,50,48,53,56,105,58,107] [] 64) (anOf af64 [(0, 1000, 0)]) af64 [CV.ptr (1000 : Nat) (0 : Nat)] [(1000, [CV.own 1 l0, CV.d (D.int .i64 n1)])] (fun rs => endE rs res objs') = ((((false) = true → EndR (CV.d (D.int .i64 (0 : Int))) res [(1000, [CV.own 1 l0, CV.d (D.int .i64 n1)])] objs') ∧ ((false) = false → EndR (CV.d (D.int .i64 (nI (List.length l0)))) res [(1000, [CV.own 1 l0, CV.d (D.int .i64 n1)])] objs'))) := by kernel_rfl
theorem vc61 (l0 : List D) (res : CV) (objs' : List (Nat × List CV)) : walkA P (tbF P [102,103,50,48,53,56,105,58,107] [] 61) (anOf af61 []) af61 [CV.d (D.slice 1 l0)] [] (fun rs => endE rs res objs') = ((∃ l1 : List D, ((Runs P 107 [CV.d (D.slice 1 l0)] [] (CV.own 1 l1) []) ∧ EndR (CV.ptr (6 : Nat) (0 : Nat)) res [(6, [CV.d (D.slice 1 l1), CV.d (D.int .i64 0)])] objs'))) := by kernel_rfl
theorem vc134 (l : List D) (e : Int) (res : CV) (objs' : List (Nat × List CV)) : walkA P (tbF P [102,103,50,48,53,56,105,58,107] [] 134) (anOf af134 [(0, 1000, 0)]) af134 [CV.ptr (1000 : Nat) (0 : Nat)] [(1000, [CV.d (D.slice 1 l), CV.d (D.int .i64 e)])] (fun rs => endE rs res objs') = ((∀ b2 : Bool, ((false || e != 0) = b2 → EndR (CV.d (D.bool b2)) res [(1000, [CV.d (D.slice 1 l), CV.d (D.int .i64 e)])] objs'))) := by kernel_rfl
theorem vc136 (l : List D) (e : Int) (n : Int) (res : CV) (objs' : List (Nat × List CV)) : walkA P (tbF P [102,103,50,48,53,56,105,58,107] [] 136) (anOf af136 [(0, 1000, 0)]) af136 [CV.ptr 1000 0, CV.d (D.int .i64 n)] [(1000, [CV.d (D.slice 1 l), CV.d (D.int .i64 e)])] (fun rs => endE rs res objs') = (EndR (CV.tup []) res [(1000, [CV.d (D.slice 1 l), CV.d (D.int .i64 n)])] objs') := by kernel_rfl
theorem vc63r (l : List D) (e : Int) (res : CV) (objs' : List (Nat × List CV)) : walkA P (tbF P [102,103,50,48,53,56,105,58,107] [] 63) (anOf af63 [(0, 1000, 0)]) af63 [CV.ptr (1000 : Nat) (0 : Nat)] [(1000, [CV.d (D.slice 1 l), CV.d (D.int .i64 e)])] (fun rs => endE rs res objs') = ((((false) = true → EndR (CV.d (D.int .i64 (1 : Int))) res [(1000, [CV.d (D.slice 1 l), CV.d (D.int .i64 e)])] objs') ∧ ((false) = false → EndR (CV.d (D.int .i64 e)) res [(1000, [CV.d (D.slice 1 l), CV.d (D.int .i64 e)])] objs'))) := by kernel_rfl
theorem vc64r (l : List D) (e : Int) (res : CV) (objs' : List (Nat × List CV)) : walkA P (tbF P [102,103,50,48,53,56,105,58,107] [] 64) (anOf af64 [(0, 1000, 0)]) af64 [CV.ptr (1000 : Nat) (0 : Nat)] [(1000, [CV.d (D.slice 1 l), CV.d (D.int .i64 e)])] (fun rs => endE rs res objs') = ((((false) = true → EndR (CV.d (D.int .i64 (0 : Int))) res [(1000, [CV.d (D.slice 1 l), CV.d (D.int .i64 e)])] objs') ∧ ((false) = false → EndR (CV.d (D.int .i64 (nI (List.length l)))) res [(1000, [CV.d (D.slice 1 l), CV.d (D.int .i64 e)])] objs'))) := by kernel_rfl
theorem vc133 (l : List D) (e : Int) (n : Int) (res : CV) (objs' : List (Nat × List CV)) : walkA P (tbF P [102,103,50,48,53,56,105,58,107] [] 133) (anOf af133 [(0, 1000, 0)]) af133 [CV.ptr 1000 0, CV.d (D.int .i64 n)] [(1000, [CV.d (D.slice 1 l), CV.d (D.int .i64 e)])] (fun rs => endE rs res objs') = ((∃ l3 : List D, (∃ n4 : Int, (∃ b5 : Bool, ((Runs P 134 [CV.ptr 1000 0] [(1000, [CV.d (D.slice 1 l), CV.d (D.int .i64 e)])] (CV.d (D.bool b5)) [(1000, [CV.d (D.slice 1 l3), CV.d (D.int .i64 n4)])]) ∧ (((b5) = true → EndR (CV.d (D.int .i64 (0 : Int))) res [(1000, [CV.d (D.slice 1 l3), CV.d (D.int .i64 n4)])] objs') ∧ ((b5) = false → (((decide (nI (List.length l3) < n)) = true → (∃ l6 : List D, (∃ n7 : Int, ((Runs P 136 [CV.ptr 1000 0, CV.d (D.int .i64 2)] [(1000, [CV.d (D.slice 1 l3), CV.d (D.int .i64 n4)])] (CV.tup []) [(1000, [CV.d (D.slice 1 l6), CV.d (D.int .i64 n7)])]) ∧ EndR (CV.d (D.int .i64 (0 : Int))) res [(1000, [CV.d (D.slice 1 l6), CV.d (D.int .i64 n7)])] objs')))) ∧ ((decide (nI (List.length l3) < n)) = false → ((0 ≤ nI 0 ∧ nI 0 ≤ n ∧ n ≤ nI (List.length l3)) ∧ (∀ l8 : List D, (List.drop (Int.toNat (nI 0)) (List.take (Int.toNat n) l3) = l8 → (∃ I9 : (Int → (Int → (Nat → Prop))), ((∃ k10 : Nat, I9 0 0 k10) ∧ (∀ n11 : Int, (∀ n12 : Int, (∀ k13 : Nat, (I9 n11 n12 k13 → (((decide (n12 < nI (List.length l8))) = true → ((0 ≤ n12 ∧ n12 < nI (List.length l8)) ∧ (∃ n14 : Int, ((D.cells (List.getD l8 (Int.toNat n12) D.nilp) = [D.int .u8 n14]) ∧ (((0 : Int) ≤ (8 : Int)) ∧ (∀ n15 : Int, (Go.IntKind.wrap Go.IntKind.i64 (n11 * 2 ^ Min.min (Int.toNat 8) (Go.IntKind.bits .i64)) = n15 → (∀ n16 : Int, (Go.IntKind.wrap Go.IntKind.i64 n14 = n16 → (∀ n17 : Int, (Go.IntKind.wrap Go.IntKind.i64 (nI (BitVec.toNat (BitVec.ofInt (Go.IntKind.bits .i64) n15 ||| BitVec.ofInt (Go.IntKind.bits .i64) n16))) = n17 → (∀ n18 : Int, (Go.IntKind.wrap Go.IntKind.i64 (n12 + 1) = n18 → (∃ k19 : Nat, ((k19 < k13) ∧ I9 n17 n18 k19))))))))))))))) ∧ ((decide (n12 < nI (List.length l8))) = false → ((0 ≤ n ∧ n ≤ nI (List.length l3) ∧ nI (List.length l3) ≤ nI (List.length l3)) ∧ (∀ l20 : List D, (List.drop (Int.toNat n) (List.take (Int.toNat (nI (List.length l3))) l3) = l20 → EndR (CV.d (D.int .i64 n11)) res [(1000, [CV.d (D.slice 1 l20), CV.d (D.int .i64 n4)])] objs'))))))))))))))))))))))) := by kernel_rfl
theorem vc108 (l : List D) (e : Int) (res : CV) (objs' : List (Nat × List CV)) : walkA P (tbF P [102,103,50,48,53,56,105,58,107] [] 108) (anOf af108 [(0, 1000, 0)]) af108 [CV.ptr (1000 : Nat) (0 : Nat)] [(1000, [CV.d (D.slice 1 l), CV.d (D.int .i64 e)])] (fun rs => endE rs res objs') = ((∃ l2 : List D, (∃ n3 : Int, (∃ n4 : Int, ((Runs P 133 [CV.ptr 1000 0, CV.d (D.int .i64 4)] [(1000, [CV.d (D.slice 1 l), CV.d (D.int .i64 e)])] (CV.d (D.int .i64 n4)) [(1000, [CV.d (D.slice 1 l2), CV.d (D.int .i64 n3)])]) ∧ EndR (CV.d (D.int .i64 n4)) res [(1000, [CV.d (D.slice 1 l2), CV.d (D.int .i64 n3)])] objs'))))) := by kernel_rfl
theorem vc137 (l : List D) (e : Int) (res : CV) (objs' : List (Nat × List CV)) : walkA P (tbF P [102,103,50,48,53,56,105,58,107] [] 137) (anOf af137 [(0, 1000, 0)]) af137 [CV.ptr (1000 : Nat) (0 : Nat)] [(1000, [CV.d (D.slice 1 l), CV.d (D.int .i64 e)])] (fun rs => endE rs res objs') = ((∃ l2 : List D, (∃ n3 : Int, (∃ n4 : Int, ((Runs P 133 [CV.ptr 1000 0, CV.d (D.int .i64 1)] [(1000, [CV.d (D.slice 1 l), CV.d (D.int .i64 e)])] (CV.d (D.int .i64 n4)) [(1000, [CV.d (D.slice 1 l2), CV.d (D.int .i64 n3)])]) ∧ EndR (CV.d (D.int .i64 n4)) res [(1000, [CV.d (D.slice 1 l2), CV.d (D.int .i64 n3)])] objs'))))) := by kernel_rfl
theorem vc135 (l0 : List D) (res : CV) (objs' : List (Nat × List CV)) : walkA P (tbF P [102,103,50,48,53,56,105,58,107] [] 135) (anOf af135 []) af135 [CV.d (D.slice 1 l0)] [] (fun rs => endE rs res objs') = ((∃ I1 : (Int → (Int → (Nat → Prop))), ((∃ k2 : Nat, I1 0 0 k2) ∧ (∀ n3 : Int, (∀ n4 : Int, (∀ k5 : Nat, (I1 n3 n4 k5 → (((decide (n3 < 6)) = true → (((n3 == nI (List.length l0)) = true → EndR (CV.tup [CV.d (D.int .i64 (0 : Int)), CV.d (D.int .i64 (0 : Int)), CV.d (D.int .i64 (2 : Int))]) res [] objs') ∧ ((n3 == nI (List.length l0)) = false → ((0 ≤ n3 ∧ n3 < nI (List.length l0)) ∧ (∃ n6 : Int, ((D.cells (List.getD l0 (Int.toNat n3) D.nilp) = [D.int .u8 n6]) ∧ (∀ n7 : Int, (Go.IntKind.wrap Go.IntKind.u8 (nI (BitVec.toNat (BitVec.ofInt (Go.IntKind.bits .u8) n6 &&& BitVec.ofInt (Go.IntKind.bits .u8) 127))) = n7 → (∀ n8 : Int, (Go.IntKind.wrap Go.IntKind.i64 n7 = n8 → (∀ n9 : Int, (Go.IntKind.wrap Go.IntKind.i64 (7 * n3) = n9 → ((0 ≤ n9) ∧ (∀ n10 : Int, (Go.IntKind.wrap Go.IntKind.i64 (n8 * 2 ^ Min.min (Int.toNat n9) (Go.IntKind.bits .i64)) = n10 → (∀ n11 : Int, (Go.IntKind.wrap Go.IntKind.i64 (nI (BitVec.toNat (BitVec.ofInt (Go.IntKind.bits .i64) n4 ||| BitVec.ofInt (Go.IntKind.bits .i64) n10))) = n11 → ((0 ≤ n3 ∧ n3 < nI (List.length l0)) ∧ (∃ n12 : Int, ((D.cells (List.getD l0 (Int.toNat n3) D.nilp) = [D.int .u8 n12]) ∧ (((decide (n12 ≥ 128)) = true → (∀ n13 : Int, (Go.IntKind.wrap Go.IntKind.i64 (n3 + 1) = n13 → (∃ k14 : Nat, ((k14 < k5) ∧ I1 n13 n11 k14))))) ∧ ((decide (n12 ≥ 128)) = false → ((0 ≤ n3 ∧ n3 < nI (List.length l0)) ∧ (∃ n15 : Int, ((D.cells (List.getD l0 (Int.toNat n3) D.nilp) = [D.int .u8 n15]) ∧ (∀ b16 : Bool, ((n15 == 0 && decide (n3 > 0)) = b16 → (∀ b17 : Bool, ((b16 || decide (n11 > 1099511627776)) = b17 → (((b17) = true → EndR (CV.tup [CV.d (D.int .i64 (0 : Int)), CV.d (D.int .i64 (0 : Int)), CV.d (D.int .i64 (3 : Int))]) res [] objs') ∧ ((b17) = false → (∀ n18 : Int, (Go.IntKind.wrap Go.IntKind.i64 (n3 + 1) = n18 → EndR (CV.tup [CV.d (D.int .i64 n11), CV.d (D.int .i64 n18), CV.d (D.int .i64 0)]) res [] objs'))))))))))))))))))))))))))))))))) ∧ ((decide (n3 < 6)) = false → EndR (CV.tup [CV.d (D.int .i64 (0 : Int)), CV.d (D.int .i64 (0 : Int)), CV.d (D.int .i64 (3 : Int))]) res [] objs'))))))))) := by kernel_rfl
theorem vc110 (l : List D) (e : Int) (n : Int) (res : CV) (objs' : List (Nat × List CV)) : walkA P (tbF P [102,103,50,48,53,56,105,58,107] [] 110) (anOf af110 [(0, 1000, 0)]) af110 [CV.ptr 1000 0, CV.d (D.int .i64 n)] [(1000, [CV.d (D.slice 1 l), CV.d (D.int .i64 e)])] (fun rs => endE rs res objs') = ((∃ l3 : List D, (∃ n4 : Int, (∃ b5 : Bool, ((Runs P 134 [CV.ptr 1000 0] [(1000, [CV.d (D.slice 1 l), CV.d (D.int .i64 e)])] (CV.d (D.bool b5)) [(1000, [CV.d (D.slice 1 l3), CV.d (D.int .i64 n4)])]) ∧ (((b5) = true → EndR (CV.d (D.str [])) res [(1000, [CV.d (D.slice 1 l3), CV.d (D.int .i64 n4)])] objs') ∧ ((b5) = false → (∃ n6 : Int, (∃ n7 : Int, (∃ n8 : Int, ((Runs P 135 [CV.d (D.slice 1 l3)] [] (CV.tup [CV.d (D.int .i64 n6), CV.d (D.int .i64 n7), CV.d (D.int .i64 n8)]) []) ∧ (((n8 != 0) = true → (((n8 != 0) = true → (∃ l9 : List D, (∃ n10 : Int, ((Runs P 136 [CV.ptr 1000 0, CV.d (D.int .i64 n8)] [(1000, [CV.d (D.slice 1 l3), CV.d (D.int .i64 n4)])] (CV.tup []) [(1000, [CV.d (D.slice 1 l9), CV.d (D.int .i64 n10)])]) ∧ EndR (CV.d (D.str [])) res [(1000, [CV.d (D.slice 1 l9), CV.d (D.int .i64 n10)])] objs')))) ∧ ((n8 != 0) = false → (∀ n11 : Int, (Go.IntKind.wrap Go.IntKind.i64 (n7 + n6) = n11 → ((0 ≤ n7 ∧ n7 ≤ n11 ∧ n11 ≤ nI (List.length l3)) ∧ (∀ l12 : List D, (List.drop (Int.toNat n7) (List.take (Int.toNat n11) l3) = l12 → (∃ s13 : Bytes, ((l12 = List.map byteD s13) ∧ (∀ n14 : Int, (Go.IntKind.wrap Go.IntKind.i64 (n7 + n6) = n14 → ((0 ≤ n14 ∧ n14 ≤ nI (List.length l3) ∧ nI (List.length l3) ≤ nI (List.length l3)) ∧ (∀ l15 : List D, (List.drop (Int.toNat n14) (List.take (Int.toNat (nI (List.length l3))) l3) = l15 → EndR (CV.d (D.str s13)) res [(1000, [CV.d (D.slice 1 l15), CV.d (D.int .i64 n4)])] objs'))))))))))))))) ∧ ((n8 != 0) = false → (((decide (n6 > n)) = true → (((3 != 0) = true → (∃ l16 : List D, (∃ n17 : Int, ((Runs P 136 [CV.ptr 1000 0, CV.d (D.int .i64 3)] [(1000, [CV.d (D.slice 1 l3), CV.d (D.int .i64 n4)])] (CV.tup []) [(1000, [CV.d (D.slice 1 l16), CV.d (D.int .i64 n17)])]) ∧ EndR (CV.d (D.str [])) res [(1000, [CV.d (D.slice 1 l16), CV.d (D.int .i64 n17)])] objs')))) ∧ ((3 != 0) = false → (∀ n18 : Int, (Go.IntKind.wrap Go.IntKind.i64 (n7 + n6) = n18 → ((0 ≤ n7 ∧ n7 ≤ n18 ∧ n18 ≤ nI (List.length l3)) ∧ (∀ l19 : List D, (List.drop (Int.toNat n7) (List.take (Int.toNat n18) l3) = l19 → (∃ s20 : Bytes, ((l19 = List.map byteD s20) ∧ (∀ n21 : Int, (Go.IntKind.wrap Go.IntKind.i64 (n7 + n6) = n21 → ((0 ≤ n21 ∧ n21 ≤ nI (List.length l3) ∧ nI (List.length l3) ≤ nI (List.length l3)) ∧ (∀ l22 : List D, (List.drop (Int.toNat n21) (List.take (Int.toNat (nI (List.length l3))) l3) = l22 → EndR (CV.d (D.str s20)) res [(1000, [CV.d (D.slice 1 l22), CV.d (D.int .i64 n4)])] objs'))))))))))))))) ∧ ((decide (n6 > n)) = false → (∀ n23 : Int, (Go.IntKind.wrap Go.IntKind.i64 (nI (List.length l3) - n7) = n23 → (((decide (n6 > n23)) = true → (((2 != 0) = true → (∃ l24 : List D, (∃ n25 : Int, ((Runs P 136 [CV.ptr 1000 0, CV.d (D.int .i64 2)] [(1000, [CV.d (D.slice 1 l3), CV.d (D.int .i64 n4)])] (CV.tup []) [(1000, [CV.d (D.slice 1 l24), CV.d (D.int .i64 n25)])]) ∧ EndR (CV.d (D.str [])) res [(1000, [CV.d (D.slice 1 l24), CV.d (D.int .i64 n25)])] objs')))) ∧ ((2 != 0) = false → (∀ n26 : Int, (Go.IntKind.wrap Go.IntKind.i64 (n7 + n6) = n26 → ((0 ≤ n7 ∧ n7 ≤ n26 ∧ n26 ≤ nI (List.length l3)) ∧ (∀ l27 : List D, (List.drop (Int.toNat n7) (List.take (Int.toNat n26) l3) = l27 → (∃ s28 : Bytes, ((l27 = List.map byteD s28) ∧ (∀ n29 : Int, (Go.IntKind.wrap Go.IntKind.i64 (n7 + n6) = n29 → ((0 ≤ n29 ∧ n29 ≤ nI (List.length l3) ∧ nI (List.length l3) ≤ nI (List.length l3)) ∧ (∀ l30 : List D, (List.drop (Int.toNat n29) (List.take (Int.toNat (nI (List.length l3))) l3) = l30 → EndR (CV.d (D.str s28)) res [(1000, [CV.d (D.slice 1 l30), CV.d (D.int .i64 n4)])] objs'))))))))))))))) ∧ ((decide (n6 > n23)) = false → (((n8 != 0) = true → (∃ l31 : List D, (∃ n32 : Int, ((Runs P 136 [CV.ptr 1000 0, CV.d (D.int .i64 n8)] [(1000, [CV.d (D.slice 1 l3), CV.d (D.int .i64 n4)])] (CV.tup []) [(1000, [CV.d (D.slice 1 l31), CV.d (D.int .i64 n32)])]) ∧ EndR (CV.d (D.str [])) res [(1000, [CV.d (D.slice 1 l31), CV.d (D.int .i64 n32)])] objs')))) ∧ ((n8 != 0) = false → (∀ n33 : Int, (Go.IntKind.wrap Go.IntKind.i64 (n7 + n6) = n33 → ((0 ≤ n7 ∧ n7 ≤ n33 ∧ n33 ≤ nI (List.length l3)) ∧ (∀ l34 : List D, (List.drop (Int.toNat n7) (List.take (Int.toNat n33) l3) = l34 → (∃ s35 : Bytes, ((l34 = List.map byteD s35) ∧ (∀ n36 : Int, (Go.IntKind.wrap Go.IntKind.i64 (n7 + n6) = n36 → ((0 ≤ n36 ∧ n36 ≤ nI (List.length l3) ∧ nI (List.length l3) ≤ nI (List.length l3)) ∧ (∀ l37 : List D, (List.drop (Int.toNat n36) (List.take (Int.toNat (nI (List.length l3))) l3) = l37 → EndR (CV.d (D.str s35)) res [(1000, [CV.d (D.slice 1 l37), CV.d (D.int .i64 n4)])] objs'))))))))))))))))))))))))))))))))) := by kernel_rfl
theorem vc66 (l : List D) (e : Int) (res : CV) (objs' : List (Nat × List CV)) : walkA P (tbF P [102,103,50,48,53,56,105,58,107] [] 66) (anOf af66 [(0, 1000, 0)]) af66 [CV.ptr (1000 : Nat) (0 : Nat)] [(1000, [CV.d (D.slice 1 l), CV.d (D.int .i64 e)])] (fun rs => endE rs res objs') = ((∀ b2 : Bool, ((e == 0 && decide (nI (List.length l) < 4)) = b2 → (((b2) = true → (∃ l3 : List D, (∃ n4 : Int, ((Runs P 69 [CV.ptr 1000 0, CV.d (D.int .i64 2)] [(1000, [CV.d (D.slice 1 l), CV.d (D.int .i64 e)])] (CV.tup []) [(1000, [CV.d (D.slice 1 l3), CV.d (D.int .i64 n4)])]) ∧ (((n4 != 0) = true → EndR (CV.d (D.int .i64 (0 : Int))) res [(1000, [CV.d (D.slice 1 l3), CV.d (D.int .i64 n4)])] objs') ∧ ((n4 != 0) = false → (((0 : Int) ≤ 0 ∧ 0 < nI (List.length l3)) ∧ (∃ n5 : Int, ((D.cells (List.getD l3 (Int.toNat 0) D.nilp) = [D.int .u8 n5]) ∧ (∀ n6 : Int, (Go.IntKind.wrap Go.IntKind.i64 n5 = n6 → (((0 : Int) ≤ (24 : Int)) ∧ (∀ n7 : Int, (Go.IntKind.wrap Go.IntKind.i64 (n6 * 2 ^ Min.min (Int.toNat 24) (Go.IntKind.bits .i64)) = n7 → (((0 : Int) ≤ 1 ∧ 1 < nI (List.length l3)) ∧ (∃ n8 : Int, ((D.cells (List.getD l3 (Int.toNat 1) D.nilp) = [D.int .u8 n8]) ∧ (∀ n9 : Int, (Go.IntKind.wrap Go.IntKind.i64 n8 = n9 → (((0 : Int) ≤ (16 : Int)) ∧ (∀ n10 : Int, (Go.IntKind.wrap Go.IntKind.i64 (n9 * 2 ^ Min.min (Int.toNat 16) (Go.IntKind.bits .i64)) = n10 → (∀ n11 : Int, (Go.IntKind.wrap Go.IntKind.i64 (nI (BitVec.toNat (BitVec.ofInt (Go.IntKind.bits .i64) n7 ||| BitVec.ofInt (Go.IntKind.bits .i64) n10))) = n11 → (((0 : Int) ≤ 2 ∧ 2 < nI (List.length l3)) ∧ (∃ n12 : Int, ((D.cells (List.getD l3 (Int.toNat 2) D.nilp) = [D.int .u8 n12]) ∧ (∀ n13 : Int, (Go.IntKind.wrap Go.IntKind.i64 n12 = n13 → (((0 : Int) ≤ (8 : Int)) ∧ (∀ n14 : Int, (Go.IntKind.wrap Go.IntKind.i64 (n13 * 2 ^ Min.min (Int.toNat 8) (Go.IntKind.bits .i64)) = n14 → (∀ n15 : Int, (Go.IntKind.wrap Go.IntKind.i64 (nI (BitVec.toNat (BitVec.ofInt (Go.IntKind.bits .i64) n11 ||| BitVec.ofInt (Go.IntKind.bits .i64) n14))) = n15 → (((0 : Int) ≤ 3 ∧ 3 < nI (List.length l3)) ∧ (∃ n16 : Int, ((D.cells (List.getD l3 (Int.toNat 3) D.nilp) = [D.int .u8 n16]) ∧ (∀ n17 : Int, (Go.IntKind.wrap Go.IntKind.i64 n16 = n17 → (∀ n18 : Int, (Go.IntKind.wrap Go.IntKind.i64 (nI (BitVec.toNat (BitVec.ofInt (Go.IntKind.bits .i64) n15 ||| BitVec.ofInt (Go.IntKind.bits .i64) n17))) = n18 → (((0 : Int) ≤ 4 ∧ 4 ≤ nI (List.length l3) ∧ nI (List.length l3) ≤ nI (List.length l3)) ∧ (∀ l19 : List D, (List.drop (Int.toNat 4) (List.take (Int.toNat (nI (List.length l3))) l3) = l19 → EndR (CV.d (D.int .i64 n18)) res [(1000, [CV.d (D.slice 1 l19), CV.d (D.int .i64 n4)])] objs')))))))))))))))))))))))))))))))))))))))))))) ∧ ((b2) = false → (((e != 0) = true → EndR (CV.d (D.int .i64 (0 : Int))) res [(1000, [CV.d (D.slice 1 l), CV.d (D.int .i64 e)])] objs') ∧ ((e != 0) = false → (((0 : Int) ≤ 0 ∧ 0 < nI (List.length l)) ∧ (∃ n20 : Int, ((D.cells (List.getD l (Int.toNat 0) D.nilp) = [D.int .u8 n20]) ∧ (∀ n21 : Int, (Go.IntKind.wrap Go.IntKind.i64 n20 = n21 → (((0 : Int) ≤ (24 : Int)) ∧ (∀ n22 : Int, (Go.IntKind.wrap Go.IntKind.i64 (n21 * 2 ^ Min.min (Int.toNat 24) (Go.IntKind.bits .i64)) = n22 → (((0 : Int) ≤ 1 ∧ 1 < nI (List.length l)) ∧ (∃ n23 : Int, ((D.cells (List.getD l (Int.toNat 1) D.nilp) = [D.int .u8 n23]) ∧ (∀ n24 : Int, (Go.IntKind.wrap Go.IntKind.i64 n23 = n24 → (((0 : Int) ≤ (16 : Int)) ∧ (∀ n25 : Int, (Go.IntKind.wrap Go.IntKind.i64 (n24 * 2 ^ Min.min (Int.toNat 16) (Go.IntKind.bits .i64)) = n25 → (∀ n26 : Int, (Go.IntKind.wrap Go.IntKind.i64 (nI (BitVec.toNat (BitVec.ofInt (Go.IntKind.bits .i64) n22 ||| BitVec.ofInt (Go.IntKind.bits .i64) n25))) = n26 → (((0 : Int) ≤ 2 ∧ 2 < nI (List.length l)) ∧ (∃ n27 : Int, ((D.cells (List.getD l (Int.toNat 2) D.nilp) = [D.int .u8 n27]) ∧ (∀ n28 : Int, (Go.IntKind.wrap Go.IntKind.i64 n27 = n28 → (((0 : Int) ≤ (8 : Int)) ∧ (∀ n29 : Int, (Go.IntKind.wrap Go.IntKind.i64 (n28 * 2 ^ Min.min (Int.toNat 8) (Go.IntKind.bits .i64)) = n29 → (∀ n30 : Int, (Go.IntKind.wrap Go.IntKind.i64 (nI (BitVec.toNat (BitVec.ofInt (Go.IntKind.bits .i64) n26 ||| BitVec.ofInt (Go.IntKind.bits .i64) n29))) = n30 → (((0 : Int) ≤ 3 ∧ 3 < nI (List.length l)) ∧ (∃ n31 : Int, ((D.cells (List.getD l (Int.toNat 3) D.nilp) = [D.int .u8 n31]) ∧ (∀ n32 : Int, (Go.IntKind.wrap Go.IntKind.i64 n31 = n32 → (∀ n33 : Int, (Go.IntKind.wrap Go.IntKind.i64 (nI (BitVec.toNat (BitVec.ofInt (Go.IntKind.bits .i64) n30 ||| BitVec.ofInt (Go.IntKind.bits .i64) n32))) = n33 → (((0 : Int) ≤ 4 ∧ 4 ≤ nI (List.length l) ∧ nI (List.length l) ≤ nI (List.length l)) ∧ (∀ l34 : List D, (List.drop (Int.toNat 4) (List.take (Int.toNat (nI (List.length l))) l) = l34 → EndR (CV.d (D.int .i64 n33)) res [(1000, [CV.d (D.slice 1 l34), CV.d (D.int .i64 e)])] objs'))))))))))))))))))))))))))))))))))))))))))))) := by kernel_rfl
theorem vc67 (l : List D) (e : Int) (n : Int) (res : CV) (objs' : List (Nat × List CV)) : walkA P (tbF P [102,103,50,48,53,56,105,58,107] [] 67) (anOf af67 [(0, 1000, 0)]) af67 [CV.ptr 1000 0, CV.d (D.int .i64 n)] [(1000, [CV.d (D.slice 1 l), CV.d (D.int .i64 e)])] (fun rs => endE rs res objs') = ((((e != 0) = true → EndR (CV.d (D.str [])) res [(1000, [CV.d (D.slice 1 l), CV.d (D.int .i64 e)])] objs') ∧ ((e != 0) = false → (∃ l3 : List D, (∃ n4 : Int, (∃ n5 : Int, (∃ n6 : Int, (∃ n7 : Int, ((Runs P 113 [CV.ptr 1000 0] [(1000, [CV.d (D.slice 1 l), CV.d (D.int .i64 e)])] (CV.tup [CV.d (D.int .i64 n5), CV.d (D.int .i64 n6), CV.d (D.int .i64 n7)]) [(1000, [CV.d (D.slice 1 l3), CV.d (D.int .i64 n4)])]) ∧ (((n7 != 0) = true → (((n7 != 0) = true → (∃ l8 : List D, (∃ n9 : Int, ((Runs P 69 [CV.ptr 1000 0, CV.d (D.int .i64 n7)] [(1000, [CV.d (D.slice 1 l3), CV.d (D.int .i64 n4)])] (CV.tup []) [(1000, [CV.d (D.slice 1 l8), CV.d (D.int .i64 n9)])]) ∧ EndR (CV.d (D.str [])) res [(1000, [CV.d (D.slice 1 l8), CV.d (D.int .i64 n9)])] objs')))) ∧ ((n7 != 0) = false → (∀ n10 : Int, (Go.IntKind.wrap Go.IntKind.i64 (n6 + n5) = n10 → ((0 ≤ n6 ∧ n6 ≤ n10 ∧ n10 ≤ nI (List.length l3)) ∧ (∀ l11 : List D, (List.drop (Int.toNat n6) (List.take (Int.toNat n10) l3) = l11 → (∃ s12 : Bytes, ((l11 = List.map byteD s12) ∧ (∀ n13 : Int, (Go.IntKind.wrap Go.IntKind.i64 (n6 + n5) = n13 → ((0 ≤ n13 ∧ n13 ≤ nI (List.length l3) ∧ nI (List.length l3) ≤ nI (List.length l3)) ∧ (∀ l14 : List D, (List.drop (Int.toNat n13) (List.take (Int.toNat (nI (List.length l3))) l3) = l14 → EndR (CV.d (D.str s12)) res [(1000, [CV.d (D.slice 1 l14), CV.d (D.int .i64 n4)])] objs'))))))))))))))) ∧ ((n7 != 0) = false → (((decide (n5 > n)) = true → (((3 != 0) = true → (∃ l15 : List D, (∃ n16 : Int, ((Runs P 69 [CV.ptr 1000 0, CV.d (D.int .i64 3)] [(1000, [CV.d (D.slice 1 l3), CV.d (D.int .i64 n4)])] (CV.tup []) [(1000, [CV.d (D.slice 1 l15), CV.d (D.int .i64 n16)])]) ∧ EndR (CV.d (D.str [])) res [(1000, [CV.d (D.slice 1 l15), CV.d (D.int .i64 n16)])] objs')))) ∧ ((3 != 0) = false → (∀ n17 : Int, (Go.IntKind.wrap Go.IntKind.i64 (n6 + n5) = n17 → ((0 ≤ n6 ∧ n6 ≤ n17 ∧ n17 ≤ nI (List.length l3)) ∧ (∀ l18 : List D, (List.drop (Int.toNat n6) (List.take (Int.toNat n17) l3) = l18 → (∃ s19 : Bytes, ((l18 = List.map byteD s19) ∧ (∀ n20 : Int, (Go.IntKind.wrap Go.IntKind.i64 (n6 + n5) = n20 → ((0 ≤ n20 ∧ n20 ≤ nI (List.length l3) ∧ nI (List.length l3) ≤ nI (List.length l3)) ∧ (∀ l21 : List D, (List.drop (Int.toNat n20) (List.take (Int.toNat (nI (List.length l3))) l3) = l21 → EndR (CV.d (D.str s19)) res [(1000, [CV.d (D.slice 1 l21), CV.d (D.int .i64 n4)])] objs'))))))))))))))) ∧ ((decide (n5 > n)) = false → (∀ n22 : Int, (Go.IntKind.wrap Go.IntKind.i64 (nI (List.length l3) - n6) = n22 → (((decide (n5 > n22)) = true → (((2 != 0) = true → (∃ l23 : List D, (∃ n24 : Int, ((Runs P 69 [CV.ptr 1000 0, CV.d (D.int .i64 2)] [(1000, [CV.d (D.slice 1 l3), CV.d (D.int .i64 n4)])] (CV.tup []) [(1000, [CV.d (D.slice 1 l23), CV.d (D.int .i64 n24)])]) ∧ EndR (CV.d (D.str [])) res [(1000, [CV.d (D.slice 1 l23), CV.d (D.int .i64 n24)])] objs')))) ∧ ((2 != 0) = false → (∀ n25 : Int, (Go.IntKind.wrap Go.IntKind.i64 (n6 + n5) = n25 → ((0 ≤ n6 ∧ n6 ≤ n25 ∧ n25 ≤ nI (List.length l3)) ∧ (∀ l26 : List D, (List.drop (Int.toNat n6) (List.take (Int.toNat n25) l3) = l26 → (∃ s27 : Bytes, ((l26 = List.map byteD s27) ∧ (∀ n28 : Int, (Go.IntKind.wrap Go.IntKind.i64 (n6 + n5) = n28 → ((0 ≤ n28 ∧ n28 ≤ nI (List.length l3) ∧ nI (List.length l3) ≤ nI (List.length l3)) ∧ (∀ l29 : List D, (List.drop (Int.toNat n28) (List.take (Int.toNat (nI (List.length l3))) l3) = l29 → EndR (CV.d (D.str s27)) res [(1000, [CV.d (D.slice 1 l29), CV.d (D.int .i64 n4)])] objs'))))))))))))))) ∧ ((decide (n5 > n22)) = false → (((n7 != 0) = true → (∃ l30 : List D, (∃ n31 : Int, ((Runs P 69 [CV.ptr 1000 0, CV.d (D.int .i64 n7)] [(1000, [CV.d (D.slice 1 l3), CV.d (D.int .i64 n4)])] (CV.tup []) [(1000, [CV.d (D.slice 1 l30), CV.d (D.int .i64 n31)])]) ∧ EndR (CV.d (D.str [])) res [(1000, [CV.d (D.slice 1 l30), CV.d (D.int .i64 n31)])] objs')))) ∧ ((n7 != 0) = false → (∀ n32 : Int, (Go.IntKind.wrap Go.IntKind.i64 (n6 + n5) = n32 → ((0 ≤ n6 ∧ n6 ≤ n32 ∧ n32 ≤ nI (List.length l3)) ∧ (∀ l33 : List D, (List.drop (Int.toNat n6) (List.take (Int.toNat n32) l3) = l33 → (∃ s34 : Bytes, ((l33 = List.map byteD s34) ∧ (∀ n35 : Int, (Go.IntKind.wrap Go.IntKind.i64 (n6 + n5) = n35 → ((0 ≤ n35 ∧ n35 ≤ nI (List.length l3) ∧ nI (List.length l3) ≤ nI (List.length l3)) ∧ (∀ l36 : List D, (List.drop (Int.toNat n35) (List.take (Int.toNat (nI (List.length l3))) l3) = l36 → EndR (CV.d (D.str s34)) res [(1000, [CV.d (D.slice 1 l36), CV.d (D.int .i64 n4)])] objs'))))))))))))))))))))))))))))))) := by kernel_rfl
theorem vc68 (l : List D) (e : Int) (res : CV) (objs' : List (Nat × List CV)) : walkA P (tbF P [102,103,50,48,53,56,105,58,107] [] 68) (anOf af68 [(0, 1000, 0)]) af68 [CV.ptr (1000 : Nat) (0 : Nat)] [(1000, [CV.d (D.slice 1 l), CV.d (D.int .i64 e)])] (fun rs => endE rs res objs') = ((∀ b2 : Bool, ((e == 0 && decide (nI (List.length l) < 1)) = b2 → (((b2) = true → (∃ l3 : List D, (∃ n4 : Int, ((Runs P 69 [CV.ptr 1000 0, CV.d (D.int .i64 2)] [(1000, [CV.d (D.slice 1 l), CV.d (D.int .i64 e)])] (CV.tup []) [(1000, [CV.d (D.slice 1 l3), CV.d (D.int .i64 n4)])]) ∧ (((n4 != 0) = true → EndR (CV.d (D.int .i64 (0 : Int))) res [(1000, [CV.d (D.slice 1 l3), CV.d (D.int .i64 n4)])] objs') ∧ ((n4 != 0) = false → (((0 : Int) ≤ 0 ∧ 0 < nI (List.length l3)) ∧ (∃ n5 : Int, ((D.cells (List.getD l3 (Int.toNat 0) D.nilp) = [D.int .u8 n5]) ∧ (∀ n6 : Int, (Go.IntKind.wrap Go.IntKind.i64 n5 = n6 → (((0 : Int) ≤ 1 ∧ 1 ≤ nI (List.length l3) ∧ nI (List.length l3) ≤ nI (List.length l3)) ∧ (∀ l7 : List D, (List.drop (Int.toNat 1) (List.take (Int.toNat (nI (List.length l3))) l3) = l7 → EndR (CV.d (D.int .i64 n6)) res [(1000, [CV.d (D.slice 1 l7), CV.d (D.int .i64 n4)])] objs')))))))))))))) ∧ ((b2) = false → (((e != 0) = true → EndR (CV.d (D.int .i64 (0 : Int))) res [(1000, [CV.d (D.slice 1 l), CV.d (D.int .i64 e)])] objs') ∧ ((e != 0) = false → (((0 : Int) ≤ 0 ∧ 0 < nI (List.length l)) ∧ (∃ n8 : Int, ((D.cells (List.getD l (Int.toNat 0) D.nilp) = [D.int .u8 n8]) ∧ (∀ n9 : Int, (Go.IntKind.wrap Go.IntKind.i64 n8 = n9 → (((0 : Int) ≤ 1 ∧ 1 ≤ nI (List.length l) ∧ nI (List.length l) ≤ nI (List.length l)) ∧ (∀ l10 : List D, (List.drop (Int.toNat 1) (List.take (Int.toNat (nI (List.length l))) l) = l10 → EndR (CV.d (D.int .i64 n9)) res [(1000, [CV.d (D.slice 1 l10), CV.d (D.int .i64 e)])] objs'))))))))))))))) := by kernel_rfl
theorem vc69 (l : List D) (e : Int) (n : Int) (res : CV) (objs' : List (Nat × List CV)) : walkA P (tbF P [102,103,50,48,53,56,105,58,107] [] 69) (anOf af69 [(0, 1000, 0)]) af69 [CV.ptr 1000 0, CV.d (D.int .i64 n)] [(1000, [CV.d (D.slice 1 l), CV.d (D.int .i64 e)])] (fun rs => endE rs res objs') = ((((e == 0) = true → EndR (CV.tup []) res [(1000, [CV.d (D.slice 1 l), CV.d (D.int .i64 n)])] objs') ∧ ((e == 0) = false → EndR (CV.tup []) res [(1000, [CV.d (D.slice 1 l), CV.d (D.int .i64 e)])] objs'))) := by kernel_rfl
theorem vc113 (l : List D) (e : Int) (res : CV) (objs' : List (Nat × List CV)) : walkA P (tbF P [102,103,50,48,53,56,105,58,107] [] 113) (anOf af113 [(0, 1000, 0)]) af113 [CV.ptr (1000 : Nat) (0 : Nat)] [(1000, [CV.d (D.slice 1 l), CV.d (D.int .i64 e)])] (fun rs => endE rs res objs') = ((∃ I2 : (Int → (Int → (Nat → Prop))), ((∃ k3 : Nat, I2 0 0 k3) ∧ (∀ n4 : Int, (∀ n5 : Int, (∀ k6 : Nat, (I2 n4 n5 k6 → (((decide (n4 < 6)) = true → (((n4 == nI (List.length l)) = true → EndR (CV.tup [CV.d (D.int .i64 (0 : Int)), CV.d (D.int .i64 (0 : Int)), CV.d (D.int .i64 (2 : Int))]) res [(1000, [CV.d (D.slice 1 l), CV.d (D.int .i64 e)])] objs') ∧ ((n4 == nI (List.length l)) = false → ((0 ≤ n4 ∧ n4 < nI (List.length l)) ∧ (∃ n7 : Int, ((D.cells (List.getD l (Int.toNat n4) D.nilp) = [D.int .u8 n7]) ∧ (∀ n8 : Int, (Go.IntKind.wrap Go.IntKind.i64 n7 = n8 → (∀ n9 : Int, (Go.IntKind.wrap Go.IntKind.i64 (nI (BitVec.toNat (BitVec.ofInt (Go.IntKind.bits .i64) n8 &&& BitVec.ofInt (Go.IntKind.bits .i64) 127))) = n9 → (∀ n10 : Int, (Go.IntKind.wrap Go.IntKind.i64 (7 * n4) = n10 → (∀ n11 : Int, (Go.IntKind.wrap Go.IntKind.u64 n10 = n11 → ((0 ≤ n11) ∧ (∀ n12 : Int, (Go.IntKind.wrap Go.IntKind.i64 (n9 * 2 ^ Min.min (Int.toNat n11) (Go.IntKind.bits .i64)) = n12 → (∀ n13 : Int, (Go.IntKind.wrap Go.IntKind.i64 (nI (BitVec.toNat (BitVec.ofInt (Go.IntKind.bits .i64) n5 ||| BitVec.ofInt (Go.IntKind.bits .i64) n12))) = n13 → (((decide (n8 < 128)) = true → (∀ b14 : Bool, ((n8 == 0 && decide (n4 > 0)) = b14 → (∀ b15 : Bool, ((b14 || decide (n13 > 1099511627776)) = b15 → (((b15) = true → EndR (CV.tup [CV.d (D.int .i64 (0 : Int)), CV.d (D.int .i64 (0 : Int)), CV.d (D.int .i64 (3 : Int))]) res [(1000, [CV.d (D.slice 1 l), CV.d (D.int .i64 e)])] objs') ∧ ((b15) = false → (∀ n16 : Int, (Go.IntKind.wrap Go.IntKind.i64 (n4 + 1) = n16 → EndR (CV.tup [CV.d (D.int .i64 n13), CV.d (D.int .i64 n16), CV.d (D.int .i64 0)]) res [(1000, [CV.d (D.slice 1 l), CV.d (D.int .i64 e)])] objs'))))))))) ∧ ((decide (n8 < 128)) = false → (∀ n17 : Int, (Go.IntKind.wrap Go.IntKind.i64 (n4 + 1) = n17 → (∃ k18 : Nat, ((k18 < k6) ∧ I2 n17 n13 k18))))))))))))))))))))))))) ∧ ((decide (n4 < 6)) = false → EndR (CV.tup [CV.d (D.int .i64 (0 : Int)), CV.d (D.int .i64 (0 : Int)), CV.d (D.int .i64 (3 : Int))]) res [(1000, [CV.d (D.slice 1 l), CV.d (D.int .i64 e)])] objs'))))))))) := by kernel_rfl
end B
end Go.Proofs.YtmkkljbfmdngfaaDoor
namespace Go.Proofs.YtmkkljbfmdngfaaDoor
namespace B
open Go.RowKit

theorem endO {c res : CV} {bx : List (Nat × List CV)} {cs : List CV} {b : Nat} (h : c = res) (h' : bx.lookup b = some cs) (hc : (⟨[res], [(b, cs)]⟩ : St).clo = true) : EndR c res bx [(b, cs)] := by
  subst h
  exact ⟨Wr_refl c, ⟨by rw [h']; exact WcL_refl cs, trivial⟩, hc⟩
theorem range2c {X : Type} {N : Nat} {G : (Int → X → Nat → Prop) → Int → X → Nat → Prop} {E : X → Int → Prop} {x0 : X} (c : Int) (hc : c = N) (J : Nat → X → Prop) (hN : N ≤ 9223372036854775806) (h0 : J 0 x0)
    (hs : ∀ i, i < N → ∀ x, J i x → ∀ (I : Int → X → Nat → Prop) (k : Nat), (∀ x', J (i + 1) x' → ∀ m : Int, Go.IntKind.wrap .i64 ((i : Int) + 1) = m → ∃ k', k' < k ∧ I m x' k') → G I i x k) (he : ∀ x, J N x → E x N) :
    ∃ I : Int → X → Nat → Prop, (∃ k, I 0 x0 k) ∧ ∀ n x k, I n x k → ((decide (n < c) = true → G I n x k) ∧ (decide (n < c) = false → E x n)) := by
  subst hc
  exact range2' J hN h0 (fun i hi _ => hs i hi) he
theorem bs_get (s : Bytes) {i : Nat} (h : i < s.length) : (bs s).getD (Int.toNat (i : Int)) .nilp = byteD s[i] := getD_map _ s h
theorem bs_take (s : Bytes) (n : Int) : List.drop (Int.toNat (nI 0)) (List.take (Int.toNat n) (bs s)) = bs (s.take n.toNat) := by simp [nI, bs, List.map_take]
theorem bs_drop (s : Bytes) (n : Int) : List.drop (Int.toNat n) (List.take (Int.toNat (nI s.length)) (bs s)) = bs (s.drop n.toNat) := by
  simp only [nI, Int.toNat_natCast]
  rw [List.take_of_length_le (by rw [bs_len]; exact Nat.le_refl _)]
  simp [bs, List.map_drop]
theorem bs_cut (s : Bytes) (a b : Nat) : List.drop (Int.toNat (a : Int)) (List.take (Int.toNat (b : Int)) (bs s)) = bs ((s.take b).drop a) := by
  simp only [Int.toNat_natCast, bs, List.map_take, List.map_drop]

/-! ### what is read -/
abbrev Rd (α : Type) := Bytes → Except Int (α × Bytes)
def rd {α : Type} (p : Rd α) (x : α) (s : Bytes) (e : Int) : α × Bytes × Int := if e = 0 then (match p s with | .ok (a, r) => (a, r, 0) | .error k => (x, s, k)) else (x, s, e)
abbrev rdr (s : Bytes) (e : Int) : List CV := [.d (.slice 1 (bs s)), .d (.int .i64 e)]
def beV (s : Bytes) : Nat := s.foldl (fun n c => n * 256 + c.toNat) 0
theorem beV_lt : ∀ (s : Bytes), beV s < 256 ^ s.length := by
  have : ∀ (s : Bytes) (n k : Nat), n < 256 ^ k → s.foldl (fun n c => n * 256 + c.toNat) n < 256 ^ (k + s.length) := by
    intro s
    induction s with
    | nil => exact fun n k h => h
    | cons c r ih =>
      intro n k h
      have := ih (n * 256 + c.toNat) (k + 1) (by have := c.toNat_lt; rw [Nat.pow_succ]; omega)
      simp only [List.foldl_cons, List.length_cons]
      rw [show k + (r.length + 1) = k + 1 + r.length by omega]; exact this
  intro s
  have := this s 0 0 (by decide)
  rwa [Nat.zero_add] at this
theorem beV_take (s : Bytes) {i : Nat} (h : i < s.length) : beV (s.take (i + 1)) = beV (s.take i) * 256 + s[i].toNat := by
  unfold beV; rw [List.take_succ_eq_append_getElem h, List.foldl_append]; rfl
def bytesP (k : Nat) : Rd Int := fun s => if s.length < k then .error 2 else .ok (beV (s.take k), s.drop k)
def fixedP : Rd Int := bytesP 4
def byteP : Rd Int := bytesP 1
theorem or_add (a b k : Nat) (h : b < 2 ^ k) : a * 2 ^ k ||| b = a * 2 ^ k + b := by
  rw [Nat.mul_comm]; exact (Nat.two_pow_add_eq_or_of_lt h a).symm

theorem r134 (s : Bytes) (e : Int) : Runs P 134 [.ptr 1000 0] [(1000, rdr s e)] (.d (.bool (e != 0))) [(1000, rdr s e)] := by
  refine runs_walkA t134 rfl (vc134 _ _ _ _) (by simp) ?_
  rintro _ rfl
  exact endO (by simp) rfl rfl
theorem r136 (s : Bytes) (e n : Int) : Runs P 136 [.ptr 1000 0, .d (.int .i64 n)] [(1000, rdr s e)] (.tup []) [(1000, rdr s n)] := by
  refine runs_walkA t136 rfl (vc136 _ _ _ _ _) (by simp) ?_
  exact endO rfl rfl rfl
theorem r63 (s : Bytes) (e : Int) : Runs P 63 [.ptr 1000 0] [(1000, rdr s e)] (.d (.int .i64 e)) [(1000, rdr s e)] := by
  refine runs_walkA t63 rfl (vc63r _ _ _ _) (by simp) ?_
  exact ⟨fun h => by simp at h, fun _ => endO rfl rfl rfl⟩
theorem r64 (s : Bytes) (e : Int) : Runs P 64 [.ptr 1000 0] [(1000, rdr s e)] (.d (.int .i64 s.length)) [(1000, rdr s e)] := by
  refine runs_walkA t64 rfl (vc64r _ _ _ _) (by simp) ?_
  exact ⟨fun h => by simp at h, fun _ => endO (by simp [nI, bs_len]) rfl rfl⟩
theorem r61 (s : Bytes) (h : s.length ≤ 1099511627776) : Runs P 61 [.d (.slice 1 (bs s))] [] (.ptr 6 0) [(6, rdr s 0)] := by
  refine runs_walkA t61 rfl (vc61 _ _ _) (by simp) ?_
  exact ⟨_, r107 _ (by rw [bs_len]; omega), endO rfl rfl rfl⟩
theorem rd_e {α : Type} (p : Rd α) (x : α) (s : Bytes) {e : Int} (h : e ≠ 0) : rd p x s e = (x, s, e) := by unfold rd; rw [if_neg h]
theorem rd_ok {α : Type} {p : Rd α} (x : α) {s : Bytes} {a : α} {r : Bytes} (h : p s = .ok (a, r)) : rd p x s 0 = (a, r, 0) := by unfold rd; rw [if_pos rfl, h]
theorem rd_er {α : Type} {p : Rd α} (x : α) {s : Bytes} {k : Int} (h : p s = .error k) : rd p x s 0 = (x, s, k) := by unfold rd; rw [if_pos rfl, h]

theorem r133 (k : Nat) (s : Bytes) (e : Int) (hk : k ≤ 4) (hs : s.length ≤ 1099511627776) : Runs P 133 [.ptr 1000 0, .d (.int .i64 k)] [(1000, rdr s e)] (.d (.int .i64 (rd (bytesP k) 0 s e).1)) [(1000, rdr (rd (bytesP k) 0 s e).2.1 (rd (bytesP k) 0 s e).2.2)] := by
  refine runs_walkA t133 rfl (vc133 _ _ _ _ _) (by simp) ?_
  refine ⟨_, _, _, r134 s e, fun h => ?_, fun h => ?_⟩
  · have h : e ≠ 0 := by simpa using h
    rw [rd_e _ _ _ h]
    exact endO rfl rfl rfl
  have h : e = 0 := by simpa using h
  subst h
  rw [bs_len]
  refine ⟨fun h => ?_, fun h => ?_⟩
  · have h := of_decide_eq_true h
    have : bytesP k s = .error 2 := by unfold bytesP; rw [if_pos (by simp only [nI] at h; omega)]
    rw [rd_er _ this]
    exact ⟨_, _, r136 s 0 2, endO rfl rfl rfl⟩
  · have h := of_decide_eq_false h
    simp only [nI] at h
    have e1 : bytesP k s = .ok ((beV (s.take k) : Int), s.drop k) := by unfold bytesP; rw [if_neg (by omega)]
    rw [rd_ok _ e1]
    refine ⟨⟨by simp [nI], by simp [nI], by simp only [nI]; omega⟩, ?_⟩
    rintro _ rfl
    rw [bs_take, bs_len, Int.toNat_natCast]
    refine range2 (fun i n => n = ((beV ((s.take k).take i) : Nat) : Int)) (by rw [List.length_take]; omega) rfl (fun i hi bd n hJ I q next => ⟨bd, ?_⟩) fun n hJ => ?_
    · subst hJ
      refine ⟨((s.take k)[i].toNat : Int), by rw [bs_get _ hi]; rfl, by decide, ?_⟩
      have hlt := beV_lt ((s.take k).take i)
      have hc := (s.take k)[i].toNat_lt
      have hi4 : i ≤ 3 := by rw [List.length_take] at hi; omega
      have hp : (256 : Nat) ^ ((s.take k).take i).length ≤ 256 ^ 3 := Nat.pow_le_pow_right (by decide) (by rw [List.length_take]; omega)
      have hv := beV_take (s.take k) hi
      rw [show (2 : Int) ^ Min.min (Int.toNat 8) (Go.IntKind.bits .i64) = 256 by decide]
      rintro n15 h15 n16 h16 n17 h17
      rw [W64 (by omega) (by omega)] at h15 h16
      refine next _ ?_
      have e3 : n15 = ((beV ((s.take k).take i) * 2 ^ 8 : Nat) : Int) := by rw [← h15]; omega
      rw [← h17, e3, ← h16, or64 _ _ (by omega) (by omega), or_add _ _ 8 hc, hv]
    · rw [List.take_length] at hJ
      refine ⟨⟨by omega, by simp only [nI]; omega, Int.le_refl _⟩, ?_⟩
      rintro _ rfl
      exact endO (by rw [hJ]) (by have := bs_drop s (k : Int); rw [Int.toNat_natCast] at this; rw [this]; rfl) rfl
theorem r108 (s : Bytes) (e : Int) (hs : s.length ≤ 1099511627776) : Runs P 108 [.ptr 1000 0] [(1000, rdr s e)] (.d (.int .i64 (rd fixedP 0 s e).1)) [(1000, rdr (rd fixedP 0 s e).2.1 (rd fixedP 0 s e).2.2)] := by
  refine runs_walkA t108 rfl (vc108 _ _ _ _) (by simp) ?_
  exact ⟨_, _, _, r133 4 s e (by decide) hs, endO rfl rfl rfl⟩
theorem r137 (s : Bytes) (e : Int) (hs : s.length ≤ 1099511627776) : Runs P 137 [.ptr 1000 0] [(1000, rdr s e)] (.d (.int .i64 (rd byteP 0 s e).1)) [(1000, rdr (rd byteP 0 s e).2.1 (rd byteP 0 s e).2.2)] := by
  refine runs_walkA t137 rfl (vc137 _ _ _ _) (by simp) ?_
  exact ⟨_, _, _, r133 1 s e (by decide) hs, endO rfl rfl rfl⟩

/-! ### numbers of many lengths, texts -/
def numGo : Nat → Nat → Nat → Bytes → Except Int (Nat × Nat)
  | 0, _, _, _ => .error 3
  | _ + 1, _, _, [] => .error 2
  | f + 1, i, acc, c :: r =>
    if 128 ≤ c.toNat then numGo f (i + 1) (acc + c.toNat % 128 * 128 ^ i) r
    else if (c.toNat = 0 ∧ 0 < i) ∨ 1099511627776 < acc + c.toNat * 128 ^ i then .error 3 else .ok (acc + c.toNat * 128 ^ i, i + 1)
def numP (s : Bytes) : Except Int (Nat × Nat) := numGo 6 0 0 s
def resN : Except Int (Nat × Nat) → CV
  | .ok (n, k) => .tup [.d (.int .i64 n), .d (.int .i64 k), .d (.int .i64 0)]
  | .error e => .tup [.d (.int .i64 0), .d (.int .i64 0), .d (.int .i64 e)]
theorem pow7 (i : Nat) (h : i < 6) : (2 : Int) ^ Min.min (Int.toNat ((7 * i : Nat) : Int)) (Go.IntKind.bits .i64) = ((128 ^ i : Nat) : Int) := by
  match i, h with
  | 0, _ => decide
  | 1, _ => decide
  | 2, _ => decide
  | 3, _ => decide
  | 4, _ => decide
  | 5, _ => decide
theorem p128 (i : Nat) : 128 ^ i = 2 ^ (7 * i) := by rw [Nat.pow_mul]
theorem acc_or {acc c i : Nat} (h : acc < 128 ^ i) : acc ||| c * 128 ^ i = acc + c * 128 ^ i := by
  rw [p128] at h ⊢
  rw [Nat.or_comm, or_add _ _ _ h]; omega
theorem acc_lt {acc c i : Nat} (h : acc < 128 ^ i) (hc : c < 128) : acc + c * 128 ^ i < 128 ^ (i + 1) := by
  rw [Nat.pow_succ]
  have : c * 128 ^ i ≤ 127 * 128 ^ i := Nat.mul_le_mul_right _ (by omega)
  omega
theorem pow_le6 {i : Nat} (h : i < 6) : 128 ^ (i + 1) ≤ 4398046511104 := by
  have : 128 ^ (i + 1) ≤ 128 ^ 6 := Nat.pow_le_pow_right (by decide) (by omega)
  exact Nat.le_trans this (by decide)
theorem and8_fin : ∀ r : Fin 256, (BitVec.ofInt 8 (r.val : Int) &&& BitVec.ofInt 8 127).toNat = r.val % 128 := by decide +kernel
theorem and8 (c : UInt8) : Go.IntKind.wrap .u8 (nI (BitVec.toNat (BitVec.ofInt (Go.IntKind.bits .u8) (c.toNat : Int) &&& BitVec.ofInt (Go.IntKind.bits .u8) 127))) = ((c.toNat % 128 : Nat) : Int) := by
  have := and8_fin ⟨c.toNat, c.toNat_lt⟩
  rw [show Go.IntKind.bits .u8 = 8 from rfl, this, w8]
  simp only [nI]; omega
theorem r135 (s : Bytes) (hs : s.length ≤ 1099511627776) : Runs P 135 [.d (.slice 1 (bs s))] [] (resN (numP s)) [] := by
  refine runs_walkA t135 rfl (vc135 _ _ _) (by simp) ?_
  rw [bs_len]
  refine range2c (N := 6) 6 rfl (fun i n => ∃ acc : Nat, n = acc ∧ acc < 128 ^ i ∧ i ≤ s.length ∧ numP s = numGo (6 - i) i acc (s.drop i)) (by decide) ⟨0, rfl, by decide, by omega, rfl⟩ (fun i hi n hJ I k next => ?_) fun n hJ => ?_
  · obtain ⟨acc, rfl, ha, hil, hJ⟩ := hJ
    have e6 : 6 - i = (6 - (i + 1)) + 1 := by omega
    rw [e6] at hJ
    refine ⟨fun h => ?_, fun h => ?_⟩
    · have : i = s.length := by simp only [nI, beq_iff_eq] at h; omega
      subst this
      rw [List.drop_length, numGo] at hJ
      rw [hJ]; exact end0 rfl rfl
    have hlt : i < s.length := by simp only [nI, beq_eq_false_iff_ne] at h; omega
    rw [drop_cons hlt, numGo] at hJ
    have hc := s[i].toNat_lt
    have bd : 0 ≤ (i : Int) ∧ (i : Int) < nI s.length := ⟨by omega, by simp only [nI]; omega⟩
    refine ⟨bd, (s[i].toNat : Int), by rw [bs_get _ hlt]; rfl, ?_⟩
    rintro n7 h7 n8 h8 n9 h9
    rw [and8] at h7
    rw [← h7, W64 (by omega) (by omega)] at h8
    have h9 : n9 = ((7 * i : Nat) : Int) := by rw [← h9, W64 (by omega) (by omega)]; omega
    subst h9
    refine ⟨by omega, ?_⟩
    rintro n10 h10 n11 h11
    have hal := acc_lt (c := s[i].toNat % 128) ha (by omega)
    have hpl := pow_le6 hi
    have h10 : n10 = ((s[i].toNat % 128 * 128 ^ i : Nat) : Int) := by
      rw [← h10, ← h8, pow7 i hi, ← Int.natCast_mul, W64 (by omega) (by omega)]
    rw [h10, or64 _ _ (by omega) (by omega), acc_or ha] at h11
    refine ⟨bd, (s[i].toNat : Int), by rw [bs_get _ hlt]; rfl, fun h => ?_, fun h => ?_⟩
    · have h := of_decide_eq_true h
      rw [if_pos (by omega)] at hJ
      exact next _ ⟨_, h11.symm, hal, by omega, hJ⟩
    · have h := of_decide_eq_false h
      rw [if_neg (by omega)] at hJ
      refine ⟨bd, (s[i].toNat : Int), by rw [bs_get _ hlt]; rfl, ?_⟩
      have hm : s[i].toNat % 128 = s[i].toNat := by omega
      rw [hm] at h11
      rintro _ rfl b17 h17
      have e17 : b17 = true ↔ ((s[i].toNat = 0 ∧ 0 < i) ∨ 1099511627776 < acc + s[i].toNat * 128 ^ i) := by
        rw [← h17, ← h11]
        simp only [Bool.or_eq_true, Bool.and_eq_true, beq_iff_eq, decide_eq_true_eq]
        omega
      refine ⟨fun h => ?_, fun h => ?_⟩
      · rw [if_pos (e17.1 h)] at hJ
        rw [hJ]; exact end0 rfl rfl
      · rw [if_neg (fun hh => by rw [e17.2 hh] at h; cases h)] at hJ
        rintro _ rfl
        rw [hJ, W64 (by omega) (by omega), ← h11]; exact end0 rfl rfl
  · obtain ⟨acc, rfl, ha, hil, hJ⟩ := hJ
    rw [hJ]; exact end0 rfl rfl
theorem numGo_len : ∀ (f i acc : Nat) (s : Bytes) (n k : Nat), numGo f i acc s = .ok (n, k) → i < k ∧ k ≤ i + s.length ∧ n ≤ 1099511627776
  | 0, _, _, _, _, _, h => by simp [numGo] at h
  | _ + 1, _, _, [], _, _, h => by simp [numGo] at h
  | f + 1, i, acc, c :: r, n, k, h => by
    rw [numGo] at h
    split at h
    · have := numGo_len f (i + 1) _ r n k h
      simp only [List.length_cons]; omega
    · split at h
      · cases h
      · rename_i h1
        simp only [Except.ok.injEq, Prod.mk.injEq] at h
        simp only [List.length_cons]; omega
def textP (most : Int) : Rd Bytes := fun s => match numP s with
  | .error e => .error e
  | .ok (n, k) => if (n : Int) > most then .error 3 else if n > s.length - k then .error 2 else .ok ((s.drop k).take n, s.drop (k + n))
theorem numGo_er : ∀ (f i acc : Nat) (s : Bytes) (e : Int), numGo f i acc s = .error e → e = 2 ∨ e = 3
  | 0, _, _, _, _, h => by simp [numGo] at h; omega
  | _ + 1, _, _, [], _, h => by simp [numGo] at h; omega
  | f + 1, i, acc, c :: r, e, h => by
    rw [numGo] at h
    split at h
    · exact numGo_er f (i + 1) _ r e h
    · split at h
      · simp at h; omega
      · cases h
end B
end Go.Proofs.YtmkkljbfmdngfaaDoor
namespace Go.Proofs.YtmkkljbfmdngfaaDoor
namespace B
open Go.RowKit

theorem Runs.at {f : Nat} {xs : List D} {s s' : Bytes} {e e' : Int} {res : D} (h : Runs P f (.ptr 1000 0 :: xs.map .d) [(1000, rdr s e)] (.d res) [(1000, rdr s' e')]) (b : Nat) :
    Runs P f (.ptr b 0 :: xs.map .d) [(b, rdr s e)] (.d res) [(b, rdr s' e')] := by
  have := h.swap 1000 b
  simpa [CV.ren, CV.ren1, renB, swp, Function.comp_def] using this
theorem sub_take (s : Bytes) (k n : Nat) : (s.take (k + n)).drop k = (s.drop k).take n := by
  rw [List.drop_take]; congr 1; omega
theorem r110 (s : Bytes) (e most : Int) (hs : s.length ≤ 1099511627776) : Runs P 110 [.ptr 1000 0, .d (.int .i64 most)] [(1000, rdr s e)] (.d (.str (rd (textP most) [] s e).1)) [(1000, rdr (rd (textP most) [] s e).2.1 (rd (textP most) [] s e).2.2)] := by
  refine runs_walkA t110 rfl (vc110 _ _ _ _ _) (by simp) ?_
  refine ⟨_, _, _, r134 s e, fun h => ?_, fun h => ?_⟩
  · have h : e ≠ 0 := by simpa using h
    rw [rd_e _ _ _ h]
    exact endO rfl rfl rfl
  have h : e = 0 := by simpa using h
  subst h
  have h135 := r135 s hs
  rw [bs_len]
  cases hN : numP s with
  | error x =>
    rw [hN] at h135
    have hx := numGo_er 6 0 0 s x hN
    have e1 : textP most s = .error x := by unfold textP; rw [hN]
    rw [rd_er _ e1]
    refine ⟨_, _, _, h135, fun _ => ⟨fun _ => ⟨_, _, r136 s 0 x, endO rfl rfl rfl⟩, fun h => ?_⟩, fun h => ?_⟩
    · simp at h; omega
    · simp at h; omega
  | ok p =>
    obtain ⟨n, k⟩ := p
    rw [hN] at h135
    obtain ⟨hk1, hk2, hn⟩ := numGo_len 6 0 0 s n k hN
    refine ⟨_, _, _, h135, fun h => by simp at h, fun _ => ⟨fun h1 => ?_, fun h1 => ?_⟩⟩
    · have h1 := of_decide_eq_true h1
      have e1 : textP most s = .error 3 := by unfold textP; rw [hN]; simp only; rw [if_pos h1]
      rw [rd_er _ e1]
      exact ⟨fun _ => ⟨_, _, r136 s 0 3, endO rfl rfl rfl⟩, fun h => by simp at h⟩
    have h1 := of_decide_eq_false h1
    rintro n23 h23
    simp only [nI] at h23
    rw [W64 (by omega) (by omega)] at h23
    subst h23
    refine ⟨fun h2 => ?_, fun h2 => ?_⟩
    · have h2 := of_decide_eq_true h2
      have e1 : textP most s = .error 2 := by unfold textP; rw [hN]; simp only; rw [if_neg h1, if_pos (by omega)]
      rw [rd_er _ e1]
      exact ⟨fun _ => ⟨_, _, r136 s 0 2, endO rfl rfl rfl⟩, fun h => by simp at h⟩
    have h2 := of_decide_eq_false h2
    have e1 : textP most s = .ok ((s.drop k).take n, s.drop (k + n)) := by unfold textP; rw [hN]; simp only; rw [if_neg h1, if_neg (by omega)]
    rw [rd_ok _ e1]
    refine ⟨fun h => by simp at h, fun _ => ?_⟩
    rintro n33 h33
    rw [W64 (by omega) (by omega)] at h33
    have h33 : n33 = ((k + n : Nat) : Int) := by rw [← h33]; omega
    subst h33
    refine ⟨⟨by omega, by omega, by simp only [nI]; omega⟩, ?_⟩
    rintro _ rfl
    refine ⟨(s.take (k + n)).drop k, by rw [bs_cut]; rfl, ?_⟩
    rintro n36 h36
    rw [W64 (by omega) (by omega)] at h36
    have h36 : n36 = ((k + n : Nat) : Int) := by rw [← h36]; omega
    subst h36
    refine ⟨⟨by omega, by simp only [nI]; omega, Int.le_refl _⟩, ?_⟩
    rintro _ rfl
    exact endO (by rw [sub_take]) (by rw [bs_drop, Int.toNat_natCast]; rfl) rfl

/-! ### the document's -/
theorem r69 (s : Bytes) (e n : Int) : Runs P 69 [.ptr 1000 0, .d (.int .i64 n)] [(1000, rdr s e)] (.tup []) [(1000, rdr s (if e = 0 then n else e))] := by
  refine runs_walkA t69 rfl (vc69 _ _ _ _ _) (by simp) ?_
  refine ⟨fun h => ?_, fun h => ?_⟩
  · have h : e = 0 := by simpa using h
    rw [if_pos h]; exact endO rfl rfl rfl
  · have h : e ≠ 0 := by simpa using h
    rw [if_neg h]; exact endO rfl rfl rfl
theorem r69z (s : Bytes) (n : Int) : Runs P 69 [.ptr 1000 0, .d (.int .i64 n)] [(1000, rdr s 0)] (.tup []) [(1000, rdr s n)] := r69 s 0 n
theorem r113 (s : Bytes) (e : Int) (hs : s.length ≤ 1099511627776) : Runs P 113 [.ptr 1000 0] [(1000, rdr s e)] (resN (numP s)) [(1000, rdr s e)] := by
  refine runs_walkA t113 rfl (vc113 _ _ _ _) (by simp) ?_
  rw [bs_len]
  have fin : ∀ x : Except Int (Nat × Nat), (⟨[resN x], [(1000, rdr s e)]⟩ : St).clo = true := by
    intro x; cases x <;> rfl
  refine range2c (N := 6) 6 rfl (fun i n => ∃ acc : Nat, n = acc ∧ acc < 128 ^ i ∧ i ≤ s.length ∧ numP s = numGo (6 - i) i acc (s.drop i)) (by decide) ⟨0, rfl, by decide, by omega, rfl⟩ (fun i hi n hJ I k next => ?_) fun n hJ => ?_
  · obtain ⟨acc, rfl, ha, hil, hJ⟩ := hJ
    have e6 : 6 - i = (6 - (i + 1)) + 1 := by omega
    rw [e6] at hJ
    refine ⟨fun h => ?_, fun h => ?_⟩
    · have : i = s.length := by simp only [nI, beq_iff_eq] at h; omega
      subst this
      rw [List.drop_length, numGo] at hJ
      rw [hJ]; exact endO rfl rfl rfl
    have hlt : i < s.length := by simp only [nI, beq_eq_false_iff_ne] at h; omega
    rw [drop_cons hlt, numGo] at hJ
    have hc := s[i].toNat_lt
    have bd : 0 ≤ (i : Int) ∧ (i : Int) < nI s.length := ⟨by omega, by simp only [nI]; omega⟩
    refine ⟨bd, (s[i].toNat : Int), by rw [bs_get _ hlt]; rfl, ?_⟩
    rintro n8 h8 n9 h9 n10 h10
    rw [W64 (by omega) (by omega)] at h8
    subst h8
    rw [show (127 : Int) = ((127 : Nat) : Int) from rfl, and64 _ _ (by omega) (by decide), and127] at h9
    have h10 : n10 = ((7 * i : Nat) : Int) := by rw [← h10, W64 (by omega) (by omega)]; omega
    rintro n11 h11
    rw [wu64 (by omega) (by omega)] at h11
    rw [h10] at h11
    subst h11
    refine ⟨by omega, ?_⟩
    rintro n12 h12 n13 h13
    have hal := acc_lt (c := s[i].toNat % 128) ha (by omega)
    have hpl := pow_le6 hi
    have h12 : n12 = ((s[i].toNat % 128 * 128 ^ i : Nat) : Int) := by
      rw [← h12, ← h9, pow7 i hi, ← Int.natCast_mul, W64 (by omega) (by omega)]
    rw [h12, or64 _ _ (by omega) (by omega), acc_or ha] at h13
    refine ⟨fun h => ?_, fun h => ?_⟩
    · have h := of_decide_eq_true h
      rw [if_neg (by omega)] at hJ
      have hm : s[i].toNat % 128 = s[i].toNat := by omega
      rw [hm] at h13
      rintro _ rfl b15 h15
      have e15 : b15 = true ↔ ((s[i].toNat = 0 ∧ 0 < i) ∨ 1099511627776 < acc + s[i].toNat * 128 ^ i) := by
        rw [← h15, ← h13]
        simp only [Bool.or_eq_true, Bool.and_eq_true, beq_iff_eq, decide_eq_true_eq]
        omega
      refine ⟨fun h => ?_, fun h => ?_⟩
      · rw [if_pos (e15.1 h)] at hJ
        rw [hJ]; exact endO rfl rfl rfl
      · rw [if_neg (fun hh => by rw [e15.2 hh] at h; cases h)] at hJ
        rintro _ rfl
        rw [hJ, W64 (by omega) (by omega), ← h13]; exact endO rfl rfl rfl
    · have h := of_decide_eq_false h
      rw [if_pos (by omega)] at hJ
      exact next _ ⟨_, h13.symm, hal, by omega, hJ⟩
  · obtain ⟨acc, rfl, ha, hil, hJ⟩ := hJ
    rw [hJ]; exact endO rfl rfl rfl
theorem r67 (s : Bytes) (e most : Int) (hs : s.length ≤ 1099511627776) : Runs P 67 [.ptr 1000 0, .d (.int .i64 most)] [(1000, rdr s e)] (.d (.str (rd (textP most) [] s e).1)) [(1000, rdr (rd (textP most) [] s e).2.1 (rd (textP most) [] s e).2.2)] := by
  refine runs_walkA t67 rfl (vc67 _ _ _ _ _) (by simp) ?_
  refine ⟨fun h => ?_, fun h => ?_⟩
  · have h : e ≠ 0 := by simpa using h
    rw [rd_e _ _ _ h]
    exact endO rfl rfl rfl
  have h : e = 0 := by simpa using h
  subst h
  have h135 := r113 s 0 hs
  have fl := bs_len s
  cases hN : numP s with
  | error x =>
    rw [hN] at h135
    have hx := numGo_er 6 0 0 s x hN
    have e1 : textP most s = .error x := by unfold textP; rw [hN]
    rw [rd_er _ e1]
    refine ⟨_, _, _, _, _, h135, fun _ => ⟨fun _ => ⟨_, _, r69z s x, endO rfl rfl rfl⟩, fun h => ?_⟩, fun h => ?_⟩
    · simp at h; omega
    · simp at h; omega
  | ok p =>
    obtain ⟨n, k⟩ := p
    rw [hN] at h135
    obtain ⟨hk1, hk2, hn⟩ := numGo_len 6 0 0 s n k hN
    refine ⟨_, _, _, _, _, h135, fun h => by simp at h, fun _ => ⟨fun h1 => ?_, fun h1 => ?_⟩⟩
    · have h1 := of_decide_eq_true h1
      have e1 : textP most s = .error 3 := by unfold textP; rw [hN]; simp only; rw [if_pos h1]
      rw [rd_er _ e1]
      exact ⟨fun _ => ⟨_, _, r69z s 3, endO rfl rfl rfl⟩, fun h => by simp at h⟩
    have h1 := of_decide_eq_false h1
    rw [bs_len]
    rintro n23 h23
    simp only [nI] at h23
    rw [W64 (by omega) (by omega)] at h23
    subst h23
    refine ⟨fun h2 => ?_, fun h2 => ?_⟩
    · have h2 := of_decide_eq_true h2
      have e1 : textP most s = .error 2 := by unfold textP; rw [hN]; simp only; rw [if_neg h1, if_pos (by omega)]
      rw [rd_er _ e1]
      exact ⟨fun _ => ⟨_, _, r69z s 2, endO rfl rfl rfl⟩, fun h => by simp at h⟩
    have h2 := of_decide_eq_false h2
    have e1 : textP most s = .ok ((s.drop k).take n, s.drop (k + n)) := by unfold textP; rw [hN]; simp only; rw [if_neg h1, if_neg (by omega)]
    rw [rd_ok _ e1]
    refine ⟨fun h => by simp at h, fun _ => ?_⟩
    rintro n33 h33
    rw [W64 (by omega) (by omega)] at h33
    have h33 : n33 = ((k + n : Nat) : Int) := by rw [← h33]; omega
    subst h33
    refine ⟨⟨by omega, by omega, by simp only [nI]; omega⟩, ?_⟩
    rintro _ rfl
    refine ⟨(s.take (k + n)).drop k, by rw [bs_cut]; rfl, ?_⟩
    rintro n36 h36
    rw [W64 (by omega) (by omega)] at h36
    have h36 : n36 = ((k + n : Nat) : Int) := by rw [← h36]; omega
    subst h36
    refine ⟨⟨by omega, by simp only [nI]; omega, Int.le_refl _⟩, ?_⟩
    rintro _ rfl
    exact endO (by rw [sub_take]) (by rw [bs_drop, Int.toNat_natCast]; rfl) rfl
theorem four (s : Bytes) (h : 4 ≤ s.length) : (beV (s.take 4) : Nat) = s[0].toNat * 16777216 + s[1].toNat * 65536 + s[2].toNat * 256 + s[3].toNat := by
  match s, h with
  | a :: b :: c :: d :: r, _ => simp [beV]; omega
theorem four_or (a b c d : Nat) (ha : a < 256) (hb : b < 256) (hc : c < 256) (hd : d < 256) : ((a * 16777216 ||| b * 65536) ||| c * 256) ||| d = a * 16777216 + b * 65536 + c * 256 + d := by
  rw [show a * 16777216 = a * 2 ^ 24 from rfl, or_add a _ 24 (by omega), show a * 2 ^ 24 + b * 65536 = (a * 256 + b) * 2 ^ 16 by omega, or_add _ _ 16 (by omega), show (a * 256 + b) * 2 ^ 16 + c * 256 = ((a * 256 + b) * 256 + c) * 2 ^ 8 by omega, or_add _ _ 8 hd]
theorem r66 (s : Bytes) (e : Int) (hs : s.length ≤ 1099511627776) : Runs P 66 [.ptr 1000 0] [(1000, rdr s e)] (.d (.int .i64 (rd fixedP 0 s e).1)) [(1000, rdr (rd fixedP 0 s e).2.1 (rd fixedP 0 s e).2.2)] := by
  refine runs_walkA t66 rfl (vc66 _ _ _ _) (by simp) ?_
  rw [bs_len]
  rintro b2 h2
  refine ⟨fun h => ?_, fun h => ?_⟩
  · subst h
    simp only [Bool.and_eq_true, beq_iff_eq, decide_eq_true_eq, nI] at h2
    obtain ⟨rfl, h2⟩ := h2
    have e1 : fixedP s = .error 2 := by unfold fixedP bytesP; rw [if_pos (by omega)]
    rw [rd_er _ e1]
    refine ⟨_, _, r69z s 2, fun _ => endO rfl rfl rfl, fun h => by simp at h⟩
  subst h
  refine ⟨fun h => ?_, fun h => ?_⟩
  · have h : e ≠ 0 := by simpa using h
    rw [rd_e _ _ _ h]
    exact endO rfl rfl rfl
  have h : e = 0 := by simpa using h
  subst h
  have hl : 4 ≤ s.length := by
    simp only [beq_self_eq_true, Bool.true_and, decide_eq_false_iff_not, nI] at h2; omega
  have e1 : fixedP s = .ok ((beV (s.take 4) : Int), s.drop 4) := by unfold fixedP bytesP; rw [if_neg (by omega)]
  rw [rd_ok _ e1]
  have g : ∀ i : Nat, (h : i < s.length) → (D.cells ((bs s).getD (Int.toNat (i : Int)) .nilp)) = [.int .u8 s[i].toNat] := fun i h => by rw [bs_get _ h]; rfl
  have hn : nI s.length = (s.length : Int) := rfl
  have c0 := s[0].toNat_lt
  have c1 := s[1].toNat_lt
  have c2 := s[2].toNat_lt
  have c3 := s[3].toNat_lt
  rw [show (2 : Int) ^ Min.min (Int.toNat 24) (Go.IntKind.bits .i64) = 16777216 by decide, show (2 : Int) ^ Min.min (Int.toNat 16) (Go.IntKind.bits .i64) = 65536 by decide, show (2 : Int) ^ Min.min (Int.toNat 8) (Go.IntKind.bits .i64) = 256 by decide]
  refine ⟨⟨by omega, by omega⟩, _, g 0 (by omega), ?_⟩
  rintro n21 h21
  refine ⟨by decide, ?_⟩
  rintro n22 h22
  refine ⟨⟨by omega, by omega⟩, _, g 1 (by omega), ?_⟩
  rintro n24 h24
  refine ⟨by decide, ?_⟩
  rintro n25 h25 n26 h26
  refine ⟨⟨by omega, by omega⟩, _, g 2 (by omega), ?_⟩
  rintro n28 h28
  refine ⟨by decide, ?_⟩
  rintro n29 h29 n30 h30
  refine ⟨⟨by omega, by omega⟩, _, g 3 (by omega), ?_⟩
  rintro n32 h32 n33 h33
  rw [W64 (by omega) (by omega)] at h21 h24 h28 h32
  have h22 : n22 = ((s[0].toNat * 16777216 : Nat) : Int) := by rw [← h22, W64 (by omega) (by omega)]; omega
  have h25 : n25 = ((s[1].toNat * 65536 : Nat) : Int) := by rw [← h25, W64 (by omega) (by omega)]; omega
  have h29 : n29 = ((s[2].toNat * 256 : Nat) : Int) := by rw [← h29, W64 (by omega) (by omega)]; omega
  have q1 : s[0].toNat * 16777216 ||| s[1].toNat * 65536 < 2 ^ 40 := Nat.or_lt_two_pow (by omega) (by omega)
  have q2 : (s[0].toNat * 16777216 ||| s[1].toNat * 65536) ||| s[2].toNat * 256 < 2 ^ 40 := Nat.or_lt_two_pow q1 (by omega)
  rw [h22, h25, or64 _ _ (by omega) (by omega)] at h26
  rw [← h26, h29, or64 _ _ (by omega) (by omega)] at h30
  rw [← h30, ← h32, or64 _ _ (by omega) (by omega), four_or _ _ _ _ c0 c1 c2 c3, ← four s hl] at h33
  refine ⟨⟨by omega, by omega, Int.le_refl _⟩, ?_⟩
  rintro _ rfl
  exact endO (by rw [h33]) (by have := bs_drop s (4 : Int); rw [this]; rfl) rfl
theorem r68 (s : Bytes) (e : Int) (hs : s.length ≤ 1099511627776) : Runs P 68 [.ptr 1000 0] [(1000, rdr s e)] (.d (.int .i64 (rd byteP 0 s e).1)) [(1000, rdr (rd byteP 0 s e).2.1 (rd byteP 0 s e).2.2)] := by
  refine runs_walkA t68 rfl (vc68 _ _ _ _) (by simp) ?_
  rw [bs_len]
  rintro b2 h2
  refine ⟨fun h => ?_, fun h => ?_⟩
  · subst h
    simp only [Bool.and_eq_true, beq_iff_eq, decide_eq_true_eq, nI] at h2
    obtain ⟨rfl, h2⟩ := h2
    have e1 : byteP s = .error 2 := by unfold byteP bytesP; rw [if_pos (by omega)]
    rw [rd_er _ e1]
    refine ⟨_, _, r69z s 2, fun _ => endO rfl rfl rfl, fun h => by simp at h⟩
  subst h
  refine ⟨fun h => ?_, fun h => ?_⟩
  · have h : e ≠ 0 := by simpa using h
    rw [rd_e _ _ _ h]
    exact endO rfl rfl rfl
  have h : e = 0 := by simpa using h
  subst h
  have hl : 1 ≤ s.length := by
    simp only [beq_self_eq_true, Bool.true_and, decide_eq_false_iff_not, nI] at h2; omega
  have e1 : byteP s = .ok ((beV (s.take 1) : Int), s.drop 1) := by unfold byteP bytesP; rw [if_neg (by omega)]
  rw [rd_ok _ e1]
  have e2 : beV (s.take 1) = s[0].toNat := by
    match s, hl with
    | a :: r, _ => simp [beV]
  have c0 := s[0].toNat_lt
  have hn : nI s.length = (s.length : Int) := rfl
  refine ⟨⟨by omega, by omega⟩, (s[0].toNat : Int), by have := bs_get s (i := 0) (by omega); rw [show Int.toNat (0 : Int) = Int.toNat ((0 : Nat) : Int) from rfl, this]; rfl, ?_⟩
  rintro n9 h9
  rw [W64 (by omega) (by omega)] at h9
  refine ⟨⟨by omega, by omega, Int.le_refl _⟩, ?_⟩
  rintro _ rfl
  exact endO (by rw [← h9, e2]) (by have := bs_drop s (1 : Int); rw [this]; rfl) rfl
end B
end Go.Proofs.YtmkkljbfmdngfaaDoor
namespace Go.Proofs.YtmkkljbfmdngfaaDoor
namespace B
set_option maxRecDepth 100000
def af60 : AF := ⟨(.seq (.ops [⟨(some 4), (.mov (.c (.d (.str []))) true none), none⟩, ⟨(some 5), (.mov (.c (.d (.bool false))) true none), none⟩]) (.seq (.ops [⟨(some 6), (.mov (.t 0) false none), none⟩, ⟨(some 7), (.mov (.t 1) false none), none⟩, ⟨(some 8), (.call 106 [((.t 6), none), ((.t 7), none)] none), none⟩, ⟨(some 9), (.extract (.t 8) 0 false), none⟩, ⟨(some 10), (.extract (.t 8) 1 false), none⟩, ⟨(some 4), (.mov (.t 9) true none), none⟩, ⟨(some 5), (.mov (.t 10) true none), none⟩]) .ret)), [(.tm 4), (.tm 5)], 2, 11⟩
theorem t60 : trF P HH 60 = some af60 := by kernel_rfl
def af62 : AF := ⟨(.seq (.ops [⟨(some 4), (.alloc [(.d (.str [])), (.d (.int .i64 0)), (.d (.int .i64 0)), (.d (.int .i64 0)), (.own 1 []), (.own 7 [])]), none⟩]) (.seq (.ops [⟨(some 8), (.mov (.t 1) false none), none⟩, ⟨(some 9), (.build [(.d (.str [])), (.d (.int .i64 0)), (.d (.int .i64 0)), (.d (.int .i64 0)), (.d (.nils 1)), (.d (.nils 7))] [(0, (1, (.t 8))), (3, (1, (.c (.d (.int .i64 1)))))]), none⟩, ⟨(some 5), (.alloc [(.d (.str [])), (.d (.int .i64 0)), (.d (.int .i64 0)), (.d (.int .i64 0)), (.own 1 []), (.own 7 [])]), none⟩, ⟨none, (.store true 6 (.t 5) (.t 9) none), none⟩]) (.seq (.draw [⟨(some 10), (.mov (.t 0) false none), none⟩, ⟨(some 11), (.nilCk (.t 10)), none⟩, ⟨(some 12), (.fieldA 0 (.t 11)), none⟩, ⟨(some 13), (.load false 1 (.t 12) false), none⟩, ⟨(some 14), (.call 108 [((.t 13), none)] none), none⟩, ⟨(some 15), (.mov (.t 0) false none), none⟩, ⟨(some 16), (.nilCk (.t 15)), none⟩, ⟨(some 17), (.fieldA 0 (.t 16)), none⟩, ⟨(some 18), (.load false 1 (.t 17) false), none⟩, ⟨(some 19), (.call 108 [((.t 18), none)] none), none⟩, ⟨(some 20), (.fieldA 1 (.t 5)), none⟩, ⟨none, (.store false 1 (.t 20) (.t 14) none), none⟩, ⟨(some 21), (.fieldA 2 (.t 5)), none⟩, ⟨none, (.store false 1 (.t 21) (.t 19) none), none⟩] [0, 0, 0, 0, 2, 0, 0, 0, 0, 2, 0, 3, 3, 3] [1100]) (.seq (.seq (.ops [⟨(some 22), (.mov (.t 0) false none), none⟩, ⟨(some 23), (.call 109 [((.t 22), none), ((.c (.d (.int .i64 32))), none)] none), none⟩, ⟨(some 24), (.mov (.c (.d (.int .i64 0))) false none), none⟩]) (.block 0 (.loop (.seq (.ops [⟨(some 25), (.bin false .lss (.t 24) (.t 23)), none⟩]) (.seq (.cond (.t 25) .skip (.exit 0)) (.seq (.block 1 (.seq (.ops [⟨(some 26), (.mov (.t 0) false none), none⟩, ⟨(some 27), (.nilCk (.t 26)), none⟩, ⟨(some 28), (.fieldA 0 (.t 27)), none⟩, ⟨(some 29), (.load false 1 (.t 28) false), none⟩, ⟨(some 30), (.call 110 [((.t 29), none), ((.c (.d (.int .i64 24))), none)] none), none⟩, ⟨(some 6), (.mov (.t 30) true none), none⟩]) (.seq (.ops [⟨(some 31), (.mov (.t 0) false none), none⟩, ⟨(some 32), (.call 111 [((.t 31), none)] none), none⟩]) (.cond (.t 32) (.ops [⟨(some 33), (.fieldA 4 (.t 5)), none⟩, ⟨(some 34), (.load false 1 (.t 33) true), none⟩, ⟨(some 35), (.mov (.t 6) false none), none⟩, ⟨(some 36), (.buildSl 1 [(.t 35)]), none⟩, ⟨(some 37), (.append 1 16 (.t 34) (.t 36)), none⟩, ⟨(some 38), (.fieldA 4 (.t 5)), none⟩, ⟨none, (.store false 1 (.t 38) (.t 37) (some 1)), none⟩]) .skip)))) (.ops [⟨(some 39), (.bin false .add (.t 24) (.c (.d (.int .i64 1)))), none⟩, ⟨(some 24), (.mov (.t 39) true none), none⟩]))))))) (.seq (.seq (.ops [⟨(some 40), (.mov (.t 0) false none), none⟩, ⟨(some 41), (.call 111 [((.t 40), none)] none), none⟩, ⟨(some 42), (.not (.t 41)), none⟩]) (.cond (.t 42) (.seq (.ops [⟨(some 43), (.load true 6 (.t 5) false), none⟩, ⟨none, (.store true 6 (.t 4) (.t 43) none), none⟩]) .ret) .skip)) (.seq (.seq (.ops [⟨(some 44), (.mov (.t 0) false none), none⟩, ⟨(some 45), (.call 109 [((.t 44), none), ((.c (.d (.int .i64 60))), none)] none), none⟩, ⟨(some 46), (.mov (.c (.d (.int .i64 0))) false none), none⟩]) (.block 2 (.loop (.seq (.ops [⟨(some 47), (.bin false .lss (.t 46) (.t 45)), none⟩]) (.seq (.cond (.t 47) .skip (.exit 2)) (.seq (.block 3 (.seq (.ops [⟨(some 48), (.mov (.t 0) false none), none⟩, ⟨(some 49), (.mov (.t 1) false none), none⟩, ⟨(some 50), (.call 112 [((.t 48), none), ((.t 49), none)] none), none⟩, ⟨(some 7), (.alloc [(.d (.int .i64 0)), (.d (.int .i64 0)), (.d (.int .i64 0)), (.d (.str [])), (.d (.int .i64 0)), (.own 1 []), (.d (.str []))]), none⟩, ⟨none, (.store true 7 (.t 7) (.t 50) none), none⟩]) (.seq (.ops [⟨(some 51), (.mov (.t 0) false none), none⟩, ⟨(some 52), (.call 111 [((.t 51), none)] none), none⟩]) (.cond (.t 52) (.ops [⟨(some 53), (.fieldA 5 (.t 5)), none⟩, ⟨(some 54), (.load false 1 (.t 53) true), none⟩, ⟨(some 55), (.load true 7 (.t 7) false), none⟩, ⟨(some 56), (.buildSl 7 [(.t 55)]), none⟩, ⟨(some 57), (.append 7 88 (.t 54) (.t 56)), none⟩, ⟨(some 58), (.fieldA 5 (.t 5)), none⟩, ⟨none, (.store false 1 (.t 58) (.t 57) (some 7)), none⟩]) .skip)))) (.ops [⟨(some 59), (.bin false .add (.t 46) (.c (.d (.int .i64 1)))), none⟩, ⟨(some 46), (.mov (.t 59) true none), none⟩]))))))) (.seq (.ops [⟨(some 60), (.load true 6 (.t 5) false), none⟩, ⟨none, (.store true 6 (.t 4) (.t 60) none), none⟩]) .ret))))))), [(.ce 4 true 6)], 2, 61⟩
theorem t62 : trF P HH 62 = some af62 := by kernel_rfl
def af65 : AF := ⟨(.seq (.ops [⟨(some 4), (.mov (.c (.d (.bool false))) true none), none⟩]) (.seq (.draw [⟨(some 5), (.mov (.t 0) false (some 1)), none⟩, ⟨(some 6), (.len (.t 5)), none⟩, ⟨(some 7), (.bin false .geq (.t 6) (.c (.d (.int .i64 3)))), none⟩, ⟨(some 8), (.mov (.t 7) true none), none⟩, ⟨(some 9), (.mov (.t 0) false (some 1)), (some (8, true))⟩, ⟨(some 10), (.slice 1 (.t 9) none (some (.c (.d (.int .i64 3))))), (some (8, true))⟩, ⟨(some 11), (.toStr (.t 10)), (some (8, true))⟩, ⟨(some 12), (.mov (.t 1) false none), (some (8, true))⟩, ⟨(some 13), (.call 57 [((.t 12), none)] none), (some (8, true))⟩, ⟨(some 14), (.bin false .add (.c (.d (.str [77, 66]))) (.t 13)), (some (8, true))⟩, ⟨(some 15), (.bin false .eql (.t 11) (.t 14)), (some (8, true))⟩, ⟨(some 16), (.pick (.t 8) (.t 15) (.c (.d (.bool false)))), none⟩, ⟨(some 4), (.mov (.t 16) true none), none⟩] [3, 3, 3, 3, 0, 0, 0, 0, 0, 0, 3, 3, 3] []) .ret)), [(.tm 4)], 2, 17⟩
theorem t65 : trF P HH 65 = some af65 := by kernel_rfl
def af70 : AF := ⟨(.seq (.ops [⟨(some 4), (.alloc [(.d (.str [])), (.d (.int .i64 0)), (.d (.int .i64 0)), (.d (.int .i64 0)), (.own 1 []), (.own 7 [])]), none⟩]) (.seq (.ops [⟨(some 8), (.mov (.t 1) false none), none⟩, ⟨(some 9), (.build [(.d (.str [])), (.d (.int .i64 0)), (.d (.int .i64 0)), (.d (.int .i64 0)), (.d (.nils 1)), (.d (.nils 7))] [(0, (1, (.t 8)))]), none⟩, ⟨(some 5), (.alloc [(.d (.str [])), (.d (.int .i64 0)), (.d (.int .i64 0)), (.d (.int .i64 0)), (.own 1 []), (.own 7 [])]), none⟩, ⟨none, (.store true 6 (.t 5) (.t 9) none), none⟩]) (.seq (.draw [⟨(some 10), (.mov (.t 0) false none), none⟩, ⟨(some 11), (.nilCk (.t 10)), none⟩, ⟨(some 12), (.fieldA 0 (.t 11)), none⟩, ⟨(some 13), (.load false 1 (.t 12) false), none⟩, ⟨(some 14), (.call 108 [((.t 13), none)] none), none⟩, ⟨(some 15), (.mov (.t 0) false none), none⟩, ⟨(some 16), (.nilCk (.t 15)), none⟩, ⟨(some 17), (.fieldA 0 (.t 16)), none⟩, ⟨(some 18), (.load false 1 (.t 17) false), none⟩, ⟨(some 19), (.call 108 [((.t 18), none)] none), none⟩, ⟨(some 20), (.fieldA 1 (.t 5)), none⟩, ⟨none, (.store false 1 (.t 20) (.t 14) none), none⟩, ⟨(some 21), (.fieldA 2 (.t 5)), none⟩, ⟨none, (.store false 1 (.t 21) (.t 19) none), none⟩] [0, 0, 0, 0, 2, 0, 0, 0, 0, 2, 0, 3, 3, 3] [1100]) (.seq (.ops [⟨(some 22), (.mov (.t 0) false none), none⟩, ⟨(some 23), (.nilCk (.t 22)), none⟩, ⟨(some 24), (.fieldA 0 (.t 23)), none⟩, ⟨(some 25), (.load false 1 (.t 24) false), none⟩, ⟨(some 26), (.call 108 [((.t 25), none)] none), none⟩, ⟨(some 27), (.fieldA 3 (.t 5)), none⟩, ⟨none, (.store false 1 (.t 27) (.t 26) none), none⟩]) (.seq (.seq (.ops [⟨(some 28), (.mov (.t 0) false none), none⟩, ⟨(some 29), (.call 114 [((.t 28), none), ((.c (.d (.int .i64 32))), none)] none), none⟩, ⟨(some 30), (.mov (.c (.d (.int .i64 0))) false none), none⟩]) (.block 0 (.loop (.seq (.ops [⟨(some 31), (.bin false .lss (.t 30) (.t 29)), none⟩]) (.seq (.cond (.t 31) .skip (.exit 0)) (.seq (.block 1 (.seq (.ops [⟨(some 32), (.mov (.t 0) false none), none⟩, ⟨(some 33), (.nilCk (.t 32)), none⟩, ⟨(some 34), (.fieldA 0 (.t 33)), none⟩, ⟨(some 35), (.load false 1 (.t 34) false), none⟩, ⟨(some 36), (.call 110 [((.t 35), none), ((.c (.d (.int .i64 24))), none)] none), none⟩, ⟨(some 6), (.mov (.t 36) true none), none⟩]) (.seq (.ops [⟨(some 37), (.mov (.t 0) false none), none⟩, ⟨(some 38), (.call 115 [((.t 37), none)] none), none⟩]) (.cond (.t 38) (.ops [⟨(some 39), (.fieldA 4 (.t 5)), none⟩, ⟨(some 40), (.load false 1 (.t 39) true), none⟩, ⟨(some 41), (.mov (.t 6) false none), none⟩, ⟨(some 42), (.buildSl 1 [(.t 41)]), none⟩, ⟨(some 43), (.append 1 16 (.t 40) (.t 42)), none⟩, ⟨(some 44), (.fieldA 4 (.t 5)), none⟩, ⟨none, (.store false 1 (.t 44) (.t 43) (some 1)), none⟩]) .skip)))) (.ops [⟨(some 45), (.bin false .add (.t 30) (.c (.d (.int .i64 1)))), none⟩, ⟨(some 30), (.mov (.t 45) true none), none⟩]))))))) (.seq (.seq (.ops [⟨(some 46), (.mov (.t 0) false none), none⟩, ⟨(some 47), (.call 115 [((.t 46), none)] none), none⟩, ⟨(some 48), (.not (.t 47)), none⟩]) (.cond (.t 48) (.seq (.ops [⟨(some 49), (.load true 6 (.t 5) false), none⟩, ⟨none, (.store true 6 (.t 4) (.t 49) none), none⟩]) .ret) .skip)) (.seq (.seq (.ops [⟨(some 50), (.mov (.t 0) false none), none⟩, ⟨(some 51), (.call 114 [((.t 50), none), ((.c (.d (.int .i64 60))), none)] none), none⟩, ⟨(some 52), (.mov (.c (.d (.int .i64 0))) false none), none⟩]) (.block 2 (.loop (.seq (.ops [⟨(some 53), (.bin false .lss (.t 52) (.t 51)), none⟩]) (.seq (.cond (.t 53) .skip (.exit 2)) (.seq (.block 3 (.seq (.ops [⟨(some 54), (.mov (.t 0) false none), none⟩, ⟨(some 55), (.mov (.t 1) false none), none⟩, ⟨(some 56), (.call 116 [((.t 54), none), ((.t 55), none)] none), none⟩, ⟨(some 7), (.alloc [(.d (.int .i64 0)), (.d (.int .i64 0)), (.d (.int .i64 0)), (.d (.str [])), (.d (.int .i64 0)), (.own 1 []), (.d (.str []))]), none⟩, ⟨none, (.store true 7 (.t 7) (.t 56) none), none⟩]) (.seq (.ops [⟨(some 57), (.mov (.t 0) false none), none⟩, ⟨(some 58), (.call 115 [((.t 57), none)] none), none⟩]) (.cond (.t 58) (.ops [⟨(some 59), (.fieldA 5 (.t 5)), none⟩, ⟨(some 60), (.load false 1 (.t 59) true), none⟩, ⟨(some 61), (.load true 7 (.t 7) false), none⟩, ⟨(some 62), (.buildSl 7 [(.t 61)]), none⟩, ⟨(some 63), (.append 7 88 (.t 60) (.t 62)), none⟩, ⟨(some 64), (.fieldA 5 (.t 5)), none⟩, ⟨none, (.store false 1 (.t 64) (.t 63) (some 7)), none⟩]) .skip)))) (.ops [⟨(some 65), (.bin false .add (.t 52) (.c (.d (.int .i64 1)))), none⟩, ⟨(some 52), (.mov (.t 65) true none), none⟩]))))))) (.seq (.ops [⟨(some 66), (.load true 6 (.t 5) false), none⟩, ⟨none, (.store true 6 (.t 4) (.t 66) none), none⟩]) .ret)))))))), [(.ce 4 true 6)], 2, 67⟩
theorem t70 : trF P HH 70 = some af70 := by kernel_rfl
def af106 : AF := ⟨(.seq (.ops [⟨(some 4), (.mov (.c (.d (.str []))) true none), none⟩, ⟨(some 5), (.mov (.c (.d (.bool false))) true none), none⟩]) (.seq (.seq (.ops [⟨(some 6), (.mov (.t 0) false none), none⟩, ⟨(some 7), (.mov (.t 1) false none), none⟩, ⟨(some 8), (.call 132 [((.t 6), none), ((.t 7), none)] none), none⟩, ⟨(some 9), (.not (.t 8)), none⟩]) (.cond (.t 9) (.seq (.ops [⟨(some 10), (.mov (.t 0) true none), none⟩, ⟨(some 4), (.mov (.t 10) true none), none⟩, ⟨(some 5), (.mov (.c (.d (.bool false))) true none), none⟩]) .ret) .skip)) (.seq (.ops [⟨(some 11), (.mov (.t 0) false none), none⟩, ⟨(some 12), (.mov (.t 1) false none), none⟩, ⟨(some 13), (.lenS (.t 12)), none⟩, ⟨(some 14), (.sliceS (.t 11) (some (.t 13)) none), none⟩, ⟨(some 4), (.mov (.t 14) true none), none⟩, ⟨(some 5), (.mov (.c (.d (.bool true))) true none), none⟩]) .ret))), [(.tm 4), (.tm 5)], 2, 15⟩
theorem t106 : trF P HH 106 = some af106 := by kernel_rfl
def af109 : AF := ⟨(.seq (.ops [⟨(some 4), (.mov (.c (.d (.int .i64 0))) true none), none⟩]) (.seq (.ops [⟨(some 6), (.mov (.t 0) false none), none⟩, ⟨(some 7), (.nilCk (.t 6)), none⟩, ⟨(some 8), (.fieldA 0 (.t 7)), none⟩, ⟨(some 9), (.load false 1 (.t 8) false), none⟩, ⟨(some 10), (.call 108 [((.t 9), none)] none), none⟩, ⟨(some 5), (.mov (.t 10) true none), none⟩]) (.seq (.seq (.ops [⟨(some 11), (.mov (.t 5) false none), none⟩, ⟨(some 12), (.mov (.t 1) false none), none⟩, ⟨(some 13), (.bin false .gtr (.t 11) (.t 12)), none⟩]) (.cond (.t 13) (.seq (.ops [⟨(some 14), (.mov (.t 0) false none), none⟩, ⟨(some 15), (.nilCk (.t 14)), none⟩, ⟨(some 16), (.fieldA 1 (.t 15)), none⟩, ⟨none, (.store false 1 (.t 16) (.c (.d (.bool true))) none), none⟩]) (.seq (.ops [⟨(some 4), (.mov (.c (.d (.int .i64 0))) true none), none⟩]) .ret)) .skip)) (.seq (.ops [⟨(some 17), (.mov (.t 5) true none), none⟩, ⟨(some 4), (.mov (.t 17) true none), none⟩]) .ret)))), [(.tm 4)], 2, 18⟩
theorem t109 : trF P HH 109 = some af109 := by kernel_rfl
def af111 : AF := ⟨(.seq (.ops [⟨(some 2), (.mov (.c (.d (.bool false))) true none), none⟩]) (.seq (.ops [⟨(some 3), (.mov (.t 0) false none), none⟩, ⟨(some 4), (.nilCk (.t 3)), none⟩, ⟨(some 5), (.fieldA 1 (.t 4)), none⟩, ⟨(some 6), (.load false 1 (.t 5) false), none⟩, ⟨(some 7), (.not (.t 6)), none⟩, ⟨(some 8), (.mov (.t 7) true none), none⟩, ⟨(some 9), (.mov (.t 0) false none), (some (8, true))⟩, ⟨(some 10), (.nilCk (.t 9)), (some (8, true))⟩, ⟨(some 11), (.fieldA 0 (.t 10)), (some (8, true))⟩, ⟨(some 12), (.load false 1 (.t 11) false), (some (8, true))⟩, ⟨(some 13), (.call 63 [((.t 12), none)] none), (some (8, true))⟩, ⟨(some 14), (.bin false .eql (.t 13) (.c (.d (.int .i64 0)))), (some (8, true))⟩, ⟨(some 15), (.pick (.t 8) (.t 14) (.c (.d (.bool false)))), none⟩, ⟨(some 2), (.mov (.t 15) true none), none⟩]) .ret)), [(.tm 2)], 1, 16⟩
theorem t111 : trF P HH 111 = some af111 := by kernel_rfl
def af112 : AF := ⟨(.seq (.ops [⟨(some 4), (.alloc [(.d (.int .i64 0)), (.d (.int .i64 0)), (.d (.int .i64 0)), (.d (.str [])), (.d (.int .i64 0)), (.own 1 []), (.d (.str []))]), none⟩]) (.seq (.ops [⟨(some 8), (.mov (.t 0) false none), none⟩, ⟨(some 9), (.nilCk (.t 8)), none⟩, ⟨(some 10), (.fieldA 0 (.t 9)), none⟩, ⟨(some 11), (.load false 1 (.t 10) false), none⟩, ⟨(some 12), (.call 108 [((.t 11), none)] none), none⟩, ⟨(some 13), (.build [(.d (.int .i64 0)), (.d (.int .i64 0)), (.d (.int .i64 0)), (.d (.str [])), (.d (.int .i64 0)), (.d (.nils 1)), (.d (.str []))] [(0, (1, (.t 12))), (1, (1, (.c (.d (.int .i64 1)))))]), none⟩, ⟨(some 5), (.alloc [(.d (.int .i64 0)), (.d (.int .i64 0)), (.d (.int .i64 0)), (.d (.str [])), (.d (.int .i64 0)), (.own 1 []), (.d (.str []))]), none⟩, ⟨none, (.store true 7 (.t 5) (.t 13) none), none⟩]) (.seq (.draw [⟨(some 14), (.mov (.t 0) false none), none⟩, ⟨(some 15), (.nilCk (.t 14)), none⟩, ⟨(some 16), (.fieldA 0 (.t 15)), none⟩, ⟨(some 17), (.load false 1 (.t 16) false), none⟩, ⟨(some 18), (.call 108 [((.t 17), none)] none), none⟩, ⟨(some 19), (.mov (.t 0) false none), none⟩, ⟨(some 20), (.nilCk (.t 19)), none⟩, ⟨(some 21), (.fieldA 0 (.t 20)), none⟩, ⟨(some 22), (.load false 1 (.t 21) false), none⟩, ⟨(some 23), (.call 137 [((.t 22), none)] none), none⟩, ⟨(some 24), (.fieldA 2 (.t 5)), none⟩, ⟨none, (.store false 1 (.t 24) (.t 18) none), none⟩, ⟨(some 25), (.fieldA 4 (.t 5)), none⟩, ⟨none, (.store false 1 (.t 25) (.t 23) none), none⟩] [0, 0, 0, 0, 2, 0, 0, 0, 0, 2, 0, 3, 3, 3] [1100]) (.seq (.ops [⟨(some 26), (.mov (.t 0) false none), none⟩, ⟨(some 27), (.nilCk (.t 26)), none⟩, ⟨(some 28), (.fieldA 0 (.t 27)), none⟩, ⟨(some 29), (.load false 1 (.t 28) false), none⟩, ⟨(some 30), (.call 108 [((.t 29), none)] none), none⟩, ⟨(some 6), (.mov (.t 30) true none), none⟩]) (.seq (.seq (.ops [⟨(some 31), (.mov (.c (.d (.int .i64 0))) false none), none⟩]) (.block 0 (.loop (.seq (.ops [⟨(some 32), (.bin false .lss (.t 31) (.c (.d (.int .i64 32)))), none⟩]) (.seq (.cond (.t 32) .skip (.exit 0)) (.seq (.block 1 (.seq (.ops [⟨(some 33), (.mov (.t 31) true none), none⟩, ⟨(some 7), (.mov (.t 33) true none), none⟩]) (.seq (.ops [⟨(some 34), (.mov (.t 6) false none), none⟩, ⟨(some 35), (.mov (.t 7) false none), none⟩, ⟨(some 36), (.bin false .shr (.t 34) (.t 35)), none⟩, ⟨(some 37), (.bin false .and (.t 36) (.c (.d (.int .i64 1)))), none⟩, ⟨(some 38), (.bin false .eql (.t 37) (.c (.d (.int .i64 1)))), none⟩]) (.cond (.t 38) (.ops [⟨(some 39), (.fieldA 5 (.t 5)), none⟩, ⟨(some 40), (.load false 1 (.t 39) true), none⟩, ⟨(some 41), (.mov (.t 7) false none), none⟩, ⟨(some 42), (.buildSl 1 [(.t 41)]), none⟩, ⟨(some 43), (.append 1 8 (.t 40) (.t 42)), none⟩, ⟨(some 44), (.fieldA 5 (.t 5)), none⟩, ⟨none, (.store false 1 (.t 44) (.t 43) (some 1)), none⟩]) .skip)))) (.ops [⟨(some 45), (.bin false .add (.t 31) (.c (.d (.int .i64 1)))), none⟩, ⟨(some 31), (.mov (.t 45) true none), none⟩]))))))) (.seq (.ops [⟨(some 46), (.mov (.t 1) false none), none⟩, ⟨(some 47), (.fieldA 0 (.t 5)), none⟩, ⟨(some 48), (.load false 1 (.t 47) false), none⟩, ⟨(some 49), (.call 88 [((.t 46), none), ((.t 48), none)] none), none⟩, ⟨(some 50), (.fieldA 3 (.t 5)), none⟩, ⟨none, (.store false 1 (.t 50) (.t 49) none), none⟩]) (.seq (.ops [⟨(some 51), (.mov (.t 0) false none), none⟩, ⟨(some 52), (.mov (.t 0) false none), none⟩, ⟨(some 53), (.call 109 [((.t 52), none), ((.c (.d (.int .i64 300))), none)] none), none⟩, ⟨(some 54), (.call 138 [((.t 51), none), ((.t 53), none)] none), none⟩, ⟨(some 55), (.fieldA 6 (.t 5)), none⟩, ⟨none, (.store false 1 (.t 55) (.t 54) none), none⟩]) (.seq (.ops [⟨(some 56), (.load true 7 (.t 5) false), none⟩, ⟨none, (.store true 7 (.t 4) (.t 56) none), none⟩]) .ret)))))))), [(.ce 4 true 7)], 2, 57⟩
theorem t112 : trF P HH 112 = some af112 := by kernel_rfl
def af114 : AF := ⟨(.seq (.ops [⟨(some 4), (.mov (.c (.d (.int .i64 0))) true none), none⟩]) (.seq (.ops [⟨(some 6), (.mov (.t 0) false none), none⟩, ⟨(some 7), (.nilCk (.t 6)), none⟩, ⟨(some 8), (.fieldA 0 (.t 7)), none⟩, ⟨(some 9), (.load false 1 (.t 8) false), none⟩, ⟨(some 10), (.call 108 [((.t 9), none)] none), none⟩, ⟨(some 5), (.mov (.t 10) true none), none⟩]) (.seq (.seq (.ops [⟨(some 11), (.mov (.t 5) false none), none⟩, ⟨(some 12), (.mov (.t 1) false none), none⟩, ⟨(some 13), (.bin false .gtr (.t 11) (.t 12)), none⟩]) (.cond (.t 13) (.seq (.ops [⟨(some 14), (.mov (.t 0) false none), none⟩, ⟨(some 15), (.nilCk (.t 14)), none⟩, ⟨(some 16), (.fieldA 1 (.t 15)), none⟩, ⟨none, (.store false 1 (.t 16) (.c (.d (.bool true))) none), none⟩]) (.seq (.ops [⟨(some 4), (.mov (.c (.d (.int .i64 0))) true none), none⟩]) .ret)) .skip)) (.seq (.ops [⟨(some 17), (.mov (.t 5) true none), none⟩, ⟨(some 4), (.mov (.t 17) true none), none⟩]) .ret)))), [(.tm 4)], 2, 18⟩
theorem t114 : trF P HH 114 = some af114 := by kernel_rfl
def af115 : AF := ⟨(.seq (.ops [⟨(some 2), (.mov (.c (.d (.bool false))) true none), none⟩]) (.seq (.ops [⟨(some 3), (.mov (.t 0) false none), none⟩, ⟨(some 4), (.nilCk (.t 3)), none⟩, ⟨(some 5), (.fieldA 1 (.t 4)), none⟩, ⟨(some 6), (.load false 1 (.t 5) false), none⟩, ⟨(some 7), (.not (.t 6)), none⟩, ⟨(some 8), (.mov (.t 7) true none), none⟩, ⟨(some 9), (.mov (.t 0) false none), (some (8, true))⟩, ⟨(some 10), (.nilCk (.t 9)), (some (8, true))⟩, ⟨(some 11), (.fieldA 0 (.t 10)), (some (8, true))⟩, ⟨(some 12), (.load false 1 (.t 11) false), (some (8, true))⟩, ⟨(some 13), (.call 63 [((.t 12), none)] none), (some (8, true))⟩, ⟨(some 14), (.bin false .eql (.t 13) (.c (.d (.int .i64 0)))), (some (8, true))⟩, ⟨(some 15), (.pick (.t 8) (.t 14) (.c (.d (.bool false)))), none⟩, ⟨(some 2), (.mov (.t 15) true none), none⟩]) .ret)), [(.tm 2)], 1, 16⟩
theorem t115 : trF P HH 115 = some af115 := by kernel_rfl
def af116 : AF := ⟨(.seq (.ops [⟨(some 4), (.alloc [(.d (.int .i64 0)), (.d (.int .i64 0)), (.d (.int .i64 0)), (.d (.str [])), (.d (.int .i64 0)), (.own 1 []), (.d (.str []))]), none⟩]) (.seq (.ops [⟨(some 8), (.mov (.t 0) false none), none⟩, ⟨(some 9), (.nilCk (.t 8)), none⟩, ⟨(some 10), (.fieldA 0 (.t 9)), none⟩, ⟨(some 11), (.load false 1 (.t 10) false), none⟩, ⟨(some 12), (.call 108 [((.t 11), none)] none), none⟩, ⟨(some 13), (.build [(.d (.int .i64 0)), (.d (.int .i64 0)), (.d (.int .i64 0)), (.d (.str [])), (.d (.int .i64 0)), (.d (.nils 1)), (.d (.str []))] [(0, (1, (.t 12)))]), none⟩, ⟨(some 5), (.alloc [(.d (.int .i64 0)), (.d (.int .i64 0)), (.d (.int .i64 0)), (.d (.str [])), (.d (.int .i64 0)), (.own 1 []), (.d (.str []))]), none⟩, ⟨none, (.store true 7 (.t 5) (.t 13) none), none⟩]) (.seq (.ops [⟨(some 14), (.mov (.t 0) false none), none⟩, ⟨(some 15), (.nilCk (.t 14)), none⟩, ⟨(some 16), (.fieldA 0 (.t 15)), none⟩, ⟨(some 17), (.load false 1 (.t 16) false), none⟩, ⟨(some 18), (.call 108 [((.t 17), none)] none), none⟩, ⟨(some 19), (.fieldA 1 (.t 5)), none⟩, ⟨none, (.store false 1 (.t 19) (.t 18) none), none⟩]) (.seq (.draw [⟨(some 20), (.mov (.t 0) false none), none⟩, ⟨(some 21), (.nilCk (.t 20)), none⟩, ⟨(some 22), (.fieldA 0 (.t 21)), none⟩, ⟨(some 23), (.load false 1 (.t 22) false), none⟩, ⟨(some 24), (.call 108 [((.t 23), none)] none), none⟩, ⟨(some 25), (.mov (.t 0) false none), none⟩, ⟨(some 26), (.nilCk (.t 25)), none⟩, ⟨(some 27), (.fieldA 0 (.t 26)), none⟩, ⟨(some 28), (.load false 1 (.t 27) false), none⟩, ⟨(some 29), (.call 137 [((.t 28), none)] none), none⟩, ⟨(some 30), (.fieldA 2 (.t 5)), none⟩, ⟨none, (.store false 1 (.t 30) (.t 24) none), none⟩, ⟨(some 31), (.fieldA 4 (.t 5)), none⟩, ⟨none, (.store false 1 (.t 31) (.t 29) none), none⟩] [0, 0, 0, 0, 2, 0, 0, 0, 0, 2, 0, 3, 3, 3] [1100]) (.seq (.ops [⟨(some 32), (.mov (.t 0) false none), none⟩, ⟨(some 33), (.nilCk (.t 32)), none⟩, ⟨(some 34), (.fieldA 0 (.t 33)), none⟩, ⟨(some 35), (.load false 1 (.t 34) false), none⟩, ⟨(some 36), (.call 108 [((.t 35), none)] none), none⟩, ⟨(some 6), (.mov (.t 36) true none), none⟩]) (.seq (.seq (.ops [⟨(some 37), (.mov (.c (.d (.int .i64 0))) false none), none⟩]) (.block 0 (.loop (.seq (.ops [⟨(some 38), (.bin false .lss (.t 37) (.c (.d (.int .i64 32)))), none⟩]) (.seq (.cond (.t 38) .skip (.exit 0)) (.seq (.block 1 (.seq (.ops [⟨(some 39), (.mov (.t 37) true none), none⟩, ⟨(some 7), (.mov (.t 39) true none), none⟩]) (.seq (.ops [⟨(some 40), (.mov (.t 6) false none), none⟩, ⟨(some 41), (.mov (.t 7) false none), none⟩, ⟨(some 42), (.bin false .shr (.t 40) (.t 41)), none⟩, ⟨(some 43), (.bin false .and (.t 42) (.c (.d (.int .i64 1)))), none⟩, ⟨(some 44), (.bin false .eql (.t 43) (.c (.d (.int .i64 1)))), none⟩]) (.cond (.t 44) (.ops [⟨(some 45), (.fieldA 5 (.t 5)), none⟩, ⟨(some 46), (.load false 1 (.t 45) true), none⟩, ⟨(some 47), (.mov (.t 7) false none), none⟩, ⟨(some 48), (.buildSl 1 [(.t 47)]), none⟩, ⟨(some 49), (.append 1 8 (.t 46) (.t 48)), none⟩, ⟨(some 50), (.fieldA 5 (.t 5)), none⟩, ⟨none, (.store false 1 (.t 50) (.t 49) (some 1)), none⟩]) .skip)))) (.ops [⟨(some 51), (.bin false .add (.t 37) (.c (.d (.int .i64 1)))), none⟩, ⟨(some 37), (.mov (.t 51) true none), none⟩]))))))) (.seq (.ops [⟨(some 52), (.mov (.t 1) false none), none⟩, ⟨(some 53), (.fieldA 0 (.t 5)), none⟩, ⟨(some 54), (.load false 1 (.t 53) false), none⟩, ⟨(some 55), (.call 88 [((.t 52), none), ((.t 54), none)] none), none⟩, ⟨(some 56), (.fieldA 3 (.t 5)), none⟩, ⟨none, (.store false 1 (.t 56) (.t 55) none), none⟩]) (.seq (.ops [⟨(some 57), (.mov (.t 0) false none), none⟩, ⟨(some 58), (.mov (.t 0) false none), none⟩, ⟨(some 59), (.call 114 [((.t 58), none), ((.c (.d (.int .i64 300))), none)] none), none⟩, ⟨(some 60), (.call 139 [((.t 57), none), ((.t 59), none)] none), none⟩, ⟨(some 61), (.fieldA 6 (.t 5)), none⟩, ⟨none, (.store false 1 (.t 61) (.t 60) none), none⟩]) (.seq (.ops [⟨(some 62), (.load true 7 (.t 5) false), none⟩, ⟨none, (.store true 7 (.t 4) (.t 62) none), none⟩]) .ret))))))))), [(.ce 4 true 7)], 2, 63⟩
theorem t116 : trF P HH 116 = some af116 := by kernel_rfl
def af132 : AF := ⟨(.seq (.ops [⟨(some 4), (.mov (.c (.d (.bool false))) true none), none⟩]) (.seq (.ops [⟨(some 5), (.mov (.t 0) false none), none⟩, ⟨(some 6), (.lenS (.t 5)), none⟩, ⟨(some 7), (.mov (.t 1) false none), none⟩, ⟨(some 8), (.lenS (.t 7)), none⟩, ⟨(some 9), (.bin false .geq (.t 6) (.t 8)), none⟩, ⟨(some 10), (.mov (.t 9) true none), none⟩, ⟨(some 11), (.mov (.t 0) false none), (some (10, true))⟩, ⟨(some 12), (.mov (.t 1) false none), (some (10, true))⟩, ⟨(some 13), (.lenS (.t 12)), (some (10, true))⟩, ⟨(some 14), (.sliceS (.t 11) none (some (.t 13))), (some (10, true))⟩, ⟨(some 15), (.mov (.t 1) false none), (some (10, true))⟩, ⟨(some 16), (.bin false .eql (.t 14) (.t 15)), (some (10, true))⟩, ⟨(some 17), (.pick (.t 10) (.t 16) (.c (.d (.bool false)))), none⟩, ⟨(some 4), (.mov (.t 17) true none), none⟩]) .ret)), [(.tm 4)], 2, 18⟩
theorem t132 : trF P HH 132 = some af132 := by kernel_rfl
def af138 : AF := ⟨(.seq (.ops [⟨(some 4), (.mov (.c (.d (.str []))) true none), none⟩]) (.seq (.ops [⟨(some 5), (.alloc [(.sp 5 156), (.bld 5 true [])]), none⟩]) (.seq (.seq (.ops [⟨(some 7), (.mov (.t 1) false none), none⟩, ⟨(some 8), (.mov (.c (.d (.int .i64 0))) false none), none⟩]) (.block 0 (.loop (.seq (.ops [⟨(some 9), (.bin false .lss (.t 8) (.t 7)), none⟩]) (.seq (.cond (.t 9) .skip (.exit 0)) (.seq (.block 1 (.seq (.ops [⟨(some 10), (.mov (.t 0) false none), none⟩, ⟨(some 11), (.nilCk (.t 10)), none⟩, ⟨(some 12), (.fieldA 0 (.t 11)), none⟩, ⟨(some 13), (.load false 1 (.t 12) false), none⟩, ⟨(some 14), (.call 137 [((.t 13), none)] none), none⟩, ⟨(some 6), (.mov (.t 14) true none), none⟩]) (.seq (.ops [⟨(some 15), (.mov (.t 0) false none), none⟩, ⟨(some 16), (.nilCk (.t 15)), none⟩, ⟨(some 17), (.fieldA 0 (.t 16)), none⟩, ⟨(some 18), (.load false 1 (.t 17) false), none⟩, ⟨(some 19), (.call 63 [((.t 18), none)] none), none⟩, ⟨(some 20), (.bin false .eql (.t 19) (.c (.d (.int .i64 0)))), none⟩]) (.cond (.t 20) (.ops [⟨(some 21), (.mov (.t 6) false none), none⟩, ⟨(some 22), (.convInt .u8 (.t 21)), none⟩, ⟨(some 23), (.call 158 [((.t 5), none), ((.t 22), none)] none), none⟩]) .skip)))) (.ops [⟨(some 24), (.bin false .add (.t 8) (.c (.d (.int .i64 1)))), none⟩, ⟨(some 8), (.mov (.t 24) true none), none⟩]))))))) (.seq (.ops [⟨(some 25), (.call 159 [((.t 5), none)] none), none⟩, ⟨(some 4), (.mov (.t 25) true none), none⟩]) .ret)))), [(.tm 4)], 2, 26⟩
theorem t138 : trF P HH 138 = some af138 := by kernel_rfl
def af139 : AF := ⟨(.seq (.ops [⟨(some 4), (.mov (.c (.d (.str []))) true none), none⟩]) (.seq (.ops [⟨(some 5), (.alloc [(.sp 5 156), (.bld 5 true [])]), none⟩]) (.seq (.seq (.ops [⟨(some 7), (.mov (.t 1) false none), none⟩, ⟨(some 8), (.mov (.c (.d (.int .i64 0))) false none), none⟩]) (.block 0 (.loop (.seq (.ops [⟨(some 9), (.bin false .lss (.t 8) (.t 7)), none⟩]) (.seq (.cond (.t 9) .skip (.exit 0)) (.seq (.block 1 (.seq (.ops [⟨(some 10), (.mov (.t 0) false none), none⟩, ⟨(some 11), (.nilCk (.t 10)), none⟩, ⟨(some 12), (.fieldA 0 (.t 11)), none⟩, ⟨(some 13), (.load false 1 (.t 12) false), none⟩, ⟨(some 14), (.call 137 [((.t 13), none)] none), none⟩, ⟨(some 6), (.mov (.t 14) true none), none⟩]) (.seq (.ops [⟨(some 15), (.mov (.t 0) false none), none⟩, ⟨(some 16), (.nilCk (.t 15)), none⟩, ⟨(some 17), (.fieldA 0 (.t 16)), none⟩, ⟨(some 18), (.load false 1 (.t 17) false), none⟩, ⟨(some 19), (.call 63 [((.t 18), none)] none), none⟩, ⟨(some 20), (.bin false .eql (.t 19) (.c (.d (.int .i64 0)))), none⟩]) (.cond (.t 20) (.ops [⟨(some 21), (.mov (.t 6) false none), none⟩, ⟨(some 22), (.convInt .u8 (.t 21)), none⟩, ⟨(some 23), (.call 158 [((.t 5), none), ((.t 22), none)] none), none⟩]) .skip)))) (.ops [⟨(some 24), (.bin false .add (.t 8) (.c (.d (.int .i64 1)))), none⟩, ⟨(some 8), (.mov (.t 24) true none), none⟩]))))))) (.seq (.ops [⟨(some 25), (.call 159 [((.t 5), none)] none), none⟩, ⟨(some 4), (.mov (.t 25) true none), none⟩]) .ret)))), [(.tm 4)], 2, 26⟩
theorem t139 : trF P HH 139 = some af139 := by kernel_rfl
theorem vc60 (s0 : Bytes) (s1 : Bytes) (res : CV) (objs' : List (Nat × List CV)) : walkA P (tbF P [102,103,50,48,53,56,105,58,107] [] 60) (anOf af60 []) af60 [CV.d (D.str s0), CV.d (D.str s1)] [] (fun rs => endE rs res objs') = ((∃ s2 : Bytes, (∃ b3 : Bool, ((Runs P 106 [CV.d (D.str s0), CV.d (D.str s1)] [] (CV.tup [CV.d (D.str s2), CV.d (D.bool b3)]) []) ∧ EndR (CV.tup [CV.d (D.str s2), CV.d (D.bool b3)]) res [] objs')))) := by kernel_rfl
theorem vc106 (s0 : Bytes) (s1 : Bytes) (res : CV) (objs' : List (Nat × List CV)) : walkA P (tbF P [102,103,50,48,53,56,105,58,107] [] 106) (anOf af106 []) af106 [CV.d (D.str s0), CV.d (D.str s1)] [] (fun rs => endE rs res objs') = ((∃ b2 : Bool, ((Runs P 132 [CV.d (D.str s0), CV.d (D.str s1)] [] (CV.d (D.bool b2)) []) ∧ (((!b2) = true → EndR (CV.tup [CV.d (D.str s0), CV.d (D.bool false)]) res [] objs') ∧ ((!b2) = false → ((0 ≤ nI (List.length s1) ∧ nI (List.length s1) ≤ nI (List.length s0) ∧ nI (List.length s0) ≤ nI (List.length s0)) ∧ (∀ s3 : Bytes, (List.drop (Int.toNat (nI (List.length s1))) (List.take (Int.toNat (nI (List.length s0))) s0) = s3 → EndR (CV.tup [CV.d (D.str s3), CV.d (D.bool true)]) res [] objs')))))))) := by kernel_rfl
theorem vc132 (s0 : Bytes) (s1 : Bytes) (res : CV) (objs' : List (Nat × List CV)) : walkA P (tbF P [102,103,50,48,53,56,105,58,107] [] 132) (anOf af132 []) af132 [CV.d (D.str s0), CV.d (D.str s1)] [] (fun rs => endE rs res objs') = (((decide (nI (List.length s0) ≥ nI (List.length s1)) = true → 0 ≤ nI (0 : Nat) ∧ nI (0 : Nat) ≤ nI (List.length s1) ∧ nI (List.length s1) ≤ nI (List.length s0)) ∧ (∀ s2 : Bytes, (List.drop (Int.toNat (nI (0 : Nat))) (List.take (Int.toNat (nI (List.length s1))) s0) = s2 → (∀ b3 : Bool, ((decide (nI (List.length s0) ≥ nI (List.length s1)) && s2 == s1) = b3 → EndR (CV.d (D.bool b3)) res [] objs')))))) := by kernel_rfl
theorem vc65 (l0 : List D) (n1 : Int) (res : CV) (objs' : List (Nat × List CV)) : walkA P (tbF P [102,103,50,48,53,56,105,58,107] [] 65) (anOf af65 []) af65 [CV.d (D.slice 1 l0), CV.d (D.int .i64 n1)] [] (fun rs => endE rs res objs') = (((decide (nI (List.length l0) ≥ 3) = true → 0 ≤ nI (0 : Nat) ∧ nI (0 : Nat) ≤ 3 ∧ 3 ≤ nI (List.length l0)) ∧ (∀ l2 : List D, (List.drop (Int.toNat (nI (0 : Nat))) (List.take (Int.toNat 3) l0) = l2 → (∃ s3 : Bytes, ((decide (nI (List.length l0) ≥ 3) = true → l2 = List.map byteD s3) ∧ (∃ s4 : Bytes, ((decide (nI (List.length l0) ≥ 3) = true → Runs P 57 [CV.d (D.int .i64 n1)] [] (CV.d (D.str s4)) []) ∧ ((decide (nI (List.length l0) ≥ 3) = true → nI (List.length [77, 66] + List.length s4) ≤ Go.IntKind.max Go.IntKind.i64) ∧ (∀ s5 : Bytes, ([77, 66] ++ s4 = s5 → (∀ b6 : Bool, ((decide (nI (List.length l0) ≥ 3) && s3 == s5) = b6 → EndR (CV.d (D.bool b6)) res [] objs'))))))))))))) := by kernel_rfl
theorem vc109 (l : List D) (e : Int) (off : Bool) (n : Int) (res : CV) (objs' : List (Nat × List CV)) : walkA P (tbF P [102,103,50,48,53,56,105,58,107] [] 109) (anOf af109 [(0, 1000, 0), (200000, 1100, 0)]) af109 [CV.ptr 1000 0, CV.d (D.int .i64 n)] [(1000, [CV.ptr 1100 0, CV.d (D.bool off)]), (1100, [CV.d (D.slice 1 l), CV.d (D.int .i64 e)])] (fun rs => endE rs res objs') = ((∃ l4 : List D, (∃ n5 : Int, (∃ n6 : Int, ((Runs P 108 [CV.ptr 1100 0] [(1100, [CV.d (D.slice 1 l), CV.d (D.int .i64 e)])] (CV.d (D.int .i64 n6)) [(1100, [CV.d (D.slice 1 l4), CV.d (D.int .i64 n5)])]) ∧ (((decide (n6 > n)) = true → EndR (CV.d (D.int .i64 (0 : Int))) res [(1000, [CV.ptr 1100 0, CV.d (D.bool true)]), (1100, [CV.d (D.slice 1 l4), CV.d (D.int .i64 n5)])] objs') ∧ ((decide (n6 > n)) = false → EndR (CV.d (D.int .i64 n6)) res [(1000, [CV.ptr 1100 0, CV.d (D.bool off)]), (1100, [CV.d (D.slice 1 l4), CV.d (D.int .i64 n5)])] objs'))))))) := by kernel_rfl
theorem vc114 (l : List D) (e : Int) (off : Bool) (n : Int) (res : CV) (objs' : List (Nat × List CV)) : walkA P (tbF P [102,103,50,48,53,56,105,58,107] [] 114) (anOf af114 [(0, 1000, 0), (200000, 1100, 0)]) af114 [CV.ptr 1000 0, CV.d (D.int .i64 n)] [(1000, [CV.ptr 1100 0, CV.d (D.bool off)]), (1100, [CV.d (D.slice 1 l), CV.d (D.int .i64 e)])] (fun rs => endE rs res objs') = ((∃ l4 : List D, (∃ n5 : Int, (∃ n6 : Int, ((Runs P 108 [CV.ptr 1100 0] [(1100, [CV.d (D.slice 1 l), CV.d (D.int .i64 e)])] (CV.d (D.int .i64 n6)) [(1100, [CV.d (D.slice 1 l4), CV.d (D.int .i64 n5)])]) ∧ (((decide (n6 > n)) = true → EndR (CV.d (D.int .i64 (0 : Int))) res [(1000, [CV.ptr 1100 0, CV.d (D.bool true)]), (1100, [CV.d (D.slice 1 l4), CV.d (D.int .i64 n5)])] objs') ∧ ((decide (n6 > n)) = false → EndR (CV.d (D.int .i64 n6)) res [(1000, [CV.ptr 1100 0, CV.d (D.bool off)]), (1100, [CV.d (D.slice 1 l4), CV.d (D.int .i64 n5)])] objs'))))))) := by kernel_rfl
theorem vc111 (l : List D) (e : Int) (off : Bool) (res : CV) (objs' : List (Nat × List CV)) : walkA P (tbF P [102,103,50,48,53,56,105,58,107] [] 111) (anOf af111 [(0, 1000, 0), (200000, 1100, 0)]) af111 [CV.ptr (1000 : Nat) (0 : Nat)] [(1000, [CV.ptr 1100 0, CV.d (D.bool off)]), (1100, [CV.d (D.slice 1 l), CV.d (D.int .i64 e)])] (fun rs => endE rs res objs') = ((∃ n3 : Int, (((!off) = true → Runs P 63 [CV.ptr 1100 0] [(1100, [CV.d (D.slice 1 l), CV.d (D.int .i64 e)])] (CV.d (D.int .i64 n3)) [(1100, [CV.d (D.slice 1 l), CV.d (D.int .i64 e)])]) ∧ (∀ b4 : Bool, ((!off && n3 == 0) = b4 → EndR (CV.d (D.bool b4)) res [(1000, [CV.ptr 1100 0, CV.d (D.bool off)]), (1100, [CV.d (D.slice 1 l), CV.d (D.int .i64 e)])] objs'))))) := by kernel_rfl
theorem vc115 (l : List D) (e : Int) (off : Bool) (res : CV) (objs' : List (Nat × List CV)) : walkA P (tbF P [102,103,50,48,53,56,105,58,107] [] 115) (anOf af115 [(0, 1000, 0), (200000, 1100, 0)]) af115 [CV.ptr (1000 : Nat) (0 : Nat)] [(1000, [CV.ptr 1100 0, CV.d (D.bool off)]), (1100, [CV.d (D.slice 1 l), CV.d (D.int .i64 e)])] (fun rs => endE rs res objs') = ((∃ n3 : Int, (((!off) = true → Runs P 63 [CV.ptr 1100 0] [(1100, [CV.d (D.slice 1 l), CV.d (D.int .i64 e)])] (CV.d (D.int .i64 n3)) [(1100, [CV.d (D.slice 1 l), CV.d (D.int .i64 e)])]) ∧ (∀ b4 : Bool, ((!off && n3 == 0) = b4 → EndR (CV.d (D.bool b4)) res [(1000, [CV.ptr 1100 0, CV.d (D.bool off)]), (1100, [CV.d (D.slice 1 l), CV.d (D.int .i64 e)])] objs'))))) := by kernel_rfl
theorem vc138 (l : List D) (e : Int) (off : Bool) (n : Int) (res : CV) (objs' : List (Nat × List CV)) : walkA P (tbF P [102,103,50,48,53,56,105,58,107] [] 138) (anOf af138 [(0, 1000, 0), (200000, 1100, 0)]) af138 [CV.ptr 1000 0, CV.d (D.int .i64 n)] [(1000, [CV.ptr 1100 0, CV.d (D.bool off)]), (1100, [CV.d (D.slice 1 l), CV.d (D.int .i64 e)])] (fun rs => endE rs res objs') = ((∃ I4 : (Int → (List D → (Int → (Bytes → (Nat → Prop))))), (((CV.sp (5 : Nat) (156 : Nat) = CV.sp (5 : Nat) (156 : Nat)) ∧ (∃ k5 : Nat, I4 0 l e [] k5)) ∧ (∀ n6 : Int, (∀ l7 : List D, (∀ n8 : Int, (∀ s9 : Bytes, (∀ k10 : Nat, (I4 n6 l7 n8 s9 k10 → (((decide (n6 < n)) = true → (∃ l11 : List D, (∃ n12 : Int, (∃ n13 : Int, ((Runs P 137 [CV.ptr 1100 0] [(1100, [CV.d (D.slice 1 l7), CV.d (D.int .i64 n8)])] (CV.d (D.int .i64 n13)) [(1100, [CV.d (D.slice 1 l11), CV.d (D.int .i64 n12)])]) ∧ (∃ l14 : List D, (∃ n15 : Int, (∃ n16 : Int, ((Runs P 63 [CV.ptr 1100 0] [(1100, [CV.d (D.slice 1 l11), CV.d (D.int .i64 n12)])] (CV.d (D.int .i64 n16)) [(1100, [CV.d (D.slice 1 l14), CV.d (D.int .i64 n15)])]) ∧ (((n16 == 0) = true → (∀ n17 : Int, (Go.IntKind.wrap Go.IntKind.u8 n13 = n17 → (∃ s18 : Bytes, ((Runs P 158 [CV.ptr 5 0, CV.d (D.int .u8 n17)] [(5, [CV.sp 5 156, CV.bld 5 false s9])] CV.junk [(5, [CV.sp 5 156, CV.bld 5 false s18])]) ∧ (∀ n19 : Int, (Go.IntKind.wrap Go.IntKind.i64 (n6 + 1) = n19 → ((CV.sp (5 : Nat) (156 : Nat) = CV.sp (5 : Nat) (156 : Nat)) ∧ (∃ k20 : Nat, ((k20 < k10) ∧ I4 n19 l14 n15 s18 k20)))))))))) ∧ ((n16 == 0) = false → (∀ n21 : Int, (Go.IntKind.wrap Go.IntKind.i64 (n6 + 1) = n21 → ((CV.sp (5 : Nat) (156 : Nat) = CV.sp (5 : Nat) (156 : Nat)) ∧ (∃ k22 : Nat, ((k22 < k10) ∧ I4 n21 l14 n15 s9 k22)))))))))))))))) ∧ ((decide (n6 < n)) = false → (∃ s23 : Bytes, (∃ s24 : Bytes, ((Runs P 159 [CV.ptr 5 0] [(5, [CV.sp 5 156, CV.bld 5 false s9])] (CV.d (D.str s24)) [(5, [CV.sp 5 156, CV.bld 5 false s23])]) ∧ EndR (CV.d (D.str s24)) res [(1000, [CV.ptr 1100 0, CV.d (D.bool off)]), (1100, [CV.d (D.slice 1 l7), CV.d (D.int .i64 n8)]), (5, [CV.sp 5 156, CV.bld 5 false s23])] objs')))))))))))))) := by kernel_rfl
theorem vc139 (l : List D) (e : Int) (off : Bool) (n : Int) (res : CV) (objs' : List (Nat × List CV)) : walkA P (tbF P [102,103,50,48,53,56,105,58,107] [] 139) (anOf af139 [(0, 1000, 0), (200000, 1100, 0)]) af139 [CV.ptr 1000 0, CV.d (D.int .i64 n)] [(1000, [CV.ptr 1100 0, CV.d (D.bool off)]), (1100, [CV.d (D.slice 1 l), CV.d (D.int .i64 e)])] (fun rs => endE rs res objs') = ((∃ I4 : (Int → (List D → (Int → (Bytes → (Nat → Prop))))), (((CV.sp (5 : Nat) (156 : Nat) = CV.sp (5 : Nat) (156 : Nat)) ∧ (∃ k5 : Nat, I4 0 l e [] k5)) ∧ (∀ n6 : Int, (∀ l7 : List D, (∀ n8 : Int, (∀ s9 : Bytes, (∀ k10 : Nat, (I4 n6 l7 n8 s9 k10 → (((decide (n6 < n)) = true → (∃ l11 : List D, (∃ n12 : Int, (∃ n13 : Int, ((Runs P 137 [CV.ptr 1100 0] [(1100, [CV.d (D.slice 1 l7), CV.d (D.int .i64 n8)])] (CV.d (D.int .i64 n13)) [(1100, [CV.d (D.slice 1 l11), CV.d (D.int .i64 n12)])]) ∧ (∃ l14 : List D, (∃ n15 : Int, (∃ n16 : Int, ((Runs P 63 [CV.ptr 1100 0] [(1100, [CV.d (D.slice 1 l11), CV.d (D.int .i64 n12)])] (CV.d (D.int .i64 n16)) [(1100, [CV.d (D.slice 1 l14), CV.d (D.int .i64 n15)])]) ∧ (((n16 == 0) = true → (∀ n17 : Int, (Go.IntKind.wrap Go.IntKind.u8 n13 = n17 → (∃ s18 : Bytes, ((Runs P 158 [CV.ptr 5 0, CV.d (D.int .u8 n17)] [(5, [CV.sp 5 156, CV.bld 5 false s9])] CV.junk [(5, [CV.sp 5 156, CV.bld 5 false s18])]) ∧ (∀ n19 : Int, (Go.IntKind.wrap Go.IntKind.i64 (n6 + 1) = n19 → ((CV.sp (5 : Nat) (156 : Nat) = CV.sp (5 : Nat) (156 : Nat)) ∧ (∃ k20 : Nat, ((k20 < k10) ∧ I4 n19 l14 n15 s18 k20)))))))))) ∧ ((n16 == 0) = false → (∀ n21 : Int, (Go.IntKind.wrap Go.IntKind.i64 (n6 + 1) = n21 → ((CV.sp (5 : Nat) (156 : Nat) = CV.sp (5 : Nat) (156 : Nat)) ∧ (∃ k22 : Nat, ((k22 < k10) ∧ I4 n21 l14 n15 s9 k22)))))))))))))))) ∧ ((decide (n6 < n)) = false → (∃ s23 : Bytes, (∃ s24 : Bytes, ((Runs P 159 [CV.ptr 5 0] [(5, [CV.sp 5 156, CV.bld 5 false s9])] (CV.d (D.str s24)) [(5, [CV.sp 5 156, CV.bld 5 false s23])]) ∧ EndR (CV.d (D.str s24)) res [(1000, [CV.ptr 1100 0, CV.d (D.bool off)]), (1100, [CV.d (D.slice 1 l7), CV.d (D.int .i64 n8)]), (5, [CV.sp 5 156, CV.bld 5 false s23])] objs')))))))))))))) := by kernel_rfl
theorem vc112 (l : List D) (e : Int) (off : Bool) (s : Bytes) (res : CV) (objs' : List (Nat × List CV)) : walkA P (tbF P [102,103,50,48,53,56,105,58,107] [] 112) (anOf af112 [(0, 1000, 0), (200000, 1100, 0)]) af112 [CV.ptr 1000 0, CV.d (D.str s)] [(1000, [CV.ptr 1100 0, CV.d (D.bool off)]), (1100, [CV.d (D.slice 1 l), CV.d (D.int .i64 e)])] (fun rs => endE rs res objs') = ((∃ l4 : List D, (∃ n5 : Int, (∃ n6 : Int, ((Runs P 108 [CV.ptr 1100 0] [(1100, [CV.d (D.slice 1 l), CV.d (D.int .i64 e)])] (CV.d (D.int .i64 n6)) [(1100, [CV.d (D.slice 1 l4), CV.d (D.int .i64 n5)])]) ∧ (∃ l7 : List D, (∃ n8 : Int, (∃ n9 : Int, ((Runs P 108 [CV.ptr 1100 0] [(1100, [CV.d (D.slice 1 l4), CV.d (D.int .i64 n5)])] (CV.d (D.int .i64 n9)) [(1100, [CV.d (D.slice 1 l7), CV.d (D.int .i64 n8)])]) ∧ (∃ l10 : List D, (∃ n11 : Int, (∃ n12 : Int, ((Runs P 137 [CV.ptr 1100 0] [(1100, [CV.d (D.slice 1 l7), CV.d (D.int .i64 n8)])] (CV.d (D.int .i64 n12)) [(1100, [CV.d (D.slice 1 l10), CV.d (D.int .i64 n11)])]) ∧ (∃ l13 : List D, (∃ n14 : Int, (∃ n15 : Int, ((Runs P 108 [CV.ptr 1100 0] [(1100, [CV.d (D.slice 1 l10), CV.d (D.int .i64 n11)])] (CV.d (D.int .i64 n15)) [(1100, [CV.d (D.slice 1 l13), CV.d (D.int .i64 n14)])]) ∧ (∃ I16 : (Int → (List D → (Nat → Prop))), (((CV.d (D.int .i64 n6) = CV.d (D.int .i64 n6)) ∧ ((CV.d (D.int .i64 (1 : Int)) = CV.d (D.int .i64 (1 : Int))) ∧ ((CV.d (D.int .i64 n9) = CV.d (D.int .i64 n9)) ∧ ((CV.d (D.str []) = CV.d (D.str [])) ∧ ((CV.d (D.int .i64 n12) = CV.d (D.int .i64 n12)) ∧ ((CV.d (D.str []) = CV.d (D.str [])) ∧ (∃ k17 : Nat, I16 0 [] k17))))))) ∧ (∀ n18 : Int, (∀ l19 : List D, (∀ k20 : Nat, (I16 n18 l19 k20 → (((decide (n18 < 32)) = true → ((0 ≤ n18) ∧ (∀ n21 : Int, (Int.fdiv n15 (2 ^ Min.min (Int.toNat n18) (Go.IntKind.bits .i64)) = n21 → (∀ n22 : Int, (Go.IntKind.wrap Go.IntKind.i64 (nI (BitVec.toNat (BitVec.ofInt (Go.IntKind.bits .i64) n21 &&& BitVec.ofInt (Go.IntKind.bits .i64) 1))) = n22 → (((n22 == 1) = true → (((List.length l19 + List.length [D.int .i64 n18]) * 8 ≤ 140737488355328) ∧ (∀ n23 : Int, (Go.IntKind.wrap Go.IntKind.i64 (n18 + 1) = n23 → ((CV.d (D.int .i64 n6) = CV.d (D.int .i64 n6)) ∧ ((CV.d (D.int .i64 (1 : Int)) = CV.d (D.int .i64 (1 : Int))) ∧ ((CV.d (D.int .i64 n9) = CV.d (D.int .i64 n9)) ∧ ((CV.d (D.str []) = CV.d (D.str [])) ∧ ((CV.d (D.int .i64 n12) = CV.d (D.int .i64 n12)) ∧ ((CV.d (D.str []) = CV.d (D.str [])) ∧ (∃ k24 : Nat, ((k24 < k20) ∧ I16 n23 (l19 ++ [D.int .i64 n18]) k24)))))))))))) ∧ ((n22 == 1) = false → (∀ n25 : Int, (Go.IntKind.wrap Go.IntKind.i64 (n18 + 1) = n25 → ((CV.d (D.int .i64 n6) = CV.d (D.int .i64 n6)) ∧ ((CV.d (D.int .i64 (1 : Int)) = CV.d (D.int .i64 (1 : Int))) ∧ ((CV.d (D.int .i64 n9) = CV.d (D.int .i64 n9)) ∧ ((CV.d (D.str []) = CV.d (D.str [])) ∧ ((CV.d (D.int .i64 n12) = CV.d (D.int .i64 n12)) ∧ ((CV.d (D.str []) = CV.d (D.str [])) ∧ (∃ k26 : Nat, ((k26 < k20) ∧ I16 n25 l19 k26)))))))))))))))))) ∧ ((decide (n18 < 32)) = false → (∃ s27 : Bytes, ((Runs P 88 [CV.d (D.str s), CV.d (D.int .i64 n6)] [] (CV.d (D.str s27)) []) ∧ (∃ b28 : Bool, (∃ l29 : List D, (∃ n30 : Int, (∃ n31 : Int, ((Runs P 109 [CV.ptr 1000 0, CV.d (D.int .i64 300)] [(1000, [CV.ptr 1100 0, CV.d (D.bool off)]), (1100, [CV.d (D.slice 1 l13), CV.d (D.int .i64 n14)])] (CV.d (D.int .i64 n31)) [(1000, [CV.ptr 1100 0, CV.d (D.bool b28)]), (1100, [CV.d (D.slice 1 l29), CV.d (D.int .i64 n30)])]) ∧ (∃ b32 : Bool, (∃ l33 : List D, (∃ n34 : Int, (∃ s35 : Bytes, ((Runs P 138 [CV.ptr 1000 0, CV.d (D.int .i64 n31)] [(1000, [CV.ptr 1100 0, CV.d (D.bool b28)]), (1100, [CV.d (D.slice 1 l29), CV.d (D.int .i64 n30)])] (CV.d (D.str s35)) [(1000, [CV.ptr 1100 0, CV.d (D.bool b32)]), (1100, [CV.d (D.slice 1 l33), CV.d (D.int .i64 n34)])]) ∧ EndR (CV.d (D.agg [D.int .i64 n6, D.int .i64 1, D.int .i64 n9, D.str s27, D.int .i64 n12, D.slice 1 l19, D.str s35])) res [(1000, [CV.ptr 1100 0, CV.d (D.bool b32)]), (1100, [CV.d (D.slice 1 l33), CV.d (D.int .i64 n34)]), (4, [CV.d (D.int .i64 n6), CV.d (D.int .i64 1), CV.d (D.int .i64 n9), CV.d (D.str s27), CV.d (D.int .i64 n12), CV.d (D.slice 1 l19), CV.d (D.str s35)]), (5, [CV.d (D.int .i64 n6), CV.d (D.int .i64 1), CV.d (D.int .i64 n9), CV.d (D.str s27), CV.d (D.int .i64 n12), CV.own 1 l19, CV.d (D.str s35)])] objs'))))))))))))))))))))))))))))))))))))) := by kernel_rfl
theorem vc116 (l : List D) (e : Int) (off : Bool) (s : Bytes) (res : CV) (objs' : List (Nat × List CV)) : walkA P (tbF P [102,103,50,48,53,56,105,58,107] [] 116) (anOf af116 [(0, 1000, 0), (200000, 1100, 0)]) af116 [CV.ptr 1000 0, CV.d (D.str s)] [(1000, [CV.ptr 1100 0, CV.d (D.bool off)]), (1100, [CV.d (D.slice 1 l), CV.d (D.int .i64 e)])] (fun rs => endE rs res objs') = ((∃ l4 : List D, (∃ n5 : Int, (∃ n6 : Int, ((Runs P 108 [CV.ptr 1100 0] [(1100, [CV.d (D.slice 1 l), CV.d (D.int .i64 e)])] (CV.d (D.int .i64 n6)) [(1100, [CV.d (D.slice 1 l4), CV.d (D.int .i64 n5)])]) ∧ (∃ l7 : List D, (∃ n8 : Int, (∃ n9 : Int, ((Runs P 108 [CV.ptr 1100 0] [(1100, [CV.d (D.slice 1 l4), CV.d (D.int .i64 n5)])] (CV.d (D.int .i64 n9)) [(1100, [CV.d (D.slice 1 l7), CV.d (D.int .i64 n8)])]) ∧ (∃ l10 : List D, (∃ n11 : Int, (∃ n12 : Int, ((Runs P 108 [CV.ptr 1100 0] [(1100, [CV.d (D.slice 1 l7), CV.d (D.int .i64 n8)])] (CV.d (D.int .i64 n12)) [(1100, [CV.d (D.slice 1 l10), CV.d (D.int .i64 n11)])]) ∧ (∃ l13 : List D, (∃ n14 : Int, (∃ n15 : Int, ((Runs P 137 [CV.ptr 1100 0] [(1100, [CV.d (D.slice 1 l10), CV.d (D.int .i64 n11)])] (CV.d (D.int .i64 n15)) [(1100, [CV.d (D.slice 1 l13), CV.d (D.int .i64 n14)])]) ∧ (∃ l16 : List D, (∃ n17 : Int, (∃ n18 : Int, ((Runs P 108 [CV.ptr 1100 0] [(1100, [CV.d (D.slice 1 l13), CV.d (D.int .i64 n14)])] (CV.d (D.int .i64 n18)) [(1100, [CV.d (D.slice 1 l16), CV.d (D.int .i64 n17)])]) ∧ (∃ I19 : (Int → (List D → (Nat → Prop))), (((CV.d (D.int .i64 n6) = CV.d (D.int .i64 n6)) ∧ ((CV.d (D.int .i64 n9) = CV.d (D.int .i64 n9)) ∧ ((CV.d (D.int .i64 n12) = CV.d (D.int .i64 n12)) ∧ ((CV.d (D.str []) = CV.d (D.str [])) ∧ ((CV.d (D.int .i64 n15) = CV.d (D.int .i64 n15)) ∧ ((CV.d (D.str []) = CV.d (D.str [])) ∧ (∃ k20 : Nat, I19 0 [] k20))))))) ∧ (∀ n21 : Int, (∀ l22 : List D, (∀ k23 : Nat, (I19 n21 l22 k23 → (((decide (n21 < 32)) = true → ((0 ≤ n21) ∧ (∀ n24 : Int, (Int.fdiv n18 (2 ^ Min.min (Int.toNat n21) (Go.IntKind.bits .i64)) = n24 → (∀ n25 : Int, (Go.IntKind.wrap Go.IntKind.i64 (nI (BitVec.toNat (BitVec.ofInt (Go.IntKind.bits .i64) n24 &&& BitVec.ofInt (Go.IntKind.bits .i64) 1))) = n25 → (((n25 == 1) = true → (((List.length l22 + List.length [D.int .i64 n21]) * 8 ≤ 140737488355328) ∧ (∀ n26 : Int, (Go.IntKind.wrap Go.IntKind.i64 (n21 + 1) = n26 → ((CV.d (D.int .i64 n6) = CV.d (D.int .i64 n6)) ∧ ((CV.d (D.int .i64 n9) = CV.d (D.int .i64 n9)) ∧ ((CV.d (D.int .i64 n12) = CV.d (D.int .i64 n12)) ∧ ((CV.d (D.str []) = CV.d (D.str [])) ∧ ((CV.d (D.int .i64 n15) = CV.d (D.int .i64 n15)) ∧ ((CV.d (D.str []) = CV.d (D.str [])) ∧ (∃ k27 : Nat, ((k27 < k23) ∧ I19 n26 (l22 ++ [D.int .i64 n21]) k27)))))))))))) ∧ ((n25 == 1) = false → (∀ n28 : Int, (Go.IntKind.wrap Go.IntKind.i64 (n21 + 1) = n28 → ((CV.d (D.int .i64 n6) = CV.d (D.int .i64 n6)) ∧ ((CV.d (D.int .i64 n9) = CV.d (D.int .i64 n9)) ∧ ((CV.d (D.int .i64 n12) = CV.d (D.int .i64 n12)) ∧ ((CV.d (D.str []) = CV.d (D.str [])) ∧ ((CV.d (D.int .i64 n15) = CV.d (D.int .i64 n15)) ∧ ((CV.d (D.str []) = CV.d (D.str [])) ∧ (∃ k29 : Nat, ((k29 < k23) ∧ I19 n28 l22 k29)))))))))))))))))) ∧ ((decide (n21 < 32)) = false → (∃ s30 : Bytes, ((Runs P 88 [CV.d (D.str s), CV.d (D.int .i64 n6)] [] (CV.d (D.str s30)) []) ∧ (∃ b31 : Bool, (∃ l32 : List D, (∃ n33 : Int, (∃ n34 : Int, ((Runs P 114 [CV.ptr 1000 0, CV.d (D.int .i64 300)] [(1000, [CV.ptr 1100 0, CV.d (D.bool off)]), (1100, [CV.d (D.slice 1 l16), CV.d (D.int .i64 n17)])] (CV.d (D.int .i64 n34)) [(1000, [CV.ptr 1100 0, CV.d (D.bool b31)]), (1100, [CV.d (D.slice 1 l32), CV.d (D.int .i64 n33)])]) ∧ (∃ b35 : Bool, (∃ l36 : List D, (∃ n37 : Int, (∃ s38 : Bytes, ((Runs P 139 [CV.ptr 1000 0, CV.d (D.int .i64 n34)] [(1000, [CV.ptr 1100 0, CV.d (D.bool b31)]), (1100, [CV.d (D.slice 1 l32), CV.d (D.int .i64 n33)])] (CV.d (D.str s38)) [(1000, [CV.ptr 1100 0, CV.d (D.bool b35)]), (1100, [CV.d (D.slice 1 l36), CV.d (D.int .i64 n37)])]) ∧ EndR (CV.d (D.agg [D.int .i64 n6, D.int .i64 n9, D.int .i64 n12, D.str s30, D.int .i64 n15, D.slice 1 l22, D.str s38])) res [(1000, [CV.ptr 1100 0, CV.d (D.bool b35)]), (1100, [CV.d (D.slice 1 l36), CV.d (D.int .i64 n37)]), (4, [CV.d (D.int .i64 n6), CV.d (D.int .i64 n9), CV.d (D.int .i64 n12), CV.d (D.str s30), CV.d (D.int .i64 n15), CV.d (D.slice 1 l22), CV.d (D.str s38)]), (5, [CV.d (D.int .i64 n6), CV.d (D.int .i64 n9), CV.d (D.int .i64 n12), CV.d (D.str s30), CV.d (D.int .i64 n15), CV.own 1 l22, CV.d (D.str s38)])] objs'))))))))))))))))))))))))))))))))))))))))) := by kernel_rfl
theorem vc62 (l : List D) (e : Int) (off : Bool) (s : Bytes) (res : CV) (objs' : List (Nat × List CV)) : walkA P (tbF P [102,103,50,48,53,56,105,58,107] [] 62) (anOf af62 [(0, 1000, 0), (200000, 1100, 0)]) af62 [CV.ptr 1000 0, CV.d (D.str s)] [(1000, [CV.ptr 1100 0, CV.d (D.bool off)]), (1100, [CV.d (D.slice 1 l), CV.d (D.int .i64 e)])] (fun rs => endE rs res objs') = ((∃ l4 : List D, (∃ n5 : Int, (∃ n6 : Int, ((Runs P 108 [CV.ptr 1100 0] [(1100, [CV.d (D.slice 1 l), CV.d (D.int .i64 e)])] (CV.d (D.int .i64 n6)) [(1100, [CV.d (D.slice 1 l4), CV.d (D.int .i64 n5)])]) ∧ (∃ l7 : List D, (∃ n8 : Int, (∃ n9 : Int, ((Runs P 108 [CV.ptr 1100 0] [(1100, [CV.d (D.slice 1 l4), CV.d (D.int .i64 n5)])] (CV.d (D.int .i64 n9)) [(1100, [CV.d (D.slice 1 l7), CV.d (D.int .i64 n8)])]) ∧ (∃ b10 : Bool, (∃ l11 : List D, (∃ n12 : Int, (∃ n13 : Int, ((Runs P 109 [CV.ptr 1000 0, CV.d (D.int .i64 32)] [(1000, [CV.ptr 1100 0, CV.d (D.bool off)]), (1100, [CV.d (D.slice 1 l7), CV.d (D.int .i64 n8)])] (CV.d (D.int .i64 n13)) [(1000, [CV.ptr 1100 0, CV.d (D.bool b10)]), (1100, [CV.d (D.slice 1 l11), CV.d (D.int .i64 n12)])]) ∧ (∃ I14 : (Int → (List D → (Int → (Bool → (List D → (Nat → Prop)))))), (((CV.ptr (1100 : Nat) (0 : Nat) = CV.ptr (1100 : Nat) (0 : Nat)) ∧ ((CV.d (D.str s) = CV.d (D.str s)) ∧ ((CV.d (D.int .i64 n6) = CV.d (D.int .i64 n6)) ∧ ((CV.d (D.int .i64 n9) = CV.d (D.int .i64 n9)) ∧ ((CV.d (D.int .i64 (1 : Int)) = CV.d (D.int .i64 (1 : Int))) ∧ ((CV.own (7 : Nat) [] = CV.own (7 : Nat) []) ∧ (∃ k15 : Nat, I14 0 l11 n12 b10 [] k15))))))) ∧ (∀ n16 : Int, (∀ l17 : List D, (∀ n18 : Int, (∀ b19 : Bool, (∀ l20 : List D, (∀ k21 : Nat, (I14 n16 l17 n18 b19 l20 k21 → (((decide (n16 < n13)) = true → (∃ l22 : List D, (∃ n23 : Int, (∃ s24 : Bytes, ((Runs P 110 [CV.ptr 1100 0, CV.d (D.int .i64 24)] [(1100, [CV.d (D.slice 1 l17), CV.d (D.int .i64 n18)])] (CV.d (D.str s24)) [(1100, [CV.d (D.slice 1 l22), CV.d (D.int .i64 n23)])]) ∧ (∃ b25 : Bool, (∃ l26 : List D, (∃ n27 : Int, (∃ b28 : Bool, ((Runs P 111 [CV.ptr 1000 0] [(1000, [CV.ptr 1100 0, CV.d (D.bool b19)]), (1100, [CV.d (D.slice 1 l22), CV.d (D.int .i64 n23)])] (CV.d (D.bool b28)) [(1000, [CV.ptr 1100 0, CV.d (D.bool b25)]), (1100, [CV.d (D.slice 1 l26), CV.d (D.int .i64 n27)])]) ∧ (((b28) = true → (((List.length l20 + List.length [D.str s24]) * 16 ≤ 140737488355328) ∧ (∀ n29 : Int, (Go.IntKind.wrap Go.IntKind.i64 (n16 + 1) = n29 → ((CV.ptr (1100 : Nat) (0 : Nat) = CV.ptr (1100 : Nat) (0 : Nat)) ∧ ((CV.d (D.str s) = CV.d (D.str s)) ∧ ((CV.d (D.int .i64 n6) = CV.d (D.int .i64 n6)) ∧ ((CV.d (D.int .i64 n9) = CV.d (D.int .i64 n9)) ∧ ((CV.d (D.int .i64 (1 : Int)) = CV.d (D.int .i64 (1 : Int))) ∧ ((CV.own (7 : Nat) [] = CV.own (7 : Nat) []) ∧ (∃ k30 : Nat, ((k30 < k21) ∧ I14 n29 l26 n27 b25 (l20 ++ [D.str s24]) k30)))))))))))) ∧ ((b28) = false → (∀ n31 : Int, (Go.IntKind.wrap Go.IntKind.i64 (n16 + 1) = n31 → ((CV.ptr (1100 : Nat) (0 : Nat) = CV.ptr (1100 : Nat) (0 : Nat)) ∧ ((CV.d (D.str s) = CV.d (D.str s)) ∧ ((CV.d (D.int .i64 n6) = CV.d (D.int .i64 n6)) ∧ ((CV.d (D.int .i64 n9) = CV.d (D.int .i64 n9)) ∧ ((CV.d (D.int .i64 (1 : Int)) = CV.d (D.int .i64 (1 : Int))) ∧ ((CV.own (7 : Nat) [] = CV.own (7 : Nat) []) ∧ (∃ k32 : Nat, ((k32 < k21) ∧ I14 n31 l26 n27 b25 l20 k32)))))))))))))))))))))) ∧ ((decide (n16 < n13)) = false → (∃ b33 : Bool, (∃ l34 : List D, (∃ n35 : Int, (∃ b36 : Bool, ((Runs P 111 [CV.ptr 1000 0] [(1000, [CV.ptr 1100 0, CV.d (D.bool b19)]), (1100, [CV.d (D.slice 1 l17), CV.d (D.int .i64 n18)])] (CV.d (D.bool b36)) [(1000, [CV.ptr 1100 0, CV.d (D.bool b33)]), (1100, [CV.d (D.slice 1 l34), CV.d (D.int .i64 n35)])]) ∧ (((!b36) = true → EndR (CV.d (D.agg [D.str s, D.int .i64 n6, D.int .i64 n9, D.int .i64 1, D.slice 1 l20, D.slice 7 []])) res [(1000, [CV.ptr 1100 0, CV.d (D.bool b33)]), (1100, [CV.d (D.slice 1 l34), CV.d (D.int .i64 n35)]), (4, [CV.d (D.str s), CV.d (D.int .i64 n6), CV.d (D.int .i64 n9), CV.d (D.int .i64 1), CV.d (D.slice 1 l20), CV.d (D.slice 7 [])]), (5, [CV.d (D.str s), CV.d (D.int .i64 n6), CV.d (D.int .i64 n9), CV.d (D.int .i64 1), CV.own 1 l20, CV.own 7 []])] objs') ∧ ((!b36) = false → (∃ b37 : Bool, (∃ l38 : List D, (∃ n39 : Int, (∃ n40 : Int, ((Runs P 109 [CV.ptr 1000 0, CV.d (D.int .i64 60)] [(1000, [CV.ptr 1100 0, CV.d (D.bool b33)]), (1100, [CV.d (D.slice 1 l34), CV.d (D.int .i64 n35)])] (CV.d (D.int .i64 n40)) [(1000, [CV.ptr 1100 0, CV.d (D.bool b37)]), (1100, [CV.d (D.slice 1 l38), CV.d (D.int .i64 n39)])]) ∧ (∃ I41 : (Int → (Bool → (List D → (Int → (List D → (Nat → Prop)))))), (((CV.ptr (1100 : Nat) (0 : Nat) = CV.ptr (1100 : Nat) (0 : Nat)) ∧ ((CV.d (D.str s) = CV.d (D.str s)) ∧ ((CV.d (D.int .i64 n6) = CV.d (D.int .i64 n6)) ∧ ((CV.d (D.int .i64 n9) = CV.d (D.int .i64 n9)) ∧ ((CV.d (D.int .i64 (1 : Int)) = CV.d (D.int .i64 (1 : Int))) ∧ ((CV.own 1 l20 = CV.own 1 l20) ∧ (∃ k42 : Nat, I41 0 b37 l38 n39 [] k42))))))) ∧ (∀ n43 : Int, (∀ b44 : Bool, (∀ l45 : List D, (∀ n46 : Int, (∀ l47 : List D, (∀ k48 : Nat, (I41 n43 b44 l45 n46 l47 k48 → (((decide (n43 < n40)) = true → (∃ b49 : Bool, (∃ l50 : List D, (∃ n51 : Int, (∃ n52 : Int, (∃ n53 : Int, (∃ n54 : Int, (∃ s55 : Bytes, (∃ n56 : Int, (∃ l57 : List D, (∃ s58 : Bytes, ((Runs P 112 [CV.ptr 1000 0, CV.d (D.str s)] [(1000, [CV.ptr 1100 0, CV.d (D.bool b44)]), (1100, [CV.d (D.slice 1 l45), CV.d (D.int .i64 n46)])] (CV.d (D.agg [D.int .i64 n52, D.int .i64 n53, D.int .i64 n54, D.str s55, D.int .i64 n56, D.slice 1 l57, D.str s58])) [(1000, [CV.ptr 1100 0, CV.d (D.bool b49)]), (1100, [CV.d (D.slice 1 l50), CV.d (D.int .i64 n51)])]) ∧ (∃ b59 : Bool, (∃ l60 : List D, (∃ n61 : Int, (∃ b62 : Bool, ((Runs P 111 [CV.ptr 1000 0] [(1000, [CV.ptr 1100 0, CV.d (D.bool b49)]), (1100, [CV.d (D.slice 1 l50), CV.d (D.int .i64 n51)])] (CV.d (D.bool b62)) [(1000, [CV.ptr 1100 0, CV.d (D.bool b59)]), (1100, [CV.d (D.slice 1 l60), CV.d (D.int .i64 n61)])]) ∧ (((b62) = true → (((List.length l47 + List.length [D.agg [D.int .i64 n52, D.int .i64 n53, D.int .i64 n54, D.str s55, D.int .i64 n56, D.slice 1 l57, D.str s58]]) * 88 ≤ 140737488355328) ∧ (∀ n63 : Int, (Go.IntKind.wrap Go.IntKind.i64 (n43 + 1) = n63 → ((CV.ptr (1100 : Nat) (0 : Nat) = CV.ptr (1100 : Nat) (0 : Nat)) ∧ ((CV.d (D.str s) = CV.d (D.str s)) ∧ ((CV.d (D.int .i64 n6) = CV.d (D.int .i64 n6)) ∧ ((CV.d (D.int .i64 n9) = CV.d (D.int .i64 n9)) ∧ ((CV.d (D.int .i64 (1 : Int)) = CV.d (D.int .i64 (1 : Int))) ∧ ((CV.own 1 l20 = CV.own 1 l20) ∧ (∃ k64 : Nat, ((k64 < k48) ∧ I41 n63 b59 l60 n61 (l47 ++ [D.agg [D.int .i64 n52, D.int .i64 n53, D.int .i64 n54, D.str s55, D.int .i64 n56, D.slice 1 l57, D.str s58]]) k64)))))))))))) ∧ ((b62) = false → (∀ n65 : Int, (Go.IntKind.wrap Go.IntKind.i64 (n43 + 1) = n65 → ((CV.ptr (1100 : Nat) (0 : Nat) = CV.ptr (1100 : Nat) (0 : Nat)) ∧ ((CV.d (D.str s) = CV.d (D.str s)) ∧ ((CV.d (D.int .i64 n6) = CV.d (D.int .i64 n6)) ∧ ((CV.d (D.int .i64 n9) = CV.d (D.int .i64 n9)) ∧ ((CV.d (D.int .i64 (1 : Int)) = CV.d (D.int .i64 (1 : Int))) ∧ ((CV.own 1 l20 = CV.own 1 l20) ∧ (∃ k66 : Nat, ((k66 < k48) ∧ I41 n65 b59 l60 n61 l47 k66))))))))))))))))))))))))))))) ∧ ((decide (n43 < n40)) = false → EndR (CV.d (D.agg [D.str s, D.int .i64 n6, D.int .i64 n9, D.int .i64 1, D.slice 1 l20, D.slice 7 l47])) res [(1000, [CV.ptr 1100 0, CV.d (D.bool b44)]), (1100, [CV.d (D.slice 1 l45), CV.d (D.int .i64 n46)]), (4, [CV.d (D.str s), CV.d (D.int .i64 n6), CV.d (D.int .i64 n9), CV.d (D.int .i64 1), CV.d (D.slice 1 l20), CV.d (D.slice 7 l47)]), (5, [CV.d (D.str s), CV.d (D.int .i64 n6), CV.d (D.int .i64 n9), CV.d (D.int .i64 1), CV.own 1 l20, CV.own 7 l47])] objs')))))))))))))))))))))))))))))))))))))))))))))))) := by kernel_rfl
theorem vc70 (l : List D) (e : Int) (off : Bool) (s : Bytes) (res : CV) (objs' : List (Nat × List CV)) : walkA P (tbF P [102,103,50,48,53,56,105,58,107] [] 70) (anOf af70 [(0, 1000, 0), (200000, 1100, 0)]) af70 [CV.ptr 1000 0, CV.d (D.str s)] [(1000, [CV.ptr 1100 0, CV.d (D.bool off)]), (1100, [CV.d (D.slice 1 l), CV.d (D.int .i64 e)])] (fun rs => endE rs res objs') = ((∃ l4 : List D, (∃ n5 : Int, (∃ n6 : Int, ((Runs P 108 [CV.ptr 1100 0] [(1100, [CV.d (D.slice 1 l), CV.d (D.int .i64 e)])] (CV.d (D.int .i64 n6)) [(1100, [CV.d (D.slice 1 l4), CV.d (D.int .i64 n5)])]) ∧ (∃ l7 : List D, (∃ n8 : Int, (∃ n9 : Int, ((Runs P 108 [CV.ptr 1100 0] [(1100, [CV.d (D.slice 1 l4), CV.d (D.int .i64 n5)])] (CV.d (D.int .i64 n9)) [(1100, [CV.d (D.slice 1 l7), CV.d (D.int .i64 n8)])]) ∧ (∃ l10 : List D, (∃ n11 : Int, (∃ n12 : Int, ((Runs P 108 [CV.ptr 1100 0] [(1100, [CV.d (D.slice 1 l7), CV.d (D.int .i64 n8)])] (CV.d (D.int .i64 n12)) [(1100, [CV.d (D.slice 1 l10), CV.d (D.int .i64 n11)])]) ∧ (∃ b13 : Bool, (∃ l14 : List D, (∃ n15 : Int, (∃ n16 : Int, ((Runs P 114 [CV.ptr 1000 0, CV.d (D.int .i64 32)] [(1000, [CV.ptr 1100 0, CV.d (D.bool off)]), (1100, [CV.d (D.slice 1 l10), CV.d (D.int .i64 n11)])] (CV.d (D.int .i64 n16)) [(1000, [CV.ptr 1100 0, CV.d (D.bool b13)]), (1100, [CV.d (D.slice 1 l14), CV.d (D.int .i64 n15)])]) ∧ (∃ I17 : (Int → (List D → (Int → (Bool → (List D → (Nat → Prop)))))), (((CV.ptr (1100 : Nat) (0 : Nat) = CV.ptr (1100 : Nat) (0 : Nat)) ∧ ((CV.d (D.str s) = CV.d (D.str s)) ∧ ((CV.d (D.int .i64 n6) = CV.d (D.int .i64 n6)) ∧ ((CV.d (D.int .i64 n9) = CV.d (D.int .i64 n9)) ∧ ((CV.d (D.int .i64 n12) = CV.d (D.int .i64 n12)) ∧ ((CV.own (7 : Nat) [] = CV.own (7 : Nat) []) ∧ (∃ k18 : Nat, I17 0 l14 n15 b13 [] k18))))))) ∧ (∀ n19 : Int, (∀ l20 : List D, (∀ n21 : Int, (∀ b22 : Bool, (∀ l23 : List D, (∀ k24 : Nat, (I17 n19 l20 n21 b22 l23 k24 → (((decide (n19 < n16)) = true → (∃ l25 : List D, (∃ n26 : Int, (∃ s27 : Bytes, ((Runs P 110 [CV.ptr 1100 0, CV.d (D.int .i64 24)] [(1100, [CV.d (D.slice 1 l20), CV.d (D.int .i64 n21)])] (CV.d (D.str s27)) [(1100, [CV.d (D.slice 1 l25), CV.d (D.int .i64 n26)])]) ∧ (∃ b28 : Bool, (∃ l29 : List D, (∃ n30 : Int, (∃ b31 : Bool, ((Runs P 115 [CV.ptr 1000 0] [(1000, [CV.ptr 1100 0, CV.d (D.bool b22)]), (1100, [CV.d (D.slice 1 l25), CV.d (D.int .i64 n26)])] (CV.d (D.bool b31)) [(1000, [CV.ptr 1100 0, CV.d (D.bool b28)]), (1100, [CV.d (D.slice 1 l29), CV.d (D.int .i64 n30)])]) ∧ (((b31) = true → (((List.length l23 + List.length [D.str s27]) * 16 ≤ 140737488355328) ∧ (∀ n32 : Int, (Go.IntKind.wrap Go.IntKind.i64 (n19 + 1) = n32 → ((CV.ptr (1100 : Nat) (0 : Nat) = CV.ptr (1100 : Nat) (0 : Nat)) ∧ ((CV.d (D.str s) = CV.d (D.str s)) ∧ ((CV.d (D.int .i64 n6) = CV.d (D.int .i64 n6)) ∧ ((CV.d (D.int .i64 n9) = CV.d (D.int .i64 n9)) ∧ ((CV.d (D.int .i64 n12) = CV.d (D.int .i64 n12)) ∧ ((CV.own (7 : Nat) [] = CV.own (7 : Nat) []) ∧ (∃ k33 : Nat, ((k33 < k24) ∧ I17 n32 l29 n30 b28 (l23 ++ [D.str s27]) k33)))))))))))) ∧ ((b31) = false → (∀ n34 : Int, (Go.IntKind.wrap Go.IntKind.i64 (n19 + 1) = n34 → ((CV.ptr (1100 : Nat) (0 : Nat) = CV.ptr (1100 : Nat) (0 : Nat)) ∧ ((CV.d (D.str s) = CV.d (D.str s)) ∧ ((CV.d (D.int .i64 n6) = CV.d (D.int .i64 n6)) ∧ ((CV.d (D.int .i64 n9) = CV.d (D.int .i64 n9)) ∧ ((CV.d (D.int .i64 n12) = CV.d (D.int .i64 n12)) ∧ ((CV.own (7 : Nat) [] = CV.own (7 : Nat) []) ∧ (∃ k35 : Nat, ((k35 < k24) ∧ I17 n34 l29 n30 b28 l23 k35)))))))))))))))))))))) ∧ ((decide (n19 < n16)) = false → (∃ b36 : Bool, (∃ l37 : List D, (∃ n38 : Int, (∃ b39 : Bool, ((Runs P 115 [CV.ptr 1000 0] [(1000, [CV.ptr 1100 0, CV.d (D.bool b22)]), (1100, [CV.d (D.slice 1 l20), CV.d (D.int .i64 n21)])] (CV.d (D.bool b39)) [(1000, [CV.ptr 1100 0, CV.d (D.bool b36)]), (1100, [CV.d (D.slice 1 l37), CV.d (D.int .i64 n38)])]) ∧ (((!b39) = true → EndR (CV.d (D.agg [D.str s, D.int .i64 n6, D.int .i64 n9, D.int .i64 n12, D.slice 1 l23, D.slice 7 []])) res [(1000, [CV.ptr 1100 0, CV.d (D.bool b36)]), (1100, [CV.d (D.slice 1 l37), CV.d (D.int .i64 n38)]), (4, [CV.d (D.str s), CV.d (D.int .i64 n6), CV.d (D.int .i64 n9), CV.d (D.int .i64 n12), CV.d (D.slice 1 l23), CV.d (D.slice 7 [])]), (5, [CV.d (D.str s), CV.d (D.int .i64 n6), CV.d (D.int .i64 n9), CV.d (D.int .i64 n12), CV.own 1 l23, CV.own 7 []])] objs') ∧ ((!b39) = false → (∃ b40 : Bool, (∃ l41 : List D, (∃ n42 : Int, (∃ n43 : Int, ((Runs P 114 [CV.ptr 1000 0, CV.d (D.int .i64 60)] [(1000, [CV.ptr 1100 0, CV.d (D.bool b36)]), (1100, [CV.d (D.slice 1 l37), CV.d (D.int .i64 n38)])] (CV.d (D.int .i64 n43)) [(1000, [CV.ptr 1100 0, CV.d (D.bool b40)]), (1100, [CV.d (D.slice 1 l41), CV.d (D.int .i64 n42)])]) ∧ (∃ I44 : (Int → (Bool → (List D → (Int → (List D → (Nat → Prop)))))), (((CV.ptr (1100 : Nat) (0 : Nat) = CV.ptr (1100 : Nat) (0 : Nat)) ∧ ((CV.d (D.str s) = CV.d (D.str s)) ∧ ((CV.d (D.int .i64 n6) = CV.d (D.int .i64 n6)) ∧ ((CV.d (D.int .i64 n9) = CV.d (D.int .i64 n9)) ∧ ((CV.d (D.int .i64 n12) = CV.d (D.int .i64 n12)) ∧ ((CV.own 1 l23 = CV.own 1 l23) ∧ (∃ k45 : Nat, I44 0 b40 l41 n42 [] k45))))))) ∧ (∀ n46 : Int, (∀ b47 : Bool, (∀ l48 : List D, (∀ n49 : Int, (∀ l50 : List D, (∀ k51 : Nat, (I44 n46 b47 l48 n49 l50 k51 → (((decide (n46 < n43)) = true → (∃ b52 : Bool, (∃ l53 : List D, (∃ n54 : Int, (∃ n55 : Int, (∃ n56 : Int, (∃ n57 : Int, (∃ s58 : Bytes, (∃ n59 : Int, (∃ l60 : List D, (∃ s61 : Bytes, ((Runs P 116 [CV.ptr 1000 0, CV.d (D.str s)] [(1000, [CV.ptr 1100 0, CV.d (D.bool b47)]), (1100, [CV.d (D.slice 1 l48), CV.d (D.int .i64 n49)])] (CV.d (D.agg [D.int .i64 n55, D.int .i64 n56, D.int .i64 n57, D.str s58, D.int .i64 n59, D.slice 1 l60, D.str s61])) [(1000, [CV.ptr 1100 0, CV.d (D.bool b52)]), (1100, [CV.d (D.slice 1 l53), CV.d (D.int .i64 n54)])]) ∧ (∃ b62 : Bool, (∃ l63 : List D, (∃ n64 : Int, (∃ b65 : Bool, ((Runs P 115 [CV.ptr 1000 0] [(1000, [CV.ptr 1100 0, CV.d (D.bool b52)]), (1100, [CV.d (D.slice 1 l53), CV.d (D.int .i64 n54)])] (CV.d (D.bool b65)) [(1000, [CV.ptr 1100 0, CV.d (D.bool b62)]), (1100, [CV.d (D.slice 1 l63), CV.d (D.int .i64 n64)])]) ∧ (((b65) = true → (((List.length l50 + List.length [D.agg [D.int .i64 n55, D.int .i64 n56, D.int .i64 n57, D.str s58, D.int .i64 n59, D.slice 1 l60, D.str s61]]) * 88 ≤ 140737488355328) ∧ (∀ n66 : Int, (Go.IntKind.wrap Go.IntKind.i64 (n46 + 1) = n66 → ((CV.ptr (1100 : Nat) (0 : Nat) = CV.ptr (1100 : Nat) (0 : Nat)) ∧ ((CV.d (D.str s) = CV.d (D.str s)) ∧ ((CV.d (D.int .i64 n6) = CV.d (D.int .i64 n6)) ∧ ((CV.d (D.int .i64 n9) = CV.d (D.int .i64 n9)) ∧ ((CV.d (D.int .i64 n12) = CV.d (D.int .i64 n12)) ∧ ((CV.own 1 l23 = CV.own 1 l23) ∧ (∃ k67 : Nat, ((k67 < k51) ∧ I44 n66 b62 l63 n64 (l50 ++ [D.agg [D.int .i64 n55, D.int .i64 n56, D.int .i64 n57, D.str s58, D.int .i64 n59, D.slice 1 l60, D.str s61]]) k67)))))))))))) ∧ ((b65) = false → (∀ n68 : Int, (Go.IntKind.wrap Go.IntKind.i64 (n46 + 1) = n68 → ((CV.ptr (1100 : Nat) (0 : Nat) = CV.ptr (1100 : Nat) (0 : Nat)) ∧ ((CV.d (D.str s) = CV.d (D.str s)) ∧ ((CV.d (D.int .i64 n6) = CV.d (D.int .i64 n6)) ∧ ((CV.d (D.int .i64 n9) = CV.d (D.int .i64 n9)) ∧ ((CV.d (D.int .i64 n12) = CV.d (D.int .i64 n12)) ∧ ((CV.own 1 l23 = CV.own 1 l23) ∧ (∃ k69 : Nat, ((k69 < k51) ∧ I44 n68 b62 l63 n64 l50 k69))))))))))))))))))))))))))))) ∧ ((decide (n46 < n43)) = false → EndR (CV.d (D.agg [D.str s, D.int .i64 n6, D.int .i64 n9, D.int .i64 n12, D.slice 1 l23, D.slice 7 l50])) res [(1000, [CV.ptr 1100 0, CV.d (D.bool b47)]), (1100, [CV.d (D.slice 1 l48), CV.d (D.int .i64 n49)]), (4, [CV.d (D.str s), CV.d (D.int .i64 n6), CV.d (D.int .i64 n9), CV.d (D.int .i64 n12), CV.d (D.slice 1 l23), CV.d (D.slice 7 l50)]), (5, [CV.d (D.str s), CV.d (D.int .i64 n6), CV.d (D.int .i64 n9), CV.d (D.int .i64 n12), CV.own 1 l23, CV.own 7 l50])] objs')))))))))))))))))))))))))))))))))))))))))))))))))))) := by kernel_rfl
end B
end Go.Proofs.YtmkkljbfmdngfaaDoor
namespace Go.Proofs.YtmkkljbfmdngfaaDoor
namespace NB
open Go.RowKit Go.Shelf
theorem sizeB : (Tryd.prog.info? 156).map (·.size) = some 2 := by kernel_rfl
theorem liesB : liesAt Tryd.prog Tryd.prog.depth 156 (2 / Tryd.prog.cellsOf 156) 0 156 1 = true := by kernel_rfl
theorem cellsByte : Tryd.prog.cellsOf 5 = 1 := by kernel_rfl
theorem sizeByte : (Tryd.prog.info? 5).map (·.size) = some 1 := by kernel_rfl

set_option maxRecDepth 100000 in
theorem check_fresh (w : World) (b : Nat) (h : w.cell? ⟨b, 0, none⟩ = some (.pointer none)) (hsh : w.shape? b = some (156, 2)) (hfz : w.frozen? ⟨b, 0, none⟩ = false) :
    Calls Tryd.prog 171 #[.pointer (some ⟨b, 0, none⟩)] w fun e w' => e = .returned (.tuple #[]) ∧ w' = w.setCell ⟨b, 0, none⟩ (.pointer (some ⟨b, 0, none⟩)) := by
  obtain ⟨j, hj, hjs⟩ := Option.map_eq_some_iff.1 sizeB
  go_enter Tryd.func171, Tryd.ntmps171
  go_wp2
  rw [Lib.run_to_unsafe w ⟨b, 0, none⟩ Tryd.underlying154 Tryd.underlying174 hj (by rw [hjs]; decide) hsh (Nat.zero_lt_succ 1)]
  simp only [Result.andThen]
  rw [Oper.upon_value]
  go_wp2
  rw [run_callFunc_extern Tryd.func175 (by kernel_rfl) (by kernel_rfl) (by kernel_rfl) (e := Extern.AbiNoEscape.same) (by kernel_rfl)]
  rw [Lib.run_noEscape]
  simp only [Result.andThen]
  rw [Oper.upon_value]
  go_wp2
  rw [Lib.run_from_unsafe w ⟨b, 0, none⟩ Tryd.underlying174 Tryd.underlying154 hj hsh liesB]
  simp only [Result.andThen]
  rw [Oper.upon_value]
  go_wp2
  go_end0
  exact ⟨rfl, rfl⟩
set_option maxRecDepth 100000 in
theorem check_used (w : World) (b : Nat) (h : w.cell? ⟨b, 0, none⟩ = some (.pointer (some ⟨b, 0, none⟩))) :
    Calls Tryd.prog 171 #[.pointer (some ⟨b, 0, none⟩)] w fun e w' => e = .returned (.tuple #[]) ∧ w' = w := by
  obtain ⟨j, hj, hjs⟩ := Option.map_eq_some_iff.1 sizeB
  go_enter Tryd.func171, Tryd.ntmps171
  go_wp2
  rw [Lib.run_neq_ptr_same w _ Tryd.underlying154 hj]
  go_wp2
  go_end0
  exact ⟨rfl, rfl⟩

/-- The text of a builder's bytes: the world but for draws, and the bytes frozen. -/
structure Froze (w w' : World) (g n : Nat) : Prop where
  os : w'.os = w.os
  tape : w'.tape = w.tape
  output : w'.output = w.output
  size : w'.heap.size = w.heap.size
  block : ∀ k, k ≠ g → w'.heap[k]? = w.heap[k]?
  row : ∀ cur e fz, w.heap[g]? = some (.cells cur e fz) → fz.2 ≤ n → ∃ fz', w'.heap[g]? = some (.cells cur e fz') ∧ fz'.2 ≤ n

theorem froze_freeze (w : World) (g n : Nat) : Froze w (w.drew.freeze ⟨g, 0, none⟩ n) g n := by
  have e : w.drew.heap = w.heap := rfl
  unfold World.freeze
  split
  · exact ⟨rfl, rfl, rfl, rfl, fun _ _ => rfl, fun cur e fz h h2 => ⟨fz, h, h2⟩⟩
  · refine ⟨rfl, rfl, rfl, ?_, fun k hk => ?_, fun cur ty fz h h2 => ?_⟩
    · simp only [e, Array.size_modify]
    · simp only [e, Array.getElem?_modify]
      rw [if_neg (Ne.symm hk)]
    · simp only [e, Array.getElem?_modify, h, if_true, Option.map_some]
      refine ⟨_, rfl, ?_⟩
      split
      · simp
      · simp; omega

set_option maxHeartbeats 1000000 in
set_option maxRecDepth 100000 in
theorem text (w : World) (b g cap : Nat) (p : Value) (l : List UInt8) (cur : Array Value) (hbk : w.heap[b]? = some (.cells #[p, .slice (some ⟨g, 0, none⟩) l.length cap] 156 (0, 0))) (h0 : l ≠ []) (fz : Nat × Nat) (hg : w.heap[g]? = some (.cells cur 5 fz)) (hnc : l.length ≤ cap) (hcm : cap ≤ maxLen) (hcs : cur.size = cap)
    (htake : cur.toList.take l.length = Lib.byteCells l) :
    Calls Tryd.prog 159 #[.pointer (some ⟨b, 0, none⟩)] w fun e w' => e = .returned (.string ⟨l.toArray⟩) ∧ Froze w w' g l.length := by
  have hl0 : l.length ≠ 0 := by simpa using h0
  have c1 : w.drew.cell? ⟨b, 1, none⟩ = some (.slice (some ⟨g, 0, none⟩) l.length cap) := by
    have : w.drew.heap[b]? = some (.cells #[p, .slice (some ⟨g, 0, none⟩) l.length cap] 156 (0, 0)) := hbk
    rw [Lib.cell_of_heap this]; rfl
  have hg' : w.drew.heap[g]? = some (.cells cur 5 fz) := hg
  have hSD : ∀ (ts : Array TypeId) (ty : TypeId), (Builtin.unsafeSliceData_ ts ty #[.slice (some ⟨g, 0, none⟩) l.length cap]).run Tryd.prog w.drew = .ok (.pointer (some ⟨g, 0, none⟩)) w.drew := fun ts ty =>
    Lib.run_unsafeSliceData_row _ _ _ _ _ _ (by omega)
  have hUS : (Builtin.unsafeString_ #[170, 3] 9 #[.pointer (some ⟨g, 0, none⟩), .int .i64 l.length]).run Tryd.prog w.drew = .ok (.string ⟨l.toArray⟩) (w.drew.freeze ⟨g, 0, none⟩ l.length) := by
    refine Lib.run_unsafeString_row w.drew 170 3 9 5 Tryd.underlying170 cellsByte g cur.size (by simp [World.shape?, hg']) l h0 (by omega) (by unfold maxLen at hcm; omega) ?_
    intro j x hx
    have : (Lib.byteCells l)[j]? = some (.int .u8 x.toNat) := by simp [Lib.byteCells, hx]
    rw [← htake, List.getElem?_take] at this
    split at this
    · have hadd : (⟨g, 0, none⟩ : Addr).add j = ⟨g, j, none⟩ := by unfold Addr.add; split <;> simp_all
      rw [hadd, Lib.cell_of_heap hg']; simpa using this
    · cases this
  have mixed : Tryd.prog.follows Departure.mixedOrders = true := by kernel_rfl
  go_enter Tryd.func159, Tryd.ntmps159
  go_wp2
  go_region_o
  all_goals (go_wp2; go_ret; exact ⟨rfl, froze_freeze w g _⟩)

/-- The text of a builder that holds nothing. -/
structure Same (w w' : World) : Prop where
  os : w'.os = w.os
  tape : w'.tape = w.tape
  output : w'.output = w.output
  size : w.heap.size ≤ w'.heap.size
  block : ∀ k, k < w.heap.size → w'.heap[k]? = w.heap[k]?
theorem Same.drew (w : World) : Same w w.drew := ⟨rfl, rfl, rfl, Nat.le_refl _, fun _ _ => rfl⟩
theorem Same.view (w : World) (o : Obj) : Same w (w.drew.alloc o) := ⟨rfl, rfl, rfl, by show _ ≤ (w.heap.push o).size; simp, fun k hk => heap_alloc_old w.drew o hk⟩

set_option maxHeartbeats 1000000 in
set_option maxRecDepth 100000 in
theorem text_nil (w : World) (b : Nat) (p : Value) (hbk : w.heap[b]? = some (.cells #[p, .slice none 0 0] 156 (0, 0))) :
    Calls Tryd.prog 159 #[.pointer (some ⟨b, 0, none⟩)] w fun e w' => e = .returned (.string .empty) ∧ Same w w' := by
  have c1 : w.drew.cell? ⟨b, 1, none⟩ = some (.slice none 0 0) := by
    have : w.drew.heap[b]? = some (.cells #[p, .slice none 0 0] 156 (0, 0)) := hbk
    rw [Lib.cell_of_heap this]; rfl
  have hSD : ∀ (ts : Array TypeId) (ty : TypeId), (Builtin.unsafeSliceData_ ts ty #[.slice none 0 0]).run Tryd.prog w.drew = .ok (.pointer none) w.drew := fun ts ty => rfl
  have hUS : (Builtin.unsafeString_ #[170, 3] 9 #[.pointer none, .int .i64 0]).run Tryd.prog w.drew = .ok (.string .empty) w.drew := Lib.run_unsafeString_none _ _ _ _ _
  have mixed : Tryd.prog.follows Departure.mixedOrders = true := by kernel_rfl
  go_enter Tryd.func159, Tryd.ntmps159
  go_wp2
  go_region_o
  all_goals (go_wp2; go_ret; exact ⟨rfl, Same.drew w⟩)
set_option maxHeartbeats 1000000 in
set_option maxRecDepth 100000 in
theorem text_none (w : World) (b g cap : Nat) (p : Value) (hbk : w.heap[b]? = some (.cells #[p, .slice (some ⟨g, 0, none⟩) 0 cap] 156 (0, 0))) (hc : cap ≠ 0) :
    Calls Tryd.prog 159 #[.pointer (some ⟨b, 0, none⟩)] w fun e w' => e = .returned (.string .empty) ∧ Same w w' := by
  have c1 : w.drew.cell? ⟨b, 1, none⟩ = some (.slice (some ⟨g, 0, none⟩) 0 cap) := by
    have : w.drew.heap[b]? = some (.cells #[p, .slice (some ⟨g, 0, none⟩) 0 cap] 156 (0, 0)) := hbk
    rw [Lib.cell_of_heap this]; rfl
  have hSD : ∀ (ts : Array TypeId) (ty : TypeId), (Builtin.unsafeSliceData_ ts ty #[.slice (some ⟨g, 0, none⟩) 0 cap]).run Tryd.prog w.drew = .ok (.pointer (some ⟨g, 0, none⟩)) w.drew := fun ts ty =>
    Lib.run_unsafeSliceData_row _ _ _ _ _ _ hc
  have hUS : (Builtin.unsafeString_ #[170, 3] 9 #[.pointer (some ⟨g, 0, none⟩), .int .i64 0]).run Tryd.prog w.drew = .ok (.string .empty) w.drew := Lib.run_unsafeString_none _ _ _ _ _
  have mixed : Tryd.prog.follows Departure.mixedOrders = true := by kernel_rfl
  go_enter Tryd.func159, Tryd.ntmps159
  go_wp2
  go_region_o
  all_goals (go_wp2; go_ret; exact ⟨rfl, Same.drew w⟩)
set_option maxHeartbeats 1000000 in
set_option maxRecDepth 100000 in
theorem text_zero (w : World) (b g : Nat) (p : Value) (cur : Array Value) (fz : Nat × Nat) (hbk : w.heap[b]? = some (.cells #[p, .slice (some ⟨g, 0, none⟩) 0 0] 156 (0, 0))) (hg : w.heap[g]? = some (.cells cur 5 fz)) :
    Calls Tryd.prog 159 #[.pointer (some ⟨b, 0, none⟩)] w fun e w' => e = .returned (.string .empty) ∧ Same w w' := by
  have c1 : w.drew.cell? ⟨b, 1, none⟩ = some (.slice (some ⟨g, 0, none⟩) 0 0) := by
    have : w.drew.heap[b]? = some (.cells #[p, .slice (some ⟨g, 0, none⟩) 0 0] 156 (0, 0)) := hbk
    rw [Lib.cell_of_heap this]; rfl
  have hg' : w.drew.heap[g]? = some (.cells cur 5 fz) := hg
  have hSD : (Builtin.unsafeSliceData_ #[30] 170 #[.slice (some ⟨g, 0, none⟩) 0 0]).run Tryd.prog w.drew = .ok (.pointer (some ⟨w.drew.heap.size, 0, none⟩)) (w.drew.alloc (.view ⟨g, 0, none⟩ 5)) :=
    Lib.run_unsafeSliceData_zero _ _ 170 5 Tryd.underlying170 _ 0 (5, cur.size) (by simp [World.shape?, hg'])
  have hlt : b < w.heap.size := (Array.getElem?_eq_some_iff.1 hbk).1
  have c2 : (w.drew.alloc (.view ⟨g, 0, none⟩ 5)).cell? ⟨b, 1, none⟩ = some (.slice (some ⟨g, 0, none⟩) 0 0) := by
    rw [World.cell?_of_block (heap_alloc_old w.drew _ hlt)]; exact c1
  have c3 : (w.alloc (.view ⟨g, 0, none⟩ 5)).drew.cell? ⟨b, 1, none⟩ = some (.slice (some ⟨g, 0, none⟩) 0 0) := c2
  have c4 : w.cell? ⟨b, 1, none⟩ = some (.slice (some ⟨g, 0, none⟩) 0 0) := c1
  have hUS : ∀ (q : Option Addr) (W : World), (Builtin.unsafeString_ #[170, 3] 9 #[.pointer q, .int .i64 0]).run Tryd.prog W = .ok (.string .empty) W := fun q W => Lib.run_unsafeString_none _ _ _ _ _
  have mixed : Tryd.prog.follows Departure.mixedOrders = true := by kernel_rfl
  go_enter Tryd.func159, Tryd.ntmps159
  go_wp2
  go_region_o
  all_goals (go_wp2; go_ret; exact ⟨rfl, Same.view w _⟩)
end NB
end Go.Proofs.YtmkkljbfmdngfaaDoor
namespace Go.Proofs.YtmkkljbfmdngfaaDoor
namespace NB
open Go.RowKit Go.Shelf Go.Lib
section
variable {P : Program}
theorem append_cells (w : World) (t ty e : TypeId) (i : TypeInfo) (ht : P.underlying t = some (.slice e)) (hi : P.info? e = some i) (hz : i.zero = some (.int .u8 0))
    (hsize : i.size = 1) (hby : i.bytes = 1) (v : Value) (n : Nat) (xs : List Value) (hown : w.ownsRowF 0 e 1 v n xs) (ad : Addr) (m c : Nat) (news : List Value) (hl : news.length = m) (hnews : ∀ j u, news[j]? = some u → w.cell? (ad.add j) = some u) (h1 : ∀ u ∈ news, u.oneCell' = true) (h63 : n + m ≤ maxLen) (hbytes : n + m ≤ 140737488355328) :
    ∃ v' w', (Builtin.append_ #[t, t] ty #[v, .slice (some ad) m c]).run P w = .ok v' w' ∧ w'.ownsRowF 0 e 1 v' (n + m) (xs ++ news) ∧ w.grownBy w' v.ownBlock ∧ ∀ g, v'.ownBlock = some g → v.ownBlock = some g ∨ w.heap.size ≤ g := by
  by_cases hv : v.ownBlock = none
  · have hown2 : w.ownsRowF w.heap.size e 1 v n xs := by
      refine ⟨hown.1, ?_⟩
      rcases hown.2 with h | ⟨g, cap, cur, fz, h, _⟩
      · exact .inl h
      · rw [h] at hv; simp [Value.ownBlock] at hv
    obtain ⟨v', w', h1, h2, h3, _⟩ := run_append_ownF (P := P) w w.heap.size t ty e i (.int .u8 0) 1 1 ht hi hz hsize hby rfl (by decide) v n xs hown2 ad m c news (by simpa using hl) hnews h1 h63 (by omega) (Nat.le_refl _)
    refine ⟨v', w', h1, ⟨h2.1, ?_⟩, h3, fun g hg => .inr (h2.lt g hg).1⟩
    rcases h2.2 with h | ⟨g, cap, cur, fz, q1, _, q2⟩
    · exact .inl h
    · exact .inr ⟨g, cap, cur, fz, q1, Nat.zero_le _, q2⟩
  · obtain ⟨g, hg⟩ := Option.ne_none_iff_exists'.1 hv
    obtain ⟨v', w', h2', h2, h3, h4⟩ := run_append_ownF (P := P) w 0 t ty e i (.int .u8 0) 1 1 ht hi hz hsize hby rfl (by decide) v n xs hown ad m c news (by simpa using hl) hnews h1 h63 (by omega) (Nat.zero_le _)
    refine ⟨v', w', h2', h2, h3, fun g' hg' => ?_⟩
    rcases hown.2 with ⟨q, _⟩ | ⟨g0, cap, cur, fz, rfl, _, hgg, hfz, hnc, hcm, hcs, htake⟩
    · rw [q] at hg; simp [Value.ownBlock] at hg
    · by_cases hroom : n + m ≤ cap
      · have hr := run_append_roomF (P := P) w t ty e i ht hi g0 n cap cur fz hgg (by rw [hsize]; exact hfz) ad m c news (by rw [hsize]; simpa using hl) hnews h1 hroom (by rw [hsize]; omega)
        rw [h2'] at hr
        injection hr with hr _
        rw [hr] at hg'
        exact .inl (by simpa [Value.ownBlock] using hg')
      · have hxl : xs.length = n := by simpa using hown.1
        have hr := run_append_grow (P := P) w t ty e i (.int .u8 0) ht hi hz ⟨g0, 0, none⟩ n cap xs (by rw [hsize]; simpa using hxl) (hown.cells (g := g0) rfl) ad m c news (by rw [hsize]; simpa using hl) hnews (by omega) (by simp only [maxLen] at h63; omega) (by rw [hby]; exact growslice_fits (by omega) (by omega))
        rw [h2'] at hr
        injection hr with hr _
        rw [hr] at hg'
        simp [Value.ownBlock] at hg'
        exact .inr (by omega)
theorem wpList_append_cells {w : World} {ops : Array Oper} {rest : List Oper} {o : Oper} {a : Act} {Q : Exit → Act → World → Prop} (hgd : o.guard = none) (sl x : Operand) (t : TypeId)
    (ho : o.op = .call { callee := .builtin .append, args := #[sl, x], argTypes := #[t, t] })
    (e : TypeId) (i : TypeInfo) (ht : P.underlying t = some (.slice e)) (hi : P.info? e = some i) (hz : i.zero = some (.int .u8 0))
    (hsize : i.size = 1) (hby : i.bytes = 1)
    (v : Value) (n : Nat) (xs : List Value) (hs : a.eval sl = v) (hown : w.ownsRowF 0 e 1 v n xs) (ad : Addr) (m c : Nat) (news : List Value) (hx : a.eval x = .slice (some ad) m c) (hl : news.length = m) (hnews : ∀ j u, news[j]? = some u → w.cell? (ad.add j) = some u) (h1 : ∀ u ∈ news, u.oneCell' = true)
    (h63 : n + m ≤ maxLen) (hbytes : n + m ≤ 140737488355328)
    (h : ∀ v' w', w'.ownsRowF 0 e 1 v' (n + m) (xs ++ news) → w.grownBy w' v.ownBlock → (∀ g, v'.ownBlock = some g → v.ownBlock = some g ∨ w.heap.size ≤ g) → wpList P ops Q rest (a.put o.dst v') w') : wpList P ops Q (o :: rest) a w := by
  refine wpList_plain hgd fun K hK => ?_
  obtain ⟨v', w', hr, h2, h3, h4⟩ := append_cells (P := P) w t o.type e i ht hi hz hsize hby v n xs hown ad m c news hl hnews h1 h63 hbytes
  unfold Oper.wp execOp
  simp only [ho, resolve, invoke, builtin, Sem.run_bind, Sem.run_pure, Result.andThen_ok, List.map_toArray, List.map_cons, List.map_nil, hs, hx, hr]
  exact hK _ _ (h v' w' h2 h3 h4)
end


/-- What writing leaves. -/
structure Wrote (w w' : World) (b : Nat) (v v' : Value) (l : List UInt8) : Prop where
  os : w'.os = w.os
  tape : w'.tape = w.tape
  output : w'.output = w.output
  size : w.heap.size ≤ w'.heap.size
  block : ∀ k, k < w.heap.size → k ≠ b → v.ownBlock ≠ some k → w'.heap[k]? = w.heap[k]?
  box : w'.heap[b]? = some (.cells #[.pointer (some ⟨b, 0, none⟩), v'] 156 (0, 0))
  row : w'.ownsRowF 0 5 1 v' l.length (byteCells l)
  own : ∀ g, v'.ownBlock = some g → v.ownBlock = some g ∨ w.heap.size ≤ g

theorem infoByte : (Tryd.prog.info? 5).map (fun i => (i.zero, i.size, i.bytes)) = some (some (.int .u8 0), 1, 1) := by kernel_rfl

set_option maxHeartbeats 1000000 in
set_option maxRecDepth 100000 in
theorem write (w : World) (b : Nat) (v0 v : Value) (l : List UInt8) (c : UInt8) (hbk : w.heap[b]? = some (.cells #[v0, v] 156 (0, 0))) (h0 : v0 = .pointer none ∨ v0 = .pointer (some ⟨b, 0, none⟩))
    (hown : w.ownsRowF 0 5 1 v l.length (byteCells l)) (hne : v.ownBlock ≠ some b) (hlen : l.length + 1 ≤ 140737488355328) :
    Calls Tryd.prog 158 #[.pointer (some ⟨b, 0, none⟩), .int .u8 c.toNat] w fun e w' => e = .returned .nilIface ∧ ∃ v', Wrote w w' b v v' (l ++ [c]) := by
  obtain ⟨i0, hi, hz⟩ := Option.map_eq_some_iff.1 infoByte
  have hz0 : i0.zero = some (.int .u8 0) := by simpa using congrArg (·.1) hz
  have hz1 : i0.size = 1 := by simpa using congrArg (·.2.1) hz
  have hz2 : i0.bytes = 1 := by simpa using congrArg (·.2.2) hz
  have hlt : b < w.heap.size := (Array.getElem?_eq_some_iff.1 hbk).1
  have hchk : Calls Tryd.prog 171 #[.pointer (some ⟨b, 0, none⟩)] w fun e w' => e = .returned (.tuple #[]) ∧ w'.heap[b]? = some (.cells #[.pointer (some ⟨b, 0, none⟩), v] 156 (0, 0)) ∧ w.grownBy w' (some b) := by
    rcases h0 with rfl | rfl
    · refine (check_fresh w b (by rw [Lib.cell_of_heap hbk]; rfl) (by simp [World.shape?, hbk]) (Lib.frozen_of_heap hbk 0)).mono ?_
      rintro e w' ⟨rfl, rfl⟩
      refine ⟨rfl, by simp [World.setCell, Array.getElem?_modify, hbk], ⟨rfl, rfl, rfl, by simp [World.setCell], fun k _ hk => ?_⟩⟩
      simp only [World.setCell, Array.getElem?_modify]
      rw [if_neg (fun e => hk (by simp [e]))]
    · refine (check_used w b (by rw [Lib.cell_of_heap hbk]; rfl)).mono ?_
      rintro e w' ⟨rfl, rfl⟩
      exact ⟨rfl, hbk, ⟨rfl, rfl, rfl, Nat.le_refl _, fun _ _ _ => rfl⟩⟩
  have mixed : Tryd.prog.follows Departure.mixedOrders = true := by kernel_rfl
  have e171 : ∀ args w, (callFunc 171 args).run Tryd.prog w = .ok (.enter 171 args) w := enters_of Tryd.func171 (by kernel_rfl) rfl
  go_enter Tryd.func158, Tryd.ntmps158
  go_wp2_with (go_at_fn 171; refine hchk.mono ?_)
  rintro e w1 ⟨rfl, hbk1, hg1⟩
  have hown1 : w1.ownsRowF 0 5 1 v l.length (byteCells l) := hown.kept hg1 (.inr hne)
  have c0 : w1.cell? ⟨b, 0, none⟩ = some (.pointer (some ⟨b, 0, none⟩)) := by rw [Lib.cell_of_heap hbk1]; rfl
  have c1 : w1.cell? ⟨b, 1, none⟩ = some v := by rw [Lib.cell_of_heap hbk1]; rfl
  have t30 := Tryd.underlying30
  go_wp2_with (at_builtin; refine wpList_append_cells rfl _ _ 30 rfl 5 i0 Tryd.underlying30 hi hz0 hz1 hz2 _ _ _ rfl (hown1.alloc _) ⟨w1.heap.size, 0, none⟩ 1 1 [.int .u8 c.toNat] rfl rfl ?c1 ?c2 ?c3 ?c4 ?_)
  case c1 =>
    intro j u hj
    match j, hj with
    | 0, hj => simp at hj; subst hj; simp [Addr.add]
  case c2 => intro u hu; simp at hu; subst hu; rfl
  case c3 => unfold maxLen; omega
  case c4 => omega
  intro v' w2 hown' hgrow hblk
  have hsz : (w1.alloc (.cells #[.int .u8 c.toNat] 5)).heap.size = w1.heap.size + 1 := by show (w1.heap.push _).size = _; simp
  have hlt1 : b < w1.heap.size := (Array.getElem?_eq_some_iff.1 hbk1).1
  have hb2 : w2.heap[b]? = some (.cells #[.pointer (some ⟨b, 0, none⟩), v] 156 (0, 0)) := by
    rw [hgrow.block b (by omega) (fun e => hne e.symm), heap_alloc_old w1 _ hlt1]; exact hbk1
  have d0 : w2.cell? ⟨b, 0, none⟩ = some (.pointer (some ⟨b, 0, none⟩)) := by rw [Lib.cell_of_heap hb2]; rfl
  have d1 : w2.cell? ⟨b, 1, none⟩ = some v := by rw [Lib.cell_of_heap hb2]; rfl
  have f1 : w2.frozen? ⟨b, 1, none⟩ = false := Lib.frozen_of_heap hb2 1
  obtain ⟨ao, n', cap, rfl⟩ : ∃ ao n' cap, v' = .slice ao n' cap := by
    rcases hown'.2 with ⟨hv, _⟩ | ⟨g, cap, cur, fz, hv, _⟩
    · exact ⟨_, _, _, hv⟩
    · exact ⟨_, _, _, hv⟩
  go_wp2
  go_ret
  refine ⟨rfl, .slice ao n' cap, ?_, ?_, ?_, ?_, fun k hk hkb hkv => ?_, ?_, ?_, fun g hg => ?_⟩
  · show w2.os = _; rw [hgrow.os]; exact hg1.os
  · show w2.tape = _; rw [hgrow.tape]; exact hg1.tape
  · show w2.output = _; rw [hgrow.output]; exact hg1.output
  · have := hgrow.size; have := hg1.size; simp [World.setCell]; omega
  · have q : (w2.setCell ⟨b, 1, none⟩ (.slice ao n' cap)).heap[k]? = w2.heap[k]? := by
      simp only [World.setCell, Array.getElem?_modify]
      rw [if_neg (fun e => hkb e.symm)]
    have hk1 : k < w1.heap.size := by have := hg1.size; omega
    rw [q, hgrow.block k (by omega) (fun e => hkv e.symm), heap_alloc_old w1 _ hk1, hg1.block k hk (by simpa using hkb)]
  · simp [World.setCell, Array.getElem?_modify, hb2]
  · have h2 : w2.ownsRowF 0 5 1 (.slice ao n' cap) (l ++ [c]).length (byteCells (l ++ [c])) := by
      rw [List.length_append, byteCells_append]; exact hown'
    refine h2.kept (row := some b) ⟨rfl, rfl, rfl, by simp [World.setCell], fun k _ hk => by
      simp only [World.setCell, Array.getElem?_modify]
      rw [if_neg (fun e => hk (by simp [e]))]⟩ (.inr fun e => ?_)
    rcases hblk b e with h3 | h3
    · exact hne h3
    · omega
  · rcases hblk g hg with h3 | h3
    · exact .inl h3
    · exact .inr (by have := hg1.size; omega)
end NB
end Go.Proofs.YtmkkljbfmdngfaaDoor
namespace Go.Proofs.YtmkkljbfmdngfaaDoor
namespace B
open Go.RowKit

theorem bk_bx (args : List CV) (b : Nat) (cs : List CV) : (⟨args, [(b, cs)]⟩ : St).bx b = some cs := by simp [St.bx]
theorem ownF_ne {w : World} {v : Value} {n : Nat} {xs : List Value} {b : Nat} {cs : Array Value} (h : w.ownsRowF 0 5 1 v n xs) (hb : w.heap[b]? = some (.cells cs 156 (0, 0))) : v.ownBlock ≠ some b := by
  rcases h.2 with ⟨rfl, _⟩ | ⟨g, cap, cur, fz, rfl, _, hg, _⟩
  · simp [Value.ownBlock]
  · intro e
    simp [Value.ownBlock] at e; subst e
    rw [hb] at hg; injection hg with hg; injection hg with _ hg _
    exact absurd hg (by decide)

theorem r158 (b : Nat) (f : Bool) (l : Bytes) (c : UInt8) (hlen : l.length + 1 ≤ 140737488355328) :
    Runs P 158 [.ptr b 0, .d (.int .u8 c.toNat)] [(b, [.sp b 156, .bld 5 f l])] .junk [(b, [.sp b 156, .bld 5 false (l ++ [c])])] := by
  refine ⟨⟨Tryd.f158, Tryd.func158, by kernel_rfl, by kernel_rfl⟩, fun Γ ρ bl vals w h hz => ?_⟩
  obtain ⟨v, u, rfl, hv, hu⟩ := vals2 h
  have hv : v = .pointer (some ⟨bl b, 0, none⟩) := hv
  subst hv
  obtain rfl := rep_int hu
  obtain ⟨v0, v1, k1, k2, k3⟩ := h.bld (bk_bx _ b _)
  refine (NB.write w (bl b) v0 v1 l c k1 k2 k3.2.1 (ownF_ne k3.2.1 k1) hlen).mono ?_
  rintro e w' ⟨rfl, v', hw⟩
  obtain ⟨ρ', h2, f2⟩ := h.bldSet (f' := false) (l' := l ++ [c]) k1 k3 hw.size hw.os hw.tape hw.output (fun k q1 q2 q3 => hw.block k q1 q2 q3) hw.box (.inr rfl) (fun e => by cases e) (by simpa using hw.row) hw.own
  exact ⟨_, _, _, _, rfl, h2.result (res := .junk) trivial (fun _ h => h.elim), f2.to0, h.rkb rfl _⟩
theorem r159 (b : Nat) (f : Bool) (s : Bytes) : Runs P 159 [.ptr b 0] [(b, [.sp b 156, .bld 5 f s])] (.d (.str s)) [(b, [.sp b 156, .bld 5 false s])] := by
  refine ⟨⟨Tryd.f159, Tryd.func159, by kernel_rfl, by kernel_rfl⟩, fun Γ ρ bl vals w h hz => ?_⟩
  obtain ⟨v, rfl, hv⟩ := vals1 h
  have hv : v = .pointer (some ⟨bl b, 0, none⟩) := hv
  subst hv
  obtain ⟨v0, v1, k1, k2, k3⟩ := h.bld (bk_bx _ b _)
  have hlt : bl b < w.heap.size := (Array.getElem?_eq_some_iff.1 k1).1
  have same : ∀ e w', s = [] → e = Ending.returned (.string .empty) ∧ NB.Same w w' → ∃ v Γ' ρ' bl', e = .returned v ∧ SR Γ' ρ' bl' ⟨[.d (.str s)], [(b, [.sp b 156, .bld 5 false s])]⟩ #[v] w' ∧ Fr0 w Γ ρ w' Γ' ρ' ∧ ∀ b', (([(b, [CV.sp b 156, .bld 5 f s])] : List (Nat × List CV)).lookup b').isSome = true → RK ρ ρ' bl bl' b' := by
    rintro e w' rfl ⟨rfl, hS⟩
    have hrow : w'.ownsRowF 0 5 1 v1 0 (Lib.byteCells []) := by
      refine ⟨k3.2.1.1, ?_⟩
      rcases k3.2.1.2 with q | ⟨g, cap, cur, fz, q1, q2, q3, q4⟩
      · exact .inl q
      · exact .inr ⟨g, cap, cur, fz, q1, q2, by rw [hS.block g (Array.getElem?_eq_some_iff.1 q3).1]; exact q3, q4⟩
    obtain ⟨ρ', h2, f2⟩ := h.bldSet (f' := false) (l' := []) (w' := w') (v0' := v0) (v1' := v1) k1 k3 hS.size hS.os hS.tape hS.output (fun k q1 _ _ => hS.block k q1) (by rw [hS.block _ hlt]; exact k1) k2 (fun e => by cases e) hrow (fun g hg => .inl hg)
    exact ⟨_, _, _, _, rfl, h2.result (Rep.str []) (fun _ h => h.elim), f2.to0, h.rkb rfl _⟩
  rcases k3.2.1.2 with ⟨q, hn⟩ | ⟨g, cap, cur, fz, q, _, hg, hfz, hnc, hcm, hcs, ht⟩
  · have hs : s = [] := by simpa using hn
    have k1' := k1
    rw [q] at k1'
    exact (NB.text_nil w (bl b) v0 k1').mono fun e w' he => same e w' hs he
  · have k1' := k1
    rw [q] at k1'
    by_cases hs : s = []
    · subst hs
      by_cases hc : cap = 0
      · subst hc
        exact (NB.text_zero w (bl b) g v0 cur fz k1' hg).mono fun e w' he => same e w' rfl he
      · exact (NB.text_none w (bl b) g cap v0 k1' hc).mono fun e w' he => same e w' rfl he
    · refine (NB.text w (bl b) g cap v0 s cur k1' hs fz hg (by simpa using hnc) hcm (by simpa using hcs) (by simpa using ht)).mono ?_
      rintro e w' ⟨rfl, hF⟩
      have hbg : bl b ≠ g := by
        intro e
        rw [e, hg] at k1; injection k1 with k1; injection k1 with _ k1 _
        exact absurd k1 (by decide)
      obtain ⟨fz', hg', hfz'⟩ := hF.row cur 5 fz hg (by simpa using hfz)
      have hv1 : v1.ownBlock = some g := by rw [q]; rfl
      obtain ⟨ρ', h2, f2⟩ := h.bldSet (f' := false) (l' := s) (w' := w') (v0' := v0) (v1' := v1) k1 k3 (by rw [hF.size]; exact Nat.le_refl _) hF.os hF.tape hF.output (fun k _ _ q3 => hF.block k (fun e => q3 (by rw [hv1, e])))
        (by rw [hF.block _ hbg]; exact k1) k2 (fun e => by cases e) ⟨k3.2.1.1, .inr ⟨g, cap, cur, fz', q, Nat.zero_le _, hg', by simpa using hfz', hnc, hcm, hcs, ht⟩⟩ (fun g hg => .inl hg)
      exact ⟨_, _, _, _, rfl, h2.result (Rep.str s) (fun _ h => h.elim), f2.to0, h.rkb rfl _⟩
end B
end Go.Proofs.YtmkkljbfmdngfaaDoor
