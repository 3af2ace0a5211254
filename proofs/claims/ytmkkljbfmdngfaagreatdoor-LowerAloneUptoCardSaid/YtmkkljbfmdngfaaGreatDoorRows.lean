/-
  NARROWER THAN 'FOR EVERY INPUT', by the rows' own cells (each row's printed sentence says how): ImageWhole: laid · ImageOther: laid · ImageRest: laid · ImageMore: laid · LowerForms: laid · LowerJust: laid · LowerOlder: laid · LowerAlone: laid · RowParts: laid · RowDone: laid.
  DERIVED. THE GIVEN ROWS OF THIS SEAT. 10 by the template 'for every input the law returns true; each argument reads behind the call as it read before'; 0 by the template 'total and deterministic' (their statements: YtmkkljbfmdngfaaGreatDoorTotals.lean).
  GIVEN WITH THE SEED: the statements are not yours to turn. If you find one false, say at which input.
  Laid BY PROGRAM, IN A SANDBOX (cutbox-rows.mjs): the forced cells as the released guide's own fill.sh prints them over the translation 713598c1c6e418d8… (all of the seat's roots in one cut). By AI agents, Wed Nov 11 2026. No macro, syntax, notation, axiom, sorry.
-/
import Derived.Test.YtmkkljbfmdngfaaGreatDoorChecked
import GoSem.Claim
import GoSem.ClaimJoined
import GoSem.ClaimMapViews
import Derived.JoinedTies
import Derived.KernelRfl
namespace Go.Proofs.YtmkkljbfmdngfaaGreatDoor
/- THE CELL 'sum', in the pinned program and in every row, IS THE sha256 OF THE DUMP (.gsa) THAT YtmkkljbfmdngfaaGreatDoorProg.lean LOADS. Nothing in Lean hashes anything: it is a label: what it is worth is what the hold of that sum in a sandbox is worth. -/
noncomputable def Tryz.pinned : Pinned := { name := "ytmkkljbfmdngfaagreatdoor", sum := "713598c1c6e418d833e79bd65752505cce12bddcec23c5f63c6b14d506fc9490", checked := Tryz.checked }
namespace Rows
def none {H : Type} : Left H := { results := [], args := [] }

/- WHAT THE LISTED PACKAGE-LEVEL VARIABLES READ AS WHEN THE CALL BEGINS. Each datum BY PROGRAM (the guide's laid-datum.mjs) off the statement by which the dump's own 'gosem.cut.vars' lays the variable. In a bare row this is a premise. The card (YtmkkljbfmdngfaaGreatDoorCards.lean) ties it to the program's text. -/
def laid_math_bits_deBruijn32tab {H : Type} : DataW H := .agg [.lit (.int .u8 0), .lit (.int .u8 1), .lit (.int .u8 28), .lit (.int .u8 2), .lit (.int .u8 29), .lit (.int .u8 14), .lit (.int .u8 24), .lit (.int .u8 3), .lit (.int .u8 30), .lit (.int .u8 22), .lit (.int .u8 20), .lit (.int .u8 15), .lit (.int .u8 25), .lit (.int .u8 17), .lit (.int .u8 4), .lit (.int .u8 8), .lit (.int .u8 31), .lit (.int .u8 27), .lit (.int .u8 13), .lit (.int .u8 23), .lit (.int .u8 21), .lit (.int .u8 19), .lit (.int .u8 16), .lit (.int .u8 7), .lit (.int .u8 26), .lit (.int .u8 12), .lit (.int .u8 18), .lit (.int .u8 6), .lit (.int .u8 11), .lit (.int .u8 5), .lit (.int .u8 10), .lit (.int .u8 9)]
def laid_math_bits_deBruijn64tab {H : Type} : DataW H := .agg [.lit (.int .u8 0), .lit (.int .u8 1), .lit (.int .u8 56), .lit (.int .u8 2), .lit (.int .u8 57), .lit (.int .u8 49), .lit (.int .u8 28), .lit (.int .u8 3), .lit (.int .u8 61), .lit (.int .u8 58), .lit (.int .u8 42), .lit (.int .u8 50), .lit (.int .u8 38), .lit (.int .u8 29), .lit (.int .u8 17), .lit (.int .u8 4), .lit (.int .u8 62), .lit (.int .u8 47), .lit (.int .u8 59), .lit (.int .u8 36), .lit (.int .u8 45), .lit (.int .u8 43), .lit (.int .u8 51), .lit (.int .u8 22), .lit (.int .u8 53), .lit (.int .u8 39), .lit (.int .u8 33), .lit (.int .u8 30), .lit (.int .u8 24), .lit (.int .u8 18), .lit (.int .u8 12), .lit (.int .u8 5), .lit (.int .u8 63), .lit (.int .u8 55), .lit (.int .u8 48), .lit (.int .u8 27), .lit (.int .u8 60), .lit (.int .u8 41), .lit (.int .u8 37), .lit (.int .u8 16), .lit (.int .u8 46), .lit (.int .u8 35), .lit (.int .u8 44), .lit (.int .u8 21), .lit (.int .u8 52), .lit (.int .u8 32), .lit (.int .u8 23), .lit (.int .u8 11), .lit (.int .u8 54), .lit (.int .u8 26), .lit (.int .u8 40), .lit (.int .u8 15), .lit (.int .u8 34), .lit (.int .u8 20), .lit (.int .u8 31), .lit (.int .u8 10), .lit (.int .u8 25), .lit (.int .u8 14), .lit (.int .u8 19), .lit (.int .u8 9), .lit (.int .u8 13), .lit (.int .u8 8), .lit (.int .u8 7), .lit (.int .u8 6)]
def laid_internal_strconv_uint64pow10 {H : Type} : DataW H := .agg [.lit (.int .u64 1), .lit (.int .u64 10), .lit (.int .u64 100), .lit (.int .u64 1000), .lit (.int .u64 10000), .lit (.int .u64 100000), .lit (.int .u64 1000000), .lit (.int .u64 10000000), .lit (.int .u64 100000000), .lit (.int .u64 1000000000), .lit (.int .u64 10000000000), .lit (.int .u64 100000000000), .lit (.int .u64 1000000000000), .lit (.int .u64 10000000000000), .lit (.int .u64 100000000000000), .lit (.int .u64 1000000000000000), .lit (.int .u64 10000000000000000), .lit (.int .u64 100000000000000000), .lit (.int .u64 1000000000000000000), .lit (.int .u64 10000000000000000000)]

/-- 'mailsacklaw11.ImageWhole': WHATEVER THE INPUT: true; the input reads as it did. -/
def imageWholeSpec : ChangeSpec := { name := "imageWhole", fn := fun _ => fun
  | [d1, d2] => { results := [.lit (.bool true)], args := [d1, d2] }
  | _ => none }
def imageWholeRow : OpenClaim := { program := "ytmkkljbfmdngfaagreatdoor", sum := "713598c1c6e418d833e79bd65752505cce12bddcec23c5f63c6b14d506fc9490", func := "mailsack/mailsacklaw11.ImageWhole", spec := "imageWhole", inPlace := ["internal/bytealg.IndexByteString", "internal/abi.NoEscape"], unfollowed := true, recurses := true, named := ["internal/strconv.uint64pow10", "math/bits.deBruijn32tab", "math/bits.deBruijn64tab"], apart := false, laid := [("math/bits.deBruijn32tab", laid_math_bits_deBruijn32tab), ("math/bits.deBruijn64tab", laid_math_bits_deBruijn64tab), ("internal/strconv.uint64pow10", laid_internal_strconv_uint64pow10)] }
def ImageWholeSaid : Prop := imageWholeRow.holds Tryz.pinned (OpenSpec.ofChange imageWholeSpec)

/-- ITS FALSE NEIGHBOUR: 'it returns false'. Refute it at one input. -/
def imageWholeWrong : ChangeSpec := { name := "imageWhole", fn := fun _ => fun
  | [d1, d2] => { results := [.lit (.bool false)], args := [d1, d2] }
  | _ => none }
def ImageWholeWrongFalsely : Prop := imageWholeRow.holds Tryz.pinned (OpenSpec.ofChange imageWholeWrong)

/-- 'mailsacklaw11.ImageOther': WHATEVER THE INPUT: true; the input reads as it did. -/
def imageOtherSpec : ChangeSpec := { name := "imageOther", fn := fun _ => fun
  | [d1, d2, d3] => { results := [.lit (.bool true)], args := [d1, d2, d3] }
  | _ => none }
def imageOtherRow : OpenClaim := { program := "ytmkkljbfmdngfaagreatdoor", sum := "713598c1c6e418d833e79bd65752505cce12bddcec23c5f63c6b14d506fc9490", func := "mailsack/mailsacklaw11.ImageOther", spec := "imageOther", inPlace := ["internal/bytealg.IndexByteString", "internal/abi.NoEscape"], unfollowed := true, recurses := true, named := ["internal/strconv.uint64pow10", "math/bits.deBruijn32tab", "math/bits.deBruijn64tab"], apart := false, laid := [("math/bits.deBruijn32tab", laid_math_bits_deBruijn32tab), ("math/bits.deBruijn64tab", laid_math_bits_deBruijn64tab), ("internal/strconv.uint64pow10", laid_internal_strconv_uint64pow10)] }
def ImageOtherSaid : Prop := imageOtherRow.holds Tryz.pinned (OpenSpec.ofChange imageOtherSpec)

/-- ITS FALSE NEIGHBOUR: 'it returns false'. Refute it at one input. -/
def imageOtherWrong : ChangeSpec := { name := "imageOther", fn := fun _ => fun
  | [d1, d2, d3] => { results := [.lit (.bool false)], args := [d1, d2, d3] }
  | _ => none }
def ImageOtherWrongFalsely : Prop := imageOtherRow.holds Tryz.pinned (OpenSpec.ofChange imageOtherWrong)

/-- 'mailsacklaw11.ImageRest': WHATEVER THE INPUT: true; the input reads as it did. -/
def imageRestSpec : ChangeSpec := { name := "imageRest", fn := fun _ => fun
  | [d1, d2, d3] => { results := [.lit (.bool true)], args := [d1, d2, d3] }
  | _ => none }
def imageRestRow : OpenClaim := { program := "ytmkkljbfmdngfaagreatdoor", sum := "713598c1c6e418d833e79bd65752505cce12bddcec23c5f63c6b14d506fc9490", func := "mailsack/mailsacklaw11.ImageRest", spec := "imageRest", inPlace := ["internal/bytealg.IndexByteString", "internal/abi.NoEscape"], unfollowed := true, recurses := true, named := ["internal/strconv.uint64pow10", "math/bits.deBruijn32tab", "math/bits.deBruijn64tab"], apart := false, laid := [("math/bits.deBruijn32tab", laid_math_bits_deBruijn32tab), ("math/bits.deBruijn64tab", laid_math_bits_deBruijn64tab), ("internal/strconv.uint64pow10", laid_internal_strconv_uint64pow10)] }
def ImageRestSaid : Prop := imageRestRow.holds Tryz.pinned (OpenSpec.ofChange imageRestSpec)

/-- ITS FALSE NEIGHBOUR: 'it returns false'. Refute it at one input. -/
def imageRestWrong : ChangeSpec := { name := "imageRest", fn := fun _ => fun
  | [d1, d2, d3] => { results := [.lit (.bool false)], args := [d1, d2, d3] }
  | _ => none }
def ImageRestWrongFalsely : Prop := imageRestRow.holds Tryz.pinned (OpenSpec.ofChange imageRestWrong)

/-- 'mailsacklaw11.ImageMore': WHATEVER THE INPUT: true; the input reads as it did. -/
def imageMoreSpec : ChangeSpec := { name := "imageMore", fn := fun _ => fun
  | [d1, d2, d3, d4] => { results := [.lit (.bool true)], args := [d1, d2, d3, d4] }
  | _ => none }
def imageMoreRow : OpenClaim := { program := "ytmkkljbfmdngfaagreatdoor", sum := "713598c1c6e418d833e79bd65752505cce12bddcec23c5f63c6b14d506fc9490", func := "mailsack/mailsacklaw11.ImageMore", spec := "imageMore", inPlace := ["internal/bytealg.IndexByteString", "internal/abi.NoEscape"], unfollowed := true, recurses := true, named := ["internal/strconv.uint64pow10", "math/bits.deBruijn32tab", "math/bits.deBruijn64tab"], apart := false, laid := [("math/bits.deBruijn32tab", laid_math_bits_deBruijn32tab), ("math/bits.deBruijn64tab", laid_math_bits_deBruijn64tab), ("internal/strconv.uint64pow10", laid_internal_strconv_uint64pow10)] }
def ImageMoreSaid : Prop := imageMoreRow.holds Tryz.pinned (OpenSpec.ofChange imageMoreSpec)

/-- ITS FALSE NEIGHBOUR: 'it returns false'. Refute it at one input. -/
def imageMoreWrong : ChangeSpec := { name := "imageMore", fn := fun _ => fun
  | [d1, d2, d3, d4] => { results := [.lit (.bool false)], args := [d1, d2, d3, d4] }
  | _ => none }
def ImageMoreWrongFalsely : Prop := imageMoreRow.holds Tryz.pinned (OpenSpec.ofChange imageMoreWrong)

/-- 'mailsacklaw12.LowerForms': WHATEVER THE INPUT: true; the input reads as it did. -/
def lowerFormsSpec : ChangeSpec := { name := "lowerForms", fn := fun _ => fun
  | [d1, d2, d3] => { results := [.lit (.bool true)], args := [d1, d2, d3] }
  | _ => none }
def lowerFormsRow : OpenClaim := { program := "ytmkkljbfmdngfaagreatdoor", sum := "713598c1c6e418d833e79bd65752505cce12bddcec23c5f63c6b14d506fc9490", func := "mailsack/mailsacklaw12.LowerForms", spec := "lowerForms", inPlace := ["internal/bytealg.IndexByteString", "internal/abi.NoEscape", "internal/bytealg.MakeNoZero"], unfollowed := true, recurses := true, named := ["internal/strconv.uint64pow10", "math/bits.deBruijn32tab", "math/bits.deBruijn64tab"], apart := false, laid := [("math/bits.deBruijn32tab", laid_math_bits_deBruijn32tab), ("math/bits.deBruijn64tab", laid_math_bits_deBruijn64tab), ("internal/strconv.uint64pow10", laid_internal_strconv_uint64pow10)] }
def LowerFormsSaid : Prop := lowerFormsRow.holds Tryz.pinned (OpenSpec.ofChange lowerFormsSpec)

/-- ITS FALSE NEIGHBOUR: 'it returns false'. Refute it at one input. -/
def lowerFormsWrong : ChangeSpec := { name := "lowerForms", fn := fun _ => fun
  | [d1, d2, d3] => { results := [.lit (.bool false)], args := [d1, d2, d3] }
  | _ => none }
def LowerFormsWrongFalsely : Prop := lowerFormsRow.holds Tryz.pinned (OpenSpec.ofChange lowerFormsWrong)

/-- 'mailsacklaw12.LowerJust': WHATEVER THE INPUT: true; the input reads as it did. -/
def lowerJustSpec : ChangeSpec := { name := "lowerJust", fn := fun _ => fun
  | [d1, d2] => { results := [.lit (.bool true)], args := [d1, d2] }
  | _ => none }
def lowerJustRow : OpenClaim := { program := "ytmkkljbfmdngfaagreatdoor", sum := "713598c1c6e418d833e79bd65752505cce12bddcec23c5f63c6b14d506fc9490", func := "mailsack/mailsacklaw12.LowerJust", spec := "lowerJust", inPlace := ["internal/bytealg.IndexByteString", "internal/abi.NoEscape", "internal/bytealg.MakeNoZero"], unfollowed := true, recurses := true, named := ["internal/strconv.uint64pow10", "math/bits.deBruijn32tab", "math/bits.deBruijn64tab"], apart := false, laid := [("math/bits.deBruijn32tab", laid_math_bits_deBruijn32tab), ("math/bits.deBruijn64tab", laid_math_bits_deBruijn64tab), ("internal/strconv.uint64pow10", laid_internal_strconv_uint64pow10)] }
def LowerJustSaid : Prop := lowerJustRow.holds Tryz.pinned (OpenSpec.ofChange lowerJustSpec)

/-- ITS FALSE NEIGHBOUR: 'it returns false'. Refute it at one input. -/
def lowerJustWrong : ChangeSpec := { name := "lowerJust", fn := fun _ => fun
  | [d1, d2] => { results := [.lit (.bool false)], args := [d1, d2] }
  | _ => none }
def LowerJustWrongFalsely : Prop := lowerJustRow.holds Tryz.pinned (OpenSpec.ofChange lowerJustWrong)

/-- 'mailsacklaw12.LowerOlder': WHATEVER THE INPUT: true; the input reads as it did. -/
def lowerOlderSpec : ChangeSpec := { name := "lowerOlder", fn := fun _ => fun
  | [d] => { results := [.lit (.bool true)], args := [d] }
  | _ => none }
def lowerOlderRow : OpenClaim := { program := "ytmkkljbfmdngfaagreatdoor", sum := "713598c1c6e418d833e79bd65752505cce12bddcec23c5f63c6b14d506fc9490", func := "mailsack/mailsacklaw12.LowerOlder", spec := "lowerOlder", inPlace := ["internal/bytealg.IndexByteString", "internal/abi.NoEscape", "internal/bytealg.MakeNoZero"], unfollowed := true, recurses := true, named := ["internal/strconv.uint64pow10", "math/bits.deBruijn32tab", "math/bits.deBruijn64tab"], apart := false, laid := [("math/bits.deBruijn32tab", laid_math_bits_deBruijn32tab), ("math/bits.deBruijn64tab", laid_math_bits_deBruijn64tab), ("internal/strconv.uint64pow10", laid_internal_strconv_uint64pow10)] }
def LowerOlderSaid : Prop := lowerOlderRow.holds Tryz.pinned (OpenSpec.ofChange lowerOlderSpec)

/-- ITS FALSE NEIGHBOUR: 'it returns false'. Refute it at one input. -/
def lowerOlderWrong : ChangeSpec := { name := "lowerOlder", fn := fun _ => fun
  | [d] => { results := [.lit (.bool false)], args := [d] }
  | _ => none }
def LowerOlderWrongFalsely : Prop := lowerOlderRow.holds Tryz.pinned (OpenSpec.ofChange lowerOlderWrong)

/-- 'mailsacklaw12.LowerAlone': WHATEVER THE INPUT: true; the input reads as it did. -/
def lowerAloneSpec : ChangeSpec := { name := "lowerAlone", fn := fun _ => fun
  | [d1, d2] => { results := [.lit (.bool true)], args := [d1, d2] }
  | _ => none }
def lowerAloneRow : OpenClaim := { program := "ytmkkljbfmdngfaagreatdoor", sum := "713598c1c6e418d833e79bd65752505cce12bddcec23c5f63c6b14d506fc9490", func := "mailsack/mailsacklaw12.LowerAlone", spec := "lowerAlone", inPlace := ["internal/bytealg.IndexByteString", "internal/abi.NoEscape", "internal/bytealg.MakeNoZero"], unfollowed := true, recurses := true, named := ["internal/strconv.uint64pow10", "math/bits.deBruijn32tab", "math/bits.deBruijn64tab"], apart := false, laid := [("math/bits.deBruijn32tab", laid_math_bits_deBruijn32tab), ("math/bits.deBruijn64tab", laid_math_bits_deBruijn64tab), ("internal/strconv.uint64pow10", laid_internal_strconv_uint64pow10)] }
def LowerAloneSaid : Prop := lowerAloneRow.holds Tryz.pinned (OpenSpec.ofChange lowerAloneSpec)

/-- ITS FALSE NEIGHBOUR: 'it returns false'. Refute it at one input. -/
def lowerAloneWrong : ChangeSpec := { name := "lowerAlone", fn := fun _ => fun
  | [d1, d2] => { results := [.lit (.bool false)], args := [d1, d2] }
  | _ => none }
def LowerAloneWrongFalsely : Prop := lowerAloneRow.holds Tryz.pinned (OpenSpec.ofChange lowerAloneWrong)

/-- 'mailsacklaw7.RowParts': WHATEVER THE INPUT: true; the input reads as it did. -/
def rowPartsSpec : ChangeSpec := { name := "rowParts", fn := fun _ => fun
  | [d1, d2, d3] => { results := [.lit (.bool true)], args := [d1, d2, d3] }
  | _ => none }
def rowPartsRow : OpenClaim := { program := "ytmkkljbfmdngfaagreatdoor", sum := "713598c1c6e418d833e79bd65752505cce12bddcec23c5f63c6b14d506fc9490", func := "mailsack/mailsacklaw7.RowParts", spec := "rowParts", inPlace := ["internal/bytealg.IndexByteString"], unfollowed := true, recurses := true, named := ["internal/strconv.uint64pow10", "math/bits.deBruijn32tab", "math/bits.deBruijn64tab"], apart := false, laid := [("math/bits.deBruijn32tab", laid_math_bits_deBruijn32tab), ("math/bits.deBruijn64tab", laid_math_bits_deBruijn64tab), ("internal/strconv.uint64pow10", laid_internal_strconv_uint64pow10)] }
def RowPartsSaid : Prop := rowPartsRow.holds Tryz.pinned (OpenSpec.ofChange rowPartsSpec)

/-- ITS FALSE NEIGHBOUR: 'it returns false'. Refute it at one input. -/
def rowPartsWrong : ChangeSpec := { name := "rowParts", fn := fun _ => fun
  | [d1, d2, d3] => { results := [.lit (.bool false)], args := [d1, d2, d3] }
  | _ => none }
def RowPartsWrongFalsely : Prop := rowPartsRow.holds Tryz.pinned (OpenSpec.ofChange rowPartsWrong)

/-- 'mailsacklaw7.RowDone': WHATEVER THE INPUT: true; the input reads as it did. -/
def rowDoneSpec : ChangeSpec := { name := "rowDone", fn := fun _ => fun
  | [d1, d2, d3, d4, d5] => { results := [.lit (.bool true)], args := [d1, d2, d3, d4, d5] }
  | _ => none }
def rowDoneRow : OpenClaim := { program := "ytmkkljbfmdngfaagreatdoor", sum := "713598c1c6e418d833e79bd65752505cce12bddcec23c5f63c6b14d506fc9490", func := "mailsack/mailsacklaw7.RowDone", spec := "rowDone", inPlace := ["internal/bytealg.IndexByteString"], unfollowed := true, recurses := true, named := ["internal/strconv.uint64pow10", "math/bits.deBruijn32tab", "math/bits.deBruijn64tab"], apart := false, laid := [("math/bits.deBruijn32tab", laid_math_bits_deBruijn32tab), ("math/bits.deBruijn64tab", laid_math_bits_deBruijn64tab), ("internal/strconv.uint64pow10", laid_internal_strconv_uint64pow10)] }
def RowDoneSaid : Prop := rowDoneRow.holds Tryz.pinned (OpenSpec.ofChange rowDoneSpec)

/-- ITS FALSE NEIGHBOUR: 'it returns false'. Refute it at one input. -/
def rowDoneWrong : ChangeSpec := { name := "rowDone", fn := fun _ => fun
  | [d1, d2, d3, d4, d5] => { results := [.lit (.bool false)], args := [d1, d2, d3, d4, d5] }
  | _ => none }
def RowDoneWrongFalsely : Prop := rowDoneRow.holds Tryz.pinned (OpenSpec.ofChange rowDoneWrong)

/- THE SECOND FORM. 'bulk': how many values and letters a reading holds, each counted each time it is reached (what is shared counts as often as it is met; a slice's spare places count too). A statement '..UptoSaid' is the law's where the arguments, and the package variables that the reading takes, are together of bulk at most 1048576: NARROWER than '..Said'. Prove '..Said' where nothing that the law and all that it calls make is longer than what came in: it says more and counts as full. Else prove '..UptoSaid'. A law counts once. -/
mutual
def uptoBulk {H : Type} : DataW H → Nat
  | .lit (.string bytes) => bytes.length + 1
  | .lit _ => 1
  | .nil => 1
  | .ptr d => uptoBulk d + 1
  | .slice elems spare => uptoBulkAll elems + uptoBulkAll spare + 1
  | .agg parts => uptoBulkAll parts + 1
  | .iface _ d => uptoBulk d + 1
  | .map entries => uptoBulkEntries entries + 1
  | .held _ => 1
def uptoBulkAll {H : Type} : List (DataW H) → Nat
  | [] => 0
  | d :: r => uptoBulk d + uptoBulkAll r
def uptoBulkEntries {H : Type} : List (Lit × DataW H) → Nat
  | [] => 0
  | x :: r => uptoBulkEntry x + uptoBulkEntries r
def uptoBulkEntry {H : Type} : Lit × DataW H → Nat
  | (.string bytes, d) => bytes.length + uptoBulk d + 1
  | (_, d) => uptoBulk d + 1
 end
def uptoSmall : (H : Type) → List (DataW H) → Bool := fun _ ds => decide (uptoBulkAll ds ≤ 1048576)
def OpenSpec.upto (s : _root_.Go.ChangeSpec) : _root_.Go.OpenSpec := { _root_.Go.OpenSpec.ofChange s with cond := some uptoSmall }

/-- 'mailsacklaw11.ImageWhole', WHERE WHAT IT READS IS OF BULK AT MOST 1048576: true; the input reads as it did. -/
def imageWholeUptoRow : OpenClaim := { program := "ytmkkljbfmdngfaagreatdoor", sum := "713598c1c6e418d833e79bd65752505cce12bddcec23c5f63c6b14d506fc9490", func := "mailsack/mailsacklaw11.ImageWhole", spec := "imageWhole", inPlace := ["internal/bytealg.IndexByteString", "internal/abi.NoEscape"], unfollowed := true, recurses := true, named := ["internal/strconv.uint64pow10", "math/bits.deBruijn32tab", "math/bits.deBruijn64tab"], apart := false, laid := [("math/bits.deBruijn32tab", laid_math_bits_deBruijn32tab), ("math/bits.deBruijn64tab", laid_math_bits_deBruijn64tab), ("internal/strconv.uint64pow10", laid_internal_strconv_uint64pow10)], narrowed := true }
def ImageWholeUptoSaid : Prop := imageWholeUptoRow.holds Tryz.pinned (OpenSpec.upto imageWholeSpec)

/-- 'mailsacklaw11.ImageOther', WHERE WHAT IT READS IS OF BULK AT MOST 1048576: true; the input reads as it did. -/
def imageOtherUptoRow : OpenClaim := { program := "ytmkkljbfmdngfaagreatdoor", sum := "713598c1c6e418d833e79bd65752505cce12bddcec23c5f63c6b14d506fc9490", func := "mailsack/mailsacklaw11.ImageOther", spec := "imageOther", inPlace := ["internal/bytealg.IndexByteString", "internal/abi.NoEscape"], unfollowed := true, recurses := true, named := ["internal/strconv.uint64pow10", "math/bits.deBruijn32tab", "math/bits.deBruijn64tab"], apart := false, laid := [("math/bits.deBruijn32tab", laid_math_bits_deBruijn32tab), ("math/bits.deBruijn64tab", laid_math_bits_deBruijn64tab), ("internal/strconv.uint64pow10", laid_internal_strconv_uint64pow10)], narrowed := true }
def ImageOtherUptoSaid : Prop := imageOtherUptoRow.holds Tryz.pinned (OpenSpec.upto imageOtherSpec)

/-- 'mailsacklaw11.ImageRest', WHERE WHAT IT READS IS OF BULK AT MOST 1048576: true; the input reads as it did. -/
def imageRestUptoRow : OpenClaim := { program := "ytmkkljbfmdngfaagreatdoor", sum := "713598c1c6e418d833e79bd65752505cce12bddcec23c5f63c6b14d506fc9490", func := "mailsack/mailsacklaw11.ImageRest", spec := "imageRest", inPlace := ["internal/bytealg.IndexByteString", "internal/abi.NoEscape"], unfollowed := true, recurses := true, named := ["internal/strconv.uint64pow10", "math/bits.deBruijn32tab", "math/bits.deBruijn64tab"], apart := false, laid := [("math/bits.deBruijn32tab", laid_math_bits_deBruijn32tab), ("math/bits.deBruijn64tab", laid_math_bits_deBruijn64tab), ("internal/strconv.uint64pow10", laid_internal_strconv_uint64pow10)], narrowed := true }
def ImageRestUptoSaid : Prop := imageRestUptoRow.holds Tryz.pinned (OpenSpec.upto imageRestSpec)

/-- 'mailsacklaw11.ImageMore', WHERE WHAT IT READS IS OF BULK AT MOST 1048576: true; the input reads as it did. -/
def imageMoreUptoRow : OpenClaim := { program := "ytmkkljbfmdngfaagreatdoor", sum := "713598c1c6e418d833e79bd65752505cce12bddcec23c5f63c6b14d506fc9490", func := "mailsack/mailsacklaw11.ImageMore", spec := "imageMore", inPlace := ["internal/bytealg.IndexByteString", "internal/abi.NoEscape"], unfollowed := true, recurses := true, named := ["internal/strconv.uint64pow10", "math/bits.deBruijn32tab", "math/bits.deBruijn64tab"], apart := false, laid := [("math/bits.deBruijn32tab", laid_math_bits_deBruijn32tab), ("math/bits.deBruijn64tab", laid_math_bits_deBruijn64tab), ("internal/strconv.uint64pow10", laid_internal_strconv_uint64pow10)], narrowed := true }
def ImageMoreUptoSaid : Prop := imageMoreUptoRow.holds Tryz.pinned (OpenSpec.upto imageMoreSpec)

/-- 'mailsacklaw12.LowerForms', WHERE WHAT IT READS IS OF BULK AT MOST 1048576: true; the input reads as it did. -/
def lowerFormsUptoRow : OpenClaim := { program := "ytmkkljbfmdngfaagreatdoor", sum := "713598c1c6e418d833e79bd65752505cce12bddcec23c5f63c6b14d506fc9490", func := "mailsack/mailsacklaw12.LowerForms", spec := "lowerForms", inPlace := ["internal/bytealg.IndexByteString", "internal/abi.NoEscape", "internal/bytealg.MakeNoZero"], unfollowed := true, recurses := true, named := ["internal/strconv.uint64pow10", "math/bits.deBruijn32tab", "math/bits.deBruijn64tab"], apart := false, laid := [("math/bits.deBruijn32tab", laid_math_bits_deBruijn32tab), ("math/bits.deBruijn64tab", laid_math_bits_deBruijn64tab), ("internal/strconv.uint64pow10", laid_internal_strconv_uint64pow10)], narrowed := true }
def LowerFormsUptoSaid : Prop := lowerFormsUptoRow.holds Tryz.pinned (OpenSpec.upto lowerFormsSpec)

/-- 'mailsacklaw12.LowerJust', WHERE WHAT IT READS IS OF BULK AT MOST 1048576: true; the input reads as it did. -/
def lowerJustUptoRow : OpenClaim := { program := "ytmkkljbfmdngfaagreatdoor", sum := "713598c1c6e418d833e79bd65752505cce12bddcec23c5f63c6b14d506fc9490", func := "mailsack/mailsacklaw12.LowerJust", spec := "lowerJust", inPlace := ["internal/bytealg.IndexByteString", "internal/abi.NoEscape", "internal/bytealg.MakeNoZero"], unfollowed := true, recurses := true, named := ["internal/strconv.uint64pow10", "math/bits.deBruijn32tab", "math/bits.deBruijn64tab"], apart := false, laid := [("math/bits.deBruijn32tab", laid_math_bits_deBruijn32tab), ("math/bits.deBruijn64tab", laid_math_bits_deBruijn64tab), ("internal/strconv.uint64pow10", laid_internal_strconv_uint64pow10)], narrowed := true }
def LowerJustUptoSaid : Prop := lowerJustUptoRow.holds Tryz.pinned (OpenSpec.upto lowerJustSpec)

/-- 'mailsacklaw12.LowerOlder', WHERE WHAT IT READS IS OF BULK AT MOST 1048576: true; the input reads as it did. -/
def lowerOlderUptoRow : OpenClaim := { program := "ytmkkljbfmdngfaagreatdoor", sum := "713598c1c6e418d833e79bd65752505cce12bddcec23c5f63c6b14d506fc9490", func := "mailsack/mailsacklaw12.LowerOlder", spec := "lowerOlder", inPlace := ["internal/bytealg.IndexByteString", "internal/abi.NoEscape", "internal/bytealg.MakeNoZero"], unfollowed := true, recurses := true, named := ["internal/strconv.uint64pow10", "math/bits.deBruijn32tab", "math/bits.deBruijn64tab"], apart := false, laid := [("math/bits.deBruijn32tab", laid_math_bits_deBruijn32tab), ("math/bits.deBruijn64tab", laid_math_bits_deBruijn64tab), ("internal/strconv.uint64pow10", laid_internal_strconv_uint64pow10)], narrowed := true }
def LowerOlderUptoSaid : Prop := lowerOlderUptoRow.holds Tryz.pinned (OpenSpec.upto lowerOlderSpec)

/-- 'mailsacklaw12.LowerAlone', WHERE WHAT IT READS IS OF BULK AT MOST 1048576: true; the input reads as it did. -/
def lowerAloneUptoRow : OpenClaim := { program := "ytmkkljbfmdngfaagreatdoor", sum := "713598c1c6e418d833e79bd65752505cce12bddcec23c5f63c6b14d506fc9490", func := "mailsack/mailsacklaw12.LowerAlone", spec := "lowerAlone", inPlace := ["internal/bytealg.IndexByteString", "internal/abi.NoEscape", "internal/bytealg.MakeNoZero"], unfollowed := true, recurses := true, named := ["internal/strconv.uint64pow10", "math/bits.deBruijn32tab", "math/bits.deBruijn64tab"], apart := false, laid := [("math/bits.deBruijn32tab", laid_math_bits_deBruijn32tab), ("math/bits.deBruijn64tab", laid_math_bits_deBruijn64tab), ("internal/strconv.uint64pow10", laid_internal_strconv_uint64pow10)], narrowed := true }
def LowerAloneUptoSaid : Prop := lowerAloneUptoRow.holds Tryz.pinned (OpenSpec.upto lowerAloneSpec)

/-- 'mailsacklaw7.RowParts', WHERE WHAT IT READS IS OF BULK AT MOST 1048576: true; the input reads as it did. -/
def rowPartsUptoRow : OpenClaim := { program := "ytmkkljbfmdngfaagreatdoor", sum := "713598c1c6e418d833e79bd65752505cce12bddcec23c5f63c6b14d506fc9490", func := "mailsack/mailsacklaw7.RowParts", spec := "rowParts", inPlace := ["internal/bytealg.IndexByteString"], unfollowed := true, recurses := true, named := ["internal/strconv.uint64pow10", "math/bits.deBruijn32tab", "math/bits.deBruijn64tab"], apart := false, laid := [("math/bits.deBruijn32tab", laid_math_bits_deBruijn32tab), ("math/bits.deBruijn64tab", laid_math_bits_deBruijn64tab), ("internal/strconv.uint64pow10", laid_internal_strconv_uint64pow10)], narrowed := true }
def RowPartsUptoSaid : Prop := rowPartsUptoRow.holds Tryz.pinned (OpenSpec.upto rowPartsSpec)

/-- 'mailsacklaw7.RowDone', WHERE WHAT IT READS IS OF BULK AT MOST 1048576: true; the input reads as it did. -/
def rowDoneUptoRow : OpenClaim := { program := "ytmkkljbfmdngfaagreatdoor", sum := "713598c1c6e418d833e79bd65752505cce12bddcec23c5f63c6b14d506fc9490", func := "mailsack/mailsacklaw7.RowDone", spec := "rowDone", inPlace := ["internal/bytealg.IndexByteString"], unfollowed := true, recurses := true, named := ["internal/strconv.uint64pow10", "math/bits.deBruijn32tab", "math/bits.deBruijn64tab"], apart := false, laid := [("math/bits.deBruijn32tab", laid_math_bits_deBruijn32tab), ("math/bits.deBruijn64tab", laid_math_bits_deBruijn64tab), ("internal/strconv.uint64pow10", laid_internal_strconv_uint64pow10)], narrowed := true }
def RowDoneUptoSaid : Prop := rowDoneUptoRow.holds Tryz.pinned (OpenSpec.upto rowDoneSpec)

end Rows
end Go.Proofs.YtmkkljbfmdngfaaGreatDoor
