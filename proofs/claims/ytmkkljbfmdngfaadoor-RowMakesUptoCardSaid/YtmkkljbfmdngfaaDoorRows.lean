/-
  NARROWER THAN 'FOR EVERY INPUT', by the rows' own cells (each row's printed sentence says how): Form1Apart: laid · Form2Apart: laid · Form1Forms: laid · Form1Back: laid · Form1Cut: laid · Form2Forms: laid · Form2Back: laid · Form2Cut: laid · RowRises: laid · RowOrder: laid · RowKeeps: laid · RowMakes: laid.
  DERIVED. THE GIVEN ROWS OF THIS SEAT. 12 by the template 'for every input the law returns true; each argument reads behind the call as it read before'; 0 by the template 'total and deterministic' (their statements: YtmkkljbfmdngfaaDoorTotals.lean).
  GIVEN WITH THE SEED: the statements are not yours to turn. If you find one false, say at which input.
  Laid BY PROGRAM, IN A SANDBOX (cutbox-rows.mjs): the forced cells as the released guide's own fill.sh prints them over the translation 714cf54d5fa04823… (all of the seat's roots in one cut). By AI agents, Wed Nov 11 2026. No macro, syntax, notation, axiom, sorry.
-/
import Derived.Test.YtmkkljbfmdngfaaDoorChecked
import GoSem.Claim
import GoSem.ClaimJoined
import GoSem.ClaimMapViews
import Derived.JoinedTies
import Derived.KernelRfl
namespace Go.Proofs.YtmkkljbfmdngfaaDoor
/- THE CELL 'sum', in the pinned program and in every row, IS THE sha256 OF THE DUMP (.gsa) THAT YtmkkljbfmdngfaaDoorProg.lean LOADS. Nothing in Lean hashes anything: it is a label: what it is worth is what the hold of that sum in a sandbox is worth. -/
noncomputable def Tryd.pinned : Pinned := { name := "ytmkkljbfmdngfaadoor", sum := "714cf54d5fa0482328c7c9ea7f4e84b3864fe735ceb9fbe1f9e5019273fb049e", checked := Tryd.checked }
namespace Rows
def none {H : Type} : Left H := { results := [], args := [] }

/- WHAT THE LISTED PACKAGE-LEVEL VARIABLES READ AS WHEN THE CALL BEGINS. Each datum BY PROGRAM (the guide's laid-datum.mjs) off the statement by which the dump's own 'gosem.cut.vars' lays the variable. In a bare row this is a premise. The card (YtmkkljbfmdngfaaDoorCards.lean) ties it to the program's text. -/
def laid_math_bits_deBruijn32tab {H : Type} : DataW H := .agg [.lit (.int .u8 0), .lit (.int .u8 1), .lit (.int .u8 28), .lit (.int .u8 2), .lit (.int .u8 29), .lit (.int .u8 14), .lit (.int .u8 24), .lit (.int .u8 3), .lit (.int .u8 30), .lit (.int .u8 22), .lit (.int .u8 20), .lit (.int .u8 15), .lit (.int .u8 25), .lit (.int .u8 17), .lit (.int .u8 4), .lit (.int .u8 8), .lit (.int .u8 31), .lit (.int .u8 27), .lit (.int .u8 13), .lit (.int .u8 23), .lit (.int .u8 21), .lit (.int .u8 19), .lit (.int .u8 16), .lit (.int .u8 7), .lit (.int .u8 26), .lit (.int .u8 12), .lit (.int .u8 18), .lit (.int .u8 6), .lit (.int .u8 11), .lit (.int .u8 5), .lit (.int .u8 10), .lit (.int .u8 9)]
def laid_math_bits_deBruijn64tab {H : Type} : DataW H := .agg [.lit (.int .u8 0), .lit (.int .u8 1), .lit (.int .u8 56), .lit (.int .u8 2), .lit (.int .u8 57), .lit (.int .u8 49), .lit (.int .u8 28), .lit (.int .u8 3), .lit (.int .u8 61), .lit (.int .u8 58), .lit (.int .u8 42), .lit (.int .u8 50), .lit (.int .u8 38), .lit (.int .u8 29), .lit (.int .u8 17), .lit (.int .u8 4), .lit (.int .u8 62), .lit (.int .u8 47), .lit (.int .u8 59), .lit (.int .u8 36), .lit (.int .u8 45), .lit (.int .u8 43), .lit (.int .u8 51), .lit (.int .u8 22), .lit (.int .u8 53), .lit (.int .u8 39), .lit (.int .u8 33), .lit (.int .u8 30), .lit (.int .u8 24), .lit (.int .u8 18), .lit (.int .u8 12), .lit (.int .u8 5), .lit (.int .u8 63), .lit (.int .u8 55), .lit (.int .u8 48), .lit (.int .u8 27), .lit (.int .u8 60), .lit (.int .u8 41), .lit (.int .u8 37), .lit (.int .u8 16), .lit (.int .u8 46), .lit (.int .u8 35), .lit (.int .u8 44), .lit (.int .u8 21), .lit (.int .u8 52), .lit (.int .u8 32), .lit (.int .u8 23), .lit (.int .u8 11), .lit (.int .u8 54), .lit (.int .u8 26), .lit (.int .u8 40), .lit (.int .u8 15), .lit (.int .u8 34), .lit (.int .u8 20), .lit (.int .u8 31), .lit (.int .u8 10), .lit (.int .u8 25), .lit (.int .u8 14), .lit (.int .u8 19), .lit (.int .u8 9), .lit (.int .u8 13), .lit (.int .u8 8), .lit (.int .u8 7), .lit (.int .u8 6)]
def laid_internal_strconv_uint64pow10 {H : Type} : DataW H := .agg [.lit (.int .u64 1), .lit (.int .u64 10), .lit (.int .u64 100), .lit (.int .u64 1000), .lit (.int .u64 10000), .lit (.int .u64 100000), .lit (.int .u64 1000000), .lit (.int .u64 10000000), .lit (.int .u64 100000000), .lit (.int .u64 1000000000), .lit (.int .u64 10000000000), .lit (.int .u64 100000000000), .lit (.int .u64 1000000000000), .lit (.int .u64 10000000000000), .lit (.int .u64 100000000000000), .lit (.int .u64 1000000000000000), .lit (.int .u64 10000000000000000), .lit (.int .u64 100000000000000000), .lit (.int .u64 1000000000000000000), .lit (.int .u64 10000000000000000000)]

/-- 'mailsacklaw8.Form1Apart': WHATEVER THE INPUT: true; the input reads as it did. -/
def form1ApartSpec : ChangeSpec := { name := "form1Apart", fn := fun _ => fun
  | [d1, d2] => { results := [.lit (.bool true)], args := [d1, d2] }
  | _ => none }
def form1ApartRow : OpenClaim := { program := "ytmkkljbfmdngfaadoor", sum := "714cf54d5fa0482328c7c9ea7f4e84b3864fe735ceb9fbe1f9e5019273fb049e", func := "mailsack/mailsacklaw8.Form1Apart", spec := "form1Apart", inPlace := ["internal/bytealg.IndexByteString"], named := ["internal/strconv.uint64pow10", "math/bits.deBruijn32tab", "math/bits.deBruijn64tab"], apart := false, laid := [("math/bits.deBruijn32tab", laid_math_bits_deBruijn32tab), ("math/bits.deBruijn64tab", laid_math_bits_deBruijn64tab), ("internal/strconv.uint64pow10", laid_internal_strconv_uint64pow10)] }
def Form1ApartSaid : Prop := form1ApartRow.holds Tryd.pinned (OpenSpec.ofChange form1ApartSpec)

/-- ITS FALSE NEIGHBOUR: 'it returns false'. Refute it at one input. -/
def form1ApartWrong : ChangeSpec := { name := "form1Apart", fn := fun _ => fun
  | [d1, d2] => { results := [.lit (.bool false)], args := [d1, d2] }
  | _ => none }
def Form1ApartWrongFalsely : Prop := form1ApartRow.holds Tryd.pinned (OpenSpec.ofChange form1ApartWrong)

/-- 'mailsacklaw9.Form2Apart': WHATEVER THE INPUT: true; the input reads as it did. -/
def form2ApartSpec : ChangeSpec := { name := "form2Apart", fn := fun _ => fun
  | [d1, d2] => { results := [.lit (.bool true)], args := [d1, d2] }
  | _ => none }
def form2ApartRow : OpenClaim := { program := "ytmkkljbfmdngfaadoor", sum := "714cf54d5fa0482328c7c9ea7f4e84b3864fe735ceb9fbe1f9e5019273fb049e", func := "mailsack/mailsacklaw9.Form2Apart", spec := "form2Apart", inPlace := ["internal/bytealg.IndexByteString"], named := ["internal/strconv.uint64pow10", "math/bits.deBruijn32tab", "math/bits.deBruijn64tab"], apart := false, laid := [("math/bits.deBruijn32tab", laid_math_bits_deBruijn32tab), ("math/bits.deBruijn64tab", laid_math_bits_deBruijn64tab), ("internal/strconv.uint64pow10", laid_internal_strconv_uint64pow10)] }
def Form2ApartSaid : Prop := form2ApartRow.holds Tryd.pinned (OpenSpec.ofChange form2ApartSpec)

/-- ITS FALSE NEIGHBOUR: 'it returns false'. Refute it at one input. -/
def form2ApartWrong : ChangeSpec := { name := "form2Apart", fn := fun _ => fun
  | [d1, d2] => { results := [.lit (.bool false)], args := [d1, d2] }
  | _ => none }
def Form2ApartWrongFalsely : Prop := form2ApartRow.holds Tryd.pinned (OpenSpec.ofChange form2ApartWrong)

/-- 'mailsacklaw8.Form1Forms': WHATEVER THE INPUT: true; the input reads as it did. -/
def form1FormsSpec : ChangeSpec := { name := "form1Forms", fn := fun _ => fun
  | [d1, d2, d3] => { results := [.lit (.bool true)], args := [d1, d2, d3] }
  | _ => none }
def form1FormsRow : OpenClaim := { program := "ytmkkljbfmdngfaadoor", sum := "714cf54d5fa0482328c7c9ea7f4e84b3864fe735ceb9fbe1f9e5019273fb049e", func := "mailsack/mailsacklaw8.Form1Forms", spec := "form1Forms", inPlace := ["internal/bytealg.IndexByteString", "internal/abi.NoEscape"], named := ["internal/strconv.uint64pow10", "math/bits.deBruijn32tab", "math/bits.deBruijn64tab"], apart := false, laid := [("math/bits.deBruijn32tab", laid_math_bits_deBruijn32tab), ("math/bits.deBruijn64tab", laid_math_bits_deBruijn64tab), ("internal/strconv.uint64pow10", laid_internal_strconv_uint64pow10)] }
def Form1FormsSaid : Prop := form1FormsRow.holds Tryd.pinned (OpenSpec.ofChange form1FormsSpec)

/-- ITS FALSE NEIGHBOUR: 'it returns false'. Refute it at one input. -/
def form1FormsWrong : ChangeSpec := { name := "form1Forms", fn := fun _ => fun
  | [d1, d2, d3] => { results := [.lit (.bool false)], args := [d1, d2, d3] }
  | _ => none }
def Form1FormsWrongFalsely : Prop := form1FormsRow.holds Tryd.pinned (OpenSpec.ofChange form1FormsWrong)

/-- 'mailsacklaw8.Form1Back': WHATEVER THE INPUT: true; the input reads as it did. -/
def form1BackSpec : ChangeSpec := { name := "form1Back", fn := fun _ => fun
  | [d] => { results := [.lit (.bool true)], args := [d] }
  | _ => none }
def form1BackRow : OpenClaim := { program := "ytmkkljbfmdngfaadoor", sum := "714cf54d5fa0482328c7c9ea7f4e84b3864fe735ceb9fbe1f9e5019273fb049e", func := "mailsack/mailsacklaw8.Form1Back", spec := "form1Back", inPlace := ["internal/bytealg.IndexByteString", "internal/abi.NoEscape"], named := ["internal/strconv.uint64pow10", "math/bits.deBruijn32tab", "math/bits.deBruijn64tab"], apart := false, laid := [("math/bits.deBruijn32tab", laid_math_bits_deBruijn32tab), ("math/bits.deBruijn64tab", laid_math_bits_deBruijn64tab), ("internal/strconv.uint64pow10", laid_internal_strconv_uint64pow10)] }
def Form1BackSaid : Prop := form1BackRow.holds Tryd.pinned (OpenSpec.ofChange form1BackSpec)

/-- ITS FALSE NEIGHBOUR: 'it returns false'. Refute it at one input. -/
def form1BackWrong : ChangeSpec := { name := "form1Back", fn := fun _ => fun
  | [d] => { results := [.lit (.bool false)], args := [d] }
  | _ => none }
def Form1BackWrongFalsely : Prop := form1BackRow.holds Tryd.pinned (OpenSpec.ofChange form1BackWrong)

/-- 'mailsacklaw8.Form1Cut': WHATEVER THE INPUT: true; the input reads as it did. -/
def form1CutSpec : ChangeSpec := { name := "form1Cut", fn := fun _ => fun
  | [d1, d2, d3] => { results := [.lit (.bool true)], args := [d1, d2, d3] }
  | _ => none }
def form1CutRow : OpenClaim := { program := "ytmkkljbfmdngfaadoor", sum := "714cf54d5fa0482328c7c9ea7f4e84b3864fe735ceb9fbe1f9e5019273fb049e", func := "mailsack/mailsacklaw8.Form1Cut", spec := "form1Cut", inPlace := ["internal/bytealg.IndexByteString", "internal/abi.NoEscape"], named := ["internal/strconv.uint64pow10", "math/bits.deBruijn32tab", "math/bits.deBruijn64tab"], apart := false, laid := [("math/bits.deBruijn32tab", laid_math_bits_deBruijn32tab), ("math/bits.deBruijn64tab", laid_math_bits_deBruijn64tab), ("internal/strconv.uint64pow10", laid_internal_strconv_uint64pow10)] }
def Form1CutSaid : Prop := form1CutRow.holds Tryd.pinned (OpenSpec.ofChange form1CutSpec)

/-- ITS FALSE NEIGHBOUR: 'it returns false'. Refute it at one input. -/
def form1CutWrong : ChangeSpec := { name := "form1Cut", fn := fun _ => fun
  | [d1, d2, d3] => { results := [.lit (.bool false)], args := [d1, d2, d3] }
  | _ => none }
def Form1CutWrongFalsely : Prop := form1CutRow.holds Tryd.pinned (OpenSpec.ofChange form1CutWrong)

/-- 'mailsacklaw9.Form2Forms': WHATEVER THE INPUT: true; the input reads as it did. -/
def form2FormsSpec : ChangeSpec := { name := "form2Forms", fn := fun _ => fun
  | [d1, d2, d3] => { results := [.lit (.bool true)], args := [d1, d2, d3] }
  | _ => none }
def form2FormsRow : OpenClaim := { program := "ytmkkljbfmdngfaadoor", sum := "714cf54d5fa0482328c7c9ea7f4e84b3864fe735ceb9fbe1f9e5019273fb049e", func := "mailsack/mailsacklaw9.Form2Forms", spec := "form2Forms", inPlace := ["internal/bytealg.IndexByteString", "internal/abi.NoEscape"], named := ["internal/strconv.uint64pow10", "math/bits.deBruijn32tab", "math/bits.deBruijn64tab"], apart := false, laid := [("math/bits.deBruijn32tab", laid_math_bits_deBruijn32tab), ("math/bits.deBruijn64tab", laid_math_bits_deBruijn64tab), ("internal/strconv.uint64pow10", laid_internal_strconv_uint64pow10)] }
def Form2FormsSaid : Prop := form2FormsRow.holds Tryd.pinned (OpenSpec.ofChange form2FormsSpec)

/-- ITS FALSE NEIGHBOUR: 'it returns false'. Refute it at one input. -/
def form2FormsWrong : ChangeSpec := { name := "form2Forms", fn := fun _ => fun
  | [d1, d2, d3] => { results := [.lit (.bool false)], args := [d1, d2, d3] }
  | _ => none }
def Form2FormsWrongFalsely : Prop := form2FormsRow.holds Tryd.pinned (OpenSpec.ofChange form2FormsWrong)

/-- 'mailsacklaw9.Form2Back': WHATEVER THE INPUT: true; the input reads as it did. -/
def form2BackSpec : ChangeSpec := { name := "form2Back", fn := fun _ => fun
  | [d] => { results := [.lit (.bool true)], args := [d] }
  | _ => none }
def form2BackRow : OpenClaim := { program := "ytmkkljbfmdngfaadoor", sum := "714cf54d5fa0482328c7c9ea7f4e84b3864fe735ceb9fbe1f9e5019273fb049e", func := "mailsack/mailsacklaw9.Form2Back", spec := "form2Back", inPlace := ["internal/bytealg.IndexByteString", "internal/abi.NoEscape"], named := ["internal/strconv.uint64pow10", "math/bits.deBruijn32tab", "math/bits.deBruijn64tab"], apart := false, laid := [("math/bits.deBruijn32tab", laid_math_bits_deBruijn32tab), ("math/bits.deBruijn64tab", laid_math_bits_deBruijn64tab), ("internal/strconv.uint64pow10", laid_internal_strconv_uint64pow10)] }
def Form2BackSaid : Prop := form2BackRow.holds Tryd.pinned (OpenSpec.ofChange form2BackSpec)

/-- ITS FALSE NEIGHBOUR: 'it returns false'. Refute it at one input. -/
def form2BackWrong : ChangeSpec := { name := "form2Back", fn := fun _ => fun
  | [d] => { results := [.lit (.bool false)], args := [d] }
  | _ => none }
def Form2BackWrongFalsely : Prop := form2BackRow.holds Tryd.pinned (OpenSpec.ofChange form2BackWrong)

/-- 'mailsacklaw9.Form2Cut': WHATEVER THE INPUT: true; the input reads as it did. -/
def form2CutSpec : ChangeSpec := { name := "form2Cut", fn := fun _ => fun
  | [d1, d2, d3] => { results := [.lit (.bool true)], args := [d1, d2, d3] }
  | _ => none }
def form2CutRow : OpenClaim := { program := "ytmkkljbfmdngfaadoor", sum := "714cf54d5fa0482328c7c9ea7f4e84b3864fe735ceb9fbe1f9e5019273fb049e", func := "mailsack/mailsacklaw9.Form2Cut", spec := "form2Cut", inPlace := ["internal/bytealg.IndexByteString", "internal/abi.NoEscape"], named := ["internal/strconv.uint64pow10", "math/bits.deBruijn32tab", "math/bits.deBruijn64tab"], apart := false, laid := [("math/bits.deBruijn32tab", laid_math_bits_deBruijn32tab), ("math/bits.deBruijn64tab", laid_math_bits_deBruijn64tab), ("internal/strconv.uint64pow10", laid_internal_strconv_uint64pow10)] }
def Form2CutSaid : Prop := form2CutRow.holds Tryd.pinned (OpenSpec.ofChange form2CutSpec)

/-- ITS FALSE NEIGHBOUR: 'it returns false'. Refute it at one input. -/
def form2CutWrong : ChangeSpec := { name := "form2Cut", fn := fun _ => fun
  | [d1, d2, d3] => { results := [.lit (.bool false)], args := [d1, d2, d3] }
  | _ => none }
def Form2CutWrongFalsely : Prop := form2CutRow.holds Tryd.pinned (OpenSpec.ofChange form2CutWrong)

/-- 'mailsacklaw7.RowRises': WHATEVER THE INPUT: true; the input reads as it did. -/
def rowRisesSpec : ChangeSpec := { name := "rowRises", fn := fun _ => fun
  | [d1, d2] => { results := [.lit (.bool true)], args := [d1, d2] }
  | _ => none }
def rowRisesRow : OpenClaim := { program := "ytmkkljbfmdngfaadoor", sum := "714cf54d5fa0482328c7c9ea7f4e84b3864fe735ceb9fbe1f9e5019273fb049e", func := "mailsack/mailsacklaw7.RowRises", spec := "rowRises", inPlace := ["internal/bytealg.IndexByteString"], unfollowed := true, recurses := true, named := ["internal/strconv.uint64pow10", "math/bits.deBruijn32tab", "math/bits.deBruijn64tab"], apart := false, laid := [("math/bits.deBruijn32tab", laid_math_bits_deBruijn32tab), ("math/bits.deBruijn64tab", laid_math_bits_deBruijn64tab), ("internal/strconv.uint64pow10", laid_internal_strconv_uint64pow10)] }
def RowRisesSaid : Prop := rowRisesRow.holds Tryd.pinned (OpenSpec.ofChange rowRisesSpec)

/-- ITS FALSE NEIGHBOUR: 'it returns false'. Refute it at one input. -/
def rowRisesWrong : ChangeSpec := { name := "rowRises", fn := fun _ => fun
  | [d1, d2] => { results := [.lit (.bool false)], args := [d1, d2] }
  | _ => none }
def RowRisesWrongFalsely : Prop := rowRisesRow.holds Tryd.pinned (OpenSpec.ofChange rowRisesWrong)

/-- 'mailsacklaw7.RowOrder': WHATEVER THE INPUT: true; the input reads as it did. -/
def rowOrderSpec : ChangeSpec := { name := "rowOrder", fn := fun _ => fun
  | [d1, d2, d3] => { results := [.lit (.bool true)], args := [d1, d2, d3] }
  | _ => none }
def rowOrderRow : OpenClaim := { program := "ytmkkljbfmdngfaadoor", sum := "714cf54d5fa0482328c7c9ea7f4e84b3864fe735ceb9fbe1f9e5019273fb049e", func := "mailsack/mailsacklaw7.RowOrder", spec := "rowOrder", inPlace := ["internal/bytealg.IndexByteString"], unfollowed := true, recurses := true, named := ["internal/strconv.uint64pow10", "math/bits.deBruijn32tab", "math/bits.deBruijn64tab"], apart := false, laid := [("math/bits.deBruijn32tab", laid_math_bits_deBruijn32tab), ("math/bits.deBruijn64tab", laid_math_bits_deBruijn64tab), ("internal/strconv.uint64pow10", laid_internal_strconv_uint64pow10)] }
def RowOrderSaid : Prop := rowOrderRow.holds Tryd.pinned (OpenSpec.ofChange rowOrderSpec)

/-- ITS FALSE NEIGHBOUR: 'it returns false'. Refute it at one input. -/
def rowOrderWrong : ChangeSpec := { name := "rowOrder", fn := fun _ => fun
  | [d1, d2, d3] => { results := [.lit (.bool false)], args := [d1, d2, d3] }
  | _ => none }
def RowOrderWrongFalsely : Prop := rowOrderRow.holds Tryd.pinned (OpenSpec.ofChange rowOrderWrong)

/-- 'mailsacklaw7.RowKeeps': WHATEVER THE INPUT: true; the input reads as it did. -/
def rowKeepsSpec : ChangeSpec := { name := "rowKeeps", fn := fun _ => fun
  | [d1, d2, d3, d4] => { results := [.lit (.bool true)], args := [d1, d2, d3, d4] }
  | _ => none }
def rowKeepsRow : OpenClaim := { program := "ytmkkljbfmdngfaadoor", sum := "714cf54d5fa0482328c7c9ea7f4e84b3864fe735ceb9fbe1f9e5019273fb049e", func := "mailsack/mailsacklaw7.RowKeeps", spec := "rowKeeps", inPlace := ["internal/bytealg.IndexByteString"], unfollowed := true, recurses := true, named := ["internal/strconv.uint64pow10", "math/bits.deBruijn32tab", "math/bits.deBruijn64tab"], apart := false, laid := [("math/bits.deBruijn32tab", laid_math_bits_deBruijn32tab), ("math/bits.deBruijn64tab", laid_math_bits_deBruijn64tab), ("internal/strconv.uint64pow10", laid_internal_strconv_uint64pow10)] }
def RowKeepsSaid : Prop := rowKeepsRow.holds Tryd.pinned (OpenSpec.ofChange rowKeepsSpec)

/-- ITS FALSE NEIGHBOUR: 'it returns false'. Refute it at one input. -/
def rowKeepsWrong : ChangeSpec := { name := "rowKeeps", fn := fun _ => fun
  | [d1, d2, d3, d4] => { results := [.lit (.bool false)], args := [d1, d2, d3, d4] }
  | _ => none }
def RowKeepsWrongFalsely : Prop := rowKeepsRow.holds Tryd.pinned (OpenSpec.ofChange rowKeepsWrong)

/-- 'mailsacklaw7.RowMakes': WHATEVER THE INPUT: true; the input reads as it did. -/
def rowMakesSpec : ChangeSpec := { name := "rowMakes", fn := fun _ => fun
  | [d1, d2, d3, d4, d5, d6] => { results := [.lit (.bool true)], args := [d1, d2, d3, d4, d5, d6] }
  | _ => none }
def rowMakesRow : OpenClaim := { program := "ytmkkljbfmdngfaadoor", sum := "714cf54d5fa0482328c7c9ea7f4e84b3864fe735ceb9fbe1f9e5019273fb049e", func := "mailsack/mailsacklaw7.RowMakes", spec := "rowMakes", inPlace := ["internal/bytealg.IndexByteString"], unfollowed := true, recurses := true, named := ["internal/strconv.uint64pow10", "math/bits.deBruijn32tab", "math/bits.deBruijn64tab"], apart := false, laid := [("math/bits.deBruijn32tab", laid_math_bits_deBruijn32tab), ("math/bits.deBruijn64tab", laid_math_bits_deBruijn64tab), ("internal/strconv.uint64pow10", laid_internal_strconv_uint64pow10)] }
def RowMakesSaid : Prop := rowMakesRow.holds Tryd.pinned (OpenSpec.ofChange rowMakesSpec)

/-- ITS FALSE NEIGHBOUR: 'it returns false'. Refute it at one input. -/
def rowMakesWrong : ChangeSpec := { name := "rowMakes", fn := fun _ => fun
  | [d1, d2, d3, d4, d5, d6] => { results := [.lit (.bool false)], args := [d1, d2, d3, d4, d5, d6] }
  | _ => none }
def RowMakesWrongFalsely : Prop := rowMakesRow.holds Tryd.pinned (OpenSpec.ofChange rowMakesWrong)

/- THE SECOND FORM. 'bulk': how many values and letters a reading holds, each counted each time it is reached (what is shared counts as often as it is met; a slice's spare places count too). A statement '..UptoSaid' is the law's where the arguments, and the package variables that the reading takes, are together of bulk at most 1048576: NARROWER than '..Said'. Prove '..Said' where nothing that the law and all that it calls make is longer than what came in: it says more and counts as full. Else prove '..UptoSaid'. A law counts once. -/
mutual
def uptoBulk {H : Type} : DataW H → Nat
  | .lit (.string bytes) => bytes.length + 1
  | .lit _ => 1
  | .nil => 1
  | .ptr d => uptoBulk d + 1
  | .slice elems spare => uptoBulkAll elems + uptoBulkAll spare + 1
  | .agg parts => uptoBulkAll parts + 1
  | .iface _ d => uptoBulk d + 1
  | .map entries => uptoBulkEntries entries + 1
  | .held _ => 1
def uptoBulkAll {H : Type} : List (DataW H) → Nat
  | [] => 0
  | d :: r => uptoBulk d + uptoBulkAll r
def uptoBulkEntries {H : Type} : List (Lit × DataW H) → Nat
  | [] => 0
  | x :: r => uptoBulkEntry x + uptoBulkEntries r
def uptoBulkEntry {H : Type} : Lit × DataW H → Nat
  | (.string bytes, d) => bytes.length + uptoBulk d + 1
  | (_, d) => uptoBulk d + 1
 end
def uptoSmall : (H : Type) → List (DataW H) → Bool := fun _ ds => decide (uptoBulkAll ds ≤ 1048576)
def OpenSpec.upto (s : _root_.Go.ChangeSpec) : _root_.Go.OpenSpec := { _root_.Go.OpenSpec.ofChange s with cond := some uptoSmall }

/-- 'mailsacklaw8.Form1Apart', WHERE WHAT IT READS IS OF BULK AT MOST 1048576: true; the input reads as it did. -/
def form1ApartUptoRow : OpenClaim := { program := "ytmkkljbfmdngfaadoor", sum := "714cf54d5fa0482328c7c9ea7f4e84b3864fe735ceb9fbe1f9e5019273fb049e", func := "mailsack/mailsacklaw8.Form1Apart", spec := "form1Apart", inPlace := ["internal/bytealg.IndexByteString"], named := ["internal/strconv.uint64pow10", "math/bits.deBruijn32tab", "math/bits.deBruijn64tab"], apart := false, laid := [("math/bits.deBruijn32tab", laid_math_bits_deBruijn32tab), ("math/bits.deBruijn64tab", laid_math_bits_deBruijn64tab), ("internal/strconv.uint64pow10", laid_internal_strconv_uint64pow10)], narrowed := true }
def Form1ApartUptoSaid : Prop := form1ApartUptoRow.holds Tryd.pinned (OpenSpec.upto form1ApartSpec)

/-- 'mailsacklaw9.Form2Apart', WHERE WHAT IT READS IS OF BULK AT MOST 1048576: true; the input reads as it did. -/
def form2ApartUptoRow : OpenClaim := { program := "ytmkkljbfmdngfaadoor", sum := "714cf54d5fa0482328c7c9ea7f4e84b3864fe735ceb9fbe1f9e5019273fb049e", func := "mailsack/mailsacklaw9.Form2Apart", spec := "form2Apart", inPlace := ["internal/bytealg.IndexByteString"], named := ["internal/strconv.uint64pow10", "math/bits.deBruijn32tab", "math/bits.deBruijn64tab"], apart := false, laid := [("math/bits.deBruijn32tab", laid_math_bits_deBruijn32tab), ("math/bits.deBruijn64tab", laid_math_bits_deBruijn64tab), ("internal/strconv.uint64pow10", laid_internal_strconv_uint64pow10)], narrowed := true }
def Form2ApartUptoSaid : Prop := form2ApartUptoRow.holds Tryd.pinned (OpenSpec.upto form2ApartSpec)

/-- 'mailsacklaw8.Form1Forms', WHERE WHAT IT READS IS OF BULK AT MOST 1048576: true; the input reads as it did. -/
def form1FormsUptoRow : OpenClaim := { program := "ytmkkljbfmdngfaadoor", sum := "714cf54d5fa0482328c7c9ea7f4e84b3864fe735ceb9fbe1f9e5019273fb049e", func := "mailsack/mailsacklaw8.Form1Forms", spec := "form1Forms", inPlace := ["internal/bytealg.IndexByteString", "internal/abi.NoEscape"], named := ["internal/strconv.uint64pow10", "math/bits.deBruijn32tab", "math/bits.deBruijn64tab"], apart := false, laid := [("math/bits.deBruijn32tab", laid_math_bits_deBruijn32tab), ("math/bits.deBruijn64tab", laid_math_bits_deBruijn64tab), ("internal/strconv.uint64pow10", laid_internal_strconv_uint64pow10)], narrowed := true }
def Form1FormsUptoSaid : Prop := form1FormsUptoRow.holds Tryd.pinned (OpenSpec.upto form1FormsSpec)

/-- 'mailsacklaw8.Form1Back', WHERE WHAT IT READS IS OF BULK AT MOST 1048576: true; the input reads as it did. -/
def form1BackUptoRow : OpenClaim := { program := "ytmkkljbfmdngfaadoor", sum := "714cf54d5fa0482328c7c9ea7f4e84b3864fe735ceb9fbe1f9e5019273fb049e", func := "mailsack/mailsacklaw8.Form1Back", spec := "form1Back", inPlace := ["internal/bytealg.IndexByteString", "internal/abi.NoEscape"], named := ["internal/strconv.uint64pow10", "math/bits.deBruijn32tab", "math/bits.deBruijn64tab"], apart := false, laid := [("math/bits.deBruijn32tab", laid_math_bits_deBruijn32tab), ("math/bits.deBruijn64tab", laid_math_bits_deBruijn64tab), ("internal/strconv.uint64pow10", laid_internal_strconv_uint64pow10)], narrowed := true }
def Form1BackUptoSaid : Prop := form1BackUptoRow.holds Tryd.pinned (OpenSpec.upto form1BackSpec)

/-- 'mailsacklaw8.Form1Cut', WHERE WHAT IT READS IS OF BULK AT MOST 1048576: true; the input reads as it did. -/
def form1CutUptoRow : OpenClaim := { program := "ytmkkljbfmdngfaadoor", sum := "714cf54d5fa0482328c7c9ea7f4e84b3864fe735ceb9fbe1f9e5019273fb049e", func := "mailsack/mailsacklaw8.Form1Cut", spec := "form1Cut", inPlace := ["internal/bytealg.IndexByteString", "internal/abi.NoEscape"], named := ["internal/strconv.uint64pow10", "math/bits.deBruijn32tab", "math/bits.deBruijn64tab"], apart := false, laid := [("math/bits.deBruijn32tab", laid_math_bits_deBruijn32tab), ("math/bits.deBruijn64tab", laid_math_bits_deBruijn64tab), ("internal/strconv.uint64pow10", laid_internal_strconv_uint64pow10)], narrowed := true }
def Form1CutUptoSaid : Prop := form1CutUptoRow.holds Tryd.pinned (OpenSpec.upto form1CutSpec)

/-- 'mailsacklaw9.Form2Forms', WHERE WHAT IT READS IS OF BULK AT MOST 1048576: true; the input reads as it did. -/
def form2FormsUptoRow : OpenClaim := { program := "ytmkkljbfmdngfaadoor", sum := "714cf54d5fa0482328c7c9ea7f4e84b3864fe735ceb9fbe1f9e5019273fb049e", func := "mailsack/mailsacklaw9.Form2Forms", spec := "form2Forms", inPlace := ["internal/bytealg.IndexByteString", "internal/abi.NoEscape"], named := ["internal/strconv.uint64pow10", "math/bits.deBruijn32tab", "math/bits.deBruijn64tab"], apart := false, laid := [("math/bits.deBruijn32tab", laid_math_bits_deBruijn32tab), ("math/bits.deBruijn64tab", laid_math_bits_deBruijn64tab), ("internal/strconv.uint64pow10", laid_internal_strconv_uint64pow10)], narrowed := true }
def Form2FormsUptoSaid : Prop := form2FormsUptoRow.holds Tryd.pinned (OpenSpec.upto form2FormsSpec)

/-- 'mailsacklaw9.Form2Back', WHERE WHAT IT READS IS OF BULK AT MOST 1048576: true; the input reads as it did. -/
def form2BackUptoRow : OpenClaim := { program := "ytmkkljbfmdngfaadoor", sum := "714cf54d5fa0482328c7c9ea7f4e84b3864fe735ceb9fbe1f9e5019273fb049e", func := "mailsack/mailsacklaw9.Form2Back", spec := "form2Back", inPlace := ["internal/bytealg.IndexByteString", "internal/abi.NoEscape"], named := ["internal/strconv.uint64pow10", "math/bits.deBruijn32tab", "math/bits.deBruijn64tab"], apart := false, laid := [("math/bits.deBruijn32tab", laid_math_bits_deBruijn32tab), ("math/bits.deBruijn64tab", laid_math_bits_deBruijn64tab), ("internal/strconv.uint64pow10", laid_internal_strconv_uint64pow10)], narrowed := true }
def Form2BackUptoSaid : Prop := form2BackUptoRow.holds Tryd.pinned (OpenSpec.upto form2BackSpec)

/-- 'mailsacklaw9.Form2Cut', WHERE WHAT IT READS IS OF BULK AT MOST 1048576: true; the input reads as it did. -/
def form2CutUptoRow : OpenClaim := { program := "ytmkkljbfmdngfaadoor", sum := "714cf54d5fa0482328c7c9ea7f4e84b3864fe735ceb9fbe1f9e5019273fb049e", func := "mailsack/mailsacklaw9.Form2Cut", spec := "form2Cut", inPlace := ["internal/bytealg.IndexByteString", "internal/abi.NoEscape"], named := ["internal/strconv.uint64pow10", "math/bits.deBruijn32tab", "math/bits.deBruijn64tab"], apart := false, laid := [("math/bits.deBruijn32tab", laid_math_bits_deBruijn32tab), ("math/bits.deBruijn64tab", laid_math_bits_deBruijn64tab), ("internal/strconv.uint64pow10", laid_internal_strconv_uint64pow10)], narrowed := true }
def Form2CutUptoSaid : Prop := form2CutUptoRow.holds Tryd.pinned (OpenSpec.upto form2CutSpec)

/-- 'mailsacklaw7.RowRises', WHERE WHAT IT READS IS OF BULK AT MOST 1048576: true; the input reads as it did. -/
def rowRisesUptoRow : OpenClaim := { program := "ytmkkljbfmdngfaadoor", sum := "714cf54d5fa0482328c7c9ea7f4e84b3864fe735ceb9fbe1f9e5019273fb049e", func := "mailsack/mailsacklaw7.RowRises", spec := "rowRises", inPlace := ["internal/bytealg.IndexByteString"], unfollowed := true, recurses := true, named := ["internal/strconv.uint64pow10", "math/bits.deBruijn32tab", "math/bits.deBruijn64tab"], apart := false, laid := [("math/bits.deBruijn32tab", laid_math_bits_deBruijn32tab), ("math/bits.deBruijn64tab", laid_math_bits_deBruijn64tab), ("internal/strconv.uint64pow10", laid_internal_strconv_uint64pow10)], narrowed := true }
def RowRisesUptoSaid : Prop := rowRisesUptoRow.holds Tryd.pinned (OpenSpec.upto rowRisesSpec)

/-- 'mailsacklaw7.RowOrder', WHERE WHAT IT READS IS OF BULK AT MOST 1048576: true; the input reads as it did. -/
def rowOrderUptoRow : OpenClaim := { program := "ytmkkljbfmdngfaadoor", sum := "714cf54d5fa0482328c7c9ea7f4e84b3864fe735ceb9fbe1f9e5019273fb049e", func := "mailsack/mailsacklaw7.RowOrder", spec := "rowOrder", inPlace := ["internal/bytealg.IndexByteString"], unfollowed := true, recurses := true, named := ["internal/strconv.uint64pow10", "math/bits.deBruijn32tab", "math/bits.deBruijn64tab"], apart := false, laid := [("math/bits.deBruijn32tab", laid_math_bits_deBruijn32tab), ("math/bits.deBruijn64tab", laid_math_bits_deBruijn64tab), ("internal/strconv.uint64pow10", laid_internal_strconv_uint64pow10)], narrowed := true }
def RowOrderUptoSaid : Prop := rowOrderUptoRow.holds Tryd.pinned (OpenSpec.upto rowOrderSpec)

/-- 'mailsacklaw7.RowKeeps', WHERE WHAT IT READS IS OF BULK AT MOST 1048576: true; the input reads as it did. -/
def rowKeepsUptoRow : OpenClaim := { program := "ytmkkljbfmdngfaadoor", sum := "714cf54d5fa0482328c7c9ea7f4e84b3864fe735ceb9fbe1f9e5019273fb049e", func := "mailsack/mailsacklaw7.RowKeeps", spec := "rowKeeps", inPlace := ["internal/bytealg.IndexByteString"], unfollowed := true, recurses := true, named := ["internal/strconv.uint64pow10", "math/bits.deBruijn32tab", "math/bits.deBruijn64tab"], apart := false, laid := [("math/bits.deBruijn32tab", laid_math_bits_deBruijn32tab), ("math/bits.deBruijn64tab", laid_math_bits_deBruijn64tab), ("internal/strconv.uint64pow10", laid_internal_strconv_uint64pow10)], narrowed := true }
def RowKeepsUptoSaid : Prop := rowKeepsUptoRow.holds Tryd.pinned (OpenSpec.upto rowKeepsSpec)

/-- 'mailsacklaw7.RowMakes', WHERE WHAT IT READS IS OF BULK AT MOST 1048576: true; the input reads as it did. -/
def rowMakesUptoRow : OpenClaim := { program := "ytmkkljbfmdngfaadoor", sum := "714cf54d5fa0482328c7c9ea7f4e84b3864fe735ceb9fbe1f9e5019273fb049e", func := "mailsack/mailsacklaw7.RowMakes", spec := "rowMakes", inPlace := ["internal/bytealg.IndexByteString"], unfollowed := true, recurses := true, named := ["internal/strconv.uint64pow10", "math/bits.deBruijn32tab", "math/bits.deBruijn64tab"], apart := false, laid := [("math/bits.deBruijn32tab", laid_math_bits_deBruijn32tab), ("math/bits.deBruijn64tab", laid_math_bits_deBruijn64tab), ("internal/strconv.uint64pow10", laid_internal_strconv_uint64pow10)], narrowed := true }
def RowMakesUptoSaid : Prop := rowMakesUptoRow.holds Tryd.pinned (OpenSpec.upto rowMakesSpec)

end Rows
end Go.Proofs.YtmkkljbfmdngfaaDoor
