/-
  NARROWER THAN 'FOR EVERY INPUT', by the rows' own cells (each row's printed sentence says how): LineLines: laid · LineWords: laid · LineNumbers: laid · LineJoins: laid · RankWrites: laid · RankLines: laid · RankLong: laid · MergeWrites: laid · MergeParts: laid · MergeOne: laid.
  DERIVED. THE GIVEN ROWS OF THIS SEAT. 10 by the template 'for every input the law returns true; each argument reads behind the call as it read before'; 0 by the template 'total and deterministic' (their statements: YtefhifmilmedhaaDoorTotals.lean).
  GIVEN WITH THE SEED: the statements are not yours to turn. If you find one false, say at which input.
  Laid BY PROGRAM, IN A SANDBOX (cutbox-rows.mjs): the forced cells as the released guide's own fill.sh prints them over the translation 5d9226d4b5a31073… (all of the seat's roots in one cut). By AI agents, Wed Nov 11 2026. No macro, syntax, notation, axiom, sorry.
-/
import Derived.Test.YtefhifmilmedhaaDoorChecked
import GoSem.Claim
import GoSem.ClaimJoined
import GoSem.ClaimMapViews
import Derived.JoinedTies
import Derived.KernelRfl
namespace Go.Proofs.YtefhifmilmedhaaDoor
/- THE CELL 'sum', in the pinned program and in every row, IS THE sha256 OF THE DUMP (.gsa) THAT YtefhifmilmedhaaDoorProg.lean LOADS. Nothing in Lean hashes anything: it is a label: what it is worth is what the hold of that sum in a sandbox is worth. -/
noncomputable def Tryd.pinned : Pinned := { name := "ytefhifmilmedhaadoor", sum := "5d9226d4b5a31073b05c8b27d4dd69cf5ddccf37a59e7aa7c40c02d72de1b9a2", checked := Tryd.checked }
namespace Rows
def none {H : Type} : Left H := { results := [], args := [] }

/- WHAT THE LISTED PACKAGE-LEVEL VARIABLES READ AS WHEN THE CALL BEGINS. Each datum BY PROGRAM (the guide's laid-datum.mjs) off the statement by which the dump's own 'gosem.cut.vars' lays the variable. In a bare row this is a premise. The card (YtefhifmilmedhaaDoorCards.lean) ties it to the program's text. -/
def laid_math_bits_deBruijn32tab {H : Type} : DataW H := .agg [.lit (.int .u8 0), .lit (.int .u8 1), .lit (.int .u8 28), .lit (.int .u8 2), .lit (.int .u8 29), .lit (.int .u8 14), .lit (.int .u8 24), .lit (.int .u8 3), .lit (.int .u8 30), .lit (.int .u8 22), .lit (.int .u8 20), .lit (.int .u8 15), .lit (.int .u8 25), .lit (.int .u8 17), .lit (.int .u8 4), .lit (.int .u8 8), .lit (.int .u8 31), .lit (.int .u8 27), .lit (.int .u8 13), .lit (.int .u8 23), .lit (.int .u8 21), .lit (.int .u8 19), .lit (.int .u8 16), .lit (.int .u8 7), .lit (.int .u8 26), .lit (.int .u8 12), .lit (.int .u8 18), .lit (.int .u8 6), .lit (.int .u8 11), .lit (.int .u8 5), .lit (.int .u8 10), .lit (.int .u8 9)]
def laid_math_bits_deBruijn64tab {H : Type} : DataW H := .agg [.lit (.int .u8 0), .lit (.int .u8 1), .lit (.int .u8 56), .lit (.int .u8 2), .lit (.int .u8 57), .lit (.int .u8 49), .lit (.int .u8 28), .lit (.int .u8 3), .lit (.int .u8 61), .lit (.int .u8 58), .lit (.int .u8 42), .lit (.int .u8 50), .lit (.int .u8 38), .lit (.int .u8 29), .lit (.int .u8 17), .lit (.int .u8 4), .lit (.int .u8 62), .lit (.int .u8 47), .lit (.int .u8 59), .lit (.int .u8 36), .lit (.int .u8 45), .lit (.int .u8 43), .lit (.int .u8 51), .lit (.int .u8 22), .lit (.int .u8 53), .lit (.int .u8 39), .lit (.int .u8 33), .lit (.int .u8 30), .lit (.int .u8 24), .lit (.int .u8 18), .lit (.int .u8 12), .lit (.int .u8 5), .lit (.int .u8 63), .lit (.int .u8 55), .lit (.int .u8 48), .lit (.int .u8 27), .lit (.int .u8 60), .lit (.int .u8 41), .lit (.int .u8 37), .lit (.int .u8 16), .lit (.int .u8 46), .lit (.int .u8 35), .lit (.int .u8 44), .lit (.int .u8 21), .lit (.int .u8 52), .lit (.int .u8 32), .lit (.int .u8 23), .lit (.int .u8 11), .lit (.int .u8 54), .lit (.int .u8 26), .lit (.int .u8 40), .lit (.int .u8 15), .lit (.int .u8 34), .lit (.int .u8 20), .lit (.int .u8 31), .lit (.int .u8 10), .lit (.int .u8 25), .lit (.int .u8 14), .lit (.int .u8 19), .lit (.int .u8 9), .lit (.int .u8 13), .lit (.int .u8 8), .lit (.int .u8 7), .lit (.int .u8 6)]
def laid_internal_strconv_uint64pow10 {H : Type} : DataW H := .agg [.lit (.int .u64 1), .lit (.int .u64 10), .lit (.int .u64 100), .lit (.int .u64 1000), .lit (.int .u64 10000), .lit (.int .u64 100000), .lit (.int .u64 1000000), .lit (.int .u64 10000000), .lit (.int .u64 100000000), .lit (.int .u64 1000000000), .lit (.int .u64 10000000000), .lit (.int .u64 100000000000), .lit (.int .u64 1000000000000), .lit (.int .u64 10000000000000), .lit (.int .u64 100000000000000), .lit (.int .u64 1000000000000000), .lit (.int .u64 10000000000000000), .lit (.int .u64 100000000000000000), .lit (.int .u64 1000000000000000000), .lit (.int .u64 10000000000000000000)]
def laid_bytes_ErrTooLarge {H : Type} : DataW H := .iface "*errors.errorString" (.ptr (.agg [.lit (.string [98, 121, 116, 101, 115, 46, 66, 117, 102, 102, 101, 114, 58, 32, 116, 111, 111, 32, 108, 97, 114, 103, 101])]))

/-- 'footbridgelaw06.LineLines': WHATEVER THE INPUT: true; the input reads as it did. -/
def lineLinesSpec : ChangeSpec := { name := "lineLines", fn := fun _ => fun
  | [d] => { results := [.lit (.bool true)], args := [d] }
  | _ => none }
def lineLinesRow : OpenClaim := { program := "ytefhifmilmedhaadoor", sum := "5d9226d4b5a31073b05c8b27d4dd69cf5ddccf37a59e7aa7c40c02d72de1b9a2", func := "footbridge/footbridgelaw06.LineLines", spec := "lineLines", unfollowed := true, recurses := true, named := ["internal/strconv.uint64pow10", "math/bits.deBruijn32tab", "math/bits.deBruijn64tab"], apart := false, laid := [("math/bits.deBruijn32tab", laid_math_bits_deBruijn32tab), ("math/bits.deBruijn64tab", laid_math_bits_deBruijn64tab), ("internal/strconv.uint64pow10", laid_internal_strconv_uint64pow10)] }
def LineLinesSaid : Prop := lineLinesRow.holds Tryd.pinned (OpenSpec.ofChange lineLinesSpec)

/-- ITS FALSE NEIGHBOUR: 'it returns false'. Refute it at one input. -/
def lineLinesWrong : ChangeSpec := { name := "lineLines", fn := fun _ => fun
  | [d] => { results := [.lit (.bool false)], args := [d] }
  | _ => none }
def LineLinesWrongFalsely : Prop := lineLinesRow.holds Tryd.pinned (OpenSpec.ofChange lineLinesWrong)

/-- 'footbridgelaw06.LineWords': WHATEVER THE INPUT: true; the input reads as it did. -/
def lineWordsSpec : ChangeSpec := { name := "lineWords", fn := fun _ => fun
  | [d] => { results := [.lit (.bool true)], args := [d] }
  | _ => none }
def lineWordsRow : OpenClaim := { program := "ytefhifmilmedhaadoor", sum := "5d9226d4b5a31073b05c8b27d4dd69cf5ddccf37a59e7aa7c40c02d72de1b9a2", func := "footbridge/footbridgelaw06.LineWords", spec := "lineWords", unfollowed := true, recurses := true, named := ["internal/strconv.uint64pow10", "math/bits.deBruijn32tab", "math/bits.deBruijn64tab"], apart := false, laid := [("math/bits.deBruijn32tab", laid_math_bits_deBruijn32tab), ("math/bits.deBruijn64tab", laid_math_bits_deBruijn64tab), ("internal/strconv.uint64pow10", laid_internal_strconv_uint64pow10)] }
def LineWordsSaid : Prop := lineWordsRow.holds Tryd.pinned (OpenSpec.ofChange lineWordsSpec)

/-- ITS FALSE NEIGHBOUR: 'it returns false'. Refute it at one input. -/
def lineWordsWrong : ChangeSpec := { name := "lineWords", fn := fun _ => fun
  | [d] => { results := [.lit (.bool false)], args := [d] }
  | _ => none }
def LineWordsWrongFalsely : Prop := lineWordsRow.holds Tryd.pinned (OpenSpec.ofChange lineWordsWrong)

/-- 'footbridgelaw06.LineNumbers': WHATEVER THE INPUT: true; the input reads as it did. -/
def lineNumbersSpec : ChangeSpec := { name := "lineNumbers", fn := fun _ => fun
  | [d1, d2] => { results := [.lit (.bool true)], args := [d1, d2] }
  | _ => none }
def lineNumbersRow : OpenClaim := { program := "ytefhifmilmedhaadoor", sum := "5d9226d4b5a31073b05c8b27d4dd69cf5ddccf37a59e7aa7c40c02d72de1b9a2", func := "footbridge/footbridgelaw06.LineNumbers", spec := "lineNumbers", unfollowed := true, recurses := true, named := ["internal/strconv.uint64pow10", "math/bits.deBruijn32tab", "math/bits.deBruijn64tab"], apart := false, laid := [("math/bits.deBruijn32tab", laid_math_bits_deBruijn32tab), ("math/bits.deBruijn64tab", laid_math_bits_deBruijn64tab), ("internal/strconv.uint64pow10", laid_internal_strconv_uint64pow10)] }
def LineNumbersSaid : Prop := lineNumbersRow.holds Tryd.pinned (OpenSpec.ofChange lineNumbersSpec)

/-- ITS FALSE NEIGHBOUR: 'it returns false'. Refute it at one input. -/
def lineNumbersWrong : ChangeSpec := { name := "lineNumbers", fn := fun _ => fun
  | [d1, d2] => { results := [.lit (.bool false)], args := [d1, d2] }
  | _ => none }
def LineNumbersWrongFalsely : Prop := lineNumbersRow.holds Tryd.pinned (OpenSpec.ofChange lineNumbersWrong)

/-- 'footbridgelaw06.LineJoins': WHATEVER THE INPUT: true; the input reads as it did. -/
def lineJoinsSpec : ChangeSpec := { name := "lineJoins", fn := fun _ => fun
  | [d1, d2] => { results := [.lit (.bool true)], args := [d1, d2] }
  | _ => none }
def lineJoinsRow : OpenClaim := { program := "ytefhifmilmedhaadoor", sum := "5d9226d4b5a31073b05c8b27d4dd69cf5ddccf37a59e7aa7c40c02d72de1b9a2", func := "footbridge/footbridgelaw06.LineJoins", spec := "lineJoins", unfollowed := true, recurses := true, named := ["internal/strconv.uint64pow10", "math/bits.deBruijn32tab", "math/bits.deBruijn64tab"], apart := false, laid := [("math/bits.deBruijn32tab", laid_math_bits_deBruijn32tab), ("math/bits.deBruijn64tab", laid_math_bits_deBruijn64tab), ("internal/strconv.uint64pow10", laid_internal_strconv_uint64pow10)] }
def LineJoinsSaid : Prop := lineJoinsRow.holds Tryd.pinned (OpenSpec.ofChange lineJoinsSpec)

/-- ITS FALSE NEIGHBOUR: 'it returns false'. Refute it at one input. -/
def lineJoinsWrong : ChangeSpec := { name := "lineJoins", fn := fun _ => fun
  | [d1, d2] => { results := [.lit (.bool false)], args := [d1, d2] }
  | _ => none }
def LineJoinsWrongFalsely : Prop := lineJoinsRow.holds Tryd.pinned (OpenSpec.ofChange lineJoinsWrong)

/-- 'footbridgelaw07.RankWrites': WHATEVER THE INPUT: true; the input reads as it did. -/
def rankWritesSpec : ChangeSpec := { name := "rankWrites", fn := fun _ => fun
  | [d] => { results := [.lit (.bool true)], args := [d] }
  | _ => none }
def rankWritesRow : OpenClaim := { program := "ytefhifmilmedhaadoor", sum := "5d9226d4b5a31073b05c8b27d4dd69cf5ddccf37a59e7aa7c40c02d72de1b9a2", func := "footbridge/footbridgelaw07.RankWrites", spec := "rankWrites", inPlace := ["internal/bytealg.IndexByteString", "internal/abi.NoEscape"], unfollowed := true, recurses := true, named := ["bytes.ErrTooLarge", "internal/strconv.uint64pow10", "math/bits.deBruijn32tab", "math/bits.deBruijn64tab"], apart := false, laid := [("math/bits.deBruijn32tab", laid_math_bits_deBruijn32tab), ("math/bits.deBruijn64tab", laid_math_bits_deBruijn64tab), ("internal/strconv.uint64pow10", laid_internal_strconv_uint64pow10), ("bytes.ErrTooLarge", laid_bytes_ErrTooLarge)] }
def RankWritesSaid : Prop := rankWritesRow.holds Tryd.pinned (OpenSpec.ofChange rankWritesSpec)

/-- ITS FALSE NEIGHBOUR: 'it returns false'. Refute it at one input. -/
def rankWritesWrong : ChangeSpec := { name := "rankWrites", fn := fun _ => fun
  | [d] => { results := [.lit (.bool false)], args := [d] }
  | _ => none }
def RankWritesWrongFalsely : Prop := rankWritesRow.holds Tryd.pinned (OpenSpec.ofChange rankWritesWrong)

/-- 'footbridgelaw07.RankLines': WHATEVER THE INPUT: true; the input reads as it did. -/
def rankLinesSpec : ChangeSpec := { name := "rankLines", fn := fun _ => fun
  | [d1, d2, d3] => { results := [.lit (.bool true)], args := [d1, d2, d3] }
  | _ => none }
def rankLinesRow : OpenClaim := { program := "ytefhifmilmedhaadoor", sum := "5d9226d4b5a31073b05c8b27d4dd69cf5ddccf37a59e7aa7c40c02d72de1b9a2", func := "footbridge/footbridgelaw07.RankLines", spec := "rankLines", inPlace := ["internal/bytealg.IndexByteString", "internal/abi.NoEscape"], unfollowed := true, recurses := true, named := ["bytes.ErrTooLarge", "internal/strconv.uint64pow10", "math/bits.deBruijn32tab", "math/bits.deBruijn64tab"], apart := false, laid := [("math/bits.deBruijn32tab", laid_math_bits_deBruijn32tab), ("math/bits.deBruijn64tab", laid_math_bits_deBruijn64tab), ("internal/strconv.uint64pow10", laid_internal_strconv_uint64pow10), ("bytes.ErrTooLarge", laid_bytes_ErrTooLarge)] }
def RankLinesSaid : Prop := rankLinesRow.holds Tryd.pinned (OpenSpec.ofChange rankLinesSpec)

/-- ITS FALSE NEIGHBOUR: 'it returns false'. Refute it at one input. -/
def rankLinesWrong : ChangeSpec := { name := "rankLines", fn := fun _ => fun
  | [d1, d2, d3] => { results := [.lit (.bool false)], args := [d1, d2, d3] }
  | _ => none }
def RankLinesWrongFalsely : Prop := rankLinesRow.holds Tryd.pinned (OpenSpec.ofChange rankLinesWrong)

/-- 'footbridgelaw07.RankLong': WHATEVER THE INPUT: true; the input reads as it did. -/
def rankLongSpec : ChangeSpec := { name := "rankLong", fn := fun _ => fun
  | [d1, d2, d3] => { results := [.lit (.bool true)], args := [d1, d2, d3] }
  | _ => none }
def rankLongRow : OpenClaim := { program := "ytefhifmilmedhaadoor", sum := "5d9226d4b5a31073b05c8b27d4dd69cf5ddccf37a59e7aa7c40c02d72de1b9a2", func := "footbridge/footbridgelaw07.RankLong", spec := "rankLong", inPlace := ["internal/bytealg.IndexByteString", "internal/abi.NoEscape"], unfollowed := true, recurses := true, named := ["bytes.ErrTooLarge", "internal/strconv.uint64pow10", "math/bits.deBruijn32tab", "math/bits.deBruijn64tab"], apart := false, laid := [("math/bits.deBruijn32tab", laid_math_bits_deBruijn32tab), ("math/bits.deBruijn64tab", laid_math_bits_deBruijn64tab), ("internal/strconv.uint64pow10", laid_internal_strconv_uint64pow10), ("bytes.ErrTooLarge", laid_bytes_ErrTooLarge)] }
def RankLongSaid : Prop := rankLongRow.holds Tryd.pinned (OpenSpec.ofChange rankLongSpec)

/-- ITS FALSE NEIGHBOUR: 'it returns false'. Refute it at one input. -/
def rankLongWrong : ChangeSpec := { name := "rankLong", fn := fun _ => fun
  | [d1, d2, d3] => { results := [.lit (.bool false)], args := [d1, d2, d3] }
  | _ => none }
def RankLongWrongFalsely : Prop := rankLongRow.holds Tryd.pinned (OpenSpec.ofChange rankLongWrong)

/-- 'footbridgelaw08.MergeWrites': WHATEVER THE INPUT: true; the input reads as it did. -/
def mergeWritesSpec : ChangeSpec := { name := "mergeWrites", fn := fun _ => fun
  | [d] => { results := [.lit (.bool true)], args := [d] }
  | _ => none }
def mergeWritesRow : OpenClaim := { program := "ytefhifmilmedhaadoor", sum := "5d9226d4b5a31073b05c8b27d4dd69cf5ddccf37a59e7aa7c40c02d72de1b9a2", func := "footbridge/footbridgelaw08.MergeWrites", spec := "mergeWrites", inPlace := ["internal/abi.NoEscape"], unfollowed := true, recurses := true, named := ["bytes.ErrTooLarge", "internal/strconv.uint64pow10", "math/bits.deBruijn32tab", "math/bits.deBruijn64tab"], apart := false, laid := [("math/bits.deBruijn32tab", laid_math_bits_deBruijn32tab), ("math/bits.deBruijn64tab", laid_math_bits_deBruijn64tab), ("internal/strconv.uint64pow10", laid_internal_strconv_uint64pow10), ("bytes.ErrTooLarge", laid_bytes_ErrTooLarge)] }
def MergeWritesSaid : Prop := mergeWritesRow.holds Tryd.pinned (OpenSpec.ofChange mergeWritesSpec)

/-- ITS FALSE NEIGHBOUR: 'it returns false'. Refute it at one input. -/
def mergeWritesWrong : ChangeSpec := { name := "mergeWrites", fn := fun _ => fun
  | [d] => { results := [.lit (.bool false)], args := [d] }
  | _ => none }
def MergeWritesWrongFalsely : Prop := mergeWritesRow.holds Tryd.pinned (OpenSpec.ofChange mergeWritesWrong)

/-- 'footbridgelaw08.MergeParts': WHATEVER THE INPUT: true; the input reads as it did. -/
def mergePartsSpec : ChangeSpec := { name := "mergeParts", fn := fun _ => fun
  | [d1, d2] => { results := [.lit (.bool true)], args := [d1, d2] }
  | _ => none }
def mergePartsRow : OpenClaim := { program := "ytefhifmilmedhaadoor", sum := "5d9226d4b5a31073b05c8b27d4dd69cf5ddccf37a59e7aa7c40c02d72de1b9a2", func := "footbridge/footbridgelaw08.MergeParts", spec := "mergeParts", inPlace := ["internal/abi.NoEscape"], unfollowed := true, recurses := true, named := ["bytes.ErrTooLarge", "internal/strconv.uint64pow10", "math/bits.deBruijn32tab", "math/bits.deBruijn64tab"], apart := false, laid := [("math/bits.deBruijn32tab", laid_math_bits_deBruijn32tab), ("math/bits.deBruijn64tab", laid_math_bits_deBruijn64tab), ("internal/strconv.uint64pow10", laid_internal_strconv_uint64pow10), ("bytes.ErrTooLarge", laid_bytes_ErrTooLarge)] }
def MergePartsSaid : Prop := mergePartsRow.holds Tryd.pinned (OpenSpec.ofChange mergePartsSpec)

/-- ITS FALSE NEIGHBOUR: 'it returns false'. Refute it at one input. -/
def mergePartsWrong : ChangeSpec := { name := "mergeParts", fn := fun _ => fun
  | [d1, d2] => { results := [.lit (.bool false)], args := [d1, d2] }
  | _ => none }
def MergePartsWrongFalsely : Prop := mergePartsRow.holds Tryd.pinned (OpenSpec.ofChange mergePartsWrong)

/-- 'footbridgelaw08.MergeOne': WHATEVER THE INPUT: true; the input reads as it did. -/
def mergeOneSpec : ChangeSpec := { name := "mergeOne", fn := fun _ => fun
  | [d] => { results := [.lit (.bool true)], args := [d] }
  | _ => none }
def mergeOneRow : OpenClaim := { program := "ytefhifmilmedhaadoor", sum := "5d9226d4b5a31073b05c8b27d4dd69cf5ddccf37a59e7aa7c40c02d72de1b9a2", func := "footbridge/footbridgelaw08.MergeOne", spec := "mergeOne", inPlace := ["internal/abi.NoEscape"], unfollowed := true, recurses := true, named := ["bytes.ErrTooLarge", "internal/strconv.uint64pow10", "math/bits.deBruijn32tab", "math/bits.deBruijn64tab"], apart := false, laid := [("math/bits.deBruijn32tab", laid_math_bits_deBruijn32tab), ("math/bits.deBruijn64tab", laid_math_bits_deBruijn64tab), ("internal/strconv.uint64pow10", laid_internal_strconv_uint64pow10), ("bytes.ErrTooLarge", laid_bytes_ErrTooLarge)] }
def MergeOneSaid : Prop := mergeOneRow.holds Tryd.pinned (OpenSpec.ofChange mergeOneSpec)

/-- ITS FALSE NEIGHBOUR: 'it returns false'. Refute it at one input. -/
def mergeOneWrong : ChangeSpec := { name := "mergeOne", fn := fun _ => fun
  | [d] => { results := [.lit (.bool false)], args := [d] }
  | _ => none }
def MergeOneWrongFalsely : Prop := mergeOneRow.holds Tryd.pinned (OpenSpec.ofChange mergeOneWrong)

/- THE SECOND FORM. 'bulk': how many values and letters a reading holds, each counted each time it is reached (what is shared counts as often as it is met; a slice's spare places count too). A statement '..UptoSaid' is the law's where the arguments, and the package variables that the reading takes, are together of bulk at most 1048576: NARROWER than '..Said'. Prove '..Said' where nothing that the law and all that it calls make is longer than what came in: it says more and counts as full. Else prove '..UptoSaid'. A law counts once. -/
mutual
def uptoBulk {H : Type} : DataW H → Nat
  | .lit (.string bytes) => bytes.length + 1
  | .lit _ => 1
  | .nil => 1
  | .ptr d => uptoBulk d + 1
  | .slice elems spare => uptoBulkAll elems + uptoBulkAll spare + 1
  | .agg parts => uptoBulkAll parts + 1
  | .iface _ d => uptoBulk d + 1
  | .map entries => uptoBulkEntries entries + 1
  | .held _ => 1
def uptoBulkAll {H : Type} : List (DataW H) → Nat
  | [] => 0
  | d :: r => uptoBulk d + uptoBulkAll r
def uptoBulkEntries {H : Type} : List (Lit × DataW H) → Nat
  | [] => 0
  | x :: r => uptoBulkEntry x + uptoBulkEntries r
def uptoBulkEntry {H : Type} : Lit × DataW H → Nat
  | (.string bytes, d) => bytes.length + uptoBulk d + 1
  | (_, d) => uptoBulk d + 1
 end
def uptoSmall : (H : Type) → List (DataW H) → Bool := fun _ ds => decide (uptoBulkAll ds ≤ 1048576)
def OpenSpec.upto (s : _root_.Go.ChangeSpec) : _root_.Go.OpenSpec := { _root_.Go.OpenSpec.ofChange s with cond := some uptoSmall }

/-- 'footbridgelaw06.LineLines', WHERE WHAT IT READS IS OF BULK AT MOST 1048576: true; the input reads as it did. -/
def lineLinesUptoRow : OpenClaim := { program := "ytefhifmilmedhaadoor", sum := "5d9226d4b5a31073b05c8b27d4dd69cf5ddccf37a59e7aa7c40c02d72de1b9a2", func := "footbridge/footbridgelaw06.LineLines", spec := "lineLines", unfollowed := true, recurses := true, named := ["internal/strconv.uint64pow10", "math/bits.deBruijn32tab", "math/bits.deBruijn64tab"], apart := false, laid := [("math/bits.deBruijn32tab", laid_math_bits_deBruijn32tab), ("math/bits.deBruijn64tab", laid_math_bits_deBruijn64tab), ("internal/strconv.uint64pow10", laid_internal_strconv_uint64pow10)], narrowed := true }
def LineLinesUptoSaid : Prop := lineLinesUptoRow.holds Tryd.pinned (OpenSpec.upto lineLinesSpec)

/-- 'footbridgelaw06.LineWords', WHERE WHAT IT READS IS OF BULK AT MOST 1048576: true; the input reads as it did. -/
def lineWordsUptoRow : OpenClaim := { program := "ytefhifmilmedhaadoor", sum := "5d9226d4b5a31073b05c8b27d4dd69cf5ddccf37a59e7aa7c40c02d72de1b9a2", func := "footbridge/footbridgelaw06.LineWords", spec := "lineWords", unfollowed := true, recurses := true, named := ["internal/strconv.uint64pow10", "math/bits.deBruijn32tab", "math/bits.deBruijn64tab"], apart := false, laid := [("math/bits.deBruijn32tab", laid_math_bits_deBruijn32tab), ("math/bits.deBruijn64tab", laid_math_bits_deBruijn64tab), ("internal/strconv.uint64pow10", laid_internal_strconv_uint64pow10)], narrowed := true }
def LineWordsUptoSaid : Prop := lineWordsUptoRow.holds Tryd.pinned (OpenSpec.upto lineWordsSpec)

/-- 'footbridgelaw06.LineNumbers', WHERE WHAT IT READS IS OF BULK AT MOST 1048576: true; the input reads as it did. -/
def lineNumbersUptoRow : OpenClaim := { program := "ytefhifmilmedhaadoor", sum := "5d9226d4b5a31073b05c8b27d4dd69cf5ddccf37a59e7aa7c40c02d72de1b9a2", func := "footbridge/footbridgelaw06.LineNumbers", spec := "lineNumbers", unfollowed := true, recurses := true, named := ["internal/strconv.uint64pow10", "math/bits.deBruijn32tab", "math/bits.deBruijn64tab"], apart := false, laid := [("math/bits.deBruijn32tab", laid_math_bits_deBruijn32tab), ("math/bits.deBruijn64tab", laid_math_bits_deBruijn64tab), ("internal/strconv.uint64pow10", laid_internal_strconv_uint64pow10)], narrowed := true }
def LineNumbersUptoSaid : Prop := lineNumbersUptoRow.holds Tryd.pinned (OpenSpec.upto lineNumbersSpec)

/-- 'footbridgelaw06.LineJoins', WHERE WHAT IT READS IS OF BULK AT MOST 1048576: true; the input reads as it did. -/
def lineJoinsUptoRow : OpenClaim := { program := "ytefhifmilmedhaadoor", sum := "5d9226d4b5a31073b05c8b27d4dd69cf5ddccf37a59e7aa7c40c02d72de1b9a2", func := "footbridge/footbridgelaw06.LineJoins", spec := "lineJoins", unfollowed := true, recurses := true, named := ["internal/strconv.uint64pow10", "math/bits.deBruijn32tab", "math/bits.deBruijn64tab"], apart := false, laid := [("math/bits.deBruijn32tab", laid_math_bits_deBruijn32tab), ("math/bits.deBruijn64tab", laid_math_bits_deBruijn64tab), ("internal/strconv.uint64pow10", laid_internal_strconv_uint64pow10)], narrowed := true }
def LineJoinsUptoSaid : Prop := lineJoinsUptoRow.holds Tryd.pinned (OpenSpec.upto lineJoinsSpec)

/-- 'footbridgelaw07.RankWrites', WHERE WHAT IT READS IS OF BULK AT MOST 1048576: true; the input reads as it did. -/
def rankWritesUptoRow : OpenClaim := { program := "ytefhifmilmedhaadoor", sum := "5d9226d4b5a31073b05c8b27d4dd69cf5ddccf37a59e7aa7c40c02d72de1b9a2", func := "footbridge/footbridgelaw07.RankWrites", spec := "rankWrites", inPlace := ["internal/bytealg.IndexByteString", "internal/abi.NoEscape"], unfollowed := true, recurses := true, named := ["bytes.ErrTooLarge", "internal/strconv.uint64pow10", "math/bits.deBruijn32tab", "math/bits.deBruijn64tab"], apart := false, laid := [("math/bits.deBruijn32tab", laid_math_bits_deBruijn32tab), ("math/bits.deBruijn64tab", laid_math_bits_deBruijn64tab), ("internal/strconv.uint64pow10", laid_internal_strconv_uint64pow10), ("bytes.ErrTooLarge", laid_bytes_ErrTooLarge)], narrowed := true }
def RankWritesUptoSaid : Prop := rankWritesUptoRow.holds Tryd.pinned (OpenSpec.upto rankWritesSpec)

/-- 'footbridgelaw07.RankLines', WHERE WHAT IT READS IS OF BULK AT MOST 1048576: true; the input reads as it did. -/
def rankLinesUptoRow : OpenClaim := { program := "ytefhifmilmedhaadoor", sum := "5d9226d4b5a31073b05c8b27d4dd69cf5ddccf37a59e7aa7c40c02d72de1b9a2", func := "footbridge/footbridgelaw07.RankLines", spec := "rankLines", inPlace := ["internal/bytealg.IndexByteString", "internal/abi.NoEscape"], unfollowed := true, recurses := true, named := ["bytes.ErrTooLarge", "internal/strconv.uint64pow10", "math/bits.deBruijn32tab", "math/bits.deBruijn64tab"], apart := false, laid := [("math/bits.deBruijn32tab", laid_math_bits_deBruijn32tab), ("math/bits.deBruijn64tab", laid_math_bits_deBruijn64tab), ("internal/strconv.uint64pow10", laid_internal_strconv_uint64pow10), ("bytes.ErrTooLarge", laid_bytes_ErrTooLarge)], narrowed := true }
def RankLinesUptoSaid : Prop := rankLinesUptoRow.holds Tryd.pinned (OpenSpec.upto rankLinesSpec)

/-- 'footbridgelaw07.RankLong', WHERE WHAT IT READS IS OF BULK AT MOST 1048576: true; the input reads as it did. -/
def rankLongUptoRow : OpenClaim := { program := "ytefhifmilmedhaadoor", sum := "5d9226d4b5a31073b05c8b27d4dd69cf5ddccf37a59e7aa7c40c02d72de1b9a2", func := "footbridge/footbridgelaw07.RankLong", spec := "rankLong", inPlace := ["internal/bytealg.IndexByteString", "internal/abi.NoEscape"], unfollowed := true, recurses := true, named := ["bytes.ErrTooLarge", "internal/strconv.uint64pow10", "math/bits.deBruijn32tab", "math/bits.deBruijn64tab"], apart := false, laid := [("math/bits.deBruijn32tab", laid_math_bits_deBruijn32tab), ("math/bits.deBruijn64tab", laid_math_bits_deBruijn64tab), ("internal/strconv.uint64pow10", laid_internal_strconv_uint64pow10), ("bytes.ErrTooLarge", laid_bytes_ErrTooLarge)], narrowed := true }
def RankLongUptoSaid : Prop := rankLongUptoRow.holds Tryd.pinned (OpenSpec.upto rankLongSpec)

/-- 'footbridgelaw08.MergeWrites', WHERE WHAT IT READS IS OF BULK AT MOST 1048576: true; the input reads as it did. -/
def mergeWritesUptoRow : OpenClaim := { program := "ytefhifmilmedhaadoor", sum := "5d9226d4b5a31073b05c8b27d4dd69cf5ddccf37a59e7aa7c40c02d72de1b9a2", func := "footbridge/footbridgelaw08.MergeWrites", spec := "mergeWrites", inPlace := ["internal/abi.NoEscape"], unfollowed := true, recurses := true, named := ["bytes.ErrTooLarge", "internal/strconv.uint64pow10", "math/bits.deBruijn32tab", "math/bits.deBruijn64tab"], apart := false, laid := [("math/bits.deBruijn32tab", laid_math_bits_deBruijn32tab), ("math/bits.deBruijn64tab", laid_math_bits_deBruijn64tab), ("internal/strconv.uint64pow10", laid_internal_strconv_uint64pow10), ("bytes.ErrTooLarge", laid_bytes_ErrTooLarge)], narrowed := true }
def MergeWritesUptoSaid : Prop := mergeWritesUptoRow.holds Tryd.pinned (OpenSpec.upto mergeWritesSpec)

/-- 'footbridgelaw08.MergeParts', WHERE WHAT IT READS IS OF BULK AT MOST 1048576: true; the input reads as it did. -/
def mergePartsUptoRow : OpenClaim := { program := "ytefhifmilmedhaadoor", sum := "5d9226d4b5a31073b05c8b27d4dd69cf5ddccf37a59e7aa7c40c02d72de1b9a2", func := "footbridge/footbridgelaw08.MergeParts", spec := "mergeParts", inPlace := ["internal/abi.NoEscape"], unfollowed := true, recurses := true, named := ["bytes.ErrTooLarge", "internal/strconv.uint64pow10", "math/bits.deBruijn32tab", "math/bits.deBruijn64tab"], apart := false, laid := [("math/bits.deBruijn32tab", laid_math_bits_deBruijn32tab), ("math/bits.deBruijn64tab", laid_math_bits_deBruijn64tab), ("internal/strconv.uint64pow10", laid_internal_strconv_uint64pow10), ("bytes.ErrTooLarge", laid_bytes_ErrTooLarge)], narrowed := true }
def MergePartsUptoSaid : Prop := mergePartsUptoRow.holds Tryd.pinned (OpenSpec.upto mergePartsSpec)

/-- 'footbridgelaw08.MergeOne', WHERE WHAT IT READS IS OF BULK AT MOST 1048576: true; the input reads as it did. -/
def mergeOneUptoRow : OpenClaim := { program := "ytefhifmilmedhaadoor", sum := "5d9226d4b5a31073b05c8b27d4dd69cf5ddccf37a59e7aa7c40c02d72de1b9a2", func := "footbridge/footbridgelaw08.MergeOne", spec := "mergeOne", inPlace := ["internal/abi.NoEscape"], unfollowed := true, recurses := true, named := ["bytes.ErrTooLarge", "internal/strconv.uint64pow10", "math/bits.deBruijn32tab", "math/bits.deBruijn64tab"], apart := false, laid := [("math/bits.deBruijn32tab", laid_math_bits_deBruijn32tab), ("math/bits.deBruijn64tab", laid_math_bits_deBruijn64tab), ("internal/strconv.uint64pow10", laid_internal_strconv_uint64pow10), ("bytes.ErrTooLarge", laid_bytes_ErrTooLarge)], narrowed := true }
def MergeOneUptoSaid : Prop := mergeOneUptoRow.holds Tryd.pinned (OpenSpec.upto mergeOneSpec)

end Rows
end Go.Proofs.YtefhifmilmedhaaDoor
