/-
  NARROWER THAN 'FOR EVERY INPUT', by the rows' own cells (each row's printed sentence says how): ScanNexts: laid · ScanUsual: laid · ScanStays: laid · ScanOpen: laid · ScanFew: laid · ScanPieces: laid · SplitMarks: laid · SplitFew: laid · SplitPieces: laid · SplitStays: laid · SplitSums: laid.
  DERIVED. THE GIVEN ROWS OF THIS SEAT. 11 by the template 'for every input the law returns true; each argument reads behind the call as it read before'; 0 by the template 'total and deterministic' (their statements: YtkiggpbmlkfdpaaDoorTotals.lean).
  GIVEN WITH THE SEED: the statements are not yours to turn. If you find one false, say at which input.
  Laid BY PROGRAM, IN A SANDBOX (cutbox-rows.mjs): the forced cells as the released guide's own fill.sh prints them over the translation a172798ea1bb8365… (all of the seat's roots in one cut). By AI agents, Wed Nov 11 2026. No macro, syntax, notation, axiom, sorry.
-/
import Derived.Test.YtkiggpbmlkfdpaaDoorChecked
import GoSem.Claim
import GoSem.ClaimJoined
import GoSem.ClaimMapViews
import Derived.JoinedTies
import Derived.KernelRfl
namespace Go.Proofs.YtkiggpbmlkfdpaaDoor
/- THE CELL 'sum', in the pinned program and in every row, IS THE sha256 OF THE DUMP (.gsa) THAT YtkiggpbmlkfdpaaDoorProg.lean LOADS. Nothing in Lean hashes anything: it is a label: what it is worth is what the hold of that sum in a sandbox is worth. -/
noncomputable def Tryd.pinned : Pinned := { name := "ytkiggpbmlkfdpaadoor", sum := "a172798ea1bb83653b995730a6809dec7398a2b83370cfda0f1f5a3da1c461f8", checked := Tryd.checked }
namespace Rows
def none {H : Type} : Left H := { results := [], args := [] }

/- WHAT THE LISTED PACKAGE-LEVEL VARIABLES READ AS WHEN THE CALL BEGINS. Each datum BY PROGRAM (the guide's laid-datum.mjs) off the statement by which the dump's own 'gosem.cut.vars' lays the variable. In a bare row this is a premise. The card (YtkiggpbmlkfdpaaDoorCards.lean) ties it to the program's text. -/
def laid_footbridge_class_usual {H : Type} : DataW H := .agg [.agg [.lit (.int .i64 9), .lit (.int .i64 9), .lit (.int .i64 3)], .agg [.lit (.int .i64 10), .lit (.int .i64 10), .lit (.int .i64 4)], .agg [.lit (.int .i64 11), .lit (.int .i64 12), .lit (.int .i64 3)], .agg [.lit (.int .i64 13), .lit (.int .i64 13), .lit (.int .i64 4)], .agg [.lit (.int .i64 32), .lit (.int .i64 32), .lit (.int .i64 3)], .agg [.lit (.int .i64 48), .lit (.int .i64 57), .lit (.int .i64 2)], .agg [.lit (.int .i64 65), .lit (.int .i64 90), .lit (.int .i64 1)], .agg [.lit (.int .i64 97), .lit (.int .i64 122), .lit (.int .i64 1)], .agg [.lit (.int .i64 133), .lit (.int .i64 133), .lit (.int .i64 3)], .agg [.lit (.int .i64 160), .lit (.int .i64 160), .lit (.int .i64 3)], .agg [.lit (.int .i64 170), .lit (.int .i64 170), .lit (.int .i64 1)], .agg [.lit (.int .i64 178), .lit (.int .i64 179), .lit (.int .i64 2)], .agg [.lit (.int .i64 181), .lit (.int .i64 181), .lit (.int .i64 1)], .agg [.lit (.int .i64 185), .lit (.int .i64 185), .lit (.int .i64 2)], .agg [.lit (.int .i64 186), .lit (.int .i64 186), .lit (.int .i64 1)], .agg [.lit (.int .i64 188), .lit (.int .i64 190), .lit (.int .i64 2)], .agg [.lit (.int .i64 192), .lit (.int .i64 214), .lit (.int .i64 1)], .agg [.lit (.int .i64 216), .lit (.int .i64 246), .lit (.int .i64 1)], .agg [.lit (.int .i64 248), .lit (.int .i64 705), .lit (.int .i64 1)], .agg [.lit (.int .i64 880), .lit (.int .i64 883), .lit (.int .i64 1)], .agg [.lit (.int .i64 886), .lit (.int .i64 887), .lit (.int .i64 1)], .agg [.lit (.int .i64 891), .lit (.int .i64 893), .lit (.int .i64 1)], .agg [.lit (.int .i64 895), .lit (.int .i64 895), .lit (.int .i64 1)], .agg [.lit (.int .i64 902), .lit (.int .i64 902), .lit (.int .i64 1)], .agg [.lit (.int .i64 904), .lit (.int .i64 1013), .lit (.int .i64 1)], .agg [.lit (.int .i64 1015), .lit (.int .i64 1153), .lit (.int .i64 1)], .agg [.lit (.int .i64 1162), .lit (.int .i64 1327), .lit (.int .i64 1)], .agg [.lit (.int .i64 1329), .lit (.int .i64 1366), .lit (.int .i64 1)], .agg [.lit (.int .i64 1377), .lit (.int .i64 1415), .lit (.int .i64 1)], .agg [.lit (.int .i64 1488), .lit (.int .i64 1514), .lit (.int .i64 1)], .agg [.lit (.int .i64 1568), .lit (.int .i64 1610), .lit (.int .i64 1)], .agg [.lit (.int .i64 1632), .lit (.int .i64 1641), .lit (.int .i64 2)], .agg [.lit (.int .i64 2308), .lit (.int .i64 2361), .lit (.int .i64 1)], .agg [.lit (.int .i64 2406), .lit (.int .i64 2415), .lit (.int .i64 2)], .agg [.lit (.int .i64 3585), .lit (.int .i64 3632), .lit (.int .i64 1)], .agg [.lit (.int .i64 4256), .lit (.int .i64 4351), .lit (.int .i64 1)], .agg [.lit (.int .i64 4352), .lit (.int .i64 4680), .lit (.int .i64 1)], .agg [.lit (.int .i64 5760), .lit (.int .i64 5760), .lit (.int .i64 3)], .agg [.lit (.int .i64 7680), .lit (.int .i64 8124), .lit (.int .i64 1)], .agg [.lit (.int .i64 8192), .lit (.int .i64 8202), .lit (.int .i64 3)], .agg [.lit (.int .i64 8232), .lit (.int .i64 8233), .lit (.int .i64 3)], .agg [.lit (.int .i64 8239), .lit (.int .i64 8239), .lit (.int .i64 3)], .agg [.lit (.int .i64 8287), .lit (.int .i64 8287), .lit (.int .i64 3)], .agg [.lit (.int .i64 8544), .lit (.int .i64 8584), .lit (.int .i64 2)], .agg [.lit (.int .i64 12288), .lit (.int .i64 12288), .lit (.int .i64 3)], .agg [.lit (.int .i64 12353), .lit (.int .i64 12438), .lit (.int .i64 1)], .agg [.lit (.int .i64 12449), .lit (.int .i64 12538), .lit (.int .i64 1)], .agg [.lit (.int .i64 19968), .lit (.int .i64 40959), .lit (.int .i64 1)], .agg [.lit (.int .i64 44032), .lit (.int .i64 55203), .lit (.int .i64 1)], .agg [.lit (.int .i64 65296), .lit (.int .i64 65305), .lit (.int .i64 2)], .agg [.lit (.int .i64 131072), .lit (.int .i64 173791), .lit (.int .i64 1)]]

/-- 'footbridgelaw12.ScanNexts': WHATEVER THE INPUT: true; the input reads as it did. -/
def scanNextsSpec : ChangeSpec := { name := "scanNexts", fn := fun _ => fun
  | [d1, d2, d3, d4] => { results := [.lit (.bool true)], args := [d1, d2, d3, d4] }
  | _ => none }
def scanNextsRow : OpenClaim := { program := "ytkiggpbmlkfdpaadoor", sum := "a172798ea1bb83653b995730a6809dec7398a2b83370cfda0f1f5a3da1c461f8", func := "footbridge/footbridgelaw12.ScanNexts", spec := "scanNexts", inPlace := ["internal/bytealg.IndexByteString"], unfollowed := true, recurses := true, named := ["footbridge/class.usual"], apart := false, laid := [("footbridge/class.usual", laid_footbridge_class_usual)] }
def ScanNextsSaid : Prop := scanNextsRow.holds Tryd.pinned (OpenSpec.ofChange scanNextsSpec)

/-- ITS FALSE NEIGHBOUR: 'it returns false'. Refute it at one input. -/
def scanNextsWrong : ChangeSpec := { name := "scanNexts", fn := fun _ => fun
  | [d1, d2, d3, d4] => { results := [.lit (.bool false)], args := [d1, d2, d3, d4] }
  | _ => none }
def ScanNextsWrongFalsely : Prop := scanNextsRow.holds Tryd.pinned (OpenSpec.ofChange scanNextsWrong)

/-- 'footbridgelaw12.ScanUsual': WHATEVER THE INPUT: true; the input reads as it did. -/
def scanUsualSpec : ChangeSpec := { name := "scanUsual", fn := fun _ => fun
  | [d1, d2, d3] => { results := [.lit (.bool true)], args := [d1, d2, d3] }
  | _ => none }
def scanUsualRow : OpenClaim := { program := "ytkiggpbmlkfdpaadoor", sum := "a172798ea1bb83653b995730a6809dec7398a2b83370cfda0f1f5a3da1c461f8", func := "footbridge/footbridgelaw12.ScanUsual", spec := "scanUsual", inPlace := ["internal/bytealg.IndexByteString"], unfollowed := true, recurses := true, named := ["footbridge/class.usual"], apart := false, laid := [("footbridge/class.usual", laid_footbridge_class_usual)] }
def ScanUsualSaid : Prop := scanUsualRow.holds Tryd.pinned (OpenSpec.ofChange scanUsualSpec)

/-- ITS FALSE NEIGHBOUR: 'it returns false'. Refute it at one input. -/
def scanUsualWrong : ChangeSpec := { name := "scanUsual", fn := fun _ => fun
  | [d1, d2, d3] => { results := [.lit (.bool false)], args := [d1, d2, d3] }
  | _ => none }
def ScanUsualWrongFalsely : Prop := scanUsualRow.holds Tryd.pinned (OpenSpec.ofChange scanUsualWrong)

/-- 'footbridgelaw12.ScanStays': WHATEVER THE INPUT: true; the input reads as it did. -/
def scanStaysSpec : ChangeSpec := { name := "scanStays", fn := fun _ => fun
  | [d1, d2, d3, d4, d5] => { results := [.lit (.bool true)], args := [d1, d2, d3, d4, d5] }
  | _ => none }
def scanStaysRow : OpenClaim := { program := "ytkiggpbmlkfdpaadoor", sum := "a172798ea1bb83653b995730a6809dec7398a2b83370cfda0f1f5a3da1c461f8", func := "footbridge/footbridgelaw12.ScanStays", spec := "scanStays", inPlace := ["internal/bytealg.IndexByteString"], unfollowed := true, recurses := true, named := ["footbridge/class.usual"], apart := false, laid := [("footbridge/class.usual", laid_footbridge_class_usual)] }
def ScanStaysSaid : Prop := scanStaysRow.holds Tryd.pinned (OpenSpec.ofChange scanStaysSpec)

/-- ITS FALSE NEIGHBOUR: 'it returns false'. Refute it at one input. -/
def scanStaysWrong : ChangeSpec := { name := "scanStays", fn := fun _ => fun
  | [d1, d2, d3, d4, d5] => { results := [.lit (.bool false)], args := [d1, d2, d3, d4, d5] }
  | _ => none }
def ScanStaysWrongFalsely : Prop := scanStaysRow.holds Tryd.pinned (OpenSpec.ofChange scanStaysWrong)

/-- 'footbridgelaw12.ScanOpen': WHATEVER THE INPUT: true; the input reads as it did. -/
def scanOpenSpec : ChangeSpec := { name := "scanOpen", fn := fun _ => fun
  | [d1, d2] => { results := [.lit (.bool true)], args := [d1, d2] }
  | _ => none }
def scanOpenRow : OpenClaim := { program := "ytkiggpbmlkfdpaadoor", sum := "a172798ea1bb83653b995730a6809dec7398a2b83370cfda0f1f5a3da1c461f8", func := "footbridge/footbridgelaw12.ScanOpen", spec := "scanOpen", inPlace := ["internal/bytealg.IndexByteString"], unfollowed := true, recurses := true, named := ["footbridge/class.usual"], apart := false, laid := [("footbridge/class.usual", laid_footbridge_class_usual)] }
def ScanOpenSaid : Prop := scanOpenRow.holds Tryd.pinned (OpenSpec.ofChange scanOpenSpec)

/-- ITS FALSE NEIGHBOUR: 'it returns false'. Refute it at one input. -/
def scanOpenWrong : ChangeSpec := { name := "scanOpen", fn := fun _ => fun
  | [d1, d2] => { results := [.lit (.bool false)], args := [d1, d2] }
  | _ => none }
def ScanOpenWrongFalsely : Prop := scanOpenRow.holds Tryd.pinned (OpenSpec.ofChange scanOpenWrong)

/-- 'footbridgelaw12.ScanFew': WHATEVER THE INPUT: true; the input reads as it did. -/
def scanFewSpec : ChangeSpec := { name := "scanFew", fn := fun _ => fun
  | [d1, d2] => { results := [.lit (.bool true)], args := [d1, d2] }
  | _ => none }
def scanFewRow : OpenClaim := { program := "ytkiggpbmlkfdpaadoor", sum := "a172798ea1bb83653b995730a6809dec7398a2b83370cfda0f1f5a3da1c461f8", func := "footbridge/footbridgelaw12.ScanFew", spec := "scanFew", inPlace := ["internal/bytealg.IndexByteString"], unfollowed := true, recurses := true, named := ["footbridge/class.usual"], apart := false, laid := [("footbridge/class.usual", laid_footbridge_class_usual)] }
def ScanFewSaid : Prop := scanFewRow.holds Tryd.pinned (OpenSpec.ofChange scanFewSpec)

/-- ITS FALSE NEIGHBOUR: 'it returns false'. Refute it at one input. -/
def scanFewWrong : ChangeSpec := { name := "scanFew", fn := fun _ => fun
  | [d1, d2] => { results := [.lit (.bool false)], args := [d1, d2] }
  | _ => none }
def ScanFewWrongFalsely : Prop := scanFewRow.holds Tryd.pinned (OpenSpec.ofChange scanFewWrong)

/-- 'footbridgelaw12.ScanPieces': WHATEVER THE INPUT: true; the input reads as it did. -/
def scanPiecesSpec : ChangeSpec := { name := "scanPieces", fn := fun _ => fun
  | [d1, d2] => { results := [.lit (.bool true)], args := [d1, d2] }
  | _ => none }
def scanPiecesRow : OpenClaim := { program := "ytkiggpbmlkfdpaadoor", sum := "a172798ea1bb83653b995730a6809dec7398a2b83370cfda0f1f5a3da1c461f8", func := "footbridge/footbridgelaw12.ScanPieces", spec := "scanPieces", inPlace := ["internal/bytealg.IndexByteString"], unfollowed := true, recurses := true, named := ["footbridge/class.usual"], apart := false, laid := [("footbridge/class.usual", laid_footbridge_class_usual)] }
def ScanPiecesSaid : Prop := scanPiecesRow.holds Tryd.pinned (OpenSpec.ofChange scanPiecesSpec)

/-- ITS FALSE NEIGHBOUR: 'it returns false'. Refute it at one input. -/
def scanPiecesWrong : ChangeSpec := { name := "scanPieces", fn := fun _ => fun
  | [d1, d2] => { results := [.lit (.bool false)], args := [d1, d2] }
  | _ => none }
def ScanPiecesWrongFalsely : Prop := scanPiecesRow.holds Tryd.pinned (OpenSpec.ofChange scanPiecesWrong)

/-- 'footbridgelaw13.SplitMarks': WHATEVER THE INPUT: true; the input reads as it did. -/
def splitMarksSpec : ChangeSpec := { name := "splitMarks", fn := fun _ => fun
  | [d1, d2, d3, d4, d5, d6] => { results := [.lit (.bool true)], args := [d1, d2, d3, d4, d5, d6] }
  | _ => none }
def splitMarksRow : OpenClaim := { program := "ytkiggpbmlkfdpaadoor", sum := "a172798ea1bb83653b995730a6809dec7398a2b83370cfda0f1f5a3da1c461f8", func := "footbridge/footbridgelaw13.SplitMarks", spec := "splitMarks", inPlace := ["internal/bytealg.IndexByteString"], unfollowed := true, recurses := true, named := ["footbridge/class.usual"], apart := false, laid := [("footbridge/class.usual", laid_footbridge_class_usual)] }
def SplitMarksSaid : Prop := splitMarksRow.holds Tryd.pinned (OpenSpec.ofChange splitMarksSpec)

/-- ITS FALSE NEIGHBOUR: 'it returns false'. Refute it at one input. -/
def splitMarksWrong : ChangeSpec := { name := "splitMarks", fn := fun _ => fun
  | [d1, d2, d3, d4, d5, d6] => { results := [.lit (.bool false)], args := [d1, d2, d3, d4, d5, d6] }
  | _ => none }
def SplitMarksWrongFalsely : Prop := splitMarksRow.holds Tryd.pinned (OpenSpec.ofChange splitMarksWrong)

/-- 'footbridgelaw13.SplitFew': WHATEVER THE INPUT: true; the input reads as it did. -/
def splitFewSpec : ChangeSpec := { name := "splitFew", fn := fun _ => fun
  | [d1, d2] => { results := [.lit (.bool true)], args := [d1, d2] }
  | _ => none }
def splitFewRow : OpenClaim := { program := "ytkiggpbmlkfdpaadoor", sum := "a172798ea1bb83653b995730a6809dec7398a2b83370cfda0f1f5a3da1c461f8", func := "footbridge/footbridgelaw13.SplitFew", spec := "splitFew", inPlace := ["internal/bytealg.IndexByteString"], unfollowed := true, recurses := true, named := ["footbridge/class.usual"], apart := false, laid := [("footbridge/class.usual", laid_footbridge_class_usual)] }
def SplitFewSaid : Prop := splitFewRow.holds Tryd.pinned (OpenSpec.ofChange splitFewSpec)

/-- ITS FALSE NEIGHBOUR: 'it returns false'. Refute it at one input. -/
def splitFewWrong : ChangeSpec := { name := "splitFew", fn := fun _ => fun
  | [d1, d2] => { results := [.lit (.bool false)], args := [d1, d2] }
  | _ => none }
def SplitFewWrongFalsely : Prop := splitFewRow.holds Tryd.pinned (OpenSpec.ofChange splitFewWrong)

/-- 'footbridgelaw13.SplitPieces': WHATEVER THE INPUT: true; the input reads as it did. -/
def splitPiecesSpec : ChangeSpec := { name := "splitPieces", fn := fun _ => fun
  | [d1, d2, d3, d4] => { results := [.lit (.bool true)], args := [d1, d2, d3, d4] }
  | _ => none }
def splitPiecesRow : OpenClaim := { program := "ytkiggpbmlkfdpaadoor", sum := "a172798ea1bb83653b995730a6809dec7398a2b83370cfda0f1f5a3da1c461f8", func := "footbridge/footbridgelaw13.SplitPieces", spec := "splitPieces", inPlace := ["internal/bytealg.IndexByteString"], unfollowed := true, recurses := true, named := ["footbridge/class.usual"], apart := false, laid := [("footbridge/class.usual", laid_footbridge_class_usual)] }
def SplitPiecesSaid : Prop := splitPiecesRow.holds Tryd.pinned (OpenSpec.ofChange splitPiecesSpec)

/-- ITS FALSE NEIGHBOUR: 'it returns false'. Refute it at one input. -/
def splitPiecesWrong : ChangeSpec := { name := "splitPieces", fn := fun _ => fun
  | [d1, d2, d3, d4] => { results := [.lit (.bool false)], args := [d1, d2, d3, d4] }
  | _ => none }
def SplitPiecesWrongFalsely : Prop := splitPiecesRow.holds Tryd.pinned (OpenSpec.ofChange splitPiecesWrong)

/-- 'footbridgelaw13.SplitStays': WHATEVER THE INPUT: true; the input reads as it did. -/
def splitStaysSpec : ChangeSpec := { name := "splitStays", fn := fun _ => fun
  | [d1, d2, d3, d4, d5] => { results := [.lit (.bool true)], args := [d1, d2, d3, d4, d5] }
  | _ => none }
def splitStaysRow : OpenClaim := { program := "ytkiggpbmlkfdpaadoor", sum := "a172798ea1bb83653b995730a6809dec7398a2b83370cfda0f1f5a3da1c461f8", func := "footbridge/footbridgelaw13.SplitStays", spec := "splitStays", inPlace := ["internal/bytealg.IndexByteString"], unfollowed := true, recurses := true, named := ["footbridge/class.usual"], apart := false, laid := [("footbridge/class.usual", laid_footbridge_class_usual)] }
def SplitStaysSaid : Prop := splitStaysRow.holds Tryd.pinned (OpenSpec.ofChange splitStaysSpec)

/-- ITS FALSE NEIGHBOUR: 'it returns false'. Refute it at one input. -/
def splitStaysWrong : ChangeSpec := { name := "splitStays", fn := fun _ => fun
  | [d1, d2, d3, d4, d5] => { results := [.lit (.bool false)], args := [d1, d2, d3, d4, d5] }
  | _ => none }
def SplitStaysWrongFalsely : Prop := splitStaysRow.holds Tryd.pinned (OpenSpec.ofChange splitStaysWrong)

/-- 'footbridgelaw13.SplitSums': WHATEVER THE INPUT: true; the input reads as it did. -/
def splitSumsSpec : ChangeSpec := { name := "splitSums", fn := fun _ => fun
  | [d1, d2, d3] => { results := [.lit (.bool true)], args := [d1, d2, d3] }
  | _ => none }
def splitSumsRow : OpenClaim := { program := "ytkiggpbmlkfdpaadoor", sum := "a172798ea1bb83653b995730a6809dec7398a2b83370cfda0f1f5a3da1c461f8", func := "footbridge/footbridgelaw13.SplitSums", spec := "splitSums", inPlace := ["internal/bytealg.IndexByteString"], unfollowed := true, recurses := true, named := ["footbridge/class.usual"], apart := false, laid := [("footbridge/class.usual", laid_footbridge_class_usual)] }
def SplitSumsSaid : Prop := splitSumsRow.holds Tryd.pinned (OpenSpec.ofChange splitSumsSpec)

/-- ITS FALSE NEIGHBOUR: 'it returns false'. Refute it at one input. -/
def splitSumsWrong : ChangeSpec := { name := "splitSums", fn := fun _ => fun
  | [d1, d2, d3] => { results := [.lit (.bool false)], args := [d1, d2, d3] }
  | _ => none }
def SplitSumsWrongFalsely : Prop := splitSumsRow.holds Tryd.pinned (OpenSpec.ofChange splitSumsWrong)

/- THE SECOND FORM. 'bulk': how many values and letters a reading holds, each counted each time it is reached (what is shared counts as often as it is met; a slice's spare places count too). A statement '..UptoSaid' is the law's where the arguments, and the package variables that the reading takes, are together of bulk at most 1048576: NARROWER than '..Said'. Prove '..Said' where nothing that the law and all that it calls make is longer than what came in: it says more and counts as full. Else prove '..UptoSaid'. A law counts once. -/
mutual
def uptoBulk {H : Type} : DataW H → Nat
  | .lit (.string bytes) => bytes.length + 1
  | .lit _ => 1
  | .nil => 1
  | .ptr d => uptoBulk d + 1
  | .slice elems spare => uptoBulkAll elems + uptoBulkAll spare + 1
  | .agg parts => uptoBulkAll parts + 1
  | .iface _ d => uptoBulk d + 1
  | .map entries => uptoBulkEntries entries + 1
  | .held _ => 1
def uptoBulkAll {H : Type} : List (DataW H) → Nat
  | [] => 0
  | d :: r => uptoBulk d + uptoBulkAll r
def uptoBulkEntries {H : Type} : List (Lit × DataW H) → Nat
  | [] => 0
  | x :: r => uptoBulkEntry x + uptoBulkEntries r
def uptoBulkEntry {H : Type} : Lit × DataW H → Nat
  | (.string bytes, d) => bytes.length + uptoBulk d + 1
  | (_, d) => uptoBulk d + 1
 end
def uptoSmall : (H : Type) → List (DataW H) → Bool := fun _ ds => decide (uptoBulkAll ds ≤ 1048576)
def OpenSpec.upto (s : _root_.Go.ChangeSpec) : _root_.Go.OpenSpec := { _root_.Go.OpenSpec.ofChange s with cond := some uptoSmall }

/-- 'footbridgelaw12.ScanNexts', WHERE WHAT IT READS IS OF BULK AT MOST 1048576: true; the input reads as it did. -/
def scanNextsUptoRow : OpenClaim := { program := "ytkiggpbmlkfdpaadoor", sum := "a172798ea1bb83653b995730a6809dec7398a2b83370cfda0f1f5a3da1c461f8", func := "footbridge/footbridgelaw12.ScanNexts", spec := "scanNexts", inPlace := ["internal/bytealg.IndexByteString"], unfollowed := true, recurses := true, named := ["footbridge/class.usual"], apart := false, laid := [("footbridge/class.usual", laid_footbridge_class_usual)], narrowed := true }
def ScanNextsUptoSaid : Prop := scanNextsUptoRow.holds Tryd.pinned (OpenSpec.upto scanNextsSpec)

/-- 'footbridgelaw12.ScanUsual', WHERE WHAT IT READS IS OF BULK AT MOST 1048576: true; the input reads as it did. -/
def scanUsualUptoRow : OpenClaim := { program := "ytkiggpbmlkfdpaadoor", sum := "a172798ea1bb83653b995730a6809dec7398a2b83370cfda0f1f5a3da1c461f8", func := "footbridge/footbridgelaw12.ScanUsual", spec := "scanUsual", inPlace := ["internal/bytealg.IndexByteString"], unfollowed := true, recurses := true, named := ["footbridge/class.usual"], apart := false, laid := [("footbridge/class.usual", laid_footbridge_class_usual)], narrowed := true }
def ScanUsualUptoSaid : Prop := scanUsualUptoRow.holds Tryd.pinned (OpenSpec.upto scanUsualSpec)

/-- 'footbridgelaw12.ScanStays', WHERE WHAT IT READS IS OF BULK AT MOST 1048576: true; the input reads as it did. -/
def scanStaysUptoRow : OpenClaim := { program := "ytkiggpbmlkfdpaadoor", sum := "a172798ea1bb83653b995730a6809dec7398a2b83370cfda0f1f5a3da1c461f8", func := "footbridge/footbridgelaw12.ScanStays", spec := "scanStays", inPlace := ["internal/bytealg.IndexByteString"], unfollowed := true, recurses := true, named := ["footbridge/class.usual"], apart := false, laid := [("footbridge/class.usual", laid_footbridge_class_usual)], narrowed := true }
def ScanStaysUptoSaid : Prop := scanStaysUptoRow.holds Tryd.pinned (OpenSpec.upto scanStaysSpec)

/-- 'footbridgelaw12.ScanOpen', WHERE WHAT IT READS IS OF BULK AT MOST 1048576: true; the input reads as it did. -/
def scanOpenUptoRow : OpenClaim := { program := "ytkiggpbmlkfdpaadoor", sum := "a172798ea1bb83653b995730a6809dec7398a2b83370cfda0f1f5a3da1c461f8", func := "footbridge/footbridgelaw12.ScanOpen", spec := "scanOpen", inPlace := ["internal/bytealg.IndexByteString"], unfollowed := true, recurses := true, named := ["footbridge/class.usual"], apart := false, laid := [("footbridge/class.usual", laid_footbridge_class_usual)], narrowed := true }
def ScanOpenUptoSaid : Prop := scanOpenUptoRow.holds Tryd.pinned (OpenSpec.upto scanOpenSpec)

/-- 'footbridgelaw12.ScanFew', WHERE WHAT IT READS IS OF BULK AT MOST 1048576: true; the input reads as it did. -/
def scanFewUptoRow : OpenClaim := { program := "ytkiggpbmlkfdpaadoor", sum := "a172798ea1bb83653b995730a6809dec7398a2b83370cfda0f1f5a3da1c461f8", func := "footbridge/footbridgelaw12.ScanFew", spec := "scanFew", inPlace := ["internal/bytealg.IndexByteString"], unfollowed := true, recurses := true, named := ["footbridge/class.usual"], apart := false, laid := [("footbridge/class.usual", laid_footbridge_class_usual)], narrowed := true }
def ScanFewUptoSaid : Prop := scanFewUptoRow.holds Tryd.pinned (OpenSpec.upto scanFewSpec)

/-- 'footbridgelaw12.ScanPieces', WHERE WHAT IT READS IS OF BULK AT MOST 1048576: true; the input reads as it did. -/
def scanPiecesUptoRow : OpenClaim := { program := "ytkiggpbmlkfdpaadoor", sum := "a172798ea1bb83653b995730a6809dec7398a2b83370cfda0f1f5a3da1c461f8", func := "footbridge/footbridgelaw12.ScanPieces", spec := "scanPieces", inPlace := ["internal/bytealg.IndexByteString"], unfollowed := true, recurses := true, named := ["footbridge/class.usual"], apart := false, laid := [("footbridge/class.usual", laid_footbridge_class_usual)], narrowed := true }
def ScanPiecesUptoSaid : Prop := scanPiecesUptoRow.holds Tryd.pinned (OpenSpec.upto scanPiecesSpec)

/-- 'footbridgelaw13.SplitMarks', WHERE WHAT IT READS IS OF BULK AT MOST 1048576: true; the input reads as it did. -/
def splitMarksUptoRow : OpenClaim := { program := "ytkiggpbmlkfdpaadoor", sum := "a172798ea1bb83653b995730a6809dec7398a2b83370cfda0f1f5a3da1c461f8", func := "footbridge/footbridgelaw13.SplitMarks", spec := "splitMarks", inPlace := ["internal/bytealg.IndexByteString"], unfollowed := true, recurses := true, named := ["footbridge/class.usual"], apart := false, laid := [("footbridge/class.usual", laid_footbridge_class_usual)], narrowed := true }
def SplitMarksUptoSaid : Prop := splitMarksUptoRow.holds Tryd.pinned (OpenSpec.upto splitMarksSpec)

/-- 'footbridgelaw13.SplitFew', WHERE WHAT IT READS IS OF BULK AT MOST 1048576: true; the input reads as it did. -/
def splitFewUptoRow : OpenClaim := { program := "ytkiggpbmlkfdpaadoor", sum := "a172798ea1bb83653b995730a6809dec7398a2b83370cfda0f1f5a3da1c461f8", func := "footbridge/footbridgelaw13.SplitFew", spec := "splitFew", inPlace := ["internal/bytealg.IndexByteString"], unfollowed := true, recurses := true, named := ["footbridge/class.usual"], apart := false, laid := [("footbridge/class.usual", laid_footbridge_class_usual)], narrowed := true }
def SplitFewUptoSaid : Prop := splitFewUptoRow.holds Tryd.pinned (OpenSpec.upto splitFewSpec)

/-- 'footbridgelaw13.SplitPieces', WHERE WHAT IT READS IS OF BULK AT MOST 1048576: true; the input reads as it did. -/
def splitPiecesUptoRow : OpenClaim := { program := "ytkiggpbmlkfdpaadoor", sum := "a172798ea1bb83653b995730a6809dec7398a2b83370cfda0f1f5a3da1c461f8", func := "footbridge/footbridgelaw13.SplitPieces", spec := "splitPieces", inPlace := ["internal/bytealg.IndexByteString"], unfollowed := true, recurses := true, named := ["footbridge/class.usual"], apart := false, laid := [("footbridge/class.usual", laid_footbridge_class_usual)], narrowed := true }
def SplitPiecesUptoSaid : Prop := splitPiecesUptoRow.holds Tryd.pinned (OpenSpec.upto splitPiecesSpec)

/-- 'footbridgelaw13.SplitStays', WHERE WHAT IT READS IS OF BULK AT MOST 1048576: true; the input reads as it did. -/
def splitStaysUptoRow : OpenClaim := { program := "ytkiggpbmlkfdpaadoor", sum := "a172798ea1bb83653b995730a6809dec7398a2b83370cfda0f1f5a3da1c461f8", func := "footbridge/footbridgelaw13.SplitStays", spec := "splitStays", inPlace := ["internal/bytealg.IndexByteString"], unfollowed := true, recurses := true, named := ["footbridge/class.usual"], apart := false, laid := [("footbridge/class.usual", laid_footbridge_class_usual)], narrowed := true }
def SplitStaysUptoSaid : Prop := splitStaysUptoRow.holds Tryd.pinned (OpenSpec.upto splitStaysSpec)

/-- 'footbridgelaw13.SplitSums', WHERE WHAT IT READS IS OF BULK AT MOST 1048576: true; the input reads as it did. -/
def splitSumsUptoRow : OpenClaim := { program := "ytkiggpbmlkfdpaadoor", sum := "a172798ea1bb83653b995730a6809dec7398a2b83370cfda0f1f5a3da1c461f8", func := "footbridge/footbridgelaw13.SplitSums", spec := "splitSums", inPlace := ["internal/bytealg.IndexByteString"], unfollowed := true, recurses := true, named := ["footbridge/class.usual"], apart := false, laid := [("footbridge/class.usual", laid_footbridge_class_usual)], narrowed := true }
def SplitSumsUptoSaid : Prop := splitSumsUptoRow.holds Tryd.pinned (OpenSpec.upto splitSumsSpec)

end Rows
end Go.Proofs.YtkiggpbmlkfdpaaDoor
