/-
  NARROWER THAN 'FOR EVERY INPUT', by the rows' own cells (each row's printed sentence says how): ClassOf: laid · ClassMore: laid · ClassOwn: laid · ClassUsual: laid.
  DERIVED. THE GIVEN ROWS OF THIS SEAT. 4 by the template 'for every input the law returns true; each argument reads behind the call as it read before'; 0 by the template 'total and deterministic' (their statements: YthhcdblkbdnbeaaDoorTotals.lean).
  GIVEN WITH THE SEED: the statements are not yours to turn. If you find one false, say at which input.
  Laid BY PROGRAM, IN A SANDBOX (cutbox-rows.mjs): the forced cells as the released guide's own fill.sh prints them over the translation f4ea09e200b1648e… (all of the seat's roots in one cut). By AI agents, Wed Nov 11 2026. No macro, syntax, notation, axiom, sorry.
-/
import Derived.Test.YthhcdblkbdnbeaaDoorChecked
import GoSem.Claim
import GoSem.ClaimJoined
import GoSem.ClaimMapViews
import Derived.JoinedTies
import Derived.KernelRfl
namespace Go.Proofs.YthhcdblkbdnbeaaDoor
/- THE CELL 'sum', in the pinned program and in every row, IS THE sha256 OF THE DUMP (.gsa) THAT YthhcdblkbdnbeaaDoorProg.lean LOADS. Nothing in Lean hashes anything: it is a label: what it is worth is what the hold of that sum in a sandbox is worth. -/
noncomputable def Tryd.pinned : Pinned := { name := "ythhcdblkbdnbeaadoor", sum := "f4ea09e200b1648e14208de5ecc16c8a2add521e557b99799917acaae45331df", checked := Tryd.checked }
namespace Rows
def none {H : Type} : Left H := { results := [], args := [] }

/- WHAT THE LISTED PACKAGE-LEVEL VARIABLES READ AS WHEN THE CALL BEGINS. Each datum BY PROGRAM (the guide's laid-datum.mjs) off the statement by which the dump's own 'gosem.cut.vars' lays the variable. In a bare row this is a premise. The card (YthhcdblkbdnbeaaDoorCards.lean) ties it to the program's text. -/
def laid_footbridge_class_usual {H : Type} : DataW H := .agg [.agg [.lit (.int .i64 9), .lit (.int .i64 9), .lit (.int .i64 3)], .agg [.lit (.int .i64 10), .lit (.int .i64 10), .lit (.int .i64 4)], .agg [.lit (.int .i64 11), .lit (.int .i64 12), .lit (.int .i64 3)], .agg [.lit (.int .i64 13), .lit (.int .i64 13), .lit (.int .i64 4)], .agg [.lit (.int .i64 32), .lit (.int .i64 32), .lit (.int .i64 3)], .agg [.lit (.int .i64 48), .lit (.int .i64 57), .lit (.int .i64 2)], .agg [.lit (.int .i64 65), .lit (.int .i64 90), .lit (.int .i64 1)], .agg [.lit (.int .i64 97), .lit (.int .i64 122), .lit (.int .i64 1)], .agg [.lit (.int .i64 133), .lit (.int .i64 133), .lit (.int .i64 3)], .agg [.lit (.int .i64 160), .lit (.int .i64 160), .lit (.int .i64 3)], .agg [.lit (.int .i64 170), .lit (.int .i64 170), .lit (.int .i64 1)], .agg [.lit (.int .i64 178), .lit (.int .i64 179), .lit (.int .i64 2)], .agg [.lit (.int .i64 181), .lit (.int .i64 181), .lit (.int .i64 1)], .agg [.lit (.int .i64 185), .lit (.int .i64 185), .lit (.int .i64 2)], .agg [.lit (.int .i64 186), .lit (.int .i64 186), .lit (.int .i64 1)], .agg [.lit (.int .i64 188), .lit (.int .i64 190), .lit (.int .i64 2)], .agg [.lit (.int .i64 192), .lit (.int .i64 214), .lit (.int .i64 1)], .agg [.lit (.int .i64 216), .lit (.int .i64 246), .lit (.int .i64 1)], .agg [.lit (.int .i64 248), .lit (.int .i64 705), .lit (.int .i64 1)], .agg [.lit (.int .i64 880), .lit (.int .i64 883), .lit (.int .i64 1)], .agg [.lit (.int .i64 886), .lit (.int .i64 887), .lit (.int .i64 1)], .agg [.lit (.int .i64 891), .lit (.int .i64 893), .lit (.int .i64 1)], .agg [.lit (.int .i64 895), .lit (.int .i64 895), .lit (.int .i64 1)], .agg [.lit (.int .i64 902), .lit (.int .i64 902), .lit (.int .i64 1)], .agg [.lit (.int .i64 904), .lit (.int .i64 1013), .lit (.int .i64 1)], .agg [.lit (.int .i64 1015), .lit (.int .i64 1153), .lit (.int .i64 1)], .agg [.lit (.int .i64 1162), .lit (.int .i64 1327), .lit (.int .i64 1)], .agg [.lit (.int .i64 1329), .lit (.int .i64 1366), .lit (.int .i64 1)], .agg [.lit (.int .i64 1377), .lit (.int .i64 1415), .lit (.int .i64 1)], .agg [.lit (.int .i64 1488), .lit (.int .i64 1514), .lit (.int .i64 1)], .agg [.lit (.int .i64 1568), .lit (.int .i64 1610), .lit (.int .i64 1)], .agg [.lit (.int .i64 1632), .lit (.int .i64 1641), .lit (.int .i64 2)], .agg [.lit (.int .i64 2308), .lit (.int .i64 2361), .lit (.int .i64 1)], .agg [.lit (.int .i64 2406), .lit (.int .i64 2415), .lit (.int .i64 2)], .agg [.lit (.int .i64 3585), .lit (.int .i64 3632), .lit (.int .i64 1)], .agg [.lit (.int .i64 4256), .lit (.int .i64 4351), .lit (.int .i64 1)], .agg [.lit (.int .i64 4352), .lit (.int .i64 4680), .lit (.int .i64 1)], .agg [.lit (.int .i64 5760), .lit (.int .i64 5760), .lit (.int .i64 3)], .agg [.lit (.int .i64 7680), .lit (.int .i64 8124), .lit (.int .i64 1)], .agg [.lit (.int .i64 8192), .lit (.int .i64 8202), .lit (.int .i64 3)], .agg [.lit (.int .i64 8232), .lit (.int .i64 8233), .lit (.int .i64 3)], .agg [.lit (.int .i64 8239), .lit (.int .i64 8239), .lit (.int .i64 3)], .agg [.lit (.int .i64 8287), .lit (.int .i64 8287), .lit (.int .i64 3)], .agg [.lit (.int .i64 8544), .lit (.int .i64 8584), .lit (.int .i64 2)], .agg [.lit (.int .i64 12288), .lit (.int .i64 12288), .lit (.int .i64 3)], .agg [.lit (.int .i64 12353), .lit (.int .i64 12438), .lit (.int .i64 1)], .agg [.lit (.int .i64 12449), .lit (.int .i64 12538), .lit (.int .i64 1)], .agg [.lit (.int .i64 19968), .lit (.int .i64 40959), .lit (.int .i64 1)], .agg [.lit (.int .i64 44032), .lit (.int .i64 55203), .lit (.int .i64 1)], .agg [.lit (.int .i64 65296), .lit (.int .i64 65305), .lit (.int .i64 2)], .agg [.lit (.int .i64 131072), .lit (.int .i64 173791), .lit (.int .i64 1)]]

/-- 'footbridgelaw02.ClassOf': WHATEVER THE INPUT: true; the input reads as it did. -/
def classOfSpec : ChangeSpec := { name := "classOf", fn := fun _ => fun
  | [d1, d2] => { results := [.lit (.bool true)], args := [d1, d2] }
  | _ => none }
def classOfRow : OpenClaim := { program := "ythhcdblkbdnbeaadoor", sum := "f4ea09e200b1648e14208de5ecc16c8a2add521e557b99799917acaae45331df", func := "footbridge/footbridgelaw02.ClassOf", spec := "classOf", unfollowed := true, recurses := true, named := ["footbridge/class.usual"], apart := false, laid := [("footbridge/class.usual", laid_footbridge_class_usual)] }
def ClassOfSaid : Prop := classOfRow.holds Tryd.pinned (OpenSpec.ofChange classOfSpec)

/-- ITS FALSE NEIGHBOUR: 'it returns false'. Refute it at one input. -/
def classOfWrong : ChangeSpec := { name := "classOf", fn := fun _ => fun
  | [d1, d2] => { results := [.lit (.bool false)], args := [d1, d2] }
  | _ => none }
def ClassOfWrongFalsely : Prop := classOfRow.holds Tryd.pinned (OpenSpec.ofChange classOfWrong)

/-- 'footbridgelaw02.ClassMore': WHATEVER THE INPUT: true; the input reads as it did. -/
def classMoreSpec : ChangeSpec := { name := "classMore", fn := fun _ => fun
  | [d1, d2, d3] => { results := [.lit (.bool true)], args := [d1, d2, d3] }
  | _ => none }
def classMoreRow : OpenClaim := { program := "ythhcdblkbdnbeaadoor", sum := "f4ea09e200b1648e14208de5ecc16c8a2add521e557b99799917acaae45331df", func := "footbridge/footbridgelaw02.ClassMore", spec := "classMore", unfollowed := true, recurses := true, named := ["footbridge/class.usual"], apart := false, laid := [("footbridge/class.usual", laid_footbridge_class_usual)] }
def ClassMoreSaid : Prop := classMoreRow.holds Tryd.pinned (OpenSpec.ofChange classMoreSpec)

/-- ITS FALSE NEIGHBOUR: 'it returns false'. Refute it at one input. -/
def classMoreWrong : ChangeSpec := { name := "classMore", fn := fun _ => fun
  | [d1, d2, d3] => { results := [.lit (.bool false)], args := [d1, d2, d3] }
  | _ => none }
def ClassMoreWrongFalsely : Prop := classMoreRow.holds Tryd.pinned (OpenSpec.ofChange classMoreWrong)

/-- 'footbridgelaw02.ClassOwn': WHATEVER THE INPUT: true; the input reads as it did. -/
def classOwnSpec : ChangeSpec := { name := "classOwn", fn := fun _ => fun
  | [d1, d2, d3] => { results := [.lit (.bool true)], args := [d1, d2, d3] }
  | _ => none }
def classOwnRow : OpenClaim := { program := "ythhcdblkbdnbeaadoor", sum := "f4ea09e200b1648e14208de5ecc16c8a2add521e557b99799917acaae45331df", func := "footbridge/footbridgelaw02.ClassOwn", spec := "classOwn", unfollowed := true, recurses := true, named := ["footbridge/class.usual"], apart := false, laid := [("footbridge/class.usual", laid_footbridge_class_usual)] }
def ClassOwnSaid : Prop := classOwnRow.holds Tryd.pinned (OpenSpec.ofChange classOwnSpec)

/-- ITS FALSE NEIGHBOUR: 'it returns false'. Refute it at one input. -/
def classOwnWrong : ChangeSpec := { name := "classOwn", fn := fun _ => fun
  | [d1, d2, d3] => { results := [.lit (.bool false)], args := [d1, d2, d3] }
  | _ => none }
def ClassOwnWrongFalsely : Prop := classOwnRow.holds Tryd.pinned (OpenSpec.ofChange classOwnWrong)

/-- 'footbridgelaw02.ClassUsual': WHATEVER THE INPUT: true; the input reads as it did. -/
def classUsualSpec : ChangeSpec := { name := "classUsual", fn := fun _ => fun
  | [d1, d2] => { results := [.lit (.bool true)], args := [d1, d2] }
  | _ => none }
def classUsualRow : OpenClaim := { program := "ythhcdblkbdnbeaadoor", sum := "f4ea09e200b1648e14208de5ecc16c8a2add521e557b99799917acaae45331df", func := "footbridge/footbridgelaw02.ClassUsual", spec := "classUsual", unfollowed := true, recurses := true, named := ["footbridge/class.usual"], apart := false, laid := [("footbridge/class.usual", laid_footbridge_class_usual)] }
def ClassUsualSaid : Prop := classUsualRow.holds Tryd.pinned (OpenSpec.ofChange classUsualSpec)

/-- ITS FALSE NEIGHBOUR: 'it returns false'. Refute it at one input. -/
def classUsualWrong : ChangeSpec := { name := "classUsual", fn := fun _ => fun
  | [d1, d2] => { results := [.lit (.bool false)], args := [d1, d2] }
  | _ => none }
def ClassUsualWrongFalsely : Prop := classUsualRow.holds Tryd.pinned (OpenSpec.ofChange classUsualWrong)

/- THE SECOND FORM. 'bulk': how many values and letters a reading holds, each counted each time it is reached (what is shared counts as often as it is met; a slice's spare places count too). A statement '..UptoSaid' is the law's where the arguments, and the package variables that the reading takes, are together of bulk at most 1048576: NARROWER than '..Said'. Prove '..Said' where nothing that the law and all that it calls make is longer than what came in: it says more and counts as full. Else prove '..UptoSaid'. A law counts once. -/
mutual
def uptoBulk {H : Type} : DataW H → Nat
  | .lit (.string bytes) => bytes.length + 1
  | .lit _ => 1
  | .nil => 1
  | .ptr d => uptoBulk d + 1
  | .slice elems spare => uptoBulkAll elems + uptoBulkAll spare + 1
  | .agg parts => uptoBulkAll parts + 1
  | .iface _ d => uptoBulk d + 1
  | .map entries => uptoBulkEntries entries + 1
  | .held _ => 1
def uptoBulkAll {H : Type} : List (DataW H) → Nat
  | [] => 0
  | d :: r => uptoBulk d + uptoBulkAll r
def uptoBulkEntries {H : Type} : List (Lit × DataW H) → Nat
  | [] => 0
  | x :: r => uptoBulkEntry x + uptoBulkEntries r
def uptoBulkEntry {H : Type} : Lit × DataW H → Nat
  | (.string bytes, d) => bytes.length + uptoBulk d + 1
  | (_, d) => uptoBulk d + 1
 end
def uptoSmall : (H : Type) → List (DataW H) → Bool := fun _ ds => decide (uptoBulkAll ds ≤ 1048576)
def OpenSpec.upto (s : _root_.Go.ChangeSpec) : _root_.Go.OpenSpec := { _root_.Go.OpenSpec.ofChange s with cond := some uptoSmall }

/-- 'footbridgelaw02.ClassOf', WHERE WHAT IT READS IS OF BULK AT MOST 1048576: true; the input reads as it did. -/
def classOfUptoRow : OpenClaim := { program := "ythhcdblkbdnbeaadoor", sum := "f4ea09e200b1648e14208de5ecc16c8a2add521e557b99799917acaae45331df", func := "footbridge/footbridgelaw02.ClassOf", spec := "classOf", unfollowed := true, recurses := true, named := ["footbridge/class.usual"], apart := false, laid := [("footbridge/class.usual", laid_footbridge_class_usual)], narrowed := true }
def ClassOfUptoSaid : Prop := classOfUptoRow.holds Tryd.pinned (OpenSpec.upto classOfSpec)

/-- 'footbridgelaw02.ClassMore', WHERE WHAT IT READS IS OF BULK AT MOST 1048576: true; the input reads as it did. -/
def classMoreUptoRow : OpenClaim := { program := "ythhcdblkbdnbeaadoor", sum := "f4ea09e200b1648e14208de5ecc16c8a2add521e557b99799917acaae45331df", func := "footbridge/footbridgelaw02.ClassMore", spec := "classMore", unfollowed := true, recurses := true, named := ["footbridge/class.usual"], apart := false, laid := [("footbridge/class.usual", laid_footbridge_class_usual)], narrowed := true }
def ClassMoreUptoSaid : Prop := classMoreUptoRow.holds Tryd.pinned (OpenSpec.upto classMoreSpec)

/-- 'footbridgelaw02.ClassOwn', WHERE WHAT IT READS IS OF BULK AT MOST 1048576: true; the input reads as it did. -/
def classOwnUptoRow : OpenClaim := { program := "ythhcdblkbdnbeaadoor", sum := "f4ea09e200b1648e14208de5ecc16c8a2add521e557b99799917acaae45331df", func := "footbridge/footbridgelaw02.ClassOwn", spec := "classOwn", unfollowed := true, recurses := true, named := ["footbridge/class.usual"], apart := false, laid := [("footbridge/class.usual", laid_footbridge_class_usual)], narrowed := true }
def ClassOwnUptoSaid : Prop := classOwnUptoRow.holds Tryd.pinned (OpenSpec.upto classOwnSpec)

/-- 'footbridgelaw02.ClassUsual', WHERE WHAT IT READS IS OF BULK AT MOST 1048576: true; the input reads as it did. -/
def classUsualUptoRow : OpenClaim := { program := "ythhcdblkbdnbeaadoor", sum := "f4ea09e200b1648e14208de5ecc16c8a2add521e557b99799917acaae45331df", func := "footbridge/footbridgelaw02.ClassUsual", spec := "classUsual", unfollowed := true, recurses := true, named := ["footbridge/class.usual"], apart := false, laid := [("footbridge/class.usual", laid_footbridge_class_usual)], narrowed := true }
def ClassUsualUptoSaid : Prop := classUsualUptoRow.holds Tryd.pinned (OpenSpec.upto classUsualSpec)

end Rows
end Go.Proofs.YthhcdblkbdnbeaaDoor
