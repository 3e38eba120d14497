/-
  DERIVED. GIVEN WITH THE SEED: THE CARDS: each row of YtefhifmilmedhaaDoorRows.lean that lists a variable, with what it lists TIED to the program's text (the seventh form; the later family's looks); each row that meets fmt, with fmt's text TOLD by the authors' own Lean function (tested against real Go, not proved from fmt's source: count such statements apart). THE CARD IS WHAT COUNTS. Prove the row's statement (the work); the ties are given (YtefhifmilmedhaaDoorTie.lean); close each card by the builder's one call (the guide's Derived/Test/ToyasCard.lean, 'card_holds'). Laid BY PROGRAM, IN A SANDBOX (cutbox-door.mjs). By AI agents, Wed Nov 11 2026. No macro, syntax, notation, axiom, sorry.
-/
import Derived.Test.YtefhifmilmedhaaDoorRows
import GoSem.ClaimSeven
namespace Go.Proofs.YtefhifmilmedhaaDoor
namespace Rows

/-- THE TIED CARD OF 'footbridgelaw06.LineLines'. -/
def lineLinesCard : Claim7 := { stood := { row := lineLinesRow, standIns := [], harness := (true, "aa8f708153ff3c29965fc535efbaf9921cf043f4a73fe8bf5fb2d5bb5221ab65"), looks := false }, kinds := [], alts := [], laidByText := true, laidKinds := [.data, .data, .data], laidTests := true, laidLooks := .later }
def LineLinesCardSaid : Prop := Claim7.holds Tryd.pinned (.plain (OpenSpec.ofChange lineLinesSpec)) lineLinesCard

/-- THE TIED CARD OF 'footbridgelaw06.LineWords'. -/
def lineWordsCard : Claim7 := { stood := { row := lineWordsRow, standIns := [], harness := (true, "aa8f708153ff3c29965fc535efbaf9921cf043f4a73fe8bf5fb2d5bb5221ab65"), looks := false }, kinds := [], alts := [], laidByText := true, laidKinds := [.data, .data, .data], laidTests := true, laidLooks := .later }
def LineWordsCardSaid : Prop := Claim7.holds Tryd.pinned (.plain (OpenSpec.ofChange lineWordsSpec)) lineWordsCard

/-- THE TIED CARD OF 'footbridgelaw06.LineNumbers'. -/
def lineNumbersCard : Claim7 := { stood := { row := lineNumbersRow, standIns := [], harness := (true, "aa8f708153ff3c29965fc535efbaf9921cf043f4a73fe8bf5fb2d5bb5221ab65"), looks := false }, kinds := [], alts := [], laidByText := true, laidKinds := [.data, .data, .data], laidTests := true, laidLooks := .later }
def LineNumbersCardSaid : Prop := Claim7.holds Tryd.pinned (.plain (OpenSpec.ofChange lineNumbersSpec)) lineNumbersCard

/-- THE TIED CARD OF 'footbridgelaw06.LineJoins'. -/
def lineJoinsCard : Claim7 := { stood := { row := lineJoinsRow, standIns := [], harness := (true, "aa8f708153ff3c29965fc535efbaf9921cf043f4a73fe8bf5fb2d5bb5221ab65"), looks := false }, kinds := [], alts := [], laidByText := true, laidKinds := [.data, .data, .data], laidTests := true, laidLooks := .later }
def LineJoinsCardSaid : Prop := Claim7.holds Tryd.pinned (.plain (OpenSpec.ofChange lineJoinsSpec)) lineJoinsCard

/-- THE TIED CARD OF 'footbridgelaw07.RankWrites'. -/
def rankWritesCard : Claim7 := { stood := { row := rankWritesRow, standIns := [], harness := (true, "aa8f708153ff3c29965fc535efbaf9921cf043f4a73fe8bf5fb2d5bb5221ab65"), looks := false }, kinds := [], alts := [], laidByText := true, laidKinds := [.data, .data, .data, .sentinel], laidTests := true, laidLooks := .later }
def RankWritesCardSaid : Prop := Claim7.holds Tryd.pinned (.plain (OpenSpec.ofChange rankWritesSpec)) rankWritesCard

/-- THE TIED CARD OF 'footbridgelaw07.RankLines'. -/
def rankLinesCard : Claim7 := { stood := { row := rankLinesRow, standIns := [], harness := (true, "aa8f708153ff3c29965fc535efbaf9921cf043f4a73fe8bf5fb2d5bb5221ab65"), looks := false }, kinds := [], alts := [], laidByText := true, laidKinds := [.data, .data, .data, .sentinel], laidTests := true, laidLooks := .later }
def RankLinesCardSaid : Prop := Claim7.holds Tryd.pinned (.plain (OpenSpec.ofChange rankLinesSpec)) rankLinesCard

/-- THE TIED CARD OF 'footbridgelaw07.RankLong'. -/
def rankLongCard : Claim7 := { stood := { row := rankLongRow, standIns := [], harness := (true, "aa8f708153ff3c29965fc535efbaf9921cf043f4a73fe8bf5fb2d5bb5221ab65"), looks := false }, kinds := [], alts := [], laidByText := true, laidKinds := [.data, .data, .data, .sentinel], laidTests := true, laidLooks := .later }
def RankLongCardSaid : Prop := Claim7.holds Tryd.pinned (.plain (OpenSpec.ofChange rankLongSpec)) rankLongCard

/-- THE TIED CARD OF 'footbridgelaw08.MergeWrites'. -/
def mergeWritesCard : Claim7 := { stood := { row := mergeWritesRow, standIns := [], harness := (true, "aa8f708153ff3c29965fc535efbaf9921cf043f4a73fe8bf5fb2d5bb5221ab65"), looks := false }, kinds := [], alts := [], laidByText := true, laidKinds := [.data, .data, .data, .sentinel], laidTests := true, laidLooks := .later }
def MergeWritesCardSaid : Prop := Claim7.holds Tryd.pinned (.plain (OpenSpec.ofChange mergeWritesSpec)) mergeWritesCard

/-- THE TIED CARD OF 'footbridgelaw08.MergeParts'. -/
def mergePartsCard : Claim7 := { stood := { row := mergePartsRow, standIns := [], harness := (true, "aa8f708153ff3c29965fc535efbaf9921cf043f4a73fe8bf5fb2d5bb5221ab65"), looks := false }, kinds := [], alts := [], laidByText := true, laidKinds := [.data, .data, .data, .sentinel], laidTests := true, laidLooks := .later }
def MergePartsCardSaid : Prop := Claim7.holds Tryd.pinned (.plain (OpenSpec.ofChange mergePartsSpec)) mergePartsCard

/-- THE TIED CARD OF 'footbridgelaw08.MergeOne'. -/
def mergeOneCard : Claim7 := { stood := { row := mergeOneRow, standIns := [], harness := (true, "aa8f708153ff3c29965fc535efbaf9921cf043f4a73fe8bf5fb2d5bb5221ab65"), looks := false }, kinds := [], alts := [], laidByText := true, laidKinds := [.data, .data, .data, .sentinel], laidTests := true, laidLooks := .later }
def MergeOneCardSaid : Prop := Claim7.holds Tryd.pinned (.plain (OpenSpec.ofChange mergeOneSpec)) mergeOneCard

/-- THE SECOND FORM's CARD OF 'footbridgelaw06.LineLines'. -/
def lineLinesUptoCard : Claim7 := { stood := { row := lineLinesUptoRow, standIns := [], harness := (true, "aa8f708153ff3c29965fc535efbaf9921cf043f4a73fe8bf5fb2d5bb5221ab65"), looks := false }, kinds := [], alts := [], laidByText := true, laidKinds := [.data, .data, .data], laidTests := true, laidLooks := .later }
def LineLinesUptoCardSaid : Prop := Claim7.holds Tryd.pinned (.plain (OpenSpec.upto lineLinesSpec)) lineLinesUptoCard

/-- THE SECOND FORM's CARD OF 'footbridgelaw06.LineWords'. -/
def lineWordsUptoCard : Claim7 := { stood := { row := lineWordsUptoRow, standIns := [], harness := (true, "aa8f708153ff3c29965fc535efbaf9921cf043f4a73fe8bf5fb2d5bb5221ab65"), looks := false }, kinds := [], alts := [], laidByText := true, laidKinds := [.data, .data, .data], laidTests := true, laidLooks := .later }
def LineWordsUptoCardSaid : Prop := Claim7.holds Tryd.pinned (.plain (OpenSpec.upto lineWordsSpec)) lineWordsUptoCard

/-- THE SECOND FORM's CARD OF 'footbridgelaw06.LineNumbers'. -/
def lineNumbersUptoCard : Claim7 := { stood := { row := lineNumbersUptoRow, standIns := [], harness := (true, "aa8f708153ff3c29965fc535efbaf9921cf043f4a73fe8bf5fb2d5bb5221ab65"), looks := false }, kinds := [], alts := [], laidByText := true, laidKinds := [.data, .data, .data], laidTests := true, laidLooks := .later }
def LineNumbersUptoCardSaid : Prop := Claim7.holds Tryd.pinned (.plain (OpenSpec.upto lineNumbersSpec)) lineNumbersUptoCard

/-- THE SECOND FORM's CARD OF 'footbridgelaw06.LineJoins'. -/
def lineJoinsUptoCard : Claim7 := { stood := { row := lineJoinsUptoRow, standIns := [], harness := (true, "aa8f708153ff3c29965fc535efbaf9921cf043f4a73fe8bf5fb2d5bb5221ab65"), looks := false }, kinds := [], alts := [], laidByText := true, laidKinds := [.data, .data, .data], laidTests := true, laidLooks := .later }
def LineJoinsUptoCardSaid : Prop := Claim7.holds Tryd.pinned (.plain (OpenSpec.upto lineJoinsSpec)) lineJoinsUptoCard

/-- THE SECOND FORM's CARD OF 'footbridgelaw07.RankWrites'. -/
def rankWritesUptoCard : Claim7 := { stood := { row := rankWritesUptoRow, standIns := [], harness := (true, "aa8f708153ff3c29965fc535efbaf9921cf043f4a73fe8bf5fb2d5bb5221ab65"), looks := false }, kinds := [], alts := [], laidByText := true, laidKinds := [.data, .data, .data, .sentinel], laidTests := true, laidLooks := .later }
def RankWritesUptoCardSaid : Prop := Claim7.holds Tryd.pinned (.plain (OpenSpec.upto rankWritesSpec)) rankWritesUptoCard

/-- THE SECOND FORM's CARD OF 'footbridgelaw07.RankLines'. -/
def rankLinesUptoCard : Claim7 := { stood := { row := rankLinesUptoRow, standIns := [], harness := (true, "aa8f708153ff3c29965fc535efbaf9921cf043f4a73fe8bf5fb2d5bb5221ab65"), looks := false }, kinds := [], alts := [], laidByText := true, laidKinds := [.data, .data, .data, .sentinel], laidTests := true, laidLooks := .later }
def RankLinesUptoCardSaid : Prop := Claim7.holds Tryd.pinned (.plain (OpenSpec.upto rankLinesSpec)) rankLinesUptoCard

/-- THE SECOND FORM's CARD OF 'footbridgelaw07.RankLong'. -/
def rankLongUptoCard : Claim7 := { stood := { row := rankLongUptoRow, standIns := [], harness := (true, "aa8f708153ff3c29965fc535efbaf9921cf043f4a73fe8bf5fb2d5bb5221ab65"), looks := false }, kinds := [], alts := [], laidByText := true, laidKinds := [.data, .data, .data, .sentinel], laidTests := true, laidLooks := .later }
def RankLongUptoCardSaid : Prop := Claim7.holds Tryd.pinned (.plain (OpenSpec.upto rankLongSpec)) rankLongUptoCard

/-- THE SECOND FORM's CARD OF 'footbridgelaw08.MergeWrites'. -/
def mergeWritesUptoCard : Claim7 := { stood := { row := mergeWritesUptoRow, standIns := [], harness := (true, "aa8f708153ff3c29965fc535efbaf9921cf043f4a73fe8bf5fb2d5bb5221ab65"), looks := false }, kinds := [], alts := [], laidByText := true, laidKinds := [.data, .data, .data, .sentinel], laidTests := true, laidLooks := .later }
def MergeWritesUptoCardSaid : Prop := Claim7.holds Tryd.pinned (.plain (OpenSpec.upto mergeWritesSpec)) mergeWritesUptoCard

/-- THE SECOND FORM's CARD OF 'footbridgelaw08.MergeParts'. -/
def mergePartsUptoCard : Claim7 := { stood := { row := mergePartsUptoRow, standIns := [], harness := (true, "aa8f708153ff3c29965fc535efbaf9921cf043f4a73fe8bf5fb2d5bb5221ab65"), looks := false }, kinds := [], alts := [], laidByText := true, laidKinds := [.data, .data, .data, .sentinel], laidTests := true, laidLooks := .later }
def MergePartsUptoCardSaid : Prop := Claim7.holds Tryd.pinned (.plain (OpenSpec.upto mergePartsSpec)) mergePartsUptoCard

/-- THE SECOND FORM's CARD OF 'footbridgelaw08.MergeOne'. -/
def mergeOneUptoCard : Claim7 := { stood := { row := mergeOneUptoRow, standIns := [], harness := (true, "aa8f708153ff3c29965fc535efbaf9921cf043f4a73fe8bf5fb2d5bb5221ab65"), looks := false }, kinds := [], alts := [], laidByText := true, laidKinds := [.data, .data, .data, .sentinel], laidTests := true, laidLooks := .later }
def MergeOneUptoCardSaid : Prop := Claim7.holds Tryd.pinned (.plain (OpenSpec.upto mergeOneSpec)) mergeOneUptoCard
end Rows
end Go.Proofs.YtefhifmilmedhaaDoor
