/-
  DERIVED. GIVEN WITH THE SEED: THE CARDS: each row of YtkiggpbmlkfdpaaDoorRows.lean that lists a variable, with what it lists TIED to the program's text (the seventh form; the later family's looks); each row that meets fmt, with fmt's text TOLD by the authors' own Lean function (tested against real Go, not proved from fmt's source: count such statements apart). THE CARD IS WHAT COUNTS. Prove the row's statement (the work); the ties are given (YtkiggpbmlkfdpaaDoorTie.lean); close each card by the builder's one call (the guide's Derived/Test/ToyasCard.lean, 'card_holds'). Laid BY PROGRAM, IN A SANDBOX (cutbox-door.mjs). By AI agents, Wed Nov 11 2026. No macro, syntax, notation, axiom, sorry.
-/
import Derived.Test.YtkiggpbmlkfdpaaDoorRows
import GoSem.ClaimSeven
namespace Go.Proofs.YtkiggpbmlkfdpaaDoor
namespace Rows

/-- THE TIED CARD OF 'footbridgelaw12.ScanNexts'. -/
def scanNextsCard : Claim7 := { stood := { row := scanNextsRow, standIns := [], harness := (true, "e5511a2a62fdfce6fde87613b505736a2dd296dd0b398b62e12be4dca6d31fc5"), looks := false }, kinds := [], alts := [], laidByText := true, laidKinds := [.widerDeep], laidTests := true, laidLooks := .later }
def ScanNextsCardSaid : Prop := Claim7.holds Tryd.pinned (.plain (OpenSpec.ofChange scanNextsSpec)) scanNextsCard

/-- THE TIED CARD OF 'footbridgelaw12.ScanUsual'. -/
def scanUsualCard : Claim7 := { stood := { row := scanUsualRow, standIns := [], harness := (true, "e5511a2a62fdfce6fde87613b505736a2dd296dd0b398b62e12be4dca6d31fc5"), looks := false }, kinds := [], alts := [], laidByText := true, laidKinds := [.widerDeep], laidTests := true, laidLooks := .later }
def ScanUsualCardSaid : Prop := Claim7.holds Tryd.pinned (.plain (OpenSpec.ofChange scanUsualSpec)) scanUsualCard

/-- THE TIED CARD OF 'footbridgelaw12.ScanStays'. -/
def scanStaysCard : Claim7 := { stood := { row := scanStaysRow, standIns := [], harness := (true, "e5511a2a62fdfce6fde87613b505736a2dd296dd0b398b62e12be4dca6d31fc5"), looks := false }, kinds := [], alts := [], laidByText := true, laidKinds := [.widerDeep], laidTests := true, laidLooks := .later }
def ScanStaysCardSaid : Prop := Claim7.holds Tryd.pinned (.plain (OpenSpec.ofChange scanStaysSpec)) scanStaysCard

/-- THE TIED CARD OF 'footbridgelaw12.ScanOpen'. -/
def scanOpenCard : Claim7 := { stood := { row := scanOpenRow, standIns := [], harness := (true, "e5511a2a62fdfce6fde87613b505736a2dd296dd0b398b62e12be4dca6d31fc5"), looks := false }, kinds := [], alts := [], laidByText := true, laidKinds := [.widerDeep], laidTests := true, laidLooks := .later }
def ScanOpenCardSaid : Prop := Claim7.holds Tryd.pinned (.plain (OpenSpec.ofChange scanOpenSpec)) scanOpenCard

/-- THE TIED CARD OF 'footbridgelaw12.ScanFew'. -/
def scanFewCard : Claim7 := { stood := { row := scanFewRow, standIns := [], harness := (true, "e5511a2a62fdfce6fde87613b505736a2dd296dd0b398b62e12be4dca6d31fc5"), looks := false }, kinds := [], alts := [], laidByText := true, laidKinds := [.widerDeep], laidTests := true, laidLooks := .later }
def ScanFewCardSaid : Prop := Claim7.holds Tryd.pinned (.plain (OpenSpec.ofChange scanFewSpec)) scanFewCard

/-- THE TIED CARD OF 'footbridgelaw12.ScanPieces'. -/
def scanPiecesCard : Claim7 := { stood := { row := scanPiecesRow, standIns := [], harness := (true, "e5511a2a62fdfce6fde87613b505736a2dd296dd0b398b62e12be4dca6d31fc5"), looks := false }, kinds := [], alts := [], laidByText := true, laidKinds := [.widerDeep], laidTests := true, laidLooks := .later }
def ScanPiecesCardSaid : Prop := Claim7.holds Tryd.pinned (.plain (OpenSpec.ofChange scanPiecesSpec)) scanPiecesCard

/-- THE TIED CARD OF 'footbridgelaw13.SplitMarks'. -/
def splitMarksCard : Claim7 := { stood := { row := splitMarksRow, standIns := [], harness := (true, "e5511a2a62fdfce6fde87613b505736a2dd296dd0b398b62e12be4dca6d31fc5"), looks := false }, kinds := [], alts := [], laidByText := true, laidKinds := [.widerDeep], laidTests := true, laidLooks := .later }
def SplitMarksCardSaid : Prop := Claim7.holds Tryd.pinned (.plain (OpenSpec.ofChange splitMarksSpec)) splitMarksCard

/-- THE TIED CARD OF 'footbridgelaw13.SplitFew'. -/
def splitFewCard : Claim7 := { stood := { row := splitFewRow, standIns := [], harness := (true, "e5511a2a62fdfce6fde87613b505736a2dd296dd0b398b62e12be4dca6d31fc5"), looks := false }, kinds := [], alts := [], laidByText := true, laidKinds := [.widerDeep], laidTests := true, laidLooks := .later }
def SplitFewCardSaid : Prop := Claim7.holds Tryd.pinned (.plain (OpenSpec.ofChange splitFewSpec)) splitFewCard

/-- THE TIED CARD OF 'footbridgelaw13.SplitPieces'. -/
def splitPiecesCard : Claim7 := { stood := { row := splitPiecesRow, standIns := [], harness := (true, "e5511a2a62fdfce6fde87613b505736a2dd296dd0b398b62e12be4dca6d31fc5"), looks := false }, kinds := [], alts := [], laidByText := true, laidKinds := [.widerDeep], laidTests := true, laidLooks := .later }
def SplitPiecesCardSaid : Prop := Claim7.holds Tryd.pinned (.plain (OpenSpec.ofChange splitPiecesSpec)) splitPiecesCard

/-- THE TIED CARD OF 'footbridgelaw13.SplitStays'. -/
def splitStaysCard : Claim7 := { stood := { row := splitStaysRow, standIns := [], harness := (true, "e5511a2a62fdfce6fde87613b505736a2dd296dd0b398b62e12be4dca6d31fc5"), looks := false }, kinds := [], alts := [], laidByText := true, laidKinds := [.widerDeep], laidTests := true, laidLooks := .later }
def SplitStaysCardSaid : Prop := Claim7.holds Tryd.pinned (.plain (OpenSpec.ofChange splitStaysSpec)) splitStaysCard

/-- THE TIED CARD OF 'footbridgelaw13.SplitSums'. -/
def splitSumsCard : Claim7 := { stood := { row := splitSumsRow, standIns := [], harness := (true, "e5511a2a62fdfce6fde87613b505736a2dd296dd0b398b62e12be4dca6d31fc5"), looks := false }, kinds := [], alts := [], laidByText := true, laidKinds := [.widerDeep], laidTests := true, laidLooks := .later }
def SplitSumsCardSaid : Prop := Claim7.holds Tryd.pinned (.plain (OpenSpec.ofChange splitSumsSpec)) splitSumsCard

/-- THE SECOND FORM's CARD OF 'footbridgelaw12.ScanNexts'. -/
def scanNextsUptoCard : Claim7 := { stood := { row := scanNextsUptoRow, standIns := [], harness := (true, "e5511a2a62fdfce6fde87613b505736a2dd296dd0b398b62e12be4dca6d31fc5"), looks := false }, kinds := [], alts := [], laidByText := true, laidKinds := [.widerDeep], laidTests := true, laidLooks := .later }
def ScanNextsUptoCardSaid : Prop := Claim7.holds Tryd.pinned (.plain (OpenSpec.upto scanNextsSpec)) scanNextsUptoCard

/-- THE SECOND FORM's CARD OF 'footbridgelaw12.ScanUsual'. -/
def scanUsualUptoCard : Claim7 := { stood := { row := scanUsualUptoRow, standIns := [], harness := (true, "e5511a2a62fdfce6fde87613b505736a2dd296dd0b398b62e12be4dca6d31fc5"), looks := false }, kinds := [], alts := [], laidByText := true, laidKinds := [.widerDeep], laidTests := true, laidLooks := .later }
def ScanUsualUptoCardSaid : Prop := Claim7.holds Tryd.pinned (.plain (OpenSpec.upto scanUsualSpec)) scanUsualUptoCard

/-- THE SECOND FORM's CARD OF 'footbridgelaw12.ScanStays'. -/
def scanStaysUptoCard : Claim7 := { stood := { row := scanStaysUptoRow, standIns := [], harness := (true, "e5511a2a62fdfce6fde87613b505736a2dd296dd0b398b62e12be4dca6d31fc5"), looks := false }, kinds := [], alts := [], laidByText := true, laidKinds := [.widerDeep], laidTests := true, laidLooks := .later }
def ScanStaysUptoCardSaid : Prop := Claim7.holds Tryd.pinned (.plain (OpenSpec.upto scanStaysSpec)) scanStaysUptoCard

/-- THE SECOND FORM's CARD OF 'footbridgelaw12.ScanOpen'. -/
def scanOpenUptoCard : Claim7 := { stood := { row := scanOpenUptoRow, standIns := [], harness := (true, "e5511a2a62fdfce6fde87613b505736a2dd296dd0b398b62e12be4dca6d31fc5"), looks := false }, kinds := [], alts := [], laidByText := true, laidKinds := [.widerDeep], laidTests := true, laidLooks := .later }
def ScanOpenUptoCardSaid : Prop := Claim7.holds Tryd.pinned (.plain (OpenSpec.upto scanOpenSpec)) scanOpenUptoCard

/-- THE SECOND FORM's CARD OF 'footbridgelaw12.ScanFew'. -/
def scanFewUptoCard : Claim7 := { stood := { row := scanFewUptoRow, standIns := [], harness := (true, "e5511a2a62fdfce6fde87613b505736a2dd296dd0b398b62e12be4dca6d31fc5"), looks := false }, kinds := [], alts := [], laidByText := true, laidKinds := [.widerDeep], laidTests := true, laidLooks := .later }
def ScanFewUptoCardSaid : Prop := Claim7.holds Tryd.pinned (.plain (OpenSpec.upto scanFewSpec)) scanFewUptoCard

/-- THE SECOND FORM's CARD OF 'footbridgelaw12.ScanPieces'. -/
def scanPiecesUptoCard : Claim7 := { stood := { row := scanPiecesUptoRow, standIns := [], harness := (true, "e5511a2a62fdfce6fde87613b505736a2dd296dd0b398b62e12be4dca6d31fc5"), looks := false }, kinds := [], alts := [], laidByText := true, laidKinds := [.widerDeep], laidTests := true, laidLooks := .later }
def ScanPiecesUptoCardSaid : Prop := Claim7.holds Tryd.pinned (.plain (OpenSpec.upto scanPiecesSpec)) scanPiecesUptoCard

/-- THE SECOND FORM's CARD OF 'footbridgelaw13.SplitMarks'. -/
def splitMarksUptoCard : Claim7 := { stood := { row := splitMarksUptoRow, standIns := [], harness := (true, "e5511a2a62fdfce6fde87613b505736a2dd296dd0b398b62e12be4dca6d31fc5"), looks := false }, kinds := [], alts := [], laidByText := true, laidKinds := [.widerDeep], laidTests := true, laidLooks := .later }
def SplitMarksUptoCardSaid : Prop := Claim7.holds Tryd.pinned (.plain (OpenSpec.upto splitMarksSpec)) splitMarksUptoCard

/-- THE SECOND FORM's CARD OF 'footbridgelaw13.SplitFew'. -/
def splitFewUptoCard : Claim7 := { stood := { row := splitFewUptoRow, standIns := [], harness := (true, "e5511a2a62fdfce6fde87613b505736a2dd296dd0b398b62e12be4dca6d31fc5"), looks := false }, kinds := [], alts := [], laidByText := true, laidKinds := [.widerDeep], laidTests := true, laidLooks := .later }
def SplitFewUptoCardSaid : Prop := Claim7.holds Tryd.pinned (.plain (OpenSpec.upto splitFewSpec)) splitFewUptoCard

/-- THE SECOND FORM's CARD OF 'footbridgelaw13.SplitPieces'. -/
def splitPiecesUptoCard : Claim7 := { stood := { row := splitPiecesUptoRow, standIns := [], harness := (true, "e5511a2a62fdfce6fde87613b505736a2dd296dd0b398b62e12be4dca6d31fc5"), looks := false }, kinds := [], alts := [], laidByText := true, laidKinds := [.widerDeep], laidTests := true, laidLooks := .later }
def SplitPiecesUptoCardSaid : Prop := Claim7.holds Tryd.pinned (.plain (OpenSpec.upto splitPiecesSpec)) splitPiecesUptoCard

/-- THE SECOND FORM's CARD OF 'footbridgelaw13.SplitStays'. -/
def splitStaysUptoCard : Claim7 := { stood := { row := splitStaysUptoRow, standIns := [], harness := (true, "e5511a2a62fdfce6fde87613b505736a2dd296dd0b398b62e12be4dca6d31fc5"), looks := false }, kinds := [], alts := [], laidByText := true, laidKinds := [.widerDeep], laidTests := true, laidLooks := .later }
def SplitStaysUptoCardSaid : Prop := Claim7.holds Tryd.pinned (.plain (OpenSpec.upto splitStaysSpec)) splitStaysUptoCard

/-- THE SECOND FORM's CARD OF 'footbridgelaw13.SplitSums'. -/
def splitSumsUptoCard : Claim7 := { stood := { row := splitSumsUptoRow, standIns := [], harness := (true, "e5511a2a62fdfce6fde87613b505736a2dd296dd0b398b62e12be4dca6d31fc5"), looks := false }, kinds := [], alts := [], laidByText := true, laidKinds := [.widerDeep], laidTests := true, laidLooks := .later }
def SplitSumsUptoCardSaid : Prop := Claim7.holds Tryd.pinned (.plain (OpenSpec.upto splitSumsSpec)) splitSumsUptoCard
end Rows
end Go.Proofs.YtkiggpbmlkfdpaaDoor
