/-
  DERIVED. GIVEN WITH THE SEED: THE CARDS: each row of YthhcdblkbdnbeaaDoorRows.lean that lists a variable, with what it lists TIED to the program's text (the seventh form; the later family's looks); each row that meets fmt, with fmt's text TOLD by the authors' own Lean function (tested against real Go, not proved from fmt's source: count such statements apart). THE CARD IS WHAT COUNTS. Prove the row's statement (the work); the ties are given (YthhcdblkbdnbeaaDoorTie.lean); close each card by the builder's one call (the guide's Derived/Test/ToyasCard.lean, 'card_holds'). Laid BY PROGRAM, IN A SANDBOX (cutbox-door.mjs). By AI agents, Wed Nov 11 2026. No macro, syntax, notation, axiom, sorry.
-/
import Derived.Test.YthhcdblkbdnbeaaDoorRows
import GoSem.ClaimSeven
namespace Go.Proofs.YthhcdblkbdnbeaaDoor
namespace Rows

/-- THE TIED CARD OF 'footbridgelaw02.ClassOf'. -/
def classOfCard : Claim7 := { stood := { row := classOfRow, standIns := [], harness := (true, "0512018d67e87b4337cd3b7d7fcd52df2a187d692e6983470d4cfab288b65920"), looks := false }, kinds := [], alts := [], laidByText := true, laidKinds := [.widerDeep], laidTests := true, laidLooks := .later }
def ClassOfCardSaid : Prop := Claim7.holds Tryd.pinned (.plain (OpenSpec.ofChange classOfSpec)) classOfCard

/-- THE TIED CARD OF 'footbridgelaw02.ClassMore'. -/
def classMoreCard : Claim7 := { stood := { row := classMoreRow, standIns := [], harness := (true, "0512018d67e87b4337cd3b7d7fcd52df2a187d692e6983470d4cfab288b65920"), looks := false }, kinds := [], alts := [], laidByText := true, laidKinds := [.widerDeep], laidTests := true, laidLooks := .later }
def ClassMoreCardSaid : Prop := Claim7.holds Tryd.pinned (.plain (OpenSpec.ofChange classMoreSpec)) classMoreCard

/-- THE TIED CARD OF 'footbridgelaw02.ClassOwn'. -/
def classOwnCard : Claim7 := { stood := { row := classOwnRow, standIns := [], harness := (true, "0512018d67e87b4337cd3b7d7fcd52df2a187d692e6983470d4cfab288b65920"), looks := false }, kinds := [], alts := [], laidByText := true, laidKinds := [.widerDeep], laidTests := true, laidLooks := .later }
def ClassOwnCardSaid : Prop := Claim7.holds Tryd.pinned (.plain (OpenSpec.ofChange classOwnSpec)) classOwnCard

/-- THE TIED CARD OF 'footbridgelaw02.ClassUsual'. -/
def classUsualCard : Claim7 := { stood := { row := classUsualRow, standIns := [], harness := (true, "0512018d67e87b4337cd3b7d7fcd52df2a187d692e6983470d4cfab288b65920"), looks := false }, kinds := [], alts := [], laidByText := true, laidKinds := [.widerDeep], laidTests := true, laidLooks := .later }
def ClassUsualCardSaid : Prop := Claim7.holds Tryd.pinned (.plain (OpenSpec.ofChange classUsualSpec)) classUsualCard

/-- THE SECOND FORM's CARD OF 'footbridgelaw02.ClassOf'. -/
def classOfUptoCard : Claim7 := { stood := { row := classOfUptoRow, standIns := [], harness := (true, "0512018d67e87b4337cd3b7d7fcd52df2a187d692e6983470d4cfab288b65920"), looks := false }, kinds := [], alts := [], laidByText := true, laidKinds := [.widerDeep], laidTests := true, laidLooks := .later }
def ClassOfUptoCardSaid : Prop := Claim7.holds Tryd.pinned (.plain (OpenSpec.upto classOfSpec)) classOfUptoCard

/-- THE SECOND FORM's CARD OF 'footbridgelaw02.ClassMore'. -/
def classMoreUptoCard : Claim7 := { stood := { row := classMoreUptoRow, standIns := [], harness := (true, "0512018d67e87b4337cd3b7d7fcd52df2a187d692e6983470d4cfab288b65920"), looks := false }, kinds := [], alts := [], laidByText := true, laidKinds := [.widerDeep], laidTests := true, laidLooks := .later }
def ClassMoreUptoCardSaid : Prop := Claim7.holds Tryd.pinned (.plain (OpenSpec.upto classMoreSpec)) classMoreUptoCard

/-- THE SECOND FORM's CARD OF 'footbridgelaw02.ClassOwn'. -/
def classOwnUptoCard : Claim7 := { stood := { row := classOwnUptoRow, standIns := [], harness := (true, "0512018d67e87b4337cd3b7d7fcd52df2a187d692e6983470d4cfab288b65920"), looks := false }, kinds := [], alts := [], laidByText := true, laidKinds := [.widerDeep], laidTests := true, laidLooks := .later }
def ClassOwnUptoCardSaid : Prop := Claim7.holds Tryd.pinned (.plain (OpenSpec.upto classOwnSpec)) classOwnUptoCard

/-- THE SECOND FORM's CARD OF 'footbridgelaw02.ClassUsual'. -/
def classUsualUptoCard : Claim7 := { stood := { row := classUsualUptoRow, standIns := [], harness := (true, "0512018d67e87b4337cd3b7d7fcd52df2a187d692e6983470d4cfab288b65920"), looks := false }, kinds := [], alts := [], laidByText := true, laidKinds := [.widerDeep], laidTests := true, laidLooks := .later }
def ClassUsualUptoCardSaid : Prop := Claim7.holds Tryd.pinned (.plain (OpenSpec.upto classUsualSpec)) classUsualUptoCard
end Rows
end Go.Proofs.YthhcdblkbdnbeaaDoor
