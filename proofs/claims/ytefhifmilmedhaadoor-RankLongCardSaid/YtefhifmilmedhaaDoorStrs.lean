/- A row of strings: its length, its cells; equality of strings; draws added up. -/
import Derived.Test.YtefhifmilmedhaaDoorLineLines
import Derived.BigQuiet
import Derived.LoopN
namespace Go.Proofs.YtefhifmilmedhaaDoor
open Go.RowKit

section
variable {w w' : World} {B B' n c : Nat} {A : Option Addr} {l : List (List UInt8)}
theorem StrsAt.len (h : StrsAt w B A n c l) : n = l.length := by have := h.1; rw [length_strsV] at this; omega
theorem StrsAt.cells (h : StrsAt w B A n c l) (h0 : 0 < n) : ∃ b off, A = some ⟨b, off, none⟩ ∧ b < B ∧ ∀ i (hi : i < l.length), w.cell? ⟨b, off + i, none⟩ = some (.string (strOf l[i])) := by
  obtain ⟨b, off, e, hb, hc⟩ := h.2.2.2 h0
  refine ⟨b, off, e, hb, fun i hi => hc i _ ?_⟩
  simp [strsV, List.getElem?_eq_getElem hi]
end
theorem str_eq_of {a b : List UInt8} (h : a = b) : ((strOf a).toList == (strOf b).toList) = true := by rw [h]; simp
theorem str_ne_of {a b : List UInt8} (h : a ≠ b) : ((strOf a).toList == (strOf b).toList) = false := by
  rw [ByteArray.toList_eq, ByteArray.toList_eq, strOf_list, strOf_list, beq_eq_false_iff_ne]; exact h

theorem drewN_drewN (w : World) (a b : Nat) : (w.drewN a).drewN b = w.drewN (a + b) := by simp [World.drewN, Nat.add_assoc]
end Go.Proofs.YtefhifmilmedhaaDoor
