/- A [][]int that came in, opened. -/
import Derived.Test.YtohfkpoblebfaaaOpen
import Derived.Test.YtohfkpoblebfaaaAhoPats
import Derived.Deep.Matrix
namespace Go.Proofs.Ytohfkpoblebfaaa
open Go.ChangeShapes Go.WideShapes Go.ChangeAt Go.RowKit
set_option linter.unusedVariables false
section
variable {H : Type} {enc : TypeId × Value → H} {P : Program} {W : World} {held : Bool}
theorem open_matrix {t e q : TypeId} {a0 : Option Addr} {len0 cap0 : Nat} {d : DataW H} {p : List MemPlace} (ht : P.underlying t = some (.slice e)) (he : P.underlying e = some (.slice q)) (hq : P.underlying q = some (.int .i64)) (ce : P.cellsOf e = 1) (cq : P.cellsOf q = 1)
    (h0 : DataW.Trod enc P W 0 (fun _ => true) held t (.slice a0 len0 cap0) d p) : ∃ (l : List Wd) (v : Vs), PatsAt W W.heap.size a0 len0 cap0 l v := by
  obtain ⟨fuel, hf⟩ := h0
  rcases Go.Deep.open_int_rows ht he hq ce cq hf with ⟨hcs, _⟩ | ⟨a, len, cap, A, L, C, Z, hcs, _, hl, hm, _, hr⟩
  · simp [Value.cells] at hcs
    obtain ⟨rfl, rfl, rfl⟩ := hcs
    exact ⟨[], fun _ => (none, 0), rfl, ⟨Nat.le_refl _, Nat.zero_le _⟩, fun h => absurd h (by omega), fun i hi => absurd hi (by omega)⟩
  · simp [Value.cells] at hcs
    obtain ⟨rfl, rfl, rfl⟩ := hcs
    have hwd : ∀ i, i < len0 → wd ((List.range len0).map fun r => (Z r).take (L r)) i = (Z i).take (L i) := fun i hi => by
      rw [wd_get (by simpa using hi)]; simp
    have hlen : ∀ i, i < len0 → (wd ((List.range len0).map fun r => (Z r).take (L r)) i).length = L i := fun i hi => by
      obtain ⟨_, h1, _, h3, _⟩ := hr i (by omega)
      rw [hwd i hi, List.length_take]; omega
    refine ⟨(List.range len0).map fun r => (Z r).take (L r), fun r => (A r, C r), by simp, ⟨hl, hm⟩, fun hn => ?_, fun i hi => ?_⟩
    · obtain ⟨b, off, spot⟩ := a
      have hc := (hr 0 (by omega)).1
      have hspot : spot = none := by simpa [Addr.add] using World.cell?_spot hc
      subst hspot
      refine ⟨b, off, rfl, ?_, fun i hi => ?_⟩
      · rw [addr_add] at hc; exact World.block_lt_of_cell? W _ hc
      · rw [hlen i hi, ← addr_add]; exact (hr i (by omega)).1
    · obtain ⟨_, h1, h2, h3, h4, h5, h6⟩ := hr i (by omega)
      rw [hlen i hi, hwd i hi]
      refine ⟨by rw [length_intsV, List.length_take]; omega, h1, h2, fun hn => ?_⟩
      cases hA : A i with
      | none => exact absurd (h5 hA) (by omega)
      | some a' =>
        obtain ⟨b, off, spot⟩ := a'
        have hc := (h6 _ hA).2 0 (by omega)
        have hspot : spot = none := by simpa [Addr.add] using World.cell?_spot hc
        subst hspot
        refine ⟨b, off, rfl, ?_, fun j u hu => ?_⟩
        · rw [addr_add] at hc; exact World.block_lt_of_cell? W _ hc
        · have hj : j < L i := by
            rcases Nat.lt_or_ge j (L i) with h | h
            · exact h
            · rw [List.getElem?_eq_none (by rw [length_intsV, List.length_take]; omega)] at hu; cases hu
          have h7 := (h6 _ hA).2 j (by omega)
          rw [addr_add] at h7
          rw [h7, ← hu]
          unfold intsV
          rw [List.getElem?_map, List.getElem?_take_of_lt hj, List.getElem?_eq_getElem (show j < (Z i).length by omega), List.getD_eq_getElem?_getD, List.getElem?_eq_getElem (show j < (Z i).length by omega)]
          rfl
end
end Go.Proofs.Ytohfkpoblebfaaa
