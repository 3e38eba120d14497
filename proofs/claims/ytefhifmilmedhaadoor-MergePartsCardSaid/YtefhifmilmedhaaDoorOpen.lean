/- Arguments that came in, opened to words for memory; what a law's row asks behind its walk. -/
import Derived.Test.YtefhifmilmedhaaDoorWords
import Derived.ProofKit
import Derived.OpenShut
import Derived.ShutString
import Derived.ChangeOld
namespace Go.Proofs.YtefhifmilmedhaaDoor
open Go.ChangeShapes Go.WideShapes Go.ChangeAt Go.RowKit

theorem addr_add (b off i : Nat) : (⟨b, off, none⟩ : Addr).add i = ⟨b, off + i, none⟩ := by
  unfold Addr.add
  split
  · rename_i h; rw [h]; rfl
  · rfl
section
variable {H : Type} {enc : TypeId × Value → H} {P : Program} {W : World} {spare : Nat → Bool} {held : Bool}
theorem open_row {t e : TypeId} {k : IntKind} {a0 : Option Addr} {len0 cap0 : Nat} {d : DataW H} {p : List MemPlace} (ht : P.underlying t = some (.slice e)) (he : P.underlying e = some (.int k)) (hC : P.cellsOf e = 1)
    (h0 : DataW.Trod enc P W 0 spare held t (.slice a0 len0 cap0) d p) :
    ∃ l : List Int, RowAt W W.heap.size 1 a0 len0 cap0 (l.map fun x => .int k x) ∧ ∀ n ∈ l, (Lit.int k n).wf = true := by
  obtain ⟨fuel, hf⟩ := h0
  rcases open_ints ht he hC hf with ⟨hcs, _⟩ | ⟨x, l, c, zs, hcs, _, hl, hm, hz, _, hcell, hwz⟩
  · simp [Value.cells] at hcs
    obtain ⟨rfl, rfl, rfl⟩ := hcs
    exact ⟨[], RowAt.nil, by simp⟩
  · simp [Value.cells] at hcs
    obtain ⟨rfl, rfl, rfl⟩ := hcs
    have hzl : len0 ≤ zs.length := by rw [hz]; split <;> omega
    refine ⟨zs.take len0, ⟨by simp [hzl], hl, hm, fun hn => ?_⟩, fun n hn => hwz n (List.mem_of_mem_take hn)⟩
    obtain ⟨b, off, spot⟩ := x
    have hc := hcell 0 (by omega)
    have hspot : spot = none := by simpa [Addr.add] using World.cell?_spot hc
    subst hspot
    refine ⟨b, off, rfl, ?_, fun j u hu => ?_⟩
    · rw [addr_add] at hc; exact World.block_lt_of_cell? W _ hc
    · have hj : j < len0 := by
        rcases Nat.lt_or_ge j len0 with h | h
        · exact h
        · rw [List.getElem?_eq_none (by simp; omega)] at hu; cases hu
      have := hcell j (by omega)
      rw [addr_add] at this
      rw [this]
      simp [hj, List.getElem?_eq_getElem (show j < zs.length by omega)] at hu
      simp [List.getD, List.getElem?_eq_getElem (show j < zs.length by omega), ← hu]
theorem open_bytes {t e : TypeId} {a0 : Option Addr} {len0 cap0 : Nat} {d : DataW H} {p : List MemPlace} (ht : P.underlying t = some (.slice e)) (he : P.underlying e = some (.int .u8)) (hC : P.cellsOf e = 1)
    (h0 : DataW.Trod enc P W 0 spare held t (.slice a0 len0 cap0) d p) : ∃ l : List UInt8, BytesAt W W.heap.size a0 len0 cap0 l := by
  obtain ⟨l, hl, hw⟩ := open_row ht he hC h0
  refine ⟨l.map fun x => UInt8.ofNat x.toNat, ?_⟩
  unfold BytesAt bytesV
  rw [List.map_map]
  rw [show (l.map fun x => Value.int .u8 x) = l.map ((fun x : UInt8 => Value.int .u8 (x.toNat : Int)) ∘ fun x : Int => UInt8.ofNat x.toNat) from ?_] at hl
  · exact hl
  · refine List.map_congr_left fun x hx => ?_
    have := bounds_u8 (hw x hx)
    simp only [Function.comp]
    rw [UInt8.toNat_ofNat']
    have e : ((x.toNat % 2 ^ 8 : Nat) : Int) = x := by omega
    rw [e]
theorem open_nums {t e : TypeId} {a0 : Option Addr} {len0 cap0 : Nat} {d : DataW H} {p : List MemPlace} (ht : P.underlying t = some (.slice e)) (he : P.underlying e = some (.int .i64)) (hC : P.cellsOf e = 1)
    (h0 : DataW.Trod enc P W 0 spare held t (.slice a0 len0 cap0) d p) : ∃ l : List Int, IntsAt W W.heap.size a0 len0 cap0 l ∧ ∀ n ∈ l, (Lit.int .i64 n).wf = true := open_row ht he hC h0
end
end Go.Proofs.YtefhifmilmedhaaDoor
