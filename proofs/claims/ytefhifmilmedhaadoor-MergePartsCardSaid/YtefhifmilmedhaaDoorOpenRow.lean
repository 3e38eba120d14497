/- Rows that came in, opened to words for memory. -/
import Derived.Test.YtefhifmilmedhaaDoorRankSame
import Derived.Test.YtefhifmilmedhaaDoorOpen
import Derived.Lib.SmallJoins
import Derived.Deep.Slices
import Derived.LaidMore
namespace Go.Proofs.YtefhifmilmedhaaDoor
open Go.ChangeShapes Go.WideShapes Go.ChangeAt Go.RowKit
set_option linter.unusedVariables false

theorem cells_row : Tryd.prog.cellsOf 40 = 2 := by kernel_rfl
theorem cells_rint : Tryd.prog.cellsOf 3 = 1 := by kernel_rfl
theorem cells_rstr : Tryd.prog.cellsOf 9 = 1 := by kernel_rfl
section
variable {H : Type} {enc : TypeId × Value → H} {w : World} {base : Nat} {spare : Nat → Bool} {held : Bool}
set_option maxRecDepth 100000 in
theorem trod_row {fuel : Nat} {cs : List Value} {x : DataW H × List MemPlace} (h : DataW.trod enc Tryd.prog w base spare held fuel 40 cs = some x) :
    ∃ (s : ByteArray) (b : Int), cs = [.string s, .int .i64 b] := by
  obtain ⟨xs, n, _, hx, hl, hxl, hf⟩ := DataW.trod_struct Tryd.underlying40 h
  rw [cells_row] at hl
  match cs, hl with
  | [v0, v1], _ =>
    match xs, hxl with
    | [y0, y1], _ =>
      have h0 : DataW.trod enc Tryd.prog w base spare held n 9 (([v0, v1].drop 0).take (Tryd.prog.cellsOf 9)) = some y0 := hf 0 _ rfl
      have h1 : DataW.trod enc Tryd.prog w base spare held n 3 (([v0, v1].drop 1).take (Tryd.prog.cellsOf 3)) = some y1 := hf 1 _ rfl
      rw [cells_rstr] at h0
      rw [cells_rint] at h1
      obtain ⟨a, e0, _⟩ := DataW.trod_string Tryd.underlying9 (show DataW.trod enc Tryd.prog w base spare held n 9 _ = some y0 from h0)
      obtain ⟨b, e1, _⟩ := DataW.trod_int Tryd.underlying3 (show DataW.trod enc Tryd.prog w base spare held n 3 _ = some y1 from h1)
      simp at e0 e1
      subst e0 e1
      exact ⟨a, b, rfl⟩
end
/-- The row that lies from a place on. -/
def rowIn (w : World) (b off : Nat) : List UInt8 × Int :=
  match w.cell? ⟨b, off, none⟩, w.cell? ⟨b, off + 1, none⟩ with
  | some (.string s), some (.int .i64 y) => (s.data.toList, y)
  | _, _ => ([], 0)
theorem rows_mk {w : World} {B n c b off : Nat} (hnc : n ≤ c) (hc : c ≤ maxLen) (hb : b < B) (h : ∀ i, i < n → ∃ (s : ByteArray) (y : Int), w.cell? ⟨b, off + i * 2, none⟩ = some (.string s) ∧ w.cell? ⟨b, off + i * 2 + 1, none⟩ = some (.int .i64 y)) :
    RowAt w B 2 (some ⟨b, off, none⟩) n c (rowsI ((List.range n).map fun i => rowIn w b (off + i * 2))) := by
  have hl : ((List.range n).map fun i => rowIn w b (off + i * 2)).length = n := by simp
  refine ⟨by rw [length_rowsI, hl], hnc, hc, fun _ => ⟨b, off, rfl, hb, fun j u hu => ?_⟩⟩
  have hj : j < n * 2 := by
    rcases Nat.lt_or_ge j (n * 2) with h1 | h1
    · exact h1
    · rw [List.getElem?_eq_none (by rw [length_rowsI, hl]; exact h1)] at hu; cases hu
  have hi : j / 2 < n := by omega
  obtain ⟨s, y, h0, h1⟩ := h (j / 2) hi
  have hg : ((List.range n).map fun i => rowIn w b (off + i * 2))[j / 2]'(by rw [hl]; exact hi) = (s.data.toList, y) := by
    simp only [List.getElem_map, List.getElem_range]
    unfold rowIn
    rw [h0, h1]
  obtain ⟨g0, g1⟩ := rowsI_at ((List.range n).map fun i => rowIn w b (off + i * 2)) (j / 2) (by rw [hl]; exact hi)
  rw [hg] at g0 g1
  simp only [strOf_data] at g0
  have hd : j % 2 = 0 ∨ j % 2 = 1 := by omega
  rcases hd with hd | hd
  · rw [show j = j / 2 * 2 from by omega, g0] at hu; rw [← hu, show off + j = off + j / 2 * 2 from by omega]; exact h0
  · rw [show j = j / 2 * 2 + 1 from by omega, g1] at hu; rw [← hu, show off + j = off + j / 2 * 2 + 1 from by omega]; exact h1
section
variable {H : Type} {enc : TypeId × Value → H} {W : World} {spare : Nat → Bool} {held : Bool}
theorem open_rows {a0 : Option Addr} {len0 cap0 : Nat} {d : DataW H} {p : List MemPlace} (h0 : DataW.Trod enc Tryd.prog W 0 spare held 38 (.slice a0 len0 cap0) d p) :
    ∃ t : List (List UInt8 × Int), RowAt W W.heap.size 2 a0 len0 cap0 (rowsI t) := by
  obtain ⟨fuel, hf⟩ := h0
  rcases Go.Deep.open_slice Tryd.underlying38 hf with ⟨hcs, _⟩ | ⟨a, len, cap, m, n, D, Pl, hcs, _, hl, hm, hmm, _, hi⟩
  · simp [Value.cells] at hcs
    obtain ⟨rfl, rfl, rfl⟩ := hcs
    exact ⟨[], RowAt.nil⟩
  · simp [Value.cells] at hcs
    obtain ⟨rfl, rfl, rfl⟩ := hcs
    have hml : len0 ≤ m := by rw [hmm]; split <;> omega
    rcases Nat.eq_zero_or_pos len0 with h0 | h0
    · subst h0
      exact ⟨[], by simp [rowsI], Nat.zero_le _, hm, fun h => absurd h (by omega)⟩
    · have key : ∀ i, i < len0 → ∃ (s : ByteArray) (y : Int), W.cell? (a.add (i * 2)) = some (.string s) ∧ W.cell? ((a.add (i * 2)).add 1) = some (.int .i64 y) := by
        intro i hil
        obtain ⟨cs', hc, ht⟩ := hi i (by omega)
        rw [cells_row] at hc
        obtain ⟨s, y, rfl⟩ := trod_row ht
        obtain ⟨_, _, hcell⟩ := World.cells?_some hc
        have e0 := hcell 0 (by omega)
        have e1 := hcell 1 (by omega)
        simp only [List.getElem?_cons_zero, List.getElem?_cons_succ] at e0 e1
        have e : (a.add (i * 2)).add 0 = a.add (i * 2) := by simp [Addr.add]
        rw [e] at e0
        exact ⟨s, y, e0, e1⟩
      obtain ⟨b, off, spot⟩ := a
      obtain ⟨s, y, e0, _⟩ := key 0 h0
      have hspot : spot = none := by simpa [Addr.add] using World.cell?_spot e0
      subst hspot
      have hb : b < W.heap.size := by rw [addr_plus] at e0; exact World.block_lt_of_cell? W _ e0
      refine ⟨_, rows_mk hl hm hb fun i hil => ?_⟩
      obtain ⟨s, y, e0, e1⟩ := key i hil
      rw [addr_plus] at e0 e1
      rw [addr_plus] at e1
      exact ⟨s, y, e0, e1⟩
end
end Go.Proofs.YtefhifmilmedhaaDoor
