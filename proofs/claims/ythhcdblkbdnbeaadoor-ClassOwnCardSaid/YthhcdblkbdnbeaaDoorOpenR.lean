/- Tables that came in, and the usual table as the program lays it: opened to words for memory. -/
import Derived.Test.YthhcdblkbdnbeaaDoorClsUse
import Derived.Test.YthhcdblkbdnbeaaDoorOpen
import Derived.Lib.SmallJoins
import Derived.Deep.Slices
import Derived.LaidMore
namespace Go.Proofs.YthhcdblkbdnbeaaDoor
open Go.ChangeShapes Go.WideShapes Go.ChangeAt Go.RowKit
set_option linter.unusedVariables false

theorem cells_range : Tryd.prog.cellsOf 28 = 3 := by kernel_rfl
theorem cells_int : Tryd.prog.cellsOf 3 = 1 := by kernel_rfl
section
variable {H : Type} {enc : TypeId × Value → H} {w : World} {base : Nat} {spare : Nat → Bool} {held : Bool}
set_option maxRecDepth 100000 in
theorem trod_range {fuel : Nat} {cs : List Value} {x : DataW H × List MemPlace} (h : DataW.trod enc Tryd.prog w base spare held fuel 28 cs = some x) :
    ∃ a b c : Int, cs = [.int .i64 a, .int .i64 b, .int .i64 c] ∧ x.1 = .agg [.lit (.int .i64 a), .lit (.int .i64 b), .lit (.int .i64 c)] := by
  obtain ⟨xs, n, _, hx, hl, hxl, hf⟩ := DataW.trod_struct Tryd.underlying28 h
  rw [cells_range] at hl
  match cs, hl with
  | [v0, v1, v2], _ =>
    match xs, hxl with
    | [y0, y1, y2], _ =>
      have h0 : DataW.trod enc Tryd.prog w base spare held n 3 (([v0, v1, v2].drop 0).take (Tryd.prog.cellsOf 3)) = some y0 := hf 0 _ rfl
      have h1 : DataW.trod enc Tryd.prog w base spare held n 3 (([v0, v1, v2].drop 1).take (Tryd.prog.cellsOf 3)) = some y1 := hf 1 _ rfl
      have h2 : DataW.trod enc Tryd.prog w base spare held n 3 (([v0, v1, v2].drop 2).take (Tryd.prog.cellsOf 3)) = some y2 := hf 2 _ rfl
      rw [cells_int] at h0 h1 h2
      obtain ⟨a, e0, d0, _⟩ := DataW.trod_int Tryd.underlying3 (show DataW.trod enc Tryd.prog w base spare held n 3 _ = some y0 from h0)
      obtain ⟨b, e1, d1, _⟩ := DataW.trod_int Tryd.underlying3 (show DataW.trod enc Tryd.prog w base spare held n 3 _ = some y1 from h1)
      obtain ⟨c, e2, d2, _⟩ := DataW.trod_int Tryd.underlying3 (show DataW.trod enc Tryd.prog w base spare held n 3 _ = some y2 from h2)
      simp at e0 e1 e2
      subst e0 e1 e2 d0 d1 d2
      exact ⟨a, b, c, rfl, by rw [hx]; rfl⟩
end
/-- The three numbers that lie from a place on. -/
def rgAt (w : World) (b off : Nat) : Rg :=
  match w.cell? ⟨b, off, none⟩, w.cell? ⟨b, off + 1, none⟩, w.cell? ⟨b, off + 2, none⟩ with
  | some (.int .i64 x), some (.int .i64 y), some (.int .i64 z) => (x, y, z)
  | _, _, _ => (0, 0, 0)
theorem RangesAt.mk {w : World} {B n c b off : Nat} (hnc : n ≤ c) (hc : c ≤ maxLen) (hb : b < B) (h : ∀ i, i < n → ∃ x y z : Int, w.cell? ⟨b, off + i * 3, none⟩ = some (.int .i64 x) ∧ w.cell? ⟨b, off + i * 3 + 1, none⟩ = some (.int .i64 y) ∧ w.cell? ⟨b, off + i * 3 + 2, none⟩ = some (.int .i64 z)) :
    RangesAt w B (some ⟨b, off, none⟩) n c ((List.range n).map fun i => rgAt w b (off + i * 3)) := by
  have hl : ((List.range n).map fun i => rgAt w b (off + i * 3)).length = n := by simp
  refine ⟨by rw [length_rangesV, hl], hnc, hc, fun _ => ⟨b, off, rfl, hb, fun j u hu => ?_⟩⟩
  have hj : j < n * 3 := by
    rcases Nat.lt_or_ge j (n * 3) with h1 | h1
    · exact h1
    · rw [List.getElem?_eq_none (by rw [length_rangesV, hl]; exact h1)] at hu; cases hu
  have hi : j / 3 < n := by omega
  obtain ⟨x, y, z, h0, h1, h2⟩ := h (j / 3) hi
  have hg : rg ((List.range n).map fun i => rgAt w b (off + i * 3)) (j / 3) = (x, y, z) := by
    rw [rg_get (by rw [hl]; exact hi)]
    simp only [List.getElem_map, List.getElem_range]
    unfold rgAt
    rw [h0, h1, h2]
  obtain ⟨g0, g1, g2⟩ := rangesV_get (t := (List.range n).map fun i => rgAt w b (off + i * 3)) (i := j / 3) (by rw [hl]; exact hi)
  rw [hg] at g0 g1 g2
  have hd : j % 3 = 0 ∨ j % 3 = 1 ∨ j % 3 = 2 := by omega
  rcases hd with hd | hd | hd
  · rw [show j = j / 3 * 3 from by omega, g0] at hu; rw [← hu, show off + j = off + j / 3 * 3 from by omega]; exact h0
  · rw [show j = j / 3 * 3 + 1 from by omega, g1] at hu; rw [← hu, show off + j = off + j / 3 * 3 + 1 from by omega]; exact h1
  · rw [show j = j / 3 * 3 + 2 from by omega, g2] at hu; rw [← hu, show off + j = off + j / 3 * 3 + 2 from by omega]; exact h2
section
variable {H : Type} {enc : TypeId × Value → H} {W : World} {spare : Nat → Bool} {held : Bool}
theorem open_ranges {a0 : Option Addr} {len0 cap0 : Nat} {d : DataW H} {p : List MemPlace} (h0 : DataW.Trod enc Tryd.prog W 0 spare held 22 (.slice a0 len0 cap0) d p) :
    ∃ t : List Rg, RangesAt W W.heap.size a0 len0 cap0 t := by
  obtain ⟨fuel, hf⟩ := h0
  rcases Go.Deep.open_slice Tryd.underlying22 hf with ⟨hcs, _⟩ | ⟨a, len, cap, m, n, D, Pl, hcs, _, hl, hm, hmm, _, hi⟩
  · simp [Value.cells] at hcs
    obtain ⟨rfl, rfl, rfl⟩ := hcs
    exact ⟨[], RowAt.nil⟩
  · simp [Value.cells] at hcs
    obtain ⟨rfl, rfl, rfl⟩ := hcs
    have hml : len0 ≤ m := by rw [hmm]; split <;> omega
    rcases Nat.eq_zero_or_pos len0 with h0 | h0
    · subst h0
      exact ⟨[], by simp [rangesV], Nat.zero_le _, hm, fun h => absurd h (by omega)⟩
    · have key : ∀ i, i < len0 → ∃ x y z : Int, W.cell? (a.add (i * 3)) = some (.int .i64 x) ∧ W.cell? ((a.add (i * 3)).add 1) = some (.int .i64 y) ∧ W.cell? ((a.add (i * 3)).add 2) = some (.int .i64 z) := by
        intro i hil
        obtain ⟨cs', hc, ht⟩ := hi i (by omega)
        rw [cells_range] at hc
        obtain ⟨x, y, z, rfl, _⟩ := trod_range ht
        obtain ⟨_, _, hcell⟩ := World.cells?_some hc
        have e0 := hcell 0 (by omega)
        have e1 := hcell 1 (by omega)
        have e2 := hcell 2 (by omega)
        simp only [List.getElem?_cons_zero, List.getElem?_cons_succ] at e0 e1 e2
        exact ⟨x, y, z, by have e : (a.add (i * 3)).add 0 = a.add (i * 3) := by simp [Addr.add]
                           rw [e] at e0; exact e0, e1, e2⟩
      obtain ⟨b, off, spot⟩ := a
      obtain ⟨x, y, z, e0, _, _⟩ := key 0 h0
      have hspot : spot = none := by simpa [Addr.add] using World.cell?_spot e0
      subst hspot
      have hb : b < W.heap.size := by rw [addr_add] at e0; exact World.block_lt_of_cell? W _ e0
      refine ⟨_, RangesAt.mk hl hm hb fun i hil => ?_⟩
      obtain ⟨x, y, z, e0, e1, e2⟩ := key i hil
      rw [addr_add] at e0 e1 e2
      rw [addr_add] at e1 e2
      exact ⟨x, y, z, e0, e1, e2⟩
set_option maxRecDepth 100000 in
theorem open_range {r : Reach} {b0 : Nat} {v : Value} {d : DataW H} {p : List MemPlace} (hv : Value.okWide Tryd.prog W r b0 28 v) (h : DataW.Trod enc Tryd.prog W 0 spare held 28 v d p) :
    ∃ xa xb xc : Int, v = .agg #[.int .i64 xa, .int .i64 xb, .int .i64 xc] := by
  obtain ⟨v0, v1, v2, y0, y1, y2, n, rfl, _, _, h0, h1, h2⟩ := Go.Joins.open_agg3 Tryd.underlying28 (by kernel_rfl) cells_range hv h
  obtain ⟨a, e0, _, _⟩ := DataW.trod_int Tryd.underlying3 (show DataW.trod enc Tryd.prog W 0 spare held n 3 [v0] = some y0 from h0)
  obtain ⟨b, e1, _, _⟩ := DataW.trod_int Tryd.underlying3 (show DataW.trod enc Tryd.prog W 0 spare held n 3 [v1] = some y1 from h1)
  obtain ⟨c, e2, _, _⟩ := DataW.trod_int Tryd.underlying3 (show DataW.trod enc Tryd.prog W 0 spare held n 3 [v2] = some y2 from h2)
  injection e0 with e0 _
  injection e1 with e1 _
  injection e2 with e2 _
  subst e0 e1 e2
  exact ⟨a, b, c, rfl⟩
end
end Go.Proofs.YthhcdblkbdnbeaaDoor
