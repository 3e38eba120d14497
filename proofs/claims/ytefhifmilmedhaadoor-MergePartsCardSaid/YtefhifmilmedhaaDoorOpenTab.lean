/- Tables that came in, opened to words for memory. -/
import Derived.Test.YtefhifmilmedhaaDoorOpenRow
import Derived.Test.YtefhifmilmedhaaDoorMergeSame
/- Pairs that came in, opened to words for memory. -/
namespace Go.Proofs.YtefhifmilmedhaaDoor
open Go.ChangeShapes Go.WideShapes Go.ChangeAt Go.RowKit
set_option linter.unusedVariables false

theorem cells_pair : Tryd.prog.cellsOf 91 = 2 := by kernel_rfl
section
variable {H : Type} {enc : TypeId × Value → H} {w : World} {base : Nat} {spare : Nat → Bool} {held : Bool}
set_option maxRecDepth 100000 in
theorem trod_pair {fuel : Nat} {cs : List Value} {x : DataW H × List MemPlace} (h : DataW.trod enc Tryd.prog w base spare held fuel 91 cs = some x) :
    ∃ (s b : ByteArray), cs = [.string s, .string b] := by
  obtain ⟨xs, n, _, hx, hl, hxl, hf⟩ := DataW.trod_struct Tryd.underlying91 h
  rw [cells_pair] at hl
  match cs, hl with
  | [v0, v1], _ =>
    match xs, hxl with
    | [y0, y1], _ =>
      have h0 : DataW.trod enc Tryd.prog w base spare held n 9 (([v0, v1].drop 0).take (Tryd.prog.cellsOf 9)) = some y0 := hf 0 _ rfl
      have h1 : DataW.trod enc Tryd.prog w base spare held n 9 (([v0, v1].drop 1).take (Tryd.prog.cellsOf 9)) = some y1 := hf 1 _ rfl
      rw [cells_rstr] at h0
      rw [cells_rstr] at h1
      obtain ⟨a, e0, _⟩ := DataW.trod_string Tryd.underlying9 (show DataW.trod enc Tryd.prog w base spare held n 9 _ = some y0 from h0)
      obtain ⟨b, e1, _⟩ := DataW.trod_string Tryd.underlying9 (show DataW.trod enc Tryd.prog w base spare held n 9 _ = some y1 from h1)
      simp at e0 e1
      subst e0 e1
      exact ⟨a, b, rfl⟩
end
/-- The row that lies from a place on. -/
def pairIn (w : World) (b off : Nat) : List UInt8 × List UInt8 :=
  match w.cell? ⟨b, off, none⟩, w.cell? ⟨b, off + 1, none⟩ with
  | some (.string s), some (.string y) => (s.data.toList, y.data.toList)
  | _, _ => ([], [])
theorem pairs_mk {w : World} {B n c b off : Nat} (hnc : n ≤ c) (hc : c ≤ maxLen) (hb : b < B) (h : ∀ i, i < n → ∃ (s y : ByteArray), w.cell? ⟨b, off + i * 2, none⟩ = some (.string s) ∧ w.cell? ⟨b, off + i * 2 + 1, none⟩ = some (.string y)) :
    RowAt w B 2 (some ⟨b, off, none⟩) n c (pairsV ((List.range n).map fun i => pairIn w b (off + i * 2))) := by
  have hl : ((List.range n).map fun i => pairIn w b (off + i * 2)).length = n := by simp
  refine ⟨by rw [length_pairsV, hl], hnc, hc, fun _ => ⟨b, off, rfl, hb, fun j u hu => ?_⟩⟩
  have hj : j < n * 2 := by
    rcases Nat.lt_or_ge j (n * 2) with h1 | h1
    · exact h1
    · rw [List.getElem?_eq_none (by rw [length_pairsV, hl]; exact h1)] at hu; cases hu
  have hi : j / 2 < n := by omega
  obtain ⟨s, y, h0, h1⟩ := h (j / 2) hi
  have hg : ((List.range n).map fun i => pairIn w b (off + i * 2))[j / 2]'(by rw [hl]; exact hi) = (s.data.toList, y.data.toList) := by
    simp only [List.getElem_map, List.getElem_range]
    unfold pairIn
    rw [h0, h1]
  obtain ⟨g0, g1⟩ := pairsV_at ((List.range n).map fun i => pairIn w b (off + i * 2)) (j / 2) (by rw [hl]; exact hi)
  rw [hg] at g0 g1
  simp only [strOf_data] at g0 g1
  have hd : j % 2 = 0 ∨ j % 2 = 1 := by omega
  rcases hd with hd | hd
  · rw [show j = j / 2 * 2 from by omega, g0] at hu; rw [← hu, show off + j = off + j / 2 * 2 from by omega]; exact h0
  · rw [show j = j / 2 * 2 + 1 from by omega, g1] at hu; rw [← hu, show off + j = off + j / 2 * 2 + 1 from by omega]; exact h1
section
variable {H : Type} {enc : TypeId × Value → H} {W : World} {spare : Nat → Bool} {held : Bool}
theorem open_pairs {a0 : Option Addr} {len0 cap0 : Nat} {d : DataW H} {p : List MemPlace} (h0 : DataW.Trod enc Tryd.prog W 0 spare held 57 (.slice a0 len0 cap0) d p) :
    ∃ t : PairsL, RowAt W W.heap.size 2 a0 len0 cap0 (pairsV t) := by
  obtain ⟨fuel, hf⟩ := h0
  rcases Go.Deep.open_slice Tryd.underlying57 hf with ⟨hcs, _⟩ | ⟨a, len, cap, m, n, D, Pl, hcs, _, hl, hm, hmm, _, hi⟩
  · simp [Value.cells] at hcs
    obtain ⟨rfl, rfl, rfl⟩ := hcs
    exact ⟨[], RowAt.nil⟩
  · simp [Value.cells] at hcs
    obtain ⟨rfl, rfl, rfl⟩ := hcs
    have hml : len0 ≤ m := by rw [hmm]; split <;> omega
    rcases Nat.eq_zero_or_pos len0 with h0 | h0
    · subst h0
      exact ⟨[], by simp [pairsV], Nat.zero_le _, hm, fun h => absurd h (by omega)⟩
    · have key : ∀ i, i < len0 → ∃ (s y : ByteArray), W.cell? (a.add (i * 2)) = some (.string s) ∧ W.cell? ((a.add (i * 2)).add 1) = some (.string y) := by
        intro i hil
        obtain ⟨cs', hc, ht⟩ := hi i (by omega)
        rw [cells_pair] at hc
        obtain ⟨s, y, rfl⟩ := trod_pair ht
        obtain ⟨_, _, hcell⟩ := World.cells?_some hc
        have e0 := hcell 0 (by omega)
        have e1 := hcell 1 (by omega)
        simp only [List.getElem?_cons_zero, List.getElem?_cons_succ] at e0 e1
        have e : (a.add (i * 2)).add 0 = a.add (i * 2) := by simp [Addr.add]
        rw [e] at e0
        exact ⟨s, y, e0, e1⟩
      obtain ⟨b, off, spot⟩ := a
      obtain ⟨s, y, e0, _⟩ := key 0 h0
      have hspot : spot = none := by simpa [Addr.add] using World.cell?_spot e0
      subst hspot
      have hb : b < W.heap.size := by rw [addr_plus] at e0; exact World.block_lt_of_cell? W _ e0
      refine ⟨_, pairs_mk hl hm hb fun i hil => ?_⟩
      obtain ⟨s, y, e0, e1⟩ := key i hil
      rw [addr_plus] at e0 e1
      rw [addr_plus] at e1
      exact ⟨s, y, e0, e1⟩
end
end Go.Proofs.YtefhifmilmedhaaDoor
namespace Go.Proofs.YtefhifmilmedhaaDoor
open Go.ChangeShapes Go.WideShapes Go.ChangeAt Go.RowKit
set_option linter.unusedVariables false

theorem cells_tab : Tryd.prog.cellsOf 59 = 2 := by kernel_rfl
section
variable {H : Type} {enc : TypeId × Value → H} {W : World} {spare : Nat → Bool} {held : Bool}
theorem slice_of_rows {fuel : Nat} {v : Value} {y : DataW H × List MemPlace} (h : DataW.trod enc Tryd.prog W 0 spare held fuel 38 [v] = some y) : ∃ A n c, v = .slice A n c := by
  rcases Go.Deep.open_slice Tryd.underlying38 h with ⟨hcs, _⟩ | ⟨a, len, cap, m, n, D, Pl, hcs, _⟩
  · exact ⟨_, _, _, by simpa using hcs⟩
  · exact ⟨_, _, _, by simpa using hcs⟩
theorem slice_of_pairs {fuel : Nat} {v : Value} {y : DataW H × List MemPlace} (h : DataW.trod enc Tryd.prog W 0 spare held fuel 57 [v] = some y) : ∃ A n c, v = .slice A n c := by
  rcases Go.Deep.open_slice Tryd.underlying57 h with ⟨hcs, _⟩ | ⟨a, len, cap, m, n, D, Pl, hcs, _⟩
  · exact ⟨_, _, _, by simpa using hcs⟩
  · exact ⟨_, _, _, by simpa using hcs⟩
set_option maxRecDepth 100000 in
theorem open_tables {r : Reach} {b0 : Nat} {v : Value} {d : DataW H} {p : List MemPlace} (hv : Value.okWide Tryd.prog W r b0 59 v) (h : DataW.Trod enc Tryd.prog W 0 spare held 59 v d p) :
    ∃ (A A2 : Option Addr) (n c m d : Nat) (R : List (List UInt8 × Int)) (Q : PairsL), v = .agg #[.slice A n c, .slice A2 m d] ∧ RowAt W W.heap.size 2 A n c (rowsI R) ∧ RowAt W W.heap.size 2 A2 m d (pairsV Q) := by
  obtain ⟨v0, v1, y0, y1, n, rfl, _, _, h0, h1⟩ := Go.Joins.open_agg2 Tryd.underlying59 (by kernel_rfl) cells_tab hv h
  obtain ⟨A, k, c, rfl⟩ := slice_of_rows (show DataW.trod enc Tryd.prog W 0 spare held n 38 [v0] = some y0 from h0)
  obtain ⟨A2, m, e, rfl⟩ := slice_of_pairs (show DataW.trod enc Tryd.prog W 0 spare held n 57 [v1] = some y1 from h1)
  obtain ⟨R, hR⟩ := open_rows (d := y0.1) (p := y0.2) ⟨n, h0⟩
  obtain ⟨Q, hQ⟩ := open_pairs (d := y1.1) (p := y1.2) ⟨n, h1⟩
  exact ⟨A, A2, k, c, m, e, R, Q, rfl, hR, hQ⟩
end
end Go.Proofs.YtefhifmilmedhaaDoor
