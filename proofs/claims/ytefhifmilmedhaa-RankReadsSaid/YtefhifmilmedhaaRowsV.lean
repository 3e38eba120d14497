/- The cells of rows: a token, a rank. -/
import Derived.Test.YtefhifmilmedhaaWords
import Derived.Test.YtefhifmilmedhaaProg
import Derived.Test.YtefhifmilmedhaaMem
namespace Go.Proofs.Ytefhifmilmedhaa
open Go.RowKit

/-- The cells of rows. -/
def rowsV (l : List (List UInt8 × Nat)) : List Value := l.flatMap fun x => [.string (strOf x.1), .int .i64 (x.2 : Int)]
theorem length_rowsV (l : List (List UInt8 × Nat)) : (rowsV l).length = l.length * 2 := by
  induction l with
  | nil => rfl
  | cons x r ih => simp only [rowsV, List.flatMap_cons, List.length_append, List.length_cons, List.length_nil] at *; omega
theorem rowsV_snoc (l : List (List UInt8 × Nat)) (x : List UInt8 × Nat) : rowsV (l ++ [x]) = rowsV l ++ [.string (strOf x.1), .int .i64 (x.2 : Int)] := by simp [rowsV]
theorem infoRow : (Try.prog.info? 43).map (fun i => (i.zero, i.size, i.bytes)) = some (some (.agg #[.string ⟨#[]⟩, .int .i64 0]), 2, 24) := by kernel_rfl
theorem one_row (x : List UInt8 × Nat) : ∀ u ∈ ([.string (strOf x.1), .int .i64 (x.2 : Int)] : List Value), u.oneCell' = true := by
  intro u hu
  simp only [List.mem_cons, List.not_mem_nil, or_false] at hu
  rcases hu with rfl | rfl <;> rfl

theorem row_blk (w : World) (a b : Value) (t : TypeId) {g : Nat} (hg : g = w.heap.size) : RowAt (w.alloc (.cells #[a, b] t)) (g + 1) 2 (some ⟨g, 0, none⟩) 1 1 [a, b] := by
  subst hg
  refine ⟨rfl, Nat.le_refl _, by unfold maxLen; omega, fun _ => ⟨w.heap.size, 0, rfl, by omega, fun j u hu => ?_⟩⟩
  have hc : (w.alloc (.cells #[a, b] t)).heap[w.heap.size]? = some (.cells #[a, b] t (0, 0)) := heap_alloc_new _ _
  rw [Nat.zero_add, Lib.cell_of_heap hc j, ← hu]
  match j with
  | 0 => rfl
  | 1 => rfl
  | j + 2 => rfl

end Go.Proofs.Ytefhifmilmedhaa
