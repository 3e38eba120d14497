/- The plain law of reading rows: no program in sight. -/
import Derived.Test.YtefhifmilmedhaaDoorLineLaw
import Derived.Test.YtefhifmilmedhaaDoorNumLaw
import Derived.Test.YtefhifmilmedhaaDoorB64Spec
namespace Go.Proofs.YtefhifmilmedhaaDoor
open Go.RowKit

/-- A line's row: its token, its rank; the error's number. -/
def rowR (s : List UInt8) : List UInt8 × Nat × Nat :=
  match wordsL s with
  | some [a, b] => if (dec64 a).2.2 = false ∨ numL b = none then ([], 0, 2) else if 64 < (dec64 a).1.length then ([], 0, 7) else ((dec64 a).1, (numL b).getD 0, 0)
  | _ => ([], 0, 2)
/-- Rows read on from the i-th line, pre having been read: the rows, the fault's line, its number. -/
def readG (pre : List (List UInt8 × Nat)) (i : Nat) : List (List UInt8) → List (List UInt8 × Nat) × Nat × Nat
  | [] => (pre, 0, 0)
  | s :: r => if (rowR s).2.2 ≠ 0 then ([], i + 1, (rowR s).2.2) else if 4096 ≤ i then ([], i + 1, 7) else readG (pre ++ [((rowR s).1, (rowR s).2.1)]) (i + 1) r
def readL (l : List UInt8) : List (List UInt8 × Nat) × Nat × Nat := readG [] 0 (linesL l)
theorem rowR_bad {s : List UInt8} (h : ∀ a b, wordsL s ≠ some [a, b]) : rowR s = ([], 0, 2) := by
  unfold rowR
  split
  · rename_i a b he; exact absurd he (h a b)
  · rfl
theorem rowR_two {s a b : List UInt8} (h : wordsL s = some [a, b]) : rowR s = if (dec64 a).2.2 = false ∨ numL b = none then ([], 0, 2) else if 64 < (dec64 a).1.length then ([], 0, 7) else ((dec64 a).1, (numL b).getD 0, 0) := by
  unfold rowR
  rw [h]
theorem part_le (c : UInt8) (l : List UInt8) : ∀ cur, ∀ p ∈ partsF c cur l, p.length ≤ cur.length + l.length := by
  induction l with
  | nil => intro cur p hp; simp only [partsF, List.mem_singleton] at hp; subst hp; simp
  | cons x xs ih =>
    intro cur p hp
    unfold partsF at hp
    split at hp
    · rcases List.mem_cons.1 hp with rfl | hp
      · simp
      · have := ih [] p hp; simp at *; omega
    · have := ih _ p hp; simp at *; omega
theorem word_le {s : List UInt8} {ws : List (List UInt8)} (h : wordsL s = some ws) : ∀ p ∈ ws, p.length ≤ s.length := by
  intro p hp
  rw [(wordsL_some h).1] at hp
  have := part_le 32 s [] p hp
  simpa using this
theorem line_le (l : List UInt8) : ∀ p ∈ linesL l, p.length ≤ l.length := by
  intro p hp
  unfold linesL at hp
  split at hp
  · cases hp
  · split at hp
    · have := part_le 10 _ [] p hp; simp at this; omega
    · have := part_le 10 _ [] p hp; simpa using this
end Go.Proofs.YtefhifmilmedhaaDoor
