/- The plain law of reading tables: no program in sight. -/
import Derived.Test.YtefhifmilmedhaaDoorRankLaw
import Derived.Test.YtefhifmilmedhaaDoorLetLaw
namespace Go.Proofs.YtefhifmilmedhaaDoor
open Go.RowKit

/-- A word as a writing: its bytes, the error's number. -/
def wrR (a : List UInt8) : List UInt8 × Nat := if (rdAt a 0).2.2 = false then ([], 2) else if 64 < (rdAt a 0).1.length then ([], 7) else ((rdAt a 0).1, 0)
def vocabL : List UInt8 := [118, 111, 99, 97, 98]
def mergesL : List UInt8 := [109, 101, 114, 103, 101, 115]
/-- A row's line; a pair's line. -/
def rowM (s : List UInt8) : List UInt8 × Nat × Nat :=
  match wordsL s with
  | some [a, b] => if numL b = none then ([], 0, 2) else ((wrR a).1, (numL b).getD 0, (wrR a).2)
  | _ => ([], 0, 2)
def pairM (s : List UInt8) : List UInt8 × List UInt8 × Nat :=
  match wordsL s with
  | some [a, b] => if (wrR a).2 = 2 ∨ (wrR b).2 = 2 then ([], [], 2) else if (wrR a).2 ≠ 0 ∨ (wrR b).2 ≠ 0 then ([], [], 7) else ((wrR a).1, (wrR b).1, 0)
  | _ => ([], [], 2)
abbrev RowsL := List (List UInt8 × Nat)
abbrev PairsL := List (List UInt8 × List UInt8)
def stepM (ph : Nat) (rows : RowsL) (pairs : PairsL) (s : List UInt8) : Nat × Nat × RowsL × PairsL :=
  if ph = 0 then (if s = vocabL then (0, 1, rows, pairs) else (2, 0, rows, pairs))
  else if ph = 1 then (if s = mergesL then (0, 2, rows, pairs) else if (rowM s).2.2 ≠ 0 then ((rowM s).2.2, 1, rows, pairs) else if 4096 ≤ rows.length then (7, 1, rows, pairs) else (0, 1, rows ++ [((rowM s).1, (rowM s).2.1)], pairs))
  else (if (pairM s).2.2 ≠ 0 then ((pairM s).2.2, 2, rows, pairs) else if 16384 ≤ pairs.length then (7, 2, rows, pairs) else (0, 2, rows, pairs ++ [((pairM s).1, (pairM s).2.1)]))
def mergeG (ph : Nat) (rows : RowsL) (pairs : PairsL) (i : Nat) : List (List UInt8) → RowsL × PairsL × Nat × Nat
  | [] => if ph = 2 then (rows, pairs, 0, 0) else ([], [], i + 1, 2)
  | s :: r => if (stepM ph rows pairs s).1 ≠ 0 then ([], [], i + 1, (stepM ph rows pairs s).1) else mergeG (stepM ph rows pairs s).2.1 (stepM ph rows pairs s).2.2.1 (stepM ph rows pairs s).2.2.2 (i + 1) r
def mergeL (l : List UInt8) : RowsL × PairsL × Nat × Nat := mergeG 0 [] [] 0 (linesL l)

theorem rowM_bad {s : List UInt8} (h : ∀ a b, wordsL s ≠ some [a, b]) : rowM s = ([], 0, 2) := by
  unfold rowM
  split
  · rename_i a b he; exact absurd he (h a b)
  · rfl
theorem rowM_two {s a b : List UInt8} (h : wordsL s = some [a, b]) : rowM s = if numL b = none then ([], 0, 2) else ((wrR a).1, (numL b).getD 0, (wrR a).2) := by
  unfold rowM; rw [h]
theorem pairM_bad {s : List UInt8} (h : ∀ a b, wordsL s ≠ some [a, b]) : pairM s = ([], [], 2) := by
  unfold pairM
  split
  · rename_i a b he; exact absurd he (h a b)
  · rfl
theorem pairM_two {s a b : List UInt8} (h : wordsL s = some [a, b]) : pairM s = if (wrR a).2 = 2 ∨ (wrR b).2 = 2 then ([], [], 2) else if (wrR a).2 ≠ 0 ∨ (wrR b).2 ≠ 0 then ([], [], 7) else ((wrR a).1, (wrR b).1, 0) := by
  unfold pairM; rw [h]
theorem wrR_err (a : List UInt8) : (wrR a).2 = 2 ∨ (wrR a).2 = 7 ∨ (wrR a).2 = 0 := by
  unfold wrR; (repeat' split) <;> simp
theorem wrR_le (a : List UInt8) : (wrR a).1.length ≤ 64 := by
  unfold wrR; (repeat' split) <;> simp; omega
theorem words_two {s : List UInt8} {ws : List (List UInt8)} {n : Nat} (h1 : (wordsL s).getD [] = ws) (h2 : ws.length = n) (hn : n = 2) : ∃ a b, ws = [a, b] ∧ wordsL s = some [a, b] := by
  subst h2
  match ws, hn with
  | [a, b], _ =>
    refine ⟨a, b, rfl, ?_⟩
    cases hh : wordsL s with
    | none => rw [hh] at h1; cases h1
    | some x => rw [hh, Option.getD_some] at h1; rw [h1]
theorem words_not {s : List UInt8} {ws : List (List UInt8)} {n : Nat} (h1 : (wordsL s).getD [] = ws) (h2 : ws.length = n) (hn : n ≠ 2) : ∀ a b, wordsL s ≠ some [a, b] := by
  intro a b e
  rw [e] at h1
  subst h1 h2
  exact hn rfl
end Go.Proofs.YtefhifmilmedhaaDoor
