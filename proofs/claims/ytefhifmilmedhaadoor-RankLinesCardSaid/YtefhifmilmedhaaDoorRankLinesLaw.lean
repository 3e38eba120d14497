/- The plain law of RankLines: first lines of a file, and a line that is none behind them. -/
import Derived.Test.YtefhifmilmedhaaDoorRankWLaw
import Derived.Test.YtefhifmilmedhaaDoorRankSame
namespace Go.Proofs.YtefhifmilmedhaaDoor
set_option linter.unusedVariables false

theorem file_take (l : List (List UInt8 × Int)) (k : Nat) : fileW (l.take k) ++ fileW (l.drop k) = fileW l := by
  rw [← fileW_app, List.take_append_drop]
theorem file_first (l : List (List UInt8 × Int)) (k : Nat) : (fileW (l.take k)).length ≤ (fileW l).length ∧ (fileW l).take (fileW (l.take k)).length = fileW (l.take k) := by
  have h := file_take l k
  rw [← h]
  exact ⟨by rw [List.length_append]; omega, List.take_left⟩
theorem ok_take {l : List (List UInt8 × Int)} (h : okW l = true) (k : Nat) : okW (l.take k) = true := by
  unfold okW at h ⊢
  rw [Bool.and_eq_true, decide_eq_true_iff] at h ⊢
  refine ⟨by rw [List.length_take]; omega, ?_⟩
  rw [List.all_eq_true]
  exact fun x hx => List.all_eq_true.1 h.2 x (List.mem_of_mem_take hx)
/-- Bytes of one line: what they are read as. -/
theorem one_line {u : List UInt8} (h0 : u ≠ []) (h : ∀ x ∈ u, x ≠ 10) : linesL u = [u] := by
  have hl : u.getLast? ≠ some 10 := fun e => h 10 (List.mem_of_getLast? e) rfl
  unfold linesL
  rw [if_neg h0, if_neg hl, partsF_plain 10 u h]
  simp
theorem one_read {u : List UInt8} (h0 : u ≠ []) (h : ∀ x ∈ u, x ≠ 10) (x : List (List UInt8 × Nat)) (fl : Nat) (hr : readL u = (x, fl, 2)) : (rowR u).2.2 = 2 := by
  unfold readL at hr
  rw [one_line h0 h, readG] at hr
  by_cases hx : (rowR u).2.2 = 0
  · rw [if_neg (by rw [hx]; simp), if_neg (by decide), readG] at hr
    injection hr with _ hr
    injection hr with _ hr
    cases hr
  · rw [if_pos hx] at hr
    injection hr with _ hr
    injection hr
theorem wrong_lines (l : List (List UInt8 × Int)) {u : List UInt8} (m : List UInt8) (h0 : u ≠ []) (h : ∀ x ∈ u, x ≠ 10) : linesL (fileW l ++ u ++ 10 :: m) = l.map rowW ++ [u] ++ linesL m := by
  have hl : (fileW l ++ u).getLast? ≠ some 10 := fun e => by
    rw [List.getLast?_append] at e
    cases hu : u.getLast? with
    | none => exact h0 (List.getLast?_eq_none_iff.1 hu)
    | some y =>
      rw [hu] at e
      simp at e
      exact h y (List.mem_of_getLast? hu) e
  have hne : fileW l ++ u ≠ [] := by simp [h0]
  rw [linesL_join, if_neg (by rintro (e | e); exact hne e; exact hl e), List.append_nil]
  congr 1
  unfold linesL
  rw [if_neg hne, if_neg hl, row_parts, partsF_plain 10 u h]
  simp
theorem wrong_read {l : List (List UInt8 × Int)} (hok : okW l = true) {u : List UInt8} (m : List UInt8) (h0 : u ≠ []) (h : ∀ x ∈ u, x ≠ 10) (hr : (rowR u).2.2 = 2) : readL (fileW l ++ u ++ 10 :: m) = ([], l.length + 1, 2) := by
  unfold okW at hok
  rw [Bool.and_eq_true, decide_eq_true_iff] at hok
  unfold readL
  rw [wrong_lines l m h0 h, List.append_assoc, rows_read l [] 0 _ hok.2 (by omega), List.singleton_append, readG, if_pos (by rw [hr]; simp), hr]
  simp
theorem rowsI_takeW (l : List (List UInt8 × Int)) (k : Nat) : (rowsI l).take (k * 2) = rowsI (l.take k) := by
  induction l generalizing k with
  | nil => simp [rowsI]
  | cons x l ih =>
    cases k with
    | zero => simp [rowsI]
    | succ k =>
      have e : rowsI (x :: l) = .string (strOf x.1) :: .int .i64 x.2 :: rowsI l := rfl
      have e2 : rowsI (x :: l.take k) = .string (strOf x.1) :: .int .i64 x.2 :: rowsI (l.take k) := rfl
      rw [e, List.take_succ_cons, e2, show (k + 1) * 2 = k * 2 + 1 + 1 by omega, List.take_succ_cons, List.take_succ_cons, ih]
end Go.Proofs.YtefhifmilmedhaaDoor
