/- The plain law of RankLong: a line with a long token. -/
import Derived.Test.YtefhifmilmedhaaDoorRankWLaw
namespace Go.Proofs.YtefhifmilmedhaaDoor
set_option linter.unusedVariables false

def longZ (T : List UInt8) : List UInt8 := [73, 81, 61, 61, 32, 48, 10] ++ enc64 T ++ [32, 49]
theorem itoa_0 : Lib.itoa 0 = [48] := by rw [show (0 : Int) = ((0 : Nat) : Int) from rfl, Lib.itoa_nonneg, Lib.decDigits_one (by decide)]; rfl
theorem itoa_1 : Lib.itoa 1 = [49] := by rw [show (1 : Int) = ((1 : Nat) : Int) from rfl, Lib.itoa_nonneg, Lib.decDigits_one (by decide)]; rfl
theorem long_file (T : List UInt8) : longZ T = fileW [([33], 0)] ++ rowW (T, 1) := by
  have h : fileW [([33], 0)] = [73, 81, 61, 61, 32, 48, 10] := by
    unfold fileW rowW
    rw [itoa_0]; decide
  rw [h]
  unfold longZ rowW
  rw [itoa_1]; simp
theorem long_lines (T : List UInt8) : linesL (longZ T) = [rowW ([33], 0), rowW (T, 1)] := by
  have hl : (longZ T).getLast? ≠ some 10 := by unfold longZ; rw [List.getLast?_append]; simp
  have hne : longZ T ≠ [] := by unfold longZ; simp
  unfold linesL
  rw [if_neg hne, if_neg hl, long_file, row_parts, partsF_plain 10 (rowW (T, 1)) (row_feed _)]
  rfl
theorem may_33 : mayW ([33], 0) = true := by decide
theorem long_none : readL (longZ []) = ([], 2, 2) := by
  unfold readL
  have hw : rowW (([] : List UInt8), 1) = [32, 49] := by unfold rowW; rw [itoa_1]; rfl
  have hr : rowR [32, 49] = ([], 0, 2) := rowR_bad (fun a b => by rw [show wordsL [32, 49] = none from by decide]; simp)
  rw [long_lines, readG, row_read may_33, if_neg (by simp), if_neg (by decide), readG, hw, hr, if_pos (by simp)]
theorem long_rowR {T : List UInt8} (h0 : T ≠ []) : rowR (rowW (T, 1)) = if 64 < T.length then ([], 0, 7) else (T, 1, 0) := by
  have hn : numL (Lib.itoa 1) = some 1 := by rw [num_itoa]; rfl
  rw [rowR_two (row_words (T, 1) h0), dec_enc, hn, if_neg (by simp)]
  rfl
theorem long_big {T : List UInt8} (h : 64 < T.length) : readL (longZ T) = ([], 2, 7) := by
  unfold readL
  rw [long_lines, readG, row_read may_33, if_neg (by simp), if_neg (by decide), readG, long_rowR (fun e => by rw [e] at h; simp at h), if_pos h, if_pos (by simp)]
theorem long_ok {T : List UInt8} (h0 : T ≠ []) (h : ¬ 64 < T.length) : readL (longZ T) = ([([33], 0), (T, 1)], 0, 0) := by
  unfold readL
  rw [long_lines, readG, row_read may_33, if_neg (by simp), if_neg (by decide), readG, long_rowR h0, if_neg h, if_neg (by simp), if_neg (by decide), readG]
  rfl
theorem long_may (T : List UInt8) (r : Int) (h0 : 0 ≤ r) (h1 : r ≤ 65535) (hT : T ≠ []) : okW [(T, r)] = decide (T.length ≤ 64) := by
  have hp := List.length_pos_iff.2 hT
  unfold okW
  rw [List.all_cons, List.all_nil, Bool.and_true, decide_eq_true (by simp), Bool.true_and]
  unfold mayW
  rw [decide_eq_decide]
  simp only
  omega
end Go.Proofs.YtefhifmilmedhaaDoor
