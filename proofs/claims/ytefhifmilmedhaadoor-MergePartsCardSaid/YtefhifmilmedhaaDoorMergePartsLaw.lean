/- The plain law of cut files of tables. -/
import Derived.Test.YtefhifmilmedhaaDoorMergeWLaw
namespace Go.Proofs.YtefhifmilmedhaaDoor
set_option linter.unusedVariables false

theorem all_takeP {Q : PairsL} (m : Nat) (h : Q.all mayP = true) : (Q.take m).all mayP = true := by
  rw [List.all_eq_true] at h ⊢
  exact fun x hx => h x (List.mem_of_mem_take hx)
theorem tab_len (R : RowsI) (Q : PairsL) : (tabLines R Q).length = R.length + Q.length + 2 := by
  unfold tabLines; simp; omega
theorem tab_take_early {R : RowsI} {Q : PairsL} {k : Nat} (hk : k ≤ R.length) : (tabLines R Q).take (k + 1) = vocabL :: (R.take k).map rowT := by
  unfold tabLines
  rw [List.take_succ_cons, List.take_append_of_le_length (by simpa using hk), List.map_take]
theorem tab_take_late {R : RowsI} {Q : PairsL} {k : Nat} (hk : R.length < k) : (tabLines R Q).take (k + 1) = tabLines R (Q.take (k - R.length - 1)) := by
  unfold tabLines
  obtain ⟨m, rfl⟩ : ∃ m, k = R.length + (m + 1) := ⟨k - R.length - 1, by omega⟩
  rw [List.take_succ_cons, show R.length + (m + 1) = (R.map rowT).length + (m + 1) by simp, List.take_length_add_append, List.take_succ_cons, List.map_take]
  simp
/-- Cut ahead of the merges line: the line behind is lacking. -/
theorem parts_early {R : RowsI} {Q : PairsL} {k : Nat} (h : okM R Q = true) (hk : k ≤ R.length) : mergeL (feeds ((tabLines R Q).take (k + 1))) = ([], [], k + 2, 2) := by
  have ho := okM_yes h
  have hp := tab_plain R Q
  unfold mergeL
  rw [feeds_lines _ fun s hs => hp s (List.mem_of_mem_take hs), tab_take_early hk, mergeG]
  have s0 : stepM 0 [] [] vocabL = (0, 1, [], []) := by unfold stepM; simp
  rw [s0]
  simp only [ne_eq, not_true, if_false]
  have hl : (R.take k).length = k := by rw [List.length_take]; omega
  have := rowsT_read (R.take k) [] [] (0 + 1) [] (by rw [List.all_eq_true]; exact fun x hx => List.all_eq_true.1 ho.2.2.1 x (List.mem_of_mem_take hx)) (by rw [hl]; have := ho.1; simp; omega)
  rw [List.append_nil] at this
  rw [this, mergeG, if_neg (by decide), hl]
  rw [show 0 + 1 + k + 1 = k + 2 by omega]
/-- Cut behind it: the first pairs. -/
theorem parts_late {R : RowsI} {Q : PairsL} {k : Nat} (h : okM R Q = true) (hk : R.length < k) : mergeL (feeds ((tabLines R Q).take (k + 1))) = (R.map natW, Q.take (k - R.length - 1), 0, 0) := by
  have ho := okM_yes h
  rw [tab_take_late hk]
  refine merge_read ?_
  unfold okM
  rw [ho.2.2.1, all_takeP _ ho.2.2.2, decide_eq_true ho.1, decide_eq_true (by rw [List.length_take]; omega)]
  rfl
/-- The place behind the first k + 1 feeds, as it is sought. -/
theorem feeds_take (L : List (List UInt8)) (k : Nat) : feeds (L.take k) = (feeds L).take (feeds (L.take k)).length := by
  have e : feeds L = feeds (L.take k) ++ feeds (L.drop k) := by rw [← feeds_app, List.take_append_drop]
  rw [e, List.take_left]
theorem feeds_count : ∀ (L : List (List UInt8)), (∀ s ∈ L, ∀ y ∈ s, y ≠ 10) → (feeds L).count 10 = L.length
  | [], _ => rfl
  | s :: r, h => by
    rw [feeds, List.count_append, List.count_cons, feeds_count r fun t ht => h t (by simp [ht])]
    have : s.count 10 = 0 := List.count_eq_zero.2 fun hm => h s (by simp) 10 hm rfl
    rw [this]; simp
end Go.Proofs.YtefhifmilmedhaaDoor
