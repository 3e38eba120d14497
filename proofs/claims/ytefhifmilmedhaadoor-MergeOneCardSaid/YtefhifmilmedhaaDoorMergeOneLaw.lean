/- The plain law of one file: tables that were read are written as they stood, but for a feed at the end. -/
import Derived.Test.YtefhifmilmedhaaDoorMergeWLaw
import Derived.Lib.ItoaMem
namespace Go.Proofs.YtefhifmilmedhaaDoor
set_option linter.unusedVariables false

theorem feeds_partsF (l : List UInt8) : ∀ cur, feeds (partsF 10 cur l) = cur ++ l ++ [10] := by
  induction l with
  | nil => intro cur; simp [partsF, feeds]
  | cons x xs ih =>
    intro cur
    unfold partsF
    split
    · rename_i hx
      rw [feeds, ih, hx]; simp
    · rw [ih]; simp
/-- The lines, each ended by a feed: the bytes, or these with a feed. -/
theorem feeds_linesL {l : List UInt8} (h : l ≠ []) : feeds (linesL l) = l ∨ feeds (linesL l) = l ++ [10] := by
  unfold linesL
  rw [if_neg h]
  split
  · rename_i h10
    left
    rw [feeds_partsF, List.nil_append]
    rw [List.getLast?_eq_some_iff] at h10
    obtain ⟨m, hm⟩ := h10
    rw [hm, List.dropLast_concat]
  · right
    rw [feeds_partsF, List.nil_append]
theorem itoa_of_num {b : List UInt8} {n : Nat} (h : numL b = some n) : Lib.itoa (n : Int) = b := by
  rw [Lib.itoa_nonneg]
  unfold numL at h
  split at h
  · cases h
  · rename_i hc
    refine dec_of_num b n (fun e => hc (Or.inl e)) (fun e => ?_) h
    rcases Nat.lt_or_ge 1 b.length with h1 | h1
    · exact absurd (Or.inr (Or.inr ⟨e, h1⟩)) hc
    · have : 0 < b.length := List.length_pos_iff.2 fun e' => hc (Or.inl e')
      omega
theorem wr_of_R {a : List UInt8} (h : (wrR a).2 = 0) : wr (wrR a).1 = a ∧ (wrR a).1.length ≤ 64 := by
  refine ⟨?_, wrR_le a⟩
  have hf := (rdAt_facts a.length a 0 (Nat.le_refl _)).1
  unfold wrR at h ⊢
  split at h
  · cases h
  · rename_i h1
    rw [if_neg h1]
    split at h
    · cases h
    · rename_i h2
      rw [if_neg h2]
      have ht : (rdAt a 0).2.2 = true := by simpa using h1
      refine wr_read a.length a 0 _ (Nat.le_refl _) ?_
      have hz := (hf ht).1
      rcases e : rdAt a 0 with ⟨x, y, z⟩
      rw [e] at ht hz
      simp only at ht hz
      rw [ht, hz]
theorem words_back {s a b : List UInt8} (h : wordsL s = some [a, b]) : s = a ++ 32 :: b ∧ a ≠ [] ∧ b ≠ [] := by
  obtain ⟨e, hn⟩ := wordsL_some h
  have g := glue_partsF 32 s []
  rw [← e, List.nil_append] at g
  rw [← e] at hn
  refine ⟨by rw [← g]; rfl, fun h => hn (by simp [h]), fun h => hn (by simp [h])⟩
def intR (x : List UInt8 × Nat) : List UInt8 × Int := (x.1, x.2)
theorem row_one {s : List UInt8} (h : (rowM s).2.2 = 0) : rowT (intR ((rowM s).1, (rowM s).2.1)) = s ∧ mayW (intR ((rowM s).1, (rowM s).2.1)) = true := by
  by_cases hw : ∃ a b, wordsL s = some [a, b]
  · obtain ⟨a, b, hw⟩ := hw
    obtain ⟨hs, ha, hb⟩ := words_back hw
    rw [rowM_two hw] at h ⊢
    by_cases hn : numL b = none
    · rw [if_pos hn] at h; cases h
    · rw [if_neg hn] at h ⊢
      obtain ⟨n, hn'⟩ := Option.ne_none_iff_exists'.1 hn
      have hr := wr_of_R h
      have hne : (wrR a).1 ≠ [] := fun e => ha (by rw [← hr.1, e]; rfl)
      have hpos := List.length_pos_iff.2 hne
      have hbd := numL_bound hn'
      refine ⟨?_, ?_⟩
      · simp only [intR, rowT, hn', Option.getD_some]
        rw [hr.1, itoa_of_num hn', hs]
      · unfold mayW
        simp only [intR, hn', Option.getD_some]
        exact decide_eq_true ⟨hpos, hr.2, by omega, by omega⟩
  · rw [rowM_bad fun a b e => hw ⟨a, b, e⟩] at h; cases h
theorem pair_one {s : List UInt8} (h : (pairM s).2.2 = 0) : pairT ((pairM s).1, (pairM s).2.1) = s ∧ mayP ((pairM s).1, (pairM s).2.1) = true := by
  by_cases hw : ∃ a b, wordsL s = some [a, b]
  · obtain ⟨a, b, hw⟩ := hw
    obtain ⟨hs, ha, hb⟩ := words_back hw
    rw [pairM_two hw] at h ⊢
    by_cases h2 : (wrR a).2 = 2 ∨ (wrR b).2 = 2
    · rw [if_pos h2] at h; cases h
    · rw [if_neg h2] at h ⊢
      by_cases h7 : (wrR a).2 ≠ 0 ∨ (wrR b).2 ≠ 0
      · rw [if_pos h7] at h; cases h
      · rw [if_neg h7] at h ⊢
        have e1 : (wrR a).2 = 0 := by omega
        have e2 : (wrR b).2 = 0 := by omega
        have hr := wr_of_R e1
        have hq := wr_of_R e2
        have hne : (wrR a).1 ≠ [] := fun e => ha (by rw [← hr.1, e]; rfl)
        have hnq : (wrR b).1 ≠ [] := fun e => hb (by rw [← hq.1, e]; rfl)
        have hp1 := List.length_pos_iff.2 hne
        have hp2 := List.length_pos_iff.2 hnq
        refine ⟨?_, ?_⟩
        · simp only [pairT]
          rw [hr.1, hq.1, hs]
        · unfold mayP mayT1
          rw [Bool.and_eq_true]
          exact ⟨decide_eq_true ⟨hp1, hr.2⟩, decide_eq_true ⟨hp2, hq.2⟩⟩
  · rw [pairM_bad fun a b e => hw ⟨a, b, e⟩] at h; cases h
theorem pairs_back : ∀ (L : List (List UInt8)) (R : RowsL) (Q : PairsL) (i : Nat) (X : RowsL) (Y : PairsL), mergeG 2 R Q i L = (X, Y, 0, 0) → Q.length ≤ 16384 →
    ∃ Ps : PairsL, L = Ps.map pairT ∧ X = R ∧ Y = Q ++ Ps ∧ Ps.all mayP = true ∧ Y.length ≤ 16384
  | [], R, Q, i, X, Y, h, hq => by
    rw [mergeG, if_pos rfl] at h
    simp only [Prod.mk.injEq, and_true] at h
    exact ⟨[], rfl, h.1.symm, by rw [List.append_nil]; exact h.2.symm, rfl, by rw [← h.2]; exact hq⟩
  | s :: r, R, Q, i, X, Y, h, hq => by
    rw [mergeG] at h
    by_cases hp : (pairM s).2.2 = 0
    · by_cases hl : 16384 ≤ Q.length
      · have e : stepM 2 R Q s = (7, 2, R, Q) := by unfold stepM; rw [if_neg (by decide), if_neg (by decide), if_neg (by simpa using hp), if_pos hl]
        rw [e, if_pos (by simp)] at h
        simp at h
      · have e : stepM 2 R Q s = (0, 2, R, Q ++ [((pairM s).1, (pairM s).2.1)]) := by unfold stepM; rw [if_neg (by decide), if_neg (by decide), if_neg (by simpa using hp), if_neg hl]
        rw [e, if_neg (by simp)] at h
        obtain ⟨Ps, h1, h2, h3, h4, h5⟩ := pairs_back r _ _ _ X Y h (by simp only [List.length_append, List.length_cons, List.length_nil]; omega)
        have ho := pair_one hp
        exact ⟨((pairM s).1, (pairM s).2.1) :: Ps, by rw [List.map_cons, ho.1, h1], h2, by rw [h3]; simp, by rw [List.all_cons, ho.2, h4]; rfl, h5⟩
    · have e : (stepM 2 R Q s).1 = (pairM s).2.2 := by unfold stepM; rw [if_neg (by decide), if_neg (by decide), if_pos hp]
      rw [e, if_pos hp] at h
      simp at h
theorem rows_back : ∀ (L : List (List UInt8)) (R : RowsL) (Q : PairsL) (i : Nat) (X : RowsL) (Y : PairsL), mergeG 1 R Q i L = (X, Y, 0, 0) → R.length ≤ 4096 → Q.length ≤ 16384 →
    ∃ (Rs : RowsL) (Ps : PairsL), L = Rs.map (fun x => rowT (intR x)) ++ mergesL :: Ps.map pairT ∧ X = R ++ Rs ∧ Y = Q ++ Ps ∧ (Rs.map intR).all mayW = true ∧ Ps.all mayP = true ∧ X.length ≤ 4096 ∧ Y.length ≤ 16384
  | [], R, Q, i, X, Y, h, hr, hq => by
    rw [mergeG, if_neg (by decide)] at h
    simp at h
  | s :: r, R, Q, i, X, Y, h, hr, hq => by
    rw [mergeG] at h
    by_cases hm : s = mergesL
    · have e : stepM 1 R Q s = (0, 2, R, Q) := by unfold stepM; rw [if_neg (by decide), if_pos rfl, if_pos hm]
      rw [e, if_neg (by simp)] at h
      obtain ⟨Ps, h1, h2, h3, h4, h5⟩ := pairs_back r _ _ _ X Y h hq
      exact ⟨[], Ps, by rw [h1, hm]; rfl, by rw [h2, List.append_nil], h3, rfl, h4, by rw [h2]; exact hr, h5⟩
    · by_cases hp : (rowM s).2.2 = 0
      · by_cases hl : 4096 ≤ R.length
        · have e : stepM 1 R Q s = (7, 1, R, Q) := by unfold stepM; rw [if_neg (by decide), if_pos rfl, if_neg hm, if_neg (by simpa using hp), if_pos hl]
          rw [e, if_pos (by simp)] at h
          simp at h
        · have e : stepM 1 R Q s = (0, 1, R ++ [((rowM s).1, (rowM s).2.1)], Q) := by unfold stepM; rw [if_neg (by decide), if_pos rfl, if_neg hm, if_neg (by simpa using hp), if_neg hl]
          rw [e, if_neg (by simp)] at h
          obtain ⟨Rs, Ps, h1, h2, h3, h4, h5, h6, h7⟩ := rows_back r _ _ _ X Y h (by simp only [List.length_append, List.length_cons, List.length_nil]; omega) hq
          have ho := row_one hp
          exact ⟨((rowM s).1, (rowM s).2.1) :: Rs, Ps, by rw [List.map_cons, ho.1, h1]; rfl, by rw [h2]; simp, h3, by rw [List.map_cons, List.all_cons, ho.2, h4]; rfl, h5, h6, h7⟩
      · have e : (stepM 1 R Q s).1 = (rowM s).2.2 := by unfold stepM; rw [if_neg (by decide), if_pos rfl, if_neg hm, if_pos hp]
        rw [e, if_pos hp] at h
        simp at h
/-- Tables that were read are written as they stood, but for a feed at the end. -/
theorem merge_one {l : List UInt8} {X : RowsL} {Y : PairsL} (h : mergeL l = (X, Y, 0, 0)) : okM (X.map intR) Y = true ∧ (fileM (X.map intR) Y = l ∨ fileM (X.map intR) Y = l ++ [10]) := by
  have hl : l ≠ [] := by
    rintro rfl
    rw [show mergeL [] = ([], [], 1, 2) from by decide] at h
    simp at h
  unfold mergeL at h
  have hf := feeds_linesL hl
  revert h hf
  generalize linesL l = L
  intro h hf
  cases L with
  | nil => rw [mergeG, if_neg (by decide)] at h; simp at h
  | cons s r =>
    rw [mergeG] at h
    by_cases hv : s = vocabL
    · have e : stepM 0 [] [] s = (0, 1, [], []) := by unfold stepM; rw [if_pos rfl, if_pos hv]
      rw [e, if_neg (by simp)] at h
      obtain ⟨Rs, Ps, h1, h2, h3, h4, h5, h6, h7⟩ := rows_back r _ _ _ X Y h (by simp) (by simp)
      rw [List.nil_append] at h2 h3
      subst h2 h3
      have ht : s :: r = tabLines (X.map intR) Y := by unfold tabLines; rw [hv, h1, List.map_map]; rfl
      refine ⟨?_, by unfold fileM; rw [← ht]; exact hf⟩
      unfold okM
      rw [h4, h5, decide_eq_true (by simpa using h6), decide_eq_true h7]
      rfl
    · have e : (stepM 0 [] [] s).1 = 2 := by unfold stepM; rw [if_pos rfl, if_neg hv]
      rw [e, if_pos (by simp)] at h
      simp at h
end Go.Proofs.YtefhifmilmedhaaDoor
