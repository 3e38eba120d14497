/- The plain law of writing tables: the file, read as the tables that it was written of. -/
import Derived.Test.YtefhifmilmedhaaDoorMergeLaw
import Derived.Test.YtefhifmilmedhaaDoorLetLaw
import Derived.Test.YtefhifmilmedhaaDoorRankWLaw
namespace Go.Proofs.YtefhifmilmedhaaDoor
set_option linter.unusedVariables false

/-- Lines, each ended by a feed. -/
def feeds : List (List UInt8) → List UInt8
  | [] => []
  | s :: r => s ++ 10 :: feeds r
theorem feeds_app : ∀ a b : List (List UInt8), feeds (a ++ b) = feeds a ++ feeds b
  | [], b => rfl
  | x :: a, b => by rw [List.cons_append, feeds, feeds, feeds_app a b]; simp
theorem feeds_parts : ∀ (L : List (List UInt8)) (m : List UInt8), (∀ s ∈ L, ∀ y ∈ s, y ≠ 10) → partsF 10 [] (feeds L ++ m) = L ++ partsF 10 [] m
  | [], m, _ => rfl
  | s :: r, m, h => by
    rw [feeds, List.append_assoc, List.cons_append, partsF_join, partsF_plain 10 s (h s (by simp)), feeds_parts r m fun t ht => h t (by simp [ht])]
    simp
theorem feeds_snoc (L : List (List UInt8)) (s : List UInt8) : feeds (L ++ [s]) = (feeds L ++ s) ++ [10] := by
  rw [feeds_app]; simp [feeds]
theorem feeds_lines (L : List (List UInt8)) (h : ∀ s ∈ L, ∀ y ∈ s, y ≠ 10) : linesL (feeds L) = L := by
  rcases List.eq_nil_or_concat L with h0 | ⟨m, x, h0⟩
  · subst h0; simp [feeds, linesL]
  · rw [List.concat_eq_append] at h0
    subst h0
    rw [feeds_snoc, linesL_feed, feeds_parts m x fun t ht => h t (by simp [ht]), partsF_plain 10 x (h x (by simp))]
    simp

abbrev RowsI := List (List UInt8 × Int)
def rowT (x : List UInt8 × Int) : List UInt8 := wr x.1 ++ 32 :: Lib.itoa x.2
def pairT (x : List UInt8 × List UInt8) : List UInt8 := wr x.1 ++ 32 :: wr x.2
def mayT1 (s : List UInt8) : Bool := decide (1 ≤ s.length ∧ s.length ≤ 64)
def mayP (x : List UInt8 × List UInt8) : Bool := mayT1 x.1 && mayT1 x.2
def tabLines (R : RowsI) (Q : PairsL) : List (List UInt8) := vocabL :: (R.map rowT ++ mergesL :: Q.map pairT)
/-- The file of tables. -/
def fileM (R : RowsI) (Q : PairsL) : List UInt8 := feeds (tabLines R Q)
def okM (R : RowsI) (Q : PairsL) : Bool := decide (R.length ≤ 4096) && decide (Q.length ≤ 16384) && R.all mayW && Q.all mayP

theorem wr_plain (l : List UInt8) : ∀ x ∈ wr l, x ≠ 10 ∧ x ≠ 32 := by
  intro x hx
  have := wr_high l x hx
  exact ⟨fun e => by subst e; have := this.1; revert this; decide, fun e => by subst e; have := this.1; revert this; decide⟩
theorem wr_ne {b : List UInt8} (h : b ≠ []) : wr b ≠ [] := by
  intro e
  have h1 := read_wr b 0
  rw [e, rdAt_nil] at h1
  exact h (congrArg Prod.fst h1).symm
theorem rowT_words (x : List UInt8 × Int) (h : x.1 ≠ []) : wordsL (rowT x) = some [wr x.1, Lib.itoa x.2] := by
  have hp : partsF 32 [] (rowT x) = [wr x.1, Lib.itoa x.2] := by
    unfold rowT
    rw [partsF_join, partsF_plain 32 (wr x.1) (fun y hy => (wr_plain _ y hy).2), partsF_plain 32 (Lib.itoa x.2) (fun y hy => (itoa_plain _ y hy).2)]
    simp
  unfold wordsL
  rw [hp, if_neg]
  simp only [List.mem_cons, List.mem_nil_iff, or_false]
  rintro (e | e)
  · exact wr_ne h e.symm
  · exact itoa_ne _ e.symm
theorem pairT_words (x : List UInt8 × List UInt8) (h : x.1 ≠ []) (h' : x.2 ≠ []) : wordsL (pairT x) = some [wr x.1, wr x.2] := by
  have hp : partsF 32 [] (pairT x) = [wr x.1, wr x.2] := by
    unfold pairT
    rw [partsF_join, partsF_plain 32 (wr x.1) (fun y hy => (wr_plain _ y hy).2), partsF_plain 32 (wr x.2) (fun y hy => (wr_plain _ y hy).2)]
    simp
  unfold wordsL
  rw [hp, if_neg]
  simp only [List.mem_cons, List.mem_nil_iff, or_false]
  rintro (e | e)
  · exact wr_ne h e.symm
  · exact wr_ne h' e.symm
theorem rowT_feed (x : List UInt8 × Int) : ∀ y ∈ rowT x, y ≠ 10 := by
  intro y hy
  unfold rowT at hy
  rcases List.mem_append.1 hy with h | h
  · exact (wr_plain _ y h).1
  · rcases List.mem_cons.1 h with h | h
    · subst h; decide
    · exact (itoa_plain _ y h).1
theorem pairT_feed (x : List UInt8 × List UInt8) : ∀ y ∈ pairT x, y ≠ 10 := by
  intro y hy
  unfold pairT at hy
  rcases List.mem_append.1 hy with h | h
  · exact (wr_plain _ y h).1
  · rcases List.mem_cons.1 h with h | h
    · subst h; decide
    · exact (wr_plain _ y h).1
theorem tab_plain (R : RowsI) (Q : PairsL) : ∀ s ∈ tabLines R Q, ∀ y ∈ s, y ≠ 10 := by
  intro s hs
  unfold tabLines at hs
  simp only [List.mem_cons, List.mem_append, List.mem_map] at hs
  rcases hs with rfl | ⟨x, _, rfl⟩ | rfl | ⟨x, _, rfl⟩
  · decide
  · exact rowT_feed x
  · decide
  · exact pairT_feed x
theorem wrR_wr {b : List UInt8} (h : b.length ≤ 64) : wrR (wr b) = (b, 0) := by
  unfold wrR
  rw [read_wr, if_neg (by simp), if_neg (by simp only; omega)]
theorem rowT_read {x : List UInt8 × Int} (h : mayW x = true) : rowM (rowT x) = ((natW x).1, (natW x).2, 0) := by
  have hm := mayW_yes h
  have h0 : x.1 ≠ [] := fun e => by rw [e] at hm; simp at hm
  have hn : numL (Lib.itoa x.2) = some x.2.toNat := by rw [num_itoa, if_pos ⟨hm.2.2.1, hm.2.2.2⟩]
  rw [rowM_two (rowT_words x h0), hn, if_neg (by simp), wrR_wr hm.2.1]
  rfl
theorem mayT1_yes {s : List UInt8} (h : mayT1 s = true) : 1 ≤ s.length ∧ s.length ≤ 64 := by unfold mayT1 at h; exact of_decide_eq_true h
theorem pairT_read {x : List UInt8 × List UInt8} (h : mayP x = true) : pairM (pairT x) = (x.1, x.2, 0) := by
  unfold mayP at h
  rw [Bool.and_eq_true] at h
  have h1 := mayT1_yes h.1
  have h2 := mayT1_yes h.2
  rw [pairM_two (pairT_words x (fun e => by rw [e] at h1; simp at h1) (fun e => by rw [e] at h2; simp at h2)), wrR_wr h1.2, wrR_wr h2.2]
  simp
theorem rowT_not (x : List UInt8 × Int) : rowT x ≠ mergesL := by
  intro e
  have h : (32 : UInt8) ∈ rowT x := by unfold rowT; simp
  rw [e] at h
  revert h; decide
theorem stepW_row {x : List UInt8 × Int} (h : mayW x = true) {R : RowsL} {Q : PairsL} (hl : R.length < 4096) : stepM 1 R Q (rowT x) = (0, 1, R ++ [natW x], Q) := by
  unfold stepM
  rw [if_neg (by decide), if_pos rfl, if_neg (rowT_not x), rowT_read h, if_neg (by simp), if_neg (by omega)]
theorem stepW_pair {x : List UInt8 × List UInt8} (h : mayP x = true) {R : RowsL} {Q : PairsL} (hl : Q.length < 16384) : stepM 2 R Q (pairT x) = (0, 2, R, Q ++ [x]) := by
  unfold stepM
  rw [if_neg (by decide), if_neg (by decide), pairT_read h, if_neg (by simp), if_neg (by omega)]
theorem rowsT_read : ∀ (l : RowsI) (R : RowsL) (Q : PairsL) (i : Nat) (r : List (List UInt8)), l.all mayW = true → R.length + l.length ≤ 4096 → mergeG 1 R Q i (l.map rowT ++ r) = mergeG 1 (R ++ l.map natW) Q (i + l.length) r
  | [], R, Q, i, r, _, _ => by simp
  | x :: l, R, Q, i, r, h, hi => by
    rw [List.all_cons, Bool.and_eq_true] at h
    simp only [List.length_cons] at hi
    rw [List.map_cons, List.cons_append, mergeG, stepW_row h.1 (by omega)]
    simp only [ne_eq, not_true, if_false]
    rw [rowsT_read l _ _ _ r h.2 (by simp only [List.length_append, List.length_cons, List.length_nil]; omega)]
    simp only [List.map_cons, List.length_cons, List.append_assoc, List.singleton_append]
    rw [show i + 1 + l.length = i + (l.length + 1) by omega]
theorem pairsT_read : ∀ (l : PairsL) (R : RowsL) (Q : PairsL) (i : Nat) (r : List (List UInt8)), l.all mayP = true → Q.length + l.length ≤ 16384 → mergeG 2 R Q i (l.map pairT ++ r) = mergeG 2 R (Q ++ l) (i + l.length) r
  | [], R, Q, i, r, _, _ => by simp
  | x :: l, R, Q, i, r, h, hi => by
    rw [List.all_cons, Bool.and_eq_true] at h
    simp only [List.length_cons] at hi
    rw [List.map_cons, List.cons_append, mergeG, stepW_pair h.1 (by omega)]
    simp only [ne_eq, not_true, if_false]
    rw [pairsT_read l _ _ _ r h.2 (by simp only [List.length_append, List.length_cons, List.length_nil]; omega)]
    simp only [List.length_cons, List.append_assoc, List.singleton_append]
    rw [show i + 1 + l.length = i + (l.length + 1) by omega]
theorem okM_yes {R : RowsI} {Q : PairsL} (h : okM R Q = true) : R.length ≤ 4096 ∧ Q.length ≤ 16384 ∧ R.all mayW = true ∧ Q.all mayP = true := by
  unfold okM at h
  simp only [Bool.and_eq_true, decide_eq_true_eq] at h
  exact ⟨h.1.1.1, h.1.1.2, h.1.2, h.2⟩
/-- The file is read as the tables that it was written of. -/
theorem merge_read {R : RowsI} {Q : PairsL} (h : okM R Q = true) : mergeL (fileM R Q) = (R.map natW, Q, 0, 0) := by
  have ho := okM_yes h
  unfold mergeL fileM
  rw [feeds_lines _ (tab_plain R Q)]
  unfold tabLines
  have s0 : stepM 0 [] [] vocabL = (0, 1, [], []) := by unfold stepM; simp
  have s1 : ∀ X : RowsL, stepM 1 X [] mergesL = (0, 2, X, []) := fun X => by unfold stepM; simp
  rw [mergeG, s0]
  simp only [ne_eq, not_true, if_false]
  rw [rowsT_read R [] [] _ _ ho.2.2.1 (by simpa using ho.1), List.nil_append, mergeG, s1]
  simp only [ne_eq, not_true, if_false]
  have := pairsT_read Q (R.map natW) [] (0 + 1 + R.length + 1) [] ho.2.2.2 (by simpa using ho.2.1)
  rw [List.append_nil, List.nil_append] at this
  rw [this]
  simp [mergeG]
end Go.Proofs.YtefhifmilmedhaaDoor
