/- The plain law of writing rows: the file, read as the rows that it was written of. -/
import Derived.Test.YtefhifmilmedhaaDoorRankLaw
import Derived.Test.YtefhifmilmedhaaDoorB64Law
namespace Go.Proofs.YtefhifmilmedhaaDoor
set_option linter.unusedVariables false

def mayW (x : List UInt8 × Int) : Bool := decide (1 ≤ x.1.length ∧ x.1.length ≤ 64 ∧ 0 ≤ x.2 ∧ x.2 ≤ 9999999)
def rowW (x : List UInt8 × Int) : List UInt8 := enc64 x.1 ++ 32 :: Lib.itoa x.2
/-- The file of rows. -/
def fileW : List (List UInt8 × Int) → List UInt8
  | [] => []
  | x :: r => rowW x ++ 10 :: fileW r
def okW (l : List (List UInt8 × Int)) : Bool := decide (l.length ≤ 4096) && l.all mayW
def natW (x : List UInt8 × Int) : List UInt8 × Nat := (x.1, x.2.toNat)
theorem fileW_app : ∀ a b : List (List UInt8 × Int), fileW (a ++ b) = fileW a ++ fileW b
  | [], b => rfl
  | x :: a, b => by rw [List.cons_append, fileW, fileW, fileW_app a b]; simp
theorem sgn_plain : ∀ n, n < 64 → sgn n ≠ 10 ∧ sgn n ≠ 32 := by decide
theorem enc_plain : ∀ (b : List UInt8), ∀ x ∈ enc64 b, x ≠ 10 ∧ x ≠ 32
  | [], x, h => by simp [enc64] at h
  | [a], x, h => by
    have ha := a.toNat_lt
    simp only [enc64, List.mem_cons, List.mem_nil_iff, or_false] at h
    rcases h with rfl | rfl | rfl | rfl
    · exact sgn_plain _ (by omega)
    · exact sgn_plain _ (by omega)
    · decide
    · decide
  | [a, b], x, h => by
    have ha := a.toNat_lt
    have hb := b.toNat_lt
    simp only [enc64, List.mem_cons, List.mem_nil_iff, or_false] at h
    rcases h with rfl | rfl | rfl | rfl
    · exact sgn_plain _ (by omega)
    · exact sgn_plain _ (by omega)
    · exact sgn_plain _ (by omega)
    · decide
  | a :: b :: c :: r, x, h => by
    have ha := a.toNat_lt
    have hb := b.toNat_lt
    have hc := c.toNat_lt
    simp only [enc64, List.mem_cons] at h
    rcases h with rfl | rfl | rfl | rfl | h
    · exact sgn_plain _ (by omega)
    · exact sgn_plain _ (by omega)
    · exact sgn_plain _ (by omega)
    · exact sgn_plain _ (by omega)
    · exact enc_plain r x h
theorem dec_plain (u : Nat) : ∀ x ∈ Lib.decDigits u, x ≠ 10 ∧ x ≠ 32 := by
  induction u using Nat.strongRecOn with
  | _ u ih =>
    intro x hx
    have key : ∀ d, d < 10 → UInt8.ofNat (48 + d) ≠ 10 ∧ UInt8.ofNat (48 + d) ≠ 32 := by decide
    rw [Lib.decDigits] at hx
    split at hx
    · rename_i h
      simp only [List.mem_singleton] at hx
      subst hx
      exact key u h
    · rename_i h
      rcases List.mem_append.1 hx with h1 | h1
      · exact ih (u / 10) (by omega) x h1
      · simp only [List.mem_singleton] at h1
        subst h1
        exact key _ (Nat.mod_lt _ (by omega))
theorem itoa_plain (n : Int) : ∀ x ∈ Lib.itoa n, x ≠ 10 ∧ x ≠ 32 := by
  intro x hx
  unfold Lib.itoa at hx
  split at hx
  · rcases List.mem_cons.1 hx with h | h
    · subst h; decide
    · exact dec_plain _ x h
  · exact dec_plain _ x hx
theorem itoa_ne (n : Int) : Lib.itoa n ≠ [] := by
  unfold Lib.itoa
  split
  · simp
  · exact dec_ne _
theorem enc_ne {b : List UInt8} (h : b ≠ []) : enc64 b ≠ [] := by
  intro e
  have := enc64_len b
  rw [e] at this
  have hb := List.length_pos_iff.2 h
  simp only [List.length_nil] at this
  omega
theorem row_words (x : List UInt8 × Int) (h : x.1 ≠ []) : wordsL (rowW x) = some [enc64 x.1, Lib.itoa x.2] := by
  have hp : partsF 32 [] (rowW x) = [enc64 x.1, Lib.itoa x.2] := by
    unfold rowW
    rw [partsF_join, partsF_plain 32 (enc64 x.1) (fun y hy => (enc_plain _ y hy).2), partsF_plain 32 (Lib.itoa x.2) (fun y hy => (itoa_plain _ y hy).2)]
    simp
  unfold wordsL
  rw [hp, if_neg]
  simp only [List.mem_cons, List.mem_nil_iff, or_false]
  rintro (e | e)
  · exact enc_ne h e.symm
  · exact itoa_ne _ e.symm
theorem row_feed (x : List UInt8 × Int) : ∀ y ∈ rowW x, y ≠ 10 := by
  intro y hy
  unfold rowW at hy
  rcases List.mem_append.1 hy with h | h
  · exact (enc_plain _ y h).1
  · rcases List.mem_cons.1 h with h | h
    · subst h; decide
    · exact (itoa_plain _ y h).1
theorem row_parts : ∀ (l : List (List UInt8 × Int)) (m : List UInt8), partsF 10 [] (fileW l ++ m) = l.map rowW ++ partsF 10 [] m
  | [], m => rfl
  | x :: r, m => by
    rw [fileW, List.append_assoc, List.cons_append, partsF_join, partsF_plain 10 (rowW x) (row_feed x), row_parts r m]
    simp
theorem file_snoc (l : List (List UInt8 × Int)) (x : List UInt8 × Int) : fileW (l ++ [x]) = (fileW l ++ rowW x) ++ [10] := by
  rw [fileW_app]; simp [fileW]
/-- The lines of a file are its rows. -/
theorem file_lines (l : List (List UInt8 × Int)) : linesL (fileW l) = l.map rowW := by
  rcases List.eq_nil_or_concat l with h | ⟨m, x, h⟩
  · subst h; simp [fileW, linesL]
  · rw [List.concat_eq_append] at h
    subst h
    rw [file_snoc, linesL_feed, row_parts, partsF_plain 10 (rowW x) (row_feed x)]
    simp
theorem mayW_yes {x : List UInt8 × Int} (h : mayW x = true) : 1 ≤ x.1.length ∧ x.1.length ≤ 64 ∧ 0 ≤ x.2 ∧ x.2 ≤ 9999999 := by unfold mayW at h; exact of_decide_eq_true h
theorem row_read {x : List UInt8 × Int} (h : mayW x = true) : rowR (rowW x) = ((natW x).1, (natW x).2, 0) := by
  have hm := mayW_yes h
  have h0 : x.1 ≠ [] := fun e => by rw [e] at hm; simp at hm
  have hn : numL (Lib.itoa x.2) = some x.2.toNat := by rw [num_itoa, if_pos ⟨hm.2.2.1, hm.2.2.2⟩]
  rw [rowR_two (row_words x h0), dec_enc, hn, if_neg (by simp), if_neg (by simp only; omega)]
  rfl
theorem rows_read : ∀ (l : List (List UInt8 × Int)) (pre : List (List UInt8 × Nat)) (i : Nat) (r : List (List UInt8)), l.all mayW = true → i + l.length ≤ 4096 → readG pre i (l.map rowW ++ r) = readG (pre ++ l.map natW) (i + l.length) r
  | [], pre, i, r, _, _ => by simp
  | x :: l, pre, i, r, h, hi => by
    rw [List.all_cons, Bool.and_eq_true] at h
    rw [List.map_cons, List.cons_append, readG, row_read h.1, if_neg (by simp), if_neg (by simp only [List.length_cons] at hi; omega), rows_read l _ _ r h.2 (by simp only [List.length_cons] at hi; omega)]
    simp only [List.map_cons, List.length_cons, List.append_assoc, List.singleton_append]
    rw [show i + 1 + l.length = i + (l.length + 1) by omega]
/-- The file is read as the rows that it was written of. -/
theorem file_read {l : List (List UInt8 × Int)} (h : okW l = true) : readL (fileW l) = (l.map natW, 0, 0) := by
  unfold okW at h
  rw [Bool.and_eq_true, decide_eq_true_iff] at h
  unfold readL
  rw [file_lines]
  have := rows_read l [] 0 [] h.2 (by omega)
  rw [List.append_nil] at this
  rw [this]
  simp [readG]
theorem natW_back {x : List UInt8 × Int} (h : mayW x = true) : ((natW x).1, ((natW x).2 : Int)) = x := by
  have := mayW_yes h
  obtain ⟨a, b⟩ := x
  simp only [natW]
  rw [Int.toNat_of_nonneg this.2.2.1]
theorem nats_back {l : List (List UInt8 × Int)} (h : l.all mayW = true) : (l.map natW).map (fun x => (x.1, (x.2 : Int))) = l := by
  rw [List.map_map]
  conv => rhs; rw [← List.map_id l]
  exact List.map_congr_left fun x hx => natW_back (List.all_eq_true.1 h x hx)
end Go.Proofs.YtefhifmilmedhaaDoor
