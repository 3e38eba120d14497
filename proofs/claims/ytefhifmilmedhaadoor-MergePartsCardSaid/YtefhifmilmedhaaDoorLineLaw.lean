/- The plain law of lines, words and numbers: no program in sight. -/
import Derived.Test.YtefhifmilmedhaaDoorBase
import Derived.Lib.ItoaNum
namespace Go.Proofs.YtefhifmilmedhaaDoor
open Go.RowKit

theorem last_split {l : List UInt8} {c : UInt8} (h : l.getLast? = some c) : l = l.dropLast ++ [c] := by
  have hne : l ≠ [] := fun e => by rw [e] at h; cases h
  rw [List.getLast?_eq_some_getLast hne] at h
  injection h with h
  rw [← h]
  exact (List.dropLast_concat_getLast hne).symm
/-- The parts of bytes between signs c, the first one begun with cur. -/
def partsF (c : UInt8) : List UInt8 → List UInt8 → List (List UInt8)
  | cur, [] => [cur]
  | cur, x :: xs => if x = c then cur :: partsF c [] xs else partsF c (cur ++ [x]) xs
theorem partsF_ne (c : UInt8) (l : List UInt8) : ∀ cur, partsF c cur l ≠ [] := by
  induction l with
  | nil => intro cur; simp [partsF]
  | cons x xs ih => intro cur; unfold partsF; split <;> simp [ih]
theorem partsF_length (c : UInt8) (l : List UInt8) : ∀ cur, (partsF c cur l).length ≤ l.length + 1 := by
  induction l with
  | nil => intro cur; simp [partsF]
  | cons x xs ih =>
    intro cur
    unfold partsF
    split
    · have := ih []; simp; omega
    · have := ih (cur ++ [x]); simp; omega
theorem partsF_join (c : UInt8) (a b : List UInt8) : ∀ cur, partsF c cur (a ++ c :: b) = partsF c cur a ++ partsF c [] b := by
  induction a with
  | nil => intro cur; simp [partsF]
  | cons x xs ih =>
    intro cur
    simp only [List.cons_append, partsF]
    split
    · rw [ih, List.cons_append]
    · rw [ih]
theorem partsF_plain (c : UInt8) (l : List UInt8) (h : ∀ x ∈ l, x ≠ c) : ∀ cur, partsF c cur l = [cur ++ l] := by
  induction l with
  | nil => intro cur; simp [partsF]
  | cons x xs ih =>
    intro cur
    rw [partsF, if_neg (h x (List.mem_cons_self ..)), ih (fun y hy => h y (List.mem_cons_of_mem _ hy))]
    simp
theorem partsF_mem (c : UInt8) (l : List UInt8) : ∀ cur, (∀ x ∈ cur, x ≠ c) → ∀ p ∈ partsF c cur l, ∀ x ∈ p, x ≠ c := by
  induction l with
  | nil => intro cur hc p hp; simp only [partsF, List.mem_singleton] at hp; subst hp; exact hc
  | cons y ys ih =>
    intro cur hc p hp
    unfold partsF at hp
    split at hp
    · rcases List.mem_cons.1 hp with rfl | hp
      · exact hc
      · exact ih [] (by simp) p hp
    · rename_i hy
      exact ih _ (fun x hx => (List.mem_append.1 hx).elim (hc x) (fun h => by rw [List.mem_singleton.1 h]; exact hy)) p hp

/-- The lines of bytes. -/
def linesL (l : List UInt8) : List (List UInt8) :=
  if l = [] then [] else if l.getLast? = some 10 then partsF 10 [] l.dropLast else partsF 10 [] l
theorem linesL_length (l : List UInt8) : (linesL l).length ≤ l.length := by
  unfold linesL
  split
  · simp
  · rename_i h0
    have hp : 0 < l.length := by cases l with | nil => exact absurd rfl h0 | cons => simp
    split
    · have := partsF_length 10 l.dropLast []; rw [List.length_dropLast] at this; omega
    · rename_i hl
      have key : ∀ (l : List UInt8) (cur : List UInt8), l ≠ [] → l.getLast? ≠ some 10 → (partsF 10 cur l).length ≤ l.length := by
        intro l
        induction l with
        | nil => intro cur h; exact absurd rfl h
        | cons x xs ih =>
          intro cur _ hl
          by_cases hxs : xs = []
          · subst hxs
            have hx : x ≠ 10 := fun e => hl (by rw [e]; rfl)
            simp [partsF, hx]
          · have hl' : xs.getLast? ≠ some 10 := by rwa [List.getLast?_cons_of_ne_nil hxs] at hl
            unfold partsF
            split
            · have := ih [] hxs hl'; simp; omega
            · have := ih (cur ++ [x]) hxs hl'; simp; omega
      exact key l [] h0 hl
theorem linesL_feed (l : List UInt8) : linesL (l ++ [10]) = partsF 10 [] l := by
  unfold linesL
  rw [if_neg (by simp), if_pos (by simp), List.dropLast_concat]
/-- The lines that the document tells: those that are closed, and what is left. -/
def rlines : List UInt8 → List UInt8 → List (List UInt8)
  | cur, [] => if cur = [] then [] else [cur]
  | cur, x :: xs => if x = 10 then cur :: rlines [] xs else rlines (cur ++ [x]) xs
theorem rlines_feed (l : List UInt8) : ∀ cur, rlines cur (l ++ [10]) = partsF 10 cur l := by
  induction l with
  | nil => intro cur; simp [rlines, partsF]
  | cons x xs ih =>
    intro cur
    simp only [List.cons_append, rlines, partsF, ih]
theorem rlines_open (l : List UInt8) : ∀ cur, l.getLast? ≠ some 10 → (l ≠ [] ∨ cur ≠ []) → rlines cur l = partsF 10 cur l := by
  induction l with
  | nil => intro cur _ h; exact h.elim (fun h => absurd rfl h) (fun h => by simp [rlines, partsF, h])
  | cons x xs ih =>
    intro cur hl _
    unfold rlines partsF
    by_cases hxs : xs = []
    · subst hxs
      have hx : x ≠ 10 := fun e => hl (by rw [e]; rfl)
      simp [hx, rlines, partsF]
    · have hl' : xs.getLast? ≠ some 10 := by rwa [List.getLast?_cons_of_ne_nil hxs] at hl
      rw [ih [] hl' (.inl hxs), ih _ hl' (.inl hxs)]
theorem rlines_eq (l : List UInt8) : rlines [] l = linesL l := by
  unfold linesL
  by_cases h0 : l = []
  · subst h0; simp [rlines]
  · rw [if_neg h0]
    by_cases hl : l.getLast? = some 10
    · rw [if_pos hl]
      obtain ⟨m, rfl⟩ : ∃ m, l = m ++ [10] := ⟨_, last_split hl⟩
      rw [rlines_feed, List.dropLast_concat]
    · rw [if_neg hl, rlines_open l [] hl (.inl h0)]
theorem linesL_join (a b : List UInt8) : linesL (a ++ 10 :: b) = linesL a ++ (if a = [] ∨ a.getLast? = some 10 then [[]] else []) ++ linesL b := by
  have hA : partsF 10 [] a = linesL a ++ (if a = [] ∨ a.getLast? = some 10 then [[]] else []) := by
    unfold linesL
    by_cases h0 : a = []
    · subst h0; simp [partsF]
    · rw [if_neg h0]
      by_cases hl : a.getLast? = some 10
      · rw [if_pos hl, if_pos (.inr hl)]
        obtain ⟨m, rfl⟩ : ∃ m, a = m ++ [10] := ⟨_, last_split hl⟩
        rw [List.dropLast_concat, partsF_join]
        rfl
      · rw [if_neg hl, if_neg (by rintro (h | h); exact h0 h; exact hl h)]
        simp
  rw [← hA]
  by_cases hb : b = []
  · subst hb
    rw [linesL_feed]
    simp [linesL]
  · conv => lhs; unfold linesL
    conv => rhs; rw [linesL]
    rw [if_neg (by simp), if_neg hb]
    rw [show (a ++ 10 :: b).getLast? = b.getLast? from by rw [List.getLast?_append, List.getLast?_cons_of_ne_nil hb]; simp [List.getLast?_eq_some_getLast hb]]
    by_cases hl : b.getLast? = some 10
    · rw [if_pos hl, if_pos hl]
      obtain ⟨m, rfl⟩ : ∃ m, b = m ++ [10] := ⟨_, last_split hl⟩
      rw [show a ++ 10 :: (m ++ [10]) = (a ++ 10 :: m) ++ [10] from by simp, List.dropLast_concat, List.dropLast_concat, partsF_join]
    · rw [if_neg hl, if_neg hl, partsF_join]

/-- The words of a line; none: an empty one is among them. -/
def wordsL (l : List UInt8) : Option (List (List UInt8)) := if [] ∈ partsF 32 [] l then none else some (partsF 32 [] l)
theorem wordsL_some {l : List UInt8} {ws : List (List UInt8)} (h : wordsL l = some ws) : ws = partsF 32 [] l ∧ [] ∉ partsF 32 [] l := by
  unfold wordsL at h
  split at h
  · cases h
  · rename_i hn; injection h with h; exact ⟨h.symm, hn⟩
/-- Parts with a sign between. -/
def glueL (c : UInt8) : List (List UInt8) → List UInt8
  | [] => []
  | [x] => x
  | x :: y :: r => x ++ c :: glueL c (y :: r)
theorem glueL_cons (c : UInt8) (x : List UInt8) {r : List (List UInt8)} (h : r ≠ []) : glueL c (x :: r) = x ++ c :: glueL c r := by
  cases r with
  | nil => exact absurd rfl h
  | cons y r => rfl
theorem glue_partsF (c : UInt8) (l : List UInt8) : ∀ cur, glueL c (partsF c cur l) = cur ++ l := by
  induction l with
  | nil => intro cur; simp [partsF, glueL]
  | cons x xs ih =>
    intro cur
    unfold partsF
    split
    · rename_i hx
      rw [glueL_cons _ _ (partsF_ne _ _ _), ih, hx]; rfl
    · rw [ih]; simp
end Go.Proofs.YtefhifmilmedhaaDoor
