/- What class and its reference compute, as plain functions, and the plain laws. -/
import Derived.Test.YthhcdblkbdnbeaaDoorWords
namespace Go.Proofs.YthhcdblkbdnbeaaDoor
open Go.RowKit
set_option linter.unusedVariables false

/-- A range: from, to, class. -/
abbrev Rg := Int × Int × Int
def rOk : Int → List Rg → Bool
  | _, [] => true
  | last, x :: r => decide (last < x.1 ∧ x.1 ≤ x.2.1 ∧ x.2.1 ≤ 1114111 ∧ 1 ≤ x.2.2 ∧ x.2.2 ≤ 4) && rOk x.2.1 r
/-- May a table be? A number's class, of a table that may be; of any table. -/
def mayT (t : List Rg) : Bool := decide (t.length ≤ 200) && rOk (-1) t
def ofT (p : Int) : List Rg → Int
  | [] => 0
  | x :: r => if x.1 ≤ p ∧ p ≤ x.2.1 then x.2.2 else ofT p r
def clsT (t : List Rg) (p : Int) : Int := if mayT t then ofT p t else 0
theorem rOk_cons {last : Int} {x : Rg} {r : List Rg} : rOk last (x :: r) = true ↔ (last < x.1 ∧ x.1 ≤ x.2.1 ∧ x.2.1 ≤ 1114111 ∧ 1 ≤ x.2.2 ∧ x.2.2 ≤ 4) ∧ rOk x.2.1 r = true := by
  rw [rOk, Bool.and_eq_true, decide_eq_true_iff]
theorem rOk_weak {a b : Int} (hab : b ≤ a) : ∀ {t : List Rg}, rOk a t = true → rOk b t = true
  | [], _ => rfl
  | x :: r, h => by
    rw [rOk_cons] at h ⊢
    exact ⟨⟨by omega, h.1.2⟩, h.2⟩
/-- The i-th range. -/
def rg (t : List Rg) (i : Nat) : Rg := t.getD i (0, 0, 0)
theorem rg_cons {x : Rg} {r : List Rg} {i : Nat} : rg (x :: r) (i + 1) = rg r i := rfl
theorem rg_get {t : List Rg} {i : Nat} (h : i < t.length) : rg t i = t[i] := by
  unfold rg; rw [List.getD_eq_getElem?_getD, List.getElem?_eq_getElem h]; rfl
theorem rOk_at : ∀ {t : List Rg} {last : Int} {i : Nat}, rOk last t = true → i < t.length → last < (rg t i).1 ∧ (rg t i).1 ≤ (rg t i).2.1 ∧ (rg t i).2.1 ≤ 1114111 ∧ 1 ≤ (rg t i).2.2 ∧ (rg t i).2.2 ≤ 4
  | x :: r, last, 0, h, _ => (rOk_cons.1 h).1
  | x :: r, last, i + 1, h, hi => by
    have h1 := rOk_cons.1 h
    rw [rg_cons]
    have := rOk_at (i := i) h1.2 (by simp only [List.length_cons] at hi; omega)
    exact ⟨by omega, this.2⟩
theorem rOk_rise : ∀ {t : List Rg} {last : Int} {i j : Nat}, rOk last t = true → i < j → j < t.length → (rg t i).2.1 < (rg t j).1
  | x :: r, last, 0, j + 1, h, _, hj => by
    rw [rg_cons]
    exact (rOk_at (rOk_cons.1 h).2 (by simp only [List.length_cons] at hj; omega)).1
  | x :: r, last, i + 1, j + 1, h, hij, hj => by
    rw [rg_cons, rg_cons]
    exact rOk_rise (rOk_cons.1 h).2 (by omega) (by simp only [List.length_cons] at hj; omega)
theorem ofT_skip : ∀ {t : List Rg} {p : Int} {i : Nat}, i ≤ t.length → (∀ k, k < i → (rg t k).2.1 < p) → ofT p t = ofT p (t.drop i)
  | t, p, 0, _, _ => rfl
  | [], p, i + 1, h, _ => by simp at h
  | x :: r, p, i + 1, h, hk => by
    have h0 : x.2.1 < p := hk 0 (by omega)
    rw [ofT, if_neg (by omega), List.drop_succ_cons]
    exact ofT_skip (by simp only [List.length_cons] at h; omega) fun k hki => hk (k + 1) (by omega)
theorem ofT_late : ∀ {t : List Rg} {last p : Int}, rOk last t = true → p ≤ last → ofT p t = 0
  | [], _, _, _, _ => rfl
  | x :: r, last, p, h, hp => by
    have h1 := rOk_cons.1 h
    rw [ofT, if_neg (by omega)]
    exact ofT_late h1.2 (by omega)
theorem rOk_drop : ∀ {t : List Rg} {last : Int} {i : Nat}, rOk last t = true → ∃ l, rOk l (t.drop i) = true
  | t, last, 0, h => ⟨last, h⟩
  | [], last, i + 1, h => ⟨last, rfl⟩
  | x :: r, last, i + 1, h => rOk_drop (t := r) (rOk_cons.1 h).2
/-- What the search finds. -/
theorem of_search {t : List Rg} {p : Int} {i : Nat} (h : rOk (-1) t = true) (hi : i ≤ t.length) (h1 : ∀ k, k < i → (rg t k).2.1 < p) (h2 : ∀ k, i ≤ k → k < t.length → p ≤ (rg t k).2.1) :
    ofT p t = if i = t.length then 0 else if p < (rg t i).1 then 0 else (rg t i).2.2 := by
  rw [ofT_skip hi h1]
  by_cases hl : i = t.length
  · rw [if_pos hl, List.drop_of_length_le (by omega)]; rfl
  · rw [if_neg hl]
    have hlt : i < t.length := by omega
    rw [List.drop_eq_getElem_cons hlt, ofT, ← rg_get hlt]
    have hh := h2 i (Nat.le_refl _) hlt
    by_cases hp : p < (rg t i).1
    · rw [if_neg (by omega), if_pos hp]
      obtain ⟨l, hl2⟩ := rOk_drop (i := i) h
      rw [List.drop_eq_getElem_cons hlt, ← rg_get hlt] at hl2
      have h3 := rOk_cons.1 hl2
      exact ofT_late h3.2 hh
    · rw [if_pos ⟨by omega, hh⟩, if_neg hp]

/-- The program's look at a table: each range by itself and against the one ahead. -/
def okAt (t : List Rg) (i : Nat) : Bool := decide (0 ≤ (rg t i).1 ∧ (rg t i).1 ≤ (rg t i).2.1 ∧ (rg t i).2.1 ≤ 1114111 ∧ 1 ≤ (rg t i).2.2 ∧ (rg t i).2.2 ≤ 4 ∧ (0 < i → (rg t (i - 1)).2.1 < (rg t i).1))
def lastHi (t : List Rg) (i : Nat) : Int := if i = 0 then -1 else (rg t (i - 1)).2.1
theorem rOk_snoc : ∀ {t : List Rg} {last : Int} {x : Rg}, rOk last (t ++ [x]) = (rOk last t && decide ((if t = [] then last else (rg t (t.length - 1)).2.1) < x.1 ∧ x.1 ≤ x.2.1 ∧ x.2.1 ≤ 1114111 ∧ 1 ≤ x.2.2 ∧ x.2.2 ≤ 4))
  | [], last, x => by simp [rOk]
  | [y], last, x => by simp [rOk, rg]
  | y :: z :: r, last, x => by
    show (decide _ && rOk y.2.1 ((z :: r) ++ [x])) = ((decide _ && rOk y.2.1 (z :: r)) && decide _)
    rw [rOk_snoc (t := z :: r), Bool.and_assoc]
    have e : rg (y :: z :: r) ((y :: z :: r).length - 1) = rg (z :: r) ((z :: r).length - 1) := rfl
    rw [e]
    simp only [reduceCtorEq, if_false]
theorem take_snoc' {t : List Rg} {k : Nat} (h : k < t.length) : t.take (k + 1) = t.take k ++ [rg t k] := by
  rw [List.take_succ_eq_append_getElem h, rg_get h]
theorem rOk_take {t : List Rg} {k : Nat} (h : k < t.length) (hk : rOk (-1) (t.take k) = true) : rOk (-1) (t.take (k + 1)) = okAt t k := by
  rw [take_snoc' h, rOk_snoc, hk, Bool.true_and]
  have hl : (t.take k).length = k := by rw [List.length_take]; omega
  unfold okAt
  rw [Bool.eq_iff_iff, decide_eq_true_iff, decide_eq_true_iff]
  by_cases h0 : k = 0
  · subst h0
    simp only [List.take_zero, if_true]
    constructor <;> intro h1 <;> simp at h1 ⊢ <;> omega
  · have hne : t.take k ≠ [] := by intro h1; rw [h1] at hl; simp at hl; omega
    rw [if_neg hne, hl]
    have hr : rg (t.take k) (k - 1) = rg t (k - 1) := by
      unfold rg
      rw [List.getD_eq_getElem?_getD, List.getD_eq_getElem?_getD, List.getElem?_take_of_lt (by omega)]
    rw [hr]
    have := rOk_at (i := k - 1) hk (by rw [hl]; omega)
    rw [hr] at this
    constructor
    · intro h1; exact ⟨by omega, h1.2.1, h1.2.2.1, h1.2.2.2.1, h1.2.2.2.2, fun _ => h1.1⟩
    · intro h1; exact ⟨h1.2.2.2.2.2 (by omega), h1.2.1, h1.2.2.1, h1.2.2.2.1, h1.2.2.2.2.1⟩
theorem rOk_pre : ∀ {t : List Rg} {last : Int} {k : Nat}, rOk last t = true → rOk last (t.take k) = true
  | t, last, 0, _ => rfl
  | [], last, k + 1, _ => rfl
  | x :: r, last, k + 1, h => by
    rw [List.take_succ_cons, rOk_cons]
    exact ⟨(rOk_cons.1 h).1, rOk_pre (rOk_cons.1 h).2⟩
theorem rOk_bad {t : List Rg} {k : Nat} (h : k < t.length) (hk : rOk (-1) (t.take k) = true) (hb : okAt t k = false) : rOk (-1) t = false := by
  rw [← Bool.not_eq_true]
  intro h1
  have := rOk_pre (k := k + 1) h1
  rw [rOk_take h hk, hb] at this
  cases this

/-- Of ranges that share no point the order plays no part. -/
def Apart (t : List Rg) : Prop := ∀ x ∈ t, ∀ y ∈ t, x ≠ y → ∀ p : Int, ¬ ((x.1 ≤ p ∧ p ≤ x.2.1) ∧ (y.1 ≤ p ∧ p ≤ y.2.1))
theorem ofT_mem : ∀ {t : List Rg} {p : Int}, (∃ x ∈ t, (x.1 ≤ p ∧ p ≤ x.2.1) ∧ ofT p t = x.2.2) ∨ ((∀ x ∈ t, ¬ (x.1 ≤ p ∧ p ≤ x.2.1)) ∧ ofT p t = 0)
  | [], p => Or.inr ⟨by simp, rfl⟩
  | x :: r, p => by
    by_cases hx : x.1 ≤ p ∧ p ≤ x.2.1
    · exact Or.inl ⟨x, by simp, hx, by rw [ofT, if_pos hx]⟩
    · rcases ofT_mem (t := r) (p := p) with ⟨y, hy, h1, h2⟩ | ⟨h1, h2⟩
      · exact Or.inl ⟨y, by simp [hy], h1, by rw [ofT, if_neg hx]; exact h2⟩
      · refine Or.inr ⟨fun y hy => ?_, by rw [ofT, if_neg hx]; exact h2⟩
        rcases List.mem_cons.1 hy with rfl | hy
        · exact hx
        · exact h1 y hy
theorem ofT_same {s t : List Rg} (hs : ∀ x, x ∈ s ↔ x ∈ t) (ha : Apart t) (p : Int) : ofT p s = ofT p t := by
  rcases ofT_mem (t := s) (p := p) with ⟨x, hx, h1, h2⟩ | ⟨h1, h2⟩ <;> rcases ofT_mem (t := t) (p := p) with ⟨y, hy, h3, h4⟩ | ⟨h3, h4⟩
  · rw [h2, h4]
    by_cases hxy : x = y
    · rw [hxy]
    · exact absurd ⟨h1, h3⟩ (ha x ((hs x).1 hx) y hy hxy p)
  · exact absurd h1 (h3 x ((hs x).1 hx))
  · exact absurd h3 (h1 y ((hs y).2 hy))
  · rw [h2, h4]

/-- The usual table, as the program has it; as the reference has it. -/
def usualT : List Rg := [(9, 9, 3), (10, 10, 4), (11, 12, 3), (13, 13, 4), (32, 32, 3), (48, 57, 2), (65, 90, 1), (97, 122, 1), (133, 133, 3), (160, 160, 3), (170, 170, 1), (178, 179, 2), (181, 181, 1), (185, 185, 2), (186, 186, 1), (188, 190, 2), (192, 214, 1), (216, 246, 1), (248, 705, 1), (880, 883, 1), (886, 887, 1), (891, 893, 1), (895, 895, 1), (902, 902, 1), (904, 1013, 1), (1015, 1153, 1), (1162, 1327, 1), (1329, 1366, 1), (1377, 1415, 1), (1488, 1514, 1), (1568, 1610, 1), (1632, 1641, 2), (2308, 2361, 1), (2406, 2415, 2), (3585, 3632, 1), (4256, 4351, 1), (4352, 4680, 1), (5760, 5760, 3), (7680, 8124, 1), (8192, 8202, 3), (8232, 8233, 3), (8239, 8239, 3), (8287, 8287, 3), (8544, 8584, 2), (12288, 12288, 3), (12353, 12438, 1), (12449, 12538, 1), (19968, 40959, 1), (44032, 55203, 1), (65296, 65305, 2), (131072, 173791, 1)]
/-- The reference's rows. -/
def rowT (c : Int) : List Int → List Rg
  | a :: b :: r => (a, b, c) :: rowT c r
  | _ => []
def refT : List Rg := rowT 1 [65, 90, 97, 122, 170, 170, 181, 181, 186, 186, 192, 214, 216, 246, 248, 705, 880, 883, 886, 887, 891, 893, 895, 895, 902, 902, 904, 1013, 1015, 1153, 1162, 1327, 1329, 1366, 1377, 1415, 1488, 1514, 1568, 1610, 2308, 2361, 3585, 3632, 4256, 4351, 4352, 4680, 7680, 8124, 12353, 12438, 12449, 12538, 19968, 40959, 44032, 55203, 131072, 173791] ++ rowT 2 [48, 57, 178, 179, 185, 185, 188, 190, 1632, 1641, 2406, 2415, 8544, 8584, 65296, 65305] ++ rowT 4 [10, 10, 13, 13] ++ rowT 3 [9, 9, 11, 12, 32, 32, 133, 133, 160, 160, 5760, 5760, 8192, 8202, 8232, 8233, 8239, 8239, 8287, 8287, 12288, 12288]
theorem usual_may : mayT usualT = true := by decide +kernel
theorem usual_len : usualT.length = 51 := by decide
theorem refT_mem : (∀ x ∈ refT, x ∈ usualT) ∧ (∀ x ∈ usualT, x ∈ refT) := by decide +kernel
theorem apart_of_ok : ∀ {t : List Rg} {last : Int}, rOk last t = true → Apart t := by
  intro t last h x hx y hy hne p hp
  obtain ⟨i, hi, rfl⟩ := List.mem_iff_getElem.1 hx
  obtain ⟨j, hj, rfl⟩ := List.mem_iff_getElem.1 hy
  rw [← rg_get hi, ← rg_get hj] at hp
  rcases Nat.lt_trichotomy i j with h1 | h1 | h1
  · have := rOk_rise h h1 hj; omega
  · subst h1; exact hne rfl
  · have := rOk_rise h h1 hi; omega
theorem usual_rOk : rOk (-1) usualT = true := by have := usual_may; unfold mayT at this; rw [Bool.and_eq_true] at this; exact this.2
theorem refT_of (p : Int) : ofT p refT = ofT p usualT := ofT_same (fun x => ⟨refT_mem.1 x, refT_mem.2 x⟩) (apart_of_ok usual_rOk) p
/-- Is a class one of spaces? -/
def isSp (c : Int) : Bool := c == 3 || c == 4
end Go.Proofs.YthhcdblkbdnbeaaDoor
