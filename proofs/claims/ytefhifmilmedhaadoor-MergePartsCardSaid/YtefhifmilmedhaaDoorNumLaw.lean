/- The plain law of numbers: what digits tell, and that a number's digits tell it. -/
import Derived.Test.YtefhifmilmedhaaDoorBase
import Derived.Lib.ItoaNum
import Derived.Lib.ItoaMem
namespace Go.Proofs.YtefhifmilmedhaaDoor
open Go.RowKit

/-- What digits tell, behind others that told acc. -/
def numF (acc : Nat) : List UInt8 → Option Nat
  | [] => some acc
  | x :: xs => if 48 ≤ x.toNat ∧ x.toNat ≤ 57 then numF (10 * acc + (x.toNat - 48)) xs else none
/-- What a text tells as a number. -/
def numL (l : List UInt8) : Option Nat := if l = [] ∨ 7 < l.length ∨ (l.head? = some 48 ∧ 1 < l.length) then none else numF 0 l
theorem numF_snoc (l : List UInt8) (x : UInt8) : ∀ acc, numF acc (l ++ [x]) = (numF acc l).bind fun n => if 48 ≤ x.toNat ∧ x.toNat ≤ 57 then some (10 * n + (x.toNat - 48)) else none := by
  induction l with
  | nil => intro acc; simp [numF]
  | cons y ys ih =>
    intro acc
    simp only [List.cons_append, numF]
    split
    · exact ih _
    · rfl
theorem numF_bound (l : List UInt8) : ∀ acc n k, acc < 10 ^ k → numF acc l = some n → n < 10 ^ (k + l.length) := by
  induction l with
  | nil => intro acc n k ha h; simp only [numF, Option.some.injEq] at h; subst h; simpa using ha
  | cons x xs ih =>
    intro acc n k ha h
    unfold numF at h
    split at h
    · have := ih _ n (k + 1) (by rw [Nat.pow_succ]; omega) h
      rw [show k + (x :: xs).length = k + 1 + xs.length from by simp; omega]
      exact this
    · cases h
theorem numF_le (l : List UInt8) : ∀ acc n, numF acc l = some n → acc ≤ n := by
  induction l with
  | nil => intro acc n h; simp only [numF, Option.some.injEq] at h; omega
  | cons x xs ih =>
    intro acc n h
    unfold numF at h
    split at h
    · have := ih _ _ h; omega
    · cases h
theorem numL_bound {l : List UInt8} {n : Nat} (h : numL l = some n) : n < 10000000 := by
  unfold numL at h
  split at h
  · cases h
  · rename_i hc
    have hl : l.length ≤ 7 := by
      rcases Nat.lt_or_ge 7 l.length with h7 | h7
      · exact absurd (.inr (.inl h7)) hc
      · exact h7
    have := numF_bound l 0 n 0 (by decide) h
    rw [Nat.zero_add] at this
    exact Nat.lt_of_lt_of_le this (Nat.le_trans (Nat.pow_le_pow_right (by decide) hl) (by decide))
theorem dig_val {d : Nat} (h : d < 10) : (UInt8.ofNat (48 + d)).toNat = 48 + d := by rw [UInt8.toNat_ofNat']; omega
theorem dec_ne (u : Nat) : Lib.decDigits u ≠ [] := by
  intro e
  have := Lib.decDigits_length u
  have := Lib.nDigits_pos u
  rw [e] at *
  simp at *
  omega
theorem numF_dec (u : Nat) : numF 0 (Lib.decDigits u) = some u := by
  induction u using Nat.strongRecOn with
  | _ u ih =>
    by_cases h : u < 10
    · rw [Lib.decDigits, dif_pos h]
      unfold numF
      rw [dig_val h, if_pos (by omega)]
      simp [numF]
    · rw [Lib.decDigits, dif_neg h, numF_snoc, ih (u / 10) (by omega)]
      simp only [Option.bind_some]
      rw [dig_val (by omega), if_pos (by omega)]
      congr 1
      omega
theorem head_app' {m : List UInt8} (x : List UInt8) (h : m ≠ []) : (m ++ x).head? = m.head? := by
  cases m with
  | nil => exact absurd rfl h
  | cons => rfl
theorem dec_head (u : Nat) (h : 0 < u) : (Lib.decDigits u).head? ≠ some 48 := by
  induction u using Nat.strongRecOn with
  | _ u ih =>
    by_cases h1 : u < 10
    · rw [Lib.decDigits, dif_pos h1]
      intro e
      simp only [List.head?_cons, Option.some.injEq] at e
      have := congrArg UInt8.toNat e
      rw [dig_val h1] at this
      have h48 : (48 : UInt8).toNat = 48 := rfl
      omega
    · rw [Lib.decDigits, dif_neg h1]
      have := ih (u / 10) (by omega) (by omega)
      rw [head_app' _ (dec_ne _)]
      exact this
theorem head_app {m : List UInt8} (x : List UInt8) (h : m ≠ []) : (m ++ x).head? = m.head? := by
  cases m with
  | nil => exact absurd rfl h
  | cons => rfl
theorem snoc_ind {motive : List UInt8 → Prop} (hn : motive []) (hs : ∀ m x, motive m → motive (m ++ [x])) (l : List UInt8) : motive l := by
  have key : ∀ r : List UInt8, motive r.reverse := by
    intro r
    induction r with
    | nil => exact hn
    | cons x xs ih => rw [List.reverse_cons]; exact hs _ _ ih
  have := key l.reverse
  rwa [List.reverse_reverse] at this
theorem dec_0 : (Lib.decDigits 0).length = 1 := by rw [Lib.decDigits_one (by decide)]; rfl
/-- Digits without a zero ahead are those of the number that they tell. -/
theorem dec_of_num (l : List UInt8) : ∀ n, l ≠ [] → (l.head? = some 48 → l.length = 1) → numF 0 l = some n → Lib.decDigits n = l := by
  refine snoc_ind (motive := fun l => ∀ n, l ≠ [] → (l.head? = some 48 → l.length = 1) → numF 0 l = some n → Lib.decDigits n = l) ?_ ?_ l
  · intro n h; exact absurd rfl h
  · intro m x ih
    intro n _ hz h
    rw [numF_snoc] at h
    cases hm : numF 0 m with
    | none => rw [hm] at h; cases h
    | some k =>
      rw [hm] at h
      simp only [Option.bind_some] at h
      split at h
      · rename_i hx
        injection h with h
        by_cases hm0 : m = []
        · subst hm0
          simp only [numF, Option.some.injEq] at hm
          subst hm
          rw [Lib.decDigits, dif_pos (by omega)]
          rw [List.nil_append, ← h]
          congr 1
          apply UInt8.toNat_inj.1
          rw [dig_val (by omega)]
          omega
        · have hk := ih k hm0 (by
            intro e
            have hh : (m ++ [x]).head? = some 48 := by rw [head_app _ hm0]; exact e
            have h1 := hz hh
            rw [List.length_append] at h1
            have h2 : 0 < m.length := List.length_pos_iff.2 hm0
            simp only [List.length_singleton] at h1
            omega) hm
          have hk0 : 0 < k := by
            rcases Nat.eq_zero_or_pos k with h0 | h0
            · exfalso
              subst h0
              have h48 : m = [48] := by rw [← hk, Lib.decDigits_one (by decide)]; rfl
              have hh : (m ++ [x]).head? = some 48 := by rw [h48]; rfl
              have := hz hh
              rw [h48] at this
              simp at this
            · exact h0
          have hxx : UInt8.ofNat (48 + n % 10) = x := UInt8.toNat_inj.1 (by rw [dig_val (by omega)]; omega)
          rw [Lib.decDigits, dif_neg (by omega), show n / 10 = k from by omega, hk, hxx]
      · cases h
/-- The document's word for it. -/
theorem ref_num (l : List UInt8) (h : ¬ (l = [] ∨ 7 < l.length)) : numL l = (numF 0 l).bind fun n => if Lib.decDigits n = l then some n else none := by
  unfold numL
  have h0 : l ≠ [] := fun e => h (.inl e)
  by_cases hz : l.head? = some 48 ∧ 1 < l.length
  · rw [if_pos (.inr (.inr hz))]
    cases hn : numF 0 l with
    | none => rfl
    | some n =>
      simp only [Option.bind_some]
      rw [if_neg ?_]
      intro e
      rcases Nat.eq_zero_or_pos n with h1 | h1
      · subst h1
        have := congrArg List.length e
        rw [dec_0] at this
        omega
      · exact dec_head n h1 (by rw [e]; exact hz.1)
  · rw [if_neg (fun e => e.elim (fun e => h (.inl e)) (fun e => e.elim (fun e => h (.inr e)) hz))]
    cases hn : numF 0 l with
    | none => rfl
    | some n =>
      simp only [Option.bind_some]
      rw [if_pos (dec_of_num l n h0 (fun e => by
        have : 0 < l.length := List.length_pos_iff.2 h0
        rcases Nat.lt_or_ge 1 l.length with h1 | h1
        · exact absurd ⟨e, h1⟩ hz
        · omega) hn)]
theorem nDigits_7 (u : Nat) : Lib.nDigits u ≤ 7 ↔ u < 10000000 := by
  constructor
  · intro h
    exact Nat.lt_of_lt_of_le (Lib.lt_pow_nDigits u) (Nat.le_trans (Nat.pow_le_pow_right (by decide) h) (by decide))
  · intro h
    rcases Nat.lt_or_ge 7 (Lib.nDigits u) with h1 | h1
    · exfalso
      have key : ∀ k u, k + 1 ≤ Lib.nDigits u → 10 ^ k ≤ u ∨ k = 0 := by
        intro k
        induction k with
        | zero => intro u _; exact .inr rfl
        | succ k ih =>
          intro u hu
          by_cases hs : u < 10
          · rw [Lib.nDigits_small hs] at hu; omega
          · rw [Lib.nDigits_big hs] at hu
            rcases ih (u / 10) (by omega) with h2 | h2
            · left; rw [Nat.pow_succ]; omega
            · subst h2; left; simp; omega
      rcases key 7 u (by omega) with h2 | h2
      · omega
      · omega
    · exact h1
/-- A number's digits tell it, if it is small. -/
theorem num_itoa (n : Int) : numL (Lib.itoa n) = if 0 ≤ n ∧ n ≤ 9999999 then some n.toNat else none := by
  unfold Lib.itoa
  by_cases h0 : n < 0
  · rw [if_pos h0, if_neg (by omega)]
    unfold numL
    split
    · rfl
    · unfold numF
      rw [if_neg (by decide)]
  · rw [if_neg h0]
    have hl := Lib.decDigits_length n.toNat
    have h7 := nDigits_7 n.toNat
    by_cases hs : n ≤ 9999999
    · rw [if_pos (by omega)]
      unfold numL
      rw [if_neg, numF_dec]
      rintro (e | e | e)
      · exact dec_ne _ e
      · rw [hl] at e; have := h7.2 (by omega); omega
      · rcases Nat.eq_zero_or_pos n.toNat with hz | hz
        · rw [hz] at e; have := e.2; rw [dec_0] at this; omega
        · exact dec_head _ hz e.1
    · rw [if_neg (by omega)]
      unfold numL
      rw [if_pos]
      right; left
      rw [hl]
      rcases Nat.lt_or_ge 7 (Lib.nDigits n.toNat) with h | h
      · exact h
      · have := h7.1 h; omega
end Go.Proofs.YtefhifmilmedhaaDoor
