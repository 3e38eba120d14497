/- The plain law: a code point's bytes are decoded to it, whatever stands behind; a part of them needs more. -/
import Derived.Test.YtefhifmilmedhaaUtfLaw2
namespace Go.Proofs.Ytefhifmilmedhaa

theorem encOf_len {p : Int} (hp : isPoint p = true) : 1 ≤ (encOf p).length ∧ (encOf p).length ≤ 4 := by
  rw [enc_len, hp]; (repeat' split) <;> first | omega | (rename_i h _ _; cases h) | simp_all
theorem enc_shape {p : Int} (hp : isPoint p = true) :
    (p < 128 ∧ ∃ a : UInt8, encOf p = [a] ∧ (a.toNat : Int) = p) ∨
    (128 ≤ p ∧ p < 2048 ∧ ∃ a b : UInt8, encOf p = [a, b] ∧ (a.toNat : Int) = 192 + p / 64 ∧ (b.toNat : Int) = 128 + p % 64) ∨
    (2048 ≤ p ∧ p < 65536 ∧ ∃ a b c : UInt8, encOf p = [a, b, c] ∧ (a.toNat : Int) = 224 + p / 4096 ∧ (b.toNat : Int) = 128 + p / 64 % 64 ∧ (c.toNat : Int) = 128 + p % 64) ∨
    (65536 ≤ p ∧ ∃ a b c d : UInt8, encOf p = [a, b, c, d] ∧ (a.toNat : Int) = 240 + p / 262144 ∧ (b.toNat : Int) = 128 + p / 4096 % 64 ∧ (c.toNat : Int) = 128 + p / 64 % 64 ∧ (d.toNat : Int) = 128 + p % 64) := by
  have hq := isPoint_iff.1 hp
  by_cases h1 : p < 128
  · exact .inl ⟨h1, _, by simp only [encOf, hp, Bool.true_eq_false, if_false]; rw [if_pos h1], byteOf_toNat (by omega) (by omega)⟩
  by_cases h2 : p < 2048
  · exact .inr (.inl ⟨by omega, h2, _, _, by simp only [encOf, hp, Bool.true_eq_false, if_false]; rw [if_neg h1, if_pos h2], byteOf_toNat (by omega) (by omega), byteOf_toNat (by omega) (by omega)⟩)
  by_cases h3 : p < 65536
  · exact .inr (.inr (.inl ⟨by omega, h3, _, _, _, by simp only [encOf, hp, Bool.true_eq_false, if_false]; rw [if_neg h1, if_neg h2, if_pos h3], byteOf_toNat (by omega) (by omega), byteOf_toNat (by omega) (by omega), byteOf_toNat (by omega) (by omega)⟩))
  · exact .inr (.inr (.inr ⟨by omega, _, _, _, _, by simp only [encOf, hp, Bool.true_eq_false, if_false]; rw [if_neg h1, if_neg h2, if_neg h3], byteOf_toNat (by omega) (by omega), byteOf_toNat (by omega) (by omega), byteOf_toNat (by omega) (by omega), byteOf_toNat (by omega) (by omega)⟩))

theorem enc_dec {p : Int} (hp : isPoint p = true) (m : List UInt8) (final : Bool) : dec (encOf p ++ m) final = (p, ((encOf p).length : Int), false) := by
  have hq := isPoint_iff.1 hp
  rcases enc_shape hp with ⟨h1, a, he, ha⟩ | ⟨h1, h2, a, b, he, ha, hb⟩ | ⟨h1, h2, a, b, c, he, ha, hb, hc⟩ | ⟨h1, a, b, c, d, he, ha, hb, hc, hd⟩
  · rw [he, List.cons_append, dec_some (n := 1) (kind_1 (by omega)) (by omega), decGo_zero, ha]; rfl
  · rw [he, List.cons_append, List.cons_append, dec_some (n := 2) (kind_2 (by omega) (by omega)) (by omega), decGo_in (by omega), decGo_zero]
    exact Prod.ext (by simp only []; omega) rfl
  · obtain ⟨lo, hi, hk, k1, k2, k3, k4⟩ := kind_3 (c := (a.toNat : Int)) (by omega) (by omega)
    rw [he, List.cons_append, List.cons_append, List.cons_append, dec_some (n := 3) hk (by omega), decGo_in (by omega), decGo_in (by omega), decGo_zero]
    exact Prod.ext (by simp only []; omega) rfl
  · obtain ⟨lo, hi, hk, k1, k2, k3, k4⟩ := kind_4 (c := (a.toNat : Int)) (by omega) (by omega)
    rw [he, List.cons_append, List.cons_append, List.cons_append, List.cons_append, dec_some (n := 4) hk (by omega), decGo_in (by omega), decGo_in (by omega), decGo_in (by omega), decGo_zero]
    exact Prod.ext (by simp only []; omega) rfl

theorem enc_part {p : Int} (hp : isPoint p = true) (k : Nat) (hk : k < (encOf p).length) : dec ((encOf p).take k) false = (-1, 0, true) := by
  have hq := isPoint_iff.1 hp
  rcases enc_shape hp with ⟨h1, a, he, ha⟩ | ⟨h1, h2, a, b, he, ha, hb⟩ | ⟨h1, h2, a, b, c, he, ha, hb, hc⟩ | ⟨h1, a, b, c, d, he, ha, hb, hc, hd⟩
  · rw [he] at hk ⊢
    obtain rfl : k = 0 := by simp at hk; omega
    rfl
  · rw [he] at hk ⊢
    have hk' : k = 0 ∨ k = 1 := by simp at hk; omega
    rcases hk' with rfl | rfl
    · rfl
    · simp only [List.take_succ_cons, List.take_zero]
      rw [dec_some (n := 2) (kind_2 (by omega) (by omega)) (by omega), decGo_nil]; rfl
  · obtain ⟨lo, hi, hkk, k1, k2, k3, k4⟩ := kind_3 (c := (a.toNat : Int)) (by omega) (by omega)
    rw [he] at hk ⊢
    have hk' : k = 0 ∨ k = 1 ∨ k = 2 := by simp at hk; omega
    rcases hk' with rfl | rfl | rfl
    · rfl
    · simp only [List.take_succ_cons, List.take_zero]
      rw [dec_some (n := 3) hkk (by omega), decGo_nil]; rfl
    · simp only [List.take_succ_cons, List.take_zero]
      rw [dec_some (n := 3) hkk (by omega), decGo_in (by omega), decGo_nil]; rfl
  · obtain ⟨lo, hi, hkk, k1, k2, k3, k4⟩ := kind_4 (c := (a.toNat : Int)) (by omega) (by omega)
    rw [he] at hk ⊢
    have hk' : k = 0 ∨ k = 1 ∨ k = 2 ∨ k = 3 := by simp at hk; omega
    rcases hk' with rfl | rfl | rfl | rfl
    · rfl
    · simp only [List.take_succ_cons, List.take_zero]
      rw [dec_some (n := 4) hkk (by omega), decGo_nil]; rfl
    · simp only [List.take_succ_cons, List.take_zero]
      rw [dec_some (n := 4) hkk (by omega), decGo_in (by omega), decGo_nil]; rfl
    · simp only [List.take_succ_cons, List.take_zero]
      rw [dec_some (n := 4) hkk (by omega), decGo_in (by omega), decGo_in (by omega), decGo_nil]; rfl
end Go.Proofs.Ytefhifmilmedhaa
