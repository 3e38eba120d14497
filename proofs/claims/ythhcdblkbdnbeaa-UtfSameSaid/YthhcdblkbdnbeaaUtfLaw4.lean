/- The plain law: of two code points the lesser one's bytes stand ahead of the greater one's; no one's bytes begin another one's. -/
import Derived.Test.YthhcdblkbdnbeaaUtfLaw5
namespace Go.Proofs.Ythhcdblkbdnbeaa

theorem less_cons (a b : UInt8) (x y : List UInt8) : Op.bytesLess (a :: x) (b :: y) = true ↔ ((a.toNat : Int) < (b.toNat : Int) ∨ ((a.toNat : Int) = (b.toNat : Int) ∧ Op.bytesLess x y = true)) := by
  simp only [Op.bytesLess, Bool.or_eq_true, Bool.and_eq_true, decide_eq_true_eq, beq_iff_eq, UInt8.lt_iff_toNat_lt, ← UInt8.toNat_inj]
  constructor
  · rintro (h | ⟨h1, h2⟩)
    · exact .inl (by omega)
    · exact .inr ⟨by omega, h2⟩
  · rintro (h | ⟨h1, h2⟩)
    · exact .inl (by omega)
    · exact .inr ⟨by omega, h2⟩
theorem less_nil (x : List UInt8) : (Op.bytesLess x [] = true) ↔ False := by cases x <;> simp [Op.bytesLess]
theorem less_nil_cons (b : UInt8) (y : List UInt8) : (Op.bytesLess [] (b :: y) = true) ↔ True := by simp [Op.bytesLess]

theorem enc_less {p q : Int} (hp : isPoint p = true) (hq : isPoint q = true) : Op.bytesLess (encOf p) (encOf q) = decide (p < q) := by
  have hp' := isPoint_iff.1 hp
  have hq' := isPoint_iff.1 hq
  rw [Bool.eq_iff_iff, decide_eq_true_eq]
  rcases enc_shape hp with ⟨h1, a, he, ha⟩ | ⟨h1, h2, a, b, he, ha, hb⟩ | ⟨h1, h2, a, b, c, he, ha, hb, hc⟩ | ⟨h1, a, b, c, d, he, ha, hb, hc, hd⟩ <;>
  rcases enc_shape hq with ⟨g1, a', ge, ga⟩ | ⟨g1, g2, a', b', ge, ga, gb⟩ | ⟨g1, g2, a', b', c', ge, ga, gb, gc⟩ | ⟨g1, a', b', c', d', ge, ga, gb, gc, gd⟩ <;>
  (rw [he, ge]; simp only [less_cons, less_nil, less_nil_cons, and_false, or_false, and_true]; omega)

theorem enc_free {p q : Int} (hp : isPoint p = true) (hq : isPoint q = true) (hne : p ≠ q) : (encOf q).take (encOf p).length ≠ encOf p := by
  intro he
  have h1 := enc_dec hp ((encOf q).drop (encOf p).length) true
  have h2 := enc_dec hq [] true
  rw [List.append_nil, ← List.take_append_drop (encOf p).length (encOf q), he, h1] at h2
  simp only [Prod.mk.injEq] at h2
  exact hne h2.1
theorem enc_apart {p q : Int} (hp : isPoint p = true) (hq : isPoint q = true) (hne : p ≠ q) : (encOf p).take (min (encOf p).length (encOf q).length) ≠ (encOf q).take (min (encOf p).length (encOf q).length) := by
  rcases Nat.le_total (encOf p).length (encOf q).length with h | h
  · rw [Nat.min_eq_left h, List.take_length]
    exact fun he => enc_free hp hq hne he.symm
  · rw [Nat.min_eq_right h, List.take_length]
    exact fun he => enc_free hq hp (fun e => hne e.symm) he
end Go.Proofs.Ythhcdblkbdnbeaa
