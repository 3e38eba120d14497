/- The plain law: what utf.Decode computes is what the reference computes. -/
import Derived.Test.YtkiggpbmlkfdpaaDoorUtfSpec
namespace Go.Proofs.YtkiggpbmlkfdpaaDoor

theorem u8_inj {a b : UInt8} (h : (a.toNat : Int) = (b.toNat : Int)) : a = b := UInt8.toNat_inj.1 (by omega)
theorem byteOf_eq {n : Int} {x : UInt8} (h0 : 0 ≤ n) (h1 : n ≤ 255) : byteOf n = x ↔ n = (x.toNat : Int) := by
  constructor
  · rintro rfl; exact (byteOf_toNat h0 h1).symm
  · intro h; exact u8_inj (by rw [byteOf_toNat h0 h1, h])

theorem rBits_1 (c : UInt8) (t : List UInt8) : rBits (c :: t) 1 = (c.toNat : Int) := by simp [rBits]
theorem rBits_2 (c x : UInt8) (t : List UInt8) : rBits (c :: x :: t) 2 = if 128 ≤ (x.toNat : Int) ∧ (x.toNat : Int) ≤ 191 then 64 * ((c.toNat : Int) - 192) + (x.toNat : Int) - 128 else -1 := by
  simp [rBits, rbGo, rBase]
theorem rBits_3 (c x y : UInt8) (t : List UInt8) : rBits (c :: x :: y :: t) 3 = if 128 ≤ (x.toNat : Int) ∧ (x.toNat : Int) ≤ 191 then (if 128 ≤ (y.toNat : Int) ∧ (y.toNat : Int) ≤ 191 then 64 * (64 * ((c.toNat : Int) - 224) + (x.toNat : Int) - 128) + (y.toNat : Int) - 128 else -1) else -1 := by
  simp [rBits, rbGo, rBase]
theorem rBits_4 (c x y z : UInt8) (t : List UInt8) : rBits (c :: x :: y :: z :: t) 4 = if 128 ≤ (x.toNat : Int) ∧ (x.toNat : Int) ≤ 191 then (if 128 ≤ (y.toNat : Int) ∧ (y.toNat : Int) ≤ 191 then
    (if 128 ≤ (z.toNat : Int) ∧ (z.toNat : Int) ≤ 191 then 64 * (64 * (64 * ((c.toNat : Int) - 240) + (x.toNat : Int) - 128) + (y.toNat : Int) - 128) + (z.toNat : Int) - 128 else -1) else -1) else -1 := by
  simp [rBits, rbGo, rBase]

theorem enc_len {p : Int} : (encOf p).length = if isPoint p = false then 0 else if p < 128 then 1 else if p < 2048 then 2 else if p < 65536 then 3 else 4 := by
  unfold encOf; (repeat' split) <;> simp
theorem whole_pos {l : List UInt8} {n : Nat} {p : Int} (hb : rBits l n = p) (hp : isPoint p = true) (he : encOf p = l.take n) : wholeOf l n = p := by
  unfold wholeOf; rw [hb, if_pos ⟨hp, he⟩]
theorem whole_neg {l : List UInt8} {n : Nat} {p : Int} (hb : rBits l n = p) (h : isPoint p = true → encOf p = l.take n → False) : wholeOf l n = -1 := by
  unfold wholeOf; rw [hb, if_neg (fun hh => h hh.1 hh.2)]

theorem whole_1 (c : UInt8) (t : List UInt8) (h : (c.toNat : Int) < 128) : wholeOf (c :: t) 1 = (c.toNat : Int) := by
  have h0 := u8_ge c
  refine whole_pos (rBits_1 c t) (by simp [isPoint]; omega) ?_
  have hp : isPoint (c.toNat : Int) = true := by simp [isPoint]; omega
  simp only [encOf, hp, h, if_true, Bool.true_eq_false, if_false, List.take_succ_cons, List.take_zero]
  rw [(byteOf_eq (x := c) h0 (by omega)).2 rfl]

theorem whole_2 (c x : UInt8) (t : List UInt8) (h1 : 192 ≤ (c.toNat : Int)) (h2 : (c.toNat : Int) < 224) :
    wholeOf (c :: x :: t) 2 = if 194 ≤ (c.toNat : Int) ∧ 128 ≤ (x.toNat : Int) ∧ (x.toNat : Int) ≤ 191 then 64 * ((c.toNat : Int) - 192) + (x.toNat : Int) - 128 else -1 := by
  have hx0 := u8_ge x
  by_cases hx : 128 ≤ (x.toNat : Int) ∧ (x.toNat : Int) ≤ 191
  · have hb := rBits_2 c x t
    rw [if_pos hx] at hb
    by_cases hc : 194 ≤ (c.toNat : Int)
    · rw [if_pos ⟨hc, hx⟩]
      have hp : isPoint (64 * ((c.toNat : Int) - 192) + (x.toNat : Int) - 128) = true := by rw [isPoint_iff]; omega
      refine whole_pos hb hp ?_
      simp only [encOf, hp, Bool.true_eq_false, if_false, List.take_succ_cons, List.take_zero]
      rw [if_neg (by omega), if_pos (by omega), (byteOf_eq (x := c) (by omega) (by omega)).2 (by omega), (byteOf_eq (x := x) (by omega) (by omega)).2 (by omega)]
    · rw [if_neg (by omega)]
      refine whole_neg hb fun hp he => ?_
      have := congrArg List.length he
      rw [enc_len, hp] at this
      rw [if_neg (by simp), if_pos (by omega)] at this
      simp at this
  · rw [if_neg (by omega)]
    refine whole_neg (p := -1) (by rw [rBits_2, if_neg hx]) fun hp _ => ?_
    rw [isPoint_iff] at hp
    omega

theorem whole_3 (c x y : UInt8) (t : List UInt8) (h1 : 224 ≤ (c.toNat : Int)) (h2 : (c.toNat : Int) < 240) :
    wholeOf (c :: x :: y :: t) 3 = if (128 ≤ (x.toNat : Int) ∧ (x.toNat : Int) ≤ 191) ∧ (128 ≤ (y.toNat : Int) ∧ (y.toNat : Int) ≤ 191) ∧ ((c.toNat : Int) = 224 → 160 ≤ (x.toNat : Int)) ∧ ((c.toNat : Int) = 237 → (x.toNat : Int) ≤ 159)
      then 64 * (64 * ((c.toNat : Int) - 224) + (x.toNat : Int) - 128) + (y.toNat : Int) - 128 else -1 := by
  by_cases hx : 128 ≤ (x.toNat : Int) ∧ (x.toNat : Int) ≤ 191
  · by_cases hy : 128 ≤ (y.toNat : Int) ∧ (y.toNat : Int) ≤ 191
    · have hb := rBits_3 c x y t
      rw [if_pos hx, if_pos hy] at hb
      by_cases hc : ((c.toNat : Int) = 224 → 160 ≤ (x.toNat : Int)) ∧ ((c.toNat : Int) = 237 → (x.toNat : Int) ≤ 159)
      · rw [if_pos ⟨hx, hy, hc⟩]
        have hp : isPoint (64 * (64 * ((c.toNat : Int) - 224) + (x.toNat : Int) - 128) + (y.toNat : Int) - 128) = true := by rw [isPoint_iff]; omega
        refine whole_pos hb hp ?_
        simp only [encOf, hp, Bool.true_eq_false, if_false, List.take_succ_cons, List.take_zero]
        rw [if_neg (by omega), if_neg (by omega), if_pos (by omega), (byteOf_eq (x := c) (by omega) (by omega)).2 (by omega), (byteOf_eq (x := x) (by omega) (by omega)).2 (by omega), (byteOf_eq (x := y) (by omega) (by omega)).2 (by omega)]
      · rw [if_neg (fun h => hc h.2.2)]
        refine whole_neg hb fun hp he => ?_
        have := congrArg List.length he
        rw [enc_len, hp] at this
        rw [isPoint_iff] at hp
        rw [if_neg (by simp)] at this
        by_cases hs : 64 * (64 * ((c.toNat : Int) - 224) + (x.toNat : Int) - 128) + (y.toNat : Int) - 128 < 128
        · rw [if_pos hs] at this; simp at this
        · rw [if_neg hs, if_pos (by omega)] at this; simp at this
    · rw [if_neg (fun h => hy h.2.1)]
      refine whole_neg (p := -1) (by rw [rBits_3, if_pos hx, if_neg hy]) fun hp _ => ?_
      rw [isPoint_iff] at hp
      omega
  · rw [if_neg (fun h => hx h.1)]
    refine whole_neg (p := -1) (by rw [rBits_3, if_neg hx]) fun hp _ => ?_
    rw [isPoint_iff] at hp
    omega

theorem whole_4 (c x y z : UInt8) (t : List UInt8) (h1 : 240 ≤ (c.toNat : Int)) (h2 : (c.toNat : Int) < 248) :
    wholeOf (c :: x :: y :: z :: t) 4 = if (128 ≤ (x.toNat : Int) ∧ (x.toNat : Int) ≤ 191) ∧ (128 ≤ (y.toNat : Int) ∧ (y.toNat : Int) ≤ 191) ∧ (128 ≤ (z.toNat : Int) ∧ (z.toNat : Int) ≤ 191) ∧ ((c.toNat : Int) = 240 → 144 ≤ (x.toNat : Int)) ∧ ((c.toNat : Int) = 244 → (x.toNat : Int) ≤ 143) ∧ (c.toNat : Int) ≤ 244
      then 64 * (64 * (64 * ((c.toNat : Int) - 240) + (x.toNat : Int) - 128) + (y.toNat : Int) - 128) + (z.toNat : Int) - 128 else -1 := by
  by_cases hx : 128 ≤ (x.toNat : Int) ∧ (x.toNat : Int) ≤ 191
  · by_cases hy : 128 ≤ (y.toNat : Int) ∧ (y.toNat : Int) ≤ 191
    · by_cases hz : 128 ≤ (z.toNat : Int) ∧ (z.toNat : Int) ≤ 191
      · have hb := rBits_4 c x y z t
        rw [if_pos hx, if_pos hy, if_pos hz] at hb
        by_cases hc : ((c.toNat : Int) = 240 → 144 ≤ (x.toNat : Int)) ∧ ((c.toNat : Int) = 244 → (x.toNat : Int) ≤ 143) ∧ (c.toNat : Int) ≤ 244
        · rw [if_pos ⟨hx, hy, hz, hc⟩]
          have hp : isPoint (64 * (64 * (64 * ((c.toNat : Int) - 240) + (x.toNat : Int) - 128) + (y.toNat : Int) - 128) + (z.toNat : Int) - 128) = true := by rw [isPoint_iff]; omega
          refine whole_pos hb hp ?_
          simp only [encOf, hp, Bool.true_eq_false, if_false, List.take_succ_cons, List.take_zero]
          rw [if_neg (by omega), if_neg (by omega), if_neg (by omega), (byteOf_eq (x := c) (by omega) (by omega)).2 (by omega), (byteOf_eq (x := x) (by omega) (by omega)).2 (by omega), (byteOf_eq (x := y) (by omega) (by omega)).2 (by omega), (byteOf_eq (x := z) (by omega) (by omega)).2 (by omega)]
        · rw [if_neg (fun h => hc h.2.2.2)]
          refine whole_neg hb fun hp he => ?_
          have := congrArg List.length he
          rw [enc_len, hp] at this
          rw [isPoint_iff] at hp
          rw [if_neg (by simp)] at this
          by_cases hs : 64 * (64 * (64 * ((c.toNat : Int) - 240) + (x.toNat : Int) - 128) + (y.toNat : Int) - 128) + (z.toNat : Int) - 128 < 128
          · rw [if_pos hs] at this; simp at this
          · by_cases hs2 : 64 * (64 * (64 * ((c.toNat : Int) - 240) + (x.toNat : Int) - 128) + (y.toNat : Int) - 128) + (z.toNat : Int) - 128 < 2048
            · rw [if_neg hs, if_pos hs2] at this; simp at this
            · rw [if_neg hs, if_neg hs2, if_pos (by omega)] at this; simp at this
      · rw [if_neg (fun h => hz h.2.2.1)]
        refine whole_neg (p := -1) (by rw [rBits_4, if_pos hx, if_pos hy, if_neg hz]) fun hp _ => ?_
        rw [isPoint_iff] at hp
        omega
    · rw [if_neg (fun h => hy h.2.1)]
      refine whole_neg (p := -1) (by rw [rBits_4, if_pos hx, if_neg hy]) fun hp _ => ?_
      rw [isPoint_iff] at hp
      omega
  · rw [if_neg (fun h => hx h.1)]
    refine whole_neg (p := -1) (by rw [rBits_4, if_neg hx]) fun hp _ => ?_
    rw [isPoint_iff] at hp
    omega
end Go.Proofs.YtkiggpbmlkfdpaaDoor
