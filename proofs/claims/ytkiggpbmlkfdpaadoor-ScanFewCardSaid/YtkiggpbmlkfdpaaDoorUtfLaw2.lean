/- The plain law: what utf.Decode computes is what the reference computes. -/
import Derived.Test.YtkiggpbmlkfdpaaDoorUtfSpec
/- The plain law: what utf.Decode computes is what the reference computes. -/
namespace Go.Proofs.YtkiggpbmlkfdpaaDoor

theorem u8_inj {a b : UInt8} (h : (a.toNat : Int) = (b.toNat : Int)) : a = b := UInt8.toNat_inj.1 (by omega)
theorem byteOf_eq {n : Int} {x : UInt8} (h0 : 0 ≤ n) (h1 : n ≤ 255) : byteOf n = x ↔ n = (x.toNat : Int) := by
  constructor
  · rintro rfl; exact (byteOf_toNat h0 h1).symm
  · intro h; exact u8_inj (by rw [byteOf_toNat h0 h1, h])

theorem rBits_1 (c : UInt8) (t : List UInt8) : rBits (c :: t) 1 = (c.toNat : Int) := by simp [rBits]
theorem rBits_2 (c x : UInt8) (t : List UInt8) : rBits (c :: x :: t) 2 = if 128 ≤ (x.toNat : Int) ∧ (x.toNat : Int) ≤ 191 then 64 * ((c.toNat : Int) - 192) + (x.toNat : Int) - 128 else -1 := by
  simp [rBits, rbGo, rBase]
theorem rBits_3 (c x y : UInt8) (t : List UInt8) : rBits (c :: x :: y :: t) 3 = if 128 ≤ (x.toNat : Int) ∧ (x.toNat : Int) ≤ 191 then (if 128 ≤ (y.toNat : Int) ∧ (y.toNat : Int) ≤ 191 then 64 * (64 * ((c.toNat : Int) - 224) + (x.toNat : Int) - 128) + (y.toNat : Int) - 128 else -1) else -1 := by
  simp [rBits, rbGo, rBase]
theorem rBits_4 (c x y z : UInt8) (t : List UInt8) : rBits (c :: x :: y :: z :: t) 4 = if 128 ≤ (x.toNat : Int) ∧ (x.toNat : Int) ≤ 191 then (if 128 ≤ (y.toNat : Int) ∧ (y.toNat : Int) ≤ 191 then
    (if 128 ≤ (z.toNat : Int) ∧ (z.toNat : Int) ≤ 191 then 64 * (64 * (64 * ((c.toNat : Int) - 240) + (x.toNat : Int) - 128) + (y.toNat : Int) - 128) + (z.toNat : Int) - 128 else -1) else -1) else -1 := by
  simp [rBits, rbGo, rBase]

theorem enc_len {p : Int} : (encOf p).length = if isPoint p = false then 0 else if p < 128 then 1 else if p < 2048 then 2 else if p < 65536 then 3 else 4 := by
  unfold encOf; (repeat' split) <;> simp
theorem whole_pos {l : List UInt8} {n : Nat} {p : Int} (hb : rBits l n = p) (hp : isPoint p = true) (he : encOf p = l.take n) : wholeOf l n = p := by
  unfold wholeOf; rw [hb, if_pos ⟨hp, he⟩]
theorem whole_neg {l : List UInt8} {n : Nat} {p : Int} (hb : rBits l n = p) (h : isPoint p = true → encOf p = l.take n → False) : wholeOf l n = -1 := by
  unfold wholeOf; rw [hb, if_neg (fun hh => h hh.1 hh.2)]

theorem whole_1 (c : UInt8) (t : List UInt8) (h : (c.toNat : Int) < 128) : wholeOf (c :: t) 1 = (c.toNat : Int) := by
  have h0 := u8_ge c
  refine whole_pos (rBits_1 c t) (by simp [isPoint]; omega) ?_
  have hp : isPoint (c.toNat : Int) = true := by simp [isPoint]; omega
  simp only [encOf, hp, h, if_true, Bool.true_eq_false, if_false, List.take_succ_cons, List.take_zero]
  rw [(byteOf_eq (x := c) h0 (by omega)).2 rfl]

theorem whole_2 (c x : UInt8) (t : List UInt8) (h1 : 192 ≤ (c.toNat : Int)) (h2 : (c.toNat : Int) < 224) :
    wholeOf (c :: x :: t) 2 = if 194 ≤ (c.toNat : Int) ∧ 128 ≤ (x.toNat : Int) ∧ (x.toNat : Int) ≤ 191 then 64 * ((c.toNat : Int) - 192) + (x.toNat : Int) - 128 else -1 := by
  have hx0 := u8_ge x
  by_cases hx : 128 ≤ (x.toNat : Int) ∧ (x.toNat : Int) ≤ 191
  · have hb := rBits_2 c x t
    rw [if_pos hx] at hb
    by_cases hc : 194 ≤ (c.toNat : Int)
    · rw [if_pos ⟨hc, hx⟩]
      have hp : isPoint (64 * ((c.toNat : Int) - 192) + (x.toNat : Int) - 128) = true := by rw [isPoint_iff]; omega
      refine whole_pos hb hp ?_
      simp only [encOf, hp, Bool.true_eq_false, if_false, List.take_succ_cons, List.take_zero]
      rw [if_neg (by omega), if_pos (by omega), (byteOf_eq (x := c) (by omega) (by omega)).2 (by omega), (byteOf_eq (x := x) (by omega) (by omega)).2 (by omega)]
    · rw [if_neg (by omega)]
      refine whole_neg hb fun hp he => ?_
      have := congrArg List.length he
      rw [enc_len, hp] at this
      rw [if_neg (by simp), if_pos (by omega)] at this
      simp at this
  · rw [if_neg (by omega)]
    refine whole_neg (p := -1) (by rw [rBits_2, if_neg hx]) fun hp _ => ?_
    rw [isPoint_iff] at hp
    omega

theorem whole_3 (c x y : UInt8) (t : List UInt8) (h1 : 224 ≤ (c.toNat : Int)) (h2 : (c.toNat : Int) < 240) :
    wholeOf (c :: x :: y :: t) 3 = if (128 ≤ (x.toNat : Int) ∧ (x.toNat : Int) ≤ 191) ∧ (128 ≤ (y.toNat : Int) ∧ (y.toNat : Int) ≤ 191) ∧ ((c.toNat : Int) = 224 → 160 ≤ (x.toNat : Int)) ∧ ((c.toNat : Int) = 237 → (x.toNat : Int) ≤ 159)
      then 64 * (64 * ((c.toNat : Int) - 224) + (x.toNat : Int) - 128) + (y.toNat : Int) - 128 else -1 := by
  by_cases hx : 128 ≤ (x.toNat : Int) ∧ (x.toNat : Int) ≤ 191
  · by_cases hy : 128 ≤ (y.toNat : Int) ∧ (y.toNat : Int) ≤ 191
    · have hb := rBits_3 c x y t
      rw [if_pos hx, if_pos hy] at hb
      by_cases hc : ((c.toNat : Int) = 224 → 160 ≤ (x.toNat : Int)) ∧ ((c.toNat : Int) = 237 → (x.toNat : Int) ≤ 159)
      · rw [if_pos ⟨hx, hy, hc⟩]
        have hp : isPoint (64 * (64 * ((c.toNat : Int) - 224) + (x.toNat : Int) - 128) + (y.toNat : Int) - 128) = true := by rw [isPoint_iff]; omega
        refine whole_pos hb hp ?_
        simp only [encOf, hp, Bool.true_eq_false, if_false, List.take_succ_cons, List.take_zero]
        rw [if_neg (by omega), if_neg (by omega), if_pos (by omega), (byteOf_eq (x := c) (by omega) (by omega)).2 (by omega), (byteOf_eq (x := x) (by omega) (by omega)).2 (by omega), (byteOf_eq (x := y) (by omega) (by omega)).2 (by omega)]
      · rw [if_neg (fun h => hc h.2.2)]
        refine whole_neg hb fun hp he => ?_
        have := congrArg List.length he
        rw [enc_len, hp] at this
        rw [isPoint_iff] at hp
        rw [if_neg (by simp)] at this
        by_cases hs : 64 * (64 * ((c.toNat : Int) - 224) + (x.toNat : Int) - 128) + (y.toNat : Int) - 128 < 128
        · rw [if_pos hs] at this; simp at this
        · rw [if_neg hs, if_pos (by omega)] at this; simp at this
    · rw [if_neg (fun h => hy h.2.1)]
      refine whole_neg (p := -1) (by rw [rBits_3, if_pos hx, if_neg hy]) fun hp _ => ?_
      rw [isPoint_iff] at hp
      omega
  · rw [if_neg (fun h => hx h.1)]
    refine whole_neg (p := -1) (by rw [rBits_3, if_neg hx]) fun hp _ => ?_
    rw [isPoint_iff] at hp
    omega

theorem whole_4 (c x y z : UInt8) (t : List UInt8) (h1 : 240 ≤ (c.toNat : Int)) (h2 : (c.toNat : Int) < 248) :
    wholeOf (c :: x :: y :: z :: t) 4 = if (128 ≤ (x.toNat : Int) ∧ (x.toNat : Int) ≤ 191) ∧ (128 ≤ (y.toNat : Int) ∧ (y.toNat : Int) ≤ 191) ∧ (128 ≤ (z.toNat : Int) ∧ (z.toNat : Int) ≤ 191) ∧ ((c.toNat : Int) = 240 → 144 ≤ (x.toNat : Int)) ∧ ((c.toNat : Int) = 244 → (x.toNat : Int) ≤ 143) ∧ (c.toNat : Int) ≤ 244
      then 64 * (64 * (64 * ((c.toNat : Int) - 240) + (x.toNat : Int) - 128) + (y.toNat : Int) - 128) + (z.toNat : Int) - 128 else -1 := by
  by_cases hx : 128 ≤ (x.toNat : Int) ∧ (x.toNat : Int) ≤ 191
  · by_cases hy : 128 ≤ (y.toNat : Int) ∧ (y.toNat : Int) ≤ 191
    · by_cases hz : 128 ≤ (z.toNat : Int) ∧ (z.toNat : Int) ≤ 191
      · have hb := rBits_4 c x y z t
        rw [if_pos hx, if_pos hy, if_pos hz] at hb
        by_cases hc : ((c.toNat : Int) = 240 → 144 ≤ (x.toNat : Int)) ∧ ((c.toNat : Int) = 244 → (x.toNat : Int) ≤ 143) ∧ (c.toNat : Int) ≤ 244
        · rw [if_pos ⟨hx, hy, hz, hc⟩]
          have hp : isPoint (64 * (64 * (64 * ((c.toNat : Int) - 240) + (x.toNat : Int) - 128) + (y.toNat : Int) - 128) + (z.toNat : Int) - 128) = true := by rw [isPoint_iff]; omega
          refine whole_pos hb hp ?_
          simp only [encOf, hp, Bool.true_eq_false, if_false, List.take_succ_cons, List.take_zero]
          rw [if_neg (by omega), if_neg (by omega), if_neg (by omega), (byteOf_eq (x := c) (by omega) (by omega)).2 (by omega), (byteOf_eq (x := x) (by omega) (by omega)).2 (by omega), (byteOf_eq (x := y) (by omega) (by omega)).2 (by omega), (byteOf_eq (x := z) (by omega) (by omega)).2 (by omega)]
        · rw [if_neg (fun h => hc h.2.2.2)]
          refine whole_neg hb fun hp he => ?_
          have := congrArg List.length he
          rw [enc_len, hp] at this
          rw [isPoint_iff] at hp
          rw [if_neg (by simp)] at this
          by_cases hs : 64 * (64 * (64 * ((c.toNat : Int) - 240) + (x.toNat : Int) - 128) + (y.toNat : Int) - 128) + (z.toNat : Int) - 128 < 128
          · rw [if_pos hs] at this; simp at this
          · by_cases hs2 : 64 * (64 * (64 * ((c.toNat : Int) - 240) + (x.toNat : Int) - 128) + (y.toNat : Int) - 128) + (z.toNat : Int) - 128 < 2048
            · rw [if_neg hs, if_pos hs2] at this; simp at this
            · rw [if_neg hs, if_neg hs2, if_pos (by omega)] at this; simp at this
      · rw [if_neg (fun h => hz h.2.2.1)]
        refine whole_neg (p := -1) (by rw [rBits_4, if_pos hx, if_pos hy, if_neg hz]) fun hp _ => ?_
        rw [isPoint_iff] at hp
        omega
    · rw [if_neg (fun h => hy h.2.1)]
      refine whole_neg (p := -1) (by rw [rBits_4, if_pos hx, if_neg hy]) fun hp _ => ?_
      rw [isPoint_iff] at hp
      omega
  · rw [if_neg (fun h => hx h.1)]
    refine whole_neg (p := -1) (by rw [rBits_4, if_neg hx]) fun hp _ => ?_
    rw [isPoint_iff] at hp
    omega
end Go.Proofs.YtkiggpbmlkfdpaaDoor
namespace Go.Proofs.YtkiggpbmlkfdpaaDoor

theorem might_of {l m1 m2 : List UInt8} {n : Nat} {a b : Int} (e1 : l ++ List.replicate (n - l.length) 128 = m1) (e2 : l ++ List.replicate (n - l.length) 191 = m2) (ha : rBits m1 n = a) (hb : rBits m2 n = b) :
    mightOf l n = decide (0 ≤ a ∧ 0 ≤ b ∧ max a (mightLeast n) ≤ min b 1114111 ∧ ¬ (55296 ≤ max a (mightLeast n) ∧ min b 1114111 ≤ 57343)) := by
  subst e1 e2 ha hb; rfl
theorem b128 : ((128 : UInt8).toNat : Int) = 128 := rfl
theorem b191 : ((191 : UInt8).toNat : Int) = 191 := rfl

theorem might_2 (c : UInt8) (h1 : 192 ≤ (c.toNat : Int)) (h2 : (c.toNat : Int) < 224) : mightOf [c] 2 = decide (194 ≤ (c.toNat : Int)) := by
  rw [might_of rfl rfl (rBits_2 c 128 []) (rBits_2 c 191 []), b128, b191, decide_eq_decide]
  have : mightLeast 2 = 128 := rfl
  rw [this]
  simp only [show (128 : Int) ≤ 128 ∧ (128 : Int) ≤ 191 from by omega, show (128 : Int) ≤ 191 ∧ (191 : Int) ≤ 191 from by omega, and_self, if_true]
  omega
theorem might_31 (c : UInt8) (h1 : 224 ≤ (c.toNat : Int)) (h2 : (c.toNat : Int) < 240) : mightOf [c] 3 = true := by
  rw [might_of rfl rfl (rBits_3 c 128 128 []) (rBits_3 c 191 191 []), b128, b191, decide_eq_true_eq]
  have : mightLeast 3 = 2048 := rfl
  rw [this]
  simp only [show (128 : Int) ≤ 128 ∧ (128 : Int) ≤ 191 from by omega, show (128 : Int) ≤ 191 ∧ (191 : Int) ≤ 191 from by omega, and_self, if_true]
  omega
theorem might_32 (c x : UInt8) (h1 : 224 ≤ (c.toNat : Int)) (h2 : (c.toNat : Int) < 240) :
    mightOf [c, x] 3 = decide ((128 ≤ (x.toNat : Int) ∧ (x.toNat : Int) ≤ 191) ∧ ((c.toNat : Int) = 224 → 160 ≤ (x.toNat : Int)) ∧ ((c.toNat : Int) = 237 → (x.toNat : Int) ≤ 159)) := by
  rw [might_of rfl rfl (rBits_3 c x 128 []) (rBits_3 c x 191 []), b128, b191, decide_eq_decide]
  have : mightLeast 3 = 2048 := rfl
  rw [this]
  simp only [show (128 : Int) ≤ 128 ∧ (128 : Int) ≤ 191 from by omega, show (128 : Int) ≤ 191 ∧ (191 : Int) ≤ 191 from by omega, and_self, if_true]
  by_cases hx : 128 ≤ (x.toNat : Int) ∧ (x.toNat : Int) ≤ 191
  · rw [if_pos hx, if_pos hx]; omega
  · rw [if_neg hx, if_neg hx]; omega
theorem might_41 (c : UInt8) (h1 : 240 ≤ (c.toNat : Int)) (h2 : (c.toNat : Int) < 248) : mightOf [c] 4 = decide ((c.toNat : Int) ≤ 244) := by
  rw [might_of rfl rfl (rBits_4 c 128 128 128 []) (rBits_4 c 191 191 191 []), b128, b191, decide_eq_decide]
  have : mightLeast 4 = 65536 := rfl
  rw [this]
  simp only [show (128 : Int) ≤ 128 ∧ (128 : Int) ≤ 191 from by omega, show (128 : Int) ≤ 191 ∧ (191 : Int) ≤ 191 from by omega, and_self, if_true]
  omega
theorem might_42 (c x : UInt8) (h1 : 240 ≤ (c.toNat : Int)) (h2 : (c.toNat : Int) < 248) :
    mightOf [c, x] 4 = decide ((128 ≤ (x.toNat : Int) ∧ (x.toNat : Int) ≤ 191) ∧ ((c.toNat : Int) = 240 → 144 ≤ (x.toNat : Int)) ∧ ((c.toNat : Int) = 244 → (x.toNat : Int) ≤ 143) ∧ (c.toNat : Int) ≤ 244) := by
  rw [might_of rfl rfl (rBits_4 c x 128 128 []) (rBits_4 c x 191 191 []), b128, b191, decide_eq_decide]
  have : mightLeast 4 = 65536 := rfl
  rw [this]
  simp only [show (128 : Int) ≤ 128 ∧ (128 : Int) ≤ 191 from by omega, show (128 : Int) ≤ 191 ∧ (191 : Int) ≤ 191 from by omega, and_self, if_true]
  by_cases hx : 128 ≤ (x.toNat : Int) ∧ (x.toNat : Int) ≤ 191
  · rw [if_pos hx, if_pos hx]; omega
  · rw [if_neg hx, if_neg hx]; omega
theorem might_43 (c x y : UInt8) (h1 : 240 ≤ (c.toNat : Int)) (h2 : (c.toNat : Int) < 248) :
    mightOf [c, x, y] 4 = decide ((128 ≤ (x.toNat : Int) ∧ (x.toNat : Int) ≤ 191) ∧ (128 ≤ (y.toNat : Int) ∧ (y.toNat : Int) ≤ 191) ∧ ((c.toNat : Int) = 240 → 144 ≤ (x.toNat : Int)) ∧ ((c.toNat : Int) = 244 → (x.toNat : Int) ≤ 143) ∧ (c.toNat : Int) ≤ 244) := by
  rw [might_of rfl rfl (rBits_4 c x y 128 []) (rBits_4 c x y 191 []), b128, b191, decide_eq_decide]
  have : mightLeast 4 = 65536 := rfl
  rw [this]
  simp only [show (128 : Int) ≤ 128 ∧ (128 : Int) ≤ 191 from by omega, show (128 : Int) ≤ 191 ∧ (191 : Int) ≤ 191 from by omega, and_self, if_true]
  by_cases hx : 128 ≤ (x.toNat : Int) ∧ (x.toNat : Int) ≤ 191
  · by_cases hy : 128 ≤ (y.toNat : Int) ∧ (y.toNat : Int) ≤ 191
    · rw [if_pos hx, if_pos hx, if_pos hy, if_pos hy]; omega
    · rw [if_pos hx, if_pos hx, if_neg hy, if_neg hy]; omega
  · rw [if_neg hx, if_neg hx]; omega

theorem rDec_long {c : UInt8} {r : List UInt8} {final : Bool} {n : Nat} (hn : rLong c.toNat = n) (h1 : 1 ≤ n) (hl : n ≤ (c :: r).length) :
    rDec (c :: r) final = if 0 ≤ wholeOf (c :: r) n then (wholeOf (c :: r) n, (n : Int), false) else (-1, 1, false) := by
  unfold rDec
  simp only [hn, Int.toNat_natCast]
  rw [if_pos (by omega)]
theorem rDec_short {c : UInt8} {r : List UInt8} {final : Bool} {n : Nat} (hn : rLong c.toNat = n) (hl : (c :: r).length < n) :
    rDec (c :: r) final = if final = false ∧ mightOf (c :: r) n = true then (-1, 0, true) else (-1, 1, false) := by
  unfold rDec
  simp only [hn, Int.toNat_natCast]
  rw [if_neg (by omega)]
  by_cases h : final = false ∧ mightOf (c :: r) n = true
  · rw [if_pos ⟨by omega, h⟩, if_pos h]
  · rw [if_neg (fun hh => h hh.2), if_neg h]
theorem rDec_none {c : UInt8} {r : List UInt8} {final : Bool} (hn : rLong c.toNat = 0) : rDec (c :: r) final = (-1, 1, false) := by
  unfold rDec
  simp only [hn]
  rw [if_neg (by omega), if_neg (by omega)]
theorem dec_none {c : UInt8} {r : List UInt8} {final : Bool} (hn : (utfKind c.toNat).1 = 0) : dec (c :: r) final = (-1, 1, false) := by
  unfold dec
  simp only [hn, if_true]
theorem dec_some {c : UInt8} {r : List UInt8} {final : Bool} {n : Nat} {b lo hi : Int} (hn : utfKind c.toNat = ((n : Int), b, lo, hi)) (h1 : 1 ≤ n) : dec (c :: r) final = decGo final n (n - 1) r b lo hi := by
  unfold dec
  simp only [hn]
  rw [if_neg (by omega), Int.toNat_natCast]
theorem decGo_nil {final : Bool} {N : Int} {k : Nat} {P L H : Int} : decGo final N (k + 1) [] P L H = if final then (-1, 1, false) else (-1, 0, true) := by simp [decGo]
theorem decGo_out {final : Bool} {N : Int} {k : Nat} {P L H : Int} {x : UInt8} {r : List UInt8} (h : (x.toNat : Int) < L ∨ H < (x.toNat : Int)) : decGo final N (k + 1) (x :: r) P L H = (-1, 1, false) := by
  rw [decGo, if_pos h]
theorem decGo_in {final : Bool} {N : Int} {k : Nat} {P L H : Int} {x : UInt8} {r : List UInt8} (h : ¬ ((x.toNat : Int) < L ∨ H < (x.toNat : Int))) : decGo final N (k + 1) (x :: r) P L H = decGo final N k r (P * 64 + (x.toNat : Int) % 64) 128 191 := by
  rw [decGo, if_neg h]
theorem decGo_zero {final : Bool} {N : Int} {P L H : Int} {r : List UInt8} : decGo final N 0 r P L H = (P, N, false) := by simp [decGo]

theorem kind_1 {c : Int} (h : c < 128) : utfKind c = (1, c, 0, 0) := by unfold utfKind; rw [if_pos h]
theorem kind_0 {c : Int} (h : 128 ≤ c) (h' : c < 194 ∨ 244 < c) : (utfKind c).1 = 0 := by
  unfold utfKind; (repeat' split) <;> first | rfl | omega
theorem kind_2 {c : Int} (h : 194 ≤ c) (h' : c < 224) : utfKind c = (2, c - 192, 128, 191) := by
  unfold utfKind; rw [if_neg (by omega), if_neg (by omega), if_neg (by omega), if_pos h']
theorem kind_3 {c : Int} (h : 224 ≤ c) (h' : c < 240) : ∃ lo hi, utfKind c = (3, c - 224, lo, hi) ∧ (c = 224 → lo = 160) ∧ (c ≠ 224 → lo = 128) ∧ (c = 237 → hi = 159) ∧ (c ≠ 237 → hi = 191) := by
  unfold utfKind
  rw [if_neg (by omega), if_neg (by omega), if_neg (by omega), if_neg (by omega)]
  by_cases h1 : c = 224
  · rw [if_pos h1]; subst h1; exact ⟨_, _, rfl, by omega, by omega, by omega, by omega⟩
  · rw [if_neg h1]
    by_cases h2 : c = 237
    · rw [if_pos h2]; subst h2; exact ⟨_, _, rfl, by omega, by omega, by omega, by omega⟩
    · rw [if_neg h2, if_pos h']; exact ⟨_, _, rfl, by omega, by omega, by omega, by omega⟩
theorem kind_4 {c : Int} (h : 240 ≤ c) (h' : c ≤ 244) : ∃ lo hi, utfKind c = (4, c - 240, lo, hi) ∧ (c = 240 → lo = 144) ∧ (c ≠ 240 → lo = 128) ∧ (c = 244 → hi = 143) ∧ (c ≠ 244 → hi = 191) := by
  unfold utfKind
  rw [if_neg (by omega), if_neg (by omega), if_neg (by omega), if_neg (by omega), if_neg (by omega), if_neg (by omega), if_neg (by omega)]
  by_cases h1 : c = 240
  · rw [if_pos h1]; subst h1; exact ⟨_, _, rfl, by omega, by omega, by omega, by omega⟩
  · rw [if_neg h1]
    by_cases h2 : c = 244
    · rw [if_pos h2]; subst h2; exact ⟨_, _, rfl, by omega, by omega, by omega, by omega⟩
    · rw [if_neg h2]; exact ⟨_, _, rfl, by omega, by omega, by omega, by omega⟩
theorem long_1 {c : Int} (h : c < 128) : rLong c = ((1 : Nat) : Int) := by unfold rLong; rw [if_pos h]; rfl
theorem long_0 {c : Int} (h : 128 ≤ c) (h' : c < 192 ∨ 248 ≤ c) : rLong c = 0 := by unfold rLong; (repeat' split) <;> omega
theorem long_2 {c : Int} (h : 192 ≤ c) (h' : c < 224) : rLong c = ((2 : Nat) : Int) := by unfold rLong; (repeat' split) <;> omega
theorem long_3 {c : Int} (h : 224 ≤ c) (h' : c < 240) : rLong c = ((3 : Nat) : Int) := by unfold rLong; (repeat' split) <;> omega
theorem long_4 {c : Int} (h : 240 ≤ c) (h' : c < 248) : rLong c = ((4 : Nat) : Int) := by unfold rLong; (repeat' split) <;> omega

/-- More are needed, or none is there: as 'final' says. -/
theorem short_fin {final : Bool} : (if final = false ∧ true = true then ((-1 : Int), (0 : Int), true) else (-1, 1, false)) = if final then (-1, 1, false) else (-1, 0, true) := by cases final <;> rfl

theorem dec_eq (l : List UInt8) (final : Bool) : dec l final = rDec l final := by
  cases l with
  | nil => rfl
  | cons c r =>
    have hc0 := u8_ge c
    have hc1 := u8_le c
    by_cases h1 : (c.toNat : Int) < 128
    · rw [dec_some (n := 1) (kind_1 h1) (by omega), rDec_long (long_1 h1) (by omega) (by simp), whole_1 c r h1, if_pos hc0, decGo_zero]
    by_cases h2 : (c.toNat : Int) < 192
    · rw [dec_none (kind_0 (by omega) (by omega)), rDec_none (long_0 (by omega) (.inl h2))]
    by_cases h3 : (c.toNat : Int) < 194
    · rw [dec_none (kind_0 (by omega) (by omega))]
      cases r with
      | nil => rw [rDec_short (long_2 (by omega) (by omega)) (by simp), might_2 c (by omega) (by omega), decide_eq_false (by omega)]; simp
      | cons x t => have hw := whole_2 c x t (by omega) (by omega); rw [if_neg (by omega)] at hw; rw [rDec_long (long_2 (by omega) (by omega)) (by omega) (by simp), hw, if_neg (by omega)]
    by_cases h4 : (c.toNat : Int) < 224
    · rw [dec_some (n := 2) (kind_2 (by omega) h4) (by omega)]
      cases r with
      | nil => rw [rDec_short (long_2 (by omega) (by omega)) (by simp), might_2 c (by omega) (by omega), decide_eq_true (by omega), decGo_nil, short_fin]
      | cons x t =>
        have hw := whole_2 c x t (by omega) (by omega)
        rw [rDec_long (long_2 (by omega) (by omega)) (by omega) (by simp)]
        by_cases hx : 128 ≤ (x.toNat : Int) ∧ (x.toNat : Int) ≤ 191
        · rw [if_pos ⟨by omega, hx⟩] at hw
          rw [hw, if_pos (by omega), decGo_in (by omega), decGo_zero]
          refine Prod.ext (by simp only []; omega) rfl
        · rw [if_neg (fun h => hx h.2)] at hw
          rw [hw, if_neg (by omega), decGo_out (by omega)]
    by_cases h5 : (c.toNat : Int) < 240
    · obtain ⟨lo, hi, hk, k1, k2, k3, k4⟩ := kind_3 (c := (c.toNat : Int)) (by omega) h5
      rw [dec_some (n := 3) hk (by omega)]
      match r with
      | [] => rw [rDec_short (long_3 (by omega) (by omega)) (by simp), might_31 c (by omega) (by omega), decGo_nil, short_fin]
      | [x] =>
        rw [rDec_short (long_3 (by omega) (by omega)) (by simp), might_32 c x (by omega) (by omega)]
        by_cases hx : (x.toNat : Int) < lo ∨ hi < (x.toNat : Int)
        · rw [decGo_out hx, decide_eq_false (by omega)]; simp
        · rw [decGo_in hx, decGo_nil, decide_eq_true (by omega), short_fin]
      | x :: y :: t =>
        have hw := whole_3 c x y t (by omega) (by omega)
        rw [rDec_long (long_3 (by omega) (by omega)) (by omega) (by simp)]
        by_cases hx : (x.toNat : Int) < lo ∨ hi < (x.toNat : Int)
        · rw [if_neg (by omega)] at hw; rw [decGo_out hx, hw, if_neg (by omega)]
        · rw [decGo_in hx]
          by_cases hy : (y.toNat : Int) < 128 ∨ 191 < (y.toNat : Int)
          · rw [if_neg (by omega)] at hw; rw [decGo_out hy, hw, if_neg (by omega)]
          · rw [if_pos (by omega)] at hw; rw [decGo_in hy, decGo_zero, hw, if_pos (by omega)]
            refine Prod.ext (by simp only []; omega) rfl
    by_cases h6 : (c.toNat : Int) ≤ 244
    · obtain ⟨lo, hi, hk, k1, k2, k3, k4⟩ := kind_4 (c := (c.toNat : Int)) (by omega) h6
      rw [dec_some (n := 4) hk (by omega)]
      match r with
      | [] => rw [rDec_short (long_4 (by omega) (by omega)) (by simp), might_41 c (by omega) (by omega), decGo_nil, decide_eq_true h6, short_fin]
      | [x] =>
        rw [rDec_short (long_4 (by omega) (by omega)) (by simp), might_42 c x (by omega) (by omega)]
        by_cases hx : (x.toNat : Int) < lo ∨ hi < (x.toNat : Int)
        · rw [decGo_out hx, decide_eq_false (by omega)]; simp
        · rw [decGo_in hx, decGo_nil, decide_eq_true (by omega), short_fin]
      | [x, y] =>
        rw [rDec_short (long_4 (by omega) (by omega)) (by simp), might_43 c x y (by omega) (by omega)]
        by_cases hx : (x.toNat : Int) < lo ∨ hi < (x.toNat : Int)
        · rw [decGo_out hx, decide_eq_false (by omega)]; simp
        · rw [decGo_in hx]
          by_cases hy : (y.toNat : Int) < 128 ∨ 191 < (y.toNat : Int)
          · rw [decGo_out hy, decide_eq_false (by omega)]; simp
          · rw [decGo_in hy, decGo_nil, decide_eq_true (by omega), short_fin]
      | x :: y :: z :: t =>
        have hw := whole_4 c x y z t (by omega) (by omega)
        rw [rDec_long (long_4 (by omega) (by omega)) (by omega) (by simp)]
        by_cases hx : (x.toNat : Int) < lo ∨ hi < (x.toNat : Int)
        · rw [if_neg (by omega)] at hw; rw [decGo_out hx, hw, if_neg (by omega)]
        · rw [decGo_in hx]
          by_cases hy : (y.toNat : Int) < 128 ∨ 191 < (y.toNat : Int)
          · rw [if_neg (by omega)] at hw; rw [decGo_out hy, hw, if_neg (by omega)]
          · rw [decGo_in hy]
            by_cases hz : (z.toNat : Int) < 128 ∨ 191 < (z.toNat : Int)
            · rw [if_neg (by omega)] at hw; rw [decGo_out hz, hw, if_neg (by omega)]
            · rw [if_pos (by omega)] at hw; rw [decGo_in hz, decGo_zero, hw, if_pos (by omega)]
              refine Prod.ext (by simp only []; omega) rfl
    · rw [dec_none (kind_0 (by omega) (by omega))]
      by_cases h7 : 248 ≤ (c.toNat : Int)
      · rw [rDec_none (long_0 (by omega) (.inr h7))]
      · match r with
        | [] => rw [rDec_short (long_4 (by omega) (by omega)) (by simp), might_41 c (by omega) (by omega), decide_eq_false h6]; simp
        | [x] => rw [rDec_short (long_4 (by omega) (by omega)) (by simp), might_42 c x (by omega) (by omega), decide_eq_false (fun h => h6 h.2.2.2)]; simp
        | [x, y] => rw [rDec_short (long_4 (by omega) (by omega)) (by simp), might_43 c x y (by omega) (by omega), decide_eq_false (fun h => h6 h.2.2.2.2)]; simp
        | x :: y :: z :: t => have hw := whole_4 c x y z t (by omega) (by omega); rw [if_neg (fun h => h6 h.2.2.2.2.2)] at hw; rw [rDec_long (long_4 (by omega) (by omega)) (by omega) (by simp), hw, if_neg (by omega)]

/-- What is decided stays, whatever comes behind. -/
theorem decGo_more (N : Int) (k : Nat) : ∀ (l m : List UInt8) (P L H : Int), (decGo false N k l P L H).2.2 = false → decGo false N k (l ++ m) P L H = decGo false N k l P L H := by
  induction k with
  | zero => intro l m P L H _; rw [decGo_zero, decGo_zero]
  | succ k ih =>
    intro l m P L H h
    cases l with
    | nil => rw [decGo_nil] at h; cases h
    | cons x r =>
      rw [List.cons_append]
      by_cases hx : (x.toNat : Int) < L ∨ H < (x.toNat : Int)
      · rw [decGo_out hx, decGo_out hx]
      · rw [decGo_in hx] at h ⊢
        rw [decGo_in hx]
        exact ih r m _ _ _ h
theorem dec_more (l m : List UInt8) (h : (dec l false).2.2 = false) : dec (l ++ m) false = dec l false := by
  cases l with
  | nil => cases h
  | cons c r =>
    simp only [dec, List.cons_append] at h ⊢
    by_cases h0 : (utfKind (c.toNat : Int)).1 = 0
    · rw [if_pos h0, if_pos h0]
    · rw [if_neg h0] at h ⊢
      rw [if_neg h0]
      exact decGo_more _ _ _ _ _ _ _ h
end Go.Proofs.YtkiggpbmlkfdpaaDoor
