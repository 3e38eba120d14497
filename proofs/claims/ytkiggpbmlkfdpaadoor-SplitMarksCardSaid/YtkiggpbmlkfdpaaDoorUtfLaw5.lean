/- The plain law of UtfPoints: the points of bytes are those of the bytes ahead of what needs more, and then none, as often as there are such; fewer than four. -/
import Derived.Test.YtkiggpbmlkfdpaaDoorUtfLaw2
/- The plain law: a code point's bytes are decoded to it, whatever stands behind; a part of them needs more. -/
namespace Go.Proofs.YtkiggpbmlkfdpaaDoor

theorem encOf_len {p : Int} (hp : isPoint p = true) : 1 ≤ (encOf p).length ∧ (encOf p).length ≤ 4 := by
  rw [enc_len, hp]; (repeat' split) <;> first | omega | (rename_i h _ _; cases h) | simp_all
theorem enc_shape {p : Int} (hp : isPoint p = true) :
    (p < 128 ∧ ∃ a : UInt8, encOf p = [a] ∧ (a.toNat : Int) = p) ∨
    (128 ≤ p ∧ p < 2048 ∧ ∃ a b : UInt8, encOf p = [a, b] ∧ (a.toNat : Int) = 192 + p / 64 ∧ (b.toNat : Int) = 128 + p % 64) ∨
    (2048 ≤ p ∧ p < 65536 ∧ ∃ a b c : UInt8, encOf p = [a, b, c] ∧ (a.toNat : Int) = 224 + p / 4096 ∧ (b.toNat : Int) = 128 + p / 64 % 64 ∧ (c.toNat : Int) = 128 + p % 64) ∨
    (65536 ≤ p ∧ ∃ a b c d : UInt8, encOf p = [a, b, c, d] ∧ (a.toNat : Int) = 240 + p / 262144 ∧ (b.toNat : Int) = 128 + p / 4096 % 64 ∧ (c.toNat : Int) = 128 + p / 64 % 64 ∧ (d.toNat : Int) = 128 + p % 64) := by
  have hq := isPoint_iff.1 hp
  by_cases h1 : p < 128
  · exact .inl ⟨h1, _, by simp only [encOf, hp, Bool.true_eq_false, if_false]; rw [if_pos h1], byteOf_toNat (by omega) (by omega)⟩
  by_cases h2 : p < 2048
  · exact .inr (.inl ⟨by omega, h2, _, _, by simp only [encOf, hp, Bool.true_eq_false, if_false]; rw [if_neg h1, if_pos h2], byteOf_toNat (by omega) (by omega), byteOf_toNat (by omega) (by omega)⟩)
  by_cases h3 : p < 65536
  · exact .inr (.inr (.inl ⟨by omega, h3, _, _, _, by simp only [encOf, hp, Bool.true_eq_false, if_false]; rw [if_neg h1, if_neg h2, if_pos h3], byteOf_toNat (by omega) (by omega), byteOf_toNat (by omega) (by omega), byteOf_toNat (by omega) (by omega)⟩))
  · exact .inr (.inr (.inr ⟨by omega, _, _, _, _, by simp only [encOf, hp, Bool.true_eq_false, if_false]; rw [if_neg h1, if_neg h2, if_neg h3], byteOf_toNat (by omega) (by omega), byteOf_toNat (by omega) (by omega), byteOf_toNat (by omega) (by omega), byteOf_toNat (by omega) (by omega)⟩))

theorem enc_dec {p : Int} (hp : isPoint p = true) (m : List UInt8) (final : Bool) : dec (encOf p ++ m) final = (p, ((encOf p).length : Int), false) := by
  have hq := isPoint_iff.1 hp
  rcases enc_shape hp with ⟨h1, a, he, ha⟩ | ⟨h1, h2, a, b, he, ha, hb⟩ | ⟨h1, h2, a, b, c, he, ha, hb, hc⟩ | ⟨h1, a, b, c, d, he, ha, hb, hc, hd⟩
  · rw [he, List.cons_append, dec_some (n := 1) (kind_1 (by omega)) (by omega), decGo_zero, ha]; rfl
  · rw [he, List.cons_append, List.cons_append, dec_some (n := 2) (kind_2 (by omega) (by omega)) (by omega), decGo_in (by omega), decGo_zero]
    exact Prod.ext (by simp only []; omega) rfl
  · obtain ⟨lo, hi, hk, k1, k2, k3, k4⟩ := kind_3 (c := (a.toNat : Int)) (by omega) (by omega)
    rw [he, List.cons_append, List.cons_append, List.cons_append, dec_some (n := 3) hk (by omega), decGo_in (by omega), decGo_in (by omega), decGo_zero]
    exact Prod.ext (by simp only []; omega) rfl
  · obtain ⟨lo, hi, hk, k1, k2, k3, k4⟩ := kind_4 (c := (a.toNat : Int)) (by omega) (by omega)
    rw [he, List.cons_append, List.cons_append, List.cons_append, List.cons_append, dec_some (n := 4) hk (by omega), decGo_in (by omega), decGo_in (by omega), decGo_in (by omega), decGo_zero]
    exact Prod.ext (by simp only []; omega) rfl

theorem enc_part {p : Int} (hp : isPoint p = true) (k : Nat) (hk : k < (encOf p).length) : dec ((encOf p).take k) false = (-1, 0, true) := by
  have hq := isPoint_iff.1 hp
  rcases enc_shape hp with ⟨h1, a, he, ha⟩ | ⟨h1, h2, a, b, he, ha, hb⟩ | ⟨h1, h2, a, b, c, he, ha, hb, hc⟩ | ⟨h1, a, b, c, d, he, ha, hb, hc, hd⟩
  · rw [he] at hk ⊢
    obtain rfl : k = 0 := by simp at hk; omega
    rfl
  · rw [he] at hk ⊢
    have hk' : k = 0 ∨ k = 1 := by simp at hk; omega
    rcases hk' with rfl | rfl
    · rfl
    · simp only [List.take_succ_cons, List.take_zero]
      rw [dec_some (n := 2) (kind_2 (by omega) (by omega)) (by omega), decGo_nil]; rfl
  · obtain ⟨lo, hi, hkk, k1, k2, k3, k4⟩ := kind_3 (c := (a.toNat : Int)) (by omega) (by omega)
    rw [he] at hk ⊢
    have hk' : k = 0 ∨ k = 1 ∨ k = 2 := by simp at hk; omega
    rcases hk' with rfl | rfl | rfl
    · rfl
    · simp only [List.take_succ_cons, List.take_zero]
      rw [dec_some (n := 3) hkk (by omega), decGo_nil]; rfl
    · simp only [List.take_succ_cons, List.take_zero]
      rw [dec_some (n := 3) hkk (by omega), decGo_in (by omega), decGo_nil]; rfl
  · obtain ⟨lo, hi, hkk, k1, k2, k3, k4⟩ := kind_4 (c := (a.toNat : Int)) (by omega) (by omega)
    rw [he] at hk ⊢
    have hk' : k = 0 ∨ k = 1 ∨ k = 2 ∨ k = 3 := by simp at hk; omega
    rcases hk' with rfl | rfl | rfl | rfl
    · rfl
    · simp only [List.take_succ_cons, List.take_zero]
      rw [dec_some (n := 4) hkk (by omega), decGo_nil]; rfl
    · simp only [List.take_succ_cons, List.take_zero]
      rw [dec_some (n := 4) hkk (by omega), decGo_in (by omega), decGo_nil]; rfl
    · simp only [List.take_succ_cons, List.take_zero]
      rw [dec_some (n := 4) hkk (by omega), decGo_in (by omega), decGo_in (by omega), decGo_nil]; rfl
end Go.Proofs.YtkiggpbmlkfdpaaDoor
namespace Go.Proofs.YtkiggpbmlkfdpaaDoor

theorem decGo_take (N : Int) (j : Nat) : ∀ (m : Nat) (l : List UInt8) (P L H : Int), (decGo true N j (l.take m) P L H = (-1, 1, false) ∨ decGo true N j (l.take m) P L H = decGo true N j l P L H) ∧ (j ≤ m → decGo true N j (l.take m) P L H = decGo true N j l P L H) := by
  induction j with
  | zero => intro m l P L H; rw [decGo_zero, decGo_zero]; exact ⟨.inr rfl, fun _ => rfl⟩
  | succ j ih =>
    intro m l P L H
    cases l with
    | nil => rw [List.take_nil]; exact ⟨.inr rfl, fun _ => rfl⟩
    | cons x r =>
      cases m with
      | zero => rw [List.take_zero, decGo_nil]; exact ⟨.inl rfl, fun h => by omega⟩
      | succ m =>
        rw [List.take_succ_cons]
        by_cases hx : (x.toNat : Int) < L ∨ H < (x.toNat : Int)
        · rw [decGo_out hx, decGo_out hx]; exact ⟨.inl rfl, fun _ => rfl⟩
        · rw [decGo_in hx, decGo_in hx]
          have := ih m r (P * 64 + (x.toNat : Int) % 64) 128 191
          exact ⟨this.1, fun h => this.2 (by omega)⟩

theorem dec_take {l : List UInt8} {p k : Int} {more : Bool} (hl : 0 < l.length) (h : dec l true = (p, k, more)) (m : Nat) (hm : k ≤ m) : dec (l.take m) true = (p, k, more) := by
  have hs := dec_step hl h
  obtain ⟨c, r, rfl⟩ := cons_of hl
  obtain ⟨m, rfl⟩ : ∃ m', m = m' + 1 := ⟨m - 1, by rcases hs with ⟨_, h, _⟩ | ⟨_, h, _⟩ <;> first | cases h | omega⟩
  rw [List.take_succ_cons]
  by_cases h0 : (utfKind (c.toNat : Int)).1 = 0
  · rw [dec_none h0] at h ⊢; exact h
  · have hb := utfKind_bd (c.toNat : Int) (u8_ge c) (u8_le c)
    obtain ⟨n, b, lo, hi, hk⟩ := utfKind_ex (c.toNat : Int)
    rw [hk] at hb h0
    simp only at hb h0
    obtain ⟨n, rfl⟩ : ∃ n' : Nat, n = n' := ⟨n.toNat, by omega⟩
    rw [dec_some hk (by omega)] at h ⊢
    have ht := decGo_take (n : Int) (n - 1) m r b lo hi
    have hf := decGo_facts true (n : Int) (n - 1) r b lo hi hb.2.2.1
    rw [h] at ht hf
    simp only at hf
    rcases hs with ⟨_, h2, _⟩ | ⟨rfl, h2, h3, _, _⟩
    · cases h2
    · rcases hf.2 rfl with ⟨rfl, rfl⟩ | ⟨h5, h6, h7⟩
      · rcases ht.1 with h8 | h8 <;> exact h8
      · exact ht.2 (by omega)

theorem dec_true {l : List UInt8} {p k : Int} (hl : 0 < l.length) (h : dec l false = (p, k, false)) : dec l true = (p, k, false) := by
  have go : ∀ (N : Int) (j : Nat) (l : List UInt8) (P L H : Int), (decGo false N j l P L H).2.2 = false → decGo true N j l P L H = decGo false N j l P L H := by
    intro N j
    induction j with
    | zero => intro l P L H _; rw [decGo_zero, decGo_zero]
    | succ j ih =>
      intro l P L H h
      cases l with
      | nil => rw [decGo_nil] at h; cases h
      | cons x r =>
        by_cases hx : (x.toNat : Int) < L ∨ H < (x.toNat : Int)
        · rw [decGo_out hx, decGo_out hx]
        · rw [decGo_in hx] at h ⊢; rw [decGo_in hx]; exact ih r _ _ _ h
  obtain ⟨c, r, rfl⟩ := cons_of hl
  simp only [dec] at h ⊢
  by_cases h0 : (utfKind (c.toNat : Int)).1 = 0
  · rw [if_pos h0] at h ⊢; exact h
  · rw [if_neg h0] at h ⊢
    rw [go _ _ _ _ _ _ (by rw [h]), h]

theorem decGo_more_shape (N : Int) (j : Nat) : ∀ (l : List UInt8) (P L H : Int), 128 ≤ L → H ≤ 191 → (decGo false N j l P L H).2.2 = true → l.length < j ∧ (∀ x ∈ l, 128 ≤ (x.toNat : Int) ∧ (x.toNat : Int) ≤ 191) ∧ decGo true N j l P L H = (-1, 1, false) := by
  induction j with
  | zero => intro l P L H _ _ h; rw [decGo_zero] at h; cases h
  | succ j ih =>
    intro l P L H h1 h2 h
    cases l with
    | nil => exact ⟨by simp, by simp, by rw [decGo_nil]; rfl⟩
    | cons x r =>
      by_cases hx : (x.toNat : Int) < L ∨ H < (x.toNat : Int)
      · rw [decGo_out hx] at h; cases h
      · rw [decGo_in hx] at h
        obtain ⟨h3, h4, h5⟩ := ih r _ _ _ (by omega) (by omega) h
        refine ⟨by simp only [List.length_cons]; omega, fun y hy => ?_, by rw [decGo_in hx, h5]⟩
        rcases List.mem_cons.1 hy with rfl | hy
        · omega
        · exact h4 y hy

theorem kind_range (c : Int) : (utfKind c).1 ≤ 1 ∨ (128 ≤ (utfKind c).2.2.1 ∧ (utfKind c).2.2.2 ≤ 191) := by
  unfold utfKind
  (repeat' split) <;> simp

theorem more_shape {c : UInt8} {r : List UInt8} (h : (dec (c :: r) false).2.2 = true) : r.length < 3 ∧ (∀ x ∈ r, 128 ≤ (x.toNat : Int) ∧ (x.toNat : Int) ≤ 191) ∧ dec (c :: r) true = (-1, 1, false) := by
  have hb := utfKind_bd (c.toNat : Int) (u8_ge c) (u8_le c)
  have hr := kind_range (c.toNat : Int)
  simp only [dec] at h ⊢
  by_cases h0 : (utfKind (c.toNat : Int)).1 = 0
  · rw [if_pos h0] at h; cases h
  · rw [if_neg h0] at h ⊢
    rcases hr with h1 | ⟨h1, h2⟩
    · rw [show (utfKind (c.toNat : Int)).1.toNat - 1 = 0 from by omega, decGo_zero] at h; cases h
    · obtain ⟨h3, h4, h5⟩ := decGo_more_shape _ _ _ _ _ _ h1 h2 h
      exact ⟨by omega, h4, h5⟩

theorem points_tail : ∀ (r : List UInt8), (∀ x ∈ r, 128 ≤ (x.toNat : Int) ∧ (x.toNat : Int) ≤ 191) → pointsOf r = List.replicate r.length (-1) := by
  intro r
  induction r with
  | nil => intro _; rw [pointsOf_nil]; rfl
  | cons x r ih =>
    intro h
    have hx := h x List.mem_cons_self
    have hd : dec (x :: r) true = (-1, 1, false) := dec_none (kind_0 hx.1 (by omega))
    rw [pointsOf_step (by simp) hd, show ((1 : Int).toNat) = 1 from rfl, List.drop_succ_cons, List.drop_zero, ih fun y hy => h y (List.mem_cons_of_mem _ hy)]
    rfl

theorem rest_le : ∀ (n : Nat) (l : List UInt8), l.length ≤ n → restOf l ≤ l.length ∧ restOf l < 4 ∧ pointsOf l = pointsOf (l.take (l.length - restOf l)) ++ List.replicate (restOf l) (-1) := by
  intro n
  induction n with
  | zero =>
    intro l hl
    obtain rfl : l = [] := List.eq_nil_of_length_eq_zero (by omega)
    rw [restOf_nil]; simp [pointsOf_nil]
  | succ n ih =>
    intro l hl
    rcases Nat.eq_zero_or_pos l.length with h0 | h0
    · obtain rfl : l = [] := List.eq_nil_of_length_eq_zero h0
      rw [restOf_nil]; simp [pointsOf_nil]
    · obtain ⟨p, k, more, hd⟩ := dec_ex l false
      rcases dec_step h0 hd with ⟨rfl, _⟩ | ⟨rfl, h1, h2, _, _⟩
      · obtain ⟨c, r, rfl⟩ := cons_of h0
        obtain ⟨h3, h4, h5⟩ := more_shape (by rw [hd])
        rw [restOf_more h0 hd]
        refine ⟨Nat.le_refl _, by simp only [List.length_cons]; omega, ?_⟩
        rw [Nat.sub_self, List.take_zero, pointsOf_nil, List.nil_append, pointsOf_step h0 h5, show ((1 : Int).toNat) = 1 from rfl, List.drop_succ_cons, List.drop_zero, points_tail r h4]
        rfl
      · have ht := dec_true h0 hd
        rw [restOf_step h0 hd]
        obtain ⟨h3, h4, h5⟩ := ih (l.drop k.toNat) (by rw [List.length_drop]; omega)
        rw [List.length_drop] at h3 h5
        refine ⟨by omega, h4, ?_⟩
        have hm : 0 < (l.take (l.length - restOf (l.drop k.toNat))).length := by rw [List.length_take]; omega
        rw [pointsOf_step h0 ht, h5, pointsOf_step hm (dec_take h0 ht _ (by omega)), List.cons_append, List.drop_take, show l.length - restOf (l.drop k.toNat) - k.toNat = l.length - k.toNat - restOf (l.drop k.toNat) from by omega]
end Go.Proofs.YtkiggpbmlkfdpaaDoor
