/- What letter and its reference compute, as plain functions, and the plain laws. -/
import Derived.Test.YtdapcilhbclcnaaUtfLaw5
namespace Go.Proofs.Ytdapcilhbclcnaa
set_option linter.unusedSimpArgs false
set_option linter.unusedVariables false

/-- A byte's letter; the byte of a letter, or -1. -/
def lOf (n : Int) : Int := if n < 33 then 256 + n else if n = 173 then 323 else if 127 ≤ n ∧ n < 161 then 162 + n else n
def lByte (p : Int) : Int := if 33 ≤ p ∧ p < 127 then p else if 161 ≤ p ∧ p < 256 ∧ p ≠ 173 then p else if p = 323 then 173 else if 256 ≤ p ∧ p < 289 then p - 256 else if 289 ≤ p ∧ p < 323 then p - 162 else -1
theorem lOf_range {n : Int} (h0 : 0 ≤ n) (h1 : n ≤ 255) : 33 ≤ lOf n ∧ lOf n ≤ 323 ∧ (lOf n < 128 → lOf n < 127) ∧ (128 ≤ lOf n → 161 ≤ lOf n) := by
  unfold lOf; (repeat' split) <;> omega
theorem lByte_of {n : Int} (h0 : 0 ≤ n) (h1 : n ≤ 255) : lByte (lOf n) = n := by
  unfold lByte lOf; (repeat' split) <;> omega
theorem lByte_range (p : Int) : -1 ≤ lByte p ∧ lByte p ≤ 255 := by
  unfold lByte; (repeat' split) <;> omega
theorem lOf_byte {p : Int} (h : 0 ≤ lByte p) : lOf (lByte p) = p := by
  unfold lByte at h ⊢; unfold lOf
  (repeat' split at h) <;> (repeat' split) <;> omega
theorem lOf_point {n : Int} (h0 : 0 ≤ n) (h1 : n ≤ 255) : isPoint (lOf n) = true := by
  have := lOf_range h0 h1
  rw [isPoint_iff]; omega

/-- The reference: counted. -/
def lPlain (n : Nat) : Bool := decide (33 ≤ n ∧ n ≤ 126 ∨ 161 ≤ n ∧ n ≤ 172 ∨ 174 ≤ n ∧ n ≤ 255)
def lCount : Nat → Nat
  | 0 => 256
  | i + 1 => if lPlain i then lCount i else lCount i + 1
theorem lCount_le : ∀ i, lCount i ≤ 256 + i
  | 0 => Nat.le_refl _
  | i + 1 => by have := lCount_le i; unfold lCount; split <;> omega
def lRef (n : Nat) : Nat := if lPlain n then n else lCount n
theorem lRef_all : ∀ n : Fin 256, ((lRef n.val : Nat) : Int) = lOf (n.val : Nat) := by decide +kernel
theorem lRef_eq {n : Nat} (h : n < 256) : ((lRef n : Nat) : Int) = lOf n := lRef_all ⟨n, h⟩
/-- None of the bytes ahead of i has the letter p. -/
def NoneTo (i : Nat) (p : Int) : Prop := ∀ j : Nat, j < i → lOf j ≠ p
theorem NoneTo.zero (p : Int) : NoneTo 0 p := fun j h => absurd h (by omega)
theorem NoneTo.step {i : Nat} {p : Int} (h : NoneTo i p) (hi : lOf i ≠ p) : NoneTo (i + 1) p := fun j hj => by
  rcases Nat.lt_or_ge j i with h1 | h1
  · exact h j h1
  · obtain rfl : j = i := by omega
    exact hi
theorem NoneTo.all {p : Int} (h : NoneTo 256 p) : lByte p = -1 := by
  have hr := lByte_range p
  rcases Int.lt_or_le (lByte p) 0 with h0 | h0
  · omega
  · exact absurd (by have := lOf_byte h0; rw [show ((lByte p).toNat : Int) = lByte p from by omega]; exact this) (h (lByte p).toNat (by omega))
theorem found {i : Nat} {p : Int} (hi : i < 256) (h : lOf i = p) : lByte p = i := by rw [← h]; exact lByte_of (by omega) (by omega)

/-- The writing of bytes. -/
def wr (l : List UInt8) : List UInt8 := l.flatMap fun b => encOf (lOf b.toNat)
theorem wr_nil : wr [] = [] := rfl
theorem wr_cons (b : UInt8) (l : List UInt8) : wr (b :: l) = encOf (lOf b.toNat) ++ wr l := rfl
theorem wr_app (a b : List UInt8) : wr (a ++ b) = wr a ++ wr b := by unfold wr; exact List.flatMap_append
theorem wr_one (b : UInt8) : wr [b] = encOf (lOf b.toNat) := by simp [wr]
theorem wr_len : ∀ l : List UInt8, (wr l).length ≤ 4 * l.length
  | [] => Nat.le_refl _
  | b :: l => by
    have := wr_len l
    have h := encOf_len (lOf_point (u8_ge b) (u8_le b))
    rw [wr_cons, List.length_append, List.length_cons]
    omega
theorem enc_high {p : Int} (h0 : 33 ≤ p) (h1 : p < 128 → p < 127) (h2 : p ≤ 323) : ∀ x ∈ encOf p, 32 < x.toNat ∧ x.toNat ≠ 127 := by
  have hp : isPoint p = true := by rw [isPoint_iff]; omega
  rcases enc_shape hp with ⟨h3, a, he, ha⟩ | ⟨h3, h4, a, b, he, ha, hb⟩ | ⟨h3, _⟩ | ⟨h3, _⟩
  · intro x hx
    rw [he, List.mem_singleton] at hx
    subst hx; omega
  · intro x hx
    rw [he] at hx
    simp only [List.mem_cons, List.not_mem_nil, or_false] at hx
    rcases hx with rfl | rfl <;> omega
  · omega
  · omega
theorem wr_high : ∀ (l : List UInt8), ∀ x ∈ wr l, 32 < x.toNat ∧ x.toNat ≠ 127
  | [], x, h => by simp [wr] at h
  | b :: l, x, h => by
    rw [wr_cons, List.mem_append] at h
    rcases h with h | h
    · have hr := lOf_range (u8_ge b) (u8_le b)
      exact enc_high hr.1 hr.2.2.1 hr.2.1 x h
    · exact wr_high l x h

/-- What a text is read as. -/
def glue (out : List UInt8) (x : List UInt8 × Nat × Bool) : List UInt8 × Nat × Bool := if x.2.2 then (out ++ x.1, 0, true) else ([], x.2.1, false)
def rdFuel : Nat → List UInt8 → Nat → List UInt8 × Nat × Bool
  | 0, _, _ => ([], 0, true)
  | _ + 1, [], _ => ([], 0, true)
  | f + 1, x :: l, a => if lByte (dec (x :: l) true).1 < 0 then ([], a, false) else
    glue [byteOf (lByte (dec (x :: l) true).1)] (rdFuel f ((x :: l).drop (dec (x :: l) true).2.1.toNat) (a + (dec (x :: l) true).2.1.toNat))
def rdAt (l : List UInt8) (a : Nat) : List UInt8 × Nat × Bool := rdFuel l.length l a
theorem rdFuel_eq : ∀ (f g : Nat) (l : List UInt8) (a : Nat), l.length ≤ f → l.length ≤ g → rdFuel f l a = rdFuel g l a := by
  intro f
  induction f with
  | zero =>
    intro g l a h _
    obtain rfl : l = [] := List.eq_nil_of_length_eq_zero (by omega)
    cases g <;> simp [rdFuel]
  | succ f ih =>
    intro g l a h hg
    cases l with
    | nil => cases g <;> simp [rdFuel]
    | cons x r =>
      obtain ⟨g, rfl⟩ : ∃ g', g = g' + 1 := ⟨g - 1, by simp only [List.length_cons] at hg; omega⟩
      have hs := dec_facts (x :: r) true (by simp)
      simp only [rdFuel]
      rcases hs with ⟨_, h2, _⟩ | ⟨h1, h2, h3, _⟩
      · cases h2
      · have hl : ((x :: r).drop (dec (x :: r) true).2.1.toNat).length ≤ r.length := by rw [List.length_drop, List.length_cons]; omega
        simp only [List.length_cons] at h hg
        rw [ih g _ _ (by omega) (by omega)]
theorem rdAt_nil (a : Nat) : rdAt [] a = ([], 0, true) := by simp [rdAt, rdFuel]
theorem rdAt_bad {l : List UInt8} {p k : Int} {more : Bool} {a : Nat} (hl : 0 < l.length) (h : dec l true = (p, k, more)) (hp : lByte p < 0) : rdAt l a = ([], a, false) := by
  obtain ⟨x, r, rfl⟩ := cons_of hl
  simp only [rdAt, List.length_cons, rdFuel, h]
  rw [if_pos hp]
theorem rdAt_good {l : List UInt8} {p k : Int} {more : Bool} {a : Nat} (hl : 0 < l.length) (h : dec l true = (p, k, more)) (hp : 0 ≤ lByte p) : rdAt l a = glue [byteOf (lByte p)] (rdAt (l.drop k.toNat) (a + k.toNat)) := by
  have hs := dec_step hl h
  obtain ⟨x, r, rfl⟩ := cons_of hl
  simp only [rdAt, List.length_cons, rdFuel, h]
  rw [if_neg (by omega), rdFuel_eq r.length _ _ _ (by rw [List.length_drop, List.length_cons]; simp at hs; omega) (Nat.le_refl _)]
theorem glue_glue (a b : List UInt8) (x : List UInt8 × Nat × Bool) : glue a (glue b x) = glue (a ++ b) x := by
  unfold glue
  rcases x with ⟨l, n, _ | _⟩ <;> simp
theorem glue_nil_of (l : List UInt8) (a : Nat) (h : (rdAt l a).2.2 = true → (rdAt l a).2.1 = 0) (h' : (rdAt l a).2.2 = false → (rdAt l a).1 = []) : glue [] (rdAt l a) = rdAt l a := by
  unfold glue
  rcases hx : rdAt l a with ⟨b, n, _ | _⟩ <;> rw [hx] at h h' <;> simp at h h' <;> subst_vars <;> rfl
theorem rdAt_facts : ∀ (m : Nat) (l : List UInt8) (a : Nat), l.length ≤ m → ((rdAt l a).2.2 = true → (rdAt l a).2.1 = 0 ∧ (rdAt l a).1.length ≤ l.length) ∧ ((rdAt l a).2.2 = false → (rdAt l a).1 = [] ∧ a ≤ (rdAt l a).2.1 ∧ (rdAt l a).2.1 < a + l.length) := by
  intro m
  induction m with
  | zero =>
    intro l a h
    obtain rfl : l = [] := List.eq_nil_of_length_eq_zero (by omega)
    rw [rdAt_nil]; simp
  | succ m ih =>
    intro l a h
    rcases Nat.eq_zero_or_pos l.length with h0 | h0
    · obtain rfl : l = [] := List.eq_nil_of_length_eq_zero h0
      rw [rdAt_nil]; simp
    obtain ⟨p, k, more, hd⟩ := dec_ex l true
    rcases dec_step h0 hd with ⟨_, h2, _⟩ | ⟨rfl, hk1, hk2, _, _⟩
    · cases h2
    rcases Int.lt_or_le (lByte p) 0 with hp | hp
    · rw [rdAt_bad h0 hd hp]; simp; omega
    · rw [rdAt_good h0 hd hp]
      have hl : (l.drop k.toNat).length = l.length - k.toNat := List.length_drop
      have := ih (l.drop k.toNat) (a + k.toNat) (by omega)
      rw [hl] at this
      rcases hx : rdAt (l.drop k.toNat) (a + k.toNat) with ⟨b, n, _ | _⟩ <;> rw [hx] at this <;> simp at this <;> simp [glue] <;> omega
theorem glue_nil (l : List UInt8) (a : Nat) : glue [] (rdAt l a) = rdAt l a :=
  glue_nil_of l a (fun h => ((rdAt_facts _ l a (Nat.le_refl _)).1 h).1) fun h => ((rdAt_facts _ l a (Nat.le_refl _)).2 h).1

/-- A writing is read as what was written. -/
theorem read_wr : ∀ (l : List UInt8) (a : Nat), rdAt (wr l) a = (l, 0, true)
  | [], a => by rw [wr_nil, rdAt_nil]
  | b :: l, a => by
    have hp := lOf_point (u8_ge b) (u8_le b)
    have hb := lByte_of (u8_ge b) (u8_le b)
    have he := encOf_len hp
    rw [wr_cons, rdAt_good (by rw [List.length_append]; omega) (enc_dec hp (wr l) true) (by rw [hb]; omega), Int.toNat_natCast, List.drop_left, read_wr l, hb]
    have : byteOf (b.toNat : Int) = b := by rw [byteOf_eq (u8_ge b) (u8_le b)]
    rw [this]
    rfl
/-- What decodes to a code point are its bytes. -/
theorem dec_sound {l : List UInt8} {p k : Int} {more : Bool} (hl : 0 < l.length) (h : dec l true = (p, k, more)) (hp : 0 ≤ p) : encOf p = l.take k.toNat := by
  rw [dec_eq] at h
  obtain ⟨c, r, rfl⟩ := cons_of hl
  simp only [rDec] at h
  generalize rLong (c.toNat : Int) = q at *
  by_cases h1 : 0 < q ∧ q ≤ ((c :: r).length : Int)
  · rw [if_pos h1] at h
    by_cases h2 : 0 ≤ wholeOf (c :: r) q.toNat
    · rw [if_pos h2] at h
      obtain ⟨h3, h4⟩ := Prod.mk.inj h
      obtain ⟨h4, h5⟩ := Prod.mk.inj h4
      subst h4
      rw [← h3]
      unfold wholeOf at h2 ⊢
      by_cases h6 : isPoint (rBits (c :: r) q.toNat) = true ∧ encOf (rBits (c :: r) q.toNat) = (c :: r).take q.toNat
      · rw [if_pos h6]; exact h6.2
      · rw [if_neg h6] at h2; omega
    · rw [if_neg h2] at h
      have := (Prod.mk.inj h).1; omega
  · rw [if_neg h1] at h
    simp at h
    omega
theorem wr_read : ∀ (m : Nat) (l : List UInt8) (a : Nat) (b : List UInt8), l.length ≤ m → rdAt l a = (b, 0, true) → wr b = l := by
  intro m
  induction m with
  | zero =>
    intro l a b h hb
    obtain rfl : l = [] := List.eq_nil_of_length_eq_zero (by omega)
    rw [rdAt_nil] at hb; injection hb with hb _; rw [← hb]; rfl
  | succ m ih =>
    intro l a b h hb
    rcases Nat.eq_zero_or_pos l.length with h0 | h0
    · obtain rfl : l = [] := List.eq_nil_of_length_eq_zero h0
      rw [rdAt_nil] at hb; injection hb with hb _; rw [← hb]; rfl
    obtain ⟨p, k, more, hd⟩ := dec_ex l true
    rcases dec_step h0 hd with ⟨_, h2, _⟩ | ⟨rfl, hk1, hk2, _, _⟩
    · cases h2
    rcases Int.lt_or_le (lByte p) 0 with hp | hp
    · rw [rdAt_bad h0 hd hp] at hb; simp at hb
    · rw [rdAt_good h0 hd hp] at hb
      rcases hx : rdAt (l.drop k.toNat) (a + k.toNat) with ⟨b2, n, _ | _⟩
      · rw [hx] at hb; simp [glue] at hb
      · have hn : n = 0 := by have := ((rdAt_facts _ (l.drop k.toNat) (a + k.toNat) (Nat.le_refl _)).1 (by rw [hx])).1; rw [hx] at this; exact this
        subst hn
        have hi := ih (l.drop k.toNat) (a + k.toNat) b2 (by rw [List.length_drop]; omega) hx
        rw [hx] at hb
        simp [glue] at hb
        have hr := lByte_range p
        have ho := lOf_byte hp
        have hp0 : 0 ≤ p := by unfold lByte at hp; (repeat' split at hp) <;> omega
        rw [← hb, wr_cons, byteOf_toNat hp hr.2, ho, dec_sound h0 hd hp0, hi, List.take_append_drop]
/-- Up to the place that is told a text is a writing. -/
theorem read_part : ∀ (m : Nat) (l : List UInt8) (a : Nat) (b : List UInt8) (n : Nat), l.length ≤ m → rdAt l a = (b, n, false) → ∃ c, rdAt (l.take (n - a)) a = (c, 0, true) := by
  intro m
  induction m with
  | zero =>
    intro l a b n h hb
    obtain rfl : l = [] := List.eq_nil_of_length_eq_zero (by omega)
    rw [rdAt_nil] at hb; simp at hb
  | succ m ih =>
    intro l a b n h hb
    rcases Nat.eq_zero_or_pos l.length with h0 | h0
    · obtain rfl : l = [] := List.eq_nil_of_length_eq_zero h0
      rw [rdAt_nil] at hb; simp at hb
    obtain ⟨p, k, more, hd⟩ := dec_ex l true
    rcases dec_step h0 hd with ⟨_, h2, _⟩ | ⟨rfl, hk1, hk2, _, _⟩
    · cases h2
    rcases Int.lt_or_le (lByte p) 0 with hp | hp
    · rw [rdAt_bad h0 hd hp] at hb
      injection hb with _ hb; injection hb with hb _
      subst hb
      exact ⟨[], by rw [Nat.sub_self, List.take_zero, rdAt_nil]⟩
    · rw [rdAt_good h0 hd hp] at hb
      rcases hx : rdAt (l.drop k.toNat) (a + k.toNat) with ⟨b2, n2, _ | _⟩
      · rw [hx] at hb
        simp [glue] at hb
        obtain ⟨_, rfl⟩ := hb
        have hf := ((rdAt_facts _ (l.drop k.toNat) (a + k.toNat) (Nat.le_refl _)).2 (by rw [hx])).2
        rw [hx] at hf
        simp only at hf
        obtain ⟨c, hc⟩ := ih (l.drop k.toNat) (a + k.toNat) b2 n2 (by rw [List.length_drop]; omega) hx
        refine ⟨byteOf (lByte p) :: c, ?_⟩
        have ht := dec_take h0 hd (n2 - a) (by omega)
        rw [rdAt_good (by rw [List.length_take]; omega) ht hp, List.drop_take, show n2 - a - k.toNat = n2 - (a + k.toNat) from by omega, hc]
        rfl
      · rw [hx] at hb; simp [glue] at hb
end Go.Proofs.Ytdapcilhbclcnaa
