/- What utf computes, as plain functions on lists of bytes. -/
import Derived.Test.YtefhifmilmedhaaDoorWords
namespace Go.Proofs.YtefhifmilmedhaaDoor

def utfKind (c : Int) : Int × Int × Int × Int :=
  if c < 128 then (1, c, 0, 0) else if c < 194 then (0, 0, 0, 0) else if 244 < c then (0, 0, 0, 0)
  else if c < 224 then (2, c - 192, 128, 191) else if c = 224 then (3, 0, 160, 191) else if c = 237 then (3, 13, 128, 159)
  else if c < 240 then (3, c - 224, 128, 191) else if c = 240 then (4, 0, 144, 191) else if c = 244 then (4, 4, 128, 143) else (4, c - 240, 128, 191)

def decGo (final : Bool) (N : Int) : Nat → List UInt8 → Int → Int → Int → Int × Int × Bool
  | 0, _, point, _, _ => (point, N, false)
  | _ + 1, [], _, _, _ => if final then (-1, 1, false) else (-1, 0, true)
  | k + 1, x :: r, point, lo, hi => if (x.toNat : Int) < lo ∨ hi < (x.toNat : Int) then (-1, 1, false) else decGo final N k r (point * 64 + (x.toNat : Int) % 64) 128 191

def dec (l : List UInt8) (final : Bool) : Int × Int × Bool :=
  match l with
  | [] => (-1, 0, true)
  | c :: r => if (utfKind c.toNat).1 = 0 then (-1, 1, false) else decGo final (utfKind c.toNat).1 ((utfKind c.toNat).1.toNat - 1) r (utfKind c.toNat).2.1 (utfKind c.toNat).2.2.1 (utfKind c.toNat).2.2.2

theorem utfKind_bd (c : Int) (h0 : 0 ≤ c) (h1 : c ≤ 255) :
    0 ≤ (utfKind c).1 ∧ (utfKind c).1 ≤ 4 ∧ 0 ≤ (utfKind c).2.1 ∧ (utfKind c).2.1 ≤ 127 ∧ 0 ≤ (utfKind c).2.2.1 ∧ (utfKind c).2.2.1 ≤ 255 ∧ 0 ≤ (utfKind c).2.2.2 ∧ (utfKind c).2.2.2 ≤ 255 := by
  unfold utfKind
  (repeat' split) <;> (simp only []; omega)
theorem utfKind_ex (c : Int) : ∃ n bits lo hi, utfKind c = (n, bits, lo, hi) := by
  rcases utfKind c with ⟨n, b, lo, hi⟩
  exact ⟨n, b, lo, hi, rfl⟩

def PBound (j : Nat) (P : Int) : Prop := (j = 1 → P ≤ 127) ∧ (j = 2 → P ≤ 8191) ∧ (j = 3 → P ≤ 524287) ∧ (j = 4 → P ≤ 33554431)
theorem PBound.le {j : Nat} {P : Int} (h : PBound j P) (h1 : 1 ≤ j) (h4 : j ≤ 4) : P ≤ 33554431 := by unfold PBound at h; omega
theorem PBound.step {j : Nat} {P x : Int} (h : PBound j P) (h1 : 1 ≤ j) (_h4 : j < 4) : PBound (j + 1) (P * 64 + x % 64) := by unfold PBound at *; omega
theorem PBound.one {P : Int} (h : P ≤ 127) : PBound 1 P := by unfold PBound; omega

def DecAt (l : List UInt8) (final : Bool) (n : Int) (j : Nat) (P L H : Int) : Prop :=
  (n = 0 → dec l final = (-1, 1, false)) ∧ (n ≠ 0 → (j : Int) ≤ n ∧ decGo final n (n.toNat - j) (l.drop j) P L H = dec l final)
section
variable {l : List UInt8} {final : Bool} {n : Int} {j : Nat} {P L H : Int}
theorem DecAt.start {c lo hi : Int} (h : 0 < l.length) (hc : c = (l[0].toNat : Int)) (hk : utfKind c = (n, P, lo, hi)) (h0 : 0 ≤ n) : DecAt l final n 1 P lo hi := by
  subst hc
  obtain ⟨c, r, rfl⟩ := cons_of h
  simp only [List.getElem_cons_zero] at hk
  refine ⟨fun hn => ?_, fun hn => ⟨by omega, ?_⟩⟩
  · simp [dec, hk, hn]
  · simp [dec, hk, hn]
theorem DecAt.short (h : DecAt l final n j P L H) (hn : (j : Int) < n) (hj : j = l.length) : dec l final = (-1, if final then 1 else 0, !final) := by
  obtain ⟨_, h2⟩ := h.2 (by omega)
  obtain ⟨k, hk⟩ : ∃ k, n.toNat - j = k + 1 := ⟨n.toNat - j - 1, by omega⟩
  rw [← h2, hk, hj, List.drop_length, decGo]
  cases final <;> rfl
theorem DecAt.bad (h : DecAt l final n j P L H) (hn : (j : Int) < n) (hj : j < l.length) (hx : (l[j].toNat : Int) < L ∨ H < (l[j].toNat : Int)) : dec l final = (-1, 1, false) := by
  obtain ⟨_, h2⟩ := h.2 (by omega)
  obtain ⟨k, hk⟩ : ∃ k, n.toNat - j = k + 1 := ⟨n.toNat - j - 1, by omega⟩
  rw [← h2, hk, List.drop_eq_getElem_cons hj, decGo, if_pos hx]
theorem DecAt.good (h : DecAt l final n j P L H) (hn : (j : Int) < n) (hj : j < l.length) (h1 : L ≤ (l[j].toNat : Int)) (h2 : (l[j].toNat : Int) ≤ H) :
    DecAt l final n (j + 1) (P * 64 + (l[j].toNat : Int) % 64) 128 191 := by
  obtain ⟨_, h3⟩ := h.2 (by omega)
  obtain ⟨k, hk⟩ : ∃ k, n.toNat - j = k + 1 := ⟨n.toNat - j - 1, by omega⟩
  refine ⟨fun hn => by omega, fun _ => ⟨by omega, ?_⟩⟩
  rw [hk, List.drop_eq_getElem_cons hj, decGo, if_neg (by omega)] at h3
  rw [show n.toNat - (j + 1) = k from by omega]
  exact h3
theorem DecAt.over (h : DecAt l final n j P L H) (hn : ¬ (j : Int) < n) (h0 : n ≠ 0) : dec l final = (P, n, false) := by
  obtain ⟨h1, h2⟩ := h.2 h0
  rw [← h2, show n.toNat - j = 0 from by omega, decGo]
end

theorem decGo_facts (final : Bool) (N : Int) (k : Nat) : ∀ (l : List UInt8) (P L H : Int), 0 ≤ P →
    ((decGo final N k l P L H).2.2 = true → final = false ∧ (decGo final N k l P L H).2.1 = 0 ∧ (decGo final N k l P L H).1 = -1) ∧
    ((decGo final N k l P L H).2.2 = false → ((decGo final N k l P L H).2.1 = 1 ∧ (decGo final N k l P L H).1 = -1) ∨ ((decGo final N k l P L H).2.1 = N ∧ k ≤ l.length ∧ 0 ≤ (decGo final N k l P L H).1)) := by
  induction k with
  | zero => intro l P L H hP; simp [decGo, hP]
  | succ k ih =>
    intro l P L H hP
    cases l with
    | nil => cases final <;> simp [decGo]
    | cons x r =>
      rw [decGo]
      by_cases hx : (x.toNat : Int) < L ∨ H < (x.toNat : Int)
      · rw [if_pos hx]; simp
      · rw [if_neg hx]
        have := ih r (P * 64 + (x.toNat : Int) % 64) 128 191 (by omega)
        refine ⟨this.1, fun h => ?_⟩
        rcases this.2 h with h1 | ⟨h1, h2, h3⟩
        · exact .inl h1
        · exact .inr ⟨h1, by simp; omega, h3⟩
/-- What is answered of bytes: more are needed, and none is taken; or some are taken, at most four, and no more than there are. -/
theorem dec_facts (l : List UInt8) (final : Bool) (hl : 0 < l.length) :
    ((dec l final).2.2 = true ∧ final = false ∧ (dec l final).2.1 = 0 ∧ (dec l final).1 = -1) ∨
    ((dec l final).2.2 = false ∧ 1 ≤ (dec l final).2.1 ∧ (dec l final).2.1 ≤ l.length ∧ (dec l final).2.1 ≤ 4 ∧ -1 ≤ (dec l final).1) := by
  obtain ⟨c, r, rfl⟩ := cons_of hl
  have hb := utfKind_bd (c.toNat : Int) (u8_ge c) (u8_le c)
  simp only [dec]
  by_cases h0 : (utfKind (c.toNat : Int)).1 = 0
  · rw [if_pos h0]; simp; omega
  · rw [if_neg h0]
    have := decGo_facts final (utfKind (c.toNat : Int)).1 ((utfKind (c.toNat : Int)).1.toNat - 1) r (utfKind (c.toNat : Int)).2.1 (utfKind (c.toNat : Int)).2.2.1 (utfKind (c.toNat : Int)).2.2.2 hb.2.2.1
    generalize decGo final (utfKind (c.toNat : Int)).1 ((utfKind (c.toNat : Int)).1.toNat - 1) r (utfKind (c.toNat : Int)).2.1 (utfKind (c.toNat : Int)).2.2.1 (utfKind (c.toNat : Int)).2.2.2 = q at *
    rcases hq : q.2.2 with _ | _
    · right
      rcases this.2 hq with ⟨h1, h2⟩ | ⟨h1, h2, h3⟩
      · rw [h1, h2]; simp; omega
      · have e : (((c :: r).length : Nat) : Int) = (r.length : Int) + 1 := by simp
        rw [h1, e]
        refine ⟨rfl, ?_, ?_, ?_, ?_⟩ <;> omega
    · left
      obtain ⟨h1, h2, h3⟩ := this.1 hq
      exact ⟨rfl, h1, h2, h3⟩
theorem decGo_le (final : Bool) (N : Int) (k : Nat) : ∀ (l : List UInt8) (P L H : Int), k ≤ 3 → PBound (4 - k) P → (decGo final N k l P L H).1 ≤ 33554431 := by
  induction k with
  | zero => intro l P L H _ hP; exact hP.le (by omega) (by omega)
  | succ k ih =>
    intro l P L H hk hP
    cases l with
    | nil => cases final <;> simp [decGo]
    | cons x r =>
      rw [decGo]
      by_cases hx : (x.toNat : Int) < L ∨ H < (x.toNat : Int)
      · rw [if_pos hx]; simp
      · rw [if_neg hx]
        have := PBound.step (x := (x.toNat : Int)) hP (by omega) (by omega)
        rw [show 4 - (k + 1) + 1 = 4 - k from by omega] at this
        exact ih r _ 128 191 (by omega) this
theorem dec_le (l : List UInt8) (final : Bool) : (dec l final).1 ≤ 33554431 := by
  cases l with
  | nil => simp [dec]
  | cons c r =>
    have hb := utfKind_bd (c.toNat : Int) (u8_ge c) (u8_le c)
    simp only [dec]
    by_cases h0 : (utfKind (c.toNat : Int)).1 = 0
    · rw [if_pos h0]; simp
    · rw [if_neg h0]
      refine decGo_le final _ _ r _ _ _ (by omega) ?_
      have : (utfKind (c.toNat : Int)).2.1 ≤ 127 := by omega
      unfold PBound
      omega
theorem dec_ex (l : List UInt8) (final : Bool) : ∃ p k more, dec l final = (p, k, more) := by
  rcases dec l final with ⟨p, k, more⟩
  exact ⟨p, k, more, rfl⟩

/-- Is a number a code point? Its bytes. -/
def isPoint (p : Int) : Bool := decide (0 ≤ p ∧ p ≤ 1114111 ∧ (p < 55296 ∨ 57343 < p))
def byteOf (n : Int) : UInt8 := UInt8.ofNat n.toNat
theorem byteOf_toNat {n : Int} (h0 : 0 ≤ n) (h1 : n ≤ 255) : ((byteOf n).toNat : Int) = n := by
  unfold byteOf
  rw [UInt8.toNat_ofNat']
  omega
def encOf (p : Int) : List UInt8 :=
  if isPoint p = false then [] else if p < 128 then [byteOf p] else if p < 2048 then [byteOf (192 + p / 64), byteOf (128 + p % 64)]
  else if p < 65536 then [byteOf (224 + p / 4096), byteOf (128 + p / 64 % 64), byteOf (128 + p % 64)]
  else [byteOf (240 + p / 262144), byteOf (128 + p / 4096 % 64), byteOf (128 + p / 64 % 64), byteOf (128 + p % 64)]
theorem encOf_1 {p : Int} (h0 : 0 ≤ p) (h1 : p < 128) : bytesV (encOf p) = [.int .u8 p] := by
  have hp : isPoint p = true := by simp [isPoint]; omega
  simp [encOf, hp, h1, bytesV, byteOf_toNat h0 (by omega)]
theorem encOf_2 {p : Int} (h0 : 128 ≤ p) (h1 : p < 2048) : bytesV (encOf p) = [.int .u8 (192 + p / 64), .int .u8 (128 + p % 64)] := by
  have hp : isPoint p = true := by simp [isPoint]; omega
  simp [encOf, hp, show ¬ p < 128 by omega, h1, bytesV]
  exact ⟨byteOf_toNat (by omega) (by omega), byteOf_toNat (by omega) (by omega)⟩
theorem encOf_3 {p : Int} (h0 : 2048 ≤ p) (h1 : p < 65536) (h2 : p < 55296 ∨ 57343 < p) : bytesV (encOf p) = [.int .u8 (224 + p / 4096), .int .u8 (128 + p / 64 % 64), .int .u8 (128 + p % 64)] := by
  have hp : isPoint p = true := by simp [isPoint]; omega
  simp [encOf, hp, show ¬ p < 128 by omega, show ¬ p < 2048 by omega, h1, bytesV]
  exact ⟨byteOf_toNat (by omega) (by omega), byteOf_toNat (by omega) (by omega), byteOf_toNat (by omega) (by omega)⟩
theorem encOf_4 {p : Int} (h0 : 65536 ≤ p) (h1 : p ≤ 1114111) : bytesV (encOf p) = [.int .u8 (240 + p / 262144), .int .u8 (128 + p / 4096 % 64), .int .u8 (128 + p / 64 % 64), .int .u8 (128 + p % 64)] := by
  have hp : isPoint p = true := by simp [isPoint]; omega
  simp [encOf, hp, show ¬ p < 128 by omega, show ¬ p < 2048 by omega, show ¬ p < 65536 by omega, bytesV]
  exact ⟨byteOf_toNat (by omega) (by omega), byteOf_toNat (by omega) (by omega), byteOf_toNat (by omega) (by omega), byteOf_toNat (by omega) (by omega)⟩
theorem encOf_no {p : Int} (h : isPoint p = false) : encOf p = [] := by simp [encOf, h]
theorem isPoint_iff {p : Int} : isPoint p = true ↔ 0 ≤ p ∧ p ≤ 1114111 ∧ (p < 55296 ∨ 57343 < p) := by simp [isPoint]
theorem isPoint_no {p : Int} : isPoint p = false ↔ p < 0 ∨ 1114111 < p ∨ (55296 ≤ p ∧ p ≤ 57343) := by
  rw [← Bool.not_eq_true, isPoint_iff]; omega

/-- The reference: how many bytes a code point that begins with a byte would have; the number that so many first bytes tell. -/
def rLong (c : Int) : Int := if c < 128 then 1 else if 192 ≤ c ∧ c < 224 then 2 else if 224 ≤ c ∧ c < 240 then 3 else if 240 ≤ c ∧ c < 248 then 4 else 0
def rbGo : Nat → List UInt8 → Int → Int
  | 0, _, p => p
  | _ + 1, [], p => p
  | k + 1, x :: r, p => if 128 ≤ (x.toNat : Int) ∧ (x.toNat : Int) ≤ 191 then rbGo k r (64 * p + (x.toNat : Int) - 128) else -1
def rBase (n : Int) : Int := if n = 4 then 240 else if n = 3 then 224 else 192
def rBits (l : List UInt8) (n : Nat) : Int :=
  match l with
  | [] => 0
  | c :: r => if n = 1 then (c.toNat : Int) else rbGo (n - 1) r ((c.toNat : Int) - rBase n)
/-- What stands at a round's head of bits' loop. -/
def RbAt (l : List UInt8) (n : Nat) (i : Nat) (p : Int) : Prop := i ≤ n ∧ rbGo (n - i) (l.drop i) p = rBits l n
section
variable {l : List UInt8} {n i : Nat} {p : Int}
theorem RbAt.start {c : Int} (hl : 0 < l.length) (hc : c = (l[0].toNat : Int)) (hn : 2 ≤ n) (hp : p = c - rBase n) : RbAt l n 1 p := by
  subst hc hp
  obtain ⟨c, r, rfl⟩ := cons_of hl
  refine ⟨by omega, ?_⟩
  simp only [rBits, List.getElem_cons_zero, List.drop_succ_cons, List.drop_zero]
  rw [if_neg (by omega)]
theorem RbAt.bad (h : RbAt l n i p) (hn : i < n) (hl : i < l.length) (hx : (l[i].toNat : Int) < 128 ∨ 191 < (l[i].toNat : Int)) : rBits l n = -1 := by
  obtain ⟨k, hk⟩ : ∃ k, n - i = k + 1 := ⟨n - i - 1, by omega⟩
  rw [← h.2, hk, List.drop_eq_getElem_cons hl, rbGo, if_neg (by omega)]
theorem RbAt.good (h : RbAt l n i p) (hn : i < n) (hl : i < l.length) (h1 : 128 ≤ (l[i].toNat : Int)) (h2 : (l[i].toNat : Int) ≤ 191) : RbAt l n (i + 1) (64 * p + (l[i].toNat : Int) - 128) := by
  obtain ⟨k, hk⟩ : ∃ k, n - i = k + 1 := ⟨n - i - 1, by omega⟩
  have h3 := h.2
  rw [hk, List.drop_eq_getElem_cons hl, rbGo, if_pos (by omega)] at h3
  exact ⟨by omega, by rw [show n - (i + 1) = k from by omega]; exact h3⟩
theorem RbAt.over (h : RbAt l n i p) (hn : ¬ i < n) : rBits l n = p := by
  have := h.1
  rw [← h.2, show n - i = 0 from by omega]; simp [rbGo]
end

def RBd (j : Nat) (P : Int) : Prop := (j = 1 → -240 ≤ P ∧ P ≤ 255) ∧ (j = 2 → -15360 ≤ P ∧ P ≤ 16383) ∧ (j = 3 → -983040 ≤ P ∧ P ≤ 1048575) ∧ (j = 4 → -62914560 ≤ P ∧ P ≤ 67108863)
theorem RBd.le {j : Nat} {P : Int} (h : RBd j P) (h1 : 1 ≤ j) (h4 : j ≤ 4) : -62914560 ≤ P ∧ P ≤ 67108863 := by unfold RBd at h; omega
theorem RBd.step {j : Nat} {P x : Int} (h : RBd j P) (h1 : 1 ≤ j) (_h4 : j < 4) (h2 : 128 ≤ x) (h3 : x ≤ 191) : RBd (j + 1) (64 * P + x - 128) := by unfold RBd at *; omega
theorem RBd.one {P : Int} (h : -240 ≤ P) (h' : P ≤ 255) : RBd 1 P := by unfold RBd; omega
theorem rbGo_bd (k : Nat) : ∀ (l : List UInt8) (P : Int), k ≤ 3 → RBd (4 - k) P → -62914560 ≤ rbGo k l P ∧ rbGo k l P ≤ 67108863 := by
  induction k with
  | zero => intro l P _ hP; simp only [rbGo]; exact hP.le (by omega) (by omega)
  | succ k ih =>
    intro l P hk hP
    cases l with
    | nil => simp only [rbGo]; exact hP.le (by omega) (by omega)
    | cons x r =>
      rw [rbGo]
      by_cases hx : 128 ≤ (x.toNat : Int) ∧ (x.toNat : Int) ≤ 191
      · rw [if_pos hx]
        have := RBd.step (x := (x.toNat : Int)) hP (by omega) (by omega) hx.1 hx.2
        rw [show 4 - (k + 1) + 1 = 4 - k from by omega] at this
        exact ih r _ (by omega) this
      · rw [if_neg hx]; omega
theorem rBits_bd (l : List UInt8) (n : Nat) (hn : n ≤ 4) : -62914560 ≤ rBits l n ∧ rBits l n ≤ 67108863 := by
  cases l with
  | nil => simp [rBits]
  | cons c r =>
    have h0 := u8_ge c
    have h1 := u8_le c
    simp only [rBits]
    split
    · omega
    · refine rbGo_bd _ r _ (by omega) ?_
      unfold RBd rBase
      (repeat' split) <;> omega

/-- The reference: the code point of so many first bytes; may bytes be made one? -/
def wholeOf (l : List UInt8) (n : Nat) : Int := if isPoint (rBits l n) = true ∧ encOf (rBits l n) = l.take n then rBits l n else -1
def mightLeast (n : Nat) : Int := if n = 4 then 65536 else if n = 3 then 2048 else 128
def mightOf (l : List UInt8) (n : Nat) : Bool :=
  let a := rBits (l ++ List.replicate (n - l.length) 128) n
  let b := rBits (l ++ List.replicate (n - l.length) 191) n
  decide (0 ≤ a ∧ 0 ≤ b ∧ max a (mightLeast n) ≤ min b 1114111 ∧ ¬ (55296 ≤ max a (mightLeast n) ∧ min b 1114111 ≤ 57343))
/-- The reference's answer. -/
def rDec (l : List UInt8) (final : Bool) : Int × Int × Bool :=
  match l with
  | [] => (-1, 0, true)
  | c :: r =>
    if 0 < rLong c.toNat ∧ rLong c.toNat ≤ ((c :: r).length : Int) then
      (if 0 ≤ wholeOf (c :: r) (rLong c.toNat).toNat then (wholeOf (c :: r) (rLong c.toNat).toNat, rLong c.toNat, false) else (-1, 1, false))
    else if 0 < rLong c.toNat ∧ final = false ∧ mightOf (c :: r) (rLong c.toNat).toNat = true then (-1, 0, true) else (-1, 1, false)

/-- How many bytes at the end need more. -/
def restFuel : Nat → List UInt8 → Nat
  | 0, _ => 0
  | _ + 1, [] => 0
  | f + 1, x :: l => if (dec (x :: l) false).2.2 then (x :: l).length else restFuel f ((x :: l).drop (dec (x :: l) false).2.1.toNat)
def restOf (l : List UInt8) : Nat := restFuel l.length l
/-- The code points of all bytes. -/
def pointsFuel : Nat → List UInt8 → List Int
  | 0, _ => []
  | _ + 1, [] => []
  | f + 1, x :: l => (dec (x :: l) true).1 :: pointsFuel f ((x :: l).drop (dec (x :: l) true).2.1.toNat)
def pointsOf (l : List UInt8) : List Int := pointsFuel l.length l
theorem dec_step {l : List UInt8} {final : Bool} {p k : Int} {more : Bool} (hl : 0 < l.length) (h : dec l final = (p, k, more)) :
    (more = true ∧ final = false ∧ k = 0 ∧ p = -1) ∨ (more = false ∧ 1 ≤ k ∧ k ≤ l.length ∧ k ≤ 4 ∧ -1 ≤ p) := by
  have := dec_facts l final hl
  rw [h] at this
  exact this
theorem restFuel_eq : ∀ (f g : Nat) (l : List UInt8), l.length ≤ f → l.length ≤ g → restFuel f l = restFuel g l := by
  intro f
  induction f with
  | zero =>
    intro g l h _
    obtain rfl : l = [] := List.eq_nil_of_length_eq_zero (by omega)
    cases g <;> simp [restFuel]
  | succ f ih =>
    intro g l h hg
    cases l with
    | nil => cases g <;> simp [restFuel]
    | cons x r =>
      obtain ⟨g, rfl⟩ : ∃ g', g = g' + 1 := ⟨g - 1, by simp only [List.length_cons] at hg; omega⟩
      have hs := dec_facts (x :: r) false (by simp)
      simp only [restFuel]
      rcases hs with ⟨h1, _⟩ | ⟨h1, h2, h3, _⟩
      · rw [if_pos h1, if_pos h1]
      · rw [h1]
        simp only [Bool.false_eq_true, if_false]
        have hl : ((x :: r).drop (dec (x :: r) false).2.1.toNat).length ≤ r.length := by rw [List.length_drop, List.length_cons]; omega
        simp only [List.length_cons] at h hg
        exact ih g _ (by omega) (by omega)
theorem restOf_nil : restOf [] = 0 := by simp [restOf, restFuel]
theorem restOf_more {l : List UInt8} {p k : Int} (hl : 0 < l.length) (h : dec l false = (p, k, true)) : restOf l = l.length := by
  obtain ⟨x, r, rfl⟩ := cons_of hl
  simp [restOf, restFuel, h]
theorem restOf_step {l : List UInt8} {p k : Int} (hl : 0 < l.length) (h : dec l false = (p, k, false)) : restOf l = restOf (l.drop k.toNat) := by
  have hs := dec_step hl h
  obtain ⟨x, r, rfl⟩ := cons_of hl
  simp only [restOf, List.length_cons, restFuel, h, Bool.false_eq_true, if_false]
  have hk : ((x :: r).drop k.toNat).length ≤ r.length := by rw [List.length_drop, List.length_cons]; simp at hs; omega
  exact restFuel_eq _ _ _ hk (Nat.le_refl _)
theorem pointsFuel_eq : ∀ (f g : Nat) (l : List UInt8), l.length ≤ f → l.length ≤ g → pointsFuel f l = pointsFuel g l := by
  intro f
  induction f with
  | zero =>
    intro g l h _
    obtain rfl : l = [] := List.eq_nil_of_length_eq_zero (by omega)
    cases g <;> simp [pointsFuel]
  | succ f ih =>
    intro g l h hg
    cases l with
    | nil => cases g <;> simp [pointsFuel]
    | cons x r =>
      obtain ⟨g, rfl⟩ : ∃ g', g = g' + 1 := ⟨g - 1, by simp only [List.length_cons] at hg; omega⟩
      have hs := dec_facts (x :: r) true (by simp)
      simp only [pointsFuel]
      rcases hs with ⟨_, h2, _⟩ | ⟨h1, h2, h3, _⟩
      · cases h2
      · have hl : ((x :: r).drop (dec (x :: r) true).2.1.toNat).length ≤ r.length := by rw [List.length_drop, List.length_cons]; omega
        simp only [List.length_cons] at h hg
        rw [ih g _ (by omega) (by omega)]
theorem pointsOf_nil : pointsOf [] = [] := by simp [pointsOf, pointsFuel]
theorem pointsOf_step {l : List UInt8} {p k : Int} {more : Bool} (hl : 0 < l.length) (h : dec l true = (p, k, more)) : pointsOf l = p :: pointsOf (l.drop k.toNat) := by
  have hs := dec_step hl h
  obtain ⟨x, r, rfl⟩ := cons_of hl
  simp only [pointsOf, List.length_cons, pointsFuel, h]
  have hk : ((x :: r).drop k.toNat).length ≤ r.length := by
    rcases hs with ⟨_, h2, _⟩ | hs
    · cases h2
    · rw [List.length_drop, List.length_cons]; omega
  exact congrArg _ (pointsFuel_eq _ _ _ hk (Nat.le_refl _))
end Go.Proofs.YtefhifmilmedhaaDoor
