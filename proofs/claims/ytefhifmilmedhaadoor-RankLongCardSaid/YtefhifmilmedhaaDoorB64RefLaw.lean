/- The plain law of base64's reference: what it reads is what the reader reads; what it writes bit by bit is the text. -/
import Derived.Test.YtefhifmilmedhaaDoorB64Law
namespace Go.Proofs.YtefhifmilmedhaaDoor
set_option linter.unusedSimpArgs false
set_option linter.unusedVariables false

/-- How many signs of a text the reader takes. -/
def took : Rd → List UInt8 → Nat
  | _, [] => 0
  | q, c :: r => match q.step c with | none => 0 | some q' => took q' r + 1
theorem took_none {q : Rd} {c : UInt8} {r : List UInt8} (h : q.step c = none) : took q (c :: r) = 0 := by simp [took, h]
theorem took_some {q q' : Rd} {c : UInt8} {r : List UInt8} (h : q.step c = some q') : took q (c :: r) = took q' r + 1 := by simp [took, h]
theorem took_take : ∀ (s : List UInt8) (q : Rd) (m : Nat), took q (s.take m) = min m (took q s)
  | [], q, m => by simp [took]
  | c :: r, q, 0 => by simp [took]
  | c :: r, q, m + 1 => by
    rw [List.take_succ_cons]
    rcases hs : q.step c with _ | q'
    · rw [took_none hs, took_none hs]; omega
    · rw [took_some hs, took_some hs, took_take r q' m]; omega
theorem took_le : ∀ (s : List UInt8) (q : Rd), took q s ≤ s.length
  | [], q => by simp [took]
  | c :: r, q => by
    rcases hs : q.step c with _ | q'
    · rw [took_none hs]; omega
    · rw [took_some hs]; have := took_le r q'; simp only [List.length_cons]; omega
theorem took_run : ∀ (s : List UInt8) (q : Rd) (i : Nat), ((runAt i q s).2.2 = true → took q s = s.length) ∧ ((runAt i q s).2.2 = false → (runAt i q s).2.1 = i + took q s)
  | [], q, i => by
    rw [run_nil]
    by_cases h : 0 < q.n
    · rw [if_pos h]; simp [took]
    · rw [if_neg h]; simp [took]
  | c :: r, q, i => by
    rcases hs : q.step c with _ | q'
    · rw [run_none hs, took_none hs]; simp
    · rw [run_some hs, took_some hs]
      have := took_run r q' (i + 1)
      simp only [List.length_cons]
      exact ⟨fun h => by rw [this.1 h], fun h => by rw [this.2 h]; omega⟩
/-- The place up to which a text begins one. -/
def plc (s : List UInt8) : Nat := took Rd.start s
theorem plc_yes {s : List UInt8} (h : (dec64 s).2.2 = true) : plc s = s.length := by
  have := (took_run s Rd.start 0).1; rw [run_start] at this; exact this h
theorem plc_no {s : List UInt8} (h : (dec64 s).2.2 = false) : (dec64 s).2.1 = plc s := by
  have := (took_run s Rd.start 0).2; rw [run_start] at this; rw [this h]; unfold plc; omega
theorem plc_take (s : List UInt8) (m : Nat) : plc (s.take m) = min m (plc s) := took_take s _ m
theorem plc_le (s : List UInt8) : plc s ≤ s.length := took_le s _

theorem rSigns4 {a b c d : UInt8} : rSigns [a, b, c, d] = true ↔ (0 ≤ val a ∧ 0 ≤ val b ∧ 0 ≤ val c ∧ 0 ≤ val d) := by simp [rSigns]
theorem pad_neg : val 61 < 0 := by decide
theorem begins_iff : ∀ (m : Nat) (t : List UInt8), t.length ≤ m → (rBegins t = true ↔ ((dec64 t).2.2 = true ∨ (dec64 t).2.1 = t.length)) := by
  intro m
  induction m with
  | zero =>
    intro s h
    obtain rfl : s = [] := List.eq_nil_of_length_eq_zero (by omega)
    simp [dec64_0, rBegins]
  | succ m ih =>
    intro s h
    match s, h with
    | [], _ => simp [dec64_0, rBegins]
    | [a], _ =>
      rw [dec64_1]
      by_cases ha : val a < 0
      · simp [rBegins, rLast, rSigns, ha, show ¬ 0 ≤ val a from by omega]
      · simp [rBegins, rLast, rSigns, ha]; omega
    | [a, b], _ =>
      rw [dec64_2]
      by_cases ha : val a < 0
      · simp [rBegins, rLast, rSigns, ha, show ¬ 0 ≤ val a from by omega]
      by_cases hb : val b < 0
      · simp [rBegins, rLast, rSigns, ha, hb, show ¬ 0 ≤ val b from by omega]
      · simp [rBegins, rLast, rSigns, ha, hb]; omega
    | [a, b, c], _ =>
      rw [dec64_3]
      by_cases ha : val a < 0
      · simp [rBegins, rLast, rSigns, ha, show ¬ 0 ≤ val a from by omega]
      have ha' : 0 ≤ val a := by omega
      by_cases hb : val b < 0
      · simp [rBegins, rLast, rSigns, ha, hb, show ¬ 0 ≤ val b from by omega]
      have hb' : 0 ≤ val b := by omega
      by_cases hc : c = 61
      · subst hc
        by_cases hz : val b % 16 = 0
        · simp [rBegins, rLast, rSigns, ha, hb, ha', hb', hz, pad_neg, show ¬ 0 ≤ val 61 from by decide]
        · simp [rBegins, rLast, rSigns, ha, hb, ha', hb', hz, pad_neg, show ¬ 0 ≤ val 61 from by decide]
      by_cases hv : val c < 0
      · simp [rBegins, rLast, rSigns, ha, hb, ha', hb', hc, hv, show ¬ 0 ≤ val c from by omega]
      · have hv' : 0 ≤ val c := by omega
        simp [rBegins, rLast, rSigns, ha, hb, ha', hb', hc, hv, hv']
    | [a, b, c, d], _ =>
      rw [dec64_4, dec64_0]
      by_cases ha : val a < 0
      · simp [rBegins, rLast, rSigns, ha, show ¬ 0 ≤ val a from by omega]
      have ha' : 0 ≤ val a := by omega
      by_cases hb : val b < 0
      · simp [rBegins, rLast, rSigns, ha, hb, show ¬ 0 ≤ val b from by omega]
      have hb' : 0 ≤ val b := by omega
      by_cases hc : c = 61
      · subst hc
        by_cases hz : val b % 16 = 0
        · by_cases hd : d = 61
          · subst hd; simp [rBegins, rLast, rSigns, ha, hb, ha', hb', hz, pad_neg, show ¬ 0 ≤ val 61 from by decide]
          · simp [rBegins, rLast, rSigns, ha, hb, ha', hb', hz, hd, pad_neg, show ¬ 0 ≤ val 61 from by decide]
        · simp [rBegins, rLast, rSigns, ha, hb, ha', hb', hz, pad_neg, show ¬ 0 ≤ val 61 from by decide]
      by_cases hv : val c < 0
      · simp [rBegins, rLast, rSigns, ha, hb, ha', hb', hc, hv, show ¬ 0 ≤ val c from by omega]
      have hv' : 0 ≤ val c := by omega
      by_cases hd : d = 61
      · subst hd
        by_cases hz : val c % 4 = 0
        · simp [rBegins, rLast, rSigns, ha, hb, ha', hb', hc, hv, hv', hz, pad_neg, show ¬ 0 ≤ val 61 from by decide]
        · simp [rBegins, rLast, rSigns, ha, hb, ha', hb', hc, hv, hv', hz, pad_neg, show ¬ 0 ≤ val 61 from by decide]
      by_cases hw : val d < 0
      · simp [rBegins, rLast, rSigns, ha, hb, ha', hb', hc, hv, hv', hd, hw, show ¬ 0 ≤ val d from by omega]
      · have hw' : 0 ≤ val d := by omega
        simp [rBegins, rLast, rSigns, ha, hb, ha', hb', hc, hv, hv', hd, hw, hw']
    | a :: b :: c :: d :: e :: r, h =>
      have := ih (e :: r) (by simp only [List.length_cons] at h ⊢; omega)
      have hl : (dec64 (e :: r)).2.1 ≤ (e :: r).length := by
        rcases hk : (dec64 (e :: r)).2.2 with _ | _
        · exact ((dec64_facts _ (e :: r) (Nat.le_refl _)).2 hk).2
        · rw [((dec64_facts _ (e :: r) (Nat.le_refl _)).1 hk).1]; omega
      rw [dec64_4]
      generalize dec64 (e :: r) = x at *
      by_cases ha : val a < 0
      · simp [rBegins, rSigns, ha, show ¬ 0 ≤ val a from by omega]
      by_cases hb : val b < 0
      · simp [rBegins, rSigns, ha, hb, show ¬ 0 ≤ val b from by omega]
      by_cases hc : c = 61
      · subst hc
        have hs : rSigns [a, b, 61, d] = false := by simp [rSigns, show ¬ 0 ≤ val 61 from by decide]
        rw [show rBegins (a :: b :: 61 :: d :: e :: r) = false from by simp [rBegins, hs]]
        simp only [List.length_cons]
        refine ⟨(fun h => by cases h), fun h => ?_⟩
        exfalso
        (repeat' split at h) <;> simp at h <;> first | omega | contradiction
      by_cases hv : val c < 0
      · simp [rBegins, rSigns, ha, hb, hc, hv, show ¬ 0 ≤ val c from by omega]
      by_cases hd : d = 61
      · subst hd
        have hs : rSigns [a, b, c, 61] = false := by simp [rSigns, show ¬ 0 ≤ val 61 from by decide]
        rw [show rBegins (a :: b :: c :: 61 :: e :: r) = false from by simp [rBegins, hs]]
        simp only [List.length_cons]
        refine ⟨(fun h => by cases h), fun h => ?_⟩
        exfalso
        (repeat' split at h) <;> simp at h <;> first | omega | contradiction
      by_cases hw : val d < 0
      · simp [rBegins, rSigns, ha, hb, hc, hv, hd, hw, show ¬ 0 ≤ val d from by omega]
      · have hs : rSigns [a, b, c, d] = true := rSigns4.2 ⟨by omega, by omega, by omega, by omega⟩
        rw [show rBegins (a :: b :: c :: d :: e :: r) = rBegins (e :: r) from by simp [rBegins, hs], this, if_neg ha, if_neg hb, if_neg hc, if_neg hv, if_neg hd, if_neg hw]
        by_cases hx : x.2.2 = true
        · simp [hx]
        · simp [hx]
theorem begins_plc {t : List UInt8} (h : t ≠ []) : rBegins t = decide (plc t = t.length) := by
  have h1 := begins_iff _ t (Nat.le_refl _)
  rw [Bool.eq_iff_iff, h1, decide_eq_true_iff]
  rcases hk : (dec64 t).2.2 with _ | _
  · rw [plc_no hk]; simp
  · rw [plc_yes hk]; simp
theorem place_plc (s : List UInt8) : ∀ (f n : Nat), n ≤ plc s → s.length ≤ n + f → rPlace s f n = plc s
  | 0, n, h, hf => by have := plc_le s; unfold rPlace; omega
  | f + 1, n, h, hf => by
    have hle := plc_le s
    unfold rPlace
    by_cases hn : n < s.length
    · rw [if_pos hn]
      have hne : s.take (n + 1) ≠ [] := by intro h0; have := congrArg List.length h0; rw [List.length_take] at this; simp only [List.length_nil] at this; omega
      rw [begins_plc hne, plc_take, List.length_take]
      by_cases hp : n + 1 ≤ plc s
      · rw [if_pos (by rw [decide_eq_true_iff]; omega)]
        exact place_plc s f (n + 1) hp (by omega)
      · rw [if_neg (by rw [decide_eq_true_iff]; omega)]; omega
    · rw [if_neg hn]; omega
theorem place_eq (s : List UInt8) : rPlace s s.length 0 = plc s := place_plc s _ _ (Nat.zero_le _) (by omega)

theorem no_four : ∀ (m : Nat) (s : List UInt8), s.length ≤ m → (dec64 s).2.2 = false → (dec64 s).2.1 = s.length → s.length % 4 ≠ 0 := by
  intro m
  induction m with
  | zero =>
    intro s h hd
    obtain rfl : s = [] := List.eq_nil_of_length_eq_zero (by omega)
    rw [dec64_0] at hd; simp at hd
  | succ m ih =>
    intro s h hd hn
    match s, h, hd, hn with
    | [], _, hd, _ => rw [dec64_0] at hd; simp at hd
    | [a], _, _, _ => simp
    | [a, b], _, _, _ => simp
    | [a, b, c], _, _, _ => simp
    | a :: b :: c :: d :: r, h, hd, hn =>
      have := ih r (by simp only [List.length_cons] at h; omega)
      rw [dec64_4] at hd hn
      simp only [List.length_cons] at hn ⊢
      generalize dec64 r = x at *
      rcases Nat.eq_zero_or_pos r.length with h0 | h0
      · (repeat' split at hd) <;> simp_all <;> omega
      · (repeat' split at hd) <;> simp_all <;> omega

theorem u8_mod {a b : Nat} (h : a % 256 = b % 256) : UInt8.ofNat a = UInt8.ofNat b := by
  apply UInt8.toNat_inj.1; rw [UInt8.toNat_ofNat', UInt8.toNat_ofNat']; exact h
theorem val_nat {a : UInt8} (ha : 0 ≤ val a) : (val a).toNat < 64 := by have := val_range a; omega
theorem val_ne {a : UInt8} (ha : 0 ≤ val a) : a ≠ 61 := by intro h; subst h; exact absurd pad_neg (by omega)
theorem out_two {a b : UInt8} {r : List UInt8} (ha : 0 ≤ val a) (hb : 0 ≤ val b) (B : Nat) :
    ∃ B', B' % 4096 = (val a).toNat * 64 + (val b).toNat ∧ rOut (a :: b :: r) B 0 = UInt8.ofNat ((val a).toNat * 4 + (val b).toNat / 16) :: rOut r B' 4 := by
  have na := val_ne ha
  have nb := val_ne hb
  have ra := val_nat ha
  have rb := val_nat hb
  refine ⟨((B * 64 + (val a).toNat) % 65536 * 64 + (val b).toNat) % 65536, by omega, ?_⟩
  simp only [rOut, na, nb, if_false, show ¬ 8 ≤ 0 + 6 from by omega, show 8 ≤ 0 + 6 + 6 from by omega, if_true]
  exact List.cons_eq_cons.2 ⟨u8_mod (by show _ / 16 % 256 = _; omega), rfl⟩
theorem out_one {c : UInt8} {r : List UInt8} (hc : 0 ≤ val c) (B y : Nat) (hB : B % 64 = y) :
    ∃ B', B' % 4096 = y * 64 + (val c).toNat ∧ rOut (c :: r) B 4 = UInt8.ofNat (y % 16 * 16 + (val c).toNat / 4) :: rOut r B' 2 := by
  have nc := val_ne hc
  have rc := val_nat hc
  refine ⟨(B * 64 + (val c).toNat) % 65536, by omega, ?_⟩
  simp only [rOut, nc, if_false, show 8 ≤ 4 + 6 from by omega, if_true]
  exact List.cons_eq_cons.2 ⟨u8_mod (by show _ / 4 % 256 = _; omega), rfl⟩
theorem out_last {d : UInt8} {r : List UInt8} (hd : 0 ≤ val d) (B z : Nat) (hB : B % 64 = z) :
    ∃ B', rOut (d :: r) B 2 = UInt8.ofNat (z % 4 * 64 + (val d).toNat) :: rOut r B' 0 := by
  have nd := val_ne hd
  have rd := val_nat hd
  refine ⟨(B * 64 + (val d).toNat) % 65536, ?_⟩
  simp only [rOut, nd, if_false, show 8 ≤ 2 + 6 from by omega, if_true]
  exact List.cons_eq_cons.2 ⟨u8_mod (by show _ / 1 % 256 = _; omega), rfl⟩
theorem out_pad {r : List UInt8} (B m : Nat) : rOut (61 :: r) B m = [] := by simp [rOut]
theorem out_eq : ∀ (m : Nat) (s b : List UInt8), s.length ≤ m → dec64 s = (b, 0, true) → ∀ B, rOut s B 0 = b := by
  intro m
  induction m with
  | zero =>
    intro s b h hd B
    obtain rfl : s = [] := List.eq_nil_of_length_eq_zero (by omega)
    rw [dec64_0] at hd
    have hd2 := (Prod.mk.inj hd).1
    rw [← hd2]; simp [rOut]
  | succ m ih =>
    intro s b h hd B
    match s, h, hd with
    | [], _, hd => rw [dec64_0] at hd; have hd2 := (Prod.mk.inj hd).1; rw [← hd2]; simp [rOut]
    | [a], _, hd => rw [dec64_1] at hd; (repeat' split at hd) <;> simp at hd
    | [a, b], _, hd => rw [dec64_2] at hd; (repeat' split at hd) <;> simp at hd
    | [a, b, c], _, hd => rw [dec64_3] at hd; (repeat' split at hd) <;> simp at hd
    | a :: b' :: c :: d :: r, h, hd =>
      rw [dec64_4] at hd
      by_cases ha : val a < 0
      · rw [if_pos ha] at hd; simp at hd
      rw [if_neg ha] at hd
      by_cases hb : val b' < 0
      · rw [if_pos hb] at hd; simp at hd
      rw [if_neg hb] at hd
      have ha' : 0 ≤ val a := by omega
      have hb' : 0 ≤ val b' := by omega
      obtain ⟨B1, hB1, h1⟩ := out_two (r := c :: d :: r) ha' hb' B
      rw [h1]
      have ra := val_nat ha'
      have rb := val_nat hb'
      by_cases hc : c = 61
      · subst hc
        rw [out_pad]
        rw [if_pos rfl] at hd
        (repeat' split at hd) <;> simp at hd
        rw [← hd]; simp [group]
      rw [if_neg hc] at hd
      by_cases hv : val c < 0
      · rw [if_pos hv] at hd; simp at hd
      rw [if_neg hv] at hd
      have hc' : 0 ≤ val c := by omega
      obtain ⟨B2, hB2, h2⟩ := out_one (r := d :: r) hc' B1 (val b').toNat (by omega)
      rw [h2]
      have rc := val_nat hc'
      by_cases hdd : d = 61
      · subst hdd
        rw [out_pad]
        rw [if_pos rfl] at hd
        (repeat' split at hd) <;> simp at hd
        rw [← hd]; simp [group]
      rw [if_neg hdd] at hd
      by_cases hw : val d < 0
      · rw [if_pos hw] at hd; simp at hd
      rw [if_neg hw] at hd
      have hd' : 0 ≤ val d := by omega
      obtain ⟨B3, h3⟩ := out_last (r := r) hd' B2 (val c).toNat (by omega)
      rw [h3]
      rcases hk : dec64 r with ⟨b2, n2, _ | _⟩
      · rw [hk] at hd; simp at hd
      · rw [hk] at hd
        obtain ⟨rfl, _⟩ := dec64_yes hk
        rw [ih r b2 (by simp only [List.length_cons] at h; omega) hk B3]
        exact (Prod.mk.inj hd).1
/-- The reference reads as the program does. -/
theorem rDec_eq (s : List UInt8) : rDec64 s = dec64 s := by
  unfold rDec64
  rw [place_eq]
  have hle := plc_le s
  rcases hk : dec64 s with ⟨b, n, _ | _⟩
  · obtain ⟨rfl, hn⟩ := dec64_no hk
    have hp := plc_no (s := s) (by rw [hk])
    rw [hk] at hp
    simp only at hp
    subst hp
    rw [if_pos]
    by_cases hlt : plc s < s.length
    · exact Or.inl hlt
    · exact Or.inr (no_four _ s (Nat.le_refl _) (by rw [hk]) (by rw [hk]; simp only; omega))
  · obtain ⟨rfl, h4⟩ := dec64_yes hk
    have hp := plc_yes (s := s) (by rw [hk])
    rw [if_neg (by omega), out_eq _ s b (Nat.le_refl _) hk]

/-! The reference's text, bit by bit. -/
/-- What six bits of bytes tell, from the bit 6k behind a place on; whether any of them is there. -/
def rSix (s : List UInt8) (a k : Nat) : Nat → Nat × Bool
  | 0 => (0, false)
  | i + 1 => if a + (6 * k + i) / 8 < s.length then ((rSix s a k i).1 * 2 + (s.getD (a + (6 * k + i) / 8) 0).toNat / 2 ^ (7 - (6 * k + i) % 8) % 2, true) else ((rSix s a k i).1 * 2, (rSix s a k i).2)
def rChar (s : List UInt8) (a k : Nat) : UInt8 := if (rSix s a k 6).2 then sgn (rSix s a k 6).1 else 61
theorem rSix_lt (s : List UInt8) (a k : Nat) : ∀ i, (rSix s a k i).1 < 2 ^ i
  | 0 => by simp [rSix]
  | i + 1 => by
    have := rSix_lt s a k i
    unfold rSix
    rw [Nat.pow_succ]
    split <;> simp only <;> omega
theorem enc_rest {s : List UInt8} {a : Nat} (h : a < s.length) : enc64 (s.drop a) = [rChar s a 0, rChar s a 1, rChar s a 2, rChar s a 3] ++ enc64 (s.drop (a + 3)) := by
  obtain ⟨t, ht⟩ : ∃ t, s.drop a = t := ⟨_, rfl⟩
  have hl : t.length = s.length - a := by rw [← ht, List.length_drop]
  have hg : ∀ j, s.getD (a + j) 0 = t.getD j 0 := fun j => by rw [← ht, List.getD_eq_getElem?_getD, List.getD_eq_getElem?_getD, List.getElem?_drop]
  have hlt : ∀ j, (a + j < s.length) = (j < t.length) := fun j => by rw [hl]; apply propext; omega
  rw [← List.drop_drop, ht]
  have e : ∀ k, rChar s a k = rChar t 0 k := by
    intro k
    have : ∀ i, rSix s a k i = rSix t 0 k i := by
      intro i
      induction i with
      | zero => rfl
      | succ i ih => unfold rSix; simp only [ih, hg, hlt, Nat.zero_add]
    unfold rChar; rw [this]
  rw [e, e, e, e]
  have ht0 : 0 < t.length := by omega
  clear e hlt hg hl ht h
  rcases t with _ | ⟨x, t⟩
  · simp at ht0
  have hx := x.toNat_lt
  rcases t with _ | ⟨y, t⟩
  · simp only [enc64, List.drop_succ_cons, List.drop_nil, List.append_nil]
    have c0 : rChar [x] 0 0 = sgn (x.toNat / 4) := by
      unfold rChar; simp [rSix]; congr 1; omega
    have c1 : rChar [x] 0 1 = sgn (x.toNat % 4 * 16) := by
      unfold rChar; simp [rSix]; congr 1; omega
    have c2 : rChar [x] 0 2 = 61 := by unfold rChar; simp [rSix]
    have c3 : rChar [x] 0 3 = 61 := by unfold rChar; simp [rSix]
    rw [c0, c1, c2, c3]
  have hy := y.toNat_lt
  rcases t with _ | ⟨z, t⟩
  · simp only [enc64, List.drop_succ_cons, List.drop_nil, List.append_nil]
    have c0 : rChar [x, y] 0 0 = sgn (x.toNat / 4) := by
      unfold rChar; simp [rSix]; congr 1; omega
    have c1 : rChar [x, y] 0 1 = sgn (x.toNat % 4 * 16 + y.toNat / 16) := by
      unfold rChar; simp [rSix]; congr 1; omega
    have c2 : rChar [x, y] 0 2 = sgn (y.toNat % 16 * 4) := by unfold rChar; simp [rSix]; congr 1; omega
    have c3 : rChar [x, y] 0 3 = 61 := by unfold rChar; simp [rSix]
    rw [c0, c1, c2, c3]
  have hz := z.toNat_lt
  · simp only [enc64, List.drop_succ_cons, List.drop_zero, List.cons_append, List.nil_append]
    have c0 : rChar (x :: y :: z :: t) 0 0 = sgn (x.toNat / 4) := by
      unfold rChar; simp [rSix]; congr 1; omega
    have c1 : rChar (x :: y :: z :: t) 0 1 = sgn (x.toNat % 4 * 16 + y.toNat / 16) := by
      unfold rChar; simp [rSix]; congr 1; omega
    have c2 : rChar (x :: y :: z :: t) 0 2 = sgn (y.toNat % 16 * 4 + z.toNat / 64) := by unfold rChar; simp [rSix]; congr 1; omega
    have c3 : rChar (x :: y :: z :: t) 0 3 = sgn (z.toNat % 64) := by unfold rChar; simp [rSix]; congr 1; omega
    rw [c0, c1, c2, c3]
end Go.Proofs.YtefhifmilmedhaaDoor
