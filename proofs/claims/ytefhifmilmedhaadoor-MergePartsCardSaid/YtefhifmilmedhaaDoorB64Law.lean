/- The plain laws of base64: what the reader's steps come to; read as written; written as read. -/
import Derived.Test.YtefhifmilmedhaaDoorB64Spec
namespace Go.Proofs.YtefhifmilmedhaaDoor

theorem val_range (c : UInt8) : -1 ≤ val c ∧ val c ≤ 63 := by
  unfold val; (repeat' split) <;> omega
theorem val_pad : val 61 = -1 := by decide
theorem val_sgn {n : Nat} (h : n < 64) : val (sgn n) = n := by
  have : ∀ n, n < 64 → val (sgn n) = n := by decide +kernel
  exact this n h
theorem sgn_val {c : UInt8} (h : 0 ≤ val c) : sgn (val c).toNat = c := by
  have : ∀ k, k < 256 → 0 ≤ val (UInt8.ofNat k) → sgn (val (UInt8.ofNat k)).toNat = UInt8.ofNat k := by decide +kernel
  have hc := this c.toNat (by have := c.toNat_lt; omega)
  rw [UInt8.ofNat_toNat] at hc
  exact hc h
theorem sgn_ne {n : Nat} (h : n < 64) : sgn n ≠ 61 := by
  intro e
  have := val_sgn h
  rw [e, val_pad] at this
  omega

/-- What the reader comes to from a group's beginning on. -/
def lift (i : Nat) (out : List UInt8) (x : List UInt8 × Nat × Bool) : List UInt8 × Nat × Bool := if x.2.2 then (out ++ x.1, 0, true) else ([], i + x.2.1, false)

theorem dec64_0 : dec64 [] = ([], 0, true) := by simp [dec64]
theorem dec64_1 (a : UInt8) : dec64 [a] = if val a < 0 then ([], 0, false) else ([], 1, false) := by simp [dec64]
theorem dec64_2 (a b : UInt8) : dec64 [a, b] = if val a < 0 then ([], 0, false) else if val b < 0 then ([], 1, false) else ([], 2, false) := by simp [dec64]
theorem dec64_3 (a b c : UInt8) : dec64 [a, b, c] = if val a < 0 then ([], 0, false) else if val b < 0 then ([], 1, false) else
    if c = 61 then (if val b % 16 ≠ 0 then ([], 2, false) else ([], 3, false)) else if val c < 0 then ([], 2, false) else ([], 3, false) := by simp [dec64]
theorem dec64_4 (a b c d : UInt8) (r : List UInt8) : dec64 (a :: b :: c :: d :: r) = if val a < 0 then ([], 0, false) else if val b < 0 then ([], 1, false) else
    if c = 61 then (if val b % 16 ≠ 0 then ([], 2, false) else if d = 61 then (if r = [] then ((group (val a).toNat (val b).toNat 0 0).take 1, 0, true) else ([], 4, false)) else ([], 3, false))
    else if val c < 0 then ([], 2, false) else
      if d = 61 then (if val c % 4 ≠ 0 then ([], 3, false) else if r = [] then ((group (val a).toNat (val b).toNat (val c).toNat 0).take 2, 0, true) else ([], 4, false))
      else if val d < 0 then ([], 3, false)
      else if (dec64 r).2.2 then (group (val a).toNat (val b).toNat (val c).toNat (val d).toNat ++ (dec64 r).1, 0, true) else ([], (dec64 r).2.1 + 4, false) := by simp [dec64]

theorem step_bad {q : Rd} {c : UInt8} (h0 : ¬ (q.n = 0 ∧ 0 < q.p)) (h : val c < 0) (h1 : c ≠ 61) : q.step c = none := by
  unfold Rd.step; rw [if_neg h0, if_neg h1, if_pos (.inl h)]
theorem step_ok {q : Rd} {c : UInt8} (h : 0 ≤ val c) (h0 : q.p = 0) : q.step c = some (q.put (val c).toNat).fin := by
  have h1 : c ≠ 61 := fun e => by rw [e, val_pad] at h; omega
  unfold Rd.step; rw [if_neg (by omega), if_neg h1, if_neg (by omega)]
theorem step_pad_early {q : Rd} (h : q.n < 2) : q.step 61 = none := by
  unfold Rd.step
  by_cases h0 : q.n = 0 ∧ 0 < q.p
  · rw [if_pos h0]
  · rw [if_neg h0, if_pos rfl, if_pos h]
theorem step_low {q : Rd} {c : UInt8} (h0 : ¬ (q.n = 0 ∧ 0 < q.p)) (hn : q.n < 2) (h : val c < 0) : q.step c = none := by
  by_cases h1 : c = 61
  · rw [h1]; exact step_pad_early hn
  · exact step_bad h0 h h1
theorem run_nil {i : Nat} {q : Rd} : runAt i q [] = if 0 < q.n then ([], i, false) else (q.out, 0, true) := by simp [runAt]
theorem run_none {i : Nat} {q : Rd} {c : UInt8} {r : List UInt8} (h : q.step c = none) : runAt i q (c :: r) = ([], i, false) := by simp [runAt, h]
theorem run_some {i : Nat} {q q' : Rd} {c : UInt8} {r : List UInt8} (h : q.step c = some q') : runAt i q (c :: r) = runAt (i + 1) q' r := by simp [runAt, h]
theorem run_over {i : Nat} {q : Rd} {r : List UInt8} (h0 : q.n = 0) (h1 : 0 < q.p) (hr : r ≠ []) : runAt i q r = ([], i, false) := by
  cases r with
  | nil => exact absurd rfl hr
  | cons c r => exact run_none (by unfold Rd.step; rw [if_pos ⟨h0, h1⟩])

theorem run_ab {i x0 x1 x2 x3 : Nat} {out r : List UInt8} {a b : UInt8} (ha : 0 ≤ val a) (hb : 0 ≤ val b) :
    runAt i ⟨0, 0, x0, x1, x2, x3, out⟩ (a :: b :: r) = runAt (i + 2) ⟨2, 0, (val a).toNat, (val b).toNat, x2, x3, out⟩ r := by
  rw [run_some (step_ok ha rfl), run_some (step_ok hb (by simp [Rd.put, Rd.fin]))]
  simp [Rd.put, Rd.fin]
section
variable {A B C x2 x3 : Nat} {out : List UInt8} {c : UInt8}
theorem step2_pad_no (h : B % 16 ≠ 0) : Rd.step ⟨2, 0, A, B, x2, x3, out⟩ 61 = none := by simp [Rd.step, h]
theorem step2_pad (h : B % 16 = 0) : Rd.step ⟨2, 0, A, B, x2, x3, out⟩ 61 = some ⟨3, 1, A, B, 0, x3, out⟩ := by simp [Rd.step, h, Rd.put, Rd.fin]
theorem step2 (h : 0 ≤ val c) : Rd.step ⟨2, 0, A, B, x2, x3, out⟩ c = some ⟨3, 0, A, B, (val c).toNat, x3, out⟩ := by rw [step_ok h rfl]; simp [Rd.put, Rd.fin]
theorem step3_pad_no (h : C % 4 ≠ 0) : Rd.step ⟨3, 0, A, B, C, x3, out⟩ 61 = none := by simp [Rd.step, h]
theorem step3_pad (h : C % 4 = 0) : Rd.step ⟨3, 0, A, B, C, x3, out⟩ 61 = some ⟨0, 1, A, B, C, 0, out ++ (group A B C 0).take 2⟩ := by simp [Rd.step, h, Rd.put, Rd.fin]
theorem step3 (h : 0 ≤ val c) : Rd.step ⟨3, 0, A, B, C, x3, out⟩ c = some ⟨0, 0, A, B, C, (val c).toNat, out ++ group A B C (val c).toNat⟩ := by rw [step_ok h rfl]; simp [Rd.put, Rd.fin, group]
theorem step31_pad : Rd.step ⟨3, 1, A, B, C, x3, out⟩ 61 = some ⟨0, 2, A, B, C, 0, out ++ (group A B C 0).take 1⟩ := by simp [Rd.step, Rd.put, Rd.fin]
theorem step31_no (h : c ≠ 61) : Rd.step ⟨3, 1, A, B, C, x3, out⟩ c = none := by simp [Rd.step, h]
end
theorem mod16 {c : UInt8} (h : 0 ≤ val c) : val c % 16 = 0 ↔ (val c).toNat % 16 = 0 := by omega
theorem mod4 {c : UInt8} (h : 0 ≤ val c) : val c % 4 = 0 ↔ (val c).toNat % 4 = 0 := by omega

theorem run_eq : ∀ (m : Nat) (s : List UInt8), s.length ≤ m → ∀ (i x0 x1 x2 x3 : Nat) (out : List UInt8), runAt i ⟨0, 0, x0, x1, x2, x3, out⟩ s = lift i out (dec64 s) := by
  intro m
  induction m with
  | zero =>
    intro s h i x0 x1 x2 x3 out
    obtain rfl : s = [] := List.eq_nil_of_length_eq_zero (by omega)
    simp [runAt, dec64, lift]
  | succ m ih =>
    intro s h i x0 x1 x2 x3 out
    match s, h with
    | [], _ => simp [runAt, dec64, lift]
    | [a], _ =>
      rw [dec64_1]
      by_cases ha : val a < 0
      · rw [if_pos ha, run_none (step_low (by simp) (by simp) ha)]; simp [lift]
      · rw [if_neg ha, run_some (step_ok (by omega) rfl), run_nil]; simp [lift, Rd.put, Rd.fin]
    | [a, b], _ =>
      rw [dec64_2]
      by_cases ha : val a < 0
      · rw [if_pos ha, run_none (step_low (by simp) (by simp) ha)]; simp [lift]
      · rw [if_neg ha, run_some (step_ok (by omega) rfl)]
        by_cases hb : val b < 0
        · rw [if_pos hb, run_none (step_low (by simp [Rd.put, Rd.fin]) (by simp [Rd.put, Rd.fin]) hb)]; simp [lift]
        · rw [if_neg hb, run_some (step_ok (by omega) (by simp [Rd.put, Rd.fin])), run_nil]; simp [lift, Rd.put, Rd.fin]
    | [a, b, c], _ =>
      rw [dec64_3]
      by_cases ha : val a < 0
      · rw [if_pos ha, run_none (step_low (by simp) (by simp) ha)]; simp [lift]
      by_cases hb : val b < 0
      · rw [if_neg ha, if_pos hb, run_some (step_ok (by omega) rfl), run_none (step_low (by simp [Rd.put, Rd.fin]) (by simp [Rd.put, Rd.fin]) hb)]; simp [lift]
      rw [if_neg ha, if_neg hb, run_ab (by omega) (by omega)]
      by_cases hc : c = 61
      · subst hc
        rw [if_pos rfl]
        by_cases hz : val b % 16 = 0
        · rw [if_neg (by simp [hz]), run_some (step2_pad ((mod16 (by omega)).1 hz)), run_nil]; simp [lift]
        · rw [if_pos hz, run_none (step2_pad_no (fun h => hz ((mod16 (by omega)).2 h)))]; simp [lift]
      · rw [if_neg hc]
        by_cases hv : val c < 0
        · rw [if_pos hv, run_none (step_bad (by simp) hv hc)]; simp [lift]
        · rw [if_neg hv, run_some (step2 (by omega)), run_nil]; simp [lift]
    | a :: b :: c :: d :: r, h =>
      rw [dec64_4]
      by_cases ha : val a < 0
      · rw [if_pos ha, run_none (step_low (by simp) (by simp) ha)]; simp [lift]
      by_cases hb : val b < 0
      · rw [if_neg ha, if_pos hb, run_some (step_ok (by omega) rfl), run_none (step_low (by simp [Rd.put, Rd.fin]) (by simp [Rd.put, Rd.fin]) hb)]; simp [lift]
      rw [if_neg ha, if_neg hb, run_ab (by omega) (by omega)]
      by_cases hc : c = 61
      · subst hc
        rw [if_pos rfl]
        by_cases hz : val b % 16 = 0
        · rw [if_neg (by simp [hz]), run_some (step2_pad ((mod16 (by omega)).1 hz))]
          by_cases hd : d = 61
          · subst hd
            rw [if_pos rfl, run_some step31_pad]
            by_cases hr : r = []
            · subst hr; rw [if_pos rfl, run_nil]; simp [lift]
            · rw [if_neg hr, run_over rfl (by simp) hr]; simp [lift]
          · rw [if_neg hd, run_none (step31_no hd)]; simp [lift]
        · rw [if_pos hz, run_none (step2_pad_no (fun h => hz ((mod16 (by omega)).2 h)))]; simp [lift]
      · rw [if_neg hc]
        by_cases hv : val c < 0
        · rw [if_pos hv, run_none (step_bad (by simp) hv hc)]; simp [lift]
        · rw [if_neg hv, run_some (step2 (by omega))]
          by_cases hd : d = 61
          · subst hd
            rw [if_pos rfl]
            by_cases hz : val c % 4 = 0
            · rw [if_neg (by simp [hz]), run_some (step3_pad ((mod4 (by omega)).1 hz))]
              by_cases hr : r = []
              · subst hr; rw [if_pos rfl, run_nil]; simp [lift]
              · rw [if_neg hr, run_over rfl (by simp) hr]; simp [lift]
            · rw [if_pos hz, run_none (step3_pad_no (fun h => hz ((mod4 (by omega)).2 h)))]; simp [lift]
          · rw [if_neg hd]
            by_cases hw : val d < 0
            · rw [if_pos hw, run_none (step_bad (by simp) hw hd)]; simp [lift]
            · rw [if_neg hw, run_some (step3 (by omega)), ih r (by simp only [List.length_cons] at h; omega)]
              rcases hk : (dec64 r).2.2 with _ | _
              · simp [lift, hk]; omega
              · simp [lift, hk]
theorem dec64_facts : ∀ (m : Nat) (s : List UInt8), s.length ≤ m → ((dec64 s).2.2 = true → (dec64 s).2.1 = 0 ∧ s.length % 4 = 0) ∧ ((dec64 s).2.2 = false → (dec64 s).1 = [] ∧ (dec64 s).2.1 ≤ s.length) := by
  intro m
  induction m with
  | zero =>
    intro s h
    obtain rfl : s = [] := List.eq_nil_of_length_eq_zero (by omega)
    rw [dec64_0]; simp
  | succ m ih =>
    intro s h
    match s, h with
    | [], _ => rw [dec64_0]; simp
    | [a], _ => rw [dec64_1]; (repeat' split) <;> simp
    | [a, b], _ => rw [dec64_2]; (repeat' split) <;> simp
    | [a, b, c], _ => rw [dec64_3]; (repeat' split) <;> simp
    | a :: b :: c :: d :: r, h =>
      have := ih r (by simp only [List.length_cons] at h; omega)
      rw [dec64_4]
      (repeat' split) <;> simp_all <;> omega
theorem dec64_no {s : List UInt8} {b : List UInt8} {n : Nat} (h : dec64 s = (b, n, false)) : b = [] ∧ n ≤ s.length := by
  have := (dec64_facts _ s (Nat.le_refl _)).2 (by rw [h])
  rw [h] at this
  exact this
theorem dec64_yes {s : List UInt8} {b : List UInt8} {n : Nat} (h : dec64 s = (b, n, true)) : n = 0 ∧ s.length % 4 = 0 := by
  have := (dec64_facts _ s (Nat.le_refl _)).1 (by rw [h])
  rw [h] at this
  exact this
/-- The reader's steps over a whole text come to what the groups say. -/
theorem run_start (s : List UInt8) : runAt 0 Rd.start s = dec64 s := by
  have := run_eq _ s (Nat.le_refl _) 0 0 0 0 0 []
  unfold Rd.start
  rw [this]
  unfold lift
  rcases hk : dec64 s with ⟨b, n, _ | _⟩
  · simp [(dec64_no hk).1]
  · simp [(dec64_yes hk).1]

theorem nat_u8 {n : Nat} {x : UInt8} (h : n = x.toNat) : UInt8.ofNat n = x := by subst h; exact UInt8.ofNat_toNat
/-- Read as written. -/
theorem dec_enc : ∀ b : List UInt8, dec64 (enc64 b) = (b, 0, true)
  | [] => by simp [enc64, dec64]
  | [a] => by
    have h0 := a.toNat_lt
    have v1 := val_sgn (n := a.toNat / 4) (by omega)
    have v2 := val_sgn (n := a.toNat % 4 * 16) (by omega)
    rw [enc64, dec64_4, v1, v2]
    rw [if_neg (by omega), if_neg (by omega), if_pos rfl, if_neg (by omega), if_pos rfl, if_pos rfl]
    simp only [group, List.take_succ_cons, List.take_zero]
    rw [nat_u8 (x := a) (by omega)]
  | [a, b] => by
    have h0 := a.toNat_lt
    have h1 := b.toNat_lt
    have v1 := val_sgn (n := a.toNat / 4) (by omega)
    have v2 := val_sgn (n := a.toNat % 4 * 16 + b.toNat / 16) (by omega)
    have v3 := val_sgn (n := b.toNat % 16 * 4) (by omega)
    rw [enc64, dec64_4, v1, v2, v3]
    rw [if_neg (by omega), if_neg (by omega), if_neg (sgn_ne (by omega)), if_neg (by omega), if_pos rfl, if_neg (by omega), if_pos rfl]
    simp only [group, List.take_succ_cons, List.take_zero]
    rw [nat_u8 (x := a) (by omega), nat_u8 (x := b) (by omega)]
  | a :: b :: c :: r => by
    have h0 := a.toNat_lt
    have h1 := b.toNat_lt
    have h2 := c.toNat_lt
    have v1 := val_sgn (n := a.toNat / 4) (by omega)
    have v2 := val_sgn (n := a.toNat % 4 * 16 + b.toNat / 16) (by omega)
    have v3 := val_sgn (n := b.toNat % 16 * 4 + c.toNat / 64) (by omega)
    have v4 := val_sgn (n := c.toNat % 64) (by omega)
    rw [enc64, dec64_4, v1, v2, v3, v4]
    rw [if_neg (by omega), if_neg (by omega), if_neg (sgn_ne (by omega)), if_neg (by omega), if_neg (sgn_ne (by omega)), if_neg (by omega), dec_enc r]
    simp only [group, if_true, List.cons_append, List.nil_append]
    rw [nat_u8 (x := a) (by omega), nat_u8 (x := b) (by omega), nat_u8 (x := c) (by omega)]

theorem sgn_u8 {n : Nat} {c : UInt8} (h : 0 ≤ val c) (hn : n = (val c).toNat) : sgn n = c := by subst hn; exact sgn_val h
theorem ofNat_u8 {n : Nat} (h : n < 256) : (UInt8.ofNat n).toNat = n := by rw [UInt8.toNat_ofNat']; omega
/-- Written as read. -/
theorem enc_dec64 : ∀ (m : Nat) (s b : List UInt8), s.length ≤ m → dec64 s = (b, 0, true) → enc64 b = s := by
  intro m
  induction m with
  | zero =>
    intro s b h hd
    obtain rfl : s = [] := List.eq_nil_of_length_eq_zero (by omega)
    rw [dec64_0] at hd; simp at hd; subst hd; rfl
  | succ m ih =>
    intro s b h hd
    match s, h, hd with
    | [], _, hd => rw [dec64_0] at hd; simp at hd; subst hd; rfl
    | [x], _, hd => exact absurd (dec64_yes hd).2 (by simp)
    | [x, y], _, hd => exact absurd (dec64_yes hd).2 (by simp)
    | [x, y, z], _, hd => exact absurd (dec64_yes hd).2 (by simp)
    | x :: y :: z :: t :: r, h, hd =>
      have rx := val_range x
      have ry := val_range y
      have rz := val_range z
      have rt := val_range t
      rw [dec64_4] at hd
      by_cases ha : val x < 0
      · rw [if_pos ha] at hd; simp at hd
      by_cases hb : val y < 0
      · rw [if_neg ha, if_pos hb] at hd; simp at hd
      rw [if_neg ha, if_neg hb] at hd
      by_cases hc : z = 61
      · rw [if_pos hc] at hd
        by_cases hz : val y % 16 = 0
        · rw [if_neg (by simp [hz])] at hd
          by_cases hdd : t = 61
          · rw [if_pos hdd] at hd
            by_cases hr : r = []
            · rw [if_pos hr] at hd
              simp only [group, List.take_succ_cons, List.take_zero, Prod.mk.injEq, and_true] at hd
              subst hd hr hc hdd
              have e := ofNat_u8 (n := (val x).toNat * 4 + (val y).toNat / 16) (by omega)
              rw [enc64, e, sgn_u8 (c := x) (by omega) (by omega), sgn_u8 (c := y) (by omega) (by omega)]
            · rw [if_neg hr] at hd; simp at hd
          · rw [if_neg hdd] at hd; simp at hd
        · rw [if_pos hz] at hd; simp at hd
      · rw [if_neg hc] at hd
        by_cases hv : val z < 0
        · rw [if_pos hv] at hd; simp at hd
        rw [if_neg hv] at hd
        by_cases hdd : t = 61
        · rw [if_pos hdd] at hd
          by_cases hz : val z % 4 = 0
          · rw [if_neg (by simp [hz])] at hd
            by_cases hr : r = []
            · rw [if_pos hr] at hd
              simp only [group, List.take_succ_cons, List.take_zero, Prod.mk.injEq, and_true] at hd
              subst hd hr hdd
              have e := ofNat_u8 (n := (val x).toNat * 4 + (val y).toNat / 16) (by omega)
              have e2 := ofNat_u8 (n := (val y).toNat % 16 * 16 + (val z).toNat / 4) (by omega)
              rw [enc64, e, e2, sgn_u8 (c := x) (by omega) (by omega), sgn_u8 (c := y) (by omega) (by omega), sgn_u8 (c := z) (by omega) (by omega)]
            · rw [if_neg hr] at hd; simp at hd
          · rw [if_pos hz] at hd; simp at hd
        · rw [if_neg hdd] at hd
          by_cases hw : val t < 0
          · rw [if_pos hw] at hd; simp at hd
          rw [if_neg hw] at hd
          rcases hk : dec64 r with ⟨b', n', _ | _⟩
          · rw [hk] at hd; simp at hd
          · rw [hk] at hd
            simp only [if_true, Prod.mk.injEq, and_true] at hd
            subst hd
            have hi := ih r b' (by simp only [List.length_cons] at h; omega) (by rw [hk, (dec64_yes hk).1])
            have e := ofNat_u8 (n := (val x).toNat * 4 + (val y).toNat / 16) (by omega)
            have e2 := ofNat_u8 (n := (val y).toNat % 16 * 16 + (val z).toNat / 4) (by omega)
            have e3 := ofNat_u8 (n := (val z).toNat % 4 * 64 + (val t).toNat) (by omega)
            simp only [group, List.cons_append, List.nil_append]
            rw [enc64, e, e2, e3, sgn_u8 (c := x) (by omega) (by omega), sgn_u8 (c := y) (by omega) (by omega), sgn_u8 (c := z) (by omega) (by omega), sgn_u8 (c := t) (by omega) (by omega), hi]
/-- Three by three. -/
theorem enc64_app : ∀ (a b : List UInt8), a.length % 3 = 0 → enc64 (a ++ b) = enc64 a ++ enc64 b
  | [], b, _ => by simp [enc64]
  | [x], b, h => by simp at h
  | [x, y], b, h => by simp at h
  | x :: y :: z :: r, b, h => by
    simp only [List.cons_append, enc64]
    rw [enc64_app r b (by simp only [List.length_cons] at h; omega)]
theorem enc64_len : ∀ (b : List UInt8), (enc64 b).length = (b.length + 2) / 3 * 4
  | [] => by simp [enc64]
  | [x] => by simp [enc64]
  | [x, y] => by simp [enc64]
  | x :: y :: z :: r => by
    simp only [enc64, List.length_cons, enc64_len r]
    omega
end Go.Proofs.YtefhifmilmedhaaDoor
