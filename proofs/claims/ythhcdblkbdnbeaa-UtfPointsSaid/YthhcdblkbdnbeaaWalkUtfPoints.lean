/- The walk of UtfPoints: true for every input. -/
import Derived.Test.YthhcdblkbdnbeaaWalkUtfDecodes
import Derived.Test.YthhcdblkbdnbeaaUtfRefP
import Derived.Test.YthhcdblkbdnbeaaUtfRest
import Derived.Test.YthhcdblkbdnbeaaUtfLaw5
import Derived.Deep.QuietTactic
import Derived.BigQuiet
namespace Go.Proofs.Ythhcdblkbdnbeaa
open Go.RowKit

theorem below_drewN {B : Nat} {a w : World} (h : Below B a w) (n : Nat) : Below B a (w.drewN n) := ⟨h.os, h.tape, h.output, h.size, h.block⟩
theorem points_len (l : List UInt8) : (pointsOf l).length ≤ l.length := by
  have : ∀ (n : Nat) (l : List UInt8), l.length ≤ n → (pointsOf l).length ≤ l.length := by
    intro n
    induction n with
    | zero => intro l h; obtain rfl : l = [] := List.eq_nil_of_length_eq_zero (by omega); simp [pointsOf_nil]
    | succ n ih =>
      intro l h
      rcases Nat.eq_zero_or_pos l.length with h0 | h0
      · obtain rfl : l = [] := List.eq_nil_of_length_eq_zero h0; simp [pointsOf_nil]
      · obtain ⟨p, k, more, hd⟩ := dec_ex l true
        rcases dec_step h0 hd with ⟨_, h2, _⟩ | ⟨rfl, h1, h2, _, _⟩
        · cases h2
        · rw [pointsOf_step h0 hd, List.length_cons]
          have := ih (l.drop k.toNat) (by rw [List.length_drop]; omega)
          rw [List.length_drop] at this
          omega
  exact this _ l (Nat.le_refl _)

set_option maxRecDepth 100000 in
set_option maxHeartbeats 1000000 in
theorem walkUtfPoints (w : World) {A : Option Addr} {n c : Nat} {l : List UInt8} (h : BytesAt w w.heap.size A n c l) :
    Calls Try.prog 7 #[.slice A n c] w fun e w' => e = .returned (.bool true) ∧ Below w.heap.size w w' := by
  have hn := h.len
  by_cases hl : 2000 < n
  · have hl1 : (2000 : Int) < n := by omega
    clear hn
    go_enter Try.func7, Try.ntmps7
    go_wp2_with fail
    refine (fixed01 _).mono ?_
    rintro e w' ⟨rfl, hb⟩
    go_wp2_with fail
    go_ret
    exact ⟨rfl, hb⟩
  have hl1 : ¬ (2000 : Int) < n := by omega
  have hl0 : n ≤ 2000 := by omega
  obtain ⟨r1, r2, r3⟩ := rest_le _ l (Nat.le_refl _)
  have hXl := points_len l
  obtain ⟨X, hX⟩ : ∃ X, pointsOf l = X := ⟨_, rfl⟩
  obtain ⟨R, hR⟩ : ∃ R, restOf l = R := ⟨_, rfl⟩
  obtain ⟨Y, hY⟩ : ∃ Y, pointsOf (l.take (n - R)) = Y := ⟨_, rfl⟩
  rw [hR, hX, ← hn, hY] at r3
  rw [hR] at r1 r2
  rw [hX] at hXl
  have r4 : X.length = Y.length + R := by rw [r3, List.length_append, List.length_replicate]
  have r5 : (R : Int) ≤ n := by omega
  have hnc : (n : Int) ≤ c := by have := h.2.1; omega
  have HX := Lib.hid hX
  have HR := Lib.hid hR
  have HY := Lib.hid hY
  have HN := Lib.hid hn
  have HXY := Lib.hid r3
  have HLn := Lib.hid r4
  have hXl2 : X.length ≤ 2000 := by omega
  clear hX hR hY r3 r4 hn hXl
  have hcv := run_string_bytes 22 9 5 Try.underlying22 Try.underlying5 Try.underlying9 h
  go_enter Try.func7, Try.ntmps7
  go_wp2_with fail
  refine (points_any _ h (by rw [← HN.out]; omega)).mono ?_
  rintro e w1 ⟨v, rfl, hown, hb1⟩
  rw [HX.out] at hown
  obtain ⟨A1, c1, rfl⟩ := own_form hown
  have hi1 := RowAt.of_own hown
  have hcv1 := run_string_bytes 22 9 5 Try.underlying22 Try.underlying5 Try.underlying9 (RowAt.below h hb1)
  go_wp2_with fail
  refine (rpoints_any _ _ (by rw [strOf_size, ← HN.out]; omega)).mono ?_
  rintro e w2 ⟨v, rfl, hown2, hb2⟩
  rw [strOf_list, HX.out] at hown2
  obtain ⟨A2, c2, rfl⟩ := own_form hown2
  have hi2 := RowAt.of_own hown2
  have hi1' := (hi1.below hb2).mono hb2.size
  have HB := Lib.hid (hb1.trans (hb2.mono hb1.size))
  clear hown hown2 hb1 hb2 hi1 hcv hcv1
  go_wp2_with fail
  go_loopw [25] (fun i wr => ∃ (k d : Nat), k ≤ X.length ∧ i = .int .i64 k ∧ wr = w2.drewN d) (fun i _ => X.length - (intOf i).toNat)
  case atStart => exact ⟨0, 0, Nat.zero_le _, rfl, rfl⟩
  case round =>
    obtain ⟨k, d, hk, rfl, rfl⟩ := hrel
    by_cases hkx : k < X.length
    · obtain ⟨b1, o1, rfl, _, hc1⟩ := IntsAt.cells hi1' (by omega)
      obtain ⟨b2, o2, rfl, _, hc2⟩ := IntsAt.cells hi2 (by omega)
      have g1 := hc1 k hkx
      have g2 := hc2 k hkx
      have hk1 : (k : Int) < X.length := by omega
      clear hc1 hc2
      go_wp2_with fail
      go_quiet (fail)
      go_wp2_with fail
      go_roundw
      case rel => exact ⟨k + 1, _, by omega, by go_num, rfl⟩
      case measure => simp [intOf]; omega
    · have hk1 : ¬ (k : Int) < X.length := by omega
      have hcv1 := run_string_bytes 22 9 5 Try.underlying22 Try.underlying5 Try.underlying9 (RowAt.drewN (RowAt.below h HB.out) d)
      have hbd : BytesAt (w2.drewN d) w.heap.size A n c l := RowAt.drewN (RowAt.below h HB.out) d
      go_wp2_with fail
      refine (rest_any _ hbd).mono ?_
      rintro e w' ⟨he, rfl⟩
      rw [HR.out] at he
      subst he
      go_wp2_with fail
      refine (rrest_any _ _ (by rw [strOf_size, ← HN.out]; omega)).mono ?_
      rintro e w3 ⟨he, hb3⟩
      rw [strOf_list, HR.out] at he
      subst he
      have HB3 := Lib.hid ((below_drewN HB.out d).trans (hb3.mono HB.out.size))
      have hz3 := HB3.out.size
      have hbt : BytesAt w3 w3.heap.size A (n - R) c (l.take (n - R)) := RowAt.mono (BytesAt.to_ (RowAt.below h HB3.out) (by omega)) hz3
      have e1 : ((n : Int) - R).toNat = n - R := by omega
      have h1' := (RowAt.below (RowAt.drewN hi1' d) hb3).mono hb3.size
      clear hcv1 hbd hb3
      go_wp2_with fail
      refine (points_any _ hbt (by rw [List.length_take, ← HN.out]; omega)).mono ?_
      rintro e w4 ⟨v, rfl, hown, hb4⟩
      rw [HY.out] at hown
      obtain ⟨A3, c3, rfl⟩ := own_form hown
      have hi3 := RowAt.of_own hown
      have HB4 := Lib.hid (HB3.out.trans (hb4.mono hz3))
      have hi1'' := (RowAt.below h1' hb4).mono hb4.size
      have hz4 := HB4.out.size
      clear hown hb4 h1' hi1' hi2 hbt
      have hYR : (Y.length : Int) + R = X.length := by have := HLn.out; omega
      have hYX : Y.length ≤ X.length := by have := HLn.out; omega
      have HYR := Lib.hid hYR
      clear hYR
      have hq : ((Y.length : Int) + R != X.length) = false := bne_no HYR.out
      go_wp2_with fail
      clear hkx hk1
      go_loopw [61] (fun i wr => ∃ (j e : Nat), j ≤ X.length ∧ i = .int .i64 j ∧ wr = w4.drewN e) (fun i _ => X.length - (intOf i).toNat)
      case atStart => exact ⟨0, 0, Nat.zero_le _, rfl, rfl⟩
      case round =>
        obtain ⟨j, e, hj, rfl, rfl⟩ := hrel
        by_cases hjx : j < X.length
        · obtain ⟨b1, o1, rfl, _, hc1⟩ := IntsAt.cells hi1'' (by omega)
          have g1 := hc1 j hjx
          have hj1 : (j : Int) < X.length := by omega
          clear hc1
          by_cases hjy : j < Y.length
          · obtain ⟨b3, o3, rfl, _, hc3⟩ := IntsAt.cells hi3 (by omega)
            have g3 := hc3 j hjy
            have hxy : X[j] = Y[j] := by
              have := HXY.out
              subst this
              exact List.getElem_append_left hjy
            rw [hxy] at g1
            have hj2 : (j : Int) < Y.length := by omega
            have hj4 : decide (Y.length ≤ j) = false := decide_eq_false (by omega)
            have hj5 : decide ((Y.length : Int) ≤ j) = false := decide_eq_false (by omega)
            clear hc3 hxy
            go_wp2_with fail
            go_quiet (fail)
            go_wp2_with fail
            go_roundw
            case rel => exact ⟨j + 1, _, by omega, by go_num, rfl⟩
            case measure => simp [intOf]; omega
          · have hx1 : X[j] = -1 := by
              have := HXY.out
              subst this
              rw [List.getElem_append_right (by omega), List.getElem_replicate]
            rw [hx1] at g1
            have hj2 : decide ((j : Int) < Y.length) = false := decide_eq_false (by omega)
            have hj4 : decide (j < Y.length) = false := decide_eq_false (by omega)
            have hj3 : (Y.length : Int) ≤ j := by omega
            clear hx1
            go_wp2_with fail
            go_quiet (fail)
            go_wp2_with fail
            go_roundw
            case rel => exact ⟨j + 1, _, by omega, by go_num, rfl⟩
            case measure => simp [intOf]; omega
        · have hj1 : ¬ (j : Int) < X.length := by omega
          go_wp2_with fail
          refine (fixed01 _).mono ?_
          rintro e w5 ⟨rfl, hb5⟩
          have HB5 := Lib.hid ((below_drewN HB4.out _).trans (hb5.mono hz4))
          clear hb5
          go_wp2_with fail
          go_ret
          exact ⟨by simp; omega, HB5.out⟩
end Go.Proofs.Ythhcdblkbdnbeaa
