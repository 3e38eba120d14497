/- The walks of letter and its reference: Byte, plain; the reference's Of. -/
import Derived.Test.YtdapcilhbclcnaaLetLaw
import Derived.Test.YtdapcilhbclcnaaProg
import Derived.Deep.QuietTactic
import Derived.BigQuiet
namespace Go.Proofs.Ytdapcilhbclcnaa
open Go.RowKit
set_option linter.unusedVariables false

theorem ret_byte {a b : Int} {c d : Bool} (h1 : a = b) (h2 : c = d) : Ending.returned (.tuple #[.int .u8 a, .bool c]) = .returned (.tuple #[.int .u8 b, .bool d]) := by rw [h1, h2]
set_option maxHeartbeats 800000 in
theorem lbyte_any (p : Int) (w : World) : Calls Try.prog 18 #[.int .i64 p] w fun e w' => e = .returned (.tuple #[.int .u8 (max (lByte p) 0), .bool (decide (0 ≤ lByte p))]) ∧ w = w' := by
  have hd : p < 33 ∨ (33 ≤ p ∧ p < 127) ∨ (127 ≤ p ∧ p < 161) ∨ (161 ≤ p ∧ p < 173) ∨ p = 173 ∨ (173 < p ∧ p < 256) ∨ (256 ≤ p ∧ p < 289) ∨ (289 ≤ p ∧ p < 323) ∨ p = 323 ∨ 323 < p := by omega
  rcases hd with h | ⟨h, h'⟩ | ⟨h, h'⟩ | ⟨h, h'⟩ | rfl | ⟨h, h'⟩ | ⟨h, h'⟩ | ⟨h, h'⟩ | rfl | h
  rotate_left 4
  · go_enter Try.func18, Try.ntmps18
    go_wp2
    go_ret2
    exact ⟨rfl, rfl⟩
  rotate_left 3
  · go_enter Try.func18, Try.ntmps18
    go_wp2
    go_ret2
    exact ⟨rfl, rfl⟩
  all_goals
    have e1 : (p == 173) = false := beq_no (by omega)
    have e3 : (p != 173) = true := bne_yes (by omega)
    have e2 : (p == 323) = false := beq_no (by omega)
    go_enter Try.func18, Try.ntmps18
    go_wp2
    go_ret2
    refine ⟨ret_byte ?_ ?_, rfl⟩
    · unfold lByte
      (repeat' split) <;> omega
    · unfold lByte
      (repeat' split) <;> first | rfl | (symm; rw [decide_eq_true_iff]; omega) | (symm; rw [decide_eq_false_iff_not]; omega) | omega
theorem lbyte_yes {p b : Int} (w : World) (h : Hid (lByte p = b)) (h0 : 0 ≤ b) : Calls Try.prog 18 #[.int .i64 p] w fun e w' => e = .returned (.tuple #[.int .u8 b, .bool true]) ∧ w = w' := by
  have := lbyte_any p w
  rw [h.out, Int.max_eq_left h0, decide_eq_true h0] at this
  exact this
theorem lbyte_no {p : Int} (w : World) (h : Hid (lByte p < 0)) : Calls Try.prog 18 #[.int .i64 p] w fun e w' => e = .returned (.tuple #[.int .u8 0, .bool false]) ∧ w = w' := by
  have := lbyte_any p w
  rw [Int.max_eq_right (Int.le_of_lt h.out), decide_eq_false (Int.not_le.2 h.out)] at this
  exact this

set_option maxRecDepth 100000 in
set_option maxHeartbeats 400000 in
theorem lplain_any (n : Nat) (w : World) (h1 : n ≤ 255) : Calls Try.prog 33 #[.int .i64 (n : Int)] w fun e w' => e = .returned (.bool (lPlain n)) ∧ w = w' := by
  have hn : (n : Int) ≤ 255 := by omega
  have hd : (n : Int) < 33 ∨ (33 ≤ (n : Int) ∧ (n : Int) ≤ 126) ∨ (126 < (n : Int) ∧ (n : Int) < 161) ∨ (161 ≤ (n : Int) ∧ (n : Int) ≤ 172) ∨ (172 < (n : Int) ∧ (n : Int) < 174) ∨ 174 ≤ (n : Int) := by omega
  rcases hd with h | ⟨h, h'⟩ | ⟨h, h'⟩ | ⟨h, h'⟩ | ⟨h, h'⟩ | h
  all_goals
    go_enter Try.func33, Try.ntmps33
    go_wp2
    go_ret
    refine ⟨ret_bool ?_, rfl⟩
    unfold lPlain
    first | (symm; rw [decide_eq_true_iff]; omega) | (symm; rw [decide_eq_false_iff_not]; omega) | (rw [Bool.eq_iff_iff]; simp; omega)
theorem lplain_as {n : Nat} {b : Bool} (w : World) (h1 : n ≤ 255) (h : Hid (lPlain n = b)) : Calls Try.prog 33 #[.int .i64 (n : Int)] w fun e w' => e = .returned (.bool b) ∧ w = w' := by
  have := lplain_any n w h1; rw [h.out] at this; exact this

set_option maxHeartbeats 400000 in
theorem lref_any (n : Nat) (w : World) (h1 : n ≤ 255) : Calls Try.prog 22 #[.int .u8 (n : Int)] w fun e w' => e = .returned (.int .i64 (lOf n)) ∧ w = w' := by
  have hr := lRef_eq (n := n) (by omega)
  rw [← hr]
  clear hr
  have hn : (n : Int) ≤ 255 := by omega
  obtain ⟨b, hb⟩ : ∃ b, lPlain n = b := ⟨_, rfl⟩
  have HB := Lib.hid hb
  cases b
  · have HR := Lib.hid (show lRef n = lCount n from by unfold lRef; rw [if_neg (by rw [hb]; simp)])
    rw [HR.out]
    clear hb
    go_enter Try.func22, Try.ntmps22
    go_wp2_with fail
    refine (lplain_as _ h1 HB).mono ?_
    rintro e w' ⟨rfl, rfl⟩
    go_wp2_with fail
    go_loop [3, 4] (fun c i => ∃ k m : Nat, k ≤ n ∧ i = .int .i64 k ∧ c = .int .i64 m ∧ m ≤ 256 + k ∧ Hid (lCount k = m)) (fun _ i => n - (intOf i).toNat)
    case atStart => exact ⟨0, 256, Nat.zero_le _, rfl, rfl, by omega, by rfl⟩
    case round =>
      obtain ⟨k, m, hk, rfl, rfl, hm, HM⟩ := hrel
      by_cases hkn : k < n
      · have hk1 : (k : Int) < n := by omega
        obtain ⟨b, hb⟩ : ∃ b, lPlain k = b := ⟨_, rfl⟩
        have HB2 := Lib.hid hb
        cases b
        · have HC := Lib.hid (show lCount (k + 1) = m + 1 from by rw [lCount, if_neg (by rw [hb]; simp), HM.out])
          clear hb
          go_wp2_with fail
          refine (lplain_as _ (by omega) HB2).mono ?_
          rintro e w' ⟨rfl, rfl⟩
          go_wp2_with fail
          go_round
          case rel => exact ⟨k + 1, m + 1, by omega, by go_num, by go_num, by omega, HC.out⟩
          case measure => simp [intOf]; omega
        · have HC := Lib.hid (show lCount (k + 1) = m from by rw [lCount, if_pos hb, HM.out])
          clear hb
          go_wp2_with fail
          refine (lplain_as _ (by omega) HB2).mono ?_
          rintro e w' ⟨rfl, rfl⟩
          go_wp2_with fail
          go_round
          case rel => exact ⟨k + 1, m, by omega, by go_num, rfl, by omega, HC.out⟩
          case measure => simp [intOf]; omega
      · obtain rfl : k = n := by omega
        have hk1 : ¬ (k : Int) < k := by omega
        go_wp2_with fail
        go_ret
        exact ⟨ret_int (by rw [HM.out]), rfl⟩
  · have HR := Lib.hid (show lRef n = n from by unfold lRef; rw [if_pos hb])
    rw [HR.out]
    clear hb
    go_enter Try.func22, Try.ntmps22
    go_wp2_with fail
    refine (lplain_as _ h1 HB).mono ?_
    rintro e w' ⟨rfl, rfl⟩
    go_wp2_with fail
    go_ret
    exact ⟨rfl, rfl⟩
theorem lref_as {n : Nat} {p : Int} (w : World) (h1 : n ≤ 255) (h : Hid (lOf n = p)) : Calls Try.prog 22 #[.int .u8 (n : Int)] w fun e w' => e = .returned (.int .i64 p) ∧ w = w' := by
  have := lref_any n w h1; rw [h.out] at this; exact this

end Go.Proofs.Ytdapcilhbclcnaa
