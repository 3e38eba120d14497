/- The walk of LetterBytes: true for every input. -/
import Derived.Test.YtdapcilhbclcnaaLetRByte
import Derived.Test.YtdapcilhbclcnaaLetFixed
namespace Go.Proofs.Ytdapcilhbclcnaa
open Go.RowKit
set_option linter.unusedVariables false

set_option maxRecDepth 100000 in
set_option maxHeartbeats 1000000 in
theorem walkLetterBytes (w : World) (b : Int) (h0 : 0 ≤ b) (h1 : b ≤ 255) (p : Int) (hp0 : -9223372036854775808 ≤ p) (hp1 : p ≤ 9223372036854775807) :
    Calls Try.prog 8 #[.int .u8 b, .int .i64 p] w fun e w' => e = .returned (.bool true) ∧ Below w.heap.size w w' := by
  obtain ⟨n, rfl⟩ : ∃ n : Nat, b = n := ⟨b.toNat, by omega⟩
  have hn : n ≤ 255 := by omega
  obtain ⟨q, hq⟩ : ∃ q, lOf n = q := ⟨_, rfl⟩
  have HQ := Lib.hid hq
  have HB := Lib.hid (show lByte q = n from by rw [← hq]; exact lByte_of h0 h1)
  obtain ⟨r, hr⟩ : ∃ r, lByte p = r := ⟨_, rfl⟩
  have HR := Lib.hid hr
  have hrr := lByte_range p
  rw [hr] at hrr
  have hr255 := hrr.2
  have hr1 := hrr.1
  rcases Int.lt_or_le r 0 with hneg | hpos
  · have HN := Lib.hid (show lByte p < 0 from by rw [hr]; exact hneg)
    have hge : decide (0 ≤ r) = false := decide_eq_false (by omega)
    have hmx : max r 0 = 0 := Int.max_eq_right (by omega)
    have HMX := Lib.hid hmx
    clear hq hr hrr hmx
    go_enter Try.func8, Try.ntmps8
    go_wp2_with fail
    refine (lof_as _ h0 h1 HQ).mono ?_
    rintro e w1 ⟨rfl, rfl⟩
    go_wp2_with fail
    refine (lbyte_yes _ HB h0).mono ?_
    rintro e w1 ⟨rfl, rfl⟩
    go_wp2_with fail
    refine (lbyte_no _ HN).mono ?_
    rintro e w1 ⟨rfl, rfl⟩
    go_wp2_with fail
    refine (lrbyte_as _ HR).mono ?_
    rintro e w1 ⟨rfl, rfl⟩
    go_wp2_with fail
    refine (fixed04 _).mono ?_
    rintro e w2 ⟨rfl, hb⟩
    have HBB := Lib.hid hb
    clear hb
    go_wp2_with fail
    refine (lof_as _ h0 h1 HQ).mono ?_
    rintro e w1 ⟨rfl, rfl⟩
    go_wp2_with fail
    refine (lref_as _ hn HQ).mono ?_
    rintro e w1 ⟨rfl, rfl⟩
    go_wp2_with fail
    go_ret
    exact ⟨by simp [HMX.out], HBB.out⟩
  · have hge : decide (0 ≤ r) = true := decide_eq_true (by omega)
    have hmx : max r 0 = r := Int.max_eq_left (by omega)
    have HMX := Lib.hid hmx
    clear hq hr hrr hmx
    go_enter Try.func8, Try.ntmps8
    go_wp2_with fail
    refine (lof_as _ h0 h1 HQ).mono ?_
    rintro e w1 ⟨rfl, rfl⟩
    go_wp2_with fail
    refine (lbyte_yes _ HB h0).mono ?_
    rintro e w1 ⟨rfl, rfl⟩
    go_wp2_with fail
    refine (lbyte_yes _ HR hpos).mono ?_
    rintro e w1 ⟨rfl, rfl⟩
    go_wp2_with fail
    refine (lrbyte_as _ HR).mono ?_
    rintro e w1 ⟨rfl, rfl⟩
    go_wp2_with fail
    refine (fixed04 _).mono ?_
    rintro e w2 ⟨rfl, hb⟩
    have HBB := Lib.hid hb
    clear hb
    go_wp2_with fail
    refine (lof_as _ h0 h1 HQ).mono ?_
    rintro e w1 ⟨rfl, rfl⟩
    go_wp2_with fail
    refine (lref_as _ hn HQ).mono ?_
    rintro e w1 ⟨rfl, rfl⟩
    go_wp2_with fail
    go_ret
    exact ⟨by simp [HMX.out], HBB.out⟩
end Go.Proofs.Ytdapcilhbclcnaa
