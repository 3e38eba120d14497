/- The walk of the document's Byte. -/
import Derived.Test.YtdapcilhbclcnaaLetWalk
namespace Go.Proofs.Ytdapcilhbclcnaa
open Go.RowKit
set_option linter.unusedVariables false
set_option maxHeartbeats 400000 in
theorem lrbyte_any (p : Int) (w : World) : Calls Try.prog 20 #[.int .i64 p] w fun e w' => e = .returned (.int .i64 (lByte p)) ∧ w = w' := by
  go_enter Try.func20, Try.ntmps20
  go_wp2_with fail
  go_loop [3] (fun i => ∃ k : Nat, k ≤ 256 ∧ i = .int .i64 k ∧ Hid (NoneTo k p)) (fun i => 256 - (intOf i).toNat)
  case atStart => exact ⟨0, by omega, rfl, NoneTo.zero p⟩
  case round =>
    obtain ⟨k, hk, rfl, HN⟩ := hrel
    by_cases hkn : k < 256
    · have hk1 : (k : Int) < 256 := by omega
      obtain ⟨q, hq⟩ : ∃ q, lOf k = q := ⟨_, rfl⟩
      have HQ := Lib.hid hq
      by_cases hp : q = p
      · have HF := Lib.hid (found hkn (hq.trans hp))
        have e1 : (q == p) = true := beq_yes hp
        clear hq hp
        go_wp2_with fail
        refine (lref_as _ (by omega) HQ).mono ?_
        rintro e w' ⟨rfl, rfl⟩
        go_wp2_with fail
        go_ret
        exact ⟨ret_int HF.out.symm, rfl⟩
      · have HF := Lib.hid (HN.out.step (by rw [hq]; exact hp))
        have e1 : (q == p) = false := beq_no hp
        clear hq hp
        go_wp2_with fail
        refine (lref_as _ (by omega) HQ).mono ?_
        rintro e w' ⟨rfl, rfl⟩
        go_wp2_with fail
        go_round
        case rel => exact ⟨k + 1, by omega, by go_num, HF.out⟩
        case measure => simp [intOf]; omega
    · obtain rfl : k = 256 := by omega
      have HF := Lib.hid HN.out.all
      go_wp2_with fail
      go_ret
      exact ⟨ret_int HF.out.symm, rfl⟩
theorem lrbyte_as {p b : Int} (w : World) (h : Hid (lByte p = b)) : Calls Try.prog 20 #[.int .i64 p] w fun e w' => e = .returned (.int .i64 b) ∧ w = w' := by
  have := lrbyte_any p w; rw [h.out] at this; exact this
end Go.Proofs.Ytdapcilhbclcnaa
