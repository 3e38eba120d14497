/- The walk of footbridgelaw04.fixed. -/
import Derived.Test.YtdapcilhbclcnaaLetWrite
namespace Go.Proofs.Ytdapcilhbclcnaa
open Go.RowKit

theorem read_ab : rdAt [97, 32, 98] 0 = ([], 1, false) := by decide
theorem wr_ab : wr [97, 32, 98] = [97, 196, 160, 98] := by decide
theorem lof_32 : lOf 32 = 288 := by decide

set_option maxRecDepth 100000 in
set_option maxHeartbeats 1000000 in
theorem fixed04 (w : World) : Calls Try.prog 21 #[] w fun e w' => e = .returned (.bool true) ∧ Below w.heap.size w w' := by
  have kc := fun (w : World) (C : Array Value) (n c : Nat) => Lib.run_convert_bytes_const (P := Try.prog) w 22 5 C n c Try.underlying22 Try.underlying5
  have HF := Lib.hid lof_32
  have HW := Lib.hid (show strOf (wr [97, 32, 98]) = ⟨#[97, 196, 160, 98]⟩ from by rw [wr_ab]; rfl)
  have HB := Lib.hid (fun w : World => const_bytes_at w [97, 32, 98] #[.int .u8 97, .int .u8 32, .int .u8 98] 3 5 (3, 4) rfl rfl (by unfold maxLen; omega))
  go_enter Try.func21, Try.ntmps21
  go_wp2_with fail
  refine (lread_as _ (by decide) read_ab).mono ?_
  rintro e w1 ⟨A, c, rfl, _, hb⟩
  go_wp2_with fail
  refine (lof_as _ (by omega) (by omega) HF).mono ?_
  rintro e w2 ⟨rfl, rfl⟩
  go_wp2_with fail
  refine (lwrite_as _ (HB.out _) (by omega) HW).mono ?_
  rintro e w3 ⟨rfl, hb3⟩
  go_wp2_with fail
  go_ret
  exact ⟨by rfl, (hb.alloc hb.size _).trans (hb3.mono (by have := hb.size; simp; omega))⟩
end Go.Proofs.Ytdapcilhbclcnaa
