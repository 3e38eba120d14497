/- The walk of footbridgelaw03.fixed. -/
import Derived.Test.YtdapcilhbclcnaaB64Write
namespace Go.Proofs.Ytdapcilhbclcnaa
open Go.RowKit

theorem dec_ab : dec64 [65, 66, 61, 61] = ([], 2, false) := by rw [dec64_4]; decide
theorem enc_0 : enc64 [0] = [65, 65, 61, 61] := by decide
theorem decode64_as {s : ByteArray} {b : List UInt8} {n : Nat} {ok : Bool} (w : World) (hm : s.size ≤ 100000) (hd : dec64 s.data.toList = (b, n, ok)) :
    Calls Try.prog 15 #[.string s] w fun e w' => ∃ A c, e = .returned (.tuple #[.slice A b.length c, .int .i64 (n : Int), .bool ok]) ∧ BytesAt w' w'.heap.size A b.length c b ∧ Below w.heap.size w w' := by
  refine (decode64_any s w hm).mono ?_
  rintro e w' ⟨v, rfl, hown, hb⟩
  rw [hd] at hown ⊢
  obtain ⟨A, c, rfl⟩ := own_form hown
  exact ⟨A, c, rfl, RowAt.of_own hown, hb⟩

set_option maxRecDepth 100000 in
set_option maxHeartbeats 1000000 in
theorem fixed03 (w : World) : Calls Try.prog 13 #[] w fun e w' => e = .returned (.bool true) ∧ Below w.heap.size w w' := by
  have b1 : ∀ w : World, BytesAt (w.alloc (.cells #[.int .u8 0] 5)) (w.alloc (.cells #[.int .u8 0] 5)).heap.size (some ⟨w.heap.size, 0, none⟩) 1 1 [0] := fun w => by
    rw [World.size_alloc]
    exact new_bytes_at w [0] 5 (by unfold maxLen; simp)
  have B1 := Lib.hid b1
  clear b1
  go_enter Try.func13, Try.ntmps13
  go_wp2_with fail
  refine (decode64_as _ (by decide) dec_ab).mono ?_
  rintro e w1 ⟨A, c, rfl, _, hb⟩
  go_wp2_with fail
  refine (encode64_any _ (B1.out _) (by omega)).mono ?_
  rintro e w2 ⟨he, hb2⟩
  rw [enc_0] at he
  subst he
  go_wp2_with fail
  go_ret
  exact ⟨by rfl, (hb.alloc hb.size _).trans (hb2.mono (by have := hb.size; simp; omega))⟩
end Go.Proofs.Ytdapcilhbclcnaa
