/- The walk of the reference's Encode. -/
import Derived.Test.YthhcdblkbdnbeaaUtfSpec
import Derived.Test.YthhcdblkbdnbeaaProg
namespace Go.Proofs.Ythhcdblkbdnbeaa
open Go.RowKit

set_option maxRecDepth 100000 in
set_option maxHeartbeats 400000 in
theorem rencode_1 (p : Int) (w : World) (h0 : 0 ≤ p) (h1 : p < 128) (_h : ¬ 55296 ≤ p) :
    Calls Try.prog 12 #[.int .i64 p] w fun e w' => e = .returned (.tuple #[.string (strOf (encOf p)), .bool true]) ∧ Below w.heap.size w w' := by
  have hcv := run_string_new w 22 9 5 Try.underlying22 Try.underlying5 Try.underlying9 (encOf p) _ 1 (encOf_1 h0 h1) rfl (by unfold maxLen; omega)
  go_enter Try.func12, Try.ntmps12
  go_wp2_with fail
  go_ret2
  exact ⟨rfl, (Below.refl _ _).alloc (Nat.le_refl _) _⟩

set_option maxRecDepth 100000 in
set_option maxHeartbeats 400000 in
theorem rencode_2 (p : Int) (w : World) (h0 : 128 ≤ p) (h1 : p < 2048) :
    Calls Try.prog 12 #[.int .i64 p] w fun e w' => e = .returned (.tuple #[.string (strOf (encOf p)), .bool true]) ∧ Below w.heap.size w w' := by
  have hcv := run_string_new w 22 9 5 Try.underlying22 Try.underlying5 Try.underlying9 (encOf p) _ 2 (encOf_2 h0 h1) rfl (by unfold maxLen; omega)
  go_enter Try.func12, Try.ntmps12
  go_wp2_with fail
  go_ret2
  exact ⟨rfl, (Below.refl _ _).alloc (Nat.le_refl _) _⟩

set_option maxRecDepth 100000 in
set_option maxHeartbeats 400000 in
theorem rencode_3a (p : Int) (w : World) (h0 : 2048 ≤ p) (h1 : p < 55296) :
    Calls Try.prog 12 #[.int .i64 p] w fun e w' => e = .returned (.tuple #[.string (strOf (encOf p)), .bool true]) ∧ Below w.heap.size w w' := by
  have hcv := run_string_new w 22 9 5 Try.underlying22 Try.underlying5 Try.underlying9 (encOf p) _ 3 (encOf_3 h0 (by omega) (.inl h1)) rfl (by unfold maxLen; omega)
  go_enter Try.func12, Try.ntmps12
  go_wp2_with fail
  go_ret2
  exact ⟨rfl, (Below.refl _ _).alloc (Nat.le_refl _) _⟩

set_option maxRecDepth 100000 in
set_option maxHeartbeats 400000 in
theorem rencode_3b (p : Int) (w : World) (h0 : 57343 < p) (h1 : p < 65536) :
    Calls Try.prog 12 #[.int .i64 p] w fun e w' => e = .returned (.tuple #[.string (strOf (encOf p)), .bool true]) ∧ Below w.heap.size w w' := by
  have hcv := run_string_new w 22 9 5 Try.underlying22 Try.underlying5 Try.underlying9 (encOf p) _ 3 (encOf_3 (by omega) h1 (.inr h0)) rfl (by unfold maxLen; omega)
  go_enter Try.func12, Try.ntmps12
  go_wp2_with fail
  go_ret2
  exact ⟨rfl, (Below.refl _ _).alloc (Nat.le_refl _) _⟩

set_option maxRecDepth 100000 in
set_option maxHeartbeats 400000 in
theorem rencode_4 (p : Int) (w : World) (h0 : 65536 ≤ p) (h1 : p ≤ 1114111) :
    Calls Try.prog 12 #[.int .i64 p] w fun e w' => e = .returned (.tuple #[.string (strOf (encOf p)), .bool true]) ∧ Below w.heap.size w w' := by
  have hcv := run_string_new w 22 9 5 Try.underlying22 Try.underlying5 Try.underlying9 (encOf p) _ 4 (encOf_4 h0 h1) rfl (by unfold maxLen; omega)
  go_enter Try.func12, Try.ntmps12
  go_wp2_with fail
  go_ret2
  exact ⟨rfl, (Below.refl _ _).alloc (Nat.le_refl _) _⟩

set_option maxRecDepth 100000 in
set_option maxHeartbeats 400000 in
theorem rencode_no (p : Int) (w : World) (h : isPoint p = false) :
    Calls Try.prog 12 #[.int .i64 p] w fun e w' => e = .returned (.tuple #[.string (strOf (encOf p)), .bool false]) ∧ Below w.heap.size w w' := by
  have he := Lib.hid (encOf_no h)
  rw [isPoint_no] at h
  rcases h with h | h | ⟨h1, h2⟩
  all_goals
    go_enter Try.func12, Try.ntmps12
    go_wp2_with fail
    go_ret2
    rw [he.out]
    exact ⟨rfl, Below.refl _ _⟩
theorem rencode_any (p : Int) (w : World) :
    Calls Try.prog 12 #[.int .i64 p] w fun e w' => e = .returned (.tuple #[.string (strOf (encOf p)), .bool (isPoint p)]) ∧ Below w.heap.size w w' := by
  rcases hp : isPoint p with _ | _
  · exact rencode_no p w hp
  · have hq := isPoint_iff.1 hp
    by_cases h1 : p < 128
    · exact rencode_1 p w hq.1 h1 (by omega)
    by_cases h2 : p < 2048
    · exact rencode_2 p w (by omega) h2
    by_cases h3 : p < 65536
    · rcases hq.2.2 with h4 | h4
      · exact rencode_3a p w (by omega) h4
      · exact rencode_3b p w h4 h3
    · exact rencode_4 p w (by omega) hq.2.1
theorem rencode_as {p : Int} {m : List UInt8} {ok : Bool} (w : World) (hm : Hid (encOf p = m)) (ho : Hid (isPoint p = ok)) :
    Calls Try.prog 12 #[.int .i64 p] w fun e w' => e = .returned (.tuple #[.string (strOf m), .bool ok]) ∧ Below w.heap.size w w' := by
  refine (rencode_any p w).mono ?_
  rintro e w' ⟨he, hw⟩
  rw [hm.out, ho.out] at he
  exact ⟨he, hw⟩
end Go.Proofs.Ythhcdblkbdnbeaa
