/- The walk of utf.kind: what it answers of each byte. -/
import Derived.Test.YtkiggpbmlkfdpaaDoorProg
import Derived.Test.YtkiggpbmlkfdpaaDoorUtfSpec
namespace Go.Proofs.YtkiggpbmlkfdpaaDoor
open Go.RowKit

set_option maxHeartbeats 400000 in
theorem kind_any (c : Int) (w : World) (h0 : 0 ≤ c) (h1 : c ≤ 255) :
    Calls Tryd.prog 82 #[.int .u8 c] w fun e w' => e = .returned (.tuple #[.int .i64 (utfKind c).1, .int .i64 (utfKind c).2.1, .int .u8 (utfKind c).2.2.1, .int .u8 (utfKind c).2.2.2]) ∧ w = w' := by
  go_enter Tryd.func82, Tryd.ntmps82
  go_wp2
  all_goals (refine bodyPost_ret (results_tmp4 rfl _ _ _) rfl ?_)
  all_goals (refine ⟨ret4 _ _ _ _ ?_, rfl⟩)
  all_goals (try simp only [beq_iff_eq, beq_eq_false_iff_ne, ne_eq] at *)
  all_goals (unfold utfKind; (repeat' split) <;> first | omega | rfl | (simp only [Prod.mk.injEq, and_true, true_and]; omega))

theorem kind_as {c n b lo hi : Int} (w : World) (h0 : 0 ≤ c) (h1 : c ≤ 255) (h : Hid (utfKind c = (n, b, lo, hi))) :
    Calls Tryd.prog 82 #[.int .u8 c] w fun e w' => e = .returned (.tuple #[.int .i64 n, .int .i64 b, .int .u8 lo, .int .u8 hi]) ∧ w = w' :=
  (kind_any c w h0 h1).mono fun e w' ⟨he, hw⟩ => ⟨by rw [he, h.out], hw⟩
end Go.Proofs.YtkiggpbmlkfdpaaDoor
