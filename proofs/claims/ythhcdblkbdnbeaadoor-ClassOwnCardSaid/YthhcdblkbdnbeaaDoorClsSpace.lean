/- The walk of class.IsSpace. -/
import Derived.Test.YthhcdblkbdnbeaaDoorClsLaw
import Derived.Test.YthhcdblkbdnbeaaDoorBase
import Derived.Test.YthhcdblkbdnbeaaDoorProg
namespace Go.Proofs.YthhcdblkbdnbeaaDoor
open Go.RowKit

set_option maxHeartbeats 400000 in
theorem isSpace_any (c : Int) (w : World) : Calls Tryd.prog 14 #[.int .i64 c] w fun e w' => e = .returned (.bool (isSp c)) ∧ w = w' := by
  by_cases h3 : c = 3
  · subst h3
    go_enter Tryd.func14, Tryd.ntmps14
    go_wp2
    go_ret
    exact ⟨rfl, rfl⟩
  · have e1 : (c == 3) = false := beq_no h3
    have HF := Lib.hid (show isSp c = (c == 4) from by unfold isSp; rw [e1, Bool.false_or])
    clear h3
    go_enter Tryd.func14, Tryd.ntmps14
    go_wp2
    go_ret
    exact ⟨ret_bool HF.out.symm, rfl⟩
theorem isSpace_as {c : Int} {b : Bool} (w : World) (h : Hid (isSp c = b)) : Calls Tryd.prog 14 #[.int .i64 c] w fun e w' => e = .returned (.bool b) ∧ w = w' := by
  have := isSpace_any c w; rw [h.out] at this; exact this
end Go.Proofs.YthhcdblkbdnbeaaDoor
