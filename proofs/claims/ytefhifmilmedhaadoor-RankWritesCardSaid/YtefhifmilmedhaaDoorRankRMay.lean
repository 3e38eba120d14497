/- The walk of the document's May of a row. -/
import Derived.Test.YtefhifmilmedhaaDoorRankWLaw
import Derived.Test.YtefhifmilmedhaaDoorRankSame
namespace Go.Proofs.YtefhifmilmedhaaDoor
open Go.RowKit
set_option linter.unusedVariables false

set_option maxHeartbeats 1000000 in
theorem rmayRow_any (s : List UInt8) (r : Int) (w : World) {o : Bool} (ho : Hid (mayW (s, r) = o)) (hs : s.length ≤ 1000000) :
    Calls Tryd.prog 45 #[.agg #[.string (strOf s), .int .i64 r]] w fun e w' => e = .returned (.bool o) ∧ Below w.heap.size w w' := by
  have hsz : (strOf s).size = s.length := rfl
  have HB := Lib.hid (show Below w.heap.size w (w.alloc (.cells #[.string (strOf s), .int .i64 r] 40)) from (Below.refl _ w).alloc (Nat.le_refl _) _)
  by_cases h1 : 1 ≤ s.length
  · have d1 : (1 : Int) ≤ (s.length : Int) := by omega
    by_cases h2 : s.length ≤ 64
    · have d2 : (s.length : Int) ≤ 64 := by omega
      by_cases h3 : 0 ≤ r
      · by_cases h4 : r ≤ 9999999
        · have HM := Lib.hid (show o = true from by rw [← ho.out]; unfold mayW; exact decide_eq_true (by simp only; omega))
          go_enter Tryd.func45, Tryd.ntmps45
          go_wp2_with fail
          go_ret
          exact ⟨by rw [HM.out]; rfl, HB.out⟩
        · have HM := Lib.hid (show o = false from by rw [← ho.out]; unfold mayW; exact decide_eq_false (by simp only; omega))
          have d4 : decide (r ≤ 9999999) = false := decide_eq_false h4
          go_enter Tryd.func45, Tryd.ntmps45
          go_wp2_with fail
          go_ret
          exact ⟨by rw [HM.out]; rfl, HB.out⟩
      · have HM := Lib.hid (show o = false from by rw [← ho.out]; unfold mayW; exact decide_eq_false (by simp only; omega))
        have d3 : decide (0 ≤ r) = false := decide_eq_false h3
        go_enter Tryd.func45, Tryd.ntmps45
        go_wp2_with fail
        go_ret
        exact ⟨by rw [HM.out]; rfl, HB.out⟩
    · have HM := Lib.hid (show o = false from by rw [← ho.out]; unfold mayW; exact decide_eq_false (by simp only; omega))
      have d2 : ¬ (s.length : Int) ≤ 64 := by omega
      go_enter Tryd.func45, Tryd.ntmps45
      go_wp2_with fail
      go_ret
      exact ⟨by rw [HM.out]; rfl, HB.out⟩
  · have HM := Lib.hid (show o = false from by rw [← ho.out]; unfold mayW; exact decide_eq_false (by simp only; omega))
    have d1 : ¬ (1 : Int) ≤ (s.length : Int) := by omega
    go_enter Tryd.func45, Tryd.ntmps45
    go_wp2_with fail
    go_ret
    exact ⟨by rw [HM.out]; rfl, HB.out⟩
end Go.Proofs.YtefhifmilmedhaaDoor
