/- The walk of AhoNew: true for every input. -/
import Derived.Test.YtohfkpoblebfaaaAhoFixed
import Derived.Test.YtohfkpoblebfaaaAhoRefStates
namespace Go.Proofs.Ytohfkpoblebfaaa
open Go.RowKit
set_option linter.unusedVariables false

set_option maxRecDepth 100000 in
set_option maxHeartbeats 1000000 in
theorem walkAhoNew (W : World) {A : Option Addr} {n c : Nat} {l : List Wd} {v : Vs} (hl : PatsAt W W.heap.size A n c l v) : Calls Try.prog 3 #[.slice A n c] W fun e W' => e = .returned (.bool true) ∧ Below W.heap.size W W' := by
  have hn := hl.len
  have HN := Lib.hid hn
  by_cases h2 : 40 < n
  · have HO := Lib.hid (show decide (40 < n) = true from decide_eq_true h2)
    clear hn hl h2
    go_enter Try.func3, Try.ntmps3
    go_wp2_with fail
    refine (great18 W HO.out).mono ?_
    rintro e w' ⟨rfl, rfl⟩
    go_wp2_with fail
    refine (fixed18 _).mono ?_
    rintro e w' ⟨rfl, hb⟩
    go_wp2_with fail
    go_ret
    exact ⟨rfl, hb⟩
  · have HO := Lib.hid (show decide (40 < n) = false from decide_eq_false h2)
    have HP := Lib.hid hl
    by_cases hm : mayP l
    · have HMY := Lib.hid hm
      have HOM := Lib.hid (show (okAll l && decide (n ≤ 32)) = true from by rw [hm.2, decide_eq_true (by have := hm.1; omega : n ≤ 32)]; rfl)
      clear hn hl h2 hm
      go_enter Try.func3, Try.ntmps3
      go_wp2_with fail
      refine (great18 W HO.out).mono ?_
      rintro e w' ⟨rfl, rfl⟩
      go_wp2_with fail
      refine (new_as _ HP.out HMY.out).mono ?_
      rintro e w1 ⟨B, g, ns, W1, f, A1, c1, rfl, hm, hb⟩
      have M1 := Lib.hid hm
      have H1 := Lib.hid hb
      have P1 := Lib.hid (HP.out.below hb)
      clear hm hb
      go_wp2_with fail
      refine (may_any w1 P1.out HOM.out).mono ?_
      rintro e w' ⟨rfl, rfl⟩
      go_wp2_with fail
      refine (fixed18 _).mono ?_
      rintro e w2 ⟨rfl, hb⟩
      have M2 := Lib.hid (M1.out.below hb)
      have H2 := Lib.hid (H1.out.trans (hb.mono H1.out.size))
      have P2 := Lib.hid (P1.out.below (hb.mono H1.out.size))
      clear hb
      go_wp2_with fail
      refine (states_as w2 M2.out).mono ?_
      rintro e w3 ⟨rfl, rfl⟩
      go_wp2_with fail
      refine (rstates_any w2 P2.out HMY.out).mono ?_
      rintro e w4 ⟨rfl, q, rfl⟩
      go_wp2_with fail
      go_ret
      exact ⟨by simp, below_drewN H2.out q⟩
    · have HOM := Lib.hid (show (okAll l && decide (n ≤ 32)) = false from by
        rw [Bool.eq_false_iff]
        intro h
        rw [Bool.and_eq_true] at h
        exact hm ⟨by have := of_decide_eq_true h.2; omega, h.1⟩)
      have HMY := Lib.hid hm
      clear hn hl h2 hm
      go_enter Try.func3, Try.ntmps3
      go_wp2_with fail
      refine (great18 W HO.out).mono ?_
      rintro e w' ⟨rfl, rfl⟩
      go_wp2_with fail
      refine (new_no _ HP.out HMY.out).mono ?_
      rintro e w1 ⟨rfl, hb⟩
      have H1 := Lib.hid hb
      have P1 := Lib.hid (HP.out.below hb)
      clear hb
      go_wp2_with fail
      refine (may_any w1 P1.out HOM.out).mono ?_
      rintro e w' ⟨rfl, rfl⟩
      go_wp2_with fail
      refine (fixed18 _).mono ?_
      rintro e w2 ⟨rfl, hb⟩
      have H2 := Lib.hid (H1.out.trans (hb.mono H1.out.size))
      clear hb
      go_wp2_with fail
      go_ret
      exact ⟨rfl, H2.out⟩
end Go.Proofs.Ytohfkpoblebfaaa
