/- The walks of footbridgelaw02.fixed, ClassOf, ClassUsual. -/
import Derived.Test.YthhcdblkbdnbeaaDoorClsUsual
import Derived.Test.YthhcdblkbdnbeaaDoorClsSpace
namespace Go.Proofs.YthhcdblkbdnbeaaDoor
open Go.RowKit
set_option linter.unusedVariables false

theorem cls_A : clsT usualT 65 = 1 := by decide +kernel
theorem cls_lf : clsT usualT 10 = 4 := by decide +kernel
theorem fixed02 (w : World) (hU : UsualAt w) : Calls Tryd.prog 7 #[] w fun e w' => e = .returned (.bool true) ∧ Below w.heap.size w w' := by
  have HU := Lib.hid hU
  have HA := Lib.hid cls_A
  have HL := Lib.hid cls_lf
  clear hU
  go_enter Tryd.func7, Tryd.ntmps7
  go_wp2_with fail
  refine (usual_any _ HU.out).mono ?_
  rintro e w1 ⟨A, c, rfl, hr, hb⟩
  have R1 := Lib.hid hr
  have B1 := Lib.hid hb
  clear hr hb
  go_wp2_with fail
  refine (of_as _ R1.out (by omega) HA).mono ?_
  rintro e w2 ⟨rfl, hb2⟩
  have R2 := Lib.hid (R1.out.later hb2)
  have B2 := Lib.hid (B1.out.trans (hb2.mono B1.out.size))
  clear hb2
  go_wp2_with fail
  refine (of_as _ R2.out (by omega) HL).mono ?_
  rintro e w3 ⟨rfl, hb3⟩
  have B3 := Lib.hid (B2.out.trans (hb3.mono B2.out.size))
  clear hb3
  go_wp2_with fail
  go_ret
  exact ⟨rfl, B3.out⟩

set_option maxRecDepth 100000 in
set_option maxHeartbeats 1000000 in
theorem walkClassOf (w : World) (hU : UsualAt w) {A : Option Addr} {n c : Nat} {t : List Rg} (h : RangesAt w w.heap.size A n c t) (p : Int) :
    Calls Tryd.prog 3 #[.slice A n c, .int .i64 p] w fun e w' => e = .returned (.bool true) ∧ Below w.heap.size w w' := by
  have HU := Lib.hid hU
  have HH := Lib.hid h
  have hn := h.2.1
  have hc := h.2.2.1
  unfold maxLen at hc
  by_cases hl : 300 < n
  · have hl1 : (300 : Int) < n := by omega
    clear hU h
    go_enter Tryd.func3, Tryd.ntmps3
    go_wp2_with fail
    refine (fixed02 _ HU.out).mono ?_
    rintro e w' ⟨rfl, hb⟩
    go_wp2_with fail
    go_ret
    exact ⟨rfl, hb⟩
  have hl1 : ¬ (300 : Int) < n := by omega
  obtain ⟨v, hv⟩ : ∃ v, mayT t = v := ⟨_, rfl⟩
  have HV := Lib.hid hv
  cases v
  · have HF := Lib.hid (show clsT t p = 0 from by unfold clsT; rw [if_neg (by rw [hv]; simp)])
    clear hv hU h
    go_enter Tryd.func3, Tryd.ntmps3
    go_wp2_with fail
    refine (rmay_as _ HH.out HV).mono ?_
    rintro e w1 ⟨rfl, hb⟩
    have H1 := Lib.hid (HH.out.later hb)
    have U1 := Lib.hid (HU.out.later hb)
    have B1 := Lib.hid hb
    clear hb
    go_wp2_with fail
    refine (fixed02 _ U1.out).mono ?_
    rintro e w2 ⟨rfl, hb⟩
    have H2 := Lib.hid (H1.out.later hb)
    have B2 := Lib.hid (B1.out.trans (hb.mono B1.out.size))
    clear hb
    go_wp2_with fail
    refine (may_as _ H2.out (by omega) HV).mono ?_
    rintro e w3 ⟨rfl, hb⟩
    have H3 := Lib.hid (H2.out.later hb)
    have B3 := Lib.hid (B2.out.trans (hb.mono B2.out.size))
    clear hb
    go_wp2_with fail
    refine (of_as _ H3.out (by omega) HF).mono ?_
    rintro e w4 ⟨rfl, hb⟩
    have B4 := Lib.hid (B3.out.trans (hb.mono B3.out.size))
    clear hb
    go_wp2_with fail
    go_ret
    exact ⟨rfl, B4.out⟩
  · obtain ⟨r, hr⟩ : ∃ r, ofT p t = r := ⟨_, rfl⟩
    have HR := Lib.hid hr
    have HF := Lib.hid (show clsT t p = r from by unfold clsT; rw [if_pos hv]; exact hr)
    clear hv hU h hr
    go_enter Tryd.func3, Tryd.ntmps3
    go_wp2_with fail
    refine (rmay_as _ HH.out HV).mono ?_
    rintro e w1 ⟨rfl, hb⟩
    have H1 := Lib.hid (HH.out.later hb)
    have U1 := Lib.hid (HU.out.later hb)
    have B1 := Lib.hid hb
    clear hb
    go_wp2_with fail
    refine (rof_as _ H1.out HR).mono ?_
    rintro e w' ⟨rfl, rfl⟩
    go_wp2_with fail
    refine (fixed02 _ U1.out).mono ?_
    rintro e w2 ⟨rfl, hb⟩
    have H2 := Lib.hid (H1.out.later hb)
    have B2 := Lib.hid (B1.out.trans (hb.mono B1.out.size))
    clear hb
    go_wp2_with fail
    refine (may_as _ H2.out (by omega) HV).mono ?_
    rintro e w3 ⟨rfl, hb⟩
    have H3 := Lib.hid (H2.out.later hb)
    have B3 := Lib.hid (B2.out.trans (hb.mono B2.out.size))
    clear hb
    go_wp2_with fail
    refine (of_as _ H3.out (by omega) HF).mono ?_
    rintro e w4 ⟨rfl, hb⟩
    have B4 := Lib.hid (B3.out.trans (hb.mono B3.out.size))
    clear hb
    go_wp2_with fail
    go_ret
    exact ⟨by simp, B4.out⟩

set_option maxRecDepth 100000 in
set_option maxHeartbeats 1000000 in
theorem walkClassUsual (w : World) (hU : UsualAt w) (p c : Int) :
    Calls Tryd.prog 6 #[.int .i64 p, .int .i64 c] w fun e w' => e = .returned (.bool true) ∧ Below w.heap.size w w' := by
  have HU := Lib.hid hU
  have HV := Lib.hid usual_may
  obtain ⟨r, hr⟩ : ∃ r, ofT p usualT = r := ⟨_, rfl⟩
  have HF := Lib.hid (show clsT usualT p = r from by unfold clsT; rw [if_pos usual_may]; exact hr)
  have HR := Lib.hid (show ofT p refT = r from by rw [refT_of]; exact hr)
  obtain ⟨b, hb⟩ : ∃ b, isSp c = b := ⟨_, rfl⟩
  have HB := Lib.hid hb
  have hc : (c = 3) ∨ (c ≠ 3) := by omega
  clear hU hr
  rcases hc with hc | hc
  · subst hc
    obtain rfl : true = b := hb
    go_enter Tryd.func6, Tryd.ntmps6
    go_wp2_with fail
    refine (usual_any _ HU.out).mono ?_
    rintro e w1 ⟨A, c, rfl, hr, hb⟩
    have R1 := Lib.hid hr
    have B1 := Lib.hid hb
    have U1 := Lib.hid (HU.out.later hb)
    clear hr hb
    go_wp2_with fail
    refine (fixed02 _ U1.out).mono ?_
    rintro e w2 ⟨rfl, hb⟩
    have R2 := Lib.hid (R1.out.later hb)
    have B2 := Lib.hid (B1.out.trans (hb.mono B1.out.size))
    clear hb
    go_wp2_with fail
    refine (may_as _ R2.out (by omega) HV).mono ?_
    rintro e w3 ⟨rfl, hb⟩
    have R3 := Lib.hid (R2.out.later hb)
    have B3 := Lib.hid (B2.out.trans (hb.mono B2.out.size))
    clear hb
    go_wp2_with fail
    refine (of_as _ R3.out (by omega) HF).mono ?_
    rintro e w4 ⟨rfl, hb⟩
    have B4 := Lib.hid (B3.out.trans (hb.mono B3.out.size))
    clear hb
    go_wp2_with fail
    refine (rusual_any _).mono ?_
    rintro e w5 ⟨A5, c5, rfl, hr, hb⟩
    have R5 := Lib.hid hr
    have B5 := Lib.hid (B4.out.trans (hb.mono B4.out.size))
    clear hr hb
    go_wp2_with fail
    refine (rof_as _ R5.out HR).mono ?_
    rintro e w' ⟨rfl, rfl⟩
    go_wp2_with fail
    refine (isSpace_as _ HB).mono ?_
    rintro e w' ⟨rfl, rfl⟩
    go_wp2_with fail
    go_ret
    exact ⟨by simp, B5.out⟩
  · have e1 : (c == 3) = false := beq_no hc
    have e2 : (c == 4) = b := by rw [← hb]; unfold isSp; rw [e1, Bool.false_or]
    clear hb hc
    go_enter Tryd.func6, Tryd.ntmps6
    go_wp2_with fail
    refine (usual_any _ HU.out).mono ?_
    rintro e w1 ⟨A, c, rfl, hr, hb⟩
    have R1 := Lib.hid hr
    have B1 := Lib.hid hb
    have U1 := Lib.hid (HU.out.later hb)
    clear hr hb
    go_wp2_with fail
    refine (fixed02 _ U1.out).mono ?_
    rintro e w2 ⟨rfl, hb⟩
    have R2 := Lib.hid (R1.out.later hb)
    have B2 := Lib.hid (B1.out.trans (hb.mono B1.out.size))
    clear hb
    go_wp2_with fail
    refine (may_as _ R2.out (by omega) HV).mono ?_
    rintro e w3 ⟨rfl, hb⟩
    have R3 := Lib.hid (R2.out.later hb)
    have B3 := Lib.hid (B2.out.trans (hb.mono B2.out.size))
    clear hb
    go_wp2_with fail
    refine (of_as _ R3.out (by omega) HF).mono ?_
    rintro e w4 ⟨rfl, hb⟩
    have B4 := Lib.hid (B3.out.trans (hb.mono B3.out.size))
    clear hb
    go_wp2_with fail
    refine (rusual_any _).mono ?_
    rintro e w5 ⟨A5, c5, rfl, hr, hb⟩
    have R5 := Lib.hid hr
    have B5 := Lib.hid (B4.out.trans (hb.mono B4.out.size))
    clear hr hb
    go_wp2_with fail
    refine (rof_as _ R5.out HR).mono ?_
    rintro e w' ⟨rfl, rfl⟩
    go_wp2_with fail
    refine (isSpace_as _ HB).mono ?_
    rintro e w' ⟨rfl, rfl⟩
    go_wp2_with fail
    go_ret
    exact ⟨by simp, B5.out⟩
end Go.Proofs.YthhcdblkbdnbeaaDoor
