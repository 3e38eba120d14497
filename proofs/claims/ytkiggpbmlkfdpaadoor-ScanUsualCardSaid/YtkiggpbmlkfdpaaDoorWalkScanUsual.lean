/- The walk of ScanUsual: true for every input. -/
import Derived.Test.YtkiggpbmlkfdpaaDoorScanFixed12
namespace Go.Proofs.YtkiggpbmlkfdpaaDoor
open Go.RowKit
set_option linter.unusedVariables false
theorem UsualAt.drew {w : World} (h : UsualAt w) : UsualAt w.drew := h.later (Below.drew (Below.refl _ _))
set_option maxRecDepth 100000 in
set_option maxHeartbeats 2000000 in
theorem walkScanUsual (w : World) (hU : UsualAt w) (kind : Int) {A : Option Addr} {n c : Nat} {l : List UInt8} (h : BytesAt w w.heap.size A n c l) (final : Bool) :
    Calls Tryd.prog 4 #[.int .i64 kind, .slice A n c, .bool final] w fun e w' => e = .returned (.bool true) ∧ Below w.heap.size w w' := by
  have hcap' := h.2.2.1
  have hcn' := h.2.1
  unfold maxLen at hcap'
  have HU := Lib.hid hU
  have HB := Lib.hid h
  have HL := Lib.hid h.len
  clear hU h
  by_cases h2 : 200 < n
  · have h2' : (200 : Int) < (n : Int) := by omega
    go_enter Tryd.func4, Tryd.ntmps4
    go_wp2_with fail
    refine (fixed12 w HU.out).mono ?_
    rintro e w' ⟨rfl, hb⟩
    have HE := Lib.hid hb
    go_wp2_with fail
    go_ret
    exact ⟨rfl, HE.out⟩
  · have h2' : ¬ (200 : Int) < (n : Int) := by omega
    obtain ⟨r, hr⟩ : ∃ r, nextP kind usualT l final = r := ⟨_, rfl⟩
    have HR := Lib.hid hr
    have HS := Lib.hid (show n ≤ 200 from by omega)
    clear hr
    go_enter Tryd.func4, Tryd.ntmps4
    go_wp2_with fail
    refine (susual_any w HU.out).mono ?_
    rintro e w0 ⟨At, ct, rfl, ht0, hb0⟩
    have HB0 := Lib.hid hb0
    have HT0 := Lib.hid ht0
    clear hb0 ht0
    go_wp2_with fail
    refine (next_any kind final w0 (RowAt.mono (RowAt.below HB.out HB0.out) HB0.out.size) HT0.out (by omega) (by have := HS.out; have := HL.out; omega) HR.out).mono ?_
    rintro e w1 ⟨rfl, hb1⟩
    have HB1 := Lib.hid (HB0.out.trans (hb1.mono HB0.out.size))
    have HU1 := Lib.hid (show UsualAt w1 from HU.out.later HB1.out)
    have hb1' : BytesAt w1 w1.heap.size A n c l := RowAt.mono (RowAt.below HB.out HB1.out) HB1.out.size
    have HT1 := Lib.hid hb1'
    have hcv := run_string_bytes (P := Tryd.prog) 23 9 5 Tryd.underlying23 Tryd.underlying5 Tryd.underlying9 hb1'
    have hcd := run_string_bytes (P := Tryd.prog) (w := w1.drew) 23 9 5 Tryd.underlying23 Tryd.underlying5 Tryd.underlying9 hb1'
    clear hb1 hb1' HT0 HB0
    go_wp2_with fail
    go_region_with (first
      | (go_at_call 18; refine (susual_any w1.drew HU1.out.drew).mono ?_; rintro e w2 ⟨A2, c2, rfl, ht2, hb2⟩; have HT2 := Lib.hid ht2; have HB2 := Lib.hid hb2; have hcv2 := run_string_bytes (P := Tryd.prog) 23 9 5 Tryd.underlying23 Tryd.underlying5 Tryd.underlying9 (show BytesAt w2 w2.heap.size A n c l from RowAt.mono (RowAt.below HT1.out.drew hb2) hb2.size); clear ht2 hb2)
      | (go_at_call 17; refine (rnext_any kind final (strOf l) w2 HT2.out (by rw [strOf_size]; have := HS.out; have := HL.out; omega) HR.out).mono ?_; rintro e w3 ⟨rfl, hb3⟩; have HB3 := Lib.hid (HB1.out.trans (((Below.refl _ w1).drew.trans (HB2.out.trans (hb3.mono HB2.out.size))).mono HB1.out.size)); clear hb3))
    all_goals
      clear hcv hcd hcv2
      go_wp2_with fail
      refine (fixed12 w3 (HU.out.later HB3.out)).mono ?_
      rintro e w4 ⟨rfl, hb4⟩
      have HB4 := Lib.hid (HB3.out.trans (hb4.mono HB3.out.size))
      clear hb4
      go_wp2_with fail
      refine (susual_any w4 (HU.out.later HB4.out)).mono ?_
      rintro e w5 ⟨A5, c5, rfl, ht5, hb5⟩
      have HB5 := Lib.hid (HB4.out.trans (hb5.mono HB4.out.size))
      have HT5 := Lib.hid ht5
      clear ht5 hb5
      go_wp2_with fail
      refine (rmay_as w5 HT5.out (Lib.hid usualT_may)).mono ?_
      rintro e w6 ⟨rfl, hb6⟩
      have HB6 := Lib.hid (HB5.out.trans (hb6.mono HB5.out.size))
      clear hb6
      have he1 : ((r.1 : Int) == (r.1 : Int)) = true := beq_self_eq_true _
      have he2 : (r.2 == r.2) = true := beq_self_eq_true _
      go_wp2_with fail
      go_ret
      first
        | exact ⟨rfl, HB6.out⟩
        | exact ⟨by simp, HB6.out⟩
end Go.Proofs.YtkiggpbmlkfdpaaDoor
