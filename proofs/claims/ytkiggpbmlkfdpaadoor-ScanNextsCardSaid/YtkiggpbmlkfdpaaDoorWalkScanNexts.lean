/- The walk of ScanNexts: true for every input. -/
import Derived.Test.YtkiggpbmlkfdpaaDoorScanFixed12
namespace Go.Proofs.YtkiggpbmlkfdpaaDoor
open Go.RowKit
set_option linter.unusedVariables false
set_option maxRecDepth 100000 in
set_option maxHeartbeats 2000000 in
theorem walkScanNexts (w : World) (hU : UsualAt w) (kind : Int) {At A : Option Addr} {nt ct n c : Nat} {t : List Rg} {l : List UInt8} (ht : RangesAt w w.heap.size At nt ct t) (h : BytesAt w w.heap.size A n c l) (final : Bool) :
    Calls Tryd.prog 3 #[.int .i64 kind, .slice At nt ct, .slice A n c, .bool final] w fun e w' => e = .returned (.bool true) ∧ Below w.heap.size w w' := by
  have hcap := ht.2.2.1
  have hcn := ht.2.1
  have hcap' := h.2.2.1
  have hcn' := h.2.1
  unfold maxLen at hcap hcap'
  obtain ⟨o, ho⟩ : ∃ o, (decide (80 < nt) || decide (200 < n)) = o := ⟨_, rfl⟩
  have HO := Lib.hid ho
  have HU := Lib.hid hU
  have HT := Lib.hid ht
  have HB := Lib.hid h
  have HL := Lib.hid h.len
  clear ho hU ht h
  go_enter Tryd.func3, Tryd.ntmps3
  go_wp2_with fail
  refine (great12 w HO.out (by omega) (by omega)).mono ?_
  rintro e w' ⟨rfl, rfl⟩
  cases o with
  | true =>
    go_wp2_with fail
    refine (fixed12 w HU.out).mono ?_
    rintro e w' ⟨rfl, hb⟩
    have HE := Lib.hid hb
    go_wp2_with fail
    go_ret
    exact ⟨rfl, HE.out⟩
  | false =>
    have hsm := HO.out
    rw [Bool.or_eq_false_iff, decide_eq_false_iff_not, decide_eq_false_iff_not] at hsm
    obtain ⟨hs1, hs2⟩ := hsm
    have HS := Lib.hid (show nt ≤ 80 ∧ n ≤ 200 from by omega)
    obtain ⟨r, hr⟩ : ∃ r, nextP kind t l final = r := ⟨_, rfl⟩
    have HR := Lib.hid hr
    clear hr hs1 hs2
    go_wp2_with fail
    refine (next_any kind final w HB.out HT.out (by have := HS.out; omega) (by have := HS.out; have := HL.out; omega) HR.out).mono ?_
    rintro e w1 ⟨rfl, hb1⟩
    have HB1 := Lib.hid hb1
    have hcv := run_string_bytes (P := Tryd.prog) 23 9 5 Tryd.underlying23 Tryd.underlying5 Tryd.underlying9 (show BytesAt w1 w1.heap.size A n c l from RowAt.mono (RowAt.below HB.out hb1) hb1.size)
    clear hb1
    go_wp2_with fail
    refine (rnext_any kind final (strOf l) w1 (RowAt.mono (RowAt.below HT.out HB1.out) HB1.out.size) (by rw [strOf_size]; have := HS.out; have := HL.out; omega) HR.out).mono ?_
    rintro e w2 ⟨rfl, hb2⟩
    have HB2 := Lib.hid (HB1.out.trans (hb2.mono HB1.out.size))
    clear hb2 hcv
    go_wp2_with fail
    refine (fixed12 w2 (HU.out.later HB2.out)).mono ?_
    rintro e w3 ⟨rfl, hb3⟩
    have HB3 := Lib.hid (HB2.out.trans (hb3.mono HB2.out.size))
    clear hb3
    have he1 : ((r.1 : Int) == (r.1 : Int)) = true := beq_self_eq_true _
    have he2 : (r.2 == r.2) = true := beq_self_eq_true _
    go_wp2_with fail
    go_ret
    first
      | exact ⟨rfl, HB3.out⟩
      | exact ⟨by simp, HB3.out⟩
end Go.Proofs.YtkiggpbmlkfdpaaDoor
