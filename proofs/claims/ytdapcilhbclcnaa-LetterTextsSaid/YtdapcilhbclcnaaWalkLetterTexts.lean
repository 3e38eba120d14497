/- The walk of LetterTexts: true for every input. -/
import Derived.Test.YtdapcilhbclcnaaLetFixed
import Derived.Test.YtdapcilhbclcnaaLetRef
namespace Go.Proofs.Ytdapcilhbclcnaa
open Go.RowKit

set_option maxRecDepth 100000 in
set_option maxHeartbeats 1000000 in
theorem walkLetterTexts (w : World) {A : Option Addr} {n c : Nat} {l : List UInt8} (h : BytesAt w w.heap.size A n c l) :
    Calls Try.prog 9 #[.slice A n c] w fun e w' => e = .returned (.bool true) ∧ Below w.heap.size w w' := by
  have hc := h.2.1
  have hm := h.2.2.1
  unfold maxLen at hm
  have hlen := Lib.hid h.len
  by_cases hl : 500 < n
  · have hl1 : (500 : Int) < n := by omega
    go_enter Try.func9, Try.ntmps9
    go_wp2_with fail
    refine (fixed04 _).mono ?_
    rintro e w' ⟨rfl, hb⟩
    go_wp2_with fail
    go_ret
    exact ⟨rfl, hb⟩
  have hl1 : ¬ (500 : Int) < n := by omega
  obtain ⟨SE, hSE⟩ : ∃ SE, strOf (wr l) = SE := ⟨_, rfl⟩
  have HSE := Lib.hid hSE
  have HSZ := Lib.hid (show SE.size ≤ 100000 from by have := wr_len l; rw [← hSE, strOf_size]; have := hlen.out; omega)
  have HDE := Lib.hid (show rdAt SE.data.toList 0 = (l, 0, true) from by rw [← hSE, strOf_list, read_wr])
  have HH := Lib.hid h
  have HLZ := Lib.hid (show (strOf l).size ≤ 100000 from by rw [strOf_size, ← hlen.out]; omega)
  have HSR := Lib.hid (show strOf (wr (strOf l).data.toList) = SE from by rw [strOf_list]; exact hSE)
  clear hSE
  go_enter Try.func9, Try.ntmps9
  go_wp2_with fail
  refine (lwrite_as _ HH.out (by omega) HSE).mono ?_
  rintro e w1 ⟨rfl, hb⟩
  have H1 := Lib.hid (RowAt.mono (RowAt.below HH.out hb) hb.size)
  have HB := Lib.hid hb
  clear hb
  go_wp2_with fail
  refine (lread_as _ HSZ.out HDE.out).mono ?_
  rintro e w2 ⟨A2, c2, rfl, hbt, hb2⟩
  have H2 := Lib.hid (RowAt.mono (RowAt.below H1.out hb2) hb2.size)
  have T2 := Lib.hid hbt
  have HB2 := Lib.hid (HB.out.trans (hb2.mono HB.out.size))
  clear hb2 hbt
  go_wp2_with fail
  refine (fixed04 _).mono ?_
  rintro e w3 ⟨rfl, hb3⟩
  have H3 := Lib.hid (RowAt.mono (RowAt.below H2.out hb3) hb3.size)
  have T3 := Lib.hid (RowAt.mono (RowAt.below T2.out hb3) hb3.size)
  have hcv := run_string_bytes 22 9 5 Try.underlying22 Try.underlying5 Try.underlying9 H3.out
  have HB3 := Lib.hid (HB2.out.trans (hb3.mono HB2.out.size))
  clear hb3
  go_wp2_with fail
  refine (lrwrite_as _ HLZ.out HSR).mono ?_
  rintro e w4 ⟨rfl, hb4⟩
  have hcv2 := run_string_bytes 22 9 5 Try.underlying22 Try.underlying5 Try.underlying9 (RowAt.mono (RowAt.below H3.out hb4) hb4.size)
  have hcv3 := run_string_bytes 22 9 5 Try.underlying22 Try.underlying5 Try.underlying9 (RowAt.mono (RowAt.below T3.out hb4) hb4.size)
  have HB4 := Lib.hid (HB3.out.trans (hb4.mono HB3.out.size))
  clear hb4 hcv
  go_wp2_with fail
  go_ret
  exact ⟨by simp, HB4.out⟩
end Go.Proofs.Ytdapcilhbclcnaa
