/- The walk of Base64Texts: true for every input. -/
import Derived.Test.YtdapcilhbclcnaaB64Fixed
import Derived.Test.YtdapcilhbclcnaaB64RefE
namespace Go.Proofs.Ytdapcilhbclcnaa
open Go.RowKit

set_option maxRecDepth 100000 in
set_option maxHeartbeats 1000000 in
theorem walkBase64Texts (w : World) {A : Option Addr} {n c : Nat} {l : List UInt8} (h : BytesAt w w.heap.size A n c l) :
    Calls Try.prog 3 #[.slice A n c] w fun e w' => e = .returned (.bool true) ∧ Below w.heap.size w w' := by
  have hc := h.2.1
  have hm := h.2.2.1
  unfold maxLen at hm
  have hlen := Lib.hid h.len
  by_cases hl : 2000 < n
  · have hl1 : (2000 : Int) < n := by omega
    go_enter Try.func3, Try.ntmps3
    go_wp2_with fail
    refine (fixed03 _).mono ?_
    rintro e w' ⟨rfl, hb⟩
    go_wp2_with fail
    go_ret
    exact ⟨rfl, hb⟩
  have hl1 : ¬ (2000 : Int) < n := by omega
  obtain ⟨SE, hSE⟩ : ∃ SE, strOf (enc64 l) = SE := ⟨_, rfl⟩
  have HSE := Lib.hid hSE
  have HSZ := Lib.hid (show SE.size ≤ 100000 from by rw [← hSE, strOf_size, enc64_len, ← hlen.out]; omega)
  have HDE := Lib.hid (show dec64 SE.data.toList = (l, 0, true) from by rw [← hSE, strOf_list, dec_enc])
  have HH := Lib.hid h
  have HLZ := Lib.hid (show (strOf l).size ≤ 100000 from by rw [strOf_size, ← hlen.out]; omega)
  clear hSE
  go_enter Try.func3, Try.ntmps3
  go_wp2_with fail
  refine (encode64_any _ HH.out (by omega)).mono ?_
  rintro e w1 ⟨he, hb⟩
  rw [show (⟨(enc64 l).toArray⟩ : ByteArray) = SE from HSE.out] at he
  subst he
  have H1 := Lib.hid (RowAt.mono (RowAt.below HH.out hb) hb.size)
  have HB := Lib.hid hb
  clear hb
  go_wp2_with fail
  refine (decode64_as _ HSZ.out HDE.out).mono ?_
  rintro e w2 ⟨A2, c2, rfl, hbt, hb2⟩
  have H2 := Lib.hid (RowAt.mono (RowAt.below H1.out hb2) hb2.size)
  have T2 := Lib.hid hbt
  have HB2 := Lib.hid (HB.out.trans (hb2.mono HB.out.size))
  clear hb2 hbt
  go_wp2_with fail
  refine (fixed03 _).mono ?_
  rintro e w3 ⟨rfl, hb3⟩
  have hcv := run_string_bytes 22 9 5 Try.underlying22 Try.underlying5 Try.underlying9 (RowAt.mono (RowAt.below H2.out hb3) hb3.size)
  have hcv2 := run_string_bytes 22 9 5 Try.underlying22 Try.underlying5 Try.underlying9 (RowAt.mono (RowAt.below T2.out hb3) hb3.size)
  have HB3 := Lib.hid (HB2.out.trans (hb3.mono HB2.out.size))
  clear hb3
  go_wp2_with fail
  refine (rencode64_any _ _ HLZ.out).mono ?_
  rintro e w4 ⟨he, rfl⟩
  rw [strOf_list, HSE.out] at he
  subst he
  go_wp2_with fail
  go_ret
  exact ⟨by simp, HB3.out⟩
end Go.Proofs.Ytdapcilhbclcnaa
