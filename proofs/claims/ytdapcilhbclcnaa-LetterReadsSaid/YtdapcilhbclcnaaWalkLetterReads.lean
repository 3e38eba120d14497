/- The walk of LetterReads: true for every input. -/
import Derived.Test.YtdapcilhbclcnaaLetFixed
import Derived.Test.YtdapcilhbclcnaaLetRRead
import Derived.Test.YtdapcilhbclcnaaLetRef
namespace Go.Proofs.Ytdapcilhbclcnaa
open Go.RowKit

set_option maxRecDepth 100000 in
set_option maxHeartbeats 1000000 in
theorem walkLetterReads (w : World) (s : ByteArray) (hm : s.size ≤ maxLen) :
    Calls Try.prog 10 #[.string s] w fun e w' => e = .returned (.bool true) ∧ Below w.heap.size w w' := by
  unfold maxLen at hm
  by_cases hl : 300 < s.size
  · have hl1 : (300 : Int) < s.size := by omega
    go_enter Try.func10, Try.ntmps10
    go_wp2_with fail
    refine (fixed04 _).mono ?_
    rintro e w' ⟨rfl, hb⟩
    go_wp2_with fail
    go_ret
    exact ⟨rfl, hb⟩
  have hl1 : ¬ (300 : Int) < s.size := by omega
  obtain ⟨b, n, ok, hd⟩ : ∃ b n ok, rdAt s.data.toList 0 = (b, n, ok) := ⟨_, _, _, rfl⟩
  have HD := Lib.hid hd
  have HS := Lib.hid (show s.size ≤ 100000 from by omega)
  clear hd
  go_enter Try.func10, Try.ntmps10
  go_wp2_with fail
  refine (lread_as _ HS.out HD.out).mono ?_
  rintro e w1 ⟨A, c, rfl, hbt, hb⟩
  have HT := Lib.hid hbt
  have HB := Lib.hid hb
  clear hb hbt
  go_wp2_with fail
  refine (lrread_any _ _ HS.out HD.out).mono ?_
  rintro e w2 ⟨rfl, hb2⟩
  have HT2 := Lib.hid (RowAt.mono (RowAt.below HT.out hb2) hb2.size)
  have HB2 := Lib.hid (HB.out.trans (hb2.mono HB.out.size))
  clear hb2
  go_wp2_with fail
  refine (fixed04 _).mono ?_
  rintro e w3 ⟨rfl, hb3⟩
  have hcv := run_string_bytes 22 9 5 Try.underlying22 Try.underlying5 Try.underlying9 (RowAt.mono (RowAt.below HT2.out hb3) hb3.size)
  have HB3 := Lib.hid (HB2.out.trans (hb3.mono HB2.out.size))
  clear hb3
  go_wp2_with fail
  go_ret
  exact ⟨by simp, HB3.out⟩
end Go.Proofs.Ytdapcilhbclcnaa
