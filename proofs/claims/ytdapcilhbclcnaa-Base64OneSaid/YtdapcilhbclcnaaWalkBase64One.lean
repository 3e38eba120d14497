/- The walk of Base64One: true for every input. -/
import Derived.Test.YtdapcilhbclcnaaB64Fixed
namespace Go.Proofs.Ytdapcilhbclcnaa
open Go.RowKit

theorem str_whole (s : ByteArray) : (⟨s.data.toList.toArray⟩ : ByteArray) = s := by rw [Array.toArray_toList]

set_option maxRecDepth 100000 in
set_option maxHeartbeats 1000000 in
theorem walkBase64One (w : World) (s : ByteArray) (hm : s.size ≤ maxLen) :
    Calls Try.prog 5 #[.string s] w fun e w' => e = .returned (.bool true) ∧ Below w.heap.size w w' := by
  unfold maxLen at hm
  by_cases hl : 2000 < s.size
  · have hl1 : (2000 : Int) < s.size := by omega
    go_enter Try.func5, Try.ntmps5
    go_wp2_with fail
    refine (fixed03 _).mono ?_
    rintro e w' ⟨rfl, hb⟩
    go_wp2_with fail
    go_ret
    exact ⟨rfl, hb⟩
  have hl1 : ¬ (2000 : Int) < s.size := by omega
  obtain ⟨b, n, ok, hd⟩ : ∃ b n ok, dec64 s.data.toList = (b, n, ok) := ⟨_, _, _, rfl⟩
  have HD := Lib.hid hd
  cases ok
  · obtain ⟨rfl, hn⟩ := dec64_no hd
    rw [str_len] at hn
    have hn1 : (n : Int) ≤ s.size := by omega
    have hn2 : (0 : Int) ≤ n := by omega
    clear hd
    go_enter Try.func5, Try.ntmps5
    go_wp2_with fail
    refine (decode64_as _ (by omega) HD.out).mono ?_
    rintro e w1 ⟨A, c, rfl, _, hb⟩
    go_wp2_with fail
    refine (fixed03 _).mono ?_
    rintro e w2 ⟨rfl, hb2⟩
    have HB := Lib.hid (hb.trans (hb2.mono hb.size))
    clear hb hb2
    go_wp2_with fail
    go_ret
    exact ⟨rfl, HB.out⟩
  · obtain ⟨rfl, _⟩ := dec64_yes hd
    have he := enc_dec64 _ s.data.toList b (Nat.le_refl _) hd
    have hbl := enc64_len b
    rw [he, str_len] at hbl
    have hbl2 : b.length ≤ 2000 := by omega
    have HE := Lib.hid (show (⟨(enc64 b).toArray⟩ : ByteArray) = s from by rw [he, str_whole])
    clear hd he hbl
    go_enter Try.func5, Try.ntmps5
    go_wp2_with fail
    refine (decode64_as _ (by omega) HD.out).mono ?_
    rintro e w1 ⟨A, c, rfl, hbt, hb⟩
    go_wp2_with fail
    refine (fixed03 _).mono ?_
    rintro e w2 ⟨rfl, hb2⟩
    have HT := Lib.hid (RowAt.mono (RowAt.below hbt hb2) hb2.size)
    have HB := Lib.hid (hb.trans (hb2.mono hb.size))
    clear hb hb2 hbt
    go_wp2_with fail
    refine (encode64_any _ HT.out (by omega)).mono ?_
    rintro e w3 ⟨he, hb3⟩
    rw [HE.out] at he
    subst he
    have HB3 := Lib.hid (HB.out.trans (hb3.mono HB.out.size))
    clear hb3
    go_wp2_with fail
    go_ret
    exact ⟨by simp, HB3.out⟩
end Go.Proofs.Ytdapcilhbclcnaa
