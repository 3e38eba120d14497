/- The walks of letter's reference: Write. -/
import Derived.Test.YtdapcilhbclcnaaLetWrite
import Derived.Test.YtdapcilhbclcnaaUtfRefE
namespace Go.Proofs.Ytdapcilhbclcnaa
open Go.RowKit
set_option linter.unusedVariables false

theorem lstr_app (a b : List UInt8) : strOf a ++ strOf b = strOf (a ++ b) := by
  apply ByteArray.ext
  simp [strOf]
theorem lstr_get (s : ByteArray) (k : Nat) (h : k < s.size) : s.data.toList.take (k + 1) = s.data.toList.take k ++ [s[k]] := by
  rw [List.take_succ_eq_append_getElem (by rw [str_len]; exact h)]; rfl

set_option maxHeartbeats 1000000 in
set_option maxRecDepth 100000 in
theorem lrwrite_any (s : ByteArray) (w : World) (hm : s.size ≤ 100000) :
    Calls Try.prog 25 #[.string s] w fun e w' => e = .returned (.string (strOf (wr s.data.toList))) ∧ Below w.heap.size w w' := by
  go_enter Try.func25, Try.ntmps25
  go_wp2_with fail
  go_loopw [3, 4] (fun o i w1 => ∃ (k : Nat) (d : List UInt8), k ≤ s.size ∧ i = .int .i64 k ∧ o = .string (strOf d) ∧ d.length ≤ 4 * k ∧ Hid (d = wr (s.data.toList.take k)) ∧ Below w.heap.size w w1) (fun _ i _ => s.size - (intOf i).toNat)
  case atStart => exact ⟨0, [], Nat.zero_le _, rfl, rfl, by simp, by rfl, Below.refl _ _⟩
  case round =>
    obtain ⟨k, d, hk, rfl, rfl, hd, HD, hb⟩ := hrel
    have HB := Lib.hid hb
    have hsz := hb.size
    clear hb
    by_cases hkx : k < s.size
    · have hk1 : (k : Int) < s.size := by omega
      have hx0 := u8_ge s[k]
      have hx1 := u8_le s[k]
      have hr := lOf_range hx0 hx1
      have HT := Lib.hid (show Go.Proofs.Ytdapcilhbclcnaa.wr (s.data.toList.take (k + 1)) = d ++ encOf (lOf s[k].toNat) from by rw [lstr_get s k hkx, wr_app, wr_one, HD.out])
      obtain ⟨p, hp⟩ : ∃ p, lOf (s[k].toNat : Int) = p := ⟨_, rfl⟩
      rw [hp] at hr HT
      have HP := Lib.hid hp
      have HI := Lib.hid (show isPoint p = true from by rw [isPoint_iff]; omega)
      obtain ⟨m, hmm⟩ : ∃ m, encOf p = m := ⟨_, rfl⟩
      rw [hmm] at HT
      have HM := Lib.hid hmm
      have hq4 : m.length ≤ 4 := by rw [← hmm]; exact (encOf_len HI.out).2
      have hz1 : (strOf d).size = d.length := rfl
      have hz2 : (strOf m).size = m.length := rfl
      have hlim : ¬ 9223372036854775807 < (strOf d).size + (strOf m).size := by rw [hz1, hz2]; omega
      have HA := Lib.hid (lstr_app d m)
      clear hp hr hmm hz1 hz2
      have hx2 : s[k].toNat ≤ 255 := by omega
      go_wp2_with fail
      refine (lref_as _ hx2 HP).mono ?_
      rintro e w' ⟨rfl, rfl⟩
      go_wp2_with fail
      refine (rencode_as _ HM HI).mono ?_
      rintro e w2 ⟨rfl, hb2⟩
      have HB2 := Lib.hid (HB.out.trans (hb2.mono hsz))
      clear hb2
      go_wp2_with fail
      go_roundw
      case rel => exact ⟨k + 1, d ++ m, by omega, by go_num, congrArg Value.string HA.out, by rw [List.length_append]; omega, HT.out.symm, HB2.out⟩
      case measure => simp [intOf]; omega
    · obtain rfl : k = s.size := by omega
      have hk1 : ¬ (s.size : Int) < s.size := by omega
      have HF := Lib.hid (show d = Go.Proofs.Ytdapcilhbclcnaa.wr s.data.toList from by have := HD.out; rw [List.take_of_length_le (by rw [str_len]; exact Nat.le_refl _)] at this; exact this)
      go_wp2_with fail
      go_ret
      rw [HF.out]
      exact ⟨rfl, HB.out⟩
theorem lrwrite_as {s S : ByteArray} (w : World) (hm : s.size ≤ 100000) (h : Hid (strOf (wr s.data.toList) = S)) :
    Calls Try.prog 25 #[.string s] w fun e w' => e = .returned (.string S) ∧ Below w.heap.size w w' := by
  have := lrwrite_any s w hm; rw [h.out] at this; exact this
end Go.Proofs.Ytdapcilhbclcnaa
