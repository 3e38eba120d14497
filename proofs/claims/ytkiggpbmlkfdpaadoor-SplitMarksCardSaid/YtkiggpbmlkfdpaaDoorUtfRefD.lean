/- The walks of the reference's whole, might, Decode. -/
import Derived.Test.YtkiggpbmlkfdpaaDoorUtfRef
import Derived.Test.YtkiggpbmlkfdpaaDoorUtfRefE
namespace Go.Proofs.YtkiggpbmlkfdpaaDoor
open Go.RowKit

set_option maxRecDepth 100000 in
set_option maxHeartbeats 1000000 in
theorem rwhole_any (s : ByteArray) (n : Nat) (w : World) (h1 : 1 ≤ n) (h4 : n ≤ 4) (hs : n ≤ s.size) (hm : s.size ≤ maxLen) :
    Calls Tryd.prog 71 #[.string s, .int .i64 (n : Int)] w fun e w' => e = .returned (.int .i64 (wholeOf s.data.toList n)) ∧ Below w.heap.size w w' := by
  have hs1 : (n : Int) ≤ (s.size : Int) := by omega
  go_enter Tryd.func71, Tryd.ntmps71
  go_wp2_with fail
  refine (rbits_any s n _ h1 h4 hs hm).mono ?_
  rintro e w' ⟨rfl, rfl⟩
  go_wp2_with fail
  refine (rencode_any _ _).mono ?_
  rintro e w' ⟨rfl, hb⟩
  go_wp2_with fail
  all_goals go_ret
  · rename_i h2 h3
    refine ⟨ret_int ?_, hb⟩
    simp only [str_eq_iff, List.drop_zero, Nat.sub_zero] at h3
    unfold wholeOf
    rw [if_neg (fun hh => by rw [decide_eq_true hh.2] at h3; cases h3)]
  · rename_i h2 h3
    refine ⟨ret_int ?_, hb⟩
    simp only [str_eq_iff, List.drop_zero, Nat.sub_zero, Bool.not_eq_false', decide_eq_true_eq] at h3
    unfold wholeOf
    rw [if_pos ⟨h2, h3⟩]
  · rename_i h2
    refine ⟨ret_int ?_, hb⟩
    unfold wholeOf
    rw [if_neg (fun hh => h2 hh.1)]

set_option maxRecDepth 100000 in
set_option maxHeartbeats 1000000 in
theorem rmight_any (s : ByteArray) (n : Nat) (w : World) (h1 : 1 ≤ s.size) (h4 : n ≤ 4) (hs : s.size < n) :
    Calls Tryd.prog 72 #[.string s, .int .i64 (n : Int)] w fun e w' => e = .returned (.bool (mightOf s.data.toList n)) ∧ w = w' := by
  go_enter Tryd.func72, Tryd.ntmps72
  go_wp2_with fail
  go_loop [5, 6] (fun lo hi => ∃ (a b : ByteArray) (k : Nat), lo = .string a ∧ hi = .string b ∧ a.size ≤ n ∧ b.size ≤ n ∧ Hid (a.size = k + s.size ∧ b.size = k + s.size ∧ a.data.toList = s.data.toList ++ List.replicate k 128 ∧ b.data.toList = s.data.toList ++ List.replicate k 191)) (fun a _ => n - lenOf a)
  case atStart => exact ⟨s, s, 0, rfl, rfl, by omega, by omega, by omega, by omega, by simp, by simp⟩
  case round =>
    obtain ⟨a, b, k, rfl, rfl, ha1, hb1, HA⟩ := hrel
    by_cases hkn : a.size < n
    · have hkn1 : (a.size : Int) < n := by omega
      have hb2 : b.size < n := by obtain ⟨k1, k2, _⟩ := HA.out; omega
      have e1 : (a ++ ({ data := #[128] } : ByteArray)).size = a.size + 1 := by rw [ByteArray.size_append]; rfl
      have e2 : (b ++ ({ data := #[191] } : ByteArray)).size = b.size + 1 := by rw [ByteArray.size_append]; rfl
      have E1 := Lib.hid e1
      have E2 := Lib.hid e2
      clear e1 e2
      go_wp2_with fail
      go_round
      case rel =>
        refine ⟨_, _, k + 1, rfl, rfl, by rw [E1.out]; omega, by rw [E2.out]; omega, ?_, ?_, ?_, ?_⟩
        · rw [E1.out]; have := HA.out.1; omega
        · rw [E2.out]; have := HA.out.2.1; omega
        · rw [ByteArray.data_append, Array.toList_append, HA.out.2.2.1, List.replicate_succ', List.append_assoc]
        · rw [ByteArray.data_append, Array.toList_append, HA.out.2.2.2, List.replicate_succ', List.append_assoc]
      case measure => simp only [lenOf]; rw [E1.out]; omega
    · have hkn1 : ¬ (a.size : Int) < n := by omega
      have ⟨k1, k2, k3, k4⟩ := HA.out
      have hk5 : k = n - s.data.toList.length := by rw [str_len]; have k1' : a.size = k + s.size := k1; omega
      subst hk5
      have HM : Hid (mightOf s.data.toList n = decide (0 ≤ rBits a.data.toList n ∧ 0 ≤ rBits b.data.toList n ∧ max (rBits a.data.toList n) (mightLeast n) ≤ min (rBits b.data.toList n) 1114111 ∧ ¬ (55296 ≤ max (rBits a.data.toList n) (mightLeast n) ∧ min (rBits b.data.toList n) 1114111 ≤ 57343))) := by
        rw [k3, k4]; exact rfl
      have hb3 : n ≤ b.size := by have k1' : a.size = n - s.data.toList.length + s.size := k1; have k2' : b.size = n - s.data.toList.length + s.size := k2; omega
      clear k1 k2 k3 k4 HA
      have ca := rbits_any a n w (by omega) h4 (by omega) (by unfold maxLen; omega)
      have cb := rbits_any b n w (by omega) h4 hb3 (by unfold maxLen; omega)
      have ba := rBits_bd a.data.toList n h4
      have bb := rBits_bd b.data.toList n h4
      generalize rBits a.data.toList n = x at *
      generalize rBits b.data.toList n = y at *
      have CA := Lib.hid ca
      have CB := Lib.hid cb
      clear ca cb
      have hd : n = 2 ∨ n = 3 ∨ n = 4 := by omega
      by_cases hx : x < 0
      · have hx' : ¬ 0 ≤ x := by omega
        have HF : Hid (mightOf s.data.toList n = false) := by rw [HM.out, decide_eq_false_iff_not]; exact fun h => hx' h.1
        go_wp2_with fail
        refine CA.out.mono ?_
        rintro e w' ⟨rfl, rfl⟩
        go_wp2_with fail
        refine CB.out.mono ?_
        rintro e w' ⟨rfl, rfl⟩
        go_wp2_with fail
        go_ret
        exact ⟨ret_bool HF.out.symm, rfl⟩
      by_cases hy : y < 0
      · have hy' : ¬ 0 ≤ y := by omega
        have HF : Hid (mightOf s.data.toList n = false) := by rw [HM.out, decide_eq_false_iff_not]; exact fun h => hy' h.2.1
        go_wp2_with fail
        refine CA.out.mono ?_
        rintro e w' ⟨rfl, rfl⟩
        go_wp2_with fail
        refine CB.out.mono ?_
        rintro e w' ⟨rfl, rfl⟩
        go_wp2_with fail
        go_ret
        exact ⟨ret_bool HF.out.symm, rfl⟩
      · rcases hd with hd | hd | hd
        · have HL : Hid (mightLeast n = 128) := by rw [hd]; rfl
          have b3 : ((n : Int) == 3) = false := beq_no (by omega)
          have b4 : ((n : Int) == 4) = false := beq_no (by omega)
          clear hd
          rw [HL.out] at HM
          go_wp2_with fail
          refine CA.out.mono ?_
          rintro e w' ⟨rfl, rfl⟩
          go_wp2_with fail
          refine CB.out.mono ?_
          rintro e w' ⟨rfl, rfl⟩
          go_wp2_with fail
          all_goals go_ret
          all_goals refine ⟨ret_bool ?_, rfl⟩
          all_goals rw [HM.out]
          all_goals rw [Bool.eq_iff_iff]
          all_goals simp
          all_goals omega
        · have HL : Hid (mightLeast n = 2048) := by rw [hd]; rfl
          have b3 : ((n : Int) == 3) = true := beq_yes (by omega)
          have b4 : ((n : Int) == 4) = false := beq_no (by omega)
          clear hd
          rw [HL.out] at HM
          go_wp2_with fail
          refine CA.out.mono ?_
          rintro e w' ⟨rfl, rfl⟩
          go_wp2_with fail
          refine CB.out.mono ?_
          rintro e w' ⟨rfl, rfl⟩
          go_wp2_with fail
          all_goals go_ret
          all_goals refine ⟨ret_bool ?_, rfl⟩
          all_goals rw [HM.out]
          all_goals rw [Bool.eq_iff_iff]
          all_goals simp
          all_goals omega
        · have HL : Hid (mightLeast n = 65536) := by rw [hd]; rfl
          have b3 : ((n : Int) == 3) = false := beq_no (by omega)
          have b4 : ((n : Int) == 4) = true := beq_yes (by omega)
          clear hd
          rw [HL.out] at HM
          go_wp2_with fail
          refine CA.out.mono ?_
          rintro e w' ⟨rfl, rfl⟩
          go_wp2_with fail
          refine CB.out.mono ?_
          rintro e w' ⟨rfl, rfl⟩
          go_wp2_with fail
          all_goals go_ret
          all_goals refine ⟨ret_bool ?_, rfl⟩
          all_goals rw [HM.out]
          all_goals rw [Bool.eq_iff_iff]
          all_goals simp
          all_goals omega

end Go.Proofs.YtkiggpbmlkfdpaaDoor
