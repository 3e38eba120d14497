/- The walks of the document's digits and of its Number. -/
import Derived.Test.YtefhifmilmedhaaDoorLineNum
import Derived.Test.YtefhifmilmedhaaDoorLineParts
import Derived.Lib.ItoaLen
namespace Go.Proofs.YtefhifmilmedhaaDoor
open Go.RowKit

theorem ten_fin : ∀ d : Fin 10, (([48, 49, 50, 51, 52, 53, 54, 55, 56, 57] : List UInt8).drop d.val).take (d.val + 1 - d.val) = [UInt8.ofNat (48 + d.val)] := by decide
theorem ten_piece {d : Nat} (h : d < 10) : ({ data := #[48, 49, 50, 51, 52, 53, 54, 55, 56, 57] } : ByteArray).extract d (d + 1) = strOf [UInt8.ofNat (48 + d)] := by
  rw [strOf_extract]
  exact congrArg strOf (ten_fin ⟨d, h⟩)
theorem strOf_append (a b : List UInt8) : strOf a ++ strOf b = strOf (a ++ b) := by
  apply ByteArray.ext
  simp [strOf]

set_option maxRecDepth 100000 in
theorem rdigits_any (n : Nat) (h : n < 18446744073709551616) (w : World) : Calls Tryd.prog 38 #[.int .u64 n] w fun e w' => e = .returned (.string (strOf (Lib.decDigits n))) ∧ w' = w := by
  go_enter Tryd.func38, Tryd.ntmps38
  go_wp2_with fail
  go_loopw [0, 4] (fun m s wr => ∃ (k : Nat) (x : List UInt8), m = .int .u64 k ∧ s = .string (strOf x) ∧ Lib.decDigits n = Lib.decDigits k ++ x ∧ k ≤ n ∧ wr = w) (fun m _ _ => (intOf m).toNat)
  case atStart => exact ⟨n, [], rfl, rfl, by simp, Nat.le_refl _, rfl⟩
  case round =>
    obtain ⟨k, x, rfl, rfl, hd, hk, rfl⟩ := hrel
    have hxl : x.length ≤ 20 := by
      have h1 := congrArg List.length hd
      rw [List.length_append, Lib.decDigits_length] at h1
      have := Lib.nDigits_le20 n h
      omega
    by_cases h9 : 9 < k
    · have hb : ¬ 9223372036854775807 < min (k % 10 + 1) 10 - k % 10 + (strOf x).size := by rw [strOf_size]; omega
      have hd' : Lib.decDigits n = Lib.decDigits (k / 10) ++ (UInt8.ofNat (48 + k % 10) :: x) := by
        rw [hd, Lib.decDigits, dif_neg (by omega), List.append_assoc]; rfl
      have HD := Lib.hid hd'
      clear hd hd'
      go_wp2_with fail
      go_roundw
      case rel => exact ⟨k / 10, _, rfl, by rw [ten_piece (Nat.mod_lt _ (by decide)), strOf_append]; rfl, HD.out, by omega, trivial⟩
      case measure => simp [intOf]; omega
    · have hb : ¬ 9223372036854775807 < min (k + 1) 10 - k + (strOf x).size := by rw [strOf_size]; omega
      have hd' : Lib.decDigits n = UInt8.ofNat (48 + k) :: x := by
        rw [hd, Lib.decDigits_one (by omega)]; rfl
      have HD := Lib.hid hd'
      clear hd hd'
      go_wp2_with fail
      go_ret
      exact ⟨by rw [ten_piece (by omega), strOf_append, HD.out]; rfl, rfl⟩

set_option maxRecDepth 100000 in
theorem rDigits_any (n : Int) (h0 : -9223372036854775808 ≤ n) (h1 : n ≤ 9223372036854775807) (w : World) : Calls Tryd.prog 22 #[.int .i64 n] w fun e w' => e = .returned (.string (strOf (Lib.itoa n))) ∧ w' = w := by
  by_cases hn : n < 0
  · obtain ⟨u, hu⟩ : ∃ u : Nat, (u : Int) = -n := ⟨(-n).toNat, by omega⟩
    have hi : Lib.itoa n = 45 :: Lib.decDigits u := by rw [show n = -(u : Int) from by omega, Lib.itoa_neg u (by omega)]
    have hl : (Lib.decDigits u).length ≤ 20 := by rw [Lib.decDigits_length]; exact Lib.nDigits_le20 u (by omega)
    have hb : ¬ 9223372036854775807 < 1 + (strOf (Lib.decDigits u)).size := by rw [strOf_size]; omega
    have hw1 : wrap64 (n + 1) = n + 1 := by unfold wrap64; omega
    have hw2 : wrap64 (-(n + 1)) = -(n + 1) := by unfold wrap64; omega
    have hw3 : IntKind.u64.wrap (-(n + 1)) = -(n + 1) := by rw [IntKind.wrap_u64]; omega
    have hw4 : IntKind.u64.wrap (-(n + 1) + 1) = (u : Int) := by rw [IntKind.wrap_u64]; omega
    have HI := Lib.hid hi
    have HU := Lib.hid hu
    clear hi hu hl
    go_enter Tryd.func22, Tryd.ntmps22
    go_wp2_with (go_at_call 38; refine (rdigits_any u (by have := HU.out; omega) _).mono ?_; rintro e w' ⟨rfl, rfl⟩)
    go_ret
    exact ⟨by rw [HI.out, show ({ data := #[45] } : ByteArray) = strOf [45] from rfl, strOf_append]; rfl, rfl⟩
  · obtain ⟨u, rfl⟩ := Int.eq_ofNat_of_zero_le (show 0 ≤ n by omega)
    have hw3 : IntKind.u64.wrap (u : Int) = (u : Int) := by rw [IntKind.wrap_u64]; omega
    go_enter Tryd.func22, Tryd.ntmps22
    go_wp2_with (go_at_call 38; refine (rdigits_any u (by omega) _).mono ?_; rintro e w' ⟨rfl, rfl⟩)
    go_ret
    exact ⟨by rw [Lib.itoa_nonneg]; rfl, rfl⟩

/-- What the document says of a text as a number. -/
def refN (l : List UInt8) : Int := match numL l with | some n => (n : Int) | none => -1
theorem refN_none {l : List UInt8} (h : numL l = none) : refN l = -1 := by unfold refN; rw [h]
theorem refN_some {l : List UInt8} {n : Nat} (h : numL l = some n) : refN l = n := by unfold refN; rw [h]
theorem num_w5 (n x : Nat) (h : n < 10000000) (hx : x ≤ 57) : wrap64 (10 * (n : Int) + (x : Int)) = 10 * (n : Int) + (x : Int) := by unfold wrap64; omega
theorem num_w6 (n x : Nat) (h : n < 10000000) (h48 : 48 ≤ x) (hx : x ≤ 57) : wrap64 (10 * (n : Int) + (x : Int) - 48) = ((10 * n + (x - 48) : Nat) : Int) := by unfold wrap64; omega

set_option maxRecDepth 100000 in
set_option maxHeartbeats 2000000 in
theorem rnumber_any (s : ByteArray) (w : World) : Calls Tryd.prog 20 #[.string s] w fun e w' => e = .returned (.int .i64 (refN s.data.toList)) ∧ ∃ k, w' = w.drewN k := by
  have hsz := str_len s
  by_cases h0 : s.size = 0
  · have h1 := empty_str h0
    have HV := Lib.hid (refN_none (l := s.data.toList) (by unfold numL; rw [if_pos (.inl (List.eq_nil_of_length_eq_zero (by omega)))]))
    clear hsz
    go_enter Tryd.func20, Tryd.ntmps20
    go_wp2_with fail
    go_ret
    exact ⟨by rw [HV.out]; rfl, 0, rfl⟩
  · have hp : 0 < s.size := by omega
    have h1 := some_str hp
    have h1' : s.toList.isEmpty = false := by rw [List.isEmpty_eq_false_iff]; exact h1
    have hnil : s.data.toList ≠ [] := fun e => by rw [e] at hsz; simp at hsz; omega
    by_cases h7 : 7 < s.size
    · have h7' : (7 : Int) < (s.size : Int) := by omega
      have HV := Lib.hid (refN_none (l := s.data.toList) (by unfold numL; rw [if_pos (.inr (.inl (by omega)))]))
      clear hsz hnil
      go_enter Tryd.func20, Tryd.ntmps20
      go_wp2_with fail
      go_ret
      exact ⟨by rw [HV.out]; rfl, 0, rfl⟩
    · have h7' : ¬ (7 : Int) < (s.size : Int) := by omega
      have h7'' : (s.size : Int) ≤ 7 := by omega
      have HN := Lib.hid (ref_num s.data.toList (fun e => e.elim hnil (fun e => by omega)))
      have HZ := Lib.hid hsz
      clear hnil hsz
      go_enter Tryd.func20, Tryd.ntmps20
      go_wp2_with fail
      go_loopw [3, 4] (fun m i wr => ∃ k n q : Nat, k ≤ s.size ∧ m = .int .i64 n ∧ i = .int .i64 k ∧ numF n (s.data.toList.drop k) = numF 0 s.data.toList ∧ n < 10 ^ k ∧ wr = w.drewN q) (fun _ i _ => s.size - (intOf i).toNat)
      case atStart => exact ⟨0, 0, 0, Nat.zero_le _, rfl, rfl, by simp, by decide, rfl⟩
      case round =>
        obtain ⟨k, n, q, hk, rfl, rfl, hn, hb, rfl⟩ := hrel
        have hpw : 10 ^ k ≤ 10000000 := Nat.pow_le_pow_right (n := 10) (i := k) (j := 7) (by decide) (by omega)
        have hn7 : n < 10000000 := Nat.lt_of_lt_of_le hb hpw
        have HBK := Lib.hid hb
        clear hb hpw
        by_cases hlt : k < s.size
        · have hdr : s.data.toList.drop k = s[k] :: s.data.toList.drop (k + 1) := List.drop_eq_getElem_cons (by have := HZ.out; omega)
          rw [hdr, numF] at hn
          by_cases hd : 48 ≤ (s[k]).toNat ∧ (s[k]).toNat ≤ 57
          · rw [if_pos hd] at hn
            have g1 : ¬ ((s[k]).toNat : Int) < 48 := by omega
            have g2 : ¬ (57 : Int) < ((s[k]).toNat : Int) := by omega
            have g1' : (48 : Int) ≤ ((s[k]).toNat : Int) := by omega
            have g2' : ((s[k]).toNat : Int) ≤ 57 := by omega
            have hw1 : wrap64 ((k : Int) + 1) = ((k + 1 : Nat) : Int) := by unfold wrap64; omega
            have hw3 : wrap64 (10 * (n : Int)) = 10 * (n : Int) := num_w3 n hn7
            have hw5 := num_w5 n (s[k]).toNat hn7 hd.2
            have hw6 := num_w6 n (s[k]).toNat hn7 hd.1 hd.2
            have HQ := Lib.hid hn
            have HB := Lib.hid (show 10 * n + ((s[k]).toNat - 48) < 10 ^ (k + 1) from num_pow _ _ _ HBK.out (by omega))
            have HD := Lib.hid hd
            clear hn hdr hd
            go_wp2_with fail
            go_roundw
            case rel => exact ⟨k + 1, 10 * n + ((s[k]).toNat - 48), q, by omega, by congr 1; have := HD.out; omega, rfl, HQ.out, HB.out, rfl⟩
            case measure => show s.size - ((k : Int) + 1).toNat < s.size - ((k : Int)).toNat; omega
          · rw [if_neg hd] at hn
            have HV := Lib.hid (refN_none (HN.out.trans (by rw [← hn]; rfl)))
            rcases Nat.lt_or_ge (s[k]).toNat 48 with hx | hx
            · have g1 : ((s[k]).toNat : Int) < 48 := by omega
              clear hn hdr hd hx
              go_wp2_with fail
              go_ret
              exact ⟨by rw [HV.out]; rfl, q, rfl⟩
            · have g1 : ¬ ((s[k]).toNat : Int) < 48 := by omega
              have g1' : (48 : Int) ≤ ((s[k]).toNat : Int) := by omega
              have g2 : (57 : Int) < ((s[k]).toNat : Int) := by omega
              clear hn hdr hd hx
              go_wp2_with fail
              go_ret
              exact ⟨by rw [HV.out]; rfl, q, rfl⟩
        · obtain rfl : k = s.size := by omega
          have hdr : s.data.toList.drop s.size = [] := List.drop_of_length_le (by have := HZ.out; omega)
          rw [hdr, numF] at hn
          have hi : Lib.itoa (n : Int) = Lib.decDigits n := Lib.itoa_nonneg n
          by_cases hc : Lib.decDigits n = s.data.toList
          · have hq : ((strOf (Lib.decDigits n)).toList == s.toList) = true := by
              rw [ByteArray.toList_eq, ByteArray.toList_eq, strOf_list, beq_iff_eq]; exact hc
            have HV := Lib.hid (refN_some (l := s.data.toList) (n := n) (HN.out.trans (by rw [← hn]; simp only [Option.bind_some]; rw [if_pos hc])))
            clear hn hdr hc
            go_wp2_with (go_at_call 22; refine (rDigits_any n (by omega) (by omega) _).mono ?_; rw [hi]; rintro e w' ⟨rfl, rfl⟩)
            go_ret
            exact ⟨by rw [HV.out]; rfl, q, rfl⟩
          · have hq : ((strOf (Lib.decDigits n)).toList == s.toList) = false := by
              rw [ByteArray.toList_eq, ByteArray.toList_eq, strOf_list, beq_eq_false_iff_ne]; exact hc
            have HV := Lib.hid (refN_none (l := s.data.toList) (HN.out.trans (by rw [← hn]; simp only [Option.bind_some]; rw [if_neg hc])))
            clear hn hdr hc
            go_wp2_with (go_at_call 22; refine (rDigits_any n (by omega) (by omega) _).mono ?_; rw [hi]; rintro e w' ⟨rfl, rfl⟩)
            go_ret
            exact ⟨by rw [HV.out]; rfl, q, rfl⟩
end Go.Proofs.YtefhifmilmedhaaDoor
