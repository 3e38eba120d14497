/- The walks of line.Number and line.Digits. -/
import Derived.Test.YtefhifmilmedhaaDoorWords
import Derived.Test.YtefhifmilmedhaaDoorNumLaw
import Derived.Test.YtefhifmilmedhaaDoorProg
import Derived.BigQuiet
import Derived.LoopN
namespace Go.Proofs.YtefhifmilmedhaaDoor
open Go.RowKit

def numV (l : List UInt8) : Value := .tuple #[.int .i64 (((numL l).getD 0 : Nat) : Int), .bool (numL l).isSome]

theorem empty_str {s : ByteArray} (h : s.size = 0) : s.toList = [] := by
  rw [ByteArray.toList_eq]
  exact List.eq_nil_of_length_eq_zero (by rw [str_len]; exact h)
theorem some_str {s : ByteArray} (h : 0 < s.size) : s.toList ≠ [] := by
  rw [ByteArray.toList_eq]
  intro e
  have := congrArg List.length e
  rw [str_len, List.length_nil] at this
  omega
theorem numV_none {l : List UInt8} (h : numL l = none) : numV l = .tuple #[.int .i64 0, .bool false] := by unfold numV; rw [h]; rfl
theorem numV_some {l : List UInt8} {n : Nat} (h : numL l = some n) : numV l = .tuple #[.int .i64 (n : Int), .bool true] := by unfold numV; rw [h]; rfl
theorem head_str {s : ByteArray} (h : 0 < s.size) : s.data.toList.head? = some (s[0]'h) := by
  have : s.data.toList = s[0]'h :: s.data.toList.drop 1 := List.drop_eq_getElem_cons (i := 0) (by rw [str_len]; exact h)
  rw [this]; rfl

theorem num_pow (n x k : Nat) (h : n < 10 ^ k) (hx : x ≤ 9) : 10 * n + x < 10 ^ (k + 1) := by
  rw [Nat.pow_succ]
  generalize 10 ^ k = p at *
  omega
theorem num_w3 (n : Nat) (h : n < 10000000) : wrap64 (10 * (n : Int)) = 10 * (n : Int) := by unfold wrap64; omega
theorem num_w4 (n x : Nat) (h : n < 10000000) (hx : x ≤ 9) : wrap64 (10 * (n : Int) + (x : Int)) = ((10 * n + x : Nat) : Int) := by unfold wrap64; omega

set_option maxRecDepth 100000 in
set_option maxHeartbeats 2000000 in
theorem number_any (s : ByteArray) (w : World) : Calls Tryd.prog 19 #[.string s] w fun e w' => e = .returned (numV s.data.toList) ∧ ∃ k, w' = w.drewN k := by
  have hsz := str_len s
  by_cases h0 : s.size = 0
  · have h1 := empty_str h0
    have HV := Lib.hid (numV_none (l := s.data.toList) (by unfold numL; rw [if_pos (.inl (List.eq_nil_of_length_eq_zero (by omega)))]))
    clear hsz
    go_enter Tryd.func19, Tryd.ntmps19
    go_wp2_with fail
    go_ret2
    exact ⟨by rw [HV.out]; rfl, 0, rfl⟩
  · have hp : 0 < s.size := by omega
    have h1 := some_str hp
    have h1' : s.toList.isEmpty = false := by rw [List.isEmpty_eq_false_iff]; exact h1
    have hh := head_str hp
    have hnil : s.data.toList ≠ [] := fun e => by rw [e] at hsz; simp at hsz; omega
    by_cases h7 : 7 < s.size
    · have h7' : (7 : Int) < (s.size : Int) := by omega
      have HV := Lib.hid (numV_none (l := s.data.toList) (by unfold numL; rw [if_pos (.inr (.inl (by omega)))]))
      clear hsz hh hnil
      go_enter Tryd.func19, Tryd.ntmps19
      go_wp2_with fail
      go_ret2
      exact ⟨by rw [HV.out]; rfl, 0, rfl⟩
    · have h7' : ¬ (7 : Int) < (s.size : Int) := by omega
      have h7'' : (s.size : Int) ≤ 7 := by omega
      by_cases hz : (s[0]'hp = 48) ∧ 1 < s.size
      · have hz1 : ((s[0]'hp).toNat : Int) = 48 := by rw [hz.1]; rfl
        have hz2 : (1 : Int) < (s.size : Int) := by omega
        have HV := Lib.hid (numV_none (l := s.data.toList) (by unfold numL; rw [if_pos (.inr (.inr ⟨by rw [hh, hz.1], by omega⟩))]))
        clear hsz hh hnil hz
        go_enter Tryd.func19, Tryd.ntmps19
        go_wp2_with fail
        go_ret2
        exact ⟨by rw [HV.out]; rfl, 0, rfl⟩
      · have HN := Lib.hid (show numL s.data.toList = numF 0 s.data.toList from by
          unfold numL
          rw [if_neg]
          rintro (e | e | e)
          · exact hnil e
          · omega
          · rw [hh] at e; exact hz ⟨by injection e.1, by omega⟩)
        have HZ := Lib.hid hsz
        clear hh hnil hsz
        by_cases hq : s[0]'hp = 48
        · have hz1 : ((s[0]'hp).toNat : Int) = 48 := by rw [hq]; rfl
          have hz2 : (s.size : Int) ≤ 1 := by
            rcases Nat.lt_or_ge 1 s.size with h | h
            · exact absurd ⟨hq, h⟩ hz
            · omega
          clear hz hq
          go_enter Tryd.func19, Tryd.ntmps19
          go_wp2_with fail
          go_loopw [4, 25] (fun m i wr => ∃ k n q : Nat, k ≤ s.size ∧ m = .int .i64 n ∧ i = .int .i64 k ∧ numF n (s.data.toList.drop k) = numF 0 s.data.toList ∧ n < 10 ^ k ∧ wr = w.drewN q) (fun _ i _ => s.size - (intOf i).toNat)
          case atStart => exact ⟨0, 0, 0, Nat.zero_le _, rfl, rfl, by simp, by decide, rfl⟩
          case round =>
            obtain ⟨k, n, q, hk, rfl, rfl, hn, hb, rfl⟩ := hrel
            have hpw : 10 ^ k ≤ 10000000 := Nat.pow_le_pow_right (n := 10) (i := k) (j := 7) (by decide) (by omega)
            have hn7 : n < 10000000 := Nat.lt_of_lt_of_le hb hpw
            have HBK := Lib.hid hb
            clear hb hpw
            by_cases hlt : k < s.size
            · have hdr : s.data.toList.drop k = s[k] :: s.data.toList.drop (k + 1) := List.drop_eq_getElem_cons (by have := HZ.out; omega)
              rw [hdr, numF] at hn
              by_cases hd : 48 ≤ (s[k]).toNat ∧ (s[k]).toNat ≤ 57
              · rw [if_pos hd] at hn
                have g1 : ¬ ((s[k]).toNat : Int) < 48 := by omega
                have g2 : ¬ (57 : Int) < ((s[k]).toNat : Int) := by omega
                have g1' : (48 : Int) ≤ ((s[k]).toNat : Int) := by omega
                have g2' : ((s[k]).toNat : Int) ≤ 57 := by omega
                have hw1 : wrap64 ((k : Int) + 1) = ((k + 1 : Nat) : Int) := by unfold wrap64; omega
                have hw2 : IntKind.u8.wrap (((s[k]).toNat : Int) - 48) = (((s[k]).toNat - 48 : Nat) : Int) := by rw [IntKind.wrap_u8]; omega
                have hw3 : wrap64 (10 * (n : Int)) = 10 * (n : Int) := num_w3 n hn7
                have hw4 : wrap64 (10 * (n : Int) + (((s[k]).toNat - 48 : Nat) : Int)) = ((10 * n + ((s[k]).toNat - 48) : Nat) : Int) := num_w4 n _ hn7 (by omega)
                have HQ := Lib.hid hn
                have HB := Lib.hid (show 10 * n + ((s[k]).toNat - 48) < 10 ^ (k + 1) from num_pow _ _ _ HBK.out (by omega))
                have HD := Lib.hid hd
                clear hn hdr hd
                go_wp2_with fail
                go_roundw
                case rel => exact ⟨k + 1, 10 * n + ((s[k]).toNat - 48), q, by omega, rfl, rfl, HQ.out, HB.out, rfl⟩
                case measure => show s.size - ((k : Int) + 1).toNat < s.size - ((k : Int)).toNat; omega
              · rw [if_neg hd] at hn
                have HV := Lib.hid (numV_none (HN.out.trans hn.symm))
                rcases Nat.lt_or_ge (s[k]).toNat 48 with hx | hx
                · have g1 : ((s[k]).toNat : Int) < 48 := by omega
                  clear hn hdr hd hx
                  go_wp2_with fail
                  go_ret2
                  exact ⟨by rw [HV.out]; rfl, q, rfl⟩
                · have g1 : ¬ ((s[k]).toNat : Int) < 48 := by omega
                  have g1' : (48 : Int) ≤ ((s[k]).toNat : Int) := by omega
                  have g2 : (57 : Int) < ((s[k]).toNat : Int) := by omega
                  clear hn hdr hd hx
                  go_wp2_with fail
                  go_ret2
                  exact ⟨by rw [HV.out]; rfl, q, rfl⟩
            · obtain rfl : k = s.size := by omega
              have hdr : s.data.toList.drop s.size = [] := List.drop_of_length_le (by have := HZ.out; omega)
              rw [hdr, numF] at hn
              have HV := Lib.hid (numV_some (HN.out.trans hn.symm))
              clear hn hdr
              go_wp2_with fail
              go_ret2
              exact ⟨by rw [HV.out]; rfl, q, rfl⟩
        · have hz1 := beq_no (a := ((s[0]'hp).toNat : Int)) (b := 48) (fun e => hq (UInt8.toNat_inj.1 (by show _ = 48; omega)))
          clear hz hq
          go_enter Tryd.func19, Tryd.ntmps19
          go_wp2_with fail
          go_loopw [4, 25] (fun m i wr => ∃ k n q : Nat, k ≤ s.size ∧ m = .int .i64 n ∧ i = .int .i64 k ∧ numF n (s.data.toList.drop k) = numF 0 s.data.toList ∧ n < 10 ^ k ∧ wr = w.drewN q) (fun _ i _ => s.size - (intOf i).toNat)
          case atStart => exact ⟨0, 0, 0, Nat.zero_le _, rfl, rfl, by simp, by decide, rfl⟩
          case round =>
            obtain ⟨k, n, q, hk, rfl, rfl, hn, hb, rfl⟩ := hrel
            have hpw : 10 ^ k ≤ 10000000 := Nat.pow_le_pow_right (n := 10) (i := k) (j := 7) (by decide) (by omega)
            have hn7 : n < 10000000 := Nat.lt_of_lt_of_le hb hpw
            have HBK := Lib.hid hb
            clear hb hpw
            by_cases hlt : k < s.size
            · have hdr : s.data.toList.drop k = s[k] :: s.data.toList.drop (k + 1) := List.drop_eq_getElem_cons (by have := HZ.out; omega)
              rw [hdr, numF] at hn
              by_cases hd : 48 ≤ (s[k]).toNat ∧ (s[k]).toNat ≤ 57
              · rw [if_pos hd] at hn
                have g1 : ¬ ((s[k]).toNat : Int) < 48 := by omega
                have g2 : ¬ (57 : Int) < ((s[k]).toNat : Int) := by omega
                have g1' : (48 : Int) ≤ ((s[k]).toNat : Int) := by omega
                have g2' : ((s[k]).toNat : Int) ≤ 57 := by omega
                have hw1 : wrap64 ((k : Int) + 1) = ((k + 1 : Nat) : Int) := by unfold wrap64; omega
                have hw2 : IntKind.u8.wrap (((s[k]).toNat : Int) - 48) = (((s[k]).toNat - 48 : Nat) : Int) := by rw [IntKind.wrap_u8]; omega
                have hw3 : wrap64 (10 * (n : Int)) = 10 * (n : Int) := num_w3 n hn7
                have hw4 : wrap64 (10 * (n : Int) + (((s[k]).toNat - 48 : Nat) : Int)) = ((10 * n + ((s[k]).toNat - 48) : Nat) : Int) := num_w4 n _ hn7 (by omega)
                have HQ := Lib.hid hn
                have HB := Lib.hid (show 10 * n + ((s[k]).toNat - 48) < 10 ^ (k + 1) from num_pow _ _ _ HBK.out (by omega))
                have HD := Lib.hid hd
                clear hn hdr hd
                go_wp2_with fail
                go_roundw
                case rel => exact ⟨k + 1, 10 * n + ((s[k]).toNat - 48), q, by omega, rfl, rfl, HQ.out, HB.out, rfl⟩
                case measure => show s.size - ((k : Int) + 1).toNat < s.size - ((k : Int)).toNat; omega
              · rw [if_neg hd] at hn
                have HV := Lib.hid (numV_none (HN.out.trans hn.symm))
                rcases Nat.lt_or_ge (s[k]).toNat 48 with hx | hx
                · have g1 : ((s[k]).toNat : Int) < 48 := by omega
                  clear hn hdr hd hx
                  go_wp2_with fail
                  go_ret2
                  exact ⟨by rw [HV.out]; rfl, q, rfl⟩
                · have g1 : ¬ ((s[k]).toNat : Int) < 48 := by omega
                  have g1' : (48 : Int) ≤ ((s[k]).toNat : Int) := by omega
                  have g2 : (57 : Int) < ((s[k]).toNat : Int) := by omega
                  clear hn hdr hd hx
                  go_wp2_with fail
                  go_ret2
                  exact ⟨by rw [HV.out]; rfl, q, rfl⟩
            · obtain rfl : k = s.size := by omega
              have hdr : s.data.toList.drop s.size = [] := List.drop_of_length_le (by have := HZ.out; omega)
              rw [hdr, numF] at hn
              have HV := Lib.hid (numV_some (HN.out.trans hn.symm))
              clear hn hdr
              go_wp2_with fail
              go_ret2
              exact ⟨by rw [HV.out]; rfl, q, rfl⟩
end Go.Proofs.YtefhifmilmedhaaDoor
