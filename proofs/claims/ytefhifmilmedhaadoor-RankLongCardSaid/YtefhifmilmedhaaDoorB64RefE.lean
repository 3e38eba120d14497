/- The walk of base64's reference's Encode. -/
import Derived.Test.YtefhifmilmedhaaDoorB64Ref2
import Derived.Test.YtefhifmilmedhaaDoorB64Write
namespace Go.Proofs.YtefhifmilmedhaaDoor
open Go.RowKit
set_option linter.unusedVariables false

theorem sgn_str (n : Nat) (h : n < 64) : sgBytes.extract n (n + 1) = strOf [sgn n] := by
  apply ByteArray.ext
  apply Array.toList_inj.1
  show _ = [sgn n]
  rw [Lib.extract_data, show n + 1 - n = 1 from by omega]
  have hs : n < sgBytes.data.toList.length := h
  rw [List.drop_eq_getElem_cons hs]
  simp only [List.take_succ_cons, List.take_zero]
  rw [← sgn_lit n h]
  rfl
set_option maxRecDepth 100000 in
set_option maxHeartbeats 400000 in
theorem rsign_any (n : Nat) (w : World) (h : n < 64) : Calls Tryd.prog 48 #[.int .i64 (n : Int)] w fun e w' => e = .returned (.string (strOf [sgn n])) ∧ w = w' := by
  have h1 : (n : Int) < 64 := by omega
  have h2 : (n : Int) + 1 ≤ 64 := by omega
  have H := Lib.hid (sgn_str n h)
  go_enter Tryd.func48, Tryd.ntmps48
  go_wp2_with fail
  go_ret
  exact ⟨by rw [← H.out]; rfl, rfl⟩
theorem rsign_as {n : Nat} {c : UInt8} (w : World) (h : n < 64) (hc : Hid (sgn n = c)) : Calls Tryd.prog 48 #[.int .i64 (n : Int)] w fun e w' => e = .returned (.string (strOf [c])) ∧ w = w' := by
  have := rsign_any n w h; rw [hc.out] at this; exact this

def rChars (s : List UInt8) (a : Nat) : List UInt8 := [rChar s a 0, rChar s a 1, rChar s a 2, rChar s a 3]
theorem rChars_succ {s : List UInt8} {a k : Nat} (hk : k < 4) : (rChars s a).take (k + 1) = (rChars s a).take k ++ [rChar s a k] := by
  have h : k = 0 ∨ k = 1 ∨ k = 2 ∨ k = 3 := by omega
  rcases h with rfl | rfl | rfl | rfl <;> rfl
theorem strOf_app (a b : List UInt8) : strOf a ++ strOf b = strOf (a ++ b) := by
  apply ByteArray.ext
  simp [strOf]
theorem six_in {s : ByteArray} {a k i p D : Nat} (hp : a + (6 * k + i) / 8 = p) (h : p < s.size) (hD : 2 ^ (7 - (6 * k + i) % 8) = D) :
    rSix s.data.toList a k (i + 1) = ((rSix s.data.toList a k i).1 * 2 + s[p].toNat / D % 2, true) := by
  subst hp hD
  rw [rSix, if_pos (by rw [str_len]; exact h), get_list s _ h]
theorem six_out {s : ByteArray} {a k i p : Nat} (hp : a + (6 * k + i) / 8 = p) (h : ¬ p < s.size) :
    rSix s.data.toList a k (i + 1) = ((rSix s.data.toList a k i).1 * 2, (rSix s.data.toList a k i).2) := by
  subst hp
  rw [rSix, if_neg (by rw [str_len]; exact h)]

set_option maxRecDepth 100000 in
set_option maxHeartbeats 4000000 in
theorem rencode64_any (s : ByteArray) (w : World) (hm : s.size ≤ 100000) :
    Calls Tryd.prog 29 #[.string s] w fun e w' => e = .returned (.string (strOf (enc64 s.data.toList))) ∧ w = w' := by
  go_enter Tryd.func29, Tryd.ntmps29
  go_wp2_with fail
  go_loop [3, 4] (fun o i => ∃ (d : List UInt8) (a : Nat), o = .string (strOf d) ∧ i = .int .i64 a ∧ a ≤ s.size + 2 ∧ d.length ≤ 2 * a ∧ Hid (d ++ enc64 (s.data.toList.drop a) = enc64 s.data.toList)) (fun _ i => s.size + 2 - (intOf i).toNat)
  case atStart => exact ⟨[], 0, rfl, rfl, by omega, by simp, by show _ = _; rfl⟩
  case round =>
    obtain ⟨d, a, rfl, rfl, ha, hd, HR⟩ := hrel
    by_cases hax : a < s.size
    · have hax1 : (a : Int) < s.size := by omega
      have HE := Lib.hid (enc_rest (s := s.data.toList) (a := a) (by rw [str_len]; exact hax))
      go_wp2_with fail
      go_loop [3, 5] (fun o i => ∃ (d' : List UInt8) (k : Nat), o = .string (strOf d') ∧ i = .int .i64 k ∧ k ≤ 4 ∧ d'.length = d.length + k ∧ Hid (d' = d ++ (rChars s.data.toList a).take k)) (fun _ i => 4 - (intOf i).toNat)
      case atStart => exact ⟨d, 0, rfl, rfl, by omega, by omega, by show _ = _; simp⟩
      case round =>
        obtain ⟨d', k, rfl, rfl, hk, hd', HD⟩ := hrel
        have HL := Lib.hid hd'
        have hdl : d'.length ≤ d.length + 4 := by omega
        clear hd'
        by_cases hk4 : k < 4
        · have hk5 : (k : Int) < 4 := by omega
          go_wp2_with fail
          go_loop [6, 7, 8] (fun n b i => ∃ j : Nat, n = .int .i64 (rSix s.data.toList a k j).1 ∧ b = .bool (rSix s.data.toList a k j).2 ∧ i = .int .i64 j ∧ j ≤ 6) (fun _ _ i => 6 - (intOf i).toNat)
          case atStart => exact ⟨0, rfl, rfl, rfl, by omega⟩
          case round =>
            obtain ⟨j, rfl, rfl, rfl, hj⟩ := hrel
            have hlt := rSix_lt s.data.toList a k j
            have hlt6 : (rSix s.data.toList a k j).1 < 64 := Nat.lt_of_lt_of_le hlt (by show 2 ^ j ≤ 2 ^ 6; exact Nat.pow_le_pow_right (by omega) hj)
            clear hlt
            by_cases hj6 : j < 6
            · have hj7 : (j : Int) < 6 := by omega
              obtain ⟨q, hq⟩ : ∃ q, (6 * k + j) / 8 = q := ⟨_, rfl⟩
              obtain ⟨t, ht⟩ : ∃ t, (6 * k + j) % 8 = t := ⟨_, rfl⟩
              have hq1 : (6 * (k : Int) + j) / 8 = q := by omega
              have hq2 : q ≤ 3 := by omega
              have ht8 : t < 8 := by omega
              by_cases hp : a + q < s.size
              · have hp1 : (a : Int) + q < s.size := by omega
                have hx0 := u8_ge s[a + q]
                have hx1 := u8_le s[a + q]
                have ht1 : t = 0 ∨ t = 1 ∨ t = 2 ∨ t = 3 ∨ t = 4 ∨ t = 5 ∨ t = 6 ∨ t = 7 := by omega
                rcases ht1 with rfl | rfl | rfl | rfl | rfl | rfl | rfl | rfl
                · have ht2 : (6 * (k : Int) + j) % 8 = 0 := by omega
                  have hs := six_in (s := s) (a := a) (k := k) (i := j) (p := a + q) (D := 128) (by rw [hq]) hp (by rw [ht])
                  have HQ := Lib.hid hq
                  have HTT := Lib.hid ht
                  clear hq ht
                  generalize rSix s.data.toList a k j = x at *
                  by_cases hb : s[a + q].toNat / 128 % 2 = 1
                  · have eb : (((s[a + q].toNat : Int) / 128 % 2) == 1) = true := beq_yes (by omega)
                    rw [hb] at hs
                    have HS := Lib.hid hs
                    clear hs hb
                    go_wp2_with fail
                    go_round
                    case rel => exact ⟨j + 1, by rw [HS.out]; exact congrArg (Value.int .i64) (by show _ = ((_ : Nat) : Int); simp only []; omega), by rw [HS.out], by go_num, by omega⟩
                    case measure => simp [intOf]; omega
                  · have eb : (((s[a + q].toNat : Int) / 128 % 2) == 1) = false := beq_no (by omega)
                    rw [show s[a + q].toNat / 128 % 2 = 0 from by omega] at hs
                    have HS := Lib.hid hs
                    clear hs hb
                    go_wp2_with fail
                    go_round
                    case rel => exact ⟨j + 1, by rw [HS.out]; exact congrArg (Value.int .i64) (by show _ = ((_ : Nat) : Int); simp only []; omega), by rw [HS.out], by go_num, by omega⟩
                    case measure => simp [intOf]; omega
                · have ht2 : (6 * (k : Int) + j) % 8 = 1 := by omega
                  have hs := six_in (s := s) (a := a) (k := k) (i := j) (p := a + q) (D := 64) (by rw [hq]) hp (by rw [ht])
                  have HQ := Lib.hid hq
                  have HTT := Lib.hid ht
                  clear hq ht
                  generalize rSix s.data.toList a k j = x at *
                  by_cases hb : s[a + q].toNat / 64 % 2 = 1
                  · have eb : (((s[a + q].toNat : Int) / 64 % 2) == 1) = true := beq_yes (by omega)
                    rw [hb] at hs
                    have HS := Lib.hid hs
                    clear hs hb
                    go_wp2_with fail
                    go_round
                    case rel => exact ⟨j + 1, by rw [HS.out]; exact congrArg (Value.int .i64) (by show _ = ((_ : Nat) : Int); simp only []; omega), by rw [HS.out], by go_num, by omega⟩
                    case measure => simp [intOf]; omega
                  · have eb : (((s[a + q].toNat : Int) / 64 % 2) == 1) = false := beq_no (by omega)
                    rw [show s[a + q].toNat / 64 % 2 = 0 from by omega] at hs
                    have HS := Lib.hid hs
                    clear hs hb
                    go_wp2_with fail
                    go_round
                    case rel => exact ⟨j + 1, by rw [HS.out]; exact congrArg (Value.int .i64) (by show _ = ((_ : Nat) : Int); simp only []; omega), by rw [HS.out], by go_num, by omega⟩
                    case measure => simp [intOf]; omega
                · have ht2 : (6 * (k : Int) + j) % 8 = 2 := by omega
                  have hs := six_in (s := s) (a := a) (k := k) (i := j) (p := a + q) (D := 32) (by rw [hq]) hp (by rw [ht])
                  have HQ := Lib.hid hq
                  have HTT := Lib.hid ht
                  clear hq ht
                  generalize rSix s.data.toList a k j = x at *
                  by_cases hb : s[a + q].toNat / 32 % 2 = 1
                  · have eb : (((s[a + q].toNat : Int) / 32 % 2) == 1) = true := beq_yes (by omega)
                    rw [hb] at hs
                    have HS := Lib.hid hs
                    clear hs hb
                    go_wp2_with fail
                    go_round
                    case rel => exact ⟨j + 1, by rw [HS.out]; exact congrArg (Value.int .i64) (by show _ = ((_ : Nat) : Int); simp only []; omega), by rw [HS.out], by go_num, by omega⟩
                    case measure => simp [intOf]; omega
                  · have eb : (((s[a + q].toNat : Int) / 32 % 2) == 1) = false := beq_no (by omega)
                    rw [show s[a + q].toNat / 32 % 2 = 0 from by omega] at hs
                    have HS := Lib.hid hs
                    clear hs hb
                    go_wp2_with fail
                    go_round
                    case rel => exact ⟨j + 1, by rw [HS.out]; exact congrArg (Value.int .i64) (by show _ = ((_ : Nat) : Int); simp only []; omega), by rw [HS.out], by go_num, by omega⟩
                    case measure => simp [intOf]; omega
                · have ht2 : (6 * (k : Int) + j) % 8 = 3 := by omega
                  have hs := six_in (s := s) (a := a) (k := k) (i := j) (p := a + q) (D := 16) (by rw [hq]) hp (by rw [ht])
                  have HQ := Lib.hid hq
                  have HTT := Lib.hid ht
                  clear hq ht
                  generalize rSix s.data.toList a k j = x at *
                  by_cases hb : s[a + q].toNat / 16 % 2 = 1
                  · have eb : (((s[a + q].toNat : Int) / 16 % 2) == 1) = true := beq_yes (by omega)
                    rw [hb] at hs
                    have HS := Lib.hid hs
                    clear hs hb
                    go_wp2_with fail
                    go_round
                    case rel => exact ⟨j + 1, by rw [HS.out]; exact congrArg (Value.int .i64) (by show _ = ((_ : Nat) : Int); simp only []; omega), by rw [HS.out], by go_num, by omega⟩
                    case measure => simp [intOf]; omega
                  · have eb : (((s[a + q].toNat : Int) / 16 % 2) == 1) = false := beq_no (by omega)
                    rw [show s[a + q].toNat / 16 % 2 = 0 from by omega] at hs
                    have HS := Lib.hid hs
                    clear hs hb
                    go_wp2_with fail
                    go_round
                    case rel => exact ⟨j + 1, by rw [HS.out]; exact congrArg (Value.int .i64) (by show _ = ((_ : Nat) : Int); simp only []; omega), by rw [HS.out], by go_num, by omega⟩
                    case measure => simp [intOf]; omega
                · have ht2 : (6 * (k : Int) + j) % 8 = 4 := by omega
                  have hs := six_in (s := s) (a := a) (k := k) (i := j) (p := a + q) (D := 8) (by rw [hq]) hp (by rw [ht])
                  have HQ := Lib.hid hq
                  have HTT := Lib.hid ht
                  clear hq ht
                  generalize rSix s.data.toList a k j = x at *
                  by_cases hb : s[a + q].toNat / 8 % 2 = 1
                  · have eb : (((s[a + q].toNat : Int) / 8 % 2) == 1) = true := beq_yes (by omega)
                    rw [hb] at hs
                    have HS := Lib.hid hs
                    clear hs hb
                    go_wp2_with fail
                    go_round
                    case rel => exact ⟨j + 1, by rw [HS.out]; exact congrArg (Value.int .i64) (by show _ = ((_ : Nat) : Int); simp only []; omega), by rw [HS.out], by go_num, by omega⟩
                    case measure => simp [intOf]; omega
                  · have eb : (((s[a + q].toNat : Int) / 8 % 2) == 1) = false := beq_no (by omega)
                    rw [show s[a + q].toNat / 8 % 2 = 0 from by omega] at hs
                    have HS := Lib.hid hs
                    clear hs hb
                    go_wp2_with fail
                    go_round
                    case rel => exact ⟨j + 1, by rw [HS.out]; exact congrArg (Value.int .i64) (by show _ = ((_ : Nat) : Int); simp only []; omega), by rw [HS.out], by go_num, by omega⟩
                    case measure => simp [intOf]; omega
                · have ht2 : (6 * (k : Int) + j) % 8 = 5 := by omega
                  have hs := six_in (s := s) (a := a) (k := k) (i := j) (p := a + q) (D := 4) (by rw [hq]) hp (by rw [ht])
                  have HQ := Lib.hid hq
                  have HTT := Lib.hid ht
                  clear hq ht
                  generalize rSix s.data.toList a k j = x at *
                  by_cases hb : s[a + q].toNat / 4 % 2 = 1
                  · have eb : (((s[a + q].toNat : Int) / 4 % 2) == 1) = true := beq_yes (by omega)
                    rw [hb] at hs
                    have HS := Lib.hid hs
                    clear hs hb
                    go_wp2_with fail
                    go_round
                    case rel => exact ⟨j + 1, by rw [HS.out]; exact congrArg (Value.int .i64) (by show _ = ((_ : Nat) : Int); simp only []; omega), by rw [HS.out], by go_num, by omega⟩
                    case measure => simp [intOf]; omega
                  · have eb : (((s[a + q].toNat : Int) / 4 % 2) == 1) = false := beq_no (by omega)
                    rw [show s[a + q].toNat / 4 % 2 = 0 from by omega] at hs
                    have HS := Lib.hid hs
                    clear hs hb
                    go_wp2_with fail
                    go_round
                    case rel => exact ⟨j + 1, by rw [HS.out]; exact congrArg (Value.int .i64) (by show _ = ((_ : Nat) : Int); simp only []; omega), by rw [HS.out], by go_num, by omega⟩
                    case measure => simp [intOf]; omega
                · have ht2 : (6 * (k : Int) + j) % 8 = 6 := by omega
                  have hs := six_in (s := s) (a := a) (k := k) (i := j) (p := a + q) (D := 2) (by rw [hq]) hp (by rw [ht])
                  have HQ := Lib.hid hq
                  have HTT := Lib.hid ht
                  clear hq ht
                  generalize rSix s.data.toList a k j = x at *
                  by_cases hb : s[a + q].toNat / 2 % 2 = 1
                  · have eb : (((s[a + q].toNat : Int) / 2 % 2) == 1) = true := beq_yes (by omega)
                    rw [hb] at hs
                    have HS := Lib.hid hs
                    clear hs hb
                    go_wp2_with fail
                    go_round
                    case rel => exact ⟨j + 1, by rw [HS.out]; exact congrArg (Value.int .i64) (by show _ = ((_ : Nat) : Int); simp only []; omega), by rw [HS.out], by go_num, by omega⟩
                    case measure => simp [intOf]; omega
                  · have eb : (((s[a + q].toNat : Int) / 2 % 2) == 1) = false := beq_no (by omega)
                    rw [show s[a + q].toNat / 2 % 2 = 0 from by omega] at hs
                    have HS := Lib.hid hs
                    clear hs hb
                    go_wp2_with fail
                    go_round
                    case rel => exact ⟨j + 1, by rw [HS.out]; exact congrArg (Value.int .i64) (by show _ = ((_ : Nat) : Int); simp only []; omega), by rw [HS.out], by go_num, by omega⟩
                    case measure => simp [intOf]; omega
                · have ht2 : (6 * (k : Int) + j) % 8 = 7 := by omega
                  have hs := six_in (s := s) (a := a) (k := k) (i := j) (p := a + q) (D := 1) (by rw [hq]) hp (by rw [ht])
                  have HQ := Lib.hid hq
                  have HTT := Lib.hid ht
                  clear hq ht
                  generalize rSix s.data.toList a k j = x at *
                  by_cases hb : s[a + q].toNat / 1 % 2 = 1
                  · have eb : (((s[a + q].toNat : Int) % 2) == 1) = true := beq_yes (by omega)
                    rw [hb] at hs
                    have HS := Lib.hid hs
                    clear hs hb
                    go_wp2_with fail
                    go_round
                    case rel => exact ⟨j + 1, by rw [HS.out]; exact congrArg (Value.int .i64) (by show _ = ((_ : Nat) : Int); simp only []; omega), by rw [HS.out], by go_num, by omega⟩
                    case measure => simp [intOf]; omega
                  · have eb : (((s[a + q].toNat : Int) % 2) == 1) = false := beq_no (by omega)
                    rw [show s[a + q].toNat / 1 % 2 = 0 from by omega] at hs
                    have HS := Lib.hid hs
                    clear hs hb
                    go_wp2_with fail
                    go_round
                    case rel => exact ⟨j + 1, by rw [HS.out]; exact congrArg (Value.int .i64) (by show _ = ((_ : Nat) : Int); simp only []; omega), by rw [HS.out], by go_num, by omega⟩
                    case measure => simp [intOf]; omega
              · have hp1 : ¬ (a : Int) + q < s.size := by omega
                have hs := six_out (s := s) (a := a) (k := k) (i := j) (p := a + q) (by rw [hq]) hp
                have HQ := Lib.hid hq
                have HTT := Lib.hid ht
                clear hq ht
                generalize rSix s.data.toList a k j = x at *
                have HS := Lib.hid hs
                clear hs
                go_wp2_with fail
                go_round
                case rel => exact ⟨j + 1, by rw [HS.out]; exact congrArg (Value.int .i64) (by show _ = ((_ : Nat) : Int); simp only []; omega), by rw [HS.out], by go_num, by omega⟩
                case measure => simp [intOf]; omega
            · obtain rfl : j = 6 := by omega
              have HC := Lib.hid (show rChar s.data.toList a k = if (rSix s.data.toList a k 6).2 then sgn (rSix s.data.toList a k 6).1 else 61 from rfl)
              have HTK := Lib.hid (rChars_succ (s := s.data.toList) (a := a) hk4)
              generalize rSix s.data.toList a k 6 = x at *
              obtain ⟨n, b⟩ := x
              simp only at hlt6 HC
              have hz1 : (strOf d').size = d'.length := rfl
              have hz2 : ∀ c : UInt8, (strOf [c]).size = 1 := fun _ => rfl
              have hlim : ∀ c : UInt8, ¬ 9223372036854775807 < (strOf d').size + (strOf [c]).size := fun c => by rw [hz1, hz2]; omega
              have hlim1 : ¬ 9223372036854775807 < (strOf d').size + (⟨#[61]⟩ : ByteArray).size := hlim 61
              have HA := Lib.hid (fun c : UInt8 => strOf_app d' [c])
              have HCON := Lib.hid (fun c : UInt8 => show (d' ++ [c]).length = d.length + (k + 1) from by rw [List.length_append, List.length_singleton, HL.out]; omega)
              clear hz1 hz2
              cases b
              · have HN := Lib.hid (show d' ++ [61] = d ++ (rChars s.data.toList a).take (k + 1) from by rw [HTK.out, HC.out, HD.out, List.append_assoc]; rfl)
                go_wp2_with fail
                go_round
                case rel => exact ⟨d' ++ [61], k + 1, congrArg Value.string (HA.out 61), by go_num, by omega, HCON.out 61, HN.out⟩
                case measure => simp [intOf]; omega
              · have HN := Lib.hid (show d' ++ [sgn n] = d ++ (rChars s.data.toList a).take (k + 1) from by rw [HTK.out, HC.out, HD.out, List.append_assoc]; rfl)
                obtain ⟨c, hc⟩ : ∃ c, sgn n = c := ⟨_, rfl⟩
                have HSG := Lib.hid hc
                rw [hc] at HN
                have hlim2 := hlim c
                clear hc hlim
                go_wp2_with fail
                refine (rsign_as _ hlt6 HSG).mono ?_
                rintro e w' ⟨rfl, rfl⟩
                go_wp2_with fail
                go_round
                case rel => exact ⟨d' ++ [c], k + 1, congrArg Value.string (HA.out c), by go_num, by omega, HCON.out c, HN.out⟩
                case measure => simp [intOf]; omega
        · obtain rfl : k = 4 := by omega
          have HN := Lib.hid (show d' ++ enc64 (s.data.toList.drop (a + 3)) = enc64 s.data.toList from by
            rw [← HR.out, HE.out, HD.out, List.append_assoc]; rfl)
          have HL2 := Lib.hid HL.out
          go_wp2_with fail
          go_round
          case rel => exact ⟨d', a + 3, rfl, by go_num, by omega, by rw [HL2.out]; omega, HN.out⟩
          case measure => simp [intOf]; omega
    · have hax1 : ¬ (a : Int) < s.size := by omega
      have HN := Lib.hid (show d = enc64 s.data.toList from by rw [← HR.out, List.drop_of_length_le (by rw [str_len]; omega), enc64, List.append_nil])
      go_wp2_with fail
      go_ret
      rw [HN.out]
      exact ⟨rfl, rfl⟩
end Go.Proofs.YtefhifmilmedhaaDoor
