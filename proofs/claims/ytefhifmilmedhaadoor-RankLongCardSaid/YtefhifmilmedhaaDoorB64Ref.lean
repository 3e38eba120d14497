/- The walks of base64's reference: value, signs, last, begins. -/
import Derived.Test.YtefhifmilmedhaaDoorB64RefLaw
import Derived.Test.YtefhifmilmedhaaDoorWords
import Derived.Test.YtefhifmilmedhaaDoorProg
import Derived.Deep.QuietTactic
import Derived.BigQuiet
namespace Go.Proofs.YtefhifmilmedhaaDoor
open Go.RowKit

set_option maxHeartbeats 400000 in
theorem rvalue_any (c : UInt8) (w : World) : Calls Tryd.prog 63 #[.int .u8 (c.toNat : Int)] w fun e w' => e = .returned (.int .i64 (val c)) ∧ w = w' := by
  have h0 := u8_ge c
  have h1 := u8_le c
  have hd : (c.toNat : Int) < 43 ∨ (c.toNat : Int) = 43 ∨ (43 < (c.toNat : Int) ∧ (c.toNat : Int) < 47) ∨ (c.toNat : Int) = 47 ∨ (48 ≤ (c.toNat : Int) ∧ (c.toNat : Int) ≤ 57) ∨ (57 < (c.toNat : Int) ∧ (c.toNat : Int) < 65) ∨ (65 ≤ (c.toNat : Int) ∧ (c.toNat : Int) ≤ 90) ∨
    (90 < (c.toNat : Int) ∧ (c.toNat : Int) < 97) ∨ (97 ≤ (c.toNat : Int) ∧ (c.toNat : Int) ≤ 122) ∨ 122 < (c.toNat : Int) := by omega
  have key : ∀ x : Int, x = (c.toNat : Int) → ∀ v : Int, val c = v → Calls Tryd.prog 63 #[.int .u8 x] w (fun e w' => e = .returned (.int .i64 v) ∧ w = w') → Calls Tryd.prog 63 #[.int .u8 (c.toNat : Int)] w fun e w' => e = .returned (.int .i64 (val c)) ∧ w = w' := by
    intro x hx v hv h; rw [← hx, hv]; exact h
  rcases hd with h | h | h | h | h | h | h | h | h | h
  · have hv := Lib.hid (show val c = -1 from by unfold val; (repeat' split) <;> omega)
    have e1 : ((c.toNat : Int) == 43) = false := beq_no (by omega)
    have e2 : ((c.toNat : Int) == 47) = false := beq_no (by omega)
    rw [hv.out]
    go_enter Tryd.func63, Tryd.ntmps63
    go_wp2
    go_ret
    exact ⟨rfl, rfl⟩
  · refine key 43 h.symm 62 (by unfold val; (repeat' split) <;> omega) ?_
    clear h h0 h1 key
    go_enter Tryd.func63, Tryd.ntmps63
    go_wp2
    go_ret
    exact ⟨rfl, rfl⟩
  · have hv := Lib.hid (show val c = -1 from by unfold val; (repeat' split) <;> omega)
    have e1 : ((c.toNat : Int) == 43) = false := beq_no (by omega)
    have e2 : ((c.toNat : Int) == 47) = false := beq_no (by omega)
    have h3 := h.1
    have h4 := h.2
    clear h
    rw [hv.out]
    go_enter Tryd.func63, Tryd.ntmps63
    go_wp2
    go_ret
    exact ⟨rfl, rfl⟩
  · refine key 47 h.symm 63 (by unfold val; (repeat' split) <;> omega) ?_
    clear h h0 h1 key
    go_enter Tryd.func63, Tryd.ntmps63
    go_wp2
    go_ret
    exact ⟨rfl, rfl⟩
  all_goals
    have e1 : ((c.toNat : Int) == 43) = false := beq_no (by omega)
    have e2 : ((c.toNat : Int) == 47) = false := beq_no (by omega)
    first
    | have h3 : 48 ≤ (c.toNat : Int) ∧ (c.toNat : Int) ≤ 57 := h
      have hv := Lib.hid (show val c = (c.toNat : Int) - 48 + 52 from by unfold val; (repeat' split) <;> omega)
      have h5 := h3.1
      have h6 := h3.2
    | have h3 : 65 ≤ (c.toNat : Int) ∧ (c.toNat : Int) ≤ 90 := h
      have hv := Lib.hid (show val c = (c.toNat : Int) - 65 from by unfold val; (repeat' split) <;> omega)
      have h5 := h3.1
      have h6 := h3.2
    | have h3 : 97 ≤ (c.toNat : Int) ∧ (c.toNat : Int) ≤ 122 := h
      have hv := Lib.hid (show val c = (c.toNat : Int) - 97 + 26 from by unfold val; (repeat' split) <;> omega)
      have h5 := h3.1
      have h6 := h3.2
    | have h5 : 122 < (c.toNat : Int) := h
      have hv := Lib.hid (show val c = -1 from by unfold val; (repeat' split) <;> omega)
    | have hv := Lib.hid (show val c = -1 from by unfold val; (repeat' split) <;> omega)
      have h5 := h.1
      have h6 := h.2
    clear h
    rw [hv.out]
    go_enter Tryd.func63, Tryd.ntmps63
    go_wp2
    go_ret
    exact ⟨ret_int (by omega), rfl⟩
theorem rvalue_as {c : UInt8} {v : Int} (w : World) (h : Hid (val c = v)) : Calls Tryd.prog 63 #[.int .u8 (c.toNat : Int)] w fun e w' => e = .returned (.int .i64 v) ∧ w = w' := by
  have := rvalue_any c w; rw [h.out] at this; exact this

theorem signs_snoc {s : ByteArray} {k : Nat} (h : k < s.size) : rSigns (s.data.toList.take (k + 1)) = (rSigns (s.data.toList.take k) && decide (0 ≤ val s[k])) := by
  rw [List.take_succ_eq_append_getElem (by rw [str_len]; exact h), rSigns, List.all_append]
  simp only [List.all_cons, List.all_nil, Bool.and_true]
  rfl
theorem signs_bad {s : ByteArray} {k : Nat} (h : k < s.size) (hv : val s[k] < 0) : rSigns s.data.toList = false := by
  have h1 := signs_snoc h
  rw [decide_eq_false (by omega), Bool.and_false] at h1
  rw [← Bool.not_eq_true] at h1 ⊢
  intro h2
  apply h1
  unfold rSigns at h2 ⊢
  rw [List.all_eq_true] at h2 ⊢
  exact fun x hx => h2 x (List.mem_of_mem_take hx)

set_option maxHeartbeats 400000 in
theorem rsigns_any (s : ByteArray) (w : World) (hm : s.size ≤ 100000) :
    Calls Tryd.prog 76 #[.string s] w fun e w' => e = .returned (.bool (rSigns s.data.toList)) ∧ w = w' := by
  go_enter Tryd.func76, Tryd.ntmps76
  go_wp2
  go_loop [3] (fun i => ∃ k : Nat, k ≤ s.size ∧ i = .int .i64 k ∧ Hid (rSigns (s.data.toList.take k) = true)) (fun i => s.size - (intOf i).toNat)
  case atStart => exact ⟨0, Nat.zero_le _, rfl, by rfl⟩
  case round =>
    obtain ⟨k, hk, rfl, HR⟩ := hrel
    by_cases hkx : k < s.size
    · have hk1 : (k : Int) < s.size := by omega
      by_cases hv : val s[k] < 0
      · have HF := Lib.hid (signs_bad hkx hv)
        obtain ⟨v, hvv⟩ : ∃ v, val s[k] = v := ⟨_, rfl⟩
        rw [hvv] at hv
        have HV := Lib.hid hvv
        clear hvv
        go_wp2_with fail
        refine (rvalue_as _ HV).mono ?_
        rintro e w' ⟨rfl, rfl⟩
        go_wp2_with fail
        go_ret
        exact ⟨ret_bool HF.out.symm, rfl⟩
      · have HN : Hid (rSigns (s.data.toList.take (k + 1)) = true) := by
          show rSigns _ = true
          rw [signs_snoc hkx, HR.out, decide_eq_true (by omega)]; rfl
        obtain ⟨v, hvv⟩ : ∃ v, val s[k] = v := ⟨_, rfl⟩
        rw [hvv] at hv
        have HV := Lib.hid hvv
        clear hvv
        go_wp2_with fail
        refine (rvalue_as _ HV).mono ?_
        rintro e w' ⟨rfl, rfl⟩
        go_wp2_with fail
        go_round
        case rel => exact ⟨k + 1, by omega, by go_num, HN⟩
        case measure => simp [intOf]; omega
    · obtain rfl : k = s.size := by omega
      have hk1 : ¬ (s.size : Int) < s.size := by omega
      have HF := Lib.hid (show rSigns s.data.toList = true from by have := HR.out; rw [List.take_of_length_le (by rw [str_len]; exact Nat.le_refl _)] at this; exact this)
      go_wp2_with fail
      go_ret
      exact ⟨ret_bool HF.out.symm, rfl⟩
theorem rsigns_as {s : ByteArray} {b : Bool} (w : World) (hm : s.size ≤ 100000) (h : Hid (rSigns s.data.toList = b)) :
    Calls Tryd.prog 76 #[.string s] w fun e w' => e = .returned (.bool b) ∧ w = w' := by
  have := rsigns_any s w hm; rw [h.out] at this; exact this
end Go.Proofs.YtefhifmilmedhaaDoor
