/- The walks of base64's reference: last, begins. -/
import Derived.Test.YtefhifmilmedhaaDoorB64Ref
namespace Go.Proofs.YtefhifmilmedhaaDoor
open Go.RowKit
set_option linter.unusedVariables false

theorem cut_list (s : ByteArray) (k : Nat) : (s.extract 0 k).data.toList = s.data.toList.take k := by rw [Lib.extract_data]; simp
theorem get_list (s : ByteArray) (k : Nat) (h : k < s.size) : s.data.toList.getD k 0 = s[k] := by
  rw [List.getD_eq_getElem?_getD, List.getElem?_eq_getElem (by rw [str_len]; exact h)]; rfl

theorem signs_mem {s : ByteArray} {k j : Nat} (h : rSigns (s.data.toList.take k) = true) (hj : j < k) (hs : j < s.size) : 0 ≤ val s[j] := by
  unfold rSigns at h
  rw [List.all_eq_true] at h
  have := h ((s.data.toList.take k)[j]'(by rw [List.length_take, str_len]; omega)) (List.getElem_mem _)
  rw [List.getElem_take] at this
  exact of_decide_eq_true this

set_option maxRecDepth 100000 in
set_option maxHeartbeats 1000000 in
theorem rlast_any (s : ByteArray) (w : World) (h0 : 0 < s.size) (h4 : s.size ≤ 4) :
    Calls Tryd.prog 77 #[.string s] w fun e w' => e = .returned (.bool (rLast s.data.toList)) ∧ w = w' := by
  obtain ⟨a, ha⟩ : ∃ a, rSigns s.data.toList = a := ⟨_, rfl⟩
  have HA := Lib.hid ha
  cases a
  rotate_left
  · have HR := Lib.hid (show rLast s.data.toList = true from by unfold rLast; rw [if_pos ha])
    clear ha
    go_enter Tryd.func77, Tryd.ntmps77
    go_wp2_with fail
    refine (rsigns_as _ (by omega) HA).mono ?_
    rintro e w' ⟨rfl, rfl⟩
    go_wp2_with fail
    go_ret
    exact ⟨ret_bool HR.out.symm, rfl⟩
  by_cases h3 : s.size < 3
  · have HR := Lib.hid (show rLast s.data.toList = false from by unfold rLast; rw [if_neg (by rw [ha]; simp), if_pos (.inl (by rw [str_len]; exact h3))])
    have h3' : decide ((s.size : Int) < 3) = true := decide_eq_true (by omega)
    have h3'' : decide (s.size < 3) = true := decide_eq_true (by omega)
    clear ha
    go_enter Tryd.func77, Tryd.ntmps77
    go_wp2_with fail
    refine (rsigns_as _ (by omega) HA).mono ?_
    rintro e w' ⟨rfl, rfl⟩
    go_wp2_with fail
    go_ret
    exact ⟨ret_bool HR.out.symm, rfl⟩
  have h3' : decide ((s.size : Int) < 3) = false := decide_eq_false (by omega)
  have h3'' : decide (s.size < 3) = false := decide_eq_false (by omega)
  obtain ⟨b, hb⟩ : ∃ b, rSigns (s.data.toList.take 2) = b := ⟨_, rfl⟩
  have HB := Lib.hid (show rSigns (s.extract 0 2).data.toList = b from by rw [cut_list]; exact hb)
  have hz2 : (s.extract 0 2).size ≤ 100000 := by rw [ByteArray.size_extract]; omega
  have HZ2 := Lib.hid hz2
  have hs2 : (2 : Int) ≤ s.size := by omega
  cases b
  · have HR := Lib.hid (show rLast s.data.toList = false from by unfold rLast; rw [if_neg (by rw [ha]; simp), if_pos (.inr hb)])
    clear ha hb hz2
    go_enter Tryd.func77, Tryd.ntmps77
    go_wp2_with fail
    refine (rsigns_as _ (by omega) HA).mono ?_
    rintro e w' ⟨rfl, rfl⟩
    go_wp2_with fail
    refine (rsigns_as _ HZ2.out HB).mono ?_
    rintro e w' ⟨rfl, rfl⟩
    go_wp2_with fail
    go_ret
    exact ⟨ret_bool HR.out.symm, rfl⟩
  have hs3 : (2 : Int) < s.size := by omega
  have hs1 : (1 : Int) < s.size := by omega
  have hq1 : 1 < s.size := by omega
  have hq2 : 2 < s.size := by omega
  have hv1 : 0 ≤ val s[1] := signs_mem hb (by omega) hq1
  have hr1 : rLast s.data.toList = if s[2] = 61 then decide (val s[1] % 16 = 0) && (decide (s.size = 3) || decide (s.data.toList.getD 3 0 = 61)) else decide (s.size = 4) && rSigns (s.data.toList.take 3) && decide (s.data.toList.getD 3 0 = 61) && decide (val s[2] % 4 = 0) := by
    unfold rLast
    rw [if_neg (by rw [ha]; simp), if_neg (by rw [str_len, hb]; simp; omega), get_list s 2 (by omega), get_list s 1 (by omega), str_len]
  obtain ⟨v1, hvv⟩ : ∃ v, val s[1] = v := ⟨_, rfl⟩
  rw [hvv] at hv1 hr1
  have hvr := val_range s[1]
  rw [hvv] at hvr
  have hvu : v1 ≤ 63 := hvr.2
  have HV1 := Lib.hid hvv
  clear hvv hb ha hvr hz2
  by_cases h2 : s[2] = 61
  · have e2 : ((s[2].toNat : Int) == 61) = true := by rw [h2]; rfl
    rw [if_pos h2] at hr1
    have H2 := Lib.hid h2
    clear h2
    by_cases hm : v1 % 16 = 0
    · have em : (v1 % 16 == 0) = true := by rw [beq_iff_eq]; exact hm
      rw [decide_eq_true hm, Bool.true_and] at hr1
      clear hm
      by_cases hs : s.size = 3
      · have es : ((s.size : Int) == 3) = true := beq_yes (by omega)
        have es' : (s.size == 3) = true := by rw [beq_iff_eq]; exact hs
        rw [decide_eq_true hs, Bool.true_or] at hr1
        have HR := Lib.hid hr1
        clear hs hr1
        go_enter Tryd.func77, Tryd.ntmps77
        go_wp2_with fail
        refine (rsigns_as _ (by omega) HA).mono ?_
        rintro e w' ⟨rfl, rfl⟩
        go_wp2_with fail
        refine (rsigns_as _ HZ2.out HB).mono ?_
        rintro e w' ⟨rfl, rfl⟩
        go_wp2_with fail
        refine (rvalue_as _ HV1).mono ?_
        rintro e w' ⟨rfl, rfl⟩
        go_wp2_with fail
        go_ret
        exact ⟨ret_bool HR.out.symm, rfl⟩
      · have es : ((s.size : Int) == 3) = false := beq_no (by omega)
        have es' : (s.size == 3) = false := by rw [beq_eq_false_iff_ne]; exact hs
        have hs4 : 3 < s.size := by omega
        have hs5 : (3 : Int) < s.size := by omega
        rw [decide_eq_false hs, Bool.false_or, get_list s 3 hs4] at hr1
        obtain ⟨b3, hb3⟩ : ∃ b3, ((s[3].toNat : Int) == 61) = b3 := ⟨_, rfl⟩
        have HR := Lib.hid (show rLast s.data.toList = b3 from by
          rw [hr1, ← hb3, Bool.eq_iff_iff, decide_eq_true_iff, beq_iff_eq]
          exact ⟨fun h => by rw [h]; rfl, fun h => by apply UInt8.toNat_inj.1; show _ = 61; omega⟩)
        clear hs hr1
        go_enter Tryd.func77, Tryd.ntmps77
        go_wp2_with fail
        refine (rsigns_as _ (by omega) HA).mono ?_
        rintro e w' ⟨rfl, rfl⟩
        go_wp2_with fail
        refine (rsigns_as _ HZ2.out HB).mono ?_
        rintro e w' ⟨rfl, rfl⟩
        go_wp2_with fail
        refine (rvalue_as _ HV1).mono ?_
        rintro e w' ⟨rfl, rfl⟩
        go_wp2_with fail
        go_ret
        exact ⟨ret_bool HR.out.symm, rfl⟩
    · have em : (v1 % 16 == 0) = false := by rw [beq_eq_false_iff_ne]; exact hm
      rw [decide_eq_false hm, Bool.false_and] at hr1
      have HR := Lib.hid hr1
      clear hm hr1
      go_enter Tryd.func77, Tryd.ntmps77
      go_wp2_with fail
      refine (rsigns_as _ (by omega) HA).mono ?_
      rintro e w' ⟨rfl, rfl⟩
      go_wp2_with fail
      refine (rsigns_as _ HZ2.out HB).mono ?_
      rintro e w' ⟨rfl, rfl⟩
      go_wp2_with fail
      refine (rvalue_as _ HV1).mono ?_
      rintro e w' ⟨rfl, rfl⟩
      go_wp2_with fail
      go_ret
      exact ⟨ret_bool HR.out.symm, rfl⟩
  · have e2 : ((s[2].toNat : Int) == 61) = false := beq_no (fun h => h2 (UInt8.toNat_inj.1 (by show _ = 61; omega)))
    rw [if_neg h2] at hr1
    clear h2 HV1
    by_cases hs : s.size = 4
    · have es : ((s.size : Int) == 4) = true := beq_yes (by omega)
      have es' : (s.size == 4) = true := by rw [beq_iff_eq]; exact hs
      rw [decide_eq_true hs, Bool.true_and] at hr1
      have hs4 : 3 < s.size := by omega
      have hs5 : (3 : Int) < s.size := by omega
      have hs6 : (3 : Int) ≤ s.size := by omega
      rw [get_list s 3 hs4] at hr1
      obtain ⟨b, hb⟩ : ∃ b, rSigns (s.data.toList.take 3) = b := ⟨_, rfl⟩
      have HB3 := Lib.hid (show rSigns (s.extract 0 3).data.toList = b from by rw [cut_list]; exact hb)
      have HZ3 := Lib.hid (show (s.extract 0 3).size ≤ 100000 from by rw [ByteArray.size_extract]; omega)
      rw [hb] at hr1
      clear hs
      cases b
      · have HR := Lib.hid (show rLast s.data.toList = false from by rw [hr1]; rfl)
        clear hb hr1
        go_enter Tryd.func77, Tryd.ntmps77
        go_wp2_with fail
        refine (rsigns_as _ (by omega) HA).mono ?_
        rintro e w' ⟨rfl, rfl⟩
        go_wp2_with fail
        refine (rsigns_as _ HZ2.out HB).mono ?_
        rintro e w' ⟨rfl, rfl⟩
        go_wp2_with fail
        refine (rsigns_as _ HZ3.out HB3).mono ?_
        rintro e w' ⟨rfl, rfl⟩
        go_wp2_with fail
        go_ret
        exact ⟨ret_bool HR.out.symm, rfl⟩
      · have hv2 : 0 ≤ val s[2] := signs_mem hb (by omega) hq2
        obtain ⟨v2, hvv⟩ : ∃ v, val s[2] = v := ⟨_, rfl⟩
        rw [hvv] at hv2 hr1
        have hvr := val_range s[2]
        rw [hvv] at hvr
        have hvu2 : v2 ≤ 63 := hvr.2
        have HV2 := Lib.hid hvv
        clear hvv hb hvr
        by_cases h3 : s[3] = 61
        · have e3 : ((s[3].toNat : Int) == 61) = true := by rw [h3]; rfl
          have HR := Lib.hid (show rLast s.data.toList = (v2 % 4 == 0) from by rw [hr1, decide_eq_true h3, Bool.true_and, Bool.true_and, Bool.eq_iff_iff, decide_eq_true_iff, beq_iff_eq])
          clear hr1 h3
          go_enter Tryd.func77, Tryd.ntmps77
          go_wp2_with fail
          refine (rsigns_as _ (by omega) HA).mono ?_
          rintro e w' ⟨rfl, rfl⟩
          go_wp2_with fail
          refine (rsigns_as _ HZ2.out HB).mono ?_
          rintro e w' ⟨rfl, rfl⟩
          go_wp2_with fail
          refine (rsigns_as _ HZ3.out HB3).mono ?_
          rintro e w' ⟨rfl, rfl⟩
          go_wp2_with fail
          refine (rvalue_as _ HV2).mono ?_
          rintro e w' ⟨rfl, rfl⟩
          go_wp2_with fail
          go_ret
          exact ⟨ret_bool HR.out.symm, rfl⟩
        · have e3 : ((s[3].toNat : Int) == 61) = false := beq_no (fun h => h3 (UInt8.toNat_inj.1 (by show _ = 61; omega)))
          have HR := Lib.hid (show rLast s.data.toList = false from by rw [hr1, decide_eq_false h3]; simp)
          clear hr1 h3
          go_enter Tryd.func77, Tryd.ntmps77
          go_wp2_with fail
          refine (rsigns_as _ (by omega) HA).mono ?_
          rintro e w' ⟨rfl, rfl⟩
          go_wp2_with fail
          refine (rsigns_as _ HZ2.out HB).mono ?_
          rintro e w' ⟨rfl, rfl⟩
          go_wp2_with fail
          refine (rsigns_as _ HZ3.out HB3).mono ?_
          rintro e w' ⟨rfl, rfl⟩
          go_wp2_with fail
          go_ret
          exact ⟨ret_bool HR.out.symm, rfl⟩
    · have es : ((s.size : Int) == 4) = false := beq_no (by omega)
      have es' : (s.size == 4) = false := by rw [beq_eq_false_iff_ne]; exact hs
      have HR := Lib.hid (show rLast s.data.toList = false from by rw [hr1, decide_eq_false hs]; rfl)
      clear hs hr1
      go_enter Tryd.func77, Tryd.ntmps77
      go_wp2_with fail
      refine (rsigns_as _ (by omega) HA).mono ?_
      rintro e w' ⟨rfl, rfl⟩
      go_wp2_with fail
      refine (rsigns_as _ HZ2.out HB).mono ?_
      rintro e w' ⟨rfl, rfl⟩
      go_wp2_with fail
      go_ret
      exact ⟨ret_bool HR.out.symm, rfl⟩
theorem rlast_as {s : ByteArray} {b : Bool} (w : World) (h0 : 0 < s.size) (h4 : s.size ≤ 4) (h : Hid (rLast s.data.toList = b)) :
    Calls Tryd.prog 77 #[.string s] w fun e w' => e = .returned (.bool b) ∧ w = w' := by
  have := rlast_any s w h0 h4; rw [h.out] at this; exact this

theorem begins_long : ∀ {l : List UInt8}, 4 < l.length → rBegins l = if rSigns (l.take 4) then rBegins (l.drop 4) else false
  | [], h | [_], h | [_, _], h | [_, _, _], h | [_, _, _, _], h => by simp at h
  | a :: b :: c :: d :: e :: r, _ => by simp [rBegins]
theorem begins_short : ∀ {l : List UInt8}, l.length ≤ 4 → rBegins l = (l.isEmpty || rLast l)
  | [], _ | [_], _ | [_, _], _ | [_, _, _], _ | [_, _, _, _], _ => by simp [rBegins]
  | a :: b :: c :: d :: e :: r, h => by simp at h
theorem str_isEmpty {t : ByteArray} (h : 0 < t.size) : t.toList.isEmpty = false := by
  rw [ByteArray.toList_eq]
  rcases hl : t.data.toList with _ | ⟨x, r⟩
  · have := str_len t; rw [hl] at this; simp at this; omega
  · rfl

set_option maxRecDepth 100000 in
set_option maxHeartbeats 1000000 in
theorem rbegins_any (s : ByteArray) (w : World) (hm : s.size ≤ 100000) :
    Calls Tryd.prog 62 #[.string s] w fun e w' => e = .returned (.bool (rBegins s.data.toList)) ∧ w = w' := by
  go_enter Tryd.func62, Tryd.ntmps62
  go_wp2_with fail
  go_loop [0] (fun v => ∃ t : ByteArray, v = .string t ∧ t.size ≤ s.size ∧ Hid (rBegins t.data.toList = rBegins s.data.toList)) (fun v => lenOf v)
  case atStart => exact ⟨s, rfl, Nat.le_refl _, by rfl⟩
  case round =>
    obtain ⟨t, rfl, ht, HR⟩ := hrel
    by_cases h4 : 4 < t.size
    · have h4' : (4 : Int) < t.size := by omega
      have h4'' : (4 : Int) ≤ t.size := by omega
      obtain ⟨b, hb⟩ : ∃ b, rSigns (t.data.toList.take 4) = b := ⟨_, rfl⟩
      have HB := Lib.hid (show rSigns (t.extract 0 4).data.toList = b from by rw [cut_list]; exact hb)
      have HZ := Lib.hid (show (t.extract 0 4).size ≤ 100000 from by rw [ByteArray.size_extract]; omega)
      have hl := begins_long (l := t.data.toList) (by rw [str_len]; exact h4)
      rw [hb, HR.out] at hl
      cases b
      · have HF := Lib.hid (show rBegins s.data.toList = false from by rw [hl]; rfl)
        clear hl hb
        go_wp2_with fail
        refine (rsigns_as _ HZ.out HB).mono ?_
        rintro e w' ⟨rfl, rfl⟩
        go_wp2_with fail
        go_ret
        exact ⟨ret_bool HF.out.symm, rfl⟩
      · have HF := Lib.hid (show rBegins (t.extract 4 t.size).data.toList = rBegins s.data.toList from by
          rw [Lib.extract_data, List.take_of_length_le (by rw [List.length_drop, str_len]; omega), hl]; rfl)
        have HX := Lib.hid (show (t.extract 4 t.size).size = t.size - 4 from by rw [ByteArray.size_extract, Nat.min_self])
        clear hl hb
        go_wp2_with fail
        refine (rsigns_as _ HZ.out HB).mono ?_
        rintro e w' ⟨rfl, rfl⟩
        go_wp2_with fail
        go_round
        case rel => exact ⟨_, rfl, by rw [HX.out]; omega, HF.out⟩
        case measure => simp only [lenOf]; rw [HX.out]; omega
    · have h4' : ¬ (4 : Int) < t.size := by omega
      have hl := begins_short (l := t.data.toList) (by rw [str_len]; omega)
      rw [HR.out] at hl
      by_cases h0 : t.size = 0
      · have hs : t.data.toList = [] := List.eq_nil_of_length_eq_zero (by rw [str_len]; exact h0)
        have hs1 : t.toList = [] := by rw [ByteArray.toList_eq]; exact hs
        have HF := Lib.hid (show rBegins s.data.toList = true from by rw [hl, hs]; rfl)
        clear hl hs
        go_wp2_with fail
        go_ret
        exact ⟨ret_bool HF.out.symm, rfl⟩
      · have hs1 : t.toList.isEmpty = false := str_isEmpty (by omega)
        obtain ⟨b, hb⟩ : ∃ b, rLast t.data.toList = b := ⟨_, rfl⟩
        have HB := Lib.hid hb
        have HF := Lib.hid (show rBegins s.data.toList = b from by
          rw [hl, hb, show t.data.toList.isEmpty = false from by rw [← ByteArray.toList_eq]; exact hs1]; rfl)
        have h0' : 0 < t.size := by omega
        clear hl hb h0
        go_wp2_with fail
        refine (rlast_as _ h0' (by omega) HB).mono ?_
        rintro e w' ⟨rfl, rfl⟩
        go_wp2_with fail
        go_ret
        exact ⟨ret_bool HF.out.symm, rfl⟩
theorem rbegins_as {s : ByteArray} {b : Bool} (w : World) (hm : s.size ≤ 100000) (h : Hid (rBegins s.data.toList = b)) :
    Calls Tryd.prog 62 #[.string s] w fun e w' => e = .returned (.bool b) ∧ w = w' := by
  have := rbegins_any s w hm; rw [h.out] at this; exact this
end Go.Proofs.YtefhifmilmedhaaDoor
