/- The walk of base64's reference's Decode. -/
import Derived.Test.YtefhifmilmedhaaDoorB64Ref2
namespace Go.Proofs.YtefhifmilmedhaaDoor
open Go.RowKit
set_option linter.unusedVariables false

/-- Ahead of the first pad there are signs alone. -/
def clean : List UInt8 → Bool
  | [] => true
  | c :: r => if c = 61 then true else decide (0 ≤ val c) && clean r
theorem clean_dec : ∀ (m : Nat) (s b : List UInt8), s.length ≤ m → dec64 s = (b, 0, true) → clean s = true := by
  intro m
  induction m with
  | zero =>
    intro s b h hd
    obtain rfl : s = [] := List.eq_nil_of_length_eq_zero (by omega)
    rfl
  | succ m ih =>
    intro s b h hd
    match s, h, hd with
    | [], _, hd => rfl
    | [a], _, hd => rw [dec64_1] at hd; (repeat' split at hd) <;> simp at hd
    | [a, b], _, hd => rw [dec64_2] at hd; (repeat' split at hd) <;> simp at hd
    | [a, b, c], _, hd => rw [dec64_3] at hd; (repeat' split at hd) <;> simp at hd
    | a :: b' :: c :: d :: r, h, hd =>
      rw [dec64_4] at hd
      by_cases ha : val a < 0
      · rw [if_pos ha] at hd; simp at hd
      rw [if_neg ha] at hd
      by_cases hb : val b' < 0
      · rw [if_pos hb] at hd; simp at hd
      rw [if_neg hb] at hd
      have ha' : 0 ≤ val a := by omega
      have hb' : 0 ≤ val b' := by omega
      have na := val_ne ha'
      have nb := val_ne hb'
      by_cases hc : c = 61
      · simp [clean, na, nb, ha', hb', hc]
      rw [if_neg hc] at hd
      by_cases hv : val c < 0
      · rw [if_pos hv] at hd; simp at hd
      rw [if_neg hv] at hd
      have hc' : 0 ≤ val c := by omega
      by_cases hdd : d = 61
      · simp [clean, na, nb, ha', hb', hc, hc', hdd]
      rw [if_neg hdd] at hd
      by_cases hw : val d < 0
      · rw [if_pos hw] at hd; simp at hd
      rw [if_neg hw] at hd
      have hd' : 0 ≤ val d := by omega
      rcases hk : dec64 r with ⟨b2, n2, _ | _⟩
      · rw [hk] at hd; simp at hd
      · obtain ⟨rfl, _⟩ := dec64_yes hk
        have := ih r b2 (by simp only [List.length_cons] at h; omega) hk
        simp [clean, na, nb, ha', hb', hc, hc', hdd, hd', this]
theorem drop_at {s : ByteArray} {k : Nat} (h : k < s.size) : s.data.toList.drop k = s[k] :: s.data.toList.drop (k + 1) := by
  rw [List.drop_eq_getElem_cons (by rw [str_len]; exact h)]
  rfl
theorem clean_step {s : ByteArray} {k : Nat} (h : k < s.size) (hc : clean (s.data.toList.drop k) = true) (hn : s[k] ≠ 61) : 0 ≤ val s[k] ∧ clean (s.data.toList.drop (k + 1)) = true := by
  rw [drop_at h, clean, if_neg hn, Bool.and_eq_true] at hc
  exact ⟨of_decide_eq_true hc.1, hc.2⟩
theorem out_skip {s : ByteArray} {k B m : Nat} (h : k < s.size) (hn : s[k] ≠ 61) (hm : ¬ 8 ≤ m + 6) : rOut (s.data.toList.drop k) B m = rOut (s.data.toList.drop (k + 1)) ((B * 64 + (val s[k]).toNat) % 65536) (m + 6) := by
  rw [drop_at h, rOut, if_neg hn, if_neg hm]
theorem out_put {s : ByteArray} {k B m : Nat} (h : k < s.size) (hn : s[k] ≠ 61) (hm : 8 ≤ m + 6) : rOut (s.data.toList.drop k) B m = UInt8.ofNat ((B * 64 + (val s[k]).toNat) % 65536 / 2 ^ (m + 6 - 8)) :: rOut (s.data.toList.drop (k + 1)) ((B * 64 + (val s[k]).toNat) % 65536) (m + 6 - 8) := by
  rw [drop_at h, rOut, if_neg hn, if_pos hm]
theorem out_stop {s : ByteArray} {k B m : Nat} (h : k < s.size) (hn : s[k] = 61) : rOut (s.data.toList.drop k) B m = [] := by
  rw [drop_at h, rOut, if_pos hn]
theorem u8_val (x : Nat) : Value.int .u8 ((UInt8.ofNat x).toNat : Int) = .int .u8 ((x : Int) % 256) := by
  rw [UInt8.toNat_ofNat']; rfl
theorem place_step {s : ByteArray} {k : Nat} {b : Bool} (hk : k < s.size) (hb : rBegins (s.data.toList.take (k + 1)) = b) : rPlace s.data.toList (s.size - k) k = if b then rPlace s.data.toList (s.size - (k + 1)) (k + 1) else k := by
  rw [show s.size - k = (s.size - (k + 1)) + 1 from by omega, rPlace, if_pos (by rw [str_len]; exact hk), hb]
theorem place_end {s : ByteArray} : rPlace s.data.toList (s.size - s.size) s.size = s.size := by
  rw [Nat.sub_self, rPlace]
theorem place_range : ∀ (f : Nat) (s : List UInt8) (n : Nat), n ≤ s.length → n ≤ rPlace s f n ∧ rPlace s f n ≤ s.length
  | 0, s, n, h => by simp [rPlace, h]
  | f + 1, s, n, h => by
    unfold rPlace
    by_cases hn : n < s.length
    · rw [if_pos hn]
      by_cases hb : rBegins (s.take (n + 1)) = true
      · rw [if_pos hb]; have := place_range f s (n + 1) (by omega); omega
      · rw [if_neg hb]; omega
    · rw [if_neg hn]; omega
theorem trip {a b : List UInt8} {m n : Nat} {o p : Bool} (h : (a, m, o) = (b, n, p)) : b = a ∧ n = m ∧ p = o := by simp at h; simp [h]
theorem own_put {w : World} {B0 : Nat} {v : Value} {d : List UInt8} (y : Nat) {z : Int} (h : w.ownsRow B0 5 1 v (d.length + 1) (bytesV d ++ [.int .u8 z])) (hz : z = (y : Int) % 256) :
    w.ownsRow B0 5 1 v (d ++ [UInt8.ofNat y]).length (bytesV (d ++ [UInt8.ofNat y])) := by
  subst hz
  rw [List.length_append, List.length_singleton]
  unfold bytesV at h ⊢
  rw [List.map_append, List.map_singleton, u8_val]
  exact h
theorem infoByteR : (Tryd.prog.info? 5).map (fun i => (i.zero, i.size, i.bytes)) = some (some (.int .u8 0), 1, 1) := by kernel_rfl

set_option maxRecDepth 100000 in
set_option maxHeartbeats 1000000 in
theorem rdecode64_any (s : ByteArray) (w : World) (hm : s.size ≤ 99999) :
    Calls Tryd.prog 47 #[.string s] w fun e w' => e = .returned (.tuple #[.string (strOf (dec64 s.data.toList).1), .int .i64 ((dec64 s.data.toList).2.1 : Int), .bool (dec64 s.data.toList).2.2]) ∧ Below w.heap.size w w' := by
  obtain ⟨b, n, ok, hd⟩ : ∃ b n ok, dec64 s.data.toList = (b, n, ok) := ⟨_, _, _, rfl⟩
  have hrd := rDec_eq s.data.toList
  rw [hd] at hrd ⊢
  unfold rDec64 at hrd
  rw [str_len] at hrd
  have hpr := place_range s.size s.data.toList 0 (Nat.zero_le _)
  rw [str_len] at hpr
  obtain ⟨p, hp⟩ : ∃ p, rPlace s.data.toList s.size 0 = p := ⟨_, rfl⟩
  rw [hp] at hrd hpr
  have HP := Lib.hid hp
  have HRD := Lib.hid hrd
  have hpl := hpr.2
  have HCL := Lib.hid (fun (h : ok = true) => clean_dec _ s.data.toList b (Nat.le_refl _) (by rw [h] at hd; obtain ⟨rfl, _⟩ := dec64_yes hd; exact hd))
  clear hp hrd hpr hd
  go_enter Tryd.func47, Tryd.ntmps47
  go_wp2_with fail
  go_loop [5] (fun i => ∃ k : Nat, k ≤ s.size ∧ i = .int .i64 k ∧ Hid (rPlace s.data.toList (s.size - k) k = p)) (fun i => s.size - (intOf i).toNat)
  case atStart => exact ⟨0, Nat.zero_le _, rfl, HP.out⟩
  case round =>
    obtain ⟨k, hk, rfl, HK⟩ := hrel
    by_cases hkx : k < s.size
    · have hk1 : (k : Int) < s.size := by omega
      have hk1' : decide ((k : Int) < s.size) = true := decide_eq_true hk1
      have hk1'' : decide (k < s.size) = true := decide_eq_true hkx
      have hk2 : (k : Int) + 1 ≤ s.size := by omega
      obtain ⟨bg, hbg⟩ : ∃ bg, rBegins (s.data.toList.take (k + 1)) = bg := ⟨_, rfl⟩
      have hst := place_step hkx hbg
      rw [HK.out] at hst
      have HB := Lib.hid (show rBegins (s.extract 0 (k + 1)).data.toList = bg from by rw [cut_list]; exact hbg)
      have HZ := Lib.hid (show (s.extract 0 (k + 1)).size ≤ 100000 from by rw [ByteArray.size_extract]; omega)
      cases bg
      · rw [if_neg (by simp)] at hst
        subst hst
        have HF := Lib.hid (show (([], p, false) : List UInt8 × Nat × Bool) = (b, n, ok) from by rw [← HRD.out, if_pos (.inl hkx)])
        clear hbg
        go_wp2_with fail
        refine (rbegins_as _ HZ.out HB).mono ?_
        rintro e w' ⟨rfl, rfl⟩
        go_wp2_with fail
        go_ret3
        obtain ⟨h1, h2, h3⟩ := trip HF.out
        subst h1 h2 h3
        exact ⟨rfl, Below.refl _ _⟩
      · rw [if_pos rfl] at hst
        have HF := Lib.hid hst.symm
        clear hst hbg
        go_wp2_with fail
        refine (rbegins_as _ HZ.out HB).mono ?_
        rintro e w' ⟨rfl, rfl⟩
        go_wp2_with fail
        go_round
        case rel => exact ⟨k + 1, by omega, by go_num, HF.out⟩
        case measure => simp [intOf]; omega
    · obtain rfl : k = s.size := by omega
      have hkk := HK.out
      rw [place_end] at hkk
      subst hkk
      have hk1 : ¬ (s.size : Int) < s.size := by omega
      by_cases h4 : s.size % 4 = 0
      · have h4' : ((s.size : Int) % 4 != 0) = false := bne_no (by omega)
        have hrd2 := HRD.out
        rw [if_neg (by omega)] at hrd2
        have HF := Lib.hid hrd2
        have HC := Lib.hid (HCL.out (by have := congrArg (fun x => x.2.2) hrd2; exact this.symm))
        clear hrd2 h4
        go_wp2_with fail
        go_loopw [6, 7, 8, 9] (fun v bt mn i wr => ∃ (d : List UInt8) (B m k : Nat), bt = .int .i64 B ∧ mn = .int .i64 m ∧ i = .int .i64 k ∧ k ≤ s.size ∧ d.length ≤ k ∧ (m = 0 ∨ m = 2 ∨ m = 4 ∨ m = 6) ∧ B < 65536 ∧ Hid (d ++ rOut (s.data.toList.drop k) B m = rOut s.data.toList 0 0) ∧ Hid (clean (s.data.toList.drop k) = true) ∧ wr.ownsRow w.heap.size 5 1 v d.length (bytesV d) ∧ Below w.heap.size w wr) (fun _ _ _ i _ => s.size - (intOf i).toNat)
        case atStart => exact ⟨[], 0, 0, 0, rfl, rfl, rfl, Nat.zero_le _, Nat.zero_le _, .inl rfl, by omega, by show _ = _; rw [List.drop_zero]; rfl, by show _ = _; rw [List.drop_zero]; exact HC.out, ⟨rfl, .inr ⟨w.heap.size, 0, #[], rfl, Nat.le_refl _, heap_alloc_new _ _, Nat.le_refl _, Nat.zero_le _, rfl, rfl⟩⟩, (Below.refl _ _).alloc (Nat.le_refl _) _⟩
        case round =>
          obtain ⟨d, B, m, k, rfl, rfl, rfl, hk, hd, hm4, hB, HO, HCK, hown, hb⟩ := hrel
          have HBB := Lib.hid hb
          have HOWN := Lib.hid hown
          obtain ⟨A0, c0, rfl⟩ := own_form hown
          clear hb hown
          have fin : ∀ (W : World) (A : Option Addr) (c : Nat), W.ownsRow w.heap.size 5 1 (.slice A d.length c) d.length (bytesV d) → BytesAt W W.heap.size A d.length c d := fun W A c h => RowAt.of_own h
          have hcv := run_string_bytes 22 9 5 Tryd.underlying22 Tryd.underlying5 Tryd.underlying9 (fin wr A0 c0 HOWN.out)
          clear fin
          by_cases hkx : k < s.size
          · have hk1 : (k : Int) < s.size := by omega
            by_cases h61 : s[k] = 61
            · have e61 : ((s[k].toNat : Int) == 61) = true := by rw [h61]; rfl
              have HD := Lib.hid (show ((d, 0, true) : List UInt8 × Nat × Bool) = (b, n, ok) from by rw [← HF.out, ← HO.out, out_stop hkx h61, List.append_nil])
              clear h61
              go_wp2_with fail
              go_ret3
              obtain ⟨h1, h2, h3⟩ := trip HD.out
              subst h1 h2 h3
              exact ⟨rfl, HBB.out⟩
            · have e61 : ((s[k].toNat : Int) == 61) = false := beq_no (fun h => h61 (UInt8.toNat_inj.1 (by show _ = 61; omega)))
              have hcs := clean_step hkx HCK.out h61
              have hvr := val_range s[k]
              obtain ⟨x, hx⟩ : ∃ x : Nat, (val s[k]).toNat = x := ⟨_, rfl⟩
              have HV := Lib.hid (show val s[k] = (x : Int) from by omega)
              have hx64 : (x : Int) < 64 := by omega
              have HC2 := Lib.hid hcs.2
              clear hcs hvr
              rcases hm4 with rfl | rfl | rfl | rfl
              · have HO2 := Lib.hid (show d ++ rOut (s.data.toList.drop (k + 1)) ((B * 64 + x) % 65536) 6 = rOut s.data.toList 0 0 from by rw [← HO.out, out_skip (m := 0) hkx h61 (by omega), hx])
                clear hx h61
                go_wp2_with fail
                refine (rvalue_as _ HV).mono ?_
                rintro e w' ⟨rfl, rfl⟩
                go_wp2_with fail
                go_roundw
                case rel => exact ⟨d, (B * 64 + x) % 65536, 6, k + 1, congrArg (Value.int .i64) (by omega), rfl, by go_num, by omega, by omega, by omega, by omega, HO2.out, HC2.out, HOWN.out, HBB.out⟩
                case measure => simp [intOf]; omega
              · have HO2 := Lib.hid (show (d ++ [UInt8.ofNat ((B * 64 + x) % 65536 / 1)]) ++ rOut (s.data.toList.drop (k + 1)) ((B * 64 + x) % 65536) 0 = rOut s.data.toList 0 0 from by rw [← HO.out, out_put (m := 2) hkx h61 (by omega), hx]; simp)
                have hb0 := HBB.out.size
                clear hx h61 hcv
                go_wp2_with fail
                refine (rvalue_as _ HV).mono ?_
                rintro e w' ⟨rfl, rfl⟩
                go_wp2_with (at_builtin; refine wpList_push rfl (.tmp 59) (.tmp 64) _ rfl w.heap.size 5 _ 1 Tryd.underlying22 infoByteR rfl (.slice A0 d.length c0) d.length (bytesV d) rfl wr wr.heap.size rfl _ rfl HOWN.out rfl hb0 (by omega) (by unfold maxLen; omega) ?_; intro A' c' w2 hown' hb2 hgrow; have HO' := Lib.hid hown'; have HB2 := Lib.hid (HBB.out.trans hb2); clear hown' hb2 hgrow)
                go_roundw
                case rel => exact ⟨d ++ [UInt8.ofNat ((B * 64 + x) % 65536 / 1)], (B * 64 + x) % 65536, 0, k + 1, congrArg (Value.int .i64) (by omega), rfl, by go_num, by omega, by rw [List.length_append, List.length_singleton]; omega, by omega, by omega, HO2.out, HC2.out, own_put _ HO'.out (by omega), HB2.out⟩
                case measure => simp [intOf]; omega
              · have HO2 := Lib.hid (show (d ++ [UInt8.ofNat ((B * 64 + x) % 65536 / 4)]) ++ rOut (s.data.toList.drop (k + 1)) ((B * 64 + x) % 65536) 2 = rOut s.data.toList 0 0 from by rw [← HO.out, out_put (m := 4) hkx h61 (by omega), hx]; simp)
                have hb0 := HBB.out.size
                clear hx h61 hcv
                go_wp2_with fail
                refine (rvalue_as _ HV).mono ?_
                rintro e w' ⟨rfl, rfl⟩
                go_wp2_with (at_builtin; refine wpList_push rfl (.tmp 59) (.tmp 64) _ rfl w.heap.size 5 _ 1 Tryd.underlying22 infoByteR rfl (.slice A0 d.length c0) d.length (bytesV d) rfl wr wr.heap.size rfl _ rfl HOWN.out rfl hb0 (by omega) (by unfold maxLen; omega) ?_; intro A' c' w2 hown' hb2 hgrow; have HO' := Lib.hid hown'; have HB2 := Lib.hid (HBB.out.trans hb2); clear hown' hb2 hgrow)
                go_roundw
                case rel => exact ⟨d ++ [UInt8.ofNat ((B * 64 + x) % 65536 / 4)], (B * 64 + x) % 65536, 2, k + 1, congrArg (Value.int .i64) (by omega), rfl, by go_num, by omega, by rw [List.length_append, List.length_singleton]; omega, by omega, by omega, HO2.out, HC2.out, own_put _ HO'.out (by omega), HB2.out⟩
                case measure => simp [intOf]; omega
              · have HO2 := Lib.hid (show (d ++ [UInt8.ofNat ((B * 64 + x) % 65536 / 16)]) ++ rOut (s.data.toList.drop (k + 1)) ((B * 64 + x) % 65536) 4 = rOut s.data.toList 0 0 from by rw [← HO.out, out_put (m := 6) hkx h61 (by omega), hx]; simp)
                have hb0 := HBB.out.size
                clear hx h61 hcv
                go_wp2_with fail
                refine (rvalue_as _ HV).mono ?_
                rintro e w' ⟨rfl, rfl⟩
                go_wp2_with (at_builtin; refine wpList_push rfl (.tmp 59) (.tmp 64) _ rfl w.heap.size 5 _ 1 Tryd.underlying22 infoByteR rfl (.slice A0 d.length c0) d.length (bytesV d) rfl wr wr.heap.size rfl _ rfl HOWN.out rfl hb0 (by omega) (by unfold maxLen; omega) ?_; intro A' c' w2 hown' hb2 hgrow; have HO' := Lib.hid hown'; have HB2 := Lib.hid (HBB.out.trans hb2); clear hown' hb2 hgrow)
                go_roundw
                case rel => exact ⟨d ++ [UInt8.ofNat ((B * 64 + x) % 65536 / 16)], (B * 64 + x) % 65536, 4, k + 1, congrArg (Value.int .i64) (by omega), rfl, by go_num, by omega, by rw [List.length_append, List.length_singleton]; omega, by omega, by omega, HO2.out, HC2.out, own_put _ HO'.out (by omega), HB2.out⟩
                case measure => simp [intOf]; omega
          · obtain rfl : k = s.size := by omega
            have HD := Lib.hid (show ((d, 0, true) : List UInt8 × Nat × Bool) = (b, n, ok) from by rw [← HF.out, ← HO.out, List.drop_of_length_le (by rw [str_len]; exact Nat.le_refl _), rOut, List.append_nil])
            go_wp2_with fail
            go_ret3
            obtain ⟨h1, h2, h3⟩ := trip HD.out
            subst h1 h2 h3
            exact ⟨rfl, HBB.out⟩
      · have h4' : ((s.size : Int) % 4 != 0) = true := bne_yes (by omega)
        have HF := Lib.hid (show (([], s.size, false) : List UInt8 × Nat × Bool) = (b, n, ok) from by rw [← HRD.out, if_pos (.inr h4)])
        clear h4
        go_wp2_with fail
        go_ret3
        obtain ⟨h1, h2, h3⟩ := trip HF.out
        subst h1 h2 h3
        exact ⟨rfl, Below.refl _ _⟩
end Go.Proofs.YtefhifmilmedhaaDoor
