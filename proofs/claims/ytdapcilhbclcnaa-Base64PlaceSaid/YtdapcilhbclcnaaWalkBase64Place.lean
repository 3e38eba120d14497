/- The walk of Base64Place: true for every input. -/
import Derived.Test.YtdapcilhbclcnaaB64Fixed
import Derived.Test.YtdapcilhbclcnaaB64Place
namespace Go.Proofs.Ytdapcilhbclcnaa
open Go.RowKit

theorem str_cat (a b : ByteArray) : (a ++ b).data.toList = a.data.toList ++ b.data.toList := by simp
theorem str_cut (s : ByteArray) (k : Nat) : (s.extract 0 k).data.toList = s.data.toList.take k := by rw [Lib.extract_data]; simp
/-- The ends, as the walk has them. -/
def endS : Nat → ByteArray
  | 0 => ⟨#[65]⟩
  | 1 => ⟨#[65, 65]⟩
  | 2 => ⟨#[65, 65, 65]⟩
  | 3 => ⟨#[61]⟩
  | _ => ⟨#[61, 61]⟩
theorem endS_list {j : Nat} (h : j < 5) : (endS j).data.toList = endL.getD j [] := by
  have : j = 0 ∨ j = 1 ∨ j = 2 ∨ j = 3 ∨ j = 4 := by omega
  rcases this with rfl | rfl | rfl | rfl | rfl <;> rfl
abbrev endCells : Array Value := #[.string ⟨#[65]⟩, .string ⟨#[65, 65]⟩, .string ⟨#[65, 65, 65]⟩, .string ⟨#[61]⟩, .string ⟨#[61, 61]⟩]
theorem endCells_at {j : Nat} (h : j < 5) : endCells[j]? = some (.string (endS j)) := by
  have : j = 0 ∨ j = 1 ∨ j = 2 ∨ j = 3 ∨ j = 4 := by omega
  rcases this with rfl | rfl | rfl | rfl | rfl <;> rfl
theorem endS_size {j : Nat} : (endS j).size ≤ 3 := by
  rcases j with _ | _ | _ | _ | j <;> first | decide | (show (⟨#[61, 61]⟩ : ByteArray).size ≤ 3; decide)
theorem cat_size (a b : ByteArray) : (a ++ b).size = a.size + b.size := ByteArray.size_append

set_option maxRecDepth 100000 in
set_option maxHeartbeats 1000000 in
theorem walkBase64Place (w : World) (s : ByteArray) (hm : s.size ≤ maxLen) (more : ByteArray) (hm2 : more.size ≤ maxLen) :
    Calls Try.prog 7 #[.string s, .string more] w fun e w' => e = .returned (.bool true) ∧ Below w.heap.size w w' := by
  unfold maxLen at hm hm2
  by_cases hl : 400 < s.size
  · have hl1 : (400 : Int) < s.size := by omega
    go_enter Try.func7, Try.ntmps7
    go_wp2_with fail
    refine (fixed03 _).mono ?_
    rintro e w' ⟨rfl, hb⟩
    go_wp2_with fail
    go_ret
    exact ⟨rfl, hb⟩
  have hl1 : decide ((400 : Int) < s.size) = false := decide_eq_false (by omega)
  have hl1' : decide (400 < s.size) = false := decide_eq_false (by omega)
  by_cases hk : 400 < more.size
  · have hk1 : (400 : Int) < more.size := by omega
    go_enter Try.func7, Try.ntmps7
    go_wp2_with fail
    refine (fixed03 _).mono ?_
    rintro e w' ⟨rfl, hb⟩
    go_wp2_with fail
    go_ret
    exact ⟨rfl, hb⟩
  have hk1 : decide ((400 : Int) < more.size) = false := decide_eq_false (by omega)
  have hk1' : decide (400 < more.size) = false := decide_eq_false (by omega)
  obtain ⟨b, n, ok, hd⟩ : ∃ b n ok, dec64 s.data.toList = (b, n, ok) := ⟨_, _, _, rfl⟩
  have HD := Lib.hid hd
  have HS := Lib.hid (show s.size ≤ 100000 from by omega)
  cases ok
  · obtain ⟨rfl, hn⟩ := dec64_no hd
    rw [str_len] at hn
    have hn1 : (n : Int) ≤ s.size := by omega
    have hn2 : (0 : Int) ≤ n := by omega
    have hn3 : decide ((n : Int) < 0) = false := decide_eq_false (by omega)
    have hn4 : decide ((s.size : Int) < n) = false := decide_eq_false (by omega)
    have hn4' : decide (s.size < n) = false := decide_eq_false (by omega)
    by_cases hns : n < s.size
    · have hns1 : (n : Int) < s.size := by omega
      have HE := Lib.hid (show dec64 (s.extract 0 (n + 1) ++ more).data.toList = ([], n, false) from by
        rw [str_cat, str_cut]; exact dec_stop _ hd (by rw [str_len]; exact hns))
      have hz : (s.extract 0 (n + 1) ++ more).size = n + 1 + more.size := by rw [cat_size, ByteArray.size_extract]; omega
      have HZ := Lib.hid (show (s.extract 0 (n + 1) ++ more).size ≤ 100000 from by omega)
      have hlim : ¬ 9223372036854775807 < (s.extract 0 (n + 1)).size + more.size := by rw [ByteArray.size_extract]; omega
      clear hd hz
      go_enter Try.func7, Try.ntmps7
      go_wp2_with fail
      refine (decode64_as _ HS.out HD.out).mono ?_
      rintro e w1 ⟨A, c, rfl, _, hb⟩
      have HB := Lib.hid hb
      clear hb
      go_wp2_with fail
      refine (decode64_as _ HZ.out HE.out).mono ?_
      rintro e w2 ⟨A2, c2, rfl, _, hb2⟩
      have HB2 := Lib.hid (HB.out.trans (hb2.mono HB.out.size))
      clear hb2
      go_wp2_with fail
      refine (fixed03 _).mono ?_
      rintro e w3 ⟨rfl, hb3⟩
      have HB3 := Lib.hid (HB2.out.trans (hb3.mono HB2.out.size))
      clear hb3
      go_wp2_with fail
      go_ret
      exact ⟨by simp, HB3.out⟩
    · obtain rfl : n = s.size := by omega
      have hns1 : ¬ (s.size : Int) < s.size := by omega
      obtain ⟨j, hj, hje⟩ := dec_ends _ s.data.toList (Nat.le_refl _) (by rw [str_len]; exact hd)
      have HJ := Lib.hid hje
      clear hd hje
      go_enter Try.func7, Try.ntmps7
      go_wp2_with fail
      refine (decode64_as _ HS.out HD.out).mono ?_
      rintro e w1 ⟨A, c, rfl, _, hb⟩
      have HB := Lib.hid hb
      clear hb
      go_wp2_with fail
      go_loopw [72] (fun i wr => ∃ k : Nat, k ≤ j ∧ i = .int .i64 k ∧ Below (w1.heap.size + 1) (w1.alloc (.cells endCells 9)) wr) (fun i _ => 5 - (intOf i).toNat)
      case atStart => exact ⟨0, Nat.zero_le _, rfl, Below.refl _ _⟩
      case round =>
        obtain ⟨k, hk, rfl, hb⟩ := hrel
        have hk5 : (k : Int) < 5 := by omega
        have hc : wr.cell? ⟨w1.heap.size, k, none⟩ = some (.string (endS k)) := by
          rw [hb.cell (by simp), World.cell?_alloc_at _ _ _ _ rfl]
          exact endCells_at (by omega)
        have HBB := Lib.hid hb
        have HW := Lib.hid (show Below w.heap.size w wr from (HB.out.alloc HB.out.size _).trans (hb.mono (by have := HB.out.size; omega)))
        have hes := endS_size (j := k)
        have HZ := Lib.hid (show (s ++ endS k).size ≤ 100000 from by rw [cat_size]; omega)
        have hlim : ¬ 9223372036854775807 < s.size + (endS k).size := by omega
        have HL := Lib.hid (show (s ++ endS k).data.toList = s.data.toList ++ endL.getD k [] from by rw [str_cat, endS_list (by omega)])
        obtain ⟨b2, n2, ok2, hd2⟩ : ∃ b n ok, dec64 (s ++ endS k).data.toList = (b, n, ok) := ⟨_, _, _, rfl⟩
        have HD2 := Lib.hid hd2
        clear hd2 hb
        cases ok2
        · have hkj : k < j := by
            rcases Nat.lt_or_ge k j with h | h
            · exact h
            · obtain rfl : k = j := by omega
              have h1 := HJ.out
              have h2 := HD2.out
              rw [HL.out] at h2
              rw [h2] at h1
              cases h1
          go_wp2_with fail
          refine (decode64_as _ HZ.out HD2.out).mono ?_
          rintro e w2 ⟨A2, c2, rfl, _, hb2⟩
          have HB2 := Lib.hid (HBB.out.trans (hb2.mono (by have := HBB.out.size; simp at this; omega)))
          clear hb2
          go_wp2_with fail
          go_roundw
          case rel => exact ⟨k + 1, by omega, by go_num, HB2.out⟩
          case measure => simp [intOf]; omega
        · go_wp2_with fail
          refine (decode64_as _ HZ.out HD2.out).mono ?_
          rintro e w2 ⟨A2, c2, rfl, _, hb2⟩
          have HB2 := Lib.hid (HW.out.trans (hb2.mono HW.out.size))
          clear hb2
          go_wp2_with fail
          refine (fixed03 _).mono ?_
          rintro e w3 ⟨rfl, hb3⟩
          have HB3 := Lib.hid (HB2.out.trans (hb3.mono HB2.out.size))
          clear hb3
          go_wp2_with fail
          go_ret
          exact ⟨rfl, HB3.out⟩
  · obtain ⟨rfl, _⟩ := dec64_yes hd
    clear hd
    go_enter Try.func7, Try.ntmps7
    go_wp2_with fail
    refine (decode64_as _ HS.out HD.out).mono ?_
    rintro e w1 ⟨A, c, rfl, _, hb⟩
    have HB := Lib.hid hb
    clear hb
    go_wp2_with fail
    refine (fixed03 _).mono ?_
    rintro e w2 ⟨rfl, hb2⟩
    have HB2 := Lib.hid (HB.out.trans (hb2.mono HB.out.size))
    clear hb2
    go_wp2_with fail
    go_ret
    exact ⟨rfl, HB2.out⟩
end Go.Proofs.Ytdapcilhbclcnaa
