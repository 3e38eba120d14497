/- The walk of LetterOne: true for every input. -/
import Derived.Test.YtdapcilhbclcnaaLetFixed
import Derived.Deep.RegionHeld3
namespace Go.Proofs.Ytdapcilhbclcnaa
open Go.RowKit
set_option linter.unusedVariables false

theorem strOf_of {l : List UInt8} {s : ByteArray} (h : l = s.data.toList) : strOf l = s := by rw [h]; exact strOf_data s
theorem lcut_list (s : ByteArray) (k : Nat) : (s.extract 0 k).data.toList = s.data.toList.take k := by rw [Lib.extract_data]; simp

theorem fixed04_at {w0 : World} (w : World) (h : Below w0.heap.size w0 w) : Calls Try.prog 21 #[] w fun e w' => e = .returned (.bool true) ∧ Below w0.heap.size w0 w' :=
  (fixed04 w).mono fun _ _ ⟨he, hb⟩ => ⟨he, h.trans (hb.mono h.size)⟩
theorem lwrite_at {w0 : World} {n c : Nat} {A : Option Addr} {l : List UInt8} {S : ByteArray} (w : World) (h : Below w0.heap.size w0 w) (hb : BytesAt w0 w0.heap.size A n c l) (hm : n ≤ 100000) (hs : Hid (strOf (wr l) = S)) :
    Calls Try.prog 23 #[.slice A n c] w fun e w' => e = .returned (.string S) ∧ Below w0.heap.size w0 w' :=
  (lwrite_as w (RowAt.mono (RowAt.below hb h) h.size) hm hs).mono fun _ _ ⟨he, hb⟩ => ⟨he, h.trans (hb.mono h.size)⟩

set_option maxRecDepth 100000 in
set_option maxHeartbeats 1000000 in
theorem walkLetterOne (w : World) (s : ByteArray) (hm : s.size ≤ maxLen) :
    Calls Try.prog 11 #[.string s] w fun e w' => e = .returned (.bool true) ∧ Below w.heap.size w w' := by
  unfold maxLen at hm
  by_cases hl : 1000 < s.size
  · have hl1 : (1000 : Int) < s.size := by omega
    go_enter Try.func11, Try.ntmps11
    go_wp2_with fail
    refine (fixed04 _).mono ?_
    rintro e w' ⟨rfl, hb⟩
    go_wp2_with fail
    go_ret
    exact ⟨rfl, hb⟩
  have hl1 : ¬ (1000 : Int) < s.size := by omega
  obtain ⟨b, n, ok, hd⟩ : ∃ b n ok, rdAt s.data.toList 0 = (b, n, ok) := ⟨_, _, _, rfl⟩
  have HD := Lib.hid hd
  have HS := Lib.hid (show s.size ≤ 100000 from by omega)
  have hf := rdAt_facts _ s.data.toList 0 (Nat.le_refl _)
  rw [hd, str_len] at hf
  simp only at hf
  cases ok
  · obtain ⟨rfl, _, hn⟩ := hf.2 rfl
    rw [Nat.zero_add] at hn
    have hn1 : (n : Int) < s.size := by omega
    have hn2 : (0 : Int) ≤ n := by omega
    have hn3 : decide ((n : Int) < 0) = false := decide_eq_false (by omega)
    have hn4 : decide ((s.size : Int) ≤ n) = false := decide_eq_false (by omega)
    have hn4' : decide (s.size ≤ n) = false := decide_eq_false (by omega)
    obtain ⟨c, hc⟩ := read_part _ s.data.toList 0 [] n (Nat.le_refl _) hd
    rw [Nat.sub_zero] at hc
    have HC := Lib.hid (show rdAt (s.extract 0 n).data.toList 0 = (c, 0, true) from by rw [lcut_list]; exact hc)
    have HW := Lib.hid (show strOf (wr c) = s.extract 0 n from strOf_of (by rw [lcut_list]; exact wr_read _ _ 0 c (Nat.le_refl _) hc))
    have HZ := Lib.hid (show (s.extract 0 n).size ≤ 100000 from by rw [ByteArray.size_extract]; omega)
    have hcl : c.length ≤ 100000 := by
      have := ((rdAt_facts _ (s.data.toList.take n) 0 (Nat.le_refl _)).1 (by rw [hc])).2
      rw [hc, List.length_take, str_len] at this
      simp only at this
      omega
    clear hd hf hc hn
    go_enter Try.func11, Try.ntmps11
    go_wp2_with fail
    refine (lread_as _ HS.out HD.out).mono ?_
    rintro e w1 ⟨A, c1, rfl, _, hb⟩
    have HB := Lib.hid hb
    clear hb
    go_wp2_with fail
    refine (lread_as _ HZ.out HC.out).mono ?_
    rintro e w2 ⟨A2, c2, rfl, hbt, hb2⟩
    have HT2 := Lib.hid hbt
    have HB2 := Lib.hid (HB.out.trans (hb2.mono HB.out.size))
    clear hb2 hbt
    have hn5 : (n : Int) ≤ s.size := by omega
    go_wp2_with fail
    have hS0 : Below w2.heap.size w2 w2 := Below.refl _ _
    go_region_held3 (fun W => Below w2.heap.size w2 W) (first | assumption | exact Below.drew (by assumption)) (first
      | (go_at_call 21; refine (fixed04_at (w0 := w2) _ (by assumption)).mono ?_; rintro e w3 ⟨rfl, hb3⟩)
      | (go_at_call 23; refine (lwrite_at (w0 := w2) _ (by assumption) HT2.out hcl HW).mono ?_; rintro e w4 ⟨rfl, hb4⟩))
    all_goals
      go_wp2_with fail
      go_ret
      exact ⟨by simp, HB2.out.trans (Below.mono (B := w2.heap.size) (by assumption) HB2.out.size)⟩
  · obtain ⟨rfl, hbl⟩ := hf.1 rfl
    have hbl2 : b.length ≤ 100000 := by omega
    have HW := Lib.hid (show strOf (wr b) = s from strOf_of (wr_read _ _ 0 b (Nat.le_refl _) hd))
    clear hd hf hbl
    go_enter Try.func11, Try.ntmps11
    go_wp2_with fail
    refine (lread_as _ HS.out HD.out).mono ?_
    rintro e w1 ⟨A, c1, rfl, hbt, hb⟩
    have HT := Lib.hid hbt
    have HB := Lib.hid hb
    clear hb hbt
    go_wp2_with fail
    refine (fixed04 _).mono ?_
    rintro e w3 ⟨rfl, hb3⟩
    have HT3 := Lib.hid (RowAt.mono (RowAt.below HT.out hb3) hb3.size)
    have HB3 := Lib.hid (HB.out.trans (hb3.mono HB.out.size))
    clear hb3
    go_wp2_with fail
    refine (lwrite_as _ HT3.out hbl2 HW).mono ?_
    rintro e w4 ⟨rfl, hb4⟩
    have HB4 := Lib.hid (HB3.out.trans (hb4.mono HB3.out.size))
    clear hb4
    go_wp2_with fail
    go_ret
    exact ⟨by simp, HB4.out⟩
end Go.Proofs.Ytdapcilhbclcnaa
