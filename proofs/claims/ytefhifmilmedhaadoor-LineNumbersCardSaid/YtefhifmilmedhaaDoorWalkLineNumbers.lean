/- The walk of LineNumbers. -/
import Derived.Test.YtefhifmilmedhaaDoorLineFixed
import Derived.Lib.MinMax
namespace Go.Proofs.YtefhifmilmedhaaDoor
open Go.RowKit

theorem rnumber_as {s : ByteArray} {n : Int} (w : World) (h : refN s.data.toList = n) :
    Calls Tryd.prog 20 #[.string s] w fun e w' => e = .returned (.int .i64 n) ∧ ∃ k, w' = w.drewN k := by
  subst h
  exact rnumber_any s w

set_option maxRecDepth 100000 in
set_option maxHeartbeats 2000000 in
theorem walkLineNumbers (W : World) (ht : Tab10 W) (s : ByteArray) (_ : s.data.toList.length ≤ maxLen) (n : Int) (n0 : -9223372036854775808 ≤ n) (n1 : n ≤ 9223372036854775807) :
    Calls Tryd.prog 5 #[.string s, .int .i64 n] W fun e W' => e = .returned (.bool true) ∧ Below W.heap.size W W' := by
  by_cases h2 : 100 < s.size
  · have h2' : (100 : Int) < (s.size : Int) := by omega
    go_enter Tryd.func5, Tryd.ntmps5
    go_wp2_with (go_at_call 13; refine (fixed06 _ ht).mono ?_; rintro e w' ⟨rfl, hb⟩)
    go_ret
    exact ⟨rfl, hb⟩
  · have h2'' : (s.size : Int) ≤ 100 := by omega
    obtain ⟨k, o, want, hk, ho, hw, hkw, how⟩ : ∃ (k : Int) (o : Bool) (want : Int), (((numL s.data.toList).getD 0 : Nat) : Int) = k ∧ (numL s.data.toList).isSome = o ∧ refN s.data.toList = want ∧ (o = true → want = k ∧ 0 ≤ k ∧ k < 10000000) ∧ (o = false → want = -1 ∧ k = 0) := by
      refine ⟨_, _, _, rfl, rfl, rfl, ?_, ?_⟩
      · intro e
        cases hn : numL s.data.toList with
        | none => rw [hn] at e; cases e
        | some a =>
          have := numL_bound hn
          refine ⟨refN_some hn, by simp, by simp; omega⟩
      · intro e
        cases hn : numL s.data.toList with
        | none => exact ⟨refN_none hn, rfl⟩
        | some a => rw [hn] at e; cases e
    have hi := num_itoa n
    obtain ⟨m, is, hm, his, hsm, hbg⟩ : ∃ (m : Int) (is : Bool), (((numL (strOf (Lib.itoa n)).data.toList).getD 0 : Nat) : Int) = m ∧ (numL (strOf (Lib.itoa n)).data.toList).isSome = is ∧ (is = true → 0 ≤ n ∧ n ≤ 9999999 ∧ m = n) ∧ (is = false → (n < 0 ∨ 9999999 < n) ∧ m = 0) := by
      refine ⟨_, _, rfl, rfl, ?_, ?_⟩
      · rw [strOf_list, hi]
        intro e
        split at e
        · rename_i h
          exact ⟨h.1, h.2, by rw [if_pos h, Option.getD_some]; omega⟩
        · cases e
      · rw [strOf_list, hi]
        intro e
        split at e
        · cases e
        · rename_i h
          exact ⟨by omega, by rw [if_neg h]; rfl⟩
    have HK := Lib.hid hk
    have HO := Lib.hid ho
    have HW := Lib.hid hw
    have HM := Lib.hid hm
    have HI := Lib.hid his
    clear hk ho hw hm his hi
    go_enter Tryd.func5, Tryd.ntmps5
    go_wp2_with fail
    refine (number_as _ HK.out HO.out).mono ?_
    rintro e w1 ⟨rfl, q1, rfl⟩
    have B1 := Lib.hid (below_drewN (Below.refl W.heap.size W) q1)
    go_wp2_with fail
    refine (rnumber_as _ HW.out).mono ?_
    rintro e w2 ⟨rfl, q2, rfl⟩
    have B2 := Lib.hid (below_drewN (Below.refl W.heap.size W) (q1 + q2))
    go_wp2_with fail
    refine (digits_any n n0 n1 _ (ht.below B2.out)).mono ?_
    rintro e w3 ⟨rfl, hb3⟩
    have B3 := Lib.hid (B2.out.trans (hb3.mono B2.out.size))
    clear hb3
    go_wp2_with fail
    refine (number_as _ HM.out HI.out).mono ?_
    rintro e w4 ⟨rfl, q4, rfl⟩
    have B4 := Lib.hid (below_drewN B3.out q4)
    have S1 := Lib.hid hsm
    have S2 := Lib.hid hbg
    have S3 := Lib.hid hkw
    have S4 := Lib.hid how
    clear hsm hbg hkw how
    cases o with
    | true =>
      obtain ⟨hwk, hk0, hk1⟩ := S3.out rfl
      subst hwk
      have hmx : max want 0 = want := by omega
      cases is with
      | true =>
        obtain ⟨hn0, hn1, hmn⟩ := S1.out rfl
        subst hmn
        go_wp2_with fail
        refine (fixed06 _ (ht.below B4.out)).mono ?_
        rintro e w5 ⟨rfl, hb5⟩
        have B5 := Lib.hid (B4.out.trans (hb5.mono B4.out.size))
        clear hb5
        go_wp2_with (first
          | (go_at_call 21; refine (digits_any _ n0 n1 _ (ht.below B5.out)).mono ?_; rintro e w6 ⟨rfl, hb6⟩; have B6 := Lib.hid (B5.out.trans (hb6.mono B5.out.size)); clear hb6)
          | (go_at_call 22; refine (rDigits_any _ n0 n1 _).mono ?_; rintro e w7 ⟨rfl, rfl⟩))
        go_ret
        exact ⟨by first | (simp; done) | (simp; omega), B6.out⟩
      | false =>
        obtain ⟨hn0, rfl⟩ := S2.out rfl
        rcases hn0 with hn0 | hn0
        · have f0 : ¬ (0 : Int) ≤ n := by omega
          have f1 := beq_no (a := (0 : Int)) (b := n) (by omega)
          have f2 := beq_no (a := n) (b := (0 : Int)) (by omega)
          go_wp2_with fail
          refine (fixed06 _ (ht.below B4.out)).mono ?_
          rintro e w5 ⟨rfl, hb5⟩
          have B5 := Lib.hid (B4.out.trans (hb5.mono B4.out.size))
          clear hb5
          go_wp2_with (first
            | (go_at_call 21; refine (digits_any _ n0 n1 _ (ht.below B5.out)).mono ?_; rintro e w6 ⟨rfl, hb6⟩; have B6 := Lib.hid (B5.out.trans (hb6.mono B5.out.size)); clear hb6)
            | (go_at_call 22; refine (rDigits_any _ n0 n1 _).mono ?_; rintro e w7 ⟨rfl, rfl⟩))
          go_ret
          exact ⟨by first | (simp; done) | (simp; omega), B6.out⟩
        · have f0 : (0 : Int) ≤ n := by omega
          have f3 : ¬ n ≤ 9999999 := by omega
          have f1 := beq_no (a := (0 : Int)) (b := n) (by omega)
          have f2 := beq_no (a := n) (b := (0 : Int)) (by omega)
          go_wp2_with fail
          refine (fixed06 _ (ht.below B4.out)).mono ?_
          rintro e w5 ⟨rfl, hb5⟩
          have B5 := Lib.hid (B4.out.trans (hb5.mono B4.out.size))
          clear hb5
          go_wp2_with (first
            | (go_at_call 21; refine (digits_any _ n0 n1 _ (ht.below B5.out)).mono ?_; rintro e w6 ⟨rfl, hb6⟩; have B6 := Lib.hid (B5.out.trans (hb6.mono B5.out.size)); clear hb6)
            | (go_at_call 22; refine (rDigits_any _ n0 n1 _).mono ?_; rintro e w7 ⟨rfl, rfl⟩))
          go_ret
          exact ⟨by first | (simp; done) | (simp; omega), B6.out⟩
    | false =>
      obtain ⟨hwk, hk0⟩ := S4.out rfl
      subst hk0
      have hmx : max want 0 = 0 := by omega
      have hw0 : ¬ (0 : Int) ≤ want := by omega
      have HWK := Lib.hid hwk
      clear hwk
      cases is with
      | true =>
        obtain ⟨hn0, hn1, hmn⟩ := S1.out rfl
        subst hmn
        go_wp2_with fail
        refine (fixed06 _ (ht.below B4.out)).mono ?_
        rintro e w5 ⟨rfl, hb5⟩
        have B5 := Lib.hid (B4.out.trans (hb5.mono B4.out.size))
        clear hb5
        go_wp2_with (first
          | (go_at_call 21; refine (digits_any _ n0 n1 _ (ht.below B5.out)).mono ?_; rintro e w6 ⟨rfl, hb6⟩; have B6 := Lib.hid (B5.out.trans (hb6.mono B5.out.size)); clear hb6)
          | (go_at_call 22; refine (rDigits_any _ n0 n1 _).mono ?_; rintro e w7 ⟨rfl, rfl⟩))
        go_ret
        exact ⟨by first | (simp; done) | (simp; omega), B6.out⟩
      | false =>
        obtain ⟨hn0, rfl⟩ := S2.out rfl
        rcases hn0 with hn0 | hn0
        · have f0 : ¬ (0 : Int) ≤ n := by omega
          have f1 := beq_no (a := (0 : Int)) (b := n) (by omega)
          have f2 := beq_no (a := n) (b := (0 : Int)) (by omega)
          go_wp2_with fail
          refine (fixed06 _ (ht.below B4.out)).mono ?_
          rintro e w5 ⟨rfl, hb5⟩
          have B5 := Lib.hid (B4.out.trans (hb5.mono B4.out.size))
          clear hb5
          go_wp2_with (first
            | (go_at_call 21; refine (digits_any _ n0 n1 _ (ht.below B5.out)).mono ?_; rintro e w6 ⟨rfl, hb6⟩; have B6 := Lib.hid (B5.out.trans (hb6.mono B5.out.size)); clear hb6)
            | (go_at_call 22; refine (rDigits_any _ n0 n1 _).mono ?_; rintro e w7 ⟨rfl, rfl⟩))
          go_ret
          exact ⟨by first | (simp; done) | (simp; omega), B6.out⟩
        · have f0 : (0 : Int) ≤ n := by omega
          have f3 : ¬ n ≤ 9999999 := by omega
          have f1 := beq_no (a := (0 : Int)) (b := n) (by omega)
          have f2 := beq_no (a := n) (b := (0 : Int)) (by omega)
          go_wp2_with fail
          refine (fixed06 _ (ht.below B4.out)).mono ?_
          rintro e w5 ⟨rfl, hb5⟩
          have B5 := Lib.hid (B4.out.trans (hb5.mono B4.out.size))
          clear hb5
          go_wp2_with (first
            | (go_at_call 21; refine (digits_any _ n0 n1 _ (ht.below B5.out)).mono ?_; rintro e w6 ⟨rfl, hb6⟩; have B6 := Lib.hid (B5.out.trans (hb6.mono B5.out.size)); clear hb6)
            | (go_at_call 22; refine (rDigits_any _ n0 n1 _).mono ?_; rintro e w7 ⟨rfl, rfl⟩))
          go_ret
          exact ⟨by first | (simp; done) | (simp; omega), B6.out⟩
end Go.Proofs.YtefhifmilmedhaaDoor
