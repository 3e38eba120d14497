/- The walk of AhoOdd: true for every input. -/
import Derived.Test.YtohfkpoblebfaaaAhoFixed
import Derived.Test.YtohfkpoblebfaaaAhoRef
namespace Go.Proofs.Ytohfkpoblebfaaa
open Go.RowKit
set_option linter.unusedVariables false

set_option maxRecDepth 100000 in
set_option maxHeartbeats 1000000 in
theorem walk_nil {A1 : Option Addr} {n1 c1 B : Nat} {u : Wd} (w : World) (hu : IntsAt w B A1 n1 c1 u) :
    Calls Try.prog 22 #[.pointer none, .slice A1 n1 c1] w fun e w' => e = .returned (.int .i64 0) ∧ w = w' := by
  have hn := hu.len
  have hcap := hu.2.2.1
  have hcn := hu.2.1
  unfold maxLen at hcap
  have HU := Lib.hid hu
  have HN := Lib.hid hn
  clear hu hn
  go_enter Try.func22, Try.ntmps22
  go_wp2_with fail
  go_loopw [5, 10] (fun a i wr => ∃ (k : Nat), a = .int .i64 0 ∧ i = .int .i64 k ∧ k ≤ n1 ∧ w = wr) (fun _ i _ => n1 - (intOf i).toNat)
  case atStart => exact ⟨0, rfl, rfl, Nat.zero_le _, rfl⟩
  case round =>
    obtain ⟨k, rfl, rfl, hk, rfl⟩ := hrel
    by_cases hlt : k < n1
    · have hku : k < u.length := by have := HN.out; omega
      obtain ⟨b, off, rfl, hbl, hc⟩ := HU.out.cells (by omega)
      have e0 := hc k hku
      clear hc
      go_wp2_with fail
      refine (step_nil _ _ _).mono ?_
      rintro e w2 ⟨rfl, rfl⟩
      go_wp2_with fail
      go_roundw
      case rel => exact ⟨k + 1, rfl, by go_num, by omega, by first | rfl | trivial⟩
      case measure => simp [intOf]; omega
    · obtain rfl : k = n1 := by omega
      go_wp2_with fail
      go_ret
      exact ⟨rfl, rfl⟩
theorem heldL_nil (l : List Wd) : heldL l [] = 0 := by have := (heldL_le l []).1; simpa using this
set_option maxRecDepth 100000 in
set_option maxHeartbeats 3000000 in
theorem walkAhoOdd (W : World) {A : Option Addr} {n c : Nat} {l : List Wd} {v : Vs} (hl : PatsAt W W.heap.size A n c l v) (st : Int) (ht0 : -9223372036854775808 ≤ st) (ht1 : st ≤ 9223372036854775807) (s : Int) (hs0 : -9223372036854775808 ≤ s) (hs1 : s ≤ 9223372036854775807) :
    Calls Try.prog 7 #[.slice A n c, .int .i64 st, .int .i64 s] W fun e W' => e = .returned (.bool true) ∧ Below W.heap.size W W' := by
  have hn := hl.len
  have HN := Lib.hid hn
  have HP := Lib.hid hl
  clear hn hl
  by_cases h2 : 40 < n
  · have HO := Lib.hid (show decide (40 < n) = true from decide_eq_true h2)
    clear h2
    go_enter Try.func7, Try.ntmps7
    go_wp2_with fail
    refine (great18 W HO.out).mono ?_
    rintro e w' ⟨rfl, rfl⟩
    go_wp2_with fail
    refine (fixed18 _).mono ?_
    rintro e w' ⟨rfl, hb⟩
    go_wp2_with fail
    go_ret
    exact ⟨rfl, hb⟩
  · have HO := Lib.hid (show decide (40 < n) = false from decide_eq_false h2)
    clear h2
    by_cases hm : mayP l
    · have HMY := Lib.hid hm
      have HOM := Lib.hid (show (okAll l && decide (n ≤ 32)) = true from by have := HN.out; rw [hm.2, decide_eq_true (by have := hm.1; omega : n ≤ 32)]; rfl)
      clear hm
      go_enter Try.func7, Try.ntmps7
      go_wp2_with fail
      refine (great18 W HO.out).mono ?_
      rintro e w' ⟨rfl, rfl⟩
      go_wp2_with fail
      refine (may_any _ HP.out HOM.out).mono ?_
      rintro e w' ⟨rfl, rfl⟩
      go_wp2_with fail
      refine (new_as _ HP.out HMY.out).mono ?_
      rintro e w1 ⟨B, g, ns, W1, f, A1, c1, rfl, hm, hb⟩
      have M1 := Lib.hid hm
      have H1 := Lib.hid hb
      clear hm hb
      go_wp2_with fail
      refine (ends_nil _ _).mono ?_
      rintro e w' ⟨rfl, rfl⟩
      go_wp2_with fail
      refine (states_nil _).mono ?_
      rintro e w' ⟨rfl, rfl⟩
      go_wp2_with fail
      refine (step_nil _ _ _).mono ?_
      rintro e w' ⟨rfl, rfl⟩
      go_wp2_with fail
      refine (depth_nil _ _).mono ?_
      rintro e w' ⟨rfl, rfl⟩
      go_wp2_with fail
      obtain ⟨w2, hw2⟩ : ∃ w2, w2 = w1.alloc (.cells #[.int .i64 s] 3) := ⟨_, rfl⟩
      have B2 : Below w1.heap.size w1 w2 := by rw [hw2]; exact (Below.refl _ w1).alloc (Nat.le_refl _) _
      have r2 : IntsAt w2 (w1.heap.size + 1) (some ⟨w1.heap.size, 0, none⟩) 1 1 [s] := by
        rw [hw2]
        exact new_ints_at (w := w1) [s] 3 (cs := #[.int .i64 s]) rfl rfl rfl (by unfold maxLen; omega)
      rw [← hw2]
      have H2 := Lib.hid (H1.out.trans (B2.mono H1.out.size))
      have M2 := Lib.hid (M1.out.below B2)
      clear hw2 B2 M1 H1
      refine (walk_nil w2 r2).mono ?_
      rintro e w' ⟨rfl, rfl⟩
      obtain ⟨k, hk⟩ : ∃ k, statesL l = k := ⟨_, rfl⟩
      have HK := Lib.hid hk
      clear hk r2
      by_cases h0 : 0 ≤ st
      · have d1 : decide (0 ≤ st) = true := decide_eq_true h0
        by_cases h1 : st < (k : Int)
        · have d2 : decide (st < (k : Int)) = true := decide_eq_true h1
          go_wp2_with fail
          refine (states_as w2 M2.out).mono ?_
          rw [HK.out]
          rintro e w' ⟨rfl, rfl⟩
          go_wp2_with fail
          refine (fixed18 _).mono ?_
          rintro e w3 ⟨rfl, hb⟩
          have H3 := Lib.hid (H2.out.trans (hb.mono H2.out.size))
          go_wp2_with fail
          go_ret
          exact ⟨rfl, H3.out⟩
        · have d2 : decide (st < (k : Int)) = false := decide_eq_false h1
          have S2 := Lib.hid (M2.out.stands_zero (n := st) (by unfold stOf; rw [if_pos (.inr (by rw [M2.out.states, HK.out]; omega))]))
          go_wp2_with fail
          refine (states_as w2 M2.out).mono ?_
          rw [HK.out]
          rintro e w' ⟨rfl, rfl⟩
          go_wp2_with fail
          have hEN := endsOf_nil M2.out.ready.pats
          have HEN := Lib.hid hEN
          clear hEN
          refine (ends_as st w2 M2.out S2.out).mono ?_
          rw [HEN.out]
          rintro e w3 ⟨rfl, hb⟩
          have M3 := Lib.hid (M2.out.below hb)
          have H3 := Lib.hid (H2.out.trans (hb.mono H2.out.size))
          clear hb M2 H2
          go_wp2_with fail
          refine (fixed18 _).mono ?_
          rintro e w4 ⟨rfl, hb⟩
          have M4 := Lib.hid (M3.out.below hb)
          have H4 := Lib.hid (H3.out.trans (hb.mono H3.out.size))
          clear hb M3 H3
          go_wp2_with fail
          refine (step_as st s w4 M4.out S2.out).mono ?_
          rintro e w5 ⟨t, rfl, ht, hwt, hb⟩
          have M5 := Lib.hid (M4.out.below hb)
          have H5 := Lib.hid (H4.out.trans (hb.mono H4.out.size))
          clear hb M4 H4
          go_wp2_with fail
          refine (step_as 0 s w5 M5.out M5.out.zero).mono ?_
          rintro e w6 ⟨t', rfl, ht', hwt', hb⟩
          have M6 := Lib.hid (M5.out.below hb)
          have H6 := Lib.hid (H5.out.trans (hb.mono H5.out.size))
          have htt : t' = t := (M6.out.uniq ht' ht).2 (by rw [hwt, hwt'])
          subst htt
          clear hb M5 H5 hwt hwt' ht ht'
          go_wp2_with fail
          refine (depth_as st w6 M6.out S2.out).mono ?_
          rw [heldL_nil]
          rintro e w7 ⟨rfl, hb⟩
          have H7 := Lib.hid (H6.out.trans (hb.mono H6.out.size))
          clear hb M6 H6
          go_wp2_with fail
          go_ret
          exact ⟨by first | rfl | simp, H7.out⟩
      · have d1 : decide (0 ≤ st) = false := decide_eq_false h0
        have S2 := Lib.hid (M2.out.stands_zero (n := st) (by unfold stOf; rw [if_pos (.inl (by omega))]))
        go_wp2_with fail
        have hEN := endsOf_nil M2.out.ready.pats
        have HEN := Lib.hid hEN
        clear hEN
        refine (ends_as st w2 M2.out S2.out).mono ?_
        rw [HEN.out]
        rintro e w3 ⟨rfl, hb⟩
        have M3 := Lib.hid (M2.out.below hb)
        have H3 := Lib.hid (H2.out.trans (hb.mono H2.out.size))
        clear hb M2 H2
        go_wp2_with fail
        refine (fixed18 _).mono ?_
        rintro e w4 ⟨rfl, hb⟩
        have M4 := Lib.hid (M3.out.below hb)
        have H4 := Lib.hid (H3.out.trans (hb.mono H3.out.size))
        clear hb M3 H3
        go_wp2_with fail
        refine (step_as st s w4 M4.out S2.out).mono ?_
        rintro e w5 ⟨t, rfl, ht, hwt, hb⟩
        have M5 := Lib.hid (M4.out.below hb)
        have H5 := Lib.hid (H4.out.trans (hb.mono H4.out.size))
        clear hb M4 H4
        go_wp2_with fail
        refine (step_as 0 s w5 M5.out M5.out.zero).mono ?_
        rintro e w6 ⟨t', rfl, ht', hwt', hb⟩
        have M6 := Lib.hid (M5.out.below hb)
        have H6 := Lib.hid (H5.out.trans (hb.mono H5.out.size))
        have htt : t' = t := (M6.out.uniq ht' ht).2 (by rw [hwt, hwt'])
        subst htt
        clear hb M5 H5 hwt hwt' ht ht'
        go_wp2_with fail
        refine (depth_as st w6 M6.out S2.out).mono ?_
        rw [heldL_nil]
        rintro e w7 ⟨rfl, hb⟩
        have H7 := Lib.hid (H6.out.trans (hb.mono H6.out.size))
        clear hb M6 H6
        go_wp2_with fail
        go_ret
        exact ⟨by first | rfl | simp, H7.out⟩
    · have HOM := Lib.hid (show (okAll l && decide (n ≤ 32)) = false from by
        have := HN.out
        rw [Bool.eq_false_iff]
        intro h
        rw [Bool.and_eq_true] at h
        exact hm ⟨by have := of_decide_eq_true h.2; omega, h.1⟩)
      clear hm
      go_enter Try.func7, Try.ntmps7
      go_wp2_with fail
      refine (great18 W HO.out).mono ?_
      rintro e w' ⟨rfl, rfl⟩
      go_wp2_with fail
      refine (may_any _ HP.out HOM.out).mono ?_
      rintro e w' ⟨rfl, rfl⟩
      go_wp2_with fail
      refine (fixed18 _).mono ?_
      rintro e w' ⟨rfl, hb⟩
      go_wp2_with fail
      go_ret
      exact ⟨rfl, hb⟩
end Go.Proofs.Ytohfkpoblebfaaa
