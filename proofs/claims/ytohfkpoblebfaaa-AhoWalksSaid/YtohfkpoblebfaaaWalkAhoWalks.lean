/- The walk of AhoWalks: true for every input. -/
import Derived.Test.YtohfkpoblebfaaaAhoFixed
import Derived.Test.YtohfkpoblebfaaaAhoRefStates
namespace Go.Proofs.Ytohfkpoblebfaaa
open Go.RowKit
set_option linter.unusedVariables false

theorem rheld_nil (l : List Wd) : heldL l [] = 0 := by have := (heldL_le l []).1; simpa using this
set_option maxRecDepth 100000 in
set_option maxHeartbeats 3000000 in
theorem walkAhoWalks (W : World) {A A2 : Option Addr} {n c n2 c2 : Nat} {l : List Wd} {v : Vs} {u : Wd} (hl : PatsAt W W.heap.size A n c l v) (hu : IntsAt W W.heap.size A2 n2 c2 u) (wf : ∀ n ∈ u, (Lit.int .i64 n).wf = true) :
    Calls Try.prog 4 #[.slice A n c, .slice A2 n2 c2] W fun e W' => e = .returned (.bool true) ∧ Below W.heap.size W W' := by
  have hn := hl.len
  have HN := Lib.hid hn
  have HU := Lib.hid hu
  have HP := Lib.hid hl
  have hu1 := hu.2.1
  have hu2 := hu.2.2.1
  unfold maxLen at hu2
  have HUL := Lib.hid hu.len
  clear hn hl hu
  by_cases h2 : 40 < n
  · have HO := Lib.hid (show decide (40 < n) = true from decide_eq_true h2)
    clear h2
    go_enter Try.func4, Try.ntmps4
    go_wp2_with fail
    refine (great18 W HO.out).mono ?_
    rintro e w' ⟨rfl, rfl⟩
    go_wp2_with fail
    refine (fixed18 _).mono ?_
    rintro e w' ⟨rfl, hb⟩
    go_wp2_with fail
    go_ret
    exact ⟨rfl, hb⟩
  · have HO := Lib.hid (show decide (40 < n) = false from decide_eq_false h2)
    clear h2
    by_cases h3 : 60 < n2
    · have h3' : decide ((60 : Int) < (n2 : Int)) = true := decide_eq_true (by omega)
      go_enter Try.func4, Try.ntmps4
      go_wp2_with fail
      refine (great18 W HO.out).mono ?_
      rintro e w' ⟨rfl, rfl⟩
      go_wp2_with fail
      refine (fixed18 _).mono ?_
      rintro e w' ⟨rfl, hb⟩
      go_wp2_with fail
      go_ret
      exact ⟨rfl, hb⟩
    · have h3' : decide ((60 : Int) < (n2 : Int)) = false := decide_eq_false (by omega)
      by_cases hm : mayP l
      · have HMY := Lib.hid hm
        have HOM := Lib.hid (show (okAll l && decide (n ≤ 32)) = true from by have := HN.out; rw [hm.2, decide_eq_true (by have := hm.1; omega : n ≤ 32)]; rfl)
        clear hm
        go_enter Try.func4, Try.ntmps4
        go_wp2_with fail
        refine (great18 W HO.out).mono ?_
        rintro e w' ⟨rfl, rfl⟩
        go_wp2_with fail
        refine (may_any _ HP.out HOM.out).mono ?_
        rintro e w' ⟨rfl, rfl⟩
        go_wp2_with fail
        refine (new_as _ HP.out HMY.out).mono ?_
        rintro e w1 ⟨B, g, ns, W1, f, A1, c1, rfl, hm, hb⟩
        have M1 := Lib.hid hm
        have H1 := Lib.hid hb
        clear hm hb
        go_wp2_with fail
        go_loopw [7, 34] (fun a i wr => ∃ (k t : Nat), k ≤ n2 ∧ i = .int .i64 (k : Int) ∧ a = .int .i64 (t : Int) ∧ t < W1.length ∧ Hid (wd W1 t = lsuf W1 (u.take k)) ∧ MkL wr l B g ns W1 f A1 c1 ∧ Below W.heap.size W wr) (fun _ i _ => n2 - (intOf i).toNat)
        case atStart => exact ⟨0, 0, Nat.zero_le _, rfl, rfl, M1.out.ready.trie.zero.1, Lib.hid (by rw [M1.out.ready.trie.zero.2]; rfl), M1.out, H1.out⟩
        case round =>
          clear M1 H1
          obtain ⟨k, t, hk, rfl, rfl, ht, HT, hm, hb⟩ := hrel
          have M1 := Lib.hid hm
          have H1 := Lib.hid hb
          clear hm hb
          by_cases hlt : k < n2
          · have hku : k < u.length := by have := HUL.out; omega
            obtain ⟨b, off, rfl, hbl, hc⟩ := HU.out.cells (by omega)
            obtain ⟨s, hs⟩ : ∃ s, u[k]'hku = s := ⟨_, rfl⟩
            have e0 : wr.cell? ⟨b, off + k, none⟩ = some (.int .i64 s) := by rw [H1.out.cell (p := ⟨b, off + k, none⟩) hbl, hc k hku, hs]
            have HTK := Lib.hid (show u.take (k + 1) = u.take k ++ [s] from by rw [List.take_add_one, List.getElem?_eq_getElem hku, hs]; rfl)
            have S1 := Lib.hid (M1.out.stands_nat ht HT.out)
            clear hc hs
            go_wp2_with fail
            refine (step_as (t : Int) s wr M1.out S1.out).mono ?_
            rintro e w2 ⟨t2, rfl, ht2, hwt2, hb⟩
            rw [← HTK.out] at hwt2
            have M2 := Lib.hid (M1.out.below hb)
            have H2 := Lib.hid (H1.out.trans (hb.mono H1.out.size))
            have S2 := Lib.hid (M2.out.stands_nat ht2 hwt2)
            have HW2 := Lib.hid hwt2
            clear hb M1 H1 S1 hwt2 e0
            go_wp2_with fail
            obtain ⟨k1, hk1⟩ : ∃ k1, k + 1 = k1 := ⟨_, rfl⟩
            have hwk : IntKind.i64.wrap ((k : Int) + 1) = (k1 : Int) := by rw [IntKind.wrap_i64]; omega
            have hk1a : (0 : Int) ≤ (k1 : Int) := by omega
            have hk1b : (k1 : Int) ≤ (n2 : Int) := by omega
            have hk1c : (k1 : Int) ≤ (c2 : Int) := by omega
            have hk1n : k1 ≤ n2 := by omega
            rw [hk1] at HW2 S2
            have HK1 := Lib.hid hk1
            clear hk1 HTK
            obtain ⟨pl, hpl⟩ : ∃ x, (endsOf l (u.take k1)).1 = x := ⟨_, rfl⟩
            obtain ⟨lg, hlg⟩ : ∃ x, (endsOf l (u.take k1)).2 = x := ⟨_, rfl⟩
            obtain ⟨dp, hdp⟩ : ∃ x, heldL l (u.take k1) = x := ⟨_, rfl⟩
            obtain ⟨sx, hsx⟩ : ∃ x, statesL l = x := ⟨_, rfl⟩
            have HPL := Lib.hid hpl
            have HLG := Lib.hid hlg
            have HDP := Lib.hid hdp
            have HSX := Lib.hid hsx
            clear hpl hlg hdp hsx
            refine (ends_as (t2 : Int) w2 M2.out S2.out).mono ?_
            rw [HPL.out, HLG.out]
            rintro e w3 ⟨rfl, hb⟩
            have M3 := Lib.hid (M2.out.below hb)
            have H3 := Lib.hid (H2.out.trans (hb.mono H2.out.size))
            clear hb M2 H2
            have U3 := Lib.hid ((RowAt.mono (RowAt.below HU.out H3.out) H3.out.size))
            have P3 := Lib.hid (PatsAt.mono (HP.out.below H3.out) H3.out.size)
            go_wp2_with fail
            refine (rends_any w3 P3.out (IntsAt.to_ U3.out hk1n)).mono ?_
            rw [HPL.out, HLG.out]
            rintro e w' ⟨rfl, q, rfl⟩
            obtain ⟨w4, hw4⟩ : ∃ w4, w4 = w3.drewN q := ⟨_, rfl⟩
            have B4 : Below w3.heap.size w3 w4 := by rw [hw4]; exact below_drewN (Below.refl _ _) q
            have M4 := Lib.hid (M3.out.below B4)
            have H4 := Lib.hid (H3.out.trans (B4.mono H3.out.size))
            have U4 := Lib.hid (RowAt.mono (RowAt.below U3.out B4) B4.size)
            have P4 := Lib.hid (PatsAt.mono (P3.out.below B4) B4.size)
            rw [← hw4]
            clear B4 hw4 M3 H3 U3 P3
            have CW := Lib.hid (show ∀ w, Below w4.heap.size w4 w → Calls Try.prog 22 #[.pointer (some ⟨g, 0, none⟩), .slice (some ⟨b, off, none⟩) k1 c2] w fun e w' => e = .returned (.int .i64 (t2 : Int)) ∧ Below w4.heap.size w4 w' from fun w hw => by
              refine (walk_as w (M4.out.below hw) (RowAt.mono (RowAt.below (IntsAt.to_ U4.out hk1n) hw) hw.size)).mono ?_
              rintro e w' ⟨t', rfl, ht', hwt', hb⟩
              obtain rfl : t' = t2 := (M4.out.uniq ht' ht2).2 (by rw [hwt', HW2.out])
              exact ⟨rfl, hw.trans (hb.mono hw.size)⟩)
            have CS := Lib.hid (show ∀ w, Below w4.heap.size w4 w → Calls Try.prog 17 #[.pointer (some ⟨g, 0, none⟩)] w fun e w' => e = .returned (.int .i64 (sx : Int)) ∧ Below w4.heap.size w4 w' from fun w hw => by
              refine (states_as w (M4.out.below hw)).mono ?_
              rintro e w' ⟨rfl, rfl⟩
              exact ⟨by rw [HSX.out], hw⟩)
            have CD := Lib.hid (show ∀ w, Below w4.heap.size w4 w → Calls Try.prog 23 #[.pointer (some ⟨g, 0, none⟩), .int .i64 (t2 : Int)] w fun e w' => e = .returned (.int .i64 (dp : Int)) ∧ Below w4.heap.size w4 w' from fun w hw => by
              refine (depth_as (t2 : Int) w (M4.out.below hw) S2.out).mono ?_
              rintro e w' ⟨rfl, hb⟩
              exact ⟨by rw [HDP.out], hw.trans (hb.mono hw.size)⟩)
            have CH := Lib.hid (show ∀ w, Below w4.heap.size w4 w → Calls Try.prog 24 #[.slice A n c, .slice (some ⟨b, off, none⟩) k1 c2] w fun e w' => e = .returned (.int .i64 (dp : Int)) ∧ Below w4.heap.size w4 w' from fun w hw => by
              refine (rheld_any w (P4.out.below hw) (RowAt.below (IntsAt.to_ U4.out hk1n) hw)).mono ?_
              rintro e w' ⟨rfl, q, rfl⟩
              exact ⟨by rw [HDP.out], below_drewN hw q⟩)
            have ht2s : t2 < sx := by have := M4.out.states; have := M4.out.nsl; have := HSX.out; omega
            have d1 : decide ((t2 : Int) < 0) = false := decide_eq_false (by omega)
            have d2 : decide ((sx : Int) ≤ (t2 : Int)) = false := decide_eq_false (by omega)
            have d3 : decide (sx ≤ t2) = false := decide_eq_false (by omega)
            have hS0 : Below w4.heap.size w4 w4 := Below.refl _ _
            go_wp2_with fail
            go_region_held3 (fun w' => Below w4.heap.size w4 w') (first | assumption | exact Below.drew (by assumption)) (first
              | (go_at_call 22; refine (CW.out _ (by assumption)).mono ?_; rintro e w5 ⟨rfl, hb5⟩)
              | (go_at_call 17; refine (CS.out _ (by assumption)).mono ?_; rintro e w6 ⟨rfl, hb6⟩)
              | (go_at_call 23; refine (CD.out _ (by assumption)).mono ?_; rintro e w7 ⟨rfl, hb7⟩)
              | (go_at_call 24; refine (CH.out _ (by assumption)).mono ?_; rintro e w8 ⟨rfl, hb8⟩))
            all_goals
              go_wp2_with fail
              go_roundw
              case rel => exact ⟨k1, t2, hk1n, by go_num, rfl, ht2, HW2, M4.out.below (by assumption), H4.out.trans (Below.mono (B := w4.heap.size) (by assumption) H4.out.size)⟩
              case measure => simp [intOf]; have := HK1.out; omega
          · obtain rfl : k = n2 := by omega
            go_wp2_with fail
            refine (fixed18 _).mono ?_
            rintro e w2 ⟨rfl, hb⟩
            have M2 := Lib.hid (M1.out.below hb)
            have H2 := Lib.hid (H1.out.trans (hb.mono H1.out.size))
            clear hb M1 H1
            go_wp2_with fail
            refine (walk_as (u := []) w2 M2.out (RowAt.nil (size := 1))).mono ?_
            rintro e w3 ⟨t2, rfl, ht2, hwt2, hb⟩
            have M3 := Lib.hid (M2.out.below hb)
            have H3 := Lib.hid (H2.out.trans (hb.mono H2.out.size))
            obtain rfl : t2 = 0 := (M3.out.uniq ht2 M3.out.ready.trie.zero.1).2 (by rw [hwt2, M3.out.ready.trie.zero.2]; rfl)
            clear hb M2 H2
            go_wp2_with fail
            refine (depth_as 0 w3 M3.out M3.out.zero).mono ?_
            rw [rheld_nil]
            rintro e w4 ⟨rfl, hb⟩
            have H4 := Lib.hid (H3.out.trans (hb.mono H3.out.size))
            clear hb
            go_wp2_with fail
            go_ret
            exact ⟨by first | rfl | simp, H4.out⟩
      · have HOM := Lib.hid (show (okAll l && decide (n ≤ 32)) = false from by
          have := HN.out
          rw [Bool.eq_false_iff]
          intro h
          rw [Bool.and_eq_true] at h
          exact hm ⟨by have := of_decide_eq_true h.2; omega, h.1⟩)
        clear hm
        go_enter Try.func4, Try.ntmps4
        go_wp2_with fail
        refine (great18 W HO.out).mono ?_
        rintro e w' ⟨rfl, rfl⟩
        go_wp2_with fail
        refine (may_any _ HP.out HOM.out).mono ?_
        rintro e w' ⟨rfl, rfl⟩
        go_wp2_with fail
        refine (fixed18 _).mono ?_
        rintro e w' ⟨rfl, hb⟩
        go_wp2_with fail
        go_ret
        exact ⟨rfl, hb⟩
end Go.Proofs.Ytohfkpoblebfaaa
