/- The walk of StopFirst: true for every input. -/
import Derived.Test.YtohfkpoblebfaaaStopTwo
import Derived.Test.YtohfkpoblebfaaaWalkStopFree
namespace Go.Proofs.Ytohfkpoblebfaaa
open Go.RowKit
set_option linter.unusedVariables false

theorem great_one {n : Nat} {t : Wd} (h : greatB n 1 [t] = false) : n ≤ 40 ∧ t.length ≤ 30 := by
  obtain ⟨h1, _, h3⟩ := great_no h
  exact ⟨h1, h3 0 (by simp)⟩
set_option maxRecDepth 100000 in
set_option maxHeartbeats 4000000 in
theorem walkStopFirst (W : World) {A A2 : Option Addr} {n c n2 c2 : Nat} {l : List Wd} {t : Wd} {v : Vs} (hl : PatsAt W W.heap.size A n c l v) (ht : IntsAt W W.heap.size A2 n2 c2 t) (wf : ∀ n ∈ t, (Lit.int .i64 n).wf = true) :
    Calls Try.prog 10 #[.slice A n c, .slice A2 n2 c2] W fun e W' => e = .returned (.bool true) ∧ Below W.heap.size W W' := by
  have HN := Lib.hid hl.len
  have HN2 := Lib.hid ht.len
  have HP := Lib.hid hl
  have HT := Lib.hid ht
  have hcap' := hl.cap
  have hcn2 := ht.2.1
  have hcm2 := ht.2.2.1
  unfold maxLen at hcap' hcm2
  obtain ⟨hc1', hc2'⟩ := hcap'
  have HG := Lib.hid (pats_one W ht)
  clear hl ht
  obtain ⟨o, ho⟩ : ∃ o, greatB n 1 [t] = o := ⟨_, rfl⟩
  have HO := Lib.hid ho
  clear ho
  go_enter Try.func10, Try.ntmps10
  go_wp2_with fail
  obtain ⟨w0, hw0⟩ : ∃ w0, w0 = W.alloc (.cells #[.slice A2 n2 c2] 31) := ⟨_, rfl⟩
  have HB0 := Lib.hid (show Below W.heap.size W w0 from by rw [hw0]; exact (Below.refl _ W).alloc (Nat.le_refl _) _)
  rw [← hw0] at HG
  rw [← hw0]
  clear hw0
  refine (great19 w0 HG.out HO.out).mono ?_
  rintro e w' ⟨rfl, rfl⟩
  have HP0 := Lib.hid (PatsAt.mono (HP.out.below HB0.out) HB0.out.size)
  have HT0 := Lib.hid (show IntsAt w0 W.heap.size A2 n2 c2 t from RowAt.below HT.out HB0.out)
  cases o with
  | true =>
    go_wp2_with fail
    refine (fixed19 _).mono ?_
    rintro e w' ⟨rfl, hb⟩
    have HBE := Lib.hid (HB0.out.trans (hb.mono HB0.out.size))
    go_wp2_with fail
    go_ret
    exact ⟨rfl, HBE.out⟩
  | false =>
    obtain ⟨hn40, hln⟩ := great_one HO.out
    have hn30 : n2 ≤ 30 := by have := HN2.out; omega
    by_cases hm : mayP l
    · have HMY := Lib.hid hm
      have HOM := Lib.hid (show (okAll l && decide (n ≤ 32)) = true from by have := HN.out; rw [hm.2, decide_eq_true (by have := hm.1; omega : n ≤ 32)]; rfl)
      clear hm
      go_wp2_with fail
      refine (may_any w0 HP0.out HOM.out).mono ?_
      rintro e w' ⟨rfl, rfl⟩
      go_wp2_with fail
      refine (snew_yes w0 HP0.out HMY.out).mono ?_
      rintro e w1 ⟨u0, q, B, g, ns, W1, f, A1, c1, rfl, hm, hz, hb⟩
      have hqw : W.heap.size ≤ q := by have := hm.far; have := HB0.out.size; omega
      have hq1 := hm.lt
      have H1 := Lib.hid (HB0.out.trans (hb.mono HB0.out.size))
      have M1 := Lib.hid hm
      have HT1 := Lib.hid (show IntsAt w1 w1.heap.size A2 n2 c2 t from RowAt.mono (RowAt.below HT.out H1.out) H1.out.size)
      have HOF := Lib.hid (off_low HT.out hqw)
      have hfl := feed_len2 l [] t
      obtain ⟨s2, hs2⟩ : ∃ s2, feedS l [] t = s2 := ⟨_, rfl⟩
      obtain ⟨o2, ho2⟩ : ∃ o2, hitB l s2 = o2 := ⟨_, rfl⟩
      rw [hs2] at hfl
      obtain ⟨nn, hnn⟩ : ∃ nn, s2.length = nn := ⟨_, rfl⟩
      have hnn' : s2.length - ([] : Wd).length = nn := by simp; exact hnn
      rw [hnn', List.nil_append] at hfl
      have hnl : nn ≤ n2 := by have := HN2.out; have := hfl.2.1; simp at this; omega
      have HS2 := Lib.hid hfl.2.2
      have HRC := Lib.hid (show Reach l s2 from by rw [← hs2]; exact reach_feed (reach_nil l))
      have HO2 := Lib.hid ho2
      have HNN := Lib.hid hnn
      have HNN' := Lib.hid hnn'
      have HFS := Lib.hid hs2
      clear hfl hs2 ho2 hnn hnn' hm hb
      go_wp2_with fail
      refine (feed_as w1 M1.out HT1.out HOF.out (by have := HN2.out; simp; omega)).mono ?_
      unfold FeedTo
      rw [HFS.out, HNN'.out, HO2.out]
      rintro e w2 ⟨rfl, hw2, ha⟩
      have HB2 := Lib.hid (H1.out.trans (ha.below hqw H1.out.size))
      have HW2 := Lib.hid hw2
      clear ha hw2 HT1 M1 H1 HP0 HT0 HG HB0
      obtain ⟨pl, hpl⟩ : ∃ pl, (endsOf l s2).1 = pl := ⟨_, rfl⟩
      obtain ⟨fm, hfm⟩ : ∃ fm, fromW l s2 = fm := ⟨_, rfl⟩
      have HPL := Lib.hid hpl
      have HFM := Lib.hid hfm
      clear hpl hfm
      go_wp2_with fail
      refine (hitm_as w2 HW2.out).mono ?_
      rw [HPL.out, HFM.out]
      rintro e w' ⟨rfl, k1, rfl⟩
      obtain ⟨w3, hw3⟩ : ∃ w3, w3 = w2.drewN k1 := ⟨_, rfl⟩
      have b3 : Below w2.heap.size w2 w3 := by rw [hw3]; exact bdrew _ _
      have HW3 := Lib.hid (HW2.out.below b3)
      have HB3 := Lib.hid (HB2.out.trans (b3.mono HB2.out.size))
      rw [← hw3]
      clear hw3 b3 HW2 HB2
      cases o2 with
      | false =>
        have HST := Lib.hid (show s2 = t from by rw [← HFS.out]; exact feed_whole (by rw [HFS.out]; exact HO2.out))
        obtain rfl : nn = n2 := by have h1 := HNN.out; rw [HST.out] at h1; have := HN2.out; omega
        obtain rfl : pl = -1 := by rw [← HPL.out]; exact hitB_no.1 HO2.out
        obtain rfl : fm = 0 := by rw [← HFM.out]; unfold fromW; rw [if_neg (by rw [HO2.out]; decide)]
        have HRT := Lib.hid (show Reach l t from by rw [← HST.out]; exact HRC.out)
        have HOT := Lib.hid (show hitB l t = false from by rw [← HST.out]; exact HO2.out)
        go_wp2_with fail
        go_loopw [50] (fun z wr => ∃ (i q2 : Nat), i ≤ nn ∧ z = .int .i64 (i : Int) ∧ wr = w3.drewN q2) (fun z _ => nn - (intOf z).toNat)
        case atStart => exact ⟨0, 0, Nat.zero_le _, rfl, rfl⟩
        case round =>
          obtain ⟨i, q2, hi, rfl, rfl⟩ := hrel
          by_cases hif : i < nn
          · have HTF := Lib.hid (there_none HMY.out HRT.out HOT.out (i := i) (by have := HN2.out; omega))
            have hm1 : nn ≤ 1000000 := by omega
            go_wp2_with fail
            refine (rthere_any (w3.drewN q2) (HP.out.below (below_drewN HB3.out q2)) (RowAt.below HT.out (below_drewN HB3.out q2)) hi (len64 HMY.out) hm1).mono ?_
            rw [HTF.out]
            rintro e w' ⟨rfl, q3, rfl⟩
            go_wp2_with fail
            go_roundw
            case rel => exact ⟨i + 1, q2 + q3, by omega, by go_num, by first | rfl | rw [World.drewN_drewN]⟩
            case measure => simp [intOf]; omega
          · obtain rfl : i = nn := by omega
            have HBG := Lib.hid (below_drewN HB3.out q2)
            go_wp2_with fail
            refine (fixed19 _).mono ?_
            rintro e w' ⟨rfl, hb⟩
            have HBE := Lib.hid (HBG.out.trans (hb.mono HBG.out.size))
            go_wp2_with fail
            go_ret
            exact ⟨by first | rfl | simp, HBE.out⟩
      | true =>
        obtain ⟨j, hj, hpj, hlj, hsj⟩ := hit_at HO2.out
        obtain rfl : pl = (j : Int) := by rw [← HPL.out]; exact hpj
        obtain ⟨lj, hlj2⟩ : ∃ x, (wd l j).length = x := ⟨_, rfl⟩
        have hlen := hsj.length_le
        have hlp := okP_pos HMY.out (wd_mem hj)
        rw [hlj2, HNN.out] at hlen
        rw [hlj2] at hlj hlp
        obtain ⟨fr, hfr⟩ : ∃ fr : Nat, nn = fr + lj := ⟨nn - lj, by omega⟩
        obtain rfl : fm = (fr : Int) := by rw [← HFM.out]; unfold fromW; rw [if_pos HO2.out, HNN.out, hlj]; omega
        have hjn : j < n := by have := HN.out; omega
        have HSJ := Lib.hid (show wd l j <:+ t.take nn from by rw [← HS2.out]; exact hsj)
        have HLJ := Lib.hid hlj2
        have HFR := Lib.hid hfr
        obtain ⟨⟨vA, vc⟩, hvj⟩ : ∃ p, v j = p := ⟨_, rfl⟩
        obtain ⟨b, off, rfl, hb, hc⟩ := HP.out.cells (by omega)
        have e0 : w3.cell? ⟨b, off + j, none⟩ = some (.slice vA lj vc) := by rw [HB3.out.cell (p := ⟨b, off + j, none⟩) hb, ← hlj2, hc j hjn, hvj]
        have HRJ := Lib.hid (show IntsAt w3 W.heap.size vA lj vc (wd l j) from by
          have := RowAt.below (HP.out.rows j hjn) HB3.out
          rw [hvj, hlj2] at this
          exact this)
        obtain ⟨b2, off2, rfl, hb2, hc2⟩ := IntsAt.cells HRJ.out (by omega)
        obtain ⟨b3, off3, rfl, hb3, hc3⟩ := IntsAt.cells HT.out (by omega)
        have HC2 := Lib.hid hc2
        have HC3 := Lib.hid (show ∀ i (hi : i < t.length), w3.cell? ⟨b3, off3 + i, none⟩ = some (.int .i64 t[i]) from fun i hi => by rw [HB3.out.cell (p := ⟨b3, off3 + i, none⟩) hb3]; exact hc3 i hi)
        have hfr30 : fr ≤ 30 := by omega
        have hlj30 : lj ≤ 30 := by omega
        have hjn' : (j : Int) < (n : Int) := by omega
        have hn1 : 1 ≤ nn := by omega
        have d1 : decide (nn < 1) = false := decide_eq_false (by omega)
        have d1' : decide ((nn : Int) < 1) = false := decide_eq_false (by omega)
        have d2 : decide (n2 < nn) = false := decide_eq_false (by omega)
        have d2' : decide ((n2 : Int) < (nn : Int)) = false := decide_eq_false (by omega)
        have d3 : decide (n ≤ j) = false := decide_eq_false (by omega)
        have d3' : decide ((n : Int) ≤ (j : Int)) = false := decide_eq_false (by omega)
        have hsm : (fr : Int) + (lj : Int) = (nn : Int) := by omega
        have d4 : (((fr : Int) + (lj : Int)) != (nn : Int)) = false := bne_no hsm
        have d5 : ((nn : Int) != (nn : Int)) = false := bne_no rfl
        clear hj hpj hlj hsj hlj2 hlen hlp hfr hc hc2 hc3 hvj
        have HSM := Lib.hid hsm
        clear hsm
        go_wp2_with fail
        go_loop [111] (fun z => ∃ i : Nat, i ≤ lj ∧ z = .int .i64 (i : Int)) (fun z => lj - (intOf z).toNat)
        case atStart => exact ⟨0, Nat.zero_le _, rfl⟩
        case round =>
          obtain ⟨i, hi, rfl⟩ := hrel
          by_cases hif : i < lj
          · have hil : i < (wd l j).length := by have := HLJ.out; omega
            have hit : fr + i < t.length := by have := HFR.out; have := HN2.out; omega
            have c1 := HC2.out i hil
            have c2 := HC3.out (fr + i) hit
            have hxx : t[fr + i] = (wd l j)[i] := by
              have h1 := HLJ.out
              have h2 := HFR.out
              have h3 : nn - (wd l j).length = fr := by omega
              have := stop_at HSJ.out (by have := HN2.out; omega) hil (by rw [h3]; exact hit)
              simpa [h3] using this
            rw [hxx] at c2
            obtain ⟨x, hx⟩ : ∃ x, (wd l j)[i] = x := ⟨_, rfl⟩
            rw [hx] at c1 c2
            have dx : (x != x) = false := bne_no rfl
            have hi1 : (i : Int) < (lj : Int) := by omega
            have hi2 : (fr : Int) + (i : Int) < (n2 : Int) := by have := HFR.out; omega
            have hi3 : fr + i < n2 := by have := HFR.out; omega
            clear hxx hx
            go_wp2_with fail
            go_round
            case rel => exact ⟨i + 1, by omega, by go_num⟩
            case measure => simp [intOf]; omega
          · obtain rfl : i = lj := by omega
            have HFH := Lib.hid (feedS_hit HO2.out t)
            have HT3 := Lib.hid (show IntsAt w3 w3.heap.size (some ⟨b3, off3, none⟩) n2 c2 t from RowAt.mono (RowAt.below HT.out HB3.out) HB3.out.size)
            go_wp2_with fail
            refine (feed_as w3 HW3.out HT3.out HOF.out (by have := HN2.out; have := HNN.out; omega)).mono ?_
            unfold FeedTo
            rw [HFH.out, HO2.out, Nat.sub_self]
            rintro e w4 ⟨rfl, hw4, ha⟩
            have HB4 := Lib.hid (HB3.out.trans (ha.below hqw HB3.out.size))
            have HW4 := Lib.hid hw4
            have HP4 := Lib.hid (PatsAt.mono (HP.out.below HB4.out) HB4.out.size)
            clear ha hw4 HT3
            go_wp2_with fail
            refine (snew_yes w4 HP4.out HMY.out).mono ?_
            rintro e w5 ⟨u5, q5, B5, g5, ns5, W5, f5, A5, c5, rfl, hm5, hz5, hb5⟩
            have hq5 : w4.heap.size ≤ q5 := by have := hm5.far; omega
            have hqn : q ≠ q5 := by have := HW4.out.lt; omega
            have HB5 := Lib.hid (HB4.out.trans (hb5.mono HB4.out.size))
            have HW5 := Lib.hid (HW4.out.below hb5)
            have M5 := Lib.hid hm5
            have hu5 : u0.heap.size ≤ q5 := by have := HW4.out.bel.size; omega
            have hqw5 : W.heap.size ≤ q5 := by have := HB4.out.size; omega
            clear hm5 hb5
            obtain ⟨m1, hm1⟩ : ∃ m1, nn = m1 + 1 := ⟨nn - 1, by omega⟩
            have hm1i : (nn : Int) - 1 = (m1 : Int) := by omega
            have HM1 := Lib.hid hm1
            have hm1c : (m1 : Int) ≤ (c2 : Int) := by omega
            have hm1n : m1 ≤ n2 := by omega
            clear hm1
            go_wp2_with fail
            have HT5 := Lib.hid (show IntsAt w5 w5.heap.size (some ⟨b3, off3, none⟩) m1 c2 (t.take m1) from IntsAt.to_ (RowAt.mono (RowAt.below HT.out HB5.out) HB5.out.size) hm1n)
            have HOF5 := Lib.hid (off_low (IntsAt.to_ HT.out hm1n) hqw5)
            have HFA := Lib.hid (show hitB l (feedS l [] (t.take m1)) = false from by
              have := feed_ahead (l := l) (t := t) (n := nn) (by rw [← HS2.out]; exact HRC.out) (by omega) (by have := HN2.out; omega)
              rw [HM1.out] at this
              exact this)
            obtain ⟨z, hz⟩ : ∃ z : Nat, (feedS l [] (t.take m1)).length - ([] : Wd).length = z := ⟨_, rfl⟩
            have HZ := Lib.hid hz
            clear hz
            refine (feed_as w5 M5.out HT5.out HOF5.out (by have := HN2.out; rw [List.length_take]; simp; omega)).mono ?_
            unfold FeedTo
            rw [HFA.out, HZ.out]
            rintro e w6 ⟨rfl, hw6, ha⟩
            have HB6 := Lib.hid (HB5.out.trans (ha.below hqw5 HB5.out.size))
            have HW6 := Lib.hid (HW5.out.aside ha hqn hu5)
            clear ha hw6 HT5 M5 HW5 HW4 HW3
            go_wp2_with fail
            refine (fixed19 _).mono ?_
            rintro e w7 ⟨rfl, hb⟩
            have HB7 := Lib.hid (HB6.out.trans (hb.mono HB6.out.size))
            have HW7 := Lib.hid (HW6.out.below hb)
            clear hb
            go_wp2_with fail
            refine (seen_as w7 HW7.out).mono ?_
            rw [HNN.out]
            rintro e w' ⟨rfl, rfl⟩
            go_wp2_with fail
            go_ret
            exact ⟨by first | rfl | simp, HB7.out⟩
    · have HMY := Lib.hid hm
      have HOM := Lib.hid (show (okAll l && decide (n ≤ 32)) = false from by
        have := HN.out
        rw [Bool.eq_false_iff]
        intro h
        rw [Bool.and_eq_true] at h
        exact hm ⟨by have := of_decide_eq_true h.2; omega, h.1⟩)
      clear hm
      go_wp2_with fail
      refine (may_any w0 HP0.out HOM.out).mono ?_
      rintro e w' ⟨rfl, rfl⟩
      go_wp2_with fail
      refine (fixed19 _).mono ?_
      rintro e w2 ⟨rfl, hb⟩
      have HBE := Lib.hid (HB0.out.trans (hb.mono HB0.out.size))
      go_wp2_with fail
      go_ret
      exact ⟨rfl, HBE.out⟩
end Go.Proofs.Ytohfkpoblebfaaa
