/- The walk of StopFeeds: true for every input. -/
import Derived.Test.YtohfkpoblebfaaaStopRows
import Derived.Test.YtohfkpoblebfaaaAhoFalls
namespace Go.Proofs.Ytohfkpoblebfaaa
open Go.RowKit
set_option linter.unusedVariables false

theorem wV_ints (l : List Wd) (s : Wd) : ∃ a0 a1 a2 a3 a4 : Int, wV l s = #[.int .i64 a0, .int .i64 a1, .int .i64 a2, .int .i64 a3, .int .i64 a4] ∧ (s.length : Int) = a0 ∧ (endsOf l s).1 = a3 := ⟨_, _, _, _, _, rfl, rfl, rfl⟩
theorem feed_len (l : List Wd) (s : Wd) : ∀ t, s.length ≤ (feedS l s t).length ∧ (feedS l s t).length ≤ s.length + t.length := by
  intro t
  induction t generalizing s with
  | nil => exact ⟨Nat.le_refl _, Nat.le_refl _⟩
  | cons x t ih =>
    have h := ih (stepS l s x)
    have h2 : s.length ≤ (stepS l s x).length ∧ (stepS l s x).length ≤ s.length + 1 := by
      unfold stepS
      split
      · exact ⟨Nat.le_refl _, Nat.le_succ _⟩
      · simp
    have h3 : feedS l s (x :: t) = feedS l (stepS l s x) t := rfl
    rw [h3, List.length_cons]
    omega
theorem saw_len (l : List Wd) (t : Wd) : (sawS l t).length ≤ t.length := by have := (feed_len l [] t).2; simpa [sawS] using this
theorem hit_sign {l : List Wd} (hm : mayP l) (s : Wd) : decide (0 ≤ (endsOf l s).1) = hitB l s := by
  unfold hitB
  rcases ends_sign hm s with h | h
  · rw [decide_eq_false (by omega), decide_eq_false (by simpa using h.1)]
  · rw [decide_eq_true h.1, decide_eq_true (by omega)]
set_option maxRecDepth 100000 in
set_option maxHeartbeats 4000000 in
theorem walkStopFeeds (W : World) {A A2 : Option Addr} {n c n2 c2 : Nat} {l rows : List Wd} {v v2 : Vs} (hl : PatsAt W W.heap.size A n c l v) (hr : PatsAt W W.heap.size A2 n2 c2 rows v2) :
    Calls Try.prog 8 #[.slice A n c, .slice A2 n2 c2] W fun e W' => e = .returned (.bool true) ∧ Below W.heap.size W W' := by
  have HN := Lib.hid hl.len
  have HN2 := Lib.hid hr.len
  have HP := Lib.hid hl
  have HR := Lib.hid hr
  have hcap := hr.cap
  unfold maxLen at hcap
  obtain ⟨hc1, hc2⟩ := hcap
  clear hl hr
  obtain ⟨o, ho⟩ : ∃ o, greatB n n2 rows = o := ⟨_, rfl⟩
  have HO := Lib.hid ho
  clear ho
  cases o with
  | true =>
    go_enter Try.func8, Try.ntmps8
    go_wp2_with fail
    refine (great19 W HR.out HO.out).mono ?_
    rintro e w' ⟨rfl, rfl⟩
    go_wp2_with fail
    refine (fixed19 _).mono ?_
    rintro e w' ⟨rfl, hb⟩
    go_wp2_with fail
    go_ret
    exact ⟨rfl, hb⟩
  | false =>
    obtain ⟨hn40, hn20, hlen⟩ := great_no HO.out
    have HLEN := Lib.hid hlen
    clear hlen
    by_cases hm : mayP l
    · have HMY := Lib.hid hm
      have HOM := Lib.hid (show (okAll l && decide (n ≤ 32)) = true from by have := HN.out; rw [hm.2, decide_eq_true (by have := hm.1; omega : n ≤ 32)]; rfl)
      clear hm
      go_enter Try.func8, Try.ntmps8
      go_wp2_with fail
      refine (great19 W HR.out HO.out).mono ?_
      rintro e w' ⟨rfl, rfl⟩
      go_wp2_with fail
      refine (snew_yes W HP.out HMY.out).mono ?_
      rintro e w1 ⟨u0, q, B, g, ns, W1, f, A1, c1, rfl, hm, hz, hb⟩
      have hqw : W.heap.size ≤ q := by have := hm.far; omega
      have hq1 := hm.lt
      have H1 := Lib.hid hb
      have M1 := Lib.hid hm
      clear hm hb
      go_wp2_with fail
      refine (may_any w1 (HP.out.below H1.out) HOM.out).mono ?_
      rintro e w' ⟨rfl, rfl⟩
      go_wp2_with fail
      obtain ⟨wE, hwE⟩ : ∃ wE, wE = w1.alloc (.cells #[] 3) := ⟨_, rfl⟩
      have HE := Lib.hid (show Below w1.heap.size w1 wE from by rw [hwE]; exact (Below.refl _ w1).alloc (Nat.le_refl _) _)
      have HOE := Lib.hid (show wE.ownsRow w1.heap.size 3 1 (.slice (some ⟨w1.heap.size, 0, none⟩) 0 0) 0 [] from by rw [hwE]; exact own_empty w1 _ _)
      have HME := Lib.hid (M1.out.below HE.out)
      have HBE := Lib.hid (H1.out.trans (HE.out.mono H1.out.size))
      have HKE := Lib.hid (show w1.heap.size ≤ wE.heap.size from HE.out.size)
      obtain ⟨K, hK⟩ : ∃ K, w1.heap.size = K := ⟨_, rfl⟩
      rw [hK] at HOE hq1 HKE
      rw [← hwE, hK]
      have hKW : W.heap.size ≤ K := by omega
      clear hwE HE M1 H1 hK
      go_loopw [7, 38] (fun a z wr => ∃ (k : Nat) (all : Wd) (A3 : Option Addr) (c3 m3 : Nat), k ≤ n2 ∧ z = .int .i64 (k : Int) ∧ a = .slice A3 m3 c3 ∧ Hid (all.length = m3) ∧ Hid (all = flatR (rows.take k)) ∧ Hid (wr.ownsRow K 3 1 (.slice A3 m3 c3) m3 (intsV all)) ∧ Hid (WAt u0 wr l q (sawS l all) B g ns W1 f A1 c1) ∧ Hid (Below W.heap.size W wr) ∧ K ≤ wr.heap.size) (fun _ z _ => n2 - (intOf z).toNat)
      case atStart => exact ⟨0, [], _, _, 0, Nat.zero_le _, rfl, rfl, rfl, rfl, HOE.out, HME.out, HBE.out, HKE.out⟩
      case round =>
        clear HOE HME HBE HKE
        obtain ⟨k, all, A3, c3, m3, hk, rfl, rfl, HM3, HALL, HOW, HWA, HB, hKr⟩ := hrel
        by_cases hlt : k < n2
        · obtain ⟨b, off, rfl, hb, hc⟩ := HR.out.cells (by omega)
          have e0 : wr.cell? ⟨b, off + k, none⟩ = some (.slice (v2 k).1 (wd rows k).length (v2 k).2) := by rw [HB.out.cell (p := ⟨b, off + k, none⟩) hb]; exact hc k hlt
          have HRK := Lib.hid (HR.out.rows k hlt)
          obtain ⟨ln, hln⟩ : ∃ x, (wd rows k).length = x := ⟨_, rfl⟩
          rw [hln] at e0 HRK
          have HLN := Lib.hid hln
          clear hc hln
          have hal : m3 ≤ 600 := by
            have := flat_le HLEN.out k (by have := HN2.out; omega)
            have h1 := HALL.out
            have h2 := HM3.out
            rw [← h1] at this; omega
          go_wp2_with fail
          have hWr : W.heap.size ≤ wr.heap.size := HB.out.size
          have HPr := Lib.hid (PatsAt.mono (HP.out.below HB.out) hWr)
          refine (rwatch_any wr HPr.out (RowAt.of_own HOW.out) HMY.out (by have := HM3.out; omega)).mono ?_
          rintro e w2 ⟨rfl, hb2⟩
          obtain ⟨a0, a1, a2, a3, a4, hV, ha0, ha3⟩ := wV_ints l (sawS l all)
          rw [hV]
          have HV := Lib.hid hV
          have HA0 := Lib.hid ha0
          clear hV ha0 ha3
          obtain ⟨X, hX⟩ : ∃ X, X = w2.alloc (.cells #[.int .i64 a0, .int .i64 a1, .int .i64 a2, .int .i64 a3, .int .i64 a4] 48) := ⟨_, rfl⟩
          have hbx : Below w2.heap.size w2 X := by rw [hX]; exact (Below.refl _ w2).alloc (Nat.le_refl _) _
          have HKX := Lib.hid (show X.heap[w2.heap.size]? = some (.cells #[.int .i64 a0, .int .i64 a1, .int .i64 a2, .int .i64 a3, .int .i64 a4] 48 (0, 0)) from by rw [hX]; exact heap_alloc_new w2 _)
          have hbr := hb2.trans (hbx.mono hb2.size)
          have hKX : K ≤ X.heap.size := by have := hbr.size; omega
          have HOX := Lib.hid (own_kept HOW.out hbr (Nat.le_refl _))
          have HWX := Lib.hid (HWA.out.below hbr)
          have HBX := Lib.hid (HB.out.trans (hbr.mono HB.out.size))
          have HRX := Lib.hid (show IntsAt X W.heap.size (v2 k).1 ln (v2 k).2 (wd rows k) from RowAt.below HRK.out HBX.out)
          have hw2X : w2.heap.size < X.heap.size := (Array.getElem?_eq_some_iff.1 HKX.out).1
          have hKw2 : K ≤ w2.heap.size := by have := hb2.size; omega
          have hln30 : ln ≤ 30 := by rw [← HLN.out]; exact HLEN.out k (by have := HN2.out; omega)
          clear hbx hbr hb2
          go_wp2_with (at_builtin; rw [← hX]; refine wpList_append_row rfl (.tmp 45) (.tmp 46) _ rfl K 3 _ 1 8 Try.underlying31 infoInt1 rfl (by decide) (.slice A3 m3 c3) m3 (intsV all) rfl HOX.out W.heap.size (v2 k).1 ln (v2 k).2 (intsV (wd rows k)) rfl HRX.out one_ints (m3 + ln) rfl (intsV (all ++ wd rows k)) (by unfold intsV; rw [List.map_append]) (by unfold maxLen; omega) (by omega) hKX ?_; intro A5 c5 w5 hown5 hb5 hg5; have O5 := Lib.hid hown5; have B5 := Lib.hid hb5; have G5 := Lib.hid hg5; clear hown5 hb5 hg5)
          have HK5 := Lib.hid (grown_block HOX.out G5.out HKX.out (by decide))
          have HW5 := Lib.hid (HWX.out.under B5.out hq1)
          have HB5 := Lib.hid (HBX.out.trans (B5.out.mono hKW))
          have hW5 : W.heap.size ≤ w5.heap.size := HB5.out.size
          have hX5 : X.heap.size ≤ w5.heap.size := B5.out.size
          have hal5 : (all ++ wd rows k).length = m3 + ln := by rw [List.length_append, HM3.out, HLN.out]
          have HAL5 := Lib.hid hal5
          have HP5 := Lib.hid (PatsAt.mono (HP.out.below HB5.out) hW5)
          clear hX hal5 HKX HWX HBX HRX G5 B5 HOX
          obtain ⟨al2, hal2⟩ : ∃ al2, all ++ wd rows k = al2 := ⟨_, rfl⟩
          rw [hal2] at HAL5 O5
          refine (rwatch_any w5 HP5.out (RowAt.of_own O5.out) HMY.out (by have := HAL5.out; omega)).mono ?_
          rintro e w6 ⟨rfl, hb6⟩
          obtain ⟨d0, d1, d2, d3, d4, hV2, hd0, hd3⟩ := wV_ints l (sawS l al2)
          rw [hV2]
          have HV2 := Lib.hid hV2
          have HD0 := Lib.hid hd0
          have HD3 := Lib.hid hd3
          have HFD := Lib.hid (show feedS l (sawS l all) (wd rows k) = sawS l al2 from by rw [← hal2, sawS_app])
          have HALL2 := Lib.hid (show al2 = flatR (rows.take (k + 1)) from by rw [← hal2, HALL.out, ← flat_next (by have := HN2.out; omega)])
          clear hV2 hd0 hd3 hal2
          obtain ⟨Y, hY⟩ : ∃ Y, Y = w6.alloc (.cells #[.int .i64 d0, .int .i64 d1, .int .i64 d2, .int .i64 d3, .int .i64 d4] 48) := ⟨_, rfl⟩
          have hby : Below w6.heap.size w6 Y := by rw [hY]; exact (Below.refl _ w6).alloc (Nat.le_refl _) _
          have HKY := Lib.hid (show Y.heap[w6.heap.size]? = some (.cells #[.int .i64 d0, .int .i64 d1, .int .i64 d2, .int .i64 d3, .int .i64 d4] 48 (0, 0)) from by rw [hY]; exact heap_alloc_new w6 _)
          have hby5 := hb6.trans (hby.mono hb6.size)
          have HKA := Lib.hid ((hby5.block w2.heap.size (by omega)).trans HK5.out)
          have HWY := Lib.hid (HW5.out.below hby5)
          have HBY := Lib.hid (HB5.out.trans (hby5.mono hW5))
          have OY := Lib.hid (own_kept O5.out hby5 (Nat.le_refl _))
          have hYs : K ≤ Y.heap.size := by have := hby5.size; omega
          have hY6 : w6.heap.size < Y.heap.size := (Array.getElem?_eq_some_iff.1 HKY.out).1
          have h56 : w5.heap.size ≤ w6.heap.size := hb6.size
          have HRY := Lib.hid (show IntsAt Y Y.heap.size (v2 k).1 ln (v2 k).2 (wd rows k) from RowAt.mono (RowAt.below HRK.out HBY.out) HBY.out.size)
          have HOF := Lib.hid (off_low HRK.out hqw)
          clear hby hby5 hb6 HK5 HW5 HB5 O5
          go_wp2_with fail
          rw [← hY]
          clear hY
          have hsl := saw_len l all
          have hsl2 := saw_len l al2
          refine (feed_as Y HWY.out HRY.out HOF.out (by have := HM3.out; have := HLN.out; omega)).mono ?_
          rintro e w8 ⟨rfl, hw8, ha⟩
          have hfl := (feed_len l (sawS l all) (wd rows k)).1
          rw [HFD.out] at hw8 hfl ⊢
          obtain ⟨nn, hnn⟩ : ∃ nn, (sawS l al2).length - (sawS l all).length = nn := ⟨_, rfl⟩
          obtain ⟨o2, ho2⟩ : ∃ o2, hitB l (sawS l al2) = o2 := ⟨_, rfl⟩
          rw [hnn, ho2]
          have hwr : IntKind.i64.wrap (d0 - a0) = (nn : Int) := by have := HA0.out; have := HD0.out; have := HM3.out; have := HAL5.out; rw [IntKind.wrap_i64]; omega
          have hds : decide (0 ≤ d3) = o2 := by rw [← HD3.out, hit_sign HMY.out, ho2]
          have HK8 := Lib.hid ((ha.block w6.heap.size hY6 (by omega)).trans HKY.out)
          have HKA8 := Lib.hid ((ha.block w2.heap.size (by omega) (by omega)).trans HKA.out)
          have HB8 := Lib.hid (HBY.out.trans (ha.below hqw HBY.out.size))
          have O8 := Lib.hid (own_aside OY.out ha hq1)
          have HW8 := Lib.hid hw8
          have h8s : K ≤ w8.heap.size := by have := ha.size; omega
          obtain ⟨y0, y1, y2, y3, y4⟩ := five_cells HK8.out
          obtain ⟨x0, x1, x2, x3, x4⟩ := five_cells HKA8.out
          clear ha hw8 hfl hnn ho2 HKY HKA HWY HBY OY HRY
          go_wp2_with fail
          rw [← HV2.out]
          refine (is_as w8 HW8.out (by have := HAL5.out; omega)).mono ?_
          rintro e w9 ⟨rfl, hb9⟩
          have O9 := Lib.hid (own_kept O8.out hb9 (Nat.le_refl _))
          have HW9 := Lib.hid (HW8.out.below hb9)
          have HB9 := Lib.hid (HB8.out.trans (hb9.mono HB8.out.size))
          have h9s : K ≤ w9.heap.size := by have := hb9.size; omega
          clear hb9 O8 HW8 HB8
          go_wp2_with fail
          go_roundw
          case rel => exact ⟨k + 1, al2, A5, c5, m3 + ln, by omega, by go_num, rfl, HAL5.out, HALL2.out, O9.out, HW9.out, HB9.out, h9s⟩
          case measure => simp [intOf]; omega
        · obtain rfl : k = n2 := by omega
          have hal : m3 ≤ 600 := by
            have := flat_le HLEN.out k (by have := HN2.out; omega)
            have h1 := HALL.out
            have h2 := HM3.out
            rw [← h1] at this; omega
          have hsl := saw_len l all
          go_wp2_with fail
          refine (fixed19 _).mono ?_
          rintro e w2 ⟨rfl, hb2⟩
          have HW2 := Lib.hid (HWA.out.below hb2)
          have HB2 := Lib.hid (HB.out.trans (hb2.mono HB.out.size))
          have HO2 := Lib.hid (own_kept HOW.out hb2 (Nat.le_refl _))
          have HP2 := Lib.hid (PatsAt.mono (HP.out.below HB2.out) HB2.out.size)
          clear hb2
          go_wp2_with fail
          refine (rwatch_any w2 HP2.out (RowAt.of_own HO2.out) HMY.out (by have := HM3.out; omega)).mono ?_
          rintro e w3 ⟨rfl, hb3⟩
          have HW3 := Lib.hid (HW2.out.below hb3)
          have HB3 := Lib.hid (HB2.out.trans (hb3.mono HB2.out.size))
          clear hb3
          go_wp2_with fail
          refine (is_as w3 HW3.out (by have := HM3.out; omega)).mono ?_
          rintro e w4 ⟨rfl, hb4⟩
          have HB4 := Lib.hid (HB3.out.trans (hb4.mono HB3.out.size))
          go_wp2_with fail
          go_ret
          exact ⟨rfl, HB4.out⟩
    · have HMY := Lib.hid hm
      have HOM := Lib.hid (show (okAll l && decide (n ≤ 32)) = false from by
        have := HN.out
        rw [Bool.eq_false_iff]
        intro h
        rw [Bool.and_eq_true] at h
        exact hm ⟨by have := of_decide_eq_true h.2; omega, h.1⟩)
      clear hm
      go_enter Try.func8, Try.ntmps8
      go_wp2_with fail
      refine (great19 W HR.out HO.out).mono ?_
      rintro e w' ⟨rfl, rfl⟩
      go_wp2_with fail
      refine (snew_no W HP.out HMY.out).mono ?_
      rintro e w1 ⟨rfl, hb⟩
      have H1 := Lib.hid hb
      clear hb
      go_wp2_with fail
      refine (may_any w1 (HP.out.below H1.out) HOM.out).mono ?_
      rintro e w' ⟨rfl, rfl⟩
      go_wp2_with fail
      refine (fixed19 _).mono ?_
      rintro e w2 ⟨rfl, hb⟩
      have H2 := Lib.hid (H1.out.trans (hb.mono H1.out.size))
      clear hb
      go_wp2_with fail
      go_ret
      exact ⟨rfl, H2.out⟩
end Go.Proofs.Ytohfkpoblebfaaa
