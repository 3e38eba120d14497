/- The walk of StopFree: true for every input. -/
import Derived.Test.YtohfkpoblebfaaaWalkStopFeeds
import Derived.Test.YtohfkpoblebfaaaStopThere
import Derived.Lib.MinMax
namespace Go.Proofs.Ytohfkpoblebfaaa
open Go.RowKit
set_option linter.unusedVariables false

theorem free_nil0 (l : List Wd) : freeW l [] = 0 := by
  obtain ⟨n, hn, hl⟩ := free_nat l []
  rw [hn]; simp at hl; rw [hl]; rfl
theorem len64 {l : List Wd} (hm : mayP l) : ∀ k, k < l.length → (wd l k).length ≤ 64 := fun k hk => okP_le hm (wd_mem hk)
theorem longW_take {l : List Wd} {k : Nat} (h : k < l.length) : longW (l.take (k + 1)) = max (longW (l.take k)) (wd l k).length := by rw [take_wd h, longW_snoc]
theorem longW_64 {l : List Wd} (hm : mayP l) : ∀ k, k ≤ l.length → longW (l.take k) ≤ 64
  | 0, _ => by simp [longW]
  | k + 1, hk => by
    rw [longW_take (by omega)]
    have := longW_64 hm k (by omega)
    have := len64 hm k (by omega)
    omega
theorem bdrew (w : World) (k : Nat) : Below w.heap.size w (w.drewN k) := below_drewN (Below.refl _ _) k
set_option maxRecDepth 100000 in
set_option maxHeartbeats 4000000 in
theorem walkStopFree (W : World) {A A2 : Option Addr} {n c n2 c2 : Nat} {l rows : List Wd} {v v2 : Vs} (hl : PatsAt W W.heap.size A n c l v) (hr : PatsAt W W.heap.size A2 n2 c2 rows v2) :
    Calls Try.prog 9 #[.slice A n c, .slice A2 n2 c2] W fun e W' => e = .returned (.bool true) ∧ Below W.heap.size W W' := by
  have HN := Lib.hid hl.len
  have HN2 := Lib.hid hr.len
  have HP := Lib.hid hl
  have HR := Lib.hid hr
  have hcap := hr.cap
  have hcap' := hl.cap
  unfold maxLen at hcap hcap'
  obtain ⟨hc1, hc2⟩ := hcap
  obtain ⟨hc1', hc2'⟩ := hcap'
  clear hl hr
  obtain ⟨o, ho⟩ : ∃ o, greatB n n2 rows = o := ⟨_, rfl⟩
  have HO := Lib.hid ho
  clear ho
  cases o with
  | true =>
    go_enter Try.func9, Try.ntmps9
    go_wp2_with fail
    refine (great19 W HR.out HO.out).mono ?_
    rintro e w' ⟨rfl, rfl⟩
    go_wp2_with fail
    refine (fixed19 _).mono ?_
    rintro e w' ⟨rfl, hb⟩
    go_wp2_with fail
    go_ret
    exact ⟨rfl, hb⟩
  | false =>
    obtain ⟨hn40, hn20, hlen⟩ := great_no HO.out
    have HLEN := Lib.hid hlen
    clear hlen
    by_cases hm : mayP l
    · have HMY := Lib.hid hm
      have HOM := Lib.hid (show (okAll l && decide (n ≤ 32)) = true from by have := HN.out; rw [hm.2, decide_eq_true (by have := hm.1; omega : n ≤ 32)]; rfl)
      clear hm
      go_enter Try.func9, Try.ntmps9
      go_wp2_with fail
      refine (great19 W HR.out HO.out).mono ?_
      rintro e w' ⟨rfl, rfl⟩
      go_wp2_with fail
      refine (may_any W HP.out HOM.out).mono ?_
      rintro e w' ⟨rfl, rfl⟩
      go_wp2_with fail
      go_loop [5, 28] (fun a z => ∃ (k m : Nat), k ≤ n ∧ z = .int .i64 (k : Int) ∧ a = .int .i64 (m : Int) ∧ Hid (longW (l.take k) = m) ∧ m ≤ 64) (fun _ z => n - (intOf z).toNat)
      case atStart => exact ⟨0, 0, Nat.zero_le _, rfl, rfl, Lib.hid rfl, by omega⟩
      case round =>
        obtain ⟨k, m, hk, rfl, rfl, HLW, hm64⟩ := hrel
        by_cases hlt : k < n
        · obtain ⟨b, off, rfl, hb, hc⟩ := HP.out.cells (by omega)
          have e0 := hc k hlt
          have h64 := len64 HMY.out k (by have := HN.out; omega)
          have HLT := Lib.hid (longW_take (l := l) (k := k) (by have := HN.out; omega))
          obtain ⟨ln, hln⟩ : ∃ x, (wd l k).length = x := ⟨_, rfl⟩
          rw [hln] at e0 h64 HLT
          obtain ⟨mx, hmx⟩ : ∃ x, max m ln = x := ⟨_, rfl⟩
          have hmxi : max (m : Int) (ln : Int) = (mx : Int) := by omega
          have HMX := Lib.hid (show longW (l.take (k + 1)) = mx from by rw [HLT.out, HLW.out, hmx])
          have hmx64 : mx ≤ 64 := by omega
          clear hc hln hmx
          go_wp2_with fail
          go_round
          case rel => exact ⟨k + 1, mx, by omega, by go_num, rfl, HMX, hmx64⟩
          case measure => simp [intOf]; omega
        · obtain rfl : k = n := by omega
          have HLG := Lib.hid (show longW l = m from by have := HLW.out; rw [List.take_of_length_le (by have := HN.out; omega)] at this; exact this)
          clear HLW
          go_wp2_with fail
          refine (snew_yes W HP.out HMY.out).mono ?_
          rintro e w1 ⟨u0, q, B, g, ns, W1, f, A1, c1, rfl, hm, hz, hb⟩
          have hqw : W.heap.size ≤ q := by have := hm.far; omega
          have hq1 := hm.lt
          have H1 := Lib.hid hb
          have M1 := Lib.hid hm
          clear hm hb
          go_wp2_with fail
          obtain ⟨wE, hwE⟩ : ∃ wE, wE = w1.alloc (.cells #[] 3) := ⟨_, rfl⟩
          have HE := Lib.hid (show Below w1.heap.size w1 wE from by rw [hwE]; exact (Below.refl _ w1).alloc (Nat.le_refl _) _)
          have HOE := Lib.hid (show wE.ownsRow w1.heap.size 3 1 (.slice (some ⟨w1.heap.size, 0, none⟩) 0 0) 0 [] from by rw [hwE]; exact own_empty w1 _ _)
          have HME := Lib.hid (M1.out.below HE.out)
          have HBE := Lib.hid (H1.out.trans (HE.out.mono H1.out.size))
          have HKE := Lib.hid (show w1.heap.size ≤ wE.heap.size from HE.out.size)
          obtain ⟨K, hK⟩ : ∃ K, w1.heap.size = K := ⟨_, rfl⟩
          rw [hK] at HOE hq1 HKE
          rw [← hwE, hK]
          have hKW : W.heap.size ≤ K := by omega
          clear hwE HE M1 H1 hK
          go_loopw [10, 11, 45] (fun a fr z wr => ∃ (j : Nat) (s : Wd) (A3 : Option Addr) (c3 m3 f3 : Nat), j ≤ n2 ∧ z = .int .i64 (j : Int) ∧ a = .slice A3 m3 c3 ∧ fr = .int .i64 (f3 : Int) ∧ Hid (s.length = m3) ∧ Hid (Reach l s) ∧ Hid (freeW l s = (f3 : Int)) ∧ f3 ≤ m3 ∧ m3 ≤ 30 * j ∧ Hid (wr.ownsRow K 3 1 (.slice A3 m3 c3) m3 (intsV s)) ∧ Hid (WAt u0 wr l q s B g ns W1 f A1 c1) ∧ Hid (Below W.heap.size W wr) ∧ K ≤ wr.heap.size) (fun _ _ z _ => n2 - (intOf z).toNat)
          case atStart => exact ⟨0, [], _, _, 0, 0, Nat.zero_le _, rfl, rfl, rfl, Lib.hid rfl, Lib.hid (reach_nil l), Lib.hid (free_nil0 l), Nat.le_refl _, by omega, HOE, HME, HBE, HKE.out⟩
          case round =>
            clear HOE HME HBE HKE
            obtain ⟨j, s, A3, c3, m3, f3, hj, rfl, rfl, rfl, HM3, HRC, HF3, hf3, hm3, HOW, HWA, HB, hKr⟩ := hrel
            by_cases hlt : j < n2
            · obtain ⟨b, off, rfl, hb, hc⟩ := HR.out.cells (by omega)
              have e0 : wr.cell? ⟨b, off + j, none⟩ = some (.slice (v2 j).1 (wd rows j).length (v2 j).2) := by rw [HB.out.cell (p := ⟨b, off + j, none⟩) hb]; exact hc j hlt
              have HRK := Lib.hid (HR.out.rows j hlt)
              have hln30 := HLEN.out j (by have := HN2.out; omega)
              obtain ⟨t, ht⟩ : ∃ t, wd rows j = t := ⟨_, rfl⟩
              obtain ⟨ln, hln⟩ : ∃ x, (wd rows j).length = x := ⟨_, rfl⟩
              rw [hln] at e0 HRK hln30
              rw [ht] at HRK hln
              have hlc := HRK.out.2.1
              have hlm := HRK.out.2.2.1
              unfold maxLen at hlm
              have HLN := Lib.hid hln
              clear hc hln ht
              have hWr : W.heap.size ≤ wr.heap.size := HB.out.size
              have HRr := Lib.hid (show IntsAt wr wr.heap.size (v2 j).1 ln (v2 j).2 t from RowAt.mono (RowAt.below HRK.out HB.out) hWr)
              have HOF := Lib.hid (off_low HRK.out hqw)
              have hfl := feed_len2 l s t
              obtain ⟨s2, hs2⟩ : ∃ s2, feedS l s t = s2 := ⟨_, rfl⟩
              obtain ⟨o2, ho2⟩ : ∃ o2, hitB l s2 = o2 := ⟨_, rfl⟩
              obtain ⟨f4, hf4, hf4l⟩ := free_nat l s2
              rw [hs2] at hfl
              obtain ⟨nn, hnn⟩ : ∃ nn, s2.length - s.length = nn := ⟨_, rfl⟩
              rw [hnn] at hfl
              have hnl : nn ≤ ln := by have := HLN.out; omega
              have hs2l : s2.length = m3 + nn := by have := HM3.out; omega
              have HS2L := Lib.hid hs2l
              have HS2 := Lib.hid hfl.2.2
              have HRC2 := Lib.hid (show Reach l s2 from by rw [← hs2]; exact reach_feed HRC.out)
              have HF4 := Lib.hid hf4
              have hf34 : f3 ≤ f4 := by
                have := free_feed HMY.out t s
                rw [hs2, HF3.out, hf4] at this
                omega
              have hf4m : f4 ≤ m3 + nn := by omega
              have HO2 := Lib.hid ho2
              have HNN := Lib.hid hnn
              have HFS := Lib.hid hs2
              clear hfl hs2 ho2 hf4 hnn hs2l hf4l
              go_wp2_with fail
              refine (feed_as wr HWA.out HRr.out HOF.out (by have := HM3.out; have := HLN.out; omega)).mono ?_
              unfold FeedTo
              rw [HFS.out, HNN.out, HO2.out]
              rintro e w8 ⟨rfl, hw8, ha⟩
              have HB8 := Lib.hid (HB.out.trans (ha.below hqw HB.out.size))
              have O8 := Lib.hid (own_aside HOW.out ha hq1)
              have HW8 := Lib.hid hw8
              have h8s : K ≤ w8.heap.size := by have := ha.size; omega
              have HR8 := Lib.hid (show IntsAt w8 W.heap.size (v2 j).1 nn (v2 j).2 (t.take nn) from IntsAt.to_ (RowAt.below HRK.out HB8.out) hnl)
              have hnc : (nn : Int) ≤ ((v2 j).2 : Int) := by omega
              have hnl' : (nn : Int) ≤ (ln : Int) := by omega
              clear ha hw8 HRr HOW HWA HB e0
              go_wp2_with (at_builtin; refine wpList_append_row rfl (.tmp 63) (.tmp 66) _ rfl K 3 _ 1 8 Try.underlying31 infoInt1 rfl (by decide) (.slice A3 m3 c3) m3 (intsV s) rfl O8.out W.heap.size (v2 j).1 nn (v2 j).2 (intsV (t.take nn)) rfl HR8.out one_ints (m3 + nn) rfl (intsV s2) (by rw [HS2.out]; unfold intsV; rw [List.map_append]) (by unfold maxLen; omega) (by omega) h8s ?_; intro A5 c5 w5 hown5 hb5 hg5; have O5 := Lib.hid hown5; have B5 := Lib.hid hb5; clear hown5 hb5 hg5)
              have HW5 := Lib.hid (HW8.out.under B5.out hq1)
              have HB5 := Lib.hid (HB8.out.trans (B5.out.mono hKW))
              have h5s : K ≤ w5.heap.size := by have := B5.out.size; omega
              have hs1 : s2.length ≤ 1000000 := by have := HS2L.out; omega
              have HS1 := Lib.hid hs1
              have d1 : decide ((f4 : Int) < (f3 : Int)) = false := decide_eq_false (by omega)
              have d2 : decide (((m3 + nn : Nat) : Int) < (f4 : Int)) = false := decide_eq_false (by omega)
              clear B5 O8 HW8 HB8 hs1
              refine (free_as w5 HW5.out HS1.out).mono ?_
              rw [HF4.out]
              rintro e w' ⟨rfl, k1, rfl⟩
              obtain ⟨wA, hwA⟩ : ∃ wA, wA = w5.drewN k1 := ⟨_, rfl⟩
              have bA : Below w5.heap.size w5 wA := by rw [hwA]; exact bdrew _ _
              have HWX := Lib.hid (HW5.out.below bA)
              have HBX := Lib.hid (HB5.out.trans (bA.mono HB5.out.size))
              have OX := Lib.hid (own_kept O5.out bA (Nat.le_refl _))
              have hXs : K ≤ wA.heap.size := by have := bA.size; omega
              rw [← hwA]
              clear hwA bA HW5 HB5 O5 h5s
              go_wp2_with fail
              refine (free_as wA HWX.out HS1.out).mono ?_
              rw [HF4.out]
              rintro e w' ⟨rfl, k2, rfl⟩
              obtain ⟨wC, hdw⟩ : ∃ x, x = wA.drewN k2 := ⟨_, rfl⟩
              have bX : Below wA.heap.size wA wC := by rw [hdw]; exact bdrew _ _
              have HWC := Lib.hid (HWX.out.below bX)
              have HBC := Lib.hid (HBX.out.trans (bX.mono HBX.out.size))
              have OC := Lib.hid (own_kept OX.out bX (Nat.le_refl _))
              have hCs : K ≤ wC.heap.size := by have := bX.size; omega
              rw [← hdw]
              clear hdw bX HWX HBX OX hXs
              go_wp2_with fail
              refine (seen_as wC HWC.out).mono ?_
              rw [HS2L.out]
              rintro e w' ⟨rfl, rfl⟩
              obtain ⟨hd, hhd⟩ : ∃ x, heldW l s2 = x := ⟨_, rfl⟩
              obtain ⟨mx, hmx⟩ : ∃ x, max m 1 = x := ⟨_, rfl⟩
              have hmxi : max (m : Int) (1 : Int) = (mx : Int) := by omega
              have HHD := Lib.hid hhd
              have HMX := Lib.hid hmx
              clear hhd hmx
              have CONT : ∀ wD, Below wC.heap.size wC wD → WAt u0 wD l q s2 B g ns W1 f A1 c1 ∧ Below W.heap.size W wD ∧ wD.ownsRow K 3 1 (.slice A5 (m3 + nn) c5) (m3 + nn) (intsV s2) ∧ K ≤ wD.heap.size := fun wD hb => ⟨HWC.out.below hb, HBC.out.trans (hb.mono HBC.out.size), own_kept OC.out hb (Nat.le_refl _), by have := hb.size; omega⟩
              have CN := Lib.hid CONT
              clear CONT
              cases o2 with
              | true =>
                go_wp2_with fail
                obtain ⟨HWD0, HBD0, OD0, hDs⟩ := CN.out wC (Below.refl _ _)
                have HWD := Lib.hid HWD0
                have HBD := Lib.hid HBD0
                have OD := Lib.hid OD0
                clear HWD0 HBD0 OD0 CN HWC HBC OC hCs hKr hWr
                refine (free_as wC HWD.out HS1.out).mono ?_
                rw [HF4.out]
                rintro e w' ⟨rfl, k4, rfl⟩
                obtain ⟨wF, hwF⟩ : ∃ wF, wF = wC.drewN k4 := ⟨_, rfl⟩
                have bF : Below wC.heap.size wC wF := by rw [hwF]; exact bdrew _ _
                have HWF := Lib.hid (HWD.out.below bF)
                have HBF := Lib.hid (HBD.out.trans (bF.mono HBD.out.size))
                have OF := Lib.hid (own_kept OD.out bF (Nat.le_refl _))
                have hFs : K ≤ wF.heap.size := by have := bF.size; omega
                rw [← hwF]
                clear hwF bF HWD HBD OD hDs
                go_wp2_with fail
                go_loopw [100] (fun z wr => ∃ (i q2 : Nat), i ≤ f4 ∧ z = .int .i64 (i : Int) ∧ wr = wF.drewN q2) (fun z _ => f4 - (intOf z).toNat)
                case atStart => exact ⟨0, 0, Nat.zero_le _, rfl, rfl⟩
                case round =>
                  obtain ⟨i, q2, hi, rfl, rfl⟩ := hrel
                  by_cases hif : i < f4
                  · have HTF := Lib.hid (there_free HMY.out HRC2.out (i := i) (by rw [HF4.out]; omega))
                    have him : i ≤ m3 + nn := by omega
                    have hm1 : m3 + nn ≤ 1000000 := by omega
                    go_wp2_with fail
                    refine (rthere_any (wF.drewN q2) (HP.out.below (below_drewN HBF.out q2)) (RowAt.drewN (RowAt.of_own OF.out) q2) him (len64 HMY.out) hm1).mono ?_
                    rw [HTF.out]
                    rintro e w' ⟨rfl, q3, rfl⟩
                    go_wp2_with fail
                    go_roundw
                    case rel => exact ⟨i + 1, q2 + q3, by omega, by go_num, by first | rfl | rw [World.drewN_drewN]⟩
                    case measure => simp [intOf]; omega
                  · obtain rfl : i = f4 := by omega
                    obtain ⟨wG, hwG⟩ : ∃ wG, wG = wF.drewN q2 := ⟨_, rfl⟩
                    have bG : Below wF.heap.size wF wG := by rw [hwG]; exact bdrew _ _
                    have HWG := Lib.hid (HWF.out.below bG)
                    have HBG := Lib.hid (HBF.out.trans (bG.mono HBF.out.size))
                    have OG := Lib.hid (own_kept OF.out bG (Nat.le_refl _))
                    have hGs : K ≤ wG.heap.size := by have := bG.size; omega
                    rw [← hwG]
                    clear hwG bG
                    go_wp2_with fail
                    go_roundw
                    case rel => exact ⟨j + 1, s2, A5, c5, m3 + nn, i, by omega, by go_num, rfl, rfl, HS2L, HRC2, HF4, hf4m, by omega, OG, HWG, HBG, hGs⟩
                    case measure => simp [intOf]; omega
              | false =>
                have HLS := Lib.hid (held_less HMY.out HO2.out)
                have d3 : decide (mx ≤ hd) = false := decide_eq_false (by have := HLS.out; have := HHD.out; have := HMX.out; have := HLG.out; omega)
                have d4 : decide (f4 < f3) = false := decide_eq_false (by omega)
                have d5 : decide ((m3 : Int) + (nn : Int) < (f4 : Int)) = false := decide_eq_false (by omega)
                go_wp2_with fail
                refine (held_as wC HWC.out).mono ?_
                rw [HHD.out]
                rintro e w' ⟨rfl, k3, rfl⟩
                obtain ⟨wD, hwD⟩ : ∃ wD, wD = wC.drewN k3 := ⟨_, rfl⟩
                have bD : Below wC.heap.size wC wD := by rw [hwD]; exact bdrew _ _
                rw [← hwD]
                clear hwD
                go_wp2_with fail
                obtain ⟨HWD0, HBD0, OD0, hDs⟩ := CN.out wD bD
                have HWD := Lib.hid HWD0
                have HBD := Lib.hid HBD0
                have OD := Lib.hid OD0
                clear HWD0 HBD0 OD0 CN HWC HBC OC hCs hKr hWr bD
                refine (free_as wD HWD.out HS1.out).mono ?_
                rw [HF4.out]
                rintro e w' ⟨rfl, k4, rfl⟩
                obtain ⟨wF, hwF⟩ : ∃ wF, wF = wD.drewN k4 := ⟨_, rfl⟩
                have bF : Below wD.heap.size wD wF := by rw [hwF]; exact bdrew _ _
                have HWF := Lib.hid (HWD.out.below bF)
                have HBF := Lib.hid (HBD.out.trans (bF.mono HBD.out.size))
                have OF := Lib.hid (own_kept OD.out bF (Nat.le_refl _))
                have hFs : K ≤ wF.heap.size := by have := bF.size; omega
                rw [← hwF]
                clear hwF bF HWD HBD OD hDs
                go_wp2_with fail
                go_loopw [100] (fun z wr => ∃ (i q2 : Nat), i ≤ f4 ∧ z = .int .i64 (i : Int) ∧ wr = wF.drewN q2) (fun z _ => f4 - (intOf z).toNat)
                case atStart => exact ⟨0, 0, Nat.zero_le _, rfl, rfl⟩
                case round =>
                  obtain ⟨i, q2, hi, rfl, rfl⟩ := hrel
                  by_cases hif : i < f4
                  · have HTF := Lib.hid (there_free HMY.out HRC2.out (i := i) (by rw [HF4.out]; omega))
                    have him : i ≤ m3 + nn := by omega
                    have hm1 : m3 + nn ≤ 1000000 := by omega
                    go_wp2_with fail
                    refine (rthere_any (wF.drewN q2) (HP.out.below (below_drewN HBF.out q2)) (RowAt.drewN (RowAt.of_own OF.out) q2) him (len64 HMY.out) hm1).mono ?_
                    rw [HTF.out]
                    rintro e w' ⟨rfl, q3, rfl⟩
                    go_wp2_with fail
                    go_roundw
                    case rel => exact ⟨i + 1, q2 + q3, by omega, by go_num, by first | rfl | rw [World.drewN_drewN]⟩
                    case measure => simp [intOf]; omega
                  · obtain rfl : i = f4 := by omega
                    obtain ⟨wG, hwG⟩ : ∃ wG, wG = wF.drewN q2 := ⟨_, rfl⟩
                    have bG : Below wF.heap.size wF wG := by rw [hwG]; exact bdrew _ _
                    have HWG := Lib.hid (HWF.out.below bG)
                    have HBG := Lib.hid (HBF.out.trans (bG.mono HBF.out.size))
                    have OG := Lib.hid (own_kept OF.out bG (Nat.le_refl _))
                    have hGs : K ≤ wG.heap.size := by have := bG.size; omega
                    rw [← hwG]
                    clear hwG bG
                    go_wp2_with fail
                    go_roundw
                    case rel => exact ⟨j + 1, s2, A5, c5, m3 + nn, i, by omega, by go_num, rfl, rfl, HS2L, HRC2, HF4, hf4m, by omega, OG, HWG, HBG, hGs⟩
                    case measure => simp [intOf]; omega
            · obtain rfl : j = n2 := by omega
              go_wp2_with fail
              refine (fixed19 _).mono ?_
              rintro e w2 ⟨rfl, hb2⟩
              have HB2 := Lib.hid (HB.out.trans (hb2.mono HB.out.size))
              go_wp2_with fail
              go_ret
              exact ⟨rfl, HB2.out⟩
    · have HMY := Lib.hid hm
      have HOM := Lib.hid (show (okAll l && decide (n ≤ 32)) = false from by
        have := HN.out
        rw [Bool.eq_false_iff]
        intro h
        rw [Bool.and_eq_true] at h
        exact hm ⟨by have := of_decide_eq_true h.2; omega, h.1⟩)
      clear hm
      go_enter Try.func9, Try.ntmps9
      go_wp2_with fail
      refine (great19 W HR.out HO.out).mono ?_
      rintro e w' ⟨rfl, rfl⟩
      go_wp2_with fail
      refine (may_any W HP.out HOM.out).mono ?_
      rintro e w' ⟨rfl, rfl⟩
      go_wp2_with fail
      refine (fixed19 _).mono ?_
      rintro e w2 ⟨rfl, hb⟩
      go_wp2_with fail
      go_ret
      exact ⟨rfl, hb⟩
end Go.Proofs.Ytohfkpoblebfaaa
