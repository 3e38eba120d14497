/- The walk of merge.Write. -/
import Derived.Test.YtefhifmilmedhaaDoorBuf
import Derived.Test.YtefhifmilmedhaaDoorMergeMay
import Derived.Test.YtefhifmilmedhaaDoorLetWrite
import Derived.Test.YtefhifmilmedhaaDoorMergeSame
namespace Go.Proofs.YtefhifmilmedhaaDoor
open Go.RowKit
set_option linter.unusedVariables false
theorem buf_text {g : Nat} {F : List UInt8} (X : List UInt8) {S : ByteArray} (hS : Hid (strOf X = S)) (w : World) (h : Buf g F w) (hl : F.length + X.length ≤ 100000000) :
    Calls Tryd.prog 41 #[.pointer (some ⟨g, 0, none⟩), .string S] w fun e w' => e = .returned (.tuple #[.int .i64 (X.length : Int), .nilIface]) ∧ Buf g (F ++ X) w' ∧ Below g w w' ∧ Lib.OthersKept 5 (some g) w w' := by
  obtain rfl := hS.out
  exact buf_stringM X w h hl
theorem line_text (E D : List UInt8) : strOf (E ++ 32 :: D ++ [10]) = strOf E ++ ⟨#[32]⟩ ++ strOf D ++ ⟨#[10]⟩ := by
  apply ByteArray.ext
  simp [strOf]
theorem mayT1_row {s : List UInt8} {r : Int} (h : mayT1 s = false) : mayW (s, r) = false := by
  unfold mayW; unfold mayT1 at h
  have := of_decide_eq_false h
  exact decide_eq_false (by simp only; omega)
theorem mayT1_row2 {s : List UInt8} {r : Int} (h : mayT1 s = true) (h0 : 0 ≤ r) (h1 : r ≤ 9999999) : mayW (s, r) = true := by
  unfold mayW
  have := mayT1_yes h
  exact decide_eq_true (by simp only; omega)
theorem mayT1_row3 {s : List UInt8} {r : Int} (h : r < 0 ∨ 9999999 < r) : mayW (s, r) = false := by
  unfold mayW
  exact decide_eq_false (by simp only; omega)
def MwTo (R : RowsI) (Q : PairsL) (w : World) (e : Ending) (w' : World) : Prop :=
  (okM R Q = true ∧ ∃ v, e = .returned (.tuple #[v, .bool true]) ∧ w'.ownsRow w.heap.size 5 1 v (fileM R Q).length (bytesV (fileM R Q)) ∧ Below w.heap.size w w') ∨
  (okM R Q = false ∧ e = .returned (.tuple #[.slice none 0 0, .bool false]) ∧ Below w.heap.size w w')
set_option maxRecDepth 100000 in
set_option maxHeartbeats 4000000 in
theorem mwrite_any {A A2 : Option Addr} {n c m d : Nat} {R : RowsI} {Q : PairsL} (w : World) (ht : Tab10 w) (h : RowAt w w.heap.size 2 A n c (rowsI R)) (g : RowAt w w.heap.size 2 A2 m d (pairsV Q)) :
    Calls Tryd.prog 32 #[.agg #[.slice A n c, .slice A2 m d]] w (MwTo R Q w) := by
  have hcap := h.2.2.1
  have hcn := h.2.1
  unfold maxLen at hcap
  have hcap2 := g.2.2.1
  have hcn2 := g.2.1
  unfold maxLen at hcap2
  have HH := Lib.hid h
  have HL := Lib.hid (rows_len h)
  have HG := Lib.hid g
  have HM := Lib.hid (pairs_len g)
  have HT := Lib.hid ht
  clear h g ht
  have HB0 := Lib.hid (show Below w.heap.size w (w.alloc (.cells #[.slice A n c, .slice A2 m d] 59)) from (Below.refl _ w).alloc (Nat.le_refl _) _)
  by_cases hbig : 4096 < n
  · have hb' : decide ((4096 : Int) < (n : Int)) = true := decide_eq_true (by omega)
    have HNO := Lib.hid (show okM R Q = false from by unfold okM; rw [decide_eq_false (by rw [← HL.out]; omega)]; rfl)
    go_enter Tryd.func32, Tryd.ntmps32
    go_wp2_with fail
    go_ret2
    exact .inr ⟨HNO.out, rfl, HB0.out⟩
  · have hb1 : decide ((4096 : Int) < (n : Int)) = false := decide_eq_false (by omega)
    by_cases hbig2 : 16384 < m
    · have hb' : decide ((16384 : Int) < (m : Int)) = true := decide_eq_true (by omega)
      have HNO := Lib.hid (show okM R Q = false from by unfold okM; rw [decide_eq_false (p := Q.length ≤ 16384) (by rw [← HM.out]; omega)]; simp)
      go_enter Tryd.func32, Tryd.ntmps32
      go_wp2_with fail
      go_ret2
      exact .inr ⟨HNO.out, rfl, HB0.out⟩
    · have hb2 : decide ((16384 : Int) < (m : Int)) = false := decide_eq_false (by omega)
      obtain ⟨w0, hw0⟩ : ∃ w0, w.alloc (.cells #[.slice A n c, .slice A2 m d] 59) = w0 := ⟨_, rfl⟩
      have hz0 : w0.heap.size = w.heap.size + 1 := by rw [← hw0, World.size_alloc]
      obtain ⟨f, hf⟩ : ∃ f, w.heap.size + 1 = f := ⟨_, rfl⟩
      have hfr := Lib.fresh_isBuffer 78 5 w0
      rw [hz0, hf] at hfr
      rw [hw0] at HB0
      have HT0 := Lib.hid (show w0.heap[w.heap.size]? = some (.cells #[.slice A n c, .slice A2 m d] 59 (0, 0)) from by rw [← hw0]; exact heap_alloc_new w _)
      have hb1w : Below w0.heap.size w0 (w0.alloc (.cells #[.slice none 0 0, .int .i64 0, .int .i8 0] 78)) := (Below.refl _ w0).alloc (Nat.le_refl _) _
      obtain ⟨w1, hw1⟩ : ∃ w1, w0.alloc (.cells #[.slice none 0 0, .int .i64 0, .int .i8 0] 78) = w1 := ⟨_, rfl⟩
      rw [hw1] at hfr hb1w
      have HFR := Lib.hid hfr
      have HW1 := Lib.hid (HB0.out.trans (hb1w.mono HB0.out.size))
      have HT1 := Lib.hid ((hb1w.block w.heap.size (by omega)).trans HT0.out)
      have HQ0 := Lib.hid hw0
      have HQ1 := Lib.hid hw1
      have HF := Lib.hid hf
      clear hfr hb1w hw0 hw1 hz0 HT0
      go_enter Tryd.func32, Tryd.ntmps32
      go_wp2_with fail
      rw [HQ0.out, HQ1.out]
      have hX0 : strOf (vocabL ++ [10]) = ⟨#[118, 111, 99, 97, 98, 10]⟩ := rfl
      have HX0 := Lib.hid hX0
      clear hX0
      refine (buf_text (F := []) (vocabL ++ [10]) HX0 w1 HFR.out (by have : (vocabL ++ [10]).length = 6 := rfl; rw [this]; simp)).mono ?_
      rintro e w2 ⟨rfl, hB2, hb2, hk2⟩
      have HB2 := Lib.hid (show Buf f (fileA (R.take 0)) w2 from hB2)
      have HW2 := Lib.hid hb2
      have HT2 := Lib.hid ((hb2.block _ (by omega)).trans HT1.out)
      obtain ⟨x0, x1, -, -⟩ := pair_reads HT2.out
      clear hB2 hb2 hk2
      go_wp2_with fail
      go_loopw [23] (fun i wr => ∃ k : Nat, k ≤ n ∧ i = .int .i64 k ∧ Hid (Buf f (fileA (R.take k)) wr) ∧ Hid ((R.take k).all mayW = true) ∧ Hid (Below f w1 wr)) (fun i _ => n - (intOf i).toNat)
      case atStart => exact ⟨0, Nat.zero_le _, rfl, HB2, Lib.hid rfl, HW2⟩
      case round =>
        obtain ⟨k, hk, rfl, HBU, HK, HW⟩ := hrel
        have HWW := Lib.hid (HW1.out.trans (HW.out.mono (by have := HF.out; omega)))
        by_cases hlt : k < n
        · obtain ⟨b, off, rfl, hbl, hc⟩ := rows_cells HH.out (by omega)
          have hkl : k < R.length := by rw [← HL.out]; exact hlt
          obtain ⟨⟨s, r⟩, hx⟩ : ∃ x, R[k]'hkl = x := ⟨_, rfl⟩
          have c1 : wr.cell? ⟨b, off + k * 2, none⟩ = some (.string (strOf s)) := by rw [HWW.out.cell (p := ⟨b, off + k * 2, none⟩) hbl, (hc k hkl).1, hx]
          have c2 : wr.cell? ⟨b, off + k * 2 + 1, none⟩ = some (.int .i64 r) := by rw [HWW.out.cell (p := ⟨b, off + k * 2 + 1, none⟩) hbl]; have := (hc k hkl).2; rw [hx] at this; exact this
          have HAT := Lib.hid (show (R.take (k + 1)).all mayW = mayW (s, r) from by rw [allG_take hkl, HK.out, hx]; rfl)
          have HFS := Lib.hid (show fileA (R.take (k + 1)) = fileA (R.take k) ++ (rowT (s, r) ++ [10]) from by
            rw [List.take_add_one, List.getElem?_eq_getElem hkl, hx]
            exact fileA_snoc _ _)
          have HFL := Lib.hid (show (fileA (R.take k)).length ≤ 2000000 from by
            have h1 := fileA_len HK.out
            rw [List.length_take] at h1; omega)
          obtain ⟨wx, hwx⟩ : ∃ wx, wr.alloc (.cells #[.string (strOf s), .int .i64 r] 40) = wx := ⟨_, rfl⟩
          have hbx : Below wr.heap.size wr wx := by rw [← hwx]; exact (Below.refl _ wr).alloc (Nat.le_refl _) _
          have HX := Lib.hid (show wx.heap[wr.heap.size]? = some (.cells #[.string (strOf s), .int .i64 r] 40 (0, 0)) from by rw [← hwx]; exact heap_alloc_new wr _)
          have HWX := Lib.hid (HW.out.trans (hbx.mono (Nat.le_of_lt HBU.out.lt)))
          have HWWX := Lib.hid (HWW.out.trans (hbx.mono HWW.out.size))
          have HBX := Lib.hid (HBU.out.keep hbx)
          have HQX := Lib.hid hwx
          obtain ⟨y0, y1, -, -⟩ := pair_reads HX.out
          have HGX := Lib.hid (show f < wr.heap.size from HBU.out.lt)
          clear hc hx hbx hwx
          cases hmt : mayT1 s with
          | false =>
            have HNO := Lib.hid (show okM R Q = false from okM_rows (allG_false (k := k + 1) (by rw [HAT.out]; exact mayT1_row hmt)))
            have HMT := Lib.hid hmt
            clear hmt
            go_wp2_with fail
            rw [HQX.out]
            refine (mmay_any s wx).mono ?_
            rw [HMT.out]
            rintro e w' ⟨rfl, hw'⟩
            obtain rfl := hw'.symm
            go_wp2_with fail
            go_ret2
            exact .inr ⟨HNO.out, rfl, HWWX.out⟩
          | true =>
            have HMT := Lib.hid hmt
            clear hmt
            by_cases h0 : r < 0
            · have HNO := Lib.hid (show okM R Q = false from okM_rows (allG_false (k := k + 1) (by rw [HAT.out]; exact mayT1_row3 (.inl h0))))
              have h0' : decide (r < 0) = true := decide_eq_true h0
              go_wp2_with fail
              rw [HQX.out]
              refine (mmay_any s wx).mono ?_
              rw [HMT.out]
              rintro e w' ⟨rfl, hw'⟩
              obtain rfl := hw'.symm
              go_wp2_with fail
              go_ret2
              exact .inr ⟨HNO.out, rfl, HWWX.out⟩
            · have h0' : decide (r < 0) = false := decide_eq_false h0
              by_cases h9 : 9999999 < r
              · have HNO := Lib.hid (show okM R Q = false from okM_rows (allG_false (k := k + 1) (by rw [HAT.out]; exact mayT1_row3 (.inr h9))))
                have h9' : decide (9999999 < r) = true := decide_eq_true h9
                go_wp2_with fail
                rw [HQX.out]
                refine (mmay_any s wx).mono ?_
                rw [HMT.out]
                rintro e w' ⟨rfl, hw'⟩
                obtain rfl := hw'.symm
                go_wp2_with fail
                go_ret2
                exact .inr ⟨HNO.out, rfl, HWWX.out⟩
              · have h9' : decide (9999999 < r) = false := decide_eq_false h9
                have hmw : mayW (s, r) = true := mayT1_row2 HMT.out (by omega) (by omega)
                have HMW := Lib.hid hmw
                have HRB := Lib.hid (show -9223372036854775808 ≤ r ∧ r ≤ 9223372036854775807 from by omega)
                have HRL := Lib.hid (rowT_len hmw)
                have HSL := Lib.hid (show s.length ≤ 64 from (mayT1_yes HMT.out).2)
                clear hmw
                go_wp2_with fail
                rw [HQX.out]
                refine (mmay_any s wx).mono ?_
                rw [HMT.out]
                rintro e w' ⟨rfl, hw'⟩
                obtain rfl := hw'.symm
                go_wp2_with fail
                have y0d : wx.drew.cell? ⟨wr.heap.size, 0, none⟩ = some (.string (strOf s)) := y0
                have y1d : wx.drew.cell? ⟨wr.heap.size, 1, none⟩ = some (.int .i64 r) := y1
                obtain ⟨cA, wA, hcA, htA, hzA, hbA⟩ := run_bytes_new (P := Tryd.prog) wx.drew 9 22 5 (strOf s) Tryd.underlying9 Tryd.underlying22 Tryd.underlying5 (by rw [strOf_size]; unfold maxLen; have := HSL.out; omega)
                have HTA := Lib.hid (show BytesAt wA wA.heap.size (some ⟨wx.heap.size, 0, none⟩) (strOf s).size cA s from by rw [hzA]; exact htA)
                have hlx : wr.heap.size < wx.heap.size := (Array.getElem?_eq_some_iff.1 HX.out).1
                have HXA := Lib.hid ((hbA.block wr.heap.size hlx).trans HX.out)
                obtain ⟨a0, a1, -, -⟩ := pair_reads HXA.out
                have HWA := Lib.hid ((Below.drew HWX.out).trans (hbA.mono (by have := HWX.out.size; have := HBX.out.lt; show f ≤ wx.heap.size; omega)))
                have HBA := Lib.hid (show Buf f (fileA (R.take k)) wA from Buf.keep (w := wx.drew) HBX.out hbA)
                have HZ := Lib.hid (show (strOf s).size ≤ 100000 from by rw [strOf_size]; have := HSL.out; omega)
                have b1 : ¬ 9223372036854775807 < (strOf (Go.Proofs.YtefhifmilmedhaaDoor.wr s)).size + 1 := by rw [strOf_size]; have := HRL.out.1; (try simp only at this); omega
                have b2 : ¬ 9223372036854775807 < (strOf (Go.Proofs.YtefhifmilmedhaaDoor.wr s)).size + 1 + (strOf (Lib.itoa r)).size := by rw [strOf_size, strOf_size]; have := HRL.out; (try simp only at this); omega
                have b3 : ¬ 9223372036854775807 < (strOf (Go.Proofs.YtefhifmilmedhaaDoor.wr s)).size + 1 + (strOf (Lib.itoa r)).size + 1 := by rw [strOf_size, strOf_size]; have := HRL.out; (try simp only at this); omega
                have HLT := Lib.hid (show strOf (rowT (s, r) ++ [10]) = strOf (Go.Proofs.YtefhifmilmedhaaDoor.wr s) ++ ⟨#[32]⟩ ++ strOf (Lib.itoa r) ++ ⟨#[10]⟩ from line_text _ _)
                have HLN := Lib.hid (show (rowT (s, r) ++ [10]).length ≤ 300 from by unfold rowT; have := HRL.out; simp only [List.length_append, List.length_cons, List.length_nil] at *; omega)
                clear htA hzA hbA hlx c1 c2 y0 y1 x0 x1
                go_region_with (first
                  | (go_at_call 50; refine (lwrite_any wA HTA.out HZ.out).mono ?_; rintro e w3 ⟨rfl, hb3⟩; have HX3 := Lib.hid ((hb3.block wr.heap.size (Array.getElem?_eq_some_iff.1 HXA.out).1).trans HXA.out); obtain ⟨d0, d1, -, -⟩ := pair_reads HX3.out; have HW3 := Lib.hid (HWA.out.trans (hb3.mono (Nat.le_of_lt HBA.out.lt))); have HB3 := Lib.hid (HBA.out.keep hb3); have HT3 := Lib.hid (show Tab10 w3 from tab_later HT.out (HW1.out.trans (HW3.out.mono (by have := HF.out; omega)))); clear hb3)
                  | (go_at_call 21; refine (digits_any r HRB.out.1 HRB.out.2 w3 HT3.out).mono ?_; rintro e w4 ⟨rfl, hb4⟩; have HX4 := Lib.hid ((hb4.block wr.heap.size (Array.getElem?_eq_some_iff.1 HX3.out).1).trans HX3.out); obtain ⟨e0, e1, -, -⟩ := pair_reads HX4.out; have HW4 := Lib.hid (HW3.out.trans (hb4.mono (Nat.le_of_lt HB3.out.lt))); have HB4 := Lib.hid (HB3.out.keep hb4); clear hb4)
                  | (go_at_call 41; refine (buf_text (rowT (s, r) ++ [10]) HLT w4 HB4.out (by have := HFL.out; have := HLN.out; omega)).mono ?_; rintro e w5 ⟨rfl, hB5, hb5, hk5⟩; have hgw : f ≠ wr.heap.size := (fun e => by have := HGX.out; omega); have HX5 := Lib.hid (hk5 _ _ HX4.out (fun e => by injection e with e; exact hgw e.symm) (fun c fz e => by injection e with _ e; exact absurd e (by decide))); obtain ⟨f0, f1, -, -⟩ := pair_reads HX5.out; have HB5 := Lib.hid hB5; have HW5 := Lib.hid (HW4.out.trans hb5); clear hB5 hb5 hk5))
                all_goals
                  rw [← HFS.out] at HB5
                  go_wp2_with fail
                  go_roundw
                  case rel => exact ⟨k + 1, by omega, by go_num, HB5, Lib.hid (by rw [HAT.out, HMW.out]), HW5⟩
                  case measure => show n - ((k : Int) + 1).toNat < n - ((k : Int)).toNat; omega
        · have hke : k = n := by omega
          have HBA0 := Lib.hid (show Buf f (fileA R) wr from by have := HBU.out; rw [List.take_of_length_le (by rw [← HL.out]; omega)] at this; exact this)
          have HRA := Lib.hid (show R.all mayW = true from by have := HK.out; rw [List.take_of_length_le (by rw [← HL.out]; omega)] at this; exact this)
          have HRN := Lib.hid (show R.length ≤ 4096 from by rw [← HL.out]; omega)
          have HFL := Lib.hid (show (fileA R).length ≤ 2000000 from by have := fileA_len HRA.out; have := HRN.out; omega)
          have hX1 : strOf (mergesL ++ [10]) = ⟨#[109, 101, 114, 103, 101, 115, 10]⟩ := rfl
          have HX1 := Lib.hid hX1
          have HKE := Lib.hid hke
          have HTW := Lib.hid ((HW.out.block w.heap.size (by have := HF.out; omega)).trans HT1.out)
          clear hX1 hke
          go_wp2_with fail
          refine (buf_text (mergesL ++ [10]) HX1 wr HBA0.out (by have : (mergesL ++ [10]).length = 7 := rfl; have := HFL.out; omega)).mono ?_
          rintro e v2 ⟨rfl, hB2, hb2, hk2⟩
          have HC2 := Lib.hid (show Buf f (fileM R (Q.take 0)) v2 from by rw [show Q.take 0 = [] from rfl, fileM_nil]; exact hB2)
          have HV2 := Lib.hid (HW.out.trans hb2)
          have HTV := Lib.hid ((hb2.block w.heap.size (by have := HF.out; omega)).trans HTW.out)
          obtain ⟨z0, z1, -, -⟩ := pair_reads HTV.out
          clear hB2 hb2 hk2
          go_wp2_with fail
          go_loopw [57] (fun i wr => ∃ k : Nat, k ≤ m ∧ i = .int .i64 k ∧ Hid (Buf f (fileM R (Q.take k)) wr) ∧ Hid ((Q.take k).all mayP = true) ∧ Hid (Below f w1 wr)) (fun i _ => m - (intOf i).toNat)
          case atStart => exact ⟨0, Nat.zero_le _, rfl, HC2, Lib.hid rfl, HV2⟩
          case round =>
            clear HBU HK HW HWW
            obtain ⟨k, hk, rfl, HBU, HK, HW⟩ := hrel
            have HWW := Lib.hid (HW1.out.trans (HW.out.mono (by have := HF.out; omega)))
            by_cases hlt : k < m
            · obtain ⟨b, off, rfl, hbl, hc⟩ := pairs_cells HG.out (by omega)
              have hkl : k < Q.length := by rw [← HM.out]; exact hlt
              obtain ⟨⟨s, r⟩, hx⟩ : ∃ x, Q[k]'hkl = x := ⟨_, rfl⟩
              have c1 : wr.cell? ⟨b, off + k * 2, none⟩ = some (.string (strOf s)) := by rw [HWW.out.cell (p := ⟨b, off + k * 2, none⟩) hbl, (hc k hkl).1, hx]
              have c2 : wr.cell? ⟨b, off + k * 2 + 1, none⟩ = some (.string (strOf r)) := by rw [HWW.out.cell (p := ⟨b, off + k * 2 + 1, none⟩) hbl]; have := (hc k hkl).2; rw [hx] at this; exact this
              have HAT := Lib.hid (show (Q.take (k + 1)).all mayP = mayP (s, r) from by rw [allG_take hkl, HK.out, hx]; rfl)
              have HFS := Lib.hid (show fileM R (Q.take (k + 1)) = fileM R (Q.take k) ++ (pairT (s, r) ++ [10]) from by
                rw [List.take_add_one, List.getElem?_eq_getElem hkl, hx]
                exact fileM_snoc _ _ _)
              have HFM := Lib.hid (show (fileM R (Q.take k)).length ≤ 20000000 from by
                have h1 := fileM_len HRA.out HK.out
                have := HRN.out
                rw [List.length_take] at h1; omega)
              obtain ⟨wx, hwx⟩ : ∃ wx, wr.alloc (.cells #[.string (strOf s), .string (strOf r)] 91) = wx := ⟨_, rfl⟩
              have hbx : Below wr.heap.size wr wx := by rw [← hwx]; exact (Below.refl _ wr).alloc (Nat.le_refl _) _
              have HX := Lib.hid (show wx.heap[wr.heap.size]? = some (.cells #[.string (strOf s), .string (strOf r)] 91 (0, 0)) from by rw [← hwx]; exact heap_alloc_new wr _)
              have HWX := Lib.hid (HW.out.trans (hbx.mono (Nat.le_of_lt HBU.out.lt)))
              have HWWX := Lib.hid (HWW.out.trans (hbx.mono HWW.out.size))
              have HBX := Lib.hid (HBU.out.keep hbx)
              have HQX := Lib.hid hwx
              obtain ⟨y0, y1, -, -⟩ := pair_reads HX.out
              have HGX := Lib.hid (show f < wr.heap.size from HBU.out.lt)
              clear hc hx hbx hwx
              cases hmt : mayT1 s with
              | false =>
                have HNO := Lib.hid (show okM R Q = false from okM_pairs (allG_false (k := k + 1) (by rw [HAT.out]; exact mayP_left hmt)))
                have HMT := Lib.hid hmt
                clear hmt
                go_wp2_with fail
                rw [HQX.out]
                refine (mmay_any s wx).mono ?_
                rw [HMT.out]
                rintro e w' ⟨rfl, hw'⟩
                obtain rfl := hw'.symm
                go_wp2_with fail
                go_ret2
                exact .inr ⟨HNO.out, rfl, HWWX.out⟩
              | true =>
                have HMT := Lib.hid hmt
                clear hmt
                cases hmr : mayT1 r with
                | false =>
                  have HNO := Lib.hid (show okM R Q = false from okM_pairs (allG_false (k := k + 1) (by rw [HAT.out]; exact mayP_right hmr)))
                  have HMR := Lib.hid hmr
                  clear hmr
                  go_wp2_with fail
                  rw [HQX.out]
                  refine (mmay_any s wx).mono ?_
                  rw [HMT.out]
                  rintro e w' ⟨rfl, hw'⟩
                  obtain rfl := hw'.symm
                  go_wp2_with fail
                  refine (mmay_any r wx).mono ?_
                  rw [HMR.out]
                  rintro e w' ⟨rfl, hw'⟩
                  obtain rfl := hw'.symm
                  go_wp2_with fail
                  go_ret2
                  exact .inr ⟨HNO.out, rfl, HWWX.out⟩
                | true =>
                  have HMW := Lib.hid (mayP_yes HMT.out hmr)
                  have HMR := Lib.hid hmr
                  have HRL := Lib.hid (pairT_len HMW.out)
                  have HSL := Lib.hid (show s.length ≤ 64 from (mayT1_yes HMT.out).2)
                  have HSR := Lib.hid (show r.length ≤ 64 from (mayT1_yes hmr).2)
                  clear hmr
                  go_wp2_with fail
                  rw [HQX.out]
                  refine (mmay_any s wx).mono ?_
                  rw [HMT.out]
                  rintro e w' ⟨rfl, hw'⟩
                  obtain rfl := hw'.symm
                  go_wp2_with fail
                  refine (mmay_any r wx).mono ?_
                  rw [HMR.out]
                  rintro e w' ⟨rfl, hw'⟩
                  obtain rfl := hw'.symm
                  go_wp2_with fail
                  have y0d : wx.drew.cell? ⟨wr.heap.size, 0, none⟩ = some (.string (strOf s)) := y0
                  have y1d : wx.drew.cell? ⟨wr.heap.size, 1, none⟩ = some (.string (strOf r)) := y1
                  have hlx : wr.heap.size < wx.heap.size := (Array.getElem?_eq_some_iff.1 HX.out).1
                  have hzs : (strOf s).size ≤ maxLen := by rw [strOf_size]; unfold maxLen; have := HSL.out; omega
                  have hzr : (strOf r).size ≤ maxLen := by rw [strOf_size]; unfold maxLen; have := HSR.out; omega
                  have HMX := Lib.hid hzr
                  obtain ⟨cA, wA, hcA, htA, hzA, hbA⟩ := run_bytes_new (P := Tryd.prog) wx.drew 9 22 5 (strOf s) Tryd.underlying9 Tryd.underlying22 Tryd.underlying5 hzs
                  obtain ⟨cB, wB, hcB, htB, hzB, hbB⟩ := run_bytes_new (P := Tryd.prog) wx.drew 9 22 5 (strOf r) Tryd.underlying9 Tryd.underlying22 Tryd.underlying5 hzr
                  obtain ⟨cAB, wAB, hcAB, htAB, hzAB, hbAB⟩ := run_bytes_new (P := Tryd.prog) wA 9 22 5 (strOf r) Tryd.underlying9 Tryd.underlying22 Tryd.underlying5 hzr
                  obtain ⟨cBA, wBA, hcBA, htBA, hzBA, hbBA⟩ := run_bytes_new (P := Tryd.prog) wB 9 22 5 (strOf s) Tryd.underlying9 Tryd.underlying22 Tryd.underlying5 hzs
                  have HTA := Lib.hid (show BytesAt wA wA.heap.size (some ⟨wx.heap.size, 0, none⟩) (strOf s).size cA s from by rw [hzA]; exact htA)
                  have HTB := Lib.hid (show BytesAt wB wB.heap.size (some ⟨wx.heap.size, 0, none⟩) (strOf r).size cB r from by rw [hzB]; exact htB)
                  have HTAA := Lib.hid (show BytesAt wAB wAB.heap.size (some ⟨wx.heap.size, 0, none⟩) (strOf s).size cA s from RowAt.mono (RowAt.below HTA.out hbAB) hbAB.size)
                  have HTAB := Lib.hid (show BytesAt wAB wAB.heap.size (some ⟨wA.heap.size, 0, none⟩) (strOf r).size cAB r from by rw [hzAB]; exact htAB)
                  have HTBB := Lib.hid (show BytesAt wBA wBA.heap.size (some ⟨wx.heap.size, 0, none⟩) (strOf r).size cB r from RowAt.mono (RowAt.below HTB.out hbBA) hbBA.size)
                  have HTBA := Lib.hid (show BytesAt wBA wBA.heap.size (some ⟨wB.heap.size, 0, none⟩) (strOf s).size cBA s from by rw [hzBA]; exact htBA)
                  have HXA := Lib.hid ((hbA.block wr.heap.size hlx).trans HX.out)
                  have HXB := Lib.hid ((hbB.block wr.heap.size hlx).trans HX.out)
                  have HXAB := Lib.hid ((hbAB.block wr.heap.size (Array.getElem?_eq_some_iff.1 HXA.out).1).trans HXA.out)
                  have HXBA := Lib.hid ((hbBA.block wr.heap.size (Array.getElem?_eq_some_iff.1 HXB.out).1).trans HXB.out)
                  obtain ⟨a0, a1, -, -⟩ := pair_reads HXA.out
                  obtain ⟨a2, a3, -, -⟩ := pair_reads HXB.out
                  obtain ⟨a4, a5, -, -⟩ := pair_reads HXAB.out
                  obtain ⟨a6, a7, -, -⟩ := pair_reads HXBA.out
                  have hfx : f ≤ wx.drew.heap.size := by have := HWX.out.size; have := HBX.out.lt; show f ≤ wx.heap.size; omega
                  have HWA := Lib.hid ((Below.drew HWX.out).trans (hbA.mono hfx))
                  have HWB := Lib.hid ((Below.drew HWX.out).trans (hbB.mono hfx))
                  have HBA := Lib.hid (show Buf f (fileM R (Q.take k)) wA from Buf.keep (w := wx.drew) HBX.out hbA)
                  have HBB := Lib.hid (show Buf f (fileM R (Q.take k)) wB from Buf.keep (w := wx.drew) HBX.out hbB)
                  have HWAB := Lib.hid (HWA.out.trans (hbAB.mono (Nat.le_of_lt HBA.out.lt)))
                  have HWBA := Lib.hid (HWB.out.trans (hbBA.mono (Nat.le_of_lt HBB.out.lt)))
                  have HBAB := Lib.hid (HBA.out.keep hbAB)
                  have HBBA := Lib.hid (HBB.out.keep hbBA)
                  have HZ := Lib.hid (show (strOf s).size ≤ 100000 from by rw [strOf_size]; have := HSL.out; omega)
                  have HZR := Lib.hid (show (strOf r).size ≤ 100000 from by rw [strOf_size]; have := HSR.out; omega)
                  have b1 : ¬ 9223372036854775807 < (strOf (Go.Proofs.YtefhifmilmedhaaDoor.wr s)).size + 1 := by rw [strOf_size]; have := HRL.out.1; (try simp only at this); omega
                  have b2 : ¬ 9223372036854775807 < (strOf (Go.Proofs.YtefhifmilmedhaaDoor.wr s)).size + 1 + (strOf (Go.Proofs.YtefhifmilmedhaaDoor.wr r)).size := by rw [strOf_size, strOf_size]; have := HRL.out; (try simp only at this); omega
                  have b3 : ¬ 9223372036854775807 < (strOf (Go.Proofs.YtefhifmilmedhaaDoor.wr s)).size + 1 + (strOf (Go.Proofs.YtefhifmilmedhaaDoor.wr r)).size + 1 := by rw [strOf_size, strOf_size]; have := HRL.out; (try simp only at this); omega
                  have HLT := Lib.hid (show strOf (pairT (s, r) ++ [10]) = strOf (Go.Proofs.YtefhifmilmedhaaDoor.wr s) ++ ⟨#[32]⟩ ++ strOf (Go.Proofs.YtefhifmilmedhaaDoor.wr r) ++ ⟨#[10]⟩ from line_text _ _)
                  have HLN := Lib.hid (show (pairT (s, r) ++ [10]).length ≤ 600 from by unfold pairT; have := HRL.out; simp only [List.length_append, List.length_cons, List.length_nil] at *; omega)
                  have HGW := Lib.hid (show f ≠ wr.heap.size from fun e => by have := HGX.out; omega)
                  clear htA hzA hbA htB hzB hbB htAB hzAB hbAB htBA hzBA hbBA hlx hzs hzr hfx c1 c2 y0 y1 x0 x1 z0 z1
                  go_region_with (first
                    | (go_at_call 50; (with_reducible refine (lwrite_any wAB HTAA.out HZ.out).mono ?_); rintro e w3 ⟨rfl, hb3⟩; have HX3 := Lib.hid ((hb3.block wr.heap.size (Array.getElem?_eq_some_iff.1 HXAB.out).1).trans HXAB.out); obtain ⟨d0, d1, -, -⟩ := pair_reads HX3.out; have HW3 := Lib.hid (HWAB.out.trans (hb3.mono (Nat.le_of_lt HBAB.out.lt))); have HB3 := Lib.hid (HBAB.out.keep hb3); have HT3 := Lib.hid (show BytesAt w3 w3.heap.size (some ⟨wA.heap.size, 0, none⟩) (strOf r).size cAB r from RowAt.mono (RowAt.below HTAB.out hb3) hb3.size); clear hb3)
                    | (go_at_call 50; (with_reducible refine (lwrite_any wBA HTBA.out HZ.out).mono ?_); rintro e w3 ⟨rfl, hb3⟩; have HX3 := Lib.hid ((hb3.block wr.heap.size (Array.getElem?_eq_some_iff.1 HXBA.out).1).trans HXBA.out); obtain ⟨d0, d1, -, -⟩ := pair_reads HX3.out; have HW3 := Lib.hid (HWBA.out.trans (hb3.mono (Nat.le_of_lt HBBA.out.lt))); have HB3 := Lib.hid (HBBA.out.keep hb3); have HT3 := Lib.hid (show BytesAt w3 w3.heap.size (some ⟨wx.heap.size, 0, none⟩) (strOf r).size cB r from RowAt.mono (RowAt.below HTBB.out hb3) hb3.size); clear hb3)
                    | (go_at_call 50; (with_reducible refine (lwrite_any wA HTA.out HZ.out).mono ?_); rintro e v3 ⟨rfl, hb3⟩; have HXV := Lib.hid ((hb3.block wr.heap.size (Array.getElem?_eq_some_iff.1 HXA.out).1).trans HXA.out); obtain ⟨d0, d1, -, -⟩ := pair_reads HXV.out; have HWV := Lib.hid (HWA.out.trans (hb3.mono (Nat.le_of_lt HBA.out.lt))); have HBV := Lib.hid (HBA.out.keep hb3); obtain ⟨c3, w3, hc3, ht3, hz3, hbb3⟩ := run_bytes_new (P := Tryd.prog) v3 9 22 5 (strOf r) Tryd.underlying9 Tryd.underlying22 Tryd.underlying5 HMX.out; have HT3 := Lib.hid (show BytesAt w3 w3.heap.size (some ⟨v3.heap.size, 0, none⟩) (strOf r).size c3 r from (by rw [hz3]; exact ht3)); have HX3 := Lib.hid ((hbb3.block wr.heap.size (Array.getElem?_eq_some_iff.1 HXV.out).1).trans HXV.out); obtain ⟨d2, d3, -, -⟩ := pair_reads HX3.out; have HW3 := Lib.hid (HWV.out.trans (hbb3.mono (Nat.le_of_lt HBV.out.lt))); have HB3 := Lib.hid (HBV.out.keep hbb3); clear hb3 ht3 hz3 hbb3)
                    | (go_at_call 50; (with_reducible refine (lwrite_any w3 HT3.out HZR.out).mono ?_); rintro e w4 ⟨rfl, hb4⟩; have HX4 := Lib.hid ((hb4.block wr.heap.size (Array.getElem?_eq_some_iff.1 HX3.out).1).trans HX3.out); obtain ⟨e0, e1, -, -⟩ := pair_reads HX4.out; have HW4 := Lib.hid (HW3.out.trans (hb4.mono (Nat.le_of_lt HB3.out.lt))); have HB4 := Lib.hid (HB3.out.keep hb4); clear hb4)
                    | (go_at_call 41; refine (buf_text (pairT (s, r) ++ [10]) HLT w4 HB4.out (by have := HFM.out; have := HLN.out; omega)).mono ?_; rintro e w5 ⟨rfl, hB5, hb5, hk5⟩; have HX5 := Lib.hid (hk5 _ _ HX4.out (fun e => by injection e with e; exact HGW.out e.symm) (fun c fz e => by injection e with _ e; exact absurd e (by decide))); obtain ⟨f0, f1, -, -⟩ := pair_reads HX5.out; have HB5 := Lib.hid hB5; have HW5 := Lib.hid (HW4.out.trans hb5); clear hB5 hb5 hk5))
                  all_goals
                    rw [← HFS.out] at HB5
                    go_wp2_with fail
                    go_roundw
                    case rel => exact ⟨k + 1, by omega, by go_num, HB5, Lib.hid (by rw [HAT.out, HMW.out]), HW5⟩
                    case measure => show m - ((k : Int) + 1).toNat < m - ((k : Int)).toNat; omega
            · have hke : k = m := by omega
              have HYES := Lib.hid (show okM R Q = true from by
                have := HK.out
                rw [List.take_of_length_le (by rw [← HM.out]; omega)] at this
                unfold okM; rw [HRA.out, this, decide_eq_true HRN.out, decide_eq_true (by rw [← HM.out]; omega)]; rfl)
              have HKE2 := Lib.hid hke
              have HBF := Lib.hid (show Buf f (fileM R Q) wr from by have := HBU.out; rw [List.take_of_length_le (by rw [← HM.out]; omega)] at this; exact this)
              clear hke
              go_wp2_with fail
              refine (Tryd.Buffer_Bytes f f (bytesV (fileM R Q)) wr HBF.out).mono ?_
              rintro e w9 ⟨v, rfl, ho, q, rfl⟩
              have HOW := Lib.hid ho
              have HB9 := Lib.hid (below_dw HWW.out q)
              clear ho
              go_wp2_with fail
              go_ret2
              exact .inl ⟨HYES.out, v, rfl, by have := HOW.out; rw [length_bytesV] at this; exact World.ownsRow.mono this (by have := HF.out; omega), HB9.out⟩
/-- merge.Write, told for either answer. -/
theorem mwrite_yes {A A2 : Option Addr} {n c m d z : Nat} {R : RowsI} {Q : PairsL} {F : List UInt8} (w : World) (ht : Tab10 w) (h : RowAt w w.heap.size 2 A n c (rowsI R)) (g : RowAt w w.heap.size 2 A2 m d (pairsV Q)) (ho : Hid (okM R Q = true)) (hF : Hid (fileM R Q = F)) (hz : Hid (F.length = z)) :
    Calls Tryd.prog 32 #[.agg #[.slice A n c, .slice A2 m d]] w fun e w' => ∃ A' c', e = .returned (.tuple #[.slice A' z c', .bool true]) ∧ BytesAt w' w'.heap.size A' z c' F ∧ Below w.heap.size w w' := by
  obtain rfl := hF.out
  obtain rfl := hz.out
  refine (mwrite_any w ht h g).mono ?_
  rintro e w' (⟨_, v, rfl, hw, hbl⟩ | ⟨h1, _, _⟩)
  · obtain ⟨A', c', rfl⟩ := own_form hw
    exact ⟨A', c', rfl, RowAt.of_own hw, hbl⟩
  · rw [ho.out] at h1; cases h1
theorem mwrite_no {A A2 : Option Addr} {n c m d : Nat} {R : RowsI} {Q : PairsL} (w : World) (ht : Tab10 w) (h : RowAt w w.heap.size 2 A n c (rowsI R)) (g : RowAt w w.heap.size 2 A2 m d (pairsV Q)) (ho : Hid (okM R Q = false)) :
    Calls Tryd.prog 32 #[.agg #[.slice A n c, .slice A2 m d]] w fun e w' => e = .returned (.tuple #[.slice none 0 0, .bool false]) ∧ Below w.heap.size w w' := by
  refine (mwrite_any w ht h g).mono ?_
  rintro e w' (⟨h1, _⟩ | ⟨_, h2, h3⟩)
  · rw [ho.out] at h1; cases h1
  · exact ⟨h2, h3⟩
end Go.Proofs.YtefhifmilmedhaaDoor
