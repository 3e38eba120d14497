/- The walks of the document's Write and Great of tables. -/
import Derived.Test.YtefhifmilmedhaaDoorRankRMay
import Derived.Test.YtefhifmilmedhaaDoorLineRDig
import Derived.Test.YtefhifmilmedhaaDoorMergeMay
import Derived.Test.YtefhifmilmedhaaDoorLetRef
import Derived.Test.YtefhifmilmedhaaDoorMergeSame
import Derived.Deep.RegionHeld3
namespace Go.Proofs.YtefhifmilmedhaaDoor
open Go.RowKit
set_option linter.unusedVariables false
theorem line_textR (F E D : List UInt8) : Value.string (strOf F ++ strOf E ++ ⟨#[32]⟩ ++ strOf D ++ ⟨#[10]⟩) = .string (strOf (F ++ (E ++ 32 :: D ++ [10]))) := by
  congr 1
  apply ByteArray.ext
  simp [strOf]
theorem head_textR : Value.string ⟨#[118, 111, 99, 97, 98, 10]⟩ = .string (strOf (fileA [])) := rfl
theorem mid_textR (F : List UInt8) : Value.string (strOf F ++ ⟨#[109, 101, 114, 103, 101, 115, 10]⟩) = .string (strOf (F ++ (mergesL ++ [10]))) := by
  congr 1
/-- What the document's Write answers. -/
def mwrR (R : RowsI) (Q : PairsL) : Ending := .returned (.tuple #[.string (strOf (if okM R Q = true then fileM R Q else [])), .bool (okM R Q)])
theorem mwrR_no {R : RowsI} {Q : PairsL} (h : okM R Q = false) : mwrR R Q = .returned (.tuple #[.string ⟨#[]⟩, .bool false]) := by unfold mwrR; rw [h]; rfl
theorem mwrR_yes {R : RowsI} {Q : PairsL} (h : okM R Q = true) : mwrR R Q = .returned (.tuple #[.string (strOf (fileM R Q)), .bool true]) := by unfold mwrR; rw [h, if_pos rfl]
theorem lrwrite_str (a : List UInt8) (w : World) (h : a.length ≤ 100000) :
    Calls Tryd.prog 51 #[.string (strOf a)] w fun e w' => e = .returned (.string (strOf (wr a))) ∧ Below w.heap.size w w' := by
  have := lrwrite_any (strOf a) w (by rw [strOf_size]; exact h)
  exact this
set_option maxRecDepth 100000 in
set_option maxHeartbeats 4000000 in
theorem rmwrite_any {A A2 : Option Addr} {n c m d : Nat} {R : RowsI} {Q : PairsL} (w : World) (h : RowAt w w.heap.size 2 A n c (rowsI R)) (g : RowAt w w.heap.size 2 A2 m d (pairsV Q)) (hr : ∀ x ∈ R, x.1.length ≤ 1000000) (hq : ∀ x ∈ Q, x.1.length ≤ 1000000 ∧ x.2.length ≤ 1000000) :
    Calls Tryd.prog 33 #[.agg #[.slice A n c, .slice A2 m d]] w fun e w' => e = mwrR R Q ∧ Below w.heap.size w w' := by
  have hcap := h.2.2.1
  have hcn := h.2.1
  unfold maxLen at hcap
  have hcap2 := g.2.2.1
  have hcn2 := g.2.1
  unfold maxLen at hcap2
  have HH := Lib.hid h
  have HL := Lib.hid (rows_len h)
  have HG := Lib.hid g
  have HM := Lib.hid (pairs_len g)
  have HR := Lib.hid hr
  have HQ := Lib.hid hq
  clear h g hr hq
  have HB0 := Lib.hid (show Below w.heap.size w (w.alloc (.cells #[.slice A n c, .slice A2 m d] 59)) from (Below.refl _ w).alloc (Nat.le_refl _) _)
  by_cases hbig : 4096 < n
  · have hb' : decide ((4096 : Int) < (n : Int)) = true := decide_eq_true (by omega)
    have HNO := Lib.hid (show okM R Q = false from by unfold okM; rw [decide_eq_false (by rw [← HL.out]; omega)]; rfl)
    go_enter Tryd.func33, Tryd.ntmps33
    go_wp2_with fail
    go_ret2
    exact ⟨by rw [mwrR_no HNO.out]; rfl, HB0.out⟩
  · have hb1 : decide ((4096 : Int) < (n : Int)) = false := decide_eq_false (by omega)
    by_cases hbig2 : 16384 < m
    · have hb' : decide ((16384 : Int) < (m : Int)) = true := decide_eq_true (by omega)
      have HNO := Lib.hid (show okM R Q = false from by unfold okM; rw [decide_eq_false (p := Q.length ≤ 16384) (by rw [← HM.out]; omega)]; simp)
      go_enter Tryd.func33, Tryd.ntmps33
      go_wp2_with fail
      go_ret2
      exact ⟨by rw [mwrR_no HNO.out]; rfl, HB0.out⟩
    · have hb2 : decide ((16384 : Int) < (m : Int)) = false := decide_eq_false (by omega)
      obtain ⟨w0, hw0⟩ : ∃ w0, w.alloc (.cells #[.slice A n c, .slice A2 m d] 59) = w0 := ⟨_, rfl⟩
      rw [hw0] at HB0
      have HT0 := Lib.hid (show w0.heap[w.heap.size]? = some (.cells #[.slice A n c, .slice A2 m d] 59 (0, 0)) from by rw [← hw0]; exact heap_alloc_new w _)
      have HQ0 := Lib.hid hw0
      clear hw0
      go_enter Tryd.func33, Tryd.ntmps33
      go_wp2_with fail
      go_loopw [4, 20] (fun v i wr => ∃ (k : Nat) (F : List UInt8), v = .string (strOf F) ∧ i = .int .i64 k ∧ k ≤ n ∧ Hid (F = fileA (R.take k)) ∧ Hid ((R.take k).all mayW = true) ∧ Hid (Below w0.heap.size w0 wr)) (fun _ i _ => n - (intOf i).toNat)
      case atStart => exact ⟨0, fileA [], by rw [← head_textR], rfl, Nat.zero_le _, Lib.hid rfl, Lib.hid rfl, Lib.hid (by rw [HQ0.out]; exact Below.refl _ _)⟩
      case round =>
        obtain ⟨k, F, rfl, rfl, hk, HF, HK, HW⟩ := hrel
        have HTW := Lib.hid ((HW.out.block w.heap.size (Array.getElem?_eq_some_iff.1 HT0.out).1).trans HT0.out)
        obtain ⟨x0, x1, -, -⟩ := pair_reads HTW.out
        have HWW := Lib.hid (HB0.out.trans (HW.out.mono HB0.out.size))
        by_cases hlt : k < n
        · obtain ⟨b, off, rfl, hbl, hc⟩ := rows_cells HH.out (by omega)
          have hkl : k < R.length := by rw [← HL.out]; exact hlt
          obtain ⟨⟨s, r⟩, hx⟩ : ∃ x, R[k]'hkl = x := ⟨_, rfl⟩
          have c1 : wr.cell? ⟨b, off + k * 2, none⟩ = some (.string (strOf s)) := by rw [HWW.out.cell (p := ⟨b, off + k * 2, none⟩) hbl, (hc k hkl).1, hx]
          have c2 : wr.cell? ⟨b, off + k * 2 + 1, none⟩ = some (.int .i64 r) := by rw [HWW.out.cell (p := ⟨b, off + k * 2 + 1, none⟩) hbl]; have := (hc k hkl).2; rw [hx] at this; exact this
          have HSL := Lib.hid (show s.length ≤ 1000000 from by have := HR.out (R[k]'hkl) (List.getElem_mem _); rw [hx] at this; exact this)
          have HAT := Lib.hid (show (R.take (k + 1)).all mayW = mayW (s, r) from by rw [allG_take hkl, HK.out, hx]; rfl)
          have HFS := Lib.hid (show fileA (R.take (k + 1)) = F ++ (rowT (s, r) ++ [10]) from by
            rw [HF.out, List.take_add_one, List.getElem?_eq_getElem hkl, hx]
            exact fileA_snoc _ _)
          have HC1 := Lib.hid c1
          have HC2 := Lib.hid c2
          have HBL := Lib.hid hbl
          clear hc hx
          cases hm : mayW (s, r) with
          | false =>
            have HMF := Lib.hid hm
            have HNO := Lib.hid (show okM R Q = false from okM_rows (allG_false (k := k + 1) (by rw [HAT.out, hm])))
            clear hm
            go_wp2_with fail
            refine (rmayRow_any s r wr HMF HSL.out).mono ?_
            rintro e w2 ⟨rfl, hb2⟩
            have HW2 := Lib.hid (HWW.out.trans (hb2.mono HWW.out.size))
            clear hb2
            go_wp2_with fail
            go_ret2
            exact ⟨by rw [mwrR_no HNO.out]; rfl, HW2.out⟩
          | true =>
            have HMT := Lib.hid hm
            have HMW := Lib.hid (mayW_yes hm)
            have HRL := Lib.hid (rowT_len hm)
            have HFL := Lib.hid (show F.length ≤ 2000000 from by
              have h1 := fileA_len HK.out
              rw [← HF.out, List.length_take] at h1; omega)
            clear hm
            go_wp2_with fail
            refine (rmayRow_any s r wr HMT HSL.out).mono ?_
            rintro e w2 ⟨rfl, hb2⟩
            have HW2 := Lib.hid (HW.out.trans (hb2.mono HW.out.size))
            have hltb : b < wr.heap.size := by have := HWW.out.size; have := HBL.out; omega
            have k1 : w2.cell? ⟨b, off + k * 2, none⟩ = some (.string (strOf s)) := (hb2.cell (p := ⟨b, off + k * 2, none⟩) hltb).trans HC1.out
            have k2 : w2.cell? ⟨b, off + k * 2 + 1, none⟩ = some (.int .i64 r) := (hb2.cell (p := ⟨b, off + k * 2 + 1, none⟩) hltb).trans HC2.out
            have HTW2 := Lib.hid ((hb2.block w.heap.size (Array.getElem?_eq_some_iff.1 HTW.out).1).trans HTW.out)
            obtain ⟨y0, y1, -, -⟩ := pair_reads HTW2.out
            have b1 : ¬ 9223372036854775807 < (strOf F).size + (strOf (Go.Proofs.YtefhifmilmedhaaDoor.wr s)).size := by rw [strOf_size, strOf_size]; have := HFL.out; have := HRL.out.1; (try simp only at *); omega
            have b2 : ¬ 9223372036854775807 < (strOf F).size + (strOf (Go.Proofs.YtefhifmilmedhaaDoor.wr s)).size + 1 := by rw [strOf_size, strOf_size]; have := HFL.out; have := HRL.out.1; (try simp only at *); omega
            have b3 : ¬ 9223372036854775807 < (strOf F).size + (strOf (Go.Proofs.YtefhifmilmedhaaDoor.wr s)).size + 1 + (strOf (Lib.itoa r)).size := by rw [strOf_size, strOf_size, strOf_size]; have := HFL.out; have := HRL.out; (try simp only at *); omega
            have b4 : ¬ 9223372036854775807 < (strOf F).size + (strOf (Go.Proofs.YtefhifmilmedhaaDoor.wr s)).size + 1 + (strOf (Lib.itoa r)).size + 1 := by rw [strOf_size, strOf_size, strOf_size]; have := HFL.out; have := HRL.out; (try simp only at *); omega
            have HRB := Lib.hid (show -9223372036854775808 ≤ r ∧ r ≤ 9223372036854775807 from by have := HMW.out; (try simp only at this); omega)
            have HS64 := Lib.hid (show s.length ≤ 100000 from by have := HMW.out; (try simp only at this); omega)
            have HLB2 := Lib.hid (show b < w2.heap.size from by have := hb2.size; omega)
            clear hb2 c1 c2 hltb x0 x1
            go_wp2_with fail
            have z0 : w2.drew.cell? ⟨w.heap.size, 0, none⟩ = some (.slice (some ⟨b, off, none⟩) n c) := y0
            have z1 : w2.drew.cell? ⟨b, off + k * 2, none⟩ = some (.string (strOf s)) := k1
            have z2 : w2.drew.cell? ⟨b, off + k * 2 + 1, none⟩ = some (.int .i64 r) := k2
            go_region_held3 (fun w' => w'.cell? ⟨w.heap.size, 0, none⟩ = some (.slice (some ⟨b, off, none⟩) n c) ∧ w'.cell? ⟨b, off + k * 2, none⟩ = some (.string (strOf s)) ∧ w'.cell? ⟨b, off + k * 2 + 1, none⟩ = some (.int .i64 r)) (first | (exact ⟨by assumption, by assumption, by assumption⟩) | go_keep) (first
              | (go_at_call 51; refine (lrwrite_str s w2.drew HS64.out).mono ?_; rintro e w3 ⟨rfl, hb3⟩; have HW3 := Lib.hid ((Below.drew HW2.out).trans (hb3.mono HW2.out.size)); have HTW3 := Lib.hid ((hb3.block w.heap.size (Array.getElem?_eq_some_iff.1 HTW2.out).1).trans HTW2.out); obtain ⟨u0, u1, -, -⟩ := pair_reads HTW3.out; have u2 := (hb3.cell (p := ⟨b, off + k * 2, none⟩) HLB2.out).trans z1; have u3 := (hb3.cell (p := ⟨b, off + k * 2 + 1, none⟩) HLB2.out).trans z2; clear hb3)
              | (go_at_call 22; refine (rDigits_any r HRB.out.1 HRB.out.2 w3).mono ?_; rintro e w4 ⟨rfl, hw4⟩; obtain rfl := hw4.symm))
            go_wp2_with fail
            go_roundw
            case rel => exact ⟨k + 1, fileA (R.take (k + 1)), by rw [HFS.out]; exact line_textR _ _ _, by go_num, by omega, Lib.hid rfl, Lib.hid (by rw [HAT.out, HMT.out]), HW3⟩
            case measure => show n - ((k : Int) + 1).toNat < n - ((k : Int)).toNat; omega
        · have hke : k = n := by omega
          have HRA := Lib.hid (show R.all mayW = true from by have := HK.out; rw [List.take_of_length_le (by rw [← HL.out]; omega)] at this; exact this)
          have HRN := Lib.hid (show R.length ≤ 4096 from by rw [← HL.out]; omega)
          have HFA := Lib.hid (show F = fileA R from by have := HF.out; rw [List.take_of_length_le (by rw [← HL.out]; omega)] at this; exact this)
          have hFL : F.length ≤ 2000000 := by have := fileA_len HRA.out; have := HRN.out; rw [HFA.out]; omega
          have HKE := Lib.hid hke
          have b0 : ¬ 9223372036854775807 < (strOf F).size + 7 := by rw [strOf_size]; omega
          clear hke hFL
          go_wp2_with fail
          go_loopw [4, 55] (fun v i wr => ∃ (k : Nat) (F : List UInt8), v = .string (strOf F) ∧ i = .int .i64 k ∧ k ≤ m ∧ Hid (F = fileM R (Q.take k)) ∧ Hid ((Q.take k).all mayP = true) ∧ Hid (Below w0.heap.size w0 wr)) (fun _ i _ => m - (intOf i).toNat)
          case atStart => exact ⟨0, F ++ (mergesL ++ [10]), by rw [← mid_textR], rfl, Nat.zero_le _, Lib.hid (by rw [HFA.out, show Q.take 0 = [] from rfl, fileM_nil]), Lib.hid rfl, HW⟩
          case round =>
            clear HF HK HW HWW HTW HFA HKE b0 x0 x1
            obtain ⟨k, F, rfl, rfl, hk, HF, HK, HW⟩ := hrel
            have HTW := Lib.hid ((HW.out.block w.heap.size (Array.getElem?_eq_some_iff.1 HT0.out).1).trans HT0.out)
            obtain ⟨x0, x1, -, -⟩ := pair_reads HTW.out
            have HWW := Lib.hid (HB0.out.trans (HW.out.mono HB0.out.size))
            by_cases hlt : k < m
            · obtain ⟨b, off, rfl, hbl, hc⟩ := pairs_cells HG.out (by omega)
              have hkl : k < Q.length := by rw [← HM.out]; exact hlt
              obtain ⟨⟨s, r⟩, hx⟩ : ∃ x, Q[k]'hkl = x := ⟨_, rfl⟩
              have c1 : wr.cell? ⟨b, off + k * 2, none⟩ = some (.string (strOf s)) := by rw [HWW.out.cell (p := ⟨b, off + k * 2, none⟩) hbl, (hc k hkl).1, hx]
              have c2 : wr.cell? ⟨b, off + k * 2 + 1, none⟩ = some (.string (strOf r)) := by rw [HWW.out.cell (p := ⟨b, off + k * 2 + 1, none⟩) hbl]; have := (hc k hkl).2; rw [hx] at this; exact this
              have HAT := Lib.hid (show (Q.take (k + 1)).all mayP = mayP (s, r) from by rw [allG_take hkl, HK.out, hx]; rfl)
              have HFS := Lib.hid (show fileM R (Q.take (k + 1)) = F ++ (pairT (s, r) ++ [10]) from by
                rw [HF.out, List.take_add_one, List.getElem?_eq_getElem hkl, hx]
                exact fileM_snoc _ _ _)
              have HBL := Lib.hid hbl
              clear hc hx
              cases hm : mayT1 s with
              | false =>
                have HMF := Lib.hid hm
                have HNO := Lib.hid (show okM R Q = false from okM_pairs (allG_false (k := k + 1) (by rw [HAT.out]; exact mayP_left hm)))
                clear hm
                go_wp2_with fail
                refine (rpart_any s wr).mono ?_
                rw [HMF.out]
                rintro e w2 ⟨rfl, hw'⟩
                obtain rfl := hw'.symm
                go_wp2_with fail
                go_ret2
                exact ⟨by rw [mwrR_no HNO.out]; rfl, HWW.out⟩
              | true =>
                have HMT := Lib.hid hm
                clear hm
                cases hmr : mayT1 r with
                | false =>
                  have HMF := Lib.hid hmr
                  have HNO := Lib.hid (show okM R Q = false from okM_pairs (allG_false (k := k + 1) (by rw [HAT.out]; exact mayP_right hmr)))
                  clear hmr
                  go_wp2_with fail
                  refine (rpart_any s wr).mono ?_
                  rw [HMT.out]
                  rintro e w2 ⟨rfl, hw'⟩
                  obtain rfl := hw'.symm
                  go_wp2_with fail
                  refine (rpart_any r wr).mono ?_
                  rw [HMF.out]
                  rintro e w2 ⟨rfl, hw'⟩
                  obtain rfl := hw'.symm
                  go_wp2_with fail
                  go_ret2
                  exact ⟨by rw [mwrR_no HNO.out]; rfl, HWW.out⟩
                | true =>
                  have HMR := Lib.hid hmr
                  have HMP := Lib.hid (mayP_yes HMT.out hmr)
                  have HRL := Lib.hid (pairT_len HMP.out)
                  have HFL := Lib.hid (show F.length ≤ 20000000 from by
                    have h1 := fileM_len HRA.out HK.out
                    have := HRN.out
                    rw [← HF.out, List.length_take] at h1; omega)
                  have HS64 := Lib.hid (show s.length ≤ 100000 from by have := mayT1_yes HMT.out; omega)
                  have HR64 := Lib.hid (show r.length ≤ 100000 from by have := mayT1_yes HMR.out; omega)
                  clear hmr
                  go_wp2_with fail
                  refine (rpart_any s wr).mono ?_
                  rw [HMT.out]
                  rintro e w2 ⟨rfl, hw'⟩
                  obtain rfl := hw'.symm
                  go_wp2_with fail
                  refine (rpart_any r wr).mono ?_
                  rw [HMR.out]
                  rintro e w2 ⟨rfl, hw'⟩
                  obtain rfl := hw'.symm
                  have b1 : ¬ 9223372036854775807 < (strOf F).size + (strOf (Go.Proofs.YtefhifmilmedhaaDoor.wr s)).size := by rw [strOf_size, strOf_size]; have := HFL.out; have := HRL.out.1; (try simp only at *); omega
                  have b2 : ¬ 9223372036854775807 < (strOf F).size + (strOf (Go.Proofs.YtefhifmilmedhaaDoor.wr s)).size + 1 := by rw [strOf_size, strOf_size]; have := HFL.out; have := HRL.out.1; (try simp only at *); omega
                  have b3 : ¬ 9223372036854775807 < (strOf F).size + (strOf (Go.Proofs.YtefhifmilmedhaaDoor.wr s)).size + 1 + (strOf (Go.Proofs.YtefhifmilmedhaaDoor.wr r)).size := by rw [strOf_size, strOf_size, strOf_size]; have := HFL.out; have := HRL.out; (try simp only at *); omega
                  have b4 : ¬ 9223372036854775807 < (strOf F).size + (strOf (Go.Proofs.YtefhifmilmedhaaDoor.wr s)).size + 1 + (strOf (Go.Proofs.YtefhifmilmedhaaDoor.wr r)).size + 1 := by rw [strOf_size, strOf_size, strOf_size]; have := HFL.out; have := HRL.out; (try simp only at *); omega
                  have HLB2 := Lib.hid (show b < wr.heap.size from by have := HWW.out.size; have := HBL.out; omega)
                  go_wp2_with fail
                  have z0 : wr.drew.cell? ⟨w.heap.size, 1, none⟩ = some (.slice (some ⟨b, off, none⟩) m d) := x1
                  have z1 : wr.drew.cell? ⟨b, off + k * 2, none⟩ = some (.string (strOf s)) := c1
                  have z2 : wr.drew.cell? ⟨b, off + k * 2 + 1, none⟩ = some (.string (strOf r)) := c2
                  clear c1 c2 x0 x1
                  go_region_held3 (fun w' => w'.cell? ⟨w.heap.size, 1, none⟩ = some (.slice (some ⟨b, off, none⟩) m d) ∧ w'.cell? ⟨b, off + k * 2, none⟩ = some (.string (strOf s)) ∧ w'.cell? ⟨b, off + k * 2 + 1, none⟩ = some (.string (strOf r))) (first | (exact ⟨by assumption, by assumption, by assumption⟩) | go_keep) (first
                    | (go_at_call 51; (with_reducible refine (lrwrite_str s wr.drew HS64.out).mono ?_); rintro e w3 ⟨rfl, hb3⟩; have HW3 := Lib.hid ((Below.drew HW.out).trans (hb3.mono HW.out.size)); have HTW3 := Lib.hid ((hb3.block w.heap.size (Array.getElem?_eq_some_iff.1 HTW.out).1).trans HTW.out); obtain ⟨u0, u1, -, -⟩ := pair_reads HTW3.out; have u2 := (hb3.cell (p := ⟨b, off + k * 2, none⟩) HLB2.out).trans z1; have u3 := (hb3.cell (p := ⟨b, off + k * 2 + 1, none⟩) HLB2.out).trans z2; have HLB3 := Lib.hid (Nat.lt_of_lt_of_le HLB2.out hb3.size); clear hb3)
                    | (go_at_call 51; (with_reducible refine (lrwrite_str r w3 HR64.out).mono ?_); rintro e w4 ⟨rfl, hb4⟩; have HW4 := Lib.hid (HW3.out.trans (hb4.mono HW3.out.size)); have HTW4 := Lib.hid ((hb4.block w.heap.size (Array.getElem?_eq_some_iff.1 HTW3.out).1).trans HTW3.out); obtain ⟨t0, t1, -, -⟩ := pair_reads HTW4.out; have t2 := (hb4.cell (p := ⟨b, off + k * 2, none⟩) HLB3.out).trans u2; have t3 := (hb4.cell (p := ⟨b, off + k * 2 + 1, none⟩) HLB3.out).trans u3; clear hb4))
                  go_wp2_with fail
                  go_roundw
                  case rel => exact ⟨k + 1, fileM R (Q.take (k + 1)), by rw [HFS.out]; exact line_textR _ _ _, by go_num, by omega, Lib.hid rfl, Lib.hid (by rw [HAT.out, HMP.out]), HW4⟩
                  case measure => show m - ((k : Int) + 1).toNat < m - ((k : Int)).toNat; omega
            · have hke : k = m := by omega
              have HKE := Lib.hid hke
              have HYES := Lib.hid (show okM R Q = true from by
                have := HK.out
                rw [List.take_of_length_le (by rw [← HM.out]; omega)] at this
                unfold okM; rw [HRA.out, this, decide_eq_true HRN.out, decide_eq_true (by rw [← HM.out]; omega)]; rfl)
              have HFF := Lib.hid (show F = fileM R Q from by rw [HF.out, List.take_of_length_le (by rw [← HM.out]; omega)])
              clear hke
              go_wp2_with fail
              go_ret2
              exact ⟨by rw [mwrR_yes HYES.out, ← HFF.out]; rfl, HWW.out⟩
end Go.Proofs.YtefhifmilmedhaaDoor
