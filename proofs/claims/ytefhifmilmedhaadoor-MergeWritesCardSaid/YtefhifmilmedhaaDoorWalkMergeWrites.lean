/- The walk of MergeWrites: true for every input. -/
import Derived.Test.YtefhifmilmedhaaDoorMergeFixed
import Derived.Test.YtefhifmilmedhaaDoorMergeWrite
import Derived.Test.YtefhifmilmedhaaDoorMergeRWrite
import Derived.Test.YtefhifmilmedhaaDoorMergeGreat
namespace Go.Proofs.YtefhifmilmedhaaDoor
open Go.RowKit
set_option linter.unusedVariables false

theorem back_rowsM {R : RowsI} (h : R.all mayW = true) : (R.map natW).map intRow = R := nats_back h
set_option maxRecDepth 100000 in
set_option maxHeartbeats 4000000 in
theorem walkMergeWrites (w : World) (ht : Tab10 w) {A A2 : Option Addr} {n c m d : Nat} {R : List (List UInt8 × Int)} {Q : PairsL} (h : RowAt w w.heap.size 2 A n c (rowsI R)) (g : RowAt w w.heap.size 2 A2 m d (pairsV Q)) :
    Calls Tryd.prog 10 #[.agg #[.slice A n c, .slice A2 m d]] w fun e w' => e = .returned (.bool true) ∧ Below w.heap.size w w' := by
  have HH := Lib.hid h
  have HL := Lib.hid (rows_len h)
  have HG := Lib.hid g
  have HM := Lib.hid (pairs_len g)
  have HT := Lib.hid ht
  clear h g ht
  obtain ⟨w0, hw0⟩ : ∃ w0, w.alloc (.cells #[.slice A n c, .slice A2 m d] 59) = w0 := ⟨_, rfl⟩
  have HB0 := Lib.hid (show Below w.heap.size w w0 from by rw [← hw0]; exact (Below.refl _ w).alloc (Nat.le_refl _) _)
  have HT0 := Lib.hid (show w0.heap[w.heap.size]? = some (.cells #[.slice A n c, .slice A2 m d] 59 (0, 0)) from by rw [← hw0]; exact heap_alloc_new w _)
  have HQ0 := Lib.hid hw0
  have HTB := Lib.hid (show ∀ W, Below w0.heap.size w0 W → W.heap[w.heap.size]? = some (.cells #[.slice A n c, .slice A2 m d] 59 (0, 0)) from fun W h => (h.block _ (Array.getElem?_eq_some_iff.1 HT0.out).1).trans HT0.out)
  have HR0 := Lib.hid (show ∀ W, Below w0.heap.size w0 W → RowAt W W.heap.size 2 A n c (rowsI R) from fun W h => RowAt.mono (RowAt.below HH.out (HB0.out.trans (h.mono HB0.out.size))) (HB0.out.trans (h.mono HB0.out.size)).size)
  have HP0 := Lib.hid (show ∀ W, Below w0.heap.size w0 W → RowAt W W.heap.size 2 A2 m d (pairsV Q) from fun W h => RowAt.mono (RowAt.below HG.out (HB0.out.trans (h.mono HB0.out.size))) (HB0.out.trans (h.mono HB0.out.size)).size)
  have HTT := Lib.hid (show ∀ W, Below w0.heap.size w0 W → Tab10 W from fun W h => tab_later HT.out (HB0.out.trans (h.mono HB0.out.size)))
  have HEND := Lib.hid (show ∀ W, Below w0.heap.size w0 W → Below w.heap.size w W from fun W h => HB0.out.trans (h.mono HB0.out.size))
  clear hw0
  go_enter Tryd.func10, Tryd.ntmps10
  go_wp2_with fail
  rw [HQ0.out]
  refine (rgreat_any 20 70 w0 (HR0.out _ (Below.refl _ _)) (HP0.out _ (Below.refl _ _))).mono ?_
  rintro e w1 ⟨o, rfl, hf, hb1⟩
  obtain ⟨x0, x1, -, -⟩ := pair_reads (HTB.out _ hb1)
  have HW1 := Lib.hid hb1
  have HF := Lib.hid hf
  clear hb1 hf
  cases o with
  | true =>
    go_wp2_with fail
    refine (fixed08 w1).mono ?_
    rintro e w2 ⟨rfl, hb2⟩
    have HW2 := Lib.hid (HW1.out.trans (hb2.mono HW1.out.size))
    go_wp2_with fail
    go_ret
    exact ⟨rfl, HEND.out _ HW2.out⟩
  | false =>
    have HFEW := Lib.hid (HF.out rfl)
    have HRB := Lib.hid (show ∀ x ∈ R, x.1.length ≤ 1000000 from fun x hx => by have := HFEW.out.2.2.1 x hx; omega)
    have HQB := Lib.hid (show ∀ x ∈ Q, x.1.length ≤ 1000000 ∧ x.2.length ≤ 1000000 from fun x hx => by have := HFEW.out.2.2.2 x hx; omega)
    clear HF
    cases ho : okM R Q with
    | false =>
      have HO := Lib.hid ho
      clear ho
      go_wp2_with fail
      refine (mwrite_no w1 (HTT.out _ HW1.out) (HR0.out _ HW1.out) (HP0.out _ HW1.out) HO).mono ?_
      rintro e w2 ⟨rfl, hb2⟩
      have HW2 := Lib.hid (HW1.out.trans (hb2.mono HW1.out.size))
      obtain ⟨y0, y1, -, -⟩ := pair_reads (HTB.out _ HW2.out)
      clear hb2
      go_wp2_with fail
      refine (rmwrite_any w2 (HR0.out _ HW2.out) (HP0.out _ HW2.out) HRB.out HQB.out).mono ?_
      rw [mwrR_no HO.out]
      rintro e w3 ⟨rfl, hb3⟩
      have HW3 := Lib.hid (HW2.out.trans (hb3.mono HW2.out.size))
      have HNB := Lib.hid (show BytesAt w3 w3.heap.size none 0 0 [] from RowAt.nil)
      have hcv := run_string_bytes (P := Tryd.prog) 22 9 5 Tryd.underlying22 Tryd.underlying5 Tryd.underlying9 HNB.out
      have hse : strOf [] = ⟨#[]⟩ := rfl
      rw [hse] at hcv
      clear hb3 hse
      go_wp2_with fail
      refine (fixed08 w3).mono ?_
      rintro e w4 ⟨rfl, hb4⟩
      have HW4 := Lib.hid (HW3.out.trans (hb4.mono HW3.out.size))
      clear hb4
      go_wp2_with fail
      go_ret
      exact ⟨rfl, HEND.out _ HW4.out⟩
    | true =>
      have HO := Lib.hid ho
      have HOY := Lib.hid (okM_yes ho)
      obtain ⟨F, hF⟩ : ∃ F, fileM R Q = F := ⟨_, rfl⟩
      obtain ⟨z, hz⟩ : ∃ z, F.length = z := ⟨_, rfl⟩
      have HF := Lib.hid hF
      have HZ := Lib.hid hz
      have hzl : z ≤ 99999 := by
        have := fileM_len HOY.out.2.2.1 HOY.out.2.2.2
        have h1 := HFEW.out.1
        have h2 := HFEW.out.2.1
        rw [hF, hz] at this; omega
      have HRD := Lib.hid (show mergeL F = (R.map natW, Q, 0, 0) from by rw [← hF]; exact merge_read ho)
      have HNL := Lib.hid (show (R.map natW).length = n from by rw [List.length_map, ← HL.out])
      have HBK := Lib.hid (back_rowsM HOY.out.2.2.1)
      clear ho hF hz
      go_wp2_with fail
      refine (mwrite_yes w1 (HTT.out _ HW1.out) (HR0.out _ HW1.out) (HP0.out _ HW1.out) HO HF HZ).mono ?_
      rintro e w2 ⟨A3, c3, rfl, hbt, hb2⟩
      have HBT := Lib.hid hbt
      have HW2 := Lib.hid (HW1.out.trans (hb2.mono HW1.out.size))
      obtain ⟨y0, y1, -, -⟩ := pair_reads (HTB.out _ HW2.out)
      clear hbt hb2
      go_wp2_with fail
      refine (rmwrite_any w2 (HR0.out _ HW2.out) (HP0.out _ HW2.out) HRB.out HQB.out).mono ?_
      rw [mwrR_yes HO.out, HF.out]
      rintro e w3 ⟨rfl, hb3⟩
      have HW3 := Lib.hid (HW2.out.trans (hb3.mono HW2.out.size))
      have HBT3 := Lib.hid (show BytesAt w3 w3.heap.size A3 z c3 F from RowAt.mono (RowAt.below HBT.out hb3) hb3.size)
      have hcv := run_string_bytes (P := Tryd.prog) 22 9 5 Tryd.underlying22 Tryd.underlying5 Tryd.underlying9 HBT3.out
      clear hb3
      go_wp2_with fail
      refine (mread_as w3 HBT3.out hzl HRD.out HNL.out HM.out.symm).mono ?_
      rintro e w4 ⟨A4, c4, A5, c5, rfl, hr4, hp4, hb4⟩
      rw [HBK.out] at hr4
      have HR4 := Lib.hid hr4
      have HP4 := Lib.hid hp4
      have HW4 := Lib.hid (HW3.out.trans (hb4.mono HW3.out.size))
      clear hr4 hp4 hb4 hcv
      go_wp2_with fail
      obtain ⟨X1, hX1⟩ : ∃ X1, X1 = (w4.alloc (.cells #[.slice A4 n c4, .slice A5 m c5] 59)).alloc (.cells #[.int .i64 0, .int .i64 0] 47) := ⟨_, rfl⟩
      have C1 : Below w4.heap.size w4 X1 := by rw [hX1]; exact ((Below.refl _ w4).alloc (Nat.le_refl _) _).alloc (by simp) _
      have HW5 := Lib.hid (HW4.out.trans (C1.mono HW4.out.size))
      have S1 := Lib.hid (RowAt.mono (RowAt.below HR4.out C1) C1.size)
      have P1 := Lib.hid (RowAt.mono (RowAt.below HP4.out C1) C1.size)
      have G1 := Lib.hid (laid2 (w := w4) (w' := X1) (a := .slice A4 n c4) (b := .slice A5 m c5) (c := .int .i64 0) (d := .int .i64 0) (ta := 59) (tb := 47) (by rw [hX1]; exact Below.refl _ _))
      have HX1 := Lib.hid hX1
      clear C1 hX1
      rw [← HX1.out]
      refine (fixed08 X1).mono ?_
      rintro e w6 ⟨rfl, hb6⟩
      have HW6 := Lib.hid (HW5.out.trans (hb6.mono HW5.out.size))
      have S6 := Lib.hid (RowAt.mono (RowAt.below S1.out hb6) hb6.size)
      have P6 := Lib.hid (RowAt.mono (RowAt.below P1.out hb6) hb6.size)
      obtain ⟨a0, a1, -, -⟩ := pair_reads ((hb6.block _ (Array.getElem?_eq_some_iff.1 G1.out.1).1).trans G1.out.1)
      obtain ⟨b0, b1, -, -⟩ := pair_reads ((hb6.block _ (Array.getElem?_eq_some_iff.1 G1.out.2).1).trans G1.out.2)
      obtain ⟨d0, d1, -, -⟩ := pair_reads (HTB.out _ HW6.out)
      have q1 := fun w => eql_fault (a := 0) (b := 0) (c := 0) (d := 0) (o := true) (by simp) w
      clear hb6
      go_wp2_with fail
      refine (sameTabs_any w6 (Nat.le_refl _) S6.out (HR0.out _ HW6.out) P6.out (HP0.out _ HW6.out)).mono ?_
      rintro e w7 ⟨rfl, hb7⟩
      have HW7 := Lib.hid (HW6.out.trans (hb7.mono HW6.out.size))
      rw [decide_eq_true ⟨rfl, rfl⟩]
      clear hb7
      go_wp2_with fail
      go_ret
      exact ⟨rfl, HEND.out _ HW7.out⟩
end Go.Proofs.YtefhifmilmedhaaDoor
