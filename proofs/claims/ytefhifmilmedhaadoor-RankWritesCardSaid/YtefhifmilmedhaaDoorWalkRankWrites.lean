/- The walk of RankWrites: true for every input. -/
import Derived.Test.YtefhifmilmedhaaDoorRankFixed
import Derived.Test.YtefhifmilmedhaaDoorRankWrite
import Derived.Test.YtefhifmilmedhaaDoorRankRWrite
import Derived.Test.YtefhifmilmedhaaDoorOpenRow
namespace Go.Proofs.YtefhifmilmedhaaDoor
open Go.RowKit
set_option linter.unusedVariables false

theorem back_rows {l : List (List UInt8 × Int)} (h : okW l = true) : (l.map natW).map intRow = l := by
  unfold okW at h
  rw [Bool.and_eq_true] at h
  exact nats_back h.2
theorem read_none : readL [] = ([], 0, 0) := by simp [readL, linesL, readG]
set_option maxRecDepth 100000 in
set_option maxHeartbeats 4000000 in
theorem walkRankWrites (w : World) (ht : Tab10 w) {A : Option Addr} {n c : Nat} {l : List (List UInt8 × Int)} (h : RowAt w w.heap.size 2 A n c (rowsI l)) :
    Calls Tryd.prog 7 #[.slice A n c] w fun e w' => e = .returned (.bool true) ∧ Below w.heap.size w w' := by
  have hcap := h.2.2.1
  have hcn := h.2.1
  unfold maxLen at hcap
  have HH := Lib.hid h
  have HL := Lib.hid (rows_len h)
  have HT := Lib.hid ht
  clear h ht
  by_cases h1 : 100 < n
  · have h1' : (100 : Int) < (n : Int) := by omega
    go_enter Tryd.func7, Tryd.ntmps7
    go_wp2_with fail
    refine (fixed07 w).mono ?_
    rintro e w' ⟨rfl, hb⟩
    have HE := Lib.hid hb
    go_wp2_with fail
    go_ret
    exact ⟨rfl, HE.out⟩
  · have h1' : ¬ (100 : Int) < (n : Int) := by omega
    go_enter Tryd.func7, Tryd.ntmps7
    go_wp2_with fail
    go_loopw [17] (fun i wr => ∃ k : Nat, k ≤ n ∧ i = .int .i64 k ∧ Hid (∀ x ∈ l.take k, x.1.length ≤ 100) ∧ Hid (Below w.heap.size w wr)) (fun i _ => n - (intOf i).toNat)
    case atStart => exact ⟨0, Nat.zero_le _, rfl, Lib.hid (fun x hx => by simp at hx), Lib.hid (Below.refl _ _)⟩
    case round =>
      obtain ⟨k, hk, rfl, HK, HW⟩ := hrel
      by_cases hlt : k < n
      · obtain ⟨b, off, rfl, hbl, hc⟩ := rows_cells HH.out (by omega)
        have hkl : k < l.length := by rw [← HL.out]; exact hlt
        obtain ⟨⟨s, r⟩, hx⟩ : ∃ x, l[k]'hkl = x := ⟨_, rfl⟩
        have c1 : wr.cell? ⟨b, off + k * 2, none⟩ = some (.string (strOf s)) := by rw [HW.out.cell (p := ⟨b, off + k * 2, none⟩) hbl, (hc k hkl).1, hx]
        have c2 : wr.cell? ⟨b, off + k * 2 + 1, none⟩ = some (.int .i64 r) := by rw [HW.out.cell (p := ⟨b, off + k * 2 + 1, none⟩) hbl]; have := (hc k hkl).2; rw [hx] at this; exact this
        have HAL := Lib.hid (fun o => HW.out.alloc HW.out.size o)
        have hsz : (strOf s).size = s.length := rfl
        have HTK := Lib.hid (show l.take (k + 1) = l.take k ++ [(s, r)] from by rw [List.take_add_one, List.getElem?_eq_getElem hkl, hx]; rfl)
        clear hc hx
        by_cases hbig : 100 < s.length
        · have hb' : (100 : Int) < (s.length : Int) := by omega
          obtain ⟨w2, hw2⟩ : ∃ w2, w2 = wr.alloc (.cells #[.string (strOf s), .int .i64 r] 40) := ⟨_, rfl⟩
          have HW2 := Lib.hid (show Below w.heap.size w w2 from by rw [hw2]; exact HAL.out _)
          have HQ := Lib.hid hw2
          clear hw2
          go_wp2_with fail
          rw [← HQ.out]
          refine (fixed07 w2).mono ?_
          rintro e w' ⟨rfl, hb⟩
          have HE := Lib.hid (HW2.out.trans (hb.mono HW2.out.size))
          go_wp2_with fail
          go_ret
          exact ⟨rfl, HE.out⟩
        · have hb' : ¬ (100 : Int) < (s.length : Int) := by omega
          go_wp2_with fail
          go_roundw
          case rel => exact ⟨k + 1, by omega, by go_num, Lib.hid (fun x hx => by
              rw [HTK.out] at hx
              rcases List.mem_append.1 hx with h | h
              · exact HK.out x h
              · rw [List.mem_singleton.1 h]; show s.length ≤ 100; omega), Lib.hid (HAL.out _)⟩
          case measure => show n - ((k : Int) + 1).toNat < n - ((k : Int)).toNat; omega
      · have hke : k = n := by omega
        have HKE := Lib.hid hke
        have HBL := Lib.hid (show ∀ x ∈ l, x.1.length ≤ 1000000 from fun x hx => by
          have := HK.out x (by rw [List.take_of_length_le (by rw [← HL.out]; omega)]; exact hx)
          omega)
        have HR := Lib.hid (show RowAt wr wr.heap.size 2 A n c (rowsI l) from RowAt.mono (RowAt.below HH.out HW.out) HW.out.size)
        have HT1 := Lib.hid (show Tab10 wr from tab_later HT.out HW.out)
        clear hke
        obtain ⟨o, ho⟩ : ∃ o, okW l = o := ⟨_, rfl⟩
        have HO := Lib.hid ho
        clear ho
        cases o with
        | true =>
          obtain ⟨F, hF⟩ : ∃ F, fileW l = F := ⟨_, rfl⟩
          obtain ⟨m, hm⟩ : ∃ m, F.length = m := ⟨_, rfl⟩
          have HF := Lib.hid hF
          have HM := Lib.hid hm
          have hml : m ≤ 20000 := by
            have := file_len (l := l) (by have := HO.out; unfold okW at this; rw [Bool.and_eq_true] at this; exact this.2)
            rw [hF, hm, ← HL.out] at this; omega
          have HRD := Lib.hid (show readL F = (l.map natW, 0, 0) from by rw [← hF]; exact file_read HO.out)
          have HBK := Lib.hid (back_rows HO.out)
          have HNL := Lib.hid (show (l.map natW).length = n from by rw [List.length_map, ← HL.out])
          clear hF hm
          go_wp2_with fail
          refine (rankWrite_yes wr HT1.out HR.out HO HF HM).mono ?_
          rintro e w2 ⟨A2, c2, rfl, hbt, hb2⟩
          have HBT := Lib.hid hbt
          have HW2 := Lib.hid (HW.out.trans (hb2.mono HW.out.size))
          clear hbt hb2
          go_wp2_with fail
          refine (rrankWrite_any w2 (RowAt.mono (RowAt.below HH.out HW2.out) HW2.out.size) HBL.out).mono ?_
          rw [wrE_yes HO.out, HF.out]
          rintro e w3 ⟨rfl, hb3⟩
          have HW3 := Lib.hid (HW2.out.trans (hb3.mono HW2.out.size))
          have HBT3 := Lib.hid (show BytesAt w3 w3.heap.size A2 m c2 F from RowAt.mono (RowAt.below HBT.out hb3) hb3.size)
          have hcv := run_string_bytes (P := Tryd.prog) 22 9 5 Tryd.underlying22 Tryd.underlying5 Tryd.underlying9 HBT3.out
          clear hb3
          go_wp2_with fail
          refine (read_as w3 HBT3.out (by omega) HRD.out HNL.out).mono ?_
          rintro e w4 ⟨A4, c4, rfl, hr4, hb4⟩
          rw [HBK.out] at hr4
          have HR4 := Lib.hid hr4
          have HW4 := Lib.hid (HW3.out.trans (hb4.mono HW3.out.size))
          obtain ⟨w5, hw5⟩ : ∃ w5, w5 = w4.alloc (.cells #[.int .i64 0, .int .i64 0] 47) := ⟨_, rfl⟩
          have hb5 : Below w4.heap.size w4 w5 := by rw [hw5]; exact (Below.refl _ w4).alloc (Nat.le_refl _) _
          have HG5 := Lib.hid (show w5.heap[w4.heap.size]? = some (.cells #[.int .i64 0, .int .i64 0] 47 (0, 0)) from by rw [hw5]; exact heap_alloc_new w4 _)
          have HW5 := Lib.hid (HW4.out.trans (hb5.mono HW4.out.size))
          have HR5 := Lib.hid (show RowAt w5 w5.heap.size 2 A4 n c4 (rowsI l) from RowAt.mono (RowAt.below HR4.out hb5) hb5.size)
          have HQ5 := Lib.hid hw5
          clear hcv hr4 hb4 hb5 hw5
          go_wp2_with fail
          rw [← HQ5.out]
          refine (fixed07 w5).mono ?_
          rintro e w6 ⟨rfl, hb6⟩
          have HW6 := Lib.hid (HW5.out.trans (hb6.mono HW5.out.size))
          have HR6 := Lib.hid (show RowAt w6 w6.heap.size 2 A4 n c4 (rowsI l) from RowAt.mono (RowAt.below HR5.out hb6) hb6.size)
          obtain ⟨x0, x1, -, -⟩ := pair_reads ((hb6.block _ (Array.getElem?_eq_some_iff.1 HG5.out).1).trans HG5.out)
          have q1 := fun w => eql_fault (a := 0) (b := 0) (c := 0) (d := 0) (o := true) (by simp) w
          clear hb6
          go_wp2_with fail
          refine (sameRows_any w6 HR6.out (RowAt.mono (RowAt.below HH.out HW6.out) HW6.out.size)).mono ?_
          rintro e w7 ⟨rfl, q, rfl⟩
          rw [decide_eq_true rfl]
          go_wp2_with fail
          go_ret
          exact ⟨rfl, below_dw HW6.out q⟩
        | false =>
          go_wp2_with fail
          refine (rankWrite_no wr HT1.out HR.out HO).mono ?_
          rintro e w2 ⟨rfl, hb2⟩
          have HW2 := Lib.hid (HW.out.trans (hb2.mono HW.out.size))
          clear hb2
          go_wp2_with fail
          refine (rrankWrite_any w2 (RowAt.mono (RowAt.below HH.out HW2.out) HW2.out.size) HBL.out).mono ?_
          rw [wrE_no HO.out]
          rintro e w3 ⟨rfl, hb3⟩
          have HW3 := Lib.hid (HW2.out.trans (hb3.mono HW2.out.size))
          have HNB := Lib.hid (show BytesAt w3 w3.heap.size none 0 0 [] from RowAt.nil)
          have hcv := run_string_bytes (P := Tryd.prog) 22 9 5 Tryd.underlying22 Tryd.underlying5 Tryd.underlying9 HNB.out
          have hse : strOf [] = ⟨#[]⟩ := rfl
          rw [hse] at hcv
          clear hb3 hse
          go_wp2_with fail
          refine (read_as w3 HNB.out (by omega) read_none rfl).mono ?_
          rintro e w4 ⟨A4, c4, rfl, hr4, hb4⟩
          have HW4 := Lib.hid (HW3.out.trans (hb4.mono HW3.out.size))
          obtain ⟨w5, hw5⟩ : ∃ w5, w5 = w4.alloc (.cells #[.int .i64 0, .int .i64 0] 47) := ⟨_, rfl⟩
          have hb5 : Below w4.heap.size w4 w5 := by rw [hw5]; exact (Below.refl _ w4).alloc (Nat.le_refl _) _
          have HG5 := Lib.hid (show w5.heap[w4.heap.size]? = some (.cells #[.int .i64 0, .int .i64 0] 47 (0, 0)) from by rw [hw5]; exact heap_alloc_new w4 _)
          have HW5 := Lib.hid (HW4.out.trans (hb5.mono HW4.out.size))
          have HQ5 := Lib.hid hw5
          clear hcv hr4 hb4 hb5 hw5
          go_wp2_with fail
          rw [← HQ5.out]
          refine (fixed07 w5).mono ?_
          rintro e w6 ⟨rfl, hb6⟩
          have HW6 := Lib.hid (HW5.out.trans (hb6.mono HW5.out.size))
          obtain ⟨x0, x1, -, -⟩ := pair_reads ((hb6.block _ (Array.getElem?_eq_some_iff.1 HG5.out).1).trans HG5.out)
          have q1 := fun w => eql_fault (a := 0) (b := 0) (c := 0) (d := 0) (o := true) (by simp) w
          clear hb6
          go_wp2_with fail
          go_ret
          exact ⟨rfl, HW6.out⟩
end Go.Proofs.YtefhifmilmedhaaDoor
