/- The walk of merge's pair. -/
import Derived.Test.YtefhifmilmedhaaMergeRow
namespace Go.Proofs.Ytefhifmilmedhaa
open Go.RowKit

theorem infoPair : (Try.prog.info? 60).map (fun i => (i.zero, i.size, i.bytes)) = some (some (.agg #[.string ⟨#[]⟩, .string ⟨#[]⟩]), 2, 32) := by kernel_rfl
theorem one_pair (x : List UInt8 × List UInt8) : ∀ u ∈ ([.string (strOf x.1), .string (strOf x.2)] : List Value), u.oneCell' = true := by
  intro u hu
  simp only [List.mem_cons, List.not_mem_nil, or_false] at hu
  rcases hu with rfl | rfl <;> rfl

set_option maxRecDepth 100000 in
set_option maxHeartbeats 2000000 in
theorem mpair_any {g : Nat} {rows : RowsL} {pairs : PairsL} {A1 A2 : Option Addr} {c1 c2 : Nat} (s : List UInt8) (hm : s.length ≤ 99999) (w : World) (h : MrAt w g 2 rows pairs A1 c1 A2 c2) (hr : pairs.length ≤ 16384) :
    Calls Try.prog 36 #[.pointer (some ⟨g, 0, none⟩), .string (strOf s)] w (Stepped w g 2 rows pairs s) := by
  have HR := Lib.hid h
  obtain ⟨ws, hws⟩ : ∃ ws, (wordsL s).getD [] = ws := ⟨_, rfl⟩
  obtain ⟨o, ho⟩ : ∃ o, (wordsL s).isSome = o := ⟨_, rfl⟩
  obtain ⟨n, hn⟩ : ∃ n, ws.length = n := ⟨_, rfl⟩
  have HWS := Lib.hid (show (wordsL (strOf s).data.toList).getD [] = ws from hws)
  have HO := Lib.hid (show (wordsL (strOf s).data.toList).isSome = o from ho)
  have HN := Lib.hid hn
  have HM := Lib.hid (show (strOf s).size ≤ 1099511627776 from by rw [strOf_size]; omega)
  have hgw := h.lt
  clear h hws ho hn
  go_enter Try.func36, Try.ntmps36
  go_wp2_with fail
  refine (words_as HM.out _ HO.out HWS.out HN.out).mono ?_
  rintro e w1 ⟨AW, cW, rfl, h1, hb1⟩
  have B1 := Lib.hid hb1
  have S1 := Lib.hid h1
  clear hb1 h1
  by_cases hgood : n = 2
  · obtain ⟨a, b, rfl, hw⟩ := words_two (s := s) HWS.out HN.out hgood
    have ho1 : o = true := by rw [← HO.out]; show (wordsL s).isSome = true; rw [hw]; rfl
    subst hgood ho1
    have hla := word_le hw a (by simp)
    have hlb := word_le hw b (by simp)
    obtain ⟨t, et, ht⟩ : ∃ t et, wrR a = (t, et) := ⟨_, _, rfl⟩
    obtain ⟨u, eu, hu⟩ : ∃ u eu, wrR b = (u, eu) := ⟨_, _, rfl⟩
    have HPM := Lib.hid (show pairM s = if et = 2 ∨ eu = 2 then ([], [], 2) else if et ≠ 0 ∨ eu ≠ 0 then ([], [], 7) else (t, u, 0) from by rw [pairM_two hw, ht, hu])
    have hET : et = 2 ∨ et = 7 ∨ et = 0 := by have := wrR_err a; rw [ht] at this; exact this
    have hEU : eu = 2 ∨ eu = 7 ∨ eu = 0 := by have := wrR_err b; rw [hu] at this; exact this
    have HT := Lib.hid ht
    have HU := Lib.hid hu
    have HET := Lib.hid hET
    have HEU := Lib.hid hEU
    clear ht hu hw hET hEU
    obtain ⟨gw, ow, rfl, hgw', hcw⟩ := S1.out.cells (by decide)
    have e0 : w1.cell? ⟨gw, ow, none⟩ = some (.string (strOf a)) := hcw 0 (Nat.succ_pos _)
    have E1 := Lib.hid (hcw 1 (Nat.lt_succ_self _))
    clear hcw
    go_wp2_with fail
    refine (writing_as (by omega) _ HT.out).mono ?_
    rintro e w2 ⟨rfl, hb2⟩
    have B2 := Lib.hid (B1.out.trans (hb2.mono B1.out.size))
    have e1 : w2.cell? ⟨gw, ow + 1, none⟩ = some (.string (strOf b)) := (hb2.cell (p := ⟨gw, ow + 1, none⟩) hgw').trans E1.out
    clear hb2 e0
    go_wp2_with fail
    refine (writing_as (by omega) _ HU.out).mono ?_
    rintro e w3 ⟨rfl, hb3⟩
    have B3 := Lib.hid (B2.out.trans (hb3.mono B2.out.size))
    have M3 := Lib.hid (HR.out.below B3.out)
    obtain ⟨r0, r1, r2, r3, f0, f1, f2, f3⟩ := M3.out.reads
    clear hb3 e1
    rcases HET.out with rfl | het | rfl
    · have HS := Lib.hid (show stepM 2 rows pairs s = (2, 2, rows, pairs) from stepM_pair_bad (HPM.out.trans (if_pos (.inl rfl))) (by decide))
      go_wp2_with fail
      go_ret
      exact Stepped.same HR.out B3.out HS.out
    · subst het
      rcases HEU.out with rfl | heu | rfl
      · have HS := Lib.hid (show stepM 2 rows pairs s = (2, 2, rows, pairs) from stepM_pair_bad (HPM.out.trans (if_pos (.inr rfl))) (by decide))
        go_wp2_with fail
        go_ret
        exact Stepped.same HR.out B3.out HS.out
      · subst heu
        have HS := Lib.hid (show stepM 2 rows pairs s = (7, 2, rows, pairs) from stepM_pair_bad (HPM.out.trans ((if_neg (by decide)).trans (if_pos (by decide)))) (by decide))
        go_wp2_with fail
        go_ret
        exact Stepped.same HR.out B3.out HS.out
      · have HS := Lib.hid (show stepM 2 rows pairs s = (7, 2, rows, pairs) from stepM_pair_bad (HPM.out.trans ((if_neg (by decide)).trans (if_pos (by decide)))) (by decide))
        go_wp2_with fail
        go_ret
        exact Stepped.same HR.out B3.out HS.out
    · rcases HEU.out with rfl | heu | rfl
      · have HS := Lib.hid (show stepM 2 rows pairs s = (2, 2, rows, pairs) from stepM_pair_bad (HPM.out.trans (if_pos (.inr rfl))) (by decide))
        go_wp2_with fail
        go_ret
        exact Stepped.same HR.out B3.out HS.out
      · subst heu
        have HS := Lib.hid (show stepM 2 rows pairs s = (7, 2, rows, pairs) from stepM_pair_bad (HPM.out.trans ((if_neg (by decide)).trans (if_pos (by decide)))) (by decide))
        go_wp2_with fail
        go_ret
        exact Stepped.same HR.out B3.out HS.out
      · have HP0 := Lib.hid (show pairM s = (t, u, 0) from HPM.out.trans ((if_neg (by decide)).trans (if_neg (by decide))))
        by_cases h4 : 16384 ≤ pairs.length
        · have h4' : (16384 : Int) ≤ (pairs.length : Int) := by omega
          have HS := Lib.hid (show stepM 2 rows pairs s = (7, 2, rows, pairs) from stepM_pair_full HP0.out h4)
          go_wp2_with fail
          go_ret
          exact Stepped.same HR.out B3.out HS.out
        · have h4' : ¬ (16384 : Int) ≤ (pairs.length : Int) := by omega
          have HS := Lib.hid (show stepM 2 rows pairs s = (0, 2, rows, pairs ++ [(t, u)]) from stepM_pair_ok HP0.out h4)
          have HON := Lib.hid (one_pair (t, u))
          have HSN := Lib.hid (show pairsV pairs ++ [.string (strOf t), .string (strOf u)] = pairsV (pairs ++ [(t, u)]) from (pairsV_snoc pairs (t, u)).symm)
          have HRB := Lib.hid (row_blk w3 (.string (strOf t)) (.string (strOf u)) 60 (g := w3.heap.size) rfl)
          have L1 := Lib.hid (show g + 1 ≤ (w3.alloc (.cells #[.string (strOf t), .string (strOf u)] 60)).heap.size from by have := M3.out.lt; simp; omega)
          have W3B := Lib.hid (show (w3.alloc (.cells #[.string (strOf t), .string (strOf u)] 60)).heap[g]? = some (.cells #[fnOf 2 g, .slice A1 rows.length c1, .slice A2 pairs.length c2, .bool true] 55 (0, 0)) from (Below.heap_alloc _ _ _ M3.out.lt).trans M3.out.blk)
          go_wp2_with (at_builtin; refine wpList_append_row rfl (.tmp 65) (.tmp 69) _ rfl (g + 1) 60 _ 2 32 Try.underlying33 infoPair rfl (by decide) (.slice A2 pairs.length c2) pairs.length (pairsV pairs) rfl (M3.out.pairs.alloc _) (w3.heap.size + 1) (some ⟨w3.heap.size, 0, none⟩) 1 1 [.string (strOf t), .string (strOf u)] rfl HRB.out HON.out (pairs.length + 1) rfl (pairsV (pairs ++ [(t, u)])) HSN.out (by unfold maxLen; omega) (by omega) L1.out ?_; intro A5 c5 w5 hown5 hb5 hg5; have O5 := Lib.hid hown5; have B5 := Lib.hid hb5; have G5 := Lib.hid hg5; have W5 := Lib.hid ((hb5.block g (Nat.lt_succ_self _)).trans W3B.out); obtain ⟨p1, q1⟩ : w5.cell? ⟨g, 2, none⟩ = some (.slice A2 pairs.length c2) ∧ w5.frozen? ⟨g, 2, none⟩ = false := ⟨Lib.cell_of_heap W5.out 2, Lib.frozen_of_heap W5.out 2⟩; clear hown5 hb5 hg5)
          go_ret
          have P5 := (M3.out.rows.alloc (.cells #[.string (strOf t), .string (strOf u)] 60)).kept G5.out (own_apart M3.out.rows M3.out.pairs (by decide))
          have K5 : StrsKept w w5 := (StrsKept.below B3.out).trans ((StrsKept.below ((Below.refl _ w3).alloc (Nat.le_refl _) _)).trans (StrsKept.grown (M3.out.pairs.alloc _) (by decide) G5.out))
          have BB : Below g w w5 := (B3.out.mono (Nat.le_of_lt hgw)).trans (((Below.refl g w3).alloc (Nat.le_of_lt M3.out.lt) _).trans (B5.out.mono (Nat.le_succ g)))
          refine ⟨A1, c1, A5, c5, by rw [HS.out]; rfl, ?_, BB.setCell (p := ⟨g, 2, none⟩) (Nat.le_refl _) _, K5.trans (StrsKept.set W5.out (by decide))⟩
          rw [HS.out]
          exact ⟨by rw [heap_set_at W5.out, List.length_append]; rfl, own_set_other P5 W5.out (by decide), by rw [List.length_append]; exact own_set_other O5.out W5.out (by decide)⟩
  · have HS := Lib.hid (show stepM 2 rows pairs s = (2, 2, rows, pairs) from stepM_pair_bad (pairM_bad (words_not (s := s) HWS.out HN.out hgood)) (by decide))
    have hbn := bne_yes (a := (n : Int)) (b := 2) (by omega)
    have hbq := beq_no (a := (n : Int)) (b := 2) (by omega)
    clear hgood
    cases o with
    | false =>
      go_wp2_with fail
      go_ret
      exact Stepped.same HR.out B1.out HS.out
    | true =>
      go_wp2_with fail
      go_ret
      exact Stepped.same HR.out B1.out HS.out
end Go.Proofs.Ytefhifmilmedhaa
