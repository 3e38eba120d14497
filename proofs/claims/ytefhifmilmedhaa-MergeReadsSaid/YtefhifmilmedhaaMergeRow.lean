/- The walks of merge's row and pair. -/
import Derived.Test.YtefhifmilmedhaaMergeStep
namespace Go.Proofs.Ytefhifmilmedhaa
open Go.RowKit

section
variable {rows : RowsL} {pairs : PairsL} {s t : List UInt8} {nb er : Nat}
theorem stepM_row (hs : s ≠ mergesL) (h : rowM s = (t, nb, er)) : stepM 1 rows pairs s = if er ≠ 0 then (er, 1, rows, pairs) else if 4096 ≤ rows.length then (7, 1, rows, pairs) else (0, 1, rows ++ [(t, nb)], pairs) := by
  unfold stepM; rw [if_neg (by decide), if_pos rfl, if_neg hs, h]
theorem stepM_row_bad (hs : s ≠ mergesL) (h : rowM s = (t, nb, er)) (he : er ≠ 0) : stepM 1 rows pairs s = (er, 1, rows, pairs) := by rw [stepM_row hs h, if_pos he]
theorem stepM_row_full (hs : s ≠ mergesL) (h : rowM s = (t, nb, 0)) (h4 : 4096 ≤ rows.length) : stepM 1 rows pairs s = (7, 1, rows, pairs) := by rw [stepM_row hs h, if_neg (by simp), if_pos h4]
theorem stepM_row_ok (hs : s ≠ mergesL) (h : rowM s = (t, nb, 0)) (h4 : ¬ 4096 ≤ rows.length) : stepM 1 rows pairs s = (0, 1, rows ++ [(t, nb)], pairs) := by rw [stepM_row hs h, if_neg (by simp), if_neg h4]
theorem stepM_pair {t2 : List UInt8} (h : pairM s = (t, t2, er)) : stepM 2 rows pairs s = if er ≠ 0 then (er, 2, rows, pairs) else if 16384 ≤ pairs.length then (7, 2, rows, pairs) else (0, 2, rows, pairs ++ [(t, t2)]) := by
  unfold stepM; rw [if_neg (by decide), if_neg (by decide), h]
theorem stepM_pair_bad {t2 : List UInt8} (h : pairM s = (t, t2, er)) (he : er ≠ 0) : stepM 2 rows pairs s = (er, 2, rows, pairs) := by rw [stepM_pair h, if_pos he]
theorem stepM_pair_full {t2 : List UInt8} (h : pairM s = (t, t2, 0)) (h4 : 16384 ≤ pairs.length) : stepM 2 rows pairs s = (7, 2, rows, pairs) := by rw [stepM_pair h, if_neg (by simp), if_pos h4]
theorem stepM_pair_ok {t2 : List UInt8} (h : pairM s = (t, t2, 0)) (h4 : ¬ 16384 ≤ pairs.length) : stepM 2 rows pairs s = (0, 2, rows, pairs ++ [(t, t2)]) := by rw [stepM_pair h, if_neg (by simp), if_neg h4]
end
/-- A step that only looked. -/
theorem Stepped.same {w w' : World} {g ph er : Nat} {rows : RowsL} {pairs : PairsL} {A1 A2 : Option Addr} {c1 c2 : Nat} {s : List UInt8} (h : MrAt w g ph rows pairs A1 c1 A2 c2) (hb : Below w.heap.size w w') (hs : stepM ph rows pairs s = (er, ph, rows, pairs)) :
    Stepped w g ph rows pairs s (.returned (.int .i64 (er : Int))) w' :=
  ⟨A1, c1, A2, c2, by rw [hs], by rw [hs]; exact h.below hb, hb.mono (Nat.le_of_lt h.lt), StrsKept.below hb⟩

theorem number_b {s : ByteArray} {n : Int} {o : Bool} (w : World) (h1 : (((numL s.data.toList).getD 0 : Nat) : Int) = n) (h2 : (numL s.data.toList).isSome = o) :
    Calls Try.prog 25 #[.string s] w fun e w' => e = .returned (.tuple #[.int .i64 n, .bool o]) ∧ Below w.heap.size w w' := by
  refine (number_as w h1 h2).mono ?_
  rintro e w' ⟨rfl, k, rfl⟩
  exact ⟨rfl, below_drewN (Below.refl _ _) k⟩
theorem writing_as {a b : List UInt8} {er : Nat} (hm : a.length ≤ 99999) (w : World) (h : wrR a = (b, er)) : Calls Try.prog 37 #[.string (strOf a)] w fun e w' =>
    e = .returned (.tuple #[.string (strOf b), .int .i64 (er : Int)]) ∧ Below w.heap.size w w' := by
  have := writing_any a hm w
  rw [h] at this
  exact this

set_option maxRecDepth 100000 in
set_option maxHeartbeats 2000000 in
theorem mrow_any {g : Nat} {rows : RowsL} {pairs : PairsL} {A1 A2 : Option Addr} {c1 c2 : Nat} (s : List UInt8) (hm : s.length ≤ 99999) (w : World) (h : MrAt w g 1 rows pairs A1 c1 A2 c2) (hr : rows.length ≤ 4096) :
    Calls Try.prog 29 #[.pointer (some ⟨g, 0, none⟩), .string (strOf s)] w (Stepped w g 1 rows pairs s) := by
  have HR := Lib.hid h
  by_cases hs : s = mergesL
  · obtain ⟨r0, r1, r2, r3, f0, f1, f2, f3⟩ := h.reads
    have hq : (strOf s).toList = [109, 101, 114, 103, 101, 115] := by rw [ByteArray.toList_eq, strOf_list]; exact hs
    have HS := Lib.hid (show stepM 1 rows pairs s = (0, 2, rows, pairs) from by unfold stepM; rw [if_neg (by decide), if_pos rfl, if_pos hs])
    clear hs h
    go_enter Try.func29, Try.ntmps29
    go_wp2_with fail
    go_ret
    have H1 := heap_set_at (j := 3) (u := .bool true) HR.out.blk
    refine ⟨A1, c1, A2, c2, by rw [HS.out]; rfl, ?_, ((Below.refl _ _).setCell (p := ⟨g, 3, none⟩) (Nat.le_refl _) _).setCell (p := ⟨g, 0, none⟩) (Nat.le_refl _) _, (StrsKept.set HR.out.blk (by decide)).trans (StrsKept.set H1 (by decide))⟩
    rw [HS.out]
    exact ⟨(heap_set_at H1).trans rfl, own_set_other (own_set_other HR.out.rows HR.out.blk (by decide)) H1 (by decide), own_set_other (own_set_other HR.out.pairs HR.out.blk (by decide)) H1 (by decide)⟩
  · have hq := merges_ne hs
    have HNE := Lib.hid hs
    obtain ⟨ws, hws⟩ : ∃ ws, (wordsL s).getD [] = ws := ⟨_, rfl⟩
    obtain ⟨o, ho⟩ : ∃ o, (wordsL s).isSome = o := ⟨_, rfl⟩
    obtain ⟨n, hn⟩ : ∃ n, ws.length = n := ⟨_, rfl⟩
    have HWS := Lib.hid (show (wordsL (strOf s).data.toList).getD [] = ws from hws)
    have HO := Lib.hid (show (wordsL (strOf s).data.toList).isSome = o from ho)
    have HN := Lib.hid hn
    have HM := Lib.hid (show (strOf s).size ≤ 1099511627776 from by rw [strOf_size]; omega)
    have hgw := h.lt
    clear hs h hws ho hn
    go_enter Try.func29, Try.ntmps29
    go_wp2_with fail
    refine (words_as HM.out _ HO.out HWS.out HN.out).mono ?_
    rintro e w1 ⟨AW, cW, rfl, h1, hb1⟩
    have B1 := Lib.hid hb1
    have S1 := Lib.hid h1
    clear hb1 h1
    by_cases hgood : n = 2
    · obtain ⟨a, b, rfl, hw⟩ := words_two (s := s) HWS.out HN.out hgood
      have ho1 : o = true := by rw [← HO.out]; show (wordsL s).isSome = true; rw [hw]; rfl
      subst hgood ho1
      have hla := word_le hw a (by simp)
      have hlb := word_le hw b (by simp)
      have hlb' : (strOf b).size ≤ 99999 := by rw [strOf_size]; omega
      obtain ⟨nb, hnb⟩ : ∃ nb : Nat, (numL b).getD 0 = nb := ⟨_, rfl⟩
      obtain ⟨is, his⟩ : ∃ is, (numL b).isSome = is := ⟨_, rfl⟩
      obtain ⟨t, et, ht⟩ : ∃ t et, wrR a = (t, et) := ⟨_, _, rfl⟩
      have HRM := Lib.hid (show rowM s = if is = false then ([], 0, 2) else (t, nb, et) from by
        rw [rowM_two hw, hnb, ht, ← his]
        have : numL b = none ↔ (numL b).isSome = false := by rw [Option.isSome_eq_false_iff, Option.isNone_iff_eq_none]
        simp only [this])
      have HET := Lib.hid (show et = 2 ∨ et = 7 ∨ et = 0 from by have := wrR_err a; rw [ht] at this; exact this)
      have HNB := Lib.hid (show (((numL (strOf b).data.toList).getD 0 : Nat) : Int) = (nb : Int) from by rw [strOf_list, hnb])
      have HIS := Lib.hid (show (numL (strOf b).data.toList).isSome = is from his)
      have HT := Lib.hid ht
      clear hnb his ht hw
      obtain ⟨gw, ow, rfl, hgw', hcw⟩ := S1.out.cells (by decide)
      have E0 := Lib.hid (hcw 0 (Nat.succ_pos _))
      have e1 : w1.cell? ⟨gw, ow + 1, none⟩ = some (.string (strOf b)) := hcw 1 (Nat.lt_succ_self _)
      clear hcw
      go_wp2_with fail
      refine (number_b _ HNB.out HIS.out).mono ?_
      rintro e w2 ⟨rfl, hb2⟩
      have B2 := Lib.hid (B1.out.trans (hb2.mono B1.out.size))
      have e0 : w2.cell? ⟨gw, ow, none⟩ = some (.string (strOf a)) := (hb2.cell (p := ⟨gw, ow, none⟩) hgw').trans E0.out
      clear hb2 e1
      go_wp2_with fail
      refine (writing_as (by omega) _ HT.out).mono ?_
      rintro e w3 ⟨rfl, hb3⟩
      have B3 := Lib.hid (B2.out.trans (hb3.mono B2.out.size))
      have M3 := Lib.hid (HR.out.below B3.out)
      obtain ⟨r0, r1, r2, r3, f0, f1, f2, f3⟩ := M3.out.reads
      clear hb3 e0
      cases is with
      | false =>
        have HS := Lib.hid (show stepM 1 rows pairs s = (2, 1, rows, pairs) from stepM_row_bad HNE.out (HRM.out.trans (if_pos rfl)) (by decide))
        go_wp2_with fail
        go_ret
        exact Stepped.same HR.out B3.out HS.out
      | true =>
        by_cases het : et = 0
        · subst het
          by_cases h4 : 4096 ≤ rows.length
          · have h4' : (4096 : Int) ≤ (rows.length : Int) := by omega
            have HS := Lib.hid (show stepM 1 rows pairs s = (7, 1, rows, pairs) from stepM_row_full HNE.out (HRM.out.trans (if_neg (by simp))) h4)
            go_wp2_with fail
            go_ret
            exact Stepped.same HR.out B3.out HS.out
          · have h4' : ¬ (4096 : Int) ≤ (rows.length : Int) := by omega
            have HS := Lib.hid (show stepM 1 rows pairs s = (0, 1, rows ++ [(t, nb)], pairs) from stepM_row_ok HNE.out (HRM.out.trans (if_neg (by simp))) h4)
            have HON := Lib.hid (one_row (t, nb))
            have HSN := Lib.hid (show rowsV rows ++ [.string (strOf t), .int .i64 (nb : Int)] = rowsV (rows ++ [(t, nb)]) from (rowsV_snoc rows (t, nb)).symm)
            have HRB := Lib.hid (row_blk w3 (.string (strOf t)) (.int .i64 (nb : Int)) 43 (g := w3.heap.size) rfl)
            have L1 := Lib.hid (show g + 1 ≤ (w3.alloc (.cells #[.string (strOf t), .int .i64 (nb : Int)] 43)).heap.size from by have := M3.out.lt; simp; omega)
            have W3B := Lib.hid (show (w3.alloc (.cells #[.string (strOf t), .int .i64 (nb : Int)] 43)).heap[g]? = some (.cells #[fnOf 1 g, .slice A1 rows.length c1, .slice A2 pairs.length c2, .bool false] 55 (0, 0)) from (Below.heap_alloc _ _ _ M3.out.lt).trans M3.out.blk)
            go_wp2_with (at_builtin; refine wpList_append_row rfl (.tmp 66) (.tmp 70) _ rfl (g + 1) 43 _ 2 24 Try.underlying24 infoRow rfl (by decide) (.slice A1 rows.length c1) rows.length (rowsV rows) rfl (M3.out.rows.alloc _) (w3.heap.size + 1) (some ⟨w3.heap.size, 0, none⟩) 1 1 [.string (strOf t), .int .i64 (nb : Int)] rfl HRB.out HON.out (rows.length + 1) rfl (rowsV (rows ++ [(t, nb)])) HSN.out (by unfold maxLen; omega) (by omega) L1.out ?_; intro A5 c5 w5 hown5 hb5 hg5; have O5 := Lib.hid hown5; have B5 := Lib.hid hb5; have G5 := Lib.hid hg5; have W5 := Lib.hid ((hb5.block g (Nat.lt_succ_self _)).trans W3B.out); obtain ⟨p1, q1⟩ : w5.cell? ⟨g, 1, none⟩ = some (.slice A1 rows.length c1) ∧ w5.frozen? ⟨g, 1, none⟩ = false := ⟨Lib.cell_of_heap W5.out 1, Lib.frozen_of_heap W5.out 1⟩; clear hown5 hb5 hg5)
            go_ret
            have P5 := (M3.out.pairs.alloc (.cells #[.string (strOf t), .int .i64 (nb : Int)] 43)).kept G5.out (own_apart M3.out.pairs M3.out.rows (by decide))
            have K5 : StrsKept w w5 := (StrsKept.below B3.out).trans ((StrsKept.below ((Below.refl _ w3).alloc (Nat.le_refl _) _)).trans (StrsKept.grown (M3.out.rows.alloc _) (by decide) G5.out))
            have BB : Below g w w5 := (B3.out.mono (Nat.le_of_lt hgw)).trans (((Below.refl g w3).alloc (Nat.le_of_lt M3.out.lt) _).trans (B5.out.mono (Nat.le_succ g)))
            refine ⟨A5, c5, A2, c2, by rw [HS.out]; rfl, ?_, BB.setCell (p := ⟨g, 1, none⟩) (Nat.le_refl _) _, K5.trans (StrsKept.set W5.out (by decide))⟩
            rw [HS.out]
            exact ⟨by rw [heap_set_at W5.out, List.length_append]; rfl, by rw [List.length_append]; exact own_set_other O5.out W5.out (by decide), own_set_other P5 W5.out (by decide)⟩
        · have het' := beq_no (a := (et : Int)) (b := 0) (by omega)
          have HS := Lib.hid (show stepM 1 rows pairs s = (et, 1, rows, pairs) from stepM_row_bad HNE.out (HRM.out.trans (if_neg (by simp))) het)
          clear het
          go_wp2_with fail
          go_ret
          exact Stepped.same HR.out B3.out HS.out
    · have HS := Lib.hid (show stepM 1 rows pairs s = (2, 1, rows, pairs) from stepM_row_bad HNE.out (rowM_bad (words_not (s := s) HWS.out HN.out hgood)) (by decide))
      have hbn := bne_yes (a := (n : Int)) (b := 2) (by omega)
      have hbq := beq_no (a := (n : Int)) (b := 2) (by omega)
      clear hgood
      cases o with
      | false =>
        go_wp2_with fail
        go_ret
        exact Stepped.same HR.out B1.out HS.out
      | true =>
        go_wp2_with fail
        go_ret
        exact Stepped.same HR.out B1.out HS.out
end Go.Proofs.Ytefhifmilmedhaa
