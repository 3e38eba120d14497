/- The walk of the document's Read of tables. -/
import Derived.Test.YtefhifmilmedhaaMergeTwo
namespace Go.Proofs.Ytefhifmilmedhaa
open Go.RowKit

/-- What the document's reading of tables answers. -/
def MergeRefOut (w : World) (x : RowsL × PairsL × Nat × Nat) (e : Ending) (w' : World) : Prop :=
  ∃ A1 c1 A2 c2, e = .returned (.agg #[.slice A1 x.1.length c1, .slice A2 x.2.1.length c2, .int .i64 (x.2.2.1 : Int), .int .i64 (x.2.2.2 : Int)]) ∧
    RowAt w' w'.heap.size 2 A1 x.1.length c1 (rowsV x.1) ∧ RowAt w' w'.heap.size 2 A2 x.2.1.length c2 (pairsV x.2.1) ∧ Below w.heap.size w w'
/-- The document's tables in the making. -/
structure TabAt (w : World) (g : Nat) (rows : RowsL) (pairs : PairsL) (A1 : Option Addr) (c1 : Nat) (A2 : Option Addr) (c2 : Nat) : Prop where
  blk : w.heap[g]? = some (.cells #[.slice A1 rows.length c1, .slice A2 pairs.length c2, .int .i64 0, .int .i64 0] 39 (0, 0))
  rows : w.ownsRow (g + 1) 43 2 (.slice A1 rows.length c1) rows.length (rowsV rows)
  pairs : w.ownsRow (g + 1) 60 2 (.slice A2 pairs.length c2) pairs.length (pairsV pairs)
section
variable {w w' : World} {g : Nat} {rows : RowsL} {pairs : PairsL} {A1 A2 : Option Addr} {c1 c2 : Nat}
theorem TabAt.lt (h : TabAt w g rows pairs A1 c1 A2 c2) : g < w.heap.size := (Array.getElem?_eq_some_iff.1 h.blk).1
theorem TabAt.below (h : TabAt w g rows pairs A1 c1 A2 c2) (hb : Below w.heap.size w w') : TabAt w' g rows pairs A1 c1 A2 c2 :=
  ⟨(hb.block _ h.lt).trans h.blk, own_kept h.rows hb (Nat.le_refl _), own_kept h.pairs hb (Nat.le_refl _)⟩
theorem TabAt.reads (h : TabAt w g rows pairs A1 c1 A2 c2) :
    w.cell? ⟨g, 0, none⟩ = some (.slice A1 rows.length c1) ∧ w.cell? ⟨g, 1, none⟩ = some (.slice A2 pairs.length c2) ∧ w.cell? ⟨g, 2, none⟩ = some (.int .i64 0) ∧ w.cell? ⟨g, 3, none⟩ = some (.int .i64 0) ∧
      w.frozen? ⟨g, 0, none⟩ = false ∧ w.frozen? ⟨g, 1, none⟩ = false ∧ w.frozen? ⟨g, 2, none⟩ = false ∧ w.frozen? ⟨g, 3, none⟩ = false :=
  ⟨Lib.cell_of_heap h.blk 0, Lib.cell_of_heap h.blk 1, Lib.cell_of_heap h.blk 2, Lib.cell_of_heap h.blk 3, Lib.frozen_of_heap h.blk 0, Lib.frozen_of_heap h.blk 1, Lib.frozen_of_heap h.blk 2, Lib.frozen_of_heap h.blk 3⟩
end
theorem quad_reads {w : World} {g : Nat} {a b c d : Value} {t : TypeId} (h : w.heap[g]? = some (.cells #[a, b, c, d] t (0, 0))) :
    w.cell? ⟨g, 0, none⟩ = some a ∧ w.cell? ⟨g, 1, none⟩ = some b ∧ w.cell? ⟨g, 2, none⟩ = some c ∧ w.cell? ⟨g, 3, none⟩ = some d ∧
      w.frozen? ⟨g, 0, none⟩ = false ∧ w.frozen? ⟨g, 1, none⟩ = false ∧ w.frozen? ⟨g, 2, none⟩ = false ∧ w.frozen? ⟨g, 3, none⟩ = false :=
  ⟨Lib.cell_of_heap h 0, Lib.cell_of_heap h 1, Lib.cell_of_heap h 2, Lib.cell_of_heap h 3, Lib.frozen_of_heap h 0, Lib.frozen_of_heap h 1, Lib.frozen_of_heap h 2, Lib.frozen_of_heap h 3⟩

theorem set_quad {w : World} {g : Nat} {x y z u : Value} {t : TypeId} (h : w.heap[g]? = some (.cells #[x, y, z, u] t (0, 0))) (a b c d : Value) :
    ((((w.setCell ⟨g, 0, none⟩ a).setCell ⟨g, 1, none⟩ b).setCell ⟨g, 2, none⟩ c).setCell ⟨g, 3, none⟩ d).heap[g]? = some (.cells #[a, b, c, d] t (0, 0)) :=
  (heap_set_at (heap_set_at (heap_set_at (heap_set_at h)))).trans rfl
theorem quad_below {B g : Nat} {w w' : World} (h : Below B w w') (hg : B ≤ g) (a b c d : Value) : Below B w ((((w'.setCell ⟨g, 0, none⟩ a).setCell ⟨g, 1, none⟩ b).setCell ⟨g, 2, none⟩ c).setCell ⟨g, 3, none⟩ d) :=
  (((h.setCell (p := ⟨g, 0, none⟩) hg _).setCell (p := ⟨g, 1, none⟩) hg _).setCell (p := ⟨g, 2, none⟩) hg _).setCell (p := ⟨g, 3, none⟩) hg _
theorem quad_own {g b0 sz n : Nat} {e : TypeId} {v : Value} {xs : List Value} {w : World} (h : w.ownsRow b0 e sz v n xs) (hg : g < b0) (a b c d : Value) : ((((w.setCell ⟨g, 0, none⟩ a).setCell ⟨g, 1, none⟩ b).setCell ⟨g, 2, none⟩ c).setCell ⟨g, 3, none⟩ d).ownsRow b0 e sz v n xs :=
  ownsRow_setCell_below (ownsRow_setCell_below (ownsRow_setCell_below (ownsRow_setCell_below h (a := ⟨g, 0, none⟩) hg _) (a := ⟨g, 1, none⟩) hg _) (a := ⟨g, 2, none⟩) hg _) (a := ⟨g, 3, none⟩) hg _

theorem stepM_row_err {rows : RowsL} {pairs : PairsL} {s : List UInt8} {er : Nat} (hs : s ≠ mergesL) (h : (rowM s).2.2 = er) (he : er ≠ 0) : stepM 1 rows pairs s = (er, 1, rows, pairs) :=
  stepM_row_bad (t := (rowM s).1) (nb := (rowM s).2.1) hs (by rw [← h]) he
theorem mergeG_err {ph ph' er k : Nat} {rows rows' : RowsL} {pairs pairs' : PairsL} {p : List UInt8} {r : List (List UInt8)} {x : RowsL × PairsL × Nat × Nat}
    (h : (if (stepM ph rows pairs p).1 ≠ 0 then (([], [], k + 1, (stepM ph rows pairs p).1) : RowsL × PairsL × Nat × Nat) else mergeG (stepM ph rows pairs p).2.1 (stepM ph rows pairs p).2.2.1 (stepM ph rows pairs p).2.2.2 (k + 1) r) = x)
    (hs : stepM ph rows pairs p = (er, ph', rows', pairs')) (he : er ≠ 0) : ([], [], k + 1, er) = x := by
  rw [hs, if_pos he] at h; exact h
theorem mergeG_ok {ph ph' k : Nat} {rows rows' : RowsL} {pairs pairs' : PairsL} {p : List UInt8} {r : List (List UInt8)} {x : RowsL × PairsL × Nat × Nat}
    (h : (if (stepM ph rows pairs p).1 ≠ 0 then (([], [], k + 1, (stepM ph rows pairs p).1) : RowsL × PairsL × Nat × Nat) else mergeG (stepM ph rows pairs p).2.1 (stepM ph rows pairs p).2.2.1 (stepM ph rows pairs p).2.2.2 (k + 1) r) = x)
    (hs : stepM ph rows pairs p = (0, ph', rows', pairs')) : mergeG ph' rows' pairs' (k + 1) r = x := by
  rw [hs, if_neg (by simp)] at h; exact h
theorem rnum_nil (w : World) : Calls Try.prog 18 #[.string ⟨#[]⟩] w fun e w' => e = .returned (.int .i64 (-1)) ∧ Below w.heap.size w w' := rnum_as (s := ⟨#[]⟩) (n := -1) w (by decide)

set_option maxRecDepth 100000 in
set_option maxHeartbeats 4000000 in
theorem mrread_any (s : ByteArray) (hm : s.size ≤ 99999) (w : World) : Calls Try.prog 11 #[.string s] w (MergeRefOut w (mergeL s.data.toList)) := by
  obtain ⟨l, hl⟩ : ∃ l, s.data.toList = l := ⟨_, rfl⟩
  have hln : s.size = l.length := by rw [← hl, str_len]
  have HLE := Lib.hid (fun p hp => line_le l p hp)
  have hL := linesL_length l
  obtain ⟨N, hN⟩ : ∃ N, (linesL l).length = N := ⟨_, rfl⟩
  rw [hN, ← hln] at hL
  rw [hl]
  have HN := Lib.hid hN
  have HLN := Lib.hid hln
  have HLL := Lib.hid (show linesL s.data.toList = linesL l from by rw [hl])
  clear hln hN hl
  go_enter Try.func11, Try.ntmps11
  go_wp2_with fail
  refine (rlines_own (by omega) _ HLL.out HN.out).mono ?_
  rintro e w1 ⟨A1, c1, rfl, h1, hb1⟩
  have S1 := Lib.hid (show w1.ownsRow 0 9 1 (.slice A1 N c1) N (strsV (linesL l)) from World.ownsRow.mono h1 (Nat.zero_le _))
  have G1 := Lib.hid (show w1.heap[w.heap.size]? = some (.cells #[.slice none 0 0, .slice none 0 0, .int .i64 0, .int .i64 0] 39 (0, 0)) from (hb1.block _ (by simp)).trans (heap_alloc_new w _))
  have LT := Lib.hid (show w.heap.size < w1.heap.size from by have := hb1.size; simp at this; omega)
  have B1 := Lib.hid (show Below w.heap.size w w1 from ((Below.refl w.heap.size w).alloc (Nat.le_refl _) _).trans (hb1.mono (by simp)))
  clear hb1 h1
  by_cases hN0 : N = 0
  · have hbz := beq_yes (a := (N : Int)) (b := 0) (by omega)
    have HE := Lib.hid (show ([], [], 1, 2) = mergeL l from by
      unfold mergeL
      rw [List.eq_nil_of_length_eq_zero (HN.out.trans hN0)]
      rfl)
    clear hN0
    go_wp2_with fail
    refine (bad_any 1 2 _).mono ?_
    rintro e wb ⟨rfl, hbb⟩
    have GB := Lib.hid ((hbb.block _ LT.out).trans G1.out)
    have BB := Lib.hid (B1.out.trans (hbb.mono B1.out.size))
    obtain ⟨xb0, xb1, xb2, xb3, yb0, yb1, yb2, yb3⟩ := quad_reads GB.out
    clear hbb
    go_wp2_with fail
    obtain ⟨d0, d1, d2, d3, -⟩ := quad_reads (set_quad GB.out (.slice none 0 0) (.slice none 0 0) (.int .i64 1) (.int .i64 2))
    refine bodyPost_ret (v := .agg #[.slice none 0 0, .slice none 0 0, .int .i64 1, .int .i64 2]) (by simp [results, Try.f11, go_sem, d0, d1, d2, d3]) rfl ?_
    rw [← HE.out]
    exact ⟨none, 0, none, 0, rfl, RowAt.nil, RowAt.nil, quad_below BB.out (Nat.le_refl _) _ _ _ _⟩
  · have hbz := beq_no (a := (N : Int)) (b := 0) (by omega)
    have hN1 : 0 < (linesL l).length := by have := HN.out; omega
    obtain ⟨p0, hp0⟩ : ∃ p0, (linesL l)[0]'hN1 = p0 := ⟨_, rfl⟩
    have hdr0 : linesL l = p0 :: (linesL l).drop 1 := by rw [← hp0]; exact List.drop_eq_getElem_cons hN1
    obtain ⟨g1, o1, hA, hg1, hc1⟩ := (StrsAt.of_own S1.out).cells (by omega)
    subst hA
    have e0 : w1.cell? ⟨g1, o1, none⟩ = some (.string (strOf p0)) := by rw [← hp0]; exact hc1 0 hN1
    have hNp : 0 < N := by omega
    clear hc1 hN0
    by_cases hv : p0 = vocabL
    · have hq : (strOf p0).toList = [118, 111, 99, 97, 98] := by rw [ByteArray.toList_eq, strOf_list]; exact hv
      have HE := Lib.hid (show mergeG 1 [] [] 1 ((linesL l).drop 1) = mergeL l from by
        unfold mergeL
        rw [hdr0, mergeG]
        unfold stepM
        rw [if_pos rfl, if_pos hv]
        rfl)
      clear hv hdr0 hp0
      go_wp2_with fail
      have T1 := Lib.hid (show TabAt (w1.alloc (.cells #[.slice none 0 0, .slice none 0 0, .int .i64 0, .int .i64 0] 39)) w1.heap.size [] [] none 0 none 0 from ⟨heap_alloc_new w1 _, World.ownsRow_nil _ _ _ _, World.ownsRow_nil _ _ _ _⟩)
      have S2 := Lib.hid (S1.out.alloc (.cells #[.slice none 0 0, .slice none 0 0, .int .i64 0, .int .i64 0] 39))
      have G2 := Lib.hid ((Below.heap_alloc w1 (.cells #[.slice none 0 0, .slice none 0 0, .int .i64 0, .int .i64 0] 39) _ LT.out).trans G1.out)
      have B2 := Lib.hid (B1.out.alloc B1.out.size (.cells #[.slice none 0 0, .slice none 0 0, .int .i64 0, .int .i64 0] 39))
      clear e0 hq
      go_loopw [5] (fun i wr => ∃ (k : Nat) (rows : RowsL) (A2 : Option Addr) (c2 : Nat), i = .int .i64 k ∧ k ≤ N ∧ rows.length ≤ 4096 ∧ mergeG 1 rows [] k ((linesL l).drop k) = mergeL l ∧
          TabAt wr w1.heap.size rows [] A2 c2 none 0 ∧ wr.ownsRow 0 9 1 (.slice (some ⟨g1, o1, none⟩) N c1) N (strsV (linesL l)) ∧ wr.heap[w.heap.size]? = some (.cells #[.slice none 0 0, .slice none 0 0, .int .i64 0, .int .i64 0] 39 (0, 0)) ∧ Below w.heap.size w wr) (fun i _ => N - (intOf i).toNat)
      case atStart => exact ⟨1, [], none, 0, rfl, hNp, by simp, HE.out, T1.out, S2.out, G2.out, B2.out⟩
      case round =>
        obtain ⟨k, rows, A2, c2, rfl, hk, hrl, hg, hT, hS, hG, hb⟩ := hrel
        have HT := Lib.hid hT
        have HS := Lib.hid hS
        have HG := Lib.hid hG
        have HB := Lib.hid hb
        have hgw := LT.out
        have hgt := hT.lt
        clear hT hS hG hb
        by_cases hlt : k < N
        · have hkl : k < (linesL l).length := by have := HN.out; omega
          obtain ⟨p, hp⟩ : ∃ p, (linesL l)[k]'hkl = p := ⟨_, rfl⟩
          have hps : p.length ≤ 99999 := by
            have h1 := HLE.out p (by rw [← hp]; exact List.getElem_mem _)
            have := HLN.out; omega
          have hdr : (linesL l).drop k = p :: (linesL l).drop (k + 1) := by rw [← hp]; exact List.drop_eq_getElem_cons hkl
          obtain ⟨g2, o2, hA, hg2, hc2⟩ := (StrsAt.of_own HS.out).cells (by omega)
          obtain ⟨rfl, rfl⟩ : g1 = g2 ∧ o1 = o2 := by injection hA with hA; injection hA with a b; exact ⟨a, b⟩
          have e0 : wr.cell? ⟨g1, o1 + k, none⟩ = some (.string (strOf p)) := by rw [hc2 k hkl, hp]
          rw [hdr, mergeG] at hg
          have HGG := Lib.hid hg
          clear hg hdr hp hc2 hA
          by_cases hm6 : p = mergesL
          · have hq : (strOf p).toList = [109, 101, 114, 103, 101, 115] := by rw [ByteArray.toList_eq, strOf_list]; exact hm6
            have hbn := beq_no (a := (k : Int)) (b := (N : Int)) (by omega)
            have H2 := Lib.hid (show mergeG 2 rows [] (k + 1) ((linesL l).drop (k + 1)) = mergeL l from by
              have h := HGG.out
              unfold stepM at h
              rw [if_neg (show ¬ (1 = 0) from by decide), if_pos (show 1 = 1 from rfl), if_pos hm6] at h
              exact h)
            clear hm6
            go_wp2_with fail
            have hk1 : k + 1 ≤ N := by omega
            have HTo := Lib.hid HT.out
            have HSo := Lib.hid HS.out
            have HGo := Lib.hid HG.out
            have HBo := Lib.hid HB.out
            obtain ⟨wo, hwo⟩ : ∃ wo : World, wo = wr := ⟨_, rfl⟩
            rw [← hwo] at HTo HSo HGo HBo
            clear e0 hq hbn HGG HT HS HG HB hgt
            subst hwo
            go_loopw [5] (fun i wr => ∃ (k : Nat) (pairs : PairsL) (A3 : Option Addr) (c3 : Nat), i = .int .i64 k ∧ k ≤ N ∧ pairs.length ≤ 16384 ∧ mergeG 2 rows pairs k ((linesL l).drop k) = mergeL l ∧
                TabAt wr w1.heap.size rows pairs A2 c2 A3 c3 ∧ wr.ownsRow 0 9 1 (.slice (some ⟨g1, o1, none⟩) N c1) N (strsV (linesL l)) ∧ wr.heap[w.heap.size]? = some (.cells #[.slice none 0 0, .slice none 0 0, .int .i64 0, .int .i64 0] 39 (0, 0)) ∧ Below w.heap.size w wr) (fun i _ => N - (intOf i).toNat)
            case atStart => exact ⟨k + 1, [], none, 0, rfl, hk1, by simp, H2.out, HTo.out, HSo.out, HGo.out, HBo.out⟩
            case round =>
              clear H2 HTo HSo HGo HBo hk1 hlt hkl hps hk
              obtain ⟨k, pairs, A3, c3, rfl, hk, hpl, hg, hT, hS, hG, hb⟩ := hrel
              have HT := Lib.hid hT
              have HS := Lib.hid hS
              have HG := Lib.hid hG
              have HB := Lib.hid hb
              have hgt := hT.lt
              clear hT hS hG hb
              by_cases hlt : k < N
              · have hkl : k < (linesL l).length := by have := HN.out; omega
                obtain ⟨p, hp⟩ : ∃ p, (linesL l)[k]'hkl = p := ⟨_, rfl⟩
                have hps : p.length ≤ 99999 := by
                  have h1 := HLE.out p (by rw [← hp]; exact List.getElem_mem _)
                  have := HLN.out; omega
                have hdr : (linesL l).drop k = p :: (linesL l).drop (k + 1) := by rw [← hp]; exact List.drop_eq_getElem_cons hkl
                obtain ⟨g2, o2, hA, hg2, hc2⟩ := (StrsAt.of_own HS.out).cells (by omega)
                obtain ⟨rfl, rfl⟩ : g1 = g2 ∧ o1 = o2 := by injection hA with hA; injection hA with a b; exact ⟨a, b⟩
                have e0 : wr.cell? ⟨g1, o1 + k, none⟩ = some (.string (strOf p)) := by rw [hc2 k hkl, hp]
                rw [hdr, mergeG] at hg
                have HGG := Lib.hid hg
                clear hg hdr hp hc2 hA
                by_cases hw : ∃ a b, wordsL p = some [a, b]
                · obtain ⟨a, b, hw⟩ := hw
                  obtain ⟨t, m, oa, hd⟩ : ∃ t m ok, rdAt a 0 = (t, m, ok) := ⟨_, _, _, rfl⟩
                  obtain ⟨u, m2, ob, he⟩ : ∃ t m ok, rdAt b 0 = (t, m, ok) := ⟨_, _, _, rfl⟩
                  obtain ⟨oo, hoo⟩ : ∃ oo, (oa && ob) = oo := ⟨_, rfl⟩
                  have HPR := Lib.hid (show pairM p = if oo = false then ([], [], 2) else if 64 < t.length ∨ 64 < u.length then ([], [], 7) else (t, u, 0) from by rw [pairM_ref hw hd he, hoo])
                  have HW := Lib.hid hw
                  have HD := Lib.hid hd
                  have HE2 := Lib.hid he
                  have HOO := Lib.hid hoo
                  clear hw hd he hoo
                  go_wp2_with fail
                  refine (two_both hps _ HW.out HD.out HE2.out).mono ?_
                  rw [HOO.out]
                  rintro e w2 ⟨rfl, hb2⟩
                  have B2 := Lib.hid (HB.out.trans (hb2.mono HB.out.size))
                  have T2 := Lib.hid (HT.out.below hb2)
                  have S2 := Lib.hid (own_kept HS.out hb2 (Nat.le_refl _))
                  have G2 := Lib.hid ((hb2.block _ (by omega)).trans HG.out)
                  have hz2 := T2.out.lt
                  clear hb2 e0
                  cases oo with
                  | false =>
                    have HE := Lib.hid (mergeG_err HGG.out (stepM_pair_bad (HPR.out.trans (if_pos rfl)) (by decide)) (by decide))
                    go_wp2_with fail
                    refine (bad_any ((k : Int) + 1) 2 _).mono ?_
                    rintro e wb ⟨rfl, hbb⟩
                    have GB := Lib.hid ((hbb.block _ (by omega)).trans G2.out)
                    have BB := Lib.hid (B2.out.trans (hbb.mono B2.out.size))
                    obtain ⟨xb0, xb1, xb2, xb3, yb0, yb1, yb2, yb3⟩ := quad_reads GB.out
                    clear hbb
                    go_wp2_with fail
                    obtain ⟨d0, d1, d2, d3, -⟩ := quad_reads (set_quad GB.out (.slice none 0 0) (.slice none 0 0) (.int .i64 ((k : Int) + 1)) (.int .i64 2))
                    refine bodyPost_ret (v := .agg #[.slice none 0 0, .slice none 0 0, .int .i64 ((k : Int) + 1), .int .i64 2]) (by simp [results, Try.f11, go_sem, d0, d1, d2, d3]) rfl ?_
                    rw [← HE.out]
                    exact ⟨none, 0, none, 0, rfl, RowAt.nil, RowAt.nil, quad_below BB.out (Nat.le_refl _) _ _ _ _⟩
                  | true =>
                    obtain ⟨x0, x1, x2, x3, y0, y1, y2, y3⟩ := T2.out.reads
                    by_cases h64 : 64 < (strOf t).size
                    · have h64' : (64 : Int) < ((strOf t).size : Int) := by omega
                      have HE := Lib.hid (mergeG_err HGG.out (stepM_pair_bad (HPR.out.trans ((if_neg (by decide)).trans (if_pos (.inl h64)))) (by decide)) (by decide))
                      go_wp2_with fail
                      refine (bad_any ((k : Int) + 1) 7 _).mono ?_
                      rintro e wb ⟨rfl, hbb⟩
                      have GB := Lib.hid ((hbb.block _ (by omega)).trans G2.out)
                      have BB := Lib.hid (B2.out.trans (hbb.mono B2.out.size))
                      obtain ⟨xb0, xb1, xb2, xb3, yb0, yb1, yb2, yb3⟩ := quad_reads GB.out
                      clear hbb
                      go_wp2_with fail
                      obtain ⟨d0, d1, d2, d3, -⟩ := quad_reads (set_quad GB.out (.slice none 0 0) (.slice none 0 0) (.int .i64 ((k : Int) + 1)) (.int .i64 7))
                      refine bodyPost_ret (v := .agg #[.slice none 0 0, .slice none 0 0, .int .i64 ((k : Int) + 1), .int .i64 7]) (by simp [results, Try.f11, go_sem, d0, d1, d2, d3]) rfl ?_
                      rw [← HE.out]
                      exact ⟨none, 0, none, 0, rfl, RowAt.nil, RowAt.nil, quad_below BB.out (Nat.le_refl _) _ _ _ _⟩
                    · have h64' : ¬ (64 : Int) < ((strOf t).size : Int) := by omega
                      by_cases h65 : 64 < (strOf u).size
                      · have h65' : (64 : Int) < ((strOf u).size : Int) := by omega
                        have HE := Lib.hid (mergeG_err HGG.out (stepM_pair_bad (HPR.out.trans ((if_neg (by decide)).trans (if_pos (.inr h65)))) (by decide)) (by decide))
                        go_wp2_with fail
                        refine (bad_any ((k : Int) + 1) 7 _).mono ?_
                        rintro e wb ⟨rfl, hbb⟩
                        have GB := Lib.hid ((hbb.block _ (by omega)).trans G2.out)
                        have BB := Lib.hid (B2.out.trans (hbb.mono B2.out.size))
                        obtain ⟨xb0, xb1, xb2, xb3, yb0, yb1, yb2, yb3⟩ := quad_reads GB.out
                        clear hbb
                        go_wp2_with fail
                        obtain ⟨d0, d1, d2, d3, -⟩ := quad_reads (set_quad GB.out (.slice none 0 0) (.slice none 0 0) (.int .i64 ((k : Int) + 1)) (.int .i64 7))
                        refine bodyPost_ret (v := .agg #[.slice none 0 0, .slice none 0 0, .int .i64 ((k : Int) + 1), .int .i64 7]) (by simp [results, Try.f11, go_sem, d0, d1, d2, d3]) rfl ?_
                        rw [← HE.out]
                        exact ⟨none, 0, none, 0, rfl, RowAt.nil, RowAt.nil, quad_below BB.out (Nat.le_refl _) _ _ _ _⟩
                      · have h65' : ¬ (64 : Int) < ((strOf u).size : Int) := by omega
                        have HRO := Lib.hid (show pairM p = (t, u, 0) from HPR.out.trans ((if_neg (by decide)).trans (if_neg (fun h => h.elim h64 h65))))
                        by_cases h4 : 16384 ≤ pairs.length
                        · have h4' : (16384 : Int) ≤ (pairs.length : Int) := by omega
                          have HE := Lib.hid (mergeG_err HGG.out (stepM_pair_full HRO.out h4) (by decide))
                          go_wp2_with fail
                          refine (bad_any ((k : Int) + 1) 7 _).mono ?_
                          rintro e wb ⟨rfl, hbb⟩
                          have GB := Lib.hid ((hbb.block _ (by omega)).trans G2.out)
                          have BB := Lib.hid (B2.out.trans (hbb.mono B2.out.size))
                          obtain ⟨xb0, xb1, xb2, xb3, yb0, yb1, yb2, yb3⟩ := quad_reads GB.out
                          clear hbb
                          go_wp2_with fail
                          obtain ⟨d0, d1, d2, d3, -⟩ := quad_reads (set_quad GB.out (.slice none 0 0) (.slice none 0 0) (.int .i64 ((k : Int) + 1)) (.int .i64 7))
                          refine bodyPost_ret (v := .agg #[.slice none 0 0, .slice none 0 0, .int .i64 ((k : Int) + 1), .int .i64 7]) (by simp [results, Try.f11, go_sem, d0, d1, d2, d3]) rfl ?_
                          rw [← HE.out]
                          exact ⟨none, 0, none, 0, rfl, RowAt.nil, RowAt.nil, quad_below BB.out (Nat.le_refl _) _ _ _ _⟩
                        · have h4' : ¬ (16384 : Int) ≤ (pairs.length : Int) := by omega
                          have HE := Lib.hid (mergeG_ok HGG.out (stepM_pair_ok (rows := rows) HRO.out h4))
                          have HON := Lib.hid (one_pair (t, u))
                          have HSN := Lib.hid (show pairsV pairs ++ [.string (strOf t), .string (strOf u)] = pairsV (pairs ++ [(t, u)]) from (pairsV_snoc pairs (t, u)).symm)
                          have HRB := Lib.hid (row_blk w2 (.string (strOf t)) (.string (strOf u)) 60 (g := w2.heap.size) rfl)
                          have L1 := Lib.hid (show w1.heap.size + 1 ≤ (w2.alloc (.cells #[.string (strOf t), .string (strOf u)] 60)).heap.size from by simp; omega)
                          have W2B := Lib.hid ((Below.heap_alloc w2 (.cells #[.string (strOf t), .string (strOf u)] 60) _ hz2).trans T2.out.blk)
                          go_wp2_with (at_builtin; refine wpList_append_row rfl (.tmp 129) (.tmp 133) _ rfl (w1.heap.size + 1) 60 _ 2 32 Try.underlying33 infoPair rfl (by decide) (.slice A3 pairs.length c3) pairs.length (pairsV pairs) rfl (T2.out.pairs.alloc _) (w2.heap.size + 1) (some ⟨w2.heap.size, 0, none⟩) 1 1 [.string (strOf t), .string (strOf u)] rfl HRB.out HON.out (pairs.length + 1) rfl (pairsV (pairs ++ [(t, u)])) HSN.out (by unfold maxLen; omega) (by omega) L1.out ?_; intro A5 c5 w5 hown5 hb5 hg5; have O5 := Lib.hid hown5; have B5 := Lib.hid hb5; have G5 := Lib.hid hg5; have W5 := Lib.hid ((hb5.block w1.heap.size (Nat.lt_succ_self _)).trans W2B.out); obtain ⟨p1, q1⟩ : w5.cell? ⟨w1.heap.size, 1, none⟩ = some (.slice A3 pairs.length c3) ∧ w5.frozen? ⟨w1.heap.size, 1, none⟩ = false := ⟨Lib.cell_of_heap W5.out 1, Lib.frozen_of_heap W5.out 1⟩; clear hown5 hb5 hg5)
                          go_roundw
                          case rel =>
                            have S5 := (S2.out.alloc (.cells #[.string (strOf t), .string (strOf u)] 60)).kept G5.out (own_apart S2.out T2.out.pairs (by decide))
                            have R5 := (T2.out.rows.alloc (.cells #[.string (strOf t), .string (strOf u)] 60)).kept G5.out (own_apart T2.out.rows T2.out.pairs (by decide))
                            have BB : Below w.heap.size w w5 := B2.out.trans (((Below.refl _ w2).alloc (by omega) _).trans (B5.out.mono (by omega)))
                            have GG : w5.heap[w.heap.size]? = some (.cells #[.slice none 0 0, .slice none 0 0, .int .i64 0, .int .i64 0] 39 (0, 0)) := (B5.out.block _ (by omega)).trans ((Below.heap_alloc _ _ _ (by omega)).trans G2.out)
                            refine ⟨k + 1, pairs ++ [(t, u)], A5, c5, rfl, by omega, by rw [List.length_append]; simp; omega, HE.out, ⟨?_, own_set_other R5 W5.out (by decide), ?_⟩, own_set_other S5 W5.out (by decide), ?_, BB.setCell (p := ⟨w1.heap.size, 1, none⟩) (Nat.le_of_lt hgw) _⟩
                            · rw [heap_set_at W5.out, List.length_append]; rfl
                            · rw [List.length_append]; exact own_set_other O5.out W5.out (by decide)
                            · exact (Below.heap_setCell w5 ⟨w1.heap.size, 1, none⟩ _ w.heap.size (by show w.heap.size ≠ w1.heap.size; omega)).trans GG
                          case measure => show N - ((k : Int) + 1).toNat < N - ((k : Int)).toNat; omega
                · have hw' : ∀ a b, wordsL p ≠ some [a, b] := fun a b e => hw ⟨a, b, e⟩
                  have HWN := Lib.hid hw'
                  have HE := Lib.hid (mergeG_err HGG.out (stepM_pair_bad (rows := rows) (pairs := pairs) (pairM_bad hw') (by decide)) (by decide))
                  clear hw hw'
                  go_wp2_with fail
                  refine (two_bad p hps true _ HWN.out).mono ?_
                  rintro e w2 ⟨rfl, hb2⟩
                  have B2 := Lib.hid (HB.out.trans (hb2.mono HB.out.size))
                  have T2 := Lib.hid (HT.out.below hb2)
                  have S2 := Lib.hid (own_kept HS.out hb2 (Nat.le_refl _))
                  have G2 := Lib.hid ((hb2.block _ (by omega)).trans HG.out)
                  have hz2 := T2.out.lt
                  clear hb2 e0
                  go_wp2_with fail
                  refine (bad_any ((k : Int) + 1) 2 _).mono ?_
                  rintro e wb ⟨rfl, hbb⟩
                  have GB := Lib.hid ((hbb.block _ (by omega)).trans G2.out)
                  have BB := Lib.hid (B2.out.trans (hbb.mono B2.out.size))
                  obtain ⟨xb0, xb1, xb2, xb3, yb0, yb1, yb2, yb3⟩ := quad_reads GB.out
                  clear hbb
                  go_wp2_with fail
                  obtain ⟨d0, d1, d2, d3, -⟩ := quad_reads (set_quad GB.out (.slice none 0 0) (.slice none 0 0) (.int .i64 ((k : Int) + 1)) (.int .i64 2))
                  refine bodyPost_ret (v := .agg #[.slice none 0 0, .slice none 0 0, .int .i64 ((k : Int) + 1), .int .i64 2]) (by simp [results, Try.f11, go_sem, d0, d1, d2, d3]) rfl ?_
                  rw [← HE.out]
                  exact ⟨none, 0, none, 0, rfl, RowAt.nil, RowAt.nil, quad_below BB.out (Nat.le_refl _) _ _ _ _⟩
              · obtain rfl : k = N := by omega
                have hdr : (linesL l).drop k = [] := List.drop_of_length_le (by have := HN.out; omega)
                have HE := Lib.hid (show (rows, pairs, 0, 0) = mergeL l from by rw [hdr, mergeG, if_pos rfl] at hg; exact hg)
                clear hg hdr
                obtain ⟨x0, x1, x2, x3, y0, y1, y2, y3⟩ := HT.out.reads
                obtain ⟨xb0, xb1, xb2, xb3, yb0, yb1, yb2, yb3⟩ := quad_reads HG.out
                go_wp2_with fail
                obtain ⟨d0, d1, d2, d3, -⟩ := quad_reads (set_quad HG.out (.slice A2 rows.length c2) (.slice A3 pairs.length c3) (.int .i64 0) (.int .i64 0))
                refine bodyPost_ret (v := .agg #[.slice A2 rows.length c2, .slice A3 pairs.length c3, .int .i64 0, .int .i64 0]) (by simp [results, Try.f11, go_sem, d0, d1, d2, d3]) rfl ?_
                rw [← HE.out]
                exact ⟨A2, c2, A3, c3, rfl, RowAt.of_own (quad_own HT.out.rows (by omega) _ _ _ _), RowAt.of_own (quad_own HT.out.pairs (by omega) _ _ _ _), quad_below HB.out (Nat.le_refl _) _ _ _ _⟩
          · have hq := merges_ne hm6
            have HNM := Lib.hid hm6
            clear hm6
            by_cases hw : ∃ a b, wordsL p = some [a, b]
            · obtain ⟨a, b, hw⟩ := hw
              obtain ⟨t, m, ok, hd⟩ : ∃ t m ok, rdAt a 0 = (t, m, ok) := ⟨_, _, _, rfl⟩
              obtain ⟨nb, hnb⟩ : ∃ nb, refN b = nb := ⟨_, rfl⟩
              have hrr := rowM_ref hw hd hnb
              have hnlo : -1 ≤ nb ∧ nb ≤ 9999999 := by
                cases hq : numL b with
                | none => rw [refN_none hq] at hnb; omega
                | some q => rw [refN_some hq] at hnb; have := numL_bound hq; omega
              have HRR := Lib.hid hrr
              have HW := Lib.hid hw
              have HD := Lib.hid hd
              have HNB := Lib.hid (show refN (strOf b).data.toList = nb from hnb)
              clear hw hd hnb hrr
              go_wp2_with fail
              refine (two_one hps _ HW.out HD.out).mono ?_
              rintro e w2 ⟨rfl, hb2⟩
              have B2 := Lib.hid (HB.out.trans (hb2.mono HB.out.size))
              have T2 := Lib.hid (HT.out.below hb2)
              have S2 := Lib.hid (own_kept HS.out hb2 (Nat.le_refl _))
              have G2 := Lib.hid ((hb2.block _ (by omega)).trans HG.out)
              clear hb2 e0
              go_wp2_with fail
              refine (rnum_as _ HNB.out).mono ?_
              rintro e w3 ⟨rfl, hb3⟩
              have hz2 := T2.out.lt
              have B3 := Lib.hid (B2.out.trans (hb3.mono B2.out.size))
              have T3 := Lib.hid (T2.out.below hb3)
              have S3 := Lib.hid (own_kept S2.out hb3 (Nat.le_refl _))
              have G3 := Lib.hid ((hb3.block _ (by omega)).trans G2.out)
              have hz3 := T3.out.lt
              clear hb3
              by_cases hbad : ok = false ∨ nb < 0
              · have HE := Lib.hid (mergeG_err HGG.out (stepM_row_err HNM.out (HRR.out.1 hbad) (by decide)) (by decide))
                rcases hbad with rfl | hneg
                · go_wp2_with fail
                  refine (bad_any ((k : Int) + 1) 2 _).mono ?_
                  rintro e wb ⟨rfl, hbb⟩
                  have GB := Lib.hid ((hbb.block _ (by omega)).trans G3.out)
                  have BB := Lib.hid (B3.out.trans (hbb.mono B3.out.size))
                  obtain ⟨xb0, xb1, xb2, xb3, yb0, yb1, yb2, yb3⟩ := quad_reads GB.out
                  clear hbb
                  go_wp2_with fail
                  obtain ⟨d0, d1, d2, d3, -⟩ := quad_reads (set_quad GB.out (.slice none 0 0) (.slice none 0 0) (.int .i64 ((k : Int) + 1)) (.int .i64 2))
                  refine bodyPost_ret (v := .agg #[.slice none 0 0, .slice none 0 0, .int .i64 ((k : Int) + 1), .int .i64 2]) (by simp [results, Try.f11, go_sem, d0, d1, d2, d3]) rfl ?_
                  rw [← HE.out]
                  exact ⟨none, 0, none, 0, rfl, RowAt.nil, RowAt.nil, quad_below BB.out (Nat.le_refl _) _ _ _ _⟩
                · cases ok with
                  | false =>
                    go_wp2_with fail
                    refine (bad_any ((k : Int) + 1) 2 _).mono ?_
                    rintro e wb ⟨rfl, hbb⟩
                    have GB := Lib.hid ((hbb.block _ (by omega)).trans G3.out)
                    have BB := Lib.hid (B3.out.trans (hbb.mono B3.out.size))
                    obtain ⟨xb0, xb1, xb2, xb3, yb0, yb1, yb2, yb3⟩ := quad_reads GB.out
                    clear hbb
                    go_wp2_with fail
                    obtain ⟨d0, d1, d2, d3, -⟩ := quad_reads (set_quad GB.out (.slice none 0 0) (.slice none 0 0) (.int .i64 ((k : Int) + 1)) (.int .i64 2))
                    refine bodyPost_ret (v := .agg #[.slice none 0 0, .slice none 0 0, .int .i64 ((k : Int) + 1), .int .i64 2]) (by simp [results, Try.f11, go_sem, d0, d1, d2, d3]) rfl ?_
                    rw [← HE.out]
                    exact ⟨none, 0, none, 0, rfl, RowAt.nil, RowAt.nil, quad_below BB.out (Nat.le_refl _) _ _ _ _⟩
                  | true =>
                    go_wp2_with fail
                    refine (bad_any ((k : Int) + 1) 2 _).mono ?_
                    rintro e wb ⟨rfl, hbb⟩
                    have GB := Lib.hid ((hbb.block _ (by omega)).trans G3.out)
                    have BB := Lib.hid (B3.out.trans (hbb.mono B3.out.size))
                    obtain ⟨xb0, xb1, xb2, xb3, yb0, yb1, yb2, yb3⟩ := quad_reads GB.out
                    clear hbb
                    go_wp2_with fail
                    obtain ⟨d0, d1, d2, d3, -⟩ := quad_reads (set_quad GB.out (.slice none 0 0) (.slice none 0 0) (.int .i64 ((k : Int) + 1)) (.int .i64 2))
                    refine bodyPost_ret (v := .agg #[.slice none 0 0, .slice none 0 0, .int .i64 ((k : Int) + 1), .int .i64 2]) (by simp [results, Try.f11, go_sem, d0, d1, d2, d3]) rfl ?_
                    rw [← HE.out]
                    exact ⟨none, 0, none, 0, rfl, RowAt.nil, RowAt.nil, quad_below BB.out (Nat.le_refl _) _ _ _ _⟩
              · have hok : ok = true := by
                  cases ok with
                  | true => rfl
                  | false => exact absurd (.inl rfl) hbad
                have hneg : ¬ nb < 0 := fun h => hbad (.inr h)
                have hneg' : 0 ≤ nb := by omega
                have HBAD := Lib.hid hbad
                clear hbad
                subst hok
                obtain ⟨x0, x1, x2, x3, y0, y1, y2, y3⟩ := T3.out.reads
                by_cases h64 : 64 < (strOf t).size
                · have h64' : (64 : Int) < ((strOf t).size : Int) := by omega
                  have HE := Lib.hid (mergeG_err HGG.out (stepM_row_err HNM.out (HRR.out.2.1 HBAD.out h64) (by decide)) (by decide))
                  go_wp2_with fail
                  refine (bad_any ((k : Int) + 1) 7 _).mono ?_
                  rintro e wb ⟨rfl, hbb⟩
                  have GB := Lib.hid ((hbb.block _ (by omega)).trans G3.out)
                  have BB := Lib.hid (B3.out.trans (hbb.mono B3.out.size))
                  obtain ⟨xb0, xb1, xb2, xb3, yb0, yb1, yb2, yb3⟩ := quad_reads GB.out
                  clear hbb
                  go_wp2_with fail
                  obtain ⟨d0, d1, d2, d3, -⟩ := quad_reads (set_quad GB.out (.slice none 0 0) (.slice none 0 0) (.int .i64 ((k : Int) + 1)) (.int .i64 7))
                  refine bodyPost_ret (v := .agg #[.slice none 0 0, .slice none 0 0, .int .i64 ((k : Int) + 1), .int .i64 7]) (by simp [results, Try.f11, go_sem, d0, d1, d2, d3]) rfl ?_
                  rw [← HE.out]
                  exact ⟨none, 0, none, 0, rfl, RowAt.nil, RowAt.nil, quad_below BB.out (Nat.le_refl _) _ _ _ _⟩
                · have h64' : ¬ (64 : Int) < ((strOf t).size : Int) := by omega
                  obtain ⟨q, rfl⟩ := Int.eq_ofNat_of_zero_le hneg'
                  have HRO := Lib.hid (HRR.out.2.2 HBAD.out h64)
                  by_cases h4 : 4096 ≤ rows.length
                  · have h4' : (4096 : Int) ≤ (rows.length : Int) := by omega
                    have HE := Lib.hid (mergeG_err HGG.out (stepM_row_full HNM.out HRO.out h4) (by decide))
                    go_wp2_with fail
                    refine (bad_any ((k : Int) + 1) 7 _).mono ?_
                    rintro e wb ⟨rfl, hbb⟩
                    have GB := Lib.hid ((hbb.block _ (by omega)).trans G3.out)
                    have BB := Lib.hid (B3.out.trans (hbb.mono B3.out.size))
                    obtain ⟨xb0, xb1, xb2, xb3, yb0, yb1, yb2, yb3⟩ := quad_reads GB.out
                    clear hbb
                    go_wp2_with fail
                    obtain ⟨d0, d1, d2, d3, -⟩ := quad_reads (set_quad GB.out (.slice none 0 0) (.slice none 0 0) (.int .i64 ((k : Int) + 1)) (.int .i64 7))
                    refine bodyPost_ret (v := .agg #[.slice none 0 0, .slice none 0 0, .int .i64 ((k : Int) + 1), .int .i64 7]) (by simp [results, Try.f11, go_sem, d0, d1, d2, d3]) rfl ?_
                    rw [← HE.out]
                    exact ⟨none, 0, none, 0, rfl, RowAt.nil, RowAt.nil, quad_below BB.out (Nat.le_refl _) _ _ _ _⟩
                  · have h4' : ¬ (4096 : Int) ≤ (rows.length : Int) := by omega
                    have HE := Lib.hid (mergeG_ok HGG.out (stepM_row_ok HNM.out HRO.out h4))
                    have HON := Lib.hid (one_row (t, q))
                    have HSN := Lib.hid (show rowsV rows ++ [.string (strOf t), .int .i64 (q : Int)] = rowsV (rows ++ [(t, q)]) from (rowsV_snoc rows (t, q)).symm)
                    have HRB := Lib.hid (row_blk w3 (.string (strOf t)) (.int .i64 (q : Int)) 43 (g := w3.heap.size) rfl)
                    have L1 := Lib.hid (show w1.heap.size + 1 ≤ (w3.alloc (.cells #[.string (strOf t), .int .i64 (q : Int)] 43)).heap.size from by simp; omega)
                    have W3B := Lib.hid ((Below.heap_alloc w3 (.cells #[.string (strOf t), .int .i64 (q : Int)] 43) _ hz3).trans T3.out.blk)
                    go_wp2_with (at_builtin; refine wpList_append_row rfl (.tmp 72) (.tmp 76) _ rfl (w1.heap.size + 1) 43 _ 2 24 Try.underlying24 infoRow rfl (by decide) (.slice A2 rows.length c2) rows.length (rowsV rows) rfl (T3.out.rows.alloc _) (w3.heap.size + 1) (some ⟨w3.heap.size, 0, none⟩) 1 1 [.string (strOf t), .int .i64 (q : Int)] rfl HRB.out HON.out (rows.length + 1) rfl (rowsV (rows ++ [(t, q)])) HSN.out (by unfold maxLen; omega) (by omega) L1.out ?_; intro A5 c5 w5 hown5 hb5 hg5; have O5 := Lib.hid hown5; have B5 := Lib.hid hb5; have G5 := Lib.hid hg5; have W5 := Lib.hid ((hb5.block w1.heap.size (Nat.lt_succ_self _)).trans W3B.out); obtain ⟨p1, q1⟩ : w5.cell? ⟨w1.heap.size, 0, none⟩ = some (.slice A2 rows.length c2) ∧ w5.frozen? ⟨w1.heap.size, 0, none⟩ = false := ⟨Lib.cell_of_heap W5.out 0, Lib.frozen_of_heap W5.out 0⟩; clear hown5 hb5 hg5)
                    go_roundw
                    case rel =>
                      have S5 := (S3.out.alloc (.cells #[.string (strOf t), .int .i64 (q : Int)] 43)).kept G5.out (own_apart S3.out T3.out.rows (by decide))
                      have BB : Below w.heap.size w w5 := B3.out.trans (((Below.refl _ w3).alloc (by omega) _).trans (B5.out.mono (by omega)))
                      have GG : w5.heap[w.heap.size]? = some (.cells #[.slice none 0 0, .slice none 0 0, .int .i64 0, .int .i64 0] 39 (0, 0)) := (B5.out.block _ (by omega)).trans ((Below.heap_alloc _ _ _ (by omega)).trans G3.out)
                      refine ⟨k + 1, rows ++ [(t, q)], A5, c5, rfl, by omega, by rw [List.length_append]; simp; omega, HE.out, ⟨?_, ?_, World.ownsRow_nil _ _ _ _⟩, own_set_other S5 W5.out (by decide), ?_, BB.setCell (p := ⟨w1.heap.size, 0, none⟩) (Nat.le_of_lt hgw) _⟩
                      · rw [heap_set_at W5.out, List.length_append]; rfl
                      · rw [List.length_append]; exact own_set_other O5.out W5.out (by decide)
                      · exact (Below.heap_setCell w5 ⟨w1.heap.size, 0, none⟩ _ w.heap.size (by show w.heap.size ≠ w1.heap.size; omega)).trans GG
                    case measure => show N - ((k : Int) + 1).toNat < N - ((k : Int)).toNat; omega
            · have hw' : ∀ a b, wordsL p ≠ some [a, b] := fun a b e => hw ⟨a, b, e⟩
              have HWN := Lib.hid hw'
              have HE := Lib.hid (mergeG_err HGG.out (stepM_row_err HNM.out (show (rowM p).2.2 = 2 from by rw [rowM_bad hw']) (by decide)) (by decide))
              clear hw hw'
              go_wp2_with fail
              refine (two_bad p hps false _ HWN.out).mono ?_
              rintro e w2 ⟨rfl, hb2⟩
              have B2 := Lib.hid (HB.out.trans (hb2.mono HB.out.size))
              have T2 := Lib.hid (HT.out.below hb2)
              have S2 := Lib.hid (own_kept HS.out hb2 (Nat.le_refl _))
              have G2 := Lib.hid ((hb2.block _ (by omega)).trans HG.out)
              clear hb2 e0
              go_wp2_with fail
              refine (rnum_nil _).mono ?_
              rintro e w3 ⟨rfl, hb3⟩
              have B3 := Lib.hid (B2.out.trans (hb3.mono B2.out.size))
              have hz2 := T2.out.lt
              have G3 := Lib.hid ((hb3.block _ (by omega)).trans G2.out)
              have hz3 : w.heap.size < w3.heap.size := (Array.getElem?_eq_some_iff.1 G3.out).1
              clear hb3
              go_wp2_with fail
              refine (bad_any ((k : Int) + 1) 2 _).mono ?_
              rintro e wb ⟨rfl, hbb⟩
              have GB := Lib.hid ((hbb.block _ (by omega)).trans G3.out)
              have BB := Lib.hid (B3.out.trans (hbb.mono B3.out.size))
              obtain ⟨xb0, xb1, xb2, xb3, yb0, yb1, yb2, yb3⟩ := quad_reads GB.out
              clear hbb
              go_wp2_with fail
              obtain ⟨d0, d1, d2, d3, -⟩ := quad_reads (set_quad GB.out (.slice none 0 0) (.slice none 0 0) (.int .i64 ((k : Int) + 1)) (.int .i64 2))
              refine bodyPost_ret (v := .agg #[.slice none 0 0, .slice none 0 0, .int .i64 ((k : Int) + 1), .int .i64 2]) (by simp [results, Try.f11, go_sem, d0, d1, d2, d3]) rfl ?_
              rw [← HE.out]
              exact ⟨none, 0, none, 0, rfl, RowAt.nil, RowAt.nil, quad_below BB.out (Nat.le_refl _) _ _ _ _⟩
        · obtain rfl : k = N := by omega
          have hdr : (linesL l).drop k = [] := List.drop_of_length_le (by have := HN.out; omega)
          have HE := Lib.hid (show ([], [], k + 1, 2) = mergeL l from by rw [hdr, mergeG, if_neg (by decide)] at hg; exact hg)
          clear hg hdr
          go_wp2_with fail
          refine (bad_any ((k : Int) + 1) 2 _).mono ?_
          rintro e wb ⟨rfl, hbb⟩
          have GB := Lib.hid ((hbb.block _ (by omega)).trans HG.out)
          have BB := Lib.hid (HB.out.trans (hbb.mono HB.out.size))
          obtain ⟨xb0, xb1, xb2, xb3, yb0, yb1, yb2, yb3⟩ := quad_reads GB.out
          clear hbb
          go_wp2_with fail
          obtain ⟨d0, d1, d2, d3, -⟩ := quad_reads (set_quad GB.out (.slice none 0 0) (.slice none 0 0) (.int .i64 ((k : Int) + 1)) (.int .i64 2))
          refine bodyPost_ret (v := .agg #[.slice none 0 0, .slice none 0 0, .int .i64 ((k : Int) + 1), .int .i64 2]) (by simp [results, Try.f11, go_sem, d0, d1, d2, d3]) rfl ?_
          rw [← HE.out]
          exact ⟨none, 0, none, 0, rfl, RowAt.nil, RowAt.nil, quad_below BB.out (Nat.le_refl _) _ _ _ _⟩
    · have hq := vocab_ne hv
      have HE := Lib.hid (show ([], [], 1, 2) = mergeL l from by
        unfold mergeL
        rw [hdr0, mergeG]
        unfold stepM
        rw [if_pos rfl, if_neg hv]
        rfl)
      clear hv hdr0 hp0
      go_wp2_with fail
      refine (bad_any 1 2 _).mono ?_
      rintro e wb ⟨rfl, hbb⟩
      have GB := Lib.hid ((hbb.block _ LT.out).trans G1.out)
      have BB := Lib.hid (B1.out.trans (hbb.mono B1.out.size))
      obtain ⟨xb0, xb1, xb2, xb3, yb0, yb1, yb2, yb3⟩ := quad_reads GB.out
      clear hbb
      go_wp2_with fail
      obtain ⟨d0, d1, d2, d3, -⟩ := quad_reads (set_quad GB.out (.slice none 0 0) (.slice none 0 0) (.int .i64 1) (.int .i64 2))
      refine bodyPost_ret (v := .agg #[.slice none 0 0, .slice none 0 0, .int .i64 1, .int .i64 2]) (by simp [results, Try.f11, go_sem, d0, d1, d2, d3]) rfl ?_
      rw [← HE.out]
      exact ⟨none, 0, none, 0, rfl, RowAt.nil, RowAt.nil, quad_below BB.out (Nat.le_refl _) _ _ _ _⟩
end Go.Proofs.Ytefhifmilmedhaa
