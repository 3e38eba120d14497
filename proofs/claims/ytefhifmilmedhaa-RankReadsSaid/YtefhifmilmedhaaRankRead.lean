/- The walk of rank.Read. -/
import Derived.Test.YtefhifmilmedhaaRankRow
import Derived.Test.YtefhifmilmedhaaRowsV
namespace Go.Proofs.Ytefhifmilmedhaa
open Go.RowKit

set_option maxRecDepth 100000 in
set_option maxHeartbeats 1000000 in
theorem read_any {A : Option Addr} {n c : Nat} {l : List UInt8} (w : World) (hl : BytesAt w w.heap.size A n c l) (hm : n ≤ 99999) : Calls Try.prog 6 #[.slice A n c] w fun e w' =>
    ∃ A' c', e = .returned (.tuple #[.slice A' (readL l).1.length c', .agg #[.int .i64 ((readL l).2.1 : Int), .int .i64 ((readL l).2.2 : Int)]]) ∧ RowAt w' w'.heap.size 2 A' (readL l).1.length c' (rowsV (readL l).1) ∧ Below w.heap.size w w' := by
  have hln := hl.len
  have HLE := Lib.hid (fun p hp => line_le l p hp)
  have hL := linesL_length l
  obtain ⟨N, hN⟩ : ∃ N, (linesL l).length = N := ⟨_, rfl⟩
  rw [hN, ← hln] at hL
  have HN := Lib.hid hN
  have HLN := Lib.hid hln
  have HH := Lib.hid hl
  clear hln hN hl
  go_enter Try.func6, Try.ntmps6
  go_wp2_with fail
  refine (lines_as _ (RowAt.mono (RowAt.alloc HH.out (Nat.le_refl _) _) (by simp)) (by omega) rfl HN.out).mono ?_
  rintro e w1 ⟨A1, c1, rfl, h1, hb1⟩
  have S1 := Lib.hid h1
  have G1 := Lib.hid (show w1.heap[w.heap.size]? = some (.cells #[.int .i64 0, .int .i64 0] 27 (0, 0)) from (hb1.block _ (by simp)).trans (heap_alloc_new w _))
  have B1 := Lib.hid (((Below.refl w.heap.size w).alloc (Nat.le_refl _) _).trans (hb1.mono (by simp)))
  have LT := Lib.hid (show w.heap.size < w1.heap.size from by have := hb1.size; simp at this; omega)
  clear hb1 h1
  go_wp2_with fail
  go_loopw [4, 12] (fun v i wr => ∃ (k : Nat) (pre : List (List UInt8 × Nat)) (A4 : Option Addr) (c4 : Nat), v = .slice A4 pre.length c4 ∧ i = .int .i64 k ∧ k ≤ N ∧ pre.length ≤ k ∧ readG pre k ((linesL l).drop k) = readL l ∧
      wr.ownsRow w1.heap.size 43 2 v pre.length (rowsV pre) ∧ Below w1.heap.size w1 wr) (fun _ i _ => N - (intOf i).toNat)
  case atStart => exact ⟨0, [], _, _, rfl, rfl, Nat.zero_le _, Nat.le_refl _, rfl, World.ownsRow_nil _ _ _ _, Below.refl _ _⟩
  case round =>
    obtain ⟨k, pre, A4, c4, rfl, rfl, hk, hpk, hg, hown, hb⟩ := hrel
    have HO := Lib.hid hown
    have HB := Lib.hid hb
    have hsz := hb.size
    clear hown hb
    by_cases hlt : k < N
    · have hkl : k < (linesL l).length := by have := HN.out; omega
      obtain ⟨p, hp⟩ : ∃ p, (linesL l)[k]'hkl = p := ⟨_, rfl⟩
      have hps : (strOf p).size ≤ 99999 := by
        have h1 := HLE.out p (by rw [← hp]; exact List.getElem_mem _)
        rw [strOf_size]; have := HLN.out; omega
      have hdr : (linesL l).drop k = p :: (linesL l).drop (k + 1) := by rw [← hp]; exact List.drop_eq_getElem_cons hkl
      obtain ⟨g1, o1, rfl, hg1, hc1⟩ := S1.out.cells (by omega)
      have e0 : wr.cell? ⟨g1, o1 + k, none⟩ = some (.string (strOf p)) := by
        rw [HB.out.cell (p := ⟨g1, o1 + k, none⟩) hg1, hc1 k hkl, hp]
      rw [hdr, readG] at hg
      obtain ⟨tok, rk, er, hrow⟩ : ∃ tok rk er, rowR p = (tok, rk, er) := ⟨_, _, _, rfl⟩
      rw [hrow] at hg
      have HG := Lib.hid hg
      have HRW := Lib.hid hrow
      clear hg hdr hp hc1 hrow
      go_wp2_with fail
      refine (row_any _ hps _).mono ?_
      rw [strOf_list, HRW.out]
      rintro e w2 ⟨rfl, hb2⟩
      have B2 := Lib.hid (HB.out.trans (hb2.mono HB.out.size))
      have O2 := Lib.hid (show w2.ownsRow w1.heap.size 43 2 (.slice A4 pre.length c4) pre.length (rowsV pre) from HO.out.kept (row := none) ⟨hb2.os, hb2.tape, hb2.output, hb2.size, fun i hi _ => hb2.block i hi⟩ (by cases Value.ownBlock _ <;> simp))
      have G2 := Lib.hid ((B2.out.block _ LT.out).trans G1.out)
      clear hb2 e0
      by_cases her : er = 0
      · by_cases hbig : 4096 ≤ k
        · have hbig' : (4096 : Int) ≤ (k : Int) := by omega
          subst her
          have hz2 : w.heap.size < w2.heap.size := Nat.lt_of_lt_of_le LT.out B2.out.size
          have BX := Lib.hid ((Below.refl w2.heap.size w2).alloc (Nat.le_refl _) (.cells #[.string (strOf tok), .int .i64 (rk : Int)] 43))
          have x0 : w2.cell? ⟨w.heap.size, 0, none⟩ = some (.int .i64 0) := Lib.cell_of_heap G2.out 0
          have x1 : w2.cell? ⟨w.heap.size, 1, none⟩ = some (.int .i64 0) := Lib.cell_of_heap G2.out 1
          have y0 : w2.frozen? ⟨w.heap.size, 0, none⟩ = false := Lib.frozen_of_heap G2.out 0
          have y1 : w2.frozen? ⟨w.heap.size, 1, none⟩ = false := Lib.frozen_of_heap G2.out 1
          have hne : w.heap.size ≠ w2.heap.size := by omega
          have HGE := Lib.hid (show ([], k + 1, 7) = readL l from by have h := HG.out; rw [if_neg (by simp), if_pos hbig] at h; exact h)
          go_wp2_with fail
          obtain ⟨X, hX⟩ : ∃ X, X = ((w2.setCell ⟨w.heap.size, 0, none⟩ (.int .i64 ((k : Int) + 1))).setCell ⟨w.heap.size, 1, none⟩ (.int .i64 7)).alloc (.cells #[.string (strOf tok), .int .i64 (rk : Int)] 43) := ⟨_, rfl⟩
          rw [← hX]
          have d0 : X.cell? ⟨w.heap.size, 0, none⟩ = some (.int .i64 ((k : Int) + 1)) := by
            rw [hX, World.cell?_alloc_lt _ _ _ (by simpa using hz2), World.cell?_setCell_other _ _ _ _ (by intro e; injection e with _ e; cases e)]
            exact World.cell?_setCell_same' _ _ _ (by rw [x0]; rfl)
          have d1 : X.cell? ⟨w.heap.size, 1, none⟩ = some (.int .i64 7) := by
            rw [hX, World.cell?_alloc_lt _ _ _ (by simpa using hz2)]
            exact World.cell?_setCell_same' _ _ _ (by rw [World.cell?_setCell_other _ _ _ _ (by intro e; injection e with _ e; cases e), x1]; rfl)
          have hbe : Below w.heap.size w X := by
            rw [hX]
            exact (((B1.out.trans (B2.out.mono B1.out.size)).setCell (p := ⟨w.heap.size, 0, none⟩) (Nat.le_refl _) _).setCell (p := ⟨w.heap.size, 1, none⟩) (Nat.le_refl _) _).alloc (by simpa using Nat.le_of_lt hz2) _
          refine bodyPost_ret (v := .tuple #[.slice none 0 0, .agg #[.int .i64 ((k : Int) + 1), .int .i64 7]]) (by simp [results, Try.f6, go_sem, d0, d1]) rfl ?_
          rw [← HGE.out]
          exact ⟨none, 0, by simp, RowAt.nil, hbe⟩
        · have hbig' : (k : Int) < 4096 := by omega
          have hbig2 : ¬ (4096 : Int) ≤ (k : Int) := by omega
          subst her
          have hw1 : wrap64 ((k : Int) + 1) = ((k + 1 : Nat) : Int) := by unfold wrap64; omega
          have HGE := Lib.hid (show readG (pre ++ [(tok, rk)]) (k + 1) ((linesL l).drop (k + 1)) = readL l from by have h := HG.out; rw [if_neg (by simp), if_neg hbig] at h; exact h)
          have OX := Lib.hid (fun (o o' : Obj) => (O2.out.alloc o).alloc o')
          have hpl : pre.length ≤ 4096 := by omega
          have HON := Lib.hid (one_row (tok, rk))
          have HSN := Lib.hid (show rowsV pre ++ [.string (strOf tok), .int .i64 (rk : Int)] = rowsV (pre ++ [(tok, rk)]) from (rowsV_snoc pre (tok, rk)).symm)
          have HRB := Lib.hid (row_blk (w2.alloc (.cells #[.string (strOf tok), .int .i64 (rk : Int)] 43)) (.string (strOf tok)) (.int .i64 (rk : Int)) 43 (g := w2.heap.size + 1) (by simp))
          have HSZ := Lib.hid (show w1.heap.size ≤ ((w2.alloc (.cells #[.string (strOf tok), .int .i64 (rk : Int)] 43)).alloc (.cells #[.string (strOf tok), .int .i64 (rk : Int)] 43)).heap.size from by have := B2.out.size; simp; omega)
          go_wp2_with (at_builtin; refine wpList_append_row rfl (.tmp 34) (.tmp 36) _ rfl w1.heap.size 43 _ 2 24 Try.underlying24 infoRow rfl (by decide) (.slice A4 pre.length c4) pre.length (rowsV pre) rfl (OX.out _ _) (w2.heap.size + 1 + 1) (some ⟨w2.heap.size + 1, 0, none⟩) 1 1 [.string (strOf tok), .int .i64 (rk : Int)] rfl HRB.out HON.out (pre.length + 1) rfl (rowsV (pre ++ [(tok, rk)])) HSN.out (by unfold maxLen; omega) (by omega) HSZ.out ?_; intro A5 c5 w5 hown5 hb5 _; have O5 := Lib.hid hown5; have B5 := Lib.hid (B2.out.trans ((((Below.refl w1.heap.size w2).alloc B2.out.size _).alloc (by have := B2.out.size; simp; omega) _).trans hb5)); clear hown5 hb5)
          go_roundw
          case rel => exact ⟨k + 1, pre ++ [(tok, rk)], A5, c5, by rw [List.length_append]; rfl, rfl, by omega, by rw [List.length_append]; simp only [List.length_singleton]; omega, HGE.out, by rw [List.length_append]; exact O5.out, B5.out⟩
          case measure => show N - ((k : Int) + 1).toNat < N - ((k : Int)).toNat; omega
      · have her' := beq_no (a := (er : Int)) (b := 0) (by omega)
        have her2 := bne_yes (a := (er : Int)) (b := 0) (by omega)
        have hz2 : w.heap.size < w2.heap.size := Nat.lt_of_lt_of_le LT.out B2.out.size
        have BX := Lib.hid ((Below.refl w2.heap.size w2).alloc (Nat.le_refl _) (.cells #[.string (strOf tok), .int .i64 (rk : Int)] 43))
        have x0 : w2.cell? ⟨w.heap.size, 0, none⟩ = some (.int .i64 0) := Lib.cell_of_heap G2.out 0
        have x1 : w2.cell? ⟨w.heap.size, 1, none⟩ = some (.int .i64 0) := Lib.cell_of_heap G2.out 1
        have y0 : w2.frozen? ⟨w.heap.size, 0, none⟩ = false := Lib.frozen_of_heap G2.out 0
        have y1 : w2.frozen? ⟨w.heap.size, 1, none⟩ = false := Lib.frozen_of_heap G2.out 1
        have hne : w.heap.size ≠ w2.heap.size := by omega
        have HGE := Lib.hid (show ([], k + 1, er) = readL l from by have h := HG.out; rw [if_pos her] at h; exact h)
        clear her
        go_wp2_with fail
        obtain ⟨X, hX⟩ : ∃ X, X = ((w2.setCell ⟨w.heap.size, 0, none⟩ (.int .i64 ((k : Int) + 1))).setCell ⟨w.heap.size, 1, none⟩ (.int .i64 (er : Int))).alloc (.cells #[.string (strOf tok), .int .i64 (rk : Int)] 43) := ⟨_, rfl⟩
        rw [← hX]
        have d0 : X.cell? ⟨w.heap.size, 0, none⟩ = some (.int .i64 ((k : Int) + 1)) := by
          rw [hX, World.cell?_alloc_lt _ _ _ (by simpa using hz2), World.cell?_setCell_other _ _ _ _ (by intro e; injection e with _ e; cases e)]
          exact World.cell?_setCell_same' _ _ _ (by rw [x0]; rfl)
        have d1 : X.cell? ⟨w.heap.size, 1, none⟩ = some (.int .i64 (er : Int)) := by
          rw [hX, World.cell?_alloc_lt _ _ _ (by simpa using hz2)]
          exact World.cell?_setCell_same' _ _ _ (by rw [World.cell?_setCell_other _ _ _ _ (by intro e; injection e with _ e; cases e), x1]; rfl)
        have hbe : Below w.heap.size w X := by
          rw [hX]
          exact (((B1.out.trans (B2.out.mono B1.out.size)).setCell (p := ⟨w.heap.size, 0, none⟩) (Nat.le_refl _) _).setCell (p := ⟨w.heap.size, 1, none⟩) (Nat.le_refl _) _).alloc (by simpa using Nat.le_of_lt hz2) _
        refine bodyPost_ret (v := .tuple #[.slice none 0 0, .agg #[.int .i64 ((k : Int) + 1), .int .i64 (er : Int)]]) (by simp [results, Try.f6, go_sem, d0, d1]) rfl ?_
        rw [← HGE.out]
        exact ⟨none, 0, by simp, RowAt.nil, hbe⟩
    · obtain rfl : k = N := by omega
      have hdr : (linesL l).drop k = [] := List.drop_of_length_le (by have := HN.out; omega)
      rw [hdr, readG] at hg
      have HG := Lib.hid hg
      have G2 := Lib.hid ((HB.out.block _ LT.out).trans G1.out)
      have c0 : wr.cell? ⟨w.heap.size, 0, none⟩ = some (.int .i64 0) := Lib.cell_of_heap G2.out 0
      have c1' : wr.cell? ⟨w.heap.size, 1, none⟩ = some (.int .i64 0) := Lib.cell_of_heap G2.out 1
      have f0 : wr.frozen? ⟨w.heap.size, 0, none⟩ = false := Lib.frozen_of_heap G2.out 0
      have f1 : wr.frozen? ⟨w.heap.size, 1, none⟩ = false := Lib.frozen_of_heap G2.out 1
      clear hg hdr
      go_wp2_with fail
      have d0 : ((wr.setCell ⟨w.heap.size, 0, none⟩ (.int .i64 0)).setCell ⟨w.heap.size, 1, none⟩ (.int .i64 0)).cell? ⟨w.heap.size, 0, none⟩ = some (.int .i64 0) := by
        rw [World.cell?_setCell_other _ _ _ _ (by intro e; injection e with _ e; cases e)]
        exact World.cell?_setCell_same' _ _ _ (by rw [c0]; rfl)
      have d1 : ((wr.setCell ⟨w.heap.size, 0, none⟩ (.int .i64 0)).setCell ⟨w.heap.size, 1, none⟩ (.int .i64 0)).cell? ⟨w.heap.size, 1, none⟩ = some (.int .i64 0) :=
        World.cell?_setCell_same' _ _ _ (by rw [World.cell?_setCell_other _ _ _ _ (by intro e; injection e with _ e; cases e), c1']; rfl)
      refine bodyPost_ret (v := .tuple #[.slice A4 pre.length c4, .agg #[.int .i64 0, .int .i64 0]]) (by simp [results, Try.f6, go_sem, d0, d1]) rfl ?_
      rw [← HG.out]
      have hbe := (((B1.out.trans (HB.out.mono B1.out.size)).setCell (p := ⟨w.heap.size, 0, none⟩) (Nat.le_refl _) (.int .i64 0)).setCell (p := ⟨w.heap.size, 1, none⟩) (Nat.le_refl _) (.int .i64 0))
      exact ⟨A4, c4, rfl, RowAt.of_own (ownsRow_setCell_below (ownsRow_setCell_below HO.out (a := ⟨w.heap.size, 0, none⟩) LT.out _) (a := ⟨w.heap.size, 1, none⟩) LT.out _), hbe⟩
end Go.Proofs.Ytefhifmilmedhaa
