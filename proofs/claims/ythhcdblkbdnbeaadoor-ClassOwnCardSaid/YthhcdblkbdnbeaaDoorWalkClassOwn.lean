/- The walk of ClassOwn: true for every input. -/
import Derived.Test.YthhcdblkbdnbeaaDoorWalkClassMore
namespace Go.Proofs.YthhcdblkbdnbeaaDoor
open Go.RowKit
set_option linter.unusedVariables false

theorem set_heap {w : World} {g j : Nat} {cs : Array Value} {T : TypeId} {u : Value} (h : w.heap[g]? = some (.cells cs T (0, 0))) : (w.setCell ⟨g, j, none⟩ u).heap[g]? = some (.cells (cs.setIfInBounds j u) T (0, 0)) := by
  simp [World.setCell, Array.getElem?_modify, h]
set_option maxRecDepth 100000 in
set_option maxHeartbeats 2000000 in
theorem walkClassOwn (w : World) (hU : UsualAt w) (p a : Int) (ha0 : 0 ≤ a) (ha1 : a ≤ 65535) (xa xb xc : Int) :
    Calls Tryd.prog 5 #[.int .i64 p, .int .u16 a, .agg #[.int .i64 xa, .int .i64 xb, .int .i64 xc]] w fun e w' => e = .returned (.bool true) ∧ Below w.heap.size w w' := by
  have hz0 := hU.2
  obtain ⟨W0, hW0⟩ : ∃ W0, W0 = w.alloc (.cells #[.int .i64 xa, .int .i64 xb, .int .i64 xc] 28) := ⟨_, rfl⟩
  have hb0 : Below w.heap.size w W0 := by rw [hW0]; exact (Below.refl _ _).alloc (Nat.le_refl _) _
  have BB := Lib.hid hb0
  have HU := Lib.hid (hU.later hb0)
  have hsz : w.heap.size + 1 = W0.heap.size := by rw [hW0, World.size_alloc]
  have HX := Lib.hid (show W0.heap[w.heap.size]? = some (.cells #[.int .i64 xa, .int .i64 xb, .int .i64 xc] 28) from by rw [hW0]; exact heap_alloc_new _ _)
  have HZ := Lib.hid hsz
  have HW0 := Lib.hid hW0
  obtain ⟨k, hk⟩ : ∃ k : Nat, a % 51 = k := ⟨(a % 51).toNat, by omega⟩
  have hk1 : k < 51 := by omega
  have hk2 : (k : Int) < 51 := by omega
  have hk3 : (0 : Int) ≤ k := by omega
  have hkt : Int.tmod a 51 = (k : Int) := by rw [Int.tmod_eq_emod_of_nonneg ha0]; exact hk
  obtain ⟨r, hr⟩ : ∃ r, ofT p usualT = r := ⟨_, rfl⟩
  have HF := Lib.hid (show clsT usualT p = r from by unfold clsT; rw [if_pos usual_may]; exact hr)
  have HR := Lib.hid (show ofT p refT = r from by rw [refT_of]; exact hr)
  clear hU hb0 hsz hW0 hr
  have HKT := Lib.hid hkt
  have HK := Lib.hid hk
  clear hkt hk
  go_enter Tryd.func5, Tryd.ntmps5
  go_wp2_with fail
  rw [← HW0.out]
  refine (usual_own _ (RowAt.mono HU.out.1 HU.out.2)).mono ?_
  rintro e w1 ⟨v, rfl, hown, hb⟩
  rcases hown.2 with ⟨_, h51⟩ | ⟨g, cap, cur, rfl, hg, hcur, hn, hcm, hcs, htk⟩
  · omega
  have R1 := Lib.hid (show RangesAt w1 w1.heap.size (some ⟨g, 0, none⟩) 51 cap usualT from RowAt.of_own hown)
  have U1 := Lib.hid (HU.out.later hb)
  have B1 := Lib.hid (BB.out.trans (hb.mono BB.out.size))
  have X1 := Lib.hid ((hb.block w.heap.size (by rw [← HZ.out]; omega)).trans HX.out)
  have hg1 : w.heap.size < g := by rw [← HZ.out] at hg; omega
  have hgl : g < w1.heap.size := (Array.getElem?_eq_some_iff.1 hcur).1
  have C1 := Lib.hid hcur
  have hcap : cap ≤ 9223372036854775807 := by unfold maxLen at hcm; omega
  have CS := Lib.hid (show 153 ≤ cur.size from by omega)
  have CS2 := Lib.hid hcs
  clear hb hown hcur hcs htk hcm hg
  go_wp2_with fail
  refine (of_as _ R1.out (by omega) HF).mono ?_
  rintro e w2 ⟨rfl, hb⟩
  have U2 := Lib.hid (U1.out.later hb)
  have B2 := Lib.hid (B1.out.trans (hb.mono B1.out.size))
  have X2 := Lib.hid ((hb.block w.heap.size (by omega)).trans X1.out)
  have C2 := Lib.hid ((hb.block g hgl).trans C1.out)
  have hz2 := hb.size
  clear hb
  have c : ∀ j, j < 3 → ∃ u, w2.cell? ⟨g, k * 3 + j, none⟩ = some u := fun j hj => by
    refine ⟨cur[k * 3 + j]'(by have := CS.out; omega), ?_⟩
    rw [Lib.cell_of_heap C2.out (k * 3 + j), Array.getElem?_eq_getElem]
  obtain ⟨u0, c0⟩ := c 0 (by omega)
  obtain ⟨u1, c1⟩ := c 1 (by omega)
  obtain ⟨u2, c2⟩ := c 2 (by omega)
  rw [Nat.add_zero] at c0
  have f0 : w2.frozen? ⟨g, k * 3, none⟩ = false := Lib.frozen_of_heap C2.out _
  have f1 : w2.frozen? ⟨g, k * 3 + 1, none⟩ = false := Lib.frozen_of_heap C2.out _
  have f2 : w2.frozen? ⟨g, k * 3 + 2, none⟩ = false := Lib.frozen_of_heap C2.out _
  have x0 : w2.cell? ⟨w.heap.size, 0, none⟩ = some (.int .i64 xa) := Lib.cell_of_heap X2.out 0
  have x1 : w2.cell? ⟨w.heap.size, 1, none⟩ = some (.int .i64 xb) := Lib.cell_of_heap X2.out 1
  have x2 : w2.cell? ⟨w.heap.size, 2, none⟩ = some (.int .i64 xc) := Lib.cell_of_heap X2.out 2
  have hkt := HKT.out
  have hk := HK.out
  clear c
  go_wp2_with fail
  go_region
  obtain ⟨w3, hw3⟩ : ∃ w3, (((w2.setCell ⟨g, k * 3, none⟩ (.int .i64 xa)).setCell ⟨g, k * 3 + 1, none⟩ (.int .i64 xb)).setCell ⟨g, k * 3 + 2, none⟩ (.int .i64 xc)).drew = w3 := ⟨_, rfl⟩
  have hbs : Below (w.heap.size + 1) w2 w3 := by
    rw [← hw3]
    exact ((((Below.refl (w.heap.size + 1) w2).setCell (p := ⟨g, k * 3, none⟩) (by show _ ≤ g; omega) _).setCell (p := ⟨g, k * 3 + 1, none⟩) (by show _ ≤ g; omega) _).setCell (p := ⟨g, k * 3 + 2, none⟩) (by show _ ≤ g; omega) _).drew
  have C3 := Lib.hid (show w3.heap[g]? = some (.cells (((cur.setIfInBounds (k * 3) (.int .i64 xa)).setIfInBounds (k * 3 + 1) (.int .i64 xb)).setIfInBounds (k * 3 + 2) (.int .i64 xc)) 28 (0, 0)) from by
    rw [← hw3]; exact set_heap (set_heap (set_heap C2.out)))
  have U3 := Lib.hid (show UsualAt w3 from ⟨RowAt.below U2.out.1 (hbs.mono (by omega)), Nat.le_trans U2.out.2 hbs.size⟩)
  have B3 := Lib.hid (B2.out.trans (hbs.mono (by omega)))
  have hz3 := hbs.size
  have x0 : w3.cell? ⟨w.heap.size, 0, none⟩ = some (.int .i64 xa) := (hbs.cell (p := ⟨w.heap.size, 0, none⟩) (Nat.lt_succ_self _)).trans x0
  have x1 : w3.cell? ⟨w.heap.size, 1, none⟩ = some (.int .i64 xb) := (hbs.cell (p := ⟨w.heap.size, 1, none⟩) (Nat.lt_succ_self _)).trans x1
  have x2 : w3.cell? ⟨w.heap.size, 2, none⟩ = some (.int .i64 xc) := (hbs.cell (p := ⟨w.heap.size, 2, none⟩) (Nat.lt_succ_self _)).trans x2
  have O3 := Lib.hid (show w3.ownsRow (w.heap.size + 1) 28 3 (.slice (some ⟨g, 0, none⟩) 51 cap) 51 ((((cur.setIfInBounds (k * 3) (.int .i64 xa)).setIfInBounds (k * 3 + 1) (.int .i64 xb)).setIfInBounds (k * 3 + 2) (.int .i64 xc)).toList.take (51 * 3)) from by
    refine ⟨?_, .inr ⟨g, cap, _, rfl, by omega, C3.out, hn, by unfold maxLen; omega, ?_, rfl⟩⟩
    · rw [List.length_take]; simp only [Array.length_toList, Array.size_setIfInBounds]; have := CS.out; omega
    · simp only [Array.size_setIfInBounds]; exact CS2.out)
  rw [hw3]
  have hw4 : w.heap.size + 1 ≤ w3.heap.size := by omega
  clear hw3 hbs c0 c1 c2 f0 f1 f2 hkt hk
  go_wp2_with (at_builtin; refine wpList_append_row rfl (.tmp 24) (.tmp 26) _ rfl (w.heap.size + 1) 28 _ 3 24 Tryd.underlying22 infoRange rfl (by omega) _ 51 _ rfl (O3.out.alloc _) _ _ 1 1 (rangesV [(xa, xb, xc)]) rfl (row_of_block (heap_alloc_new w3 _)) one_ranges 52 rfl _ rfl (by unfold maxLen; omega) (by omega) (by rw [World.size_alloc]; omega) ?_; intro A4 c4 w4 hown4 hb4 hg4; have BW := Lib.hid (((Below.refl (w.heap.size + 1) w3).alloc hw4 _).trans hb4); clear hown4 hb4 hg4)
  clear x0 x1 x2
  have U4 := Lib.hid (show UsualAt w4 from ⟨RowAt.below U3.out.1 (BW.out.mono (by omega)), Nat.le_trans U3.out.2 BW.out.size⟩)
  have B4 := Lib.hid (B3.out.trans (BW.out.mono (by omega)))
  clear BW O3 C3
  refine (fixed02 _ U4.out).mono ?_
  rintro e w5 ⟨rfl, hb⟩
  have U5 := Lib.hid (U4.out.later hb)
  have B5 := Lib.hid (B4.out.trans (hb.mono B4.out.size))
  clear hb
  go_wp2_with fail
  refine (usual_any _ U5.out).mono ?_
  rintro e w6 ⟨A6, c6, rfl, hr6, hb⟩
  have R6 := Lib.hid hr6
  have B6 := Lib.hid (B5.out.trans (hb.mono B5.out.size))
  clear hb hr6
  go_wp2_with fail
  refine (of_as _ R6.out (by omega) HF).mono ?_
  rintro e w7 ⟨rfl, hb⟩
  have B7 := Lib.hid (B6.out.trans (hb.mono B6.out.size))
  clear hb
  go_wp2_with fail
  refine (rusual_any _).mono ?_
  rintro e w8 ⟨A8, c8, rfl, hr8, hb⟩
  have R8 := Lib.hid hr8
  have B8 := Lib.hid (B7.out.trans (hb.mono B7.out.size))
  clear hb hr8
  go_wp2_with fail
  refine (rof_as _ R8.out HR).mono ?_
  rintro e w9 ⟨rfl, rfl⟩
  go_wp2_with fail
  go_ret
  exact ⟨by simp, B8.out⟩
end Go.Proofs.YthhcdblkbdnbeaaDoor
