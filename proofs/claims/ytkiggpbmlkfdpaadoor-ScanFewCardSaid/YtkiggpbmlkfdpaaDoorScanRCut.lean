/- The walks of the document's led, more, blanks, word, plain, wide. -/
import Derived.Test.YtkiggpbmlkfdpaaDoorScanREnd
import Derived.Test.YtkiggpbmlkfdpaaDoorScanCut2
namespace Go.Proofs.YtkiggpbmlkfdpaaDoor
open Go.RowKit
set_option linter.unusedVariables false

/-- The rows in their box, a box for the answer beside it. -/
structure LY (w0 w : World) (g : Nat) (ps : List Pt) (n : Nat) (AP AC AN : Option Addr) (cP cC cN S : Nat) : Prop where
  lx : LX w g ps n AP AC AN cP cC cN S
  box : w.heap[g + 1]? = some (.cells #[.int .i64 0, .int .i64 0] 71 (0, 0))
  bel : Below w0.heap.size w0 w
  far : w0.heap.size ≤ g
section
variable {w0 w w' : World} {g n cP cC cN S : Nat} {ps : List Pt} {AP AC AN : Option Addr}
theorem LY.lt (h : LY w0 w g ps n AP AC AN cP cC cN S) : g + 1 < w.heap.size := (Array.getElem?_eq_some_iff.1 h.box).1
theorem LY.later (h : LY w0 w g ps n AP AC AN cP cC cN S) (hb : Below w.heap.size w w') : LY w0 w' g ps n AP AC AN cP cC cN S := ⟨h.lx.later hb, (hb.block (g + 1) h.lt).trans h.box, h.bel.trans (hb.mono h.bel.size), h.far⟩
theorem LY.reads (h : LY w0 w g ps n AP AC AN cP cC cN S) : w.cell? ⟨g, 0, none⟩ = some (.slice AP n cP) ∧ w.cell? ⟨g, 1, none⟩ = some (.slice AC n cC) ∧ w.cell? ⟨g, 2, none⟩ = some (.slice AN n cN) ∧ w.cell? ⟨g, 3, none⟩ = some (.int .i64 (S : Int)) ∧ w.cell? ⟨g + 1, 0, none⟩ = some (.int .i64 0) ∧ w.cell? ⟨g + 1, 1, none⟩ = some (.int .i64 0) ∧ w.frozen? ⟨g + 1, 0, none⟩ = false ∧ w.frozen? ⟨g + 1, 1, none⟩ = false :=
  ⟨Lib.cell_of_heap h.lx.blk 0, Lib.cell_of_heap h.lx.blk 1, Lib.cell_of_heap h.lx.blk 2, Lib.cell_of_heap h.lx.blk 3, Lib.cell_of_heap h.box 0, Lib.cell_of_heap h.box 1, Lib.frozen_of_heap h.box 0, Lib.frozen_of_heap h.box 1⟩
theorem LY.mk0 (h : LAt w w.heap.size ps n AP AC AN cP cC cN) (hX : w' = (w.alloc (.cells #[.slice AP n cP, .slice AC n cC, .slice AN n cN, .int .i64 (S : Int)] 68)).alloc (.cells #[.int .i64 0, .int .i64 0] 71)) : LY w w' w.heap.size ps n AP AC AN cP cC cN S := by
  have h1 : LX (w.alloc (.cells #[.slice AP n cP, .slice AC n cC, .slice AN n cN, .int .i64 (S : Int)] 68)) w.heap.size ps n AP AC AN cP cC cN S := LX.box h rfl
  subst hX
  refine ⟨h1.later ((Below.refl _ _).alloc (Nat.le_refl _) _), ?_, ((Below.refl _ w).alloc (Nat.le_refl _) _).alloc (by simp) _, Nat.le_refl _⟩
  have := heap_alloc_new (w.alloc (.cells #[.slice AP n cP, .slice AC n cC, .slice AN n cN, .int .i64 (S : Int)] 68)) (.cells #[.int .i64 0, .int .i64 0] 71)
  simpa using this
theorem LY.setb (h : LY w0 w g ps n AP AC AN cP cC cN S) (a b : Value) : Below w0.heap.size w0 ((w.setCell ⟨g + 1, 0, none⟩ a).setCell ⟨g + 1, 1, none⟩ b) ∧ ((w.setCell ⟨g + 1, 0, none⟩ a).setCell ⟨g + 1, 1, none⟩ b).cell? ⟨g + 1, 0, none⟩ = some a ∧ ((w.setCell ⟨g + 1, 0, none⟩ a).setCell ⟨g + 1, 1, none⟩ b).cell? ⟨g + 1, 1, none⟩ = some b := by
  have h2 := rheap_set (j := 1) (u := b) (rheap_set (j := 0) (u := a) h.box)
  have := h.far
  exact ⟨(h.bel.setCell (p := ⟨g + 1, 0, none⟩) (by show w0.heap.size ≤ g + 1; omega) _).setCell (p := ⟨g + 1, 1, none⟩) (by show w0.heap.size ≤ g + 1; omega) _, Lib.cell_of_heap h2 0, Lib.cell_of_heap h2 1⟩
end
/-- The pair as a value. -/
def aV (r : Nat × Nat) : Value := .agg #[.int .i64 (r.1 : Int), .int .i64 (r.2 : Int)]
set_option maxHeartbeats 1000000 in
theorem rmore_any (k : Nat) (w : World) (hk : k ≤ 100000) : Calls Tryd.prog 64 #[.int .i64 (k : Int)] w fun e w' => e = .returned (.agg #[.int .i64 (k : Int), .int .i64 ((k : Int) + 1)]) ∧ Below w.heap.size w w' := by
  go_enter Tryd.func64, Tryd.ntmps64
  go_wp2_with fail
  refine bodyPost_ret (v := .agg #[.int .i64 (k : Int), .int .i64 ((k : Int) + 1)]) (by simp [results, Tryd.f64, go_sem]) rfl ⟨rfl, ?_⟩
  first | exact (Below.refl _ w).alloc (Nat.le_refl _) _ | exact (((Below.refl _ w).alloc (Nat.le_refl _) _).setCell (by simp) _).setCell (by simp) _
set_option maxRecDepth 100000 in
set_option maxHeartbeats 2000000 in
theorem rled_any {n cP cC cN S : Nat} {ps : List Pt} {AP AC AN : Option Addr} (c : Int) (w : World) (h : LAt w w.heap.size ps n AP AC AN cP cC cN) (h0 : 0 < ps.length) {r : Nat} (hr : ledR ps c = r) :
    Calls Tryd.prog 66 #[.agg (lV n AP AC AN cP cC cN S), .int .i64 c] w fun e w' => e = .returned (.int .i64 (r : Int)) ∧ Below w.heap.size w w' := by
  unfold lV
  have hf := h.few
  have hn := h.len
  have hn1 : n ≤ 1000 := by omega
  have HH := Lib.hid h
  obtain ⟨b, off, rfl, hb, hc⟩ := h.codCells (by omega)
  have e0 := hc 0 h0
  rw [Nat.add_zero] at e0
  obtain ⟨x, hx⟩ : ∃ x, (ps[0]'h0).code = x := ⟨_, rfl⟩
  have hcode : codeAt ps 0 = x := by unfold codeAt; rw [List.getElem?_eq_getElem h0]; exact hx
  rw [hx] at e0
  unfold ledR at hr
  rw [hcode] at hr
  obtain ⟨r1, hr1⟩ : ∃ m, rRow ps 1 c = m := ⟨_, rfl⟩
  obtain ⟨r0, hr0⟩ : ∃ m, rRow ps 0 c = m := ⟨_, rfl⟩
  rw [hr1, hr0] at hr
  have R1 := Lib.hid hr1
  have R0 := Lib.hid hr0
  have hrb1 : r1 ≤ 1000 := by rw [← hr1]; unfold rRow; have := (List.takeWhile_sublist (fun p : Pt => p.cls == c) (l := ps.drop 1)).length_le; rw [List.length_drop] at this; omega
  have hn0 : 0 < n := by omega
  have hn0' : (0 : Int) < (n : Int) := by omega
  have hcm := h.cod.2.2.1
  have hcn := h.cod.2.1
  unfold maxLen at hcm
  clear hc hx hcode hr1 hr0 hn hf h
  obtain ⟨X, hX⟩ : ∃ X, X = w.alloc (.cells #[.slice (some ⟨b, off, none⟩) n cP, .slice AC n cC, .slice AN n cN, .int .i64 (S : Int)] 68) := ⟨_, rfl⟩
  have LX0 := Lib.hid (LX.box HH.out hX)
  have HB0 := Lib.hid (show Below w.heap.size w X from by rw [hX]; exact (Below.refl _ w).alloc (Nat.le_refl _) _)
  have HX := Lib.hid hX
  clear hX
  go_enter Tryd.func66, Tryd.ntmps66
  by_cases hx : x = 32
  · subst hx
    go_wp2_with fail
    rw [← HX.out]
    clear e0
    refine (rrow_any (i := 1) c X LX0.out.lat (by omega) R1.out).mono ?_
    rintro e w1 ⟨rfl, hb1⟩
    have LX1 := Lib.hid (LX0.out.later hb1)
    have HB1 := Lib.hid (HB0.out.trans (hb1.mono HB0.out.size))
    obtain ⟨d0, d1, d2, d3⟩ := LX1.out.reads
    clear hb1
    by_cases hr1 : 0 < r1
    · rw [if_pos (by first | exact ⟨rfl, hr1⟩ | exact ⟨trivial, hr1⟩ | simpa using hr1)] at hr
      have HR := Lib.hid hr
      have hr1' : (0 : Int) < (r1 : Int) := by omega
      clear hr
      go_wp2_with fail
      refine (rrow_any (i := 1) c w1 LX1.out.lat (by omega) R1.out).mono ?_
      rintro e w2 ⟨rfl, hb2⟩
      have HB2 := Lib.hid (HB1.out.trans (hb2.mono HB1.out.size))
      go_wp2_with fail
      go_ret
      exact ⟨by rw [← HR.out]; rfl, HB2.out⟩
    · rw [if_neg (fun e => hr1 e.2)] at hr
      have HR := Lib.hid hr
      have hr1' : ¬ (0 : Int) < (r1 : Int) := by omega
      clear hr hr1
      go_wp2_with fail
      refine (rrow_any (i := 0) c w1 LX1.out.lat (by omega) R0.out).mono ?_
      rintro e w2 ⟨rfl, hb2⟩
      have HB2 := Lib.hid (HB1.out.trans (hb2.mono HB1.out.size))
      go_wp2_with fail
      go_ret
      exact ⟨by rw [← HR.out]; rfl, HB2.out⟩
  · rw [if_neg (fun e => hx e.1)] at hr
    have HR := Lib.hid hr
    have hq := beq_no hx
    clear hr hx
    go_wp2_with fail
    rw [← HX.out]
    refine (rrow_any (i := 0) c X LX0.out.lat (by omega) R0.out).mono ?_
    rintro e w2 ⟨rfl, hb2⟩
    have HB2 := Lib.hid (HB0.out.trans (hb2.mono HB0.out.size))
    go_wp2_with fail
    go_ret
    exact ⟨by rw [← HR.out]; rfl, HB2.out⟩
set_option maxRecDepth 100000 in
set_option maxHeartbeats 2000000 in
theorem rblanks_any {n cP cC cN S : Nat} {ps : List Pt} {AP AC AN : Option Addr} (w : World) (h : LAt w w.heap.size ps n AP AC AN cP cC cN) {r : Nat × Nat} (hr : spacesP ps = r) :
    Calls Tryd.prog 67 #[.agg (lV n AP AC AN cP cC cN S)] w fun e w' => e = .returned (aV r) ∧ Below w.heap.size w w' := by
  unfold lV
  have hf := h.few
  have hn := h.len
  have hn1 : n ≤ 1000 := by omega
  have HH := Lib.hid h
  obtain ⟨m, hm⟩ : ∃ m, blanksP ps = m := ⟨_, rfl⟩
  have hmn : m ≤ n := by rw [hn, ← hm]; exact blanks_le
  unfold spacesP at hr
  rw [hm, ← hn] at hr
  have HM := Lib.hid hm
  clear hm hn hf
  clear h
  go_enter Tryd.func67, Tryd.ntmps67
  go_wp2_with fail
  obtain ⟨X, hX⟩ : ∃ X, X = (w.alloc (.cells #[.slice AP n cP, .slice AC n cC, .slice AN n cN, .int .i64 (S : Int)] 68)).alloc (.cells #[.int .i64 0, .int .i64 0] 71) := ⟨_, rfl⟩
  have LX0 := Lib.hid (LY.mk0 HH.out hX)
  rw [← hX]
  clear hX
  obtain ⟨g, hg⟩ : ∃ g, w.heap.size = g := ⟨_, rfl⟩
  rw [hg] at LX0
  try rw [hg]
  have HG := Lib.hid hg
  clear hg
  obtain ⟨c0, c1, c2, c3, z0, z1, f0, f1⟩ := LX0.out.reads
  refine (rspaces_any X LX0.out.lx.lat HM.out).mono ?_
  rintro e v ⟨rfl, hb⟩
  have Lv := Lib.hid (LX0.out.later hb)
  obtain ⟨c0, c1, c2, c3, z0, z1, f0, f1⟩ := Lv.out.reads
  clear hb LX0
  by_cases h1 : m < n ∧ 1 < m
  · rw [if_pos h1] at hr
    obtain ⟨h1, h2⟩ := h1
    have HR := Lib.hid hr
    have h2' : (2 : Int) ≤ (m : Int) := by omega
    have HS := Lib.hid (show (m : Int) - 1 = ((m - 1 : Nat) : Int) from by omega)
    clear hr
    go_wp2_with fail
    obtain ⟨hbb, r0, r1⟩ := Lv.out.setb (.int .i64 ((m : Int) - 1)) (.int .i64 ((m : Int) + 1))
    refine bodyPost_ret (v := .agg #[.int .i64 ((m : Int) - 1), .int .i64 ((m : Int) + 1)]) (by simp [results, Tryd.f67, go_sem, r0, r1]) rfl ⟨?_, hbb⟩
    rw [← HR.out, HS.out]; rfl
  · rw [if_neg h1] at hr
    have HR := Lib.hid hr
    clear hr
    by_cases h2 : m < n
    · have h3 : m ≤ 1 := by omega
      have h3' : ¬ (2 : Int) ≤ (m : Int) := by omega
      clear h1
      go_wp2_with fail
      refine (rmore_any m v (by omega)).mono ?_
      rintro e v2 ⟨rfl, hb⟩
      have Lv2 := Lib.hid (Lv.out.later hb)
      clear c0 c1 c2 c3 z0 z1 f0 f1
      obtain ⟨c0, c1, c2, c3, z0, z1, f0, f1⟩ := Lv2.out.reads
      go_wp2_with fail
      obtain ⟨hbb, r0, r1⟩ := Lv2.out.setb (.int .i64 ((m : Int))) (.int .i64 ((m : Int) + 1))
      refine bodyPost_ret (v := .agg #[.int .i64 ((m : Int)), .int .i64 ((m : Int) + 1)]) (by simp [results, Tryd.f67, go_sem, r0, r1]) rfl ⟨?_, hbb⟩
      rw [← HR.out]; rfl
    · have h2' : ¬ (m : Int) < (n : Int) := by omega
      clear h1
      go_wp2_with fail
      refine (rmore_any m v (by omega)).mono ?_
      rintro e v2 ⟨rfl, hb⟩
      have Lv2 := Lib.hid (Lv.out.later hb)
      clear c0 c1 c2 c3 z0 z1 f0 f1
      obtain ⟨c0, c1, c2, c3, z0, z1, f0, f1⟩ := Lv2.out.reads
      go_wp2_with fail
      obtain ⟨hbb, r0, r1⟩ := Lv2.out.setb (.int .i64 ((m : Int))) (.int .i64 ((m : Int) + 1))
      refine bodyPost_ret (v := .agg #[.int .i64 ((m : Int)), .int .i64 ((m : Int) + 1)]) (by simp [results, Tryd.f67, go_sem, r0, r1]) rfl ⟨?_, hbb⟩
      rw [← HR.out]; rfl
end Go.Proofs.YtkiggpbmlkfdpaaDoor
