/- The walks of the document's word, plain, wide. -/
import Derived.Test.YtkiggpbmlkfdpaaDoorScanREnd
import Derived.Test.YtkiggpbmlkfdpaaDoorScanCut2
/- The walks of the document's led, more, blanks, word, plain, wide. -/
namespace Go.Proofs.YtkiggpbmlkfdpaaDoor
open Go.RowKit
set_option linter.unusedVariables false

/-- The rows in their box, a box for the answer beside it. -/
structure LY (w0 w : World) (g : Nat) (ps : List Pt) (n : Nat) (AP AC AN : Option Addr) (cP cC cN S : Nat) : Prop where
  lx : LX w g ps n AP AC AN cP cC cN S
  box : w.heap[g + 1]? = some (.cells #[.int .i64 0, .int .i64 0] 71 (0, 0))
  bel : Below w0.heap.size w0 w
  far : w0.heap.size ≤ g
section
variable {w0 w w' : World} {g n cP cC cN S : Nat} {ps : List Pt} {AP AC AN : Option Addr}
theorem LY.lt (h : LY w0 w g ps n AP AC AN cP cC cN S) : g + 1 < w.heap.size := (Array.getElem?_eq_some_iff.1 h.box).1
theorem LY.later (h : LY w0 w g ps n AP AC AN cP cC cN S) (hb : Below w.heap.size w w') : LY w0 w' g ps n AP AC AN cP cC cN S := ⟨h.lx.later hb, (hb.block (g + 1) h.lt).trans h.box, h.bel.trans (hb.mono h.bel.size), h.far⟩
theorem LY.reads (h : LY w0 w g ps n AP AC AN cP cC cN S) : w.cell? ⟨g, 0, none⟩ = some (.slice AP n cP) ∧ w.cell? ⟨g, 1, none⟩ = some (.slice AC n cC) ∧ w.cell? ⟨g, 2, none⟩ = some (.slice AN n cN) ∧ w.cell? ⟨g, 3, none⟩ = some (.int .i64 (S : Int)) ∧ w.cell? ⟨g + 1, 0, none⟩ = some (.int .i64 0) ∧ w.cell? ⟨g + 1, 1, none⟩ = some (.int .i64 0) ∧ w.frozen? ⟨g + 1, 0, none⟩ = false ∧ w.frozen? ⟨g + 1, 1, none⟩ = false :=
  ⟨Lib.cell_of_heap h.lx.blk 0, Lib.cell_of_heap h.lx.blk 1, Lib.cell_of_heap h.lx.blk 2, Lib.cell_of_heap h.lx.blk 3, Lib.cell_of_heap h.box 0, Lib.cell_of_heap h.box 1, Lib.frozen_of_heap h.box 0, Lib.frozen_of_heap h.box 1⟩
theorem LY.mk0 (h : LAt w w.heap.size ps n AP AC AN cP cC cN) (hX : w' = (w.alloc (.cells #[.slice AP n cP, .slice AC n cC, .slice AN n cN, .int .i64 (S : Int)] 68)).alloc (.cells #[.int .i64 0, .int .i64 0] 71)) : LY w w' w.heap.size ps n AP AC AN cP cC cN S := by
  have h1 : LX (w.alloc (.cells #[.slice AP n cP, .slice AC n cC, .slice AN n cN, .int .i64 (S : Int)] 68)) w.heap.size ps n AP AC AN cP cC cN S := LX.box h rfl
  subst hX
  refine ⟨h1.later ((Below.refl _ _).alloc (Nat.le_refl _) _), ?_, ((Below.refl _ w).alloc (Nat.le_refl _) _).alloc (by simp) _, Nat.le_refl _⟩
  have := heap_alloc_new (w.alloc (.cells #[.slice AP n cP, .slice AC n cC, .slice AN n cN, .int .i64 (S : Int)] 68)) (.cells #[.int .i64 0, .int .i64 0] 71)
  simpa using this
theorem LY.setb (h : LY w0 w g ps n AP AC AN cP cC cN S) (a b : Value) : Below w0.heap.size w0 ((w.setCell ⟨g + 1, 0, none⟩ a).setCell ⟨g + 1, 1, none⟩ b) ∧ ((w.setCell ⟨g + 1, 0, none⟩ a).setCell ⟨g + 1, 1, none⟩ b).cell? ⟨g + 1, 0, none⟩ = some a ∧ ((w.setCell ⟨g + 1, 0, none⟩ a).setCell ⟨g + 1, 1, none⟩ b).cell? ⟨g + 1, 1, none⟩ = some b := by
  have h2 := rheap_set (j := 1) (u := b) (rheap_set (j := 0) (u := a) h.box)
  have := h.far
  exact ⟨(h.bel.setCell (p := ⟨g + 1, 0, none⟩) (by show w0.heap.size ≤ g + 1; omega) _).setCell (p := ⟨g + 1, 1, none⟩) (by show w0.heap.size ≤ g + 1; omega) _, Lib.cell_of_heap h2 0, Lib.cell_of_heap h2 1⟩
end
/-- The pair as a value. -/
def aV (r : Nat × Nat) : Value := .agg #[.int .i64 (r.1 : Int), .int .i64 (r.2 : Int)]
set_option maxHeartbeats 1000000 in
theorem rmore_any (k : Nat) (w : World) (hk : k ≤ 100000) : Calls Tryd.prog 64 #[.int .i64 (k : Int)] w fun e w' => e = .returned (.agg #[.int .i64 (k : Int), .int .i64 ((k : Int) + 1)]) ∧ Below w.heap.size w w' := by
  go_enter Tryd.func64, Tryd.ntmps64
  go_wp2_with fail
  refine bodyPost_ret (v := .agg #[.int .i64 (k : Int), .int .i64 ((k : Int) + 1)]) (by simp [results, Tryd.f64, go_sem]) rfl ⟨rfl, ?_⟩
  first | exact (Below.refl _ w).alloc (Nat.le_refl _) _ | exact (((Below.refl _ w).alloc (Nat.le_refl _) _).setCell (by simp) _).setCell (by simp) _
set_option maxRecDepth 100000 in
set_option maxHeartbeats 2000000 in
theorem rled_any {n cP cC cN S : Nat} {ps : List Pt} {AP AC AN : Option Addr} (c : Int) (w : World) (h : LAt w w.heap.size ps n AP AC AN cP cC cN) (h0 : 0 < ps.length) {r : Nat} (hr : ledR ps c = r) :
    Calls Tryd.prog 66 #[.agg (lV n AP AC AN cP cC cN S), .int .i64 c] w fun e w' => e = .returned (.int .i64 (r : Int)) ∧ Below w.heap.size w w' := by
  unfold lV
  have hf := h.few
  have hn := h.len
  have hn1 : n ≤ 1000 := by omega
  have HH := Lib.hid h
  obtain ⟨b, off, rfl, hb, hc⟩ := h.codCells (by omega)
  have e0 := hc 0 h0
  rw [Nat.add_zero] at e0
  obtain ⟨x, hx⟩ : ∃ x, (ps[0]'h0).code = x := ⟨_, rfl⟩
  have hcode : codeAt ps 0 = x := by unfold codeAt; rw [List.getElem?_eq_getElem h0]; exact hx
  rw [hx] at e0
  unfold ledR at hr
  rw [hcode] at hr
  obtain ⟨r1, hr1⟩ : ∃ m, rRow ps 1 c = m := ⟨_, rfl⟩
  obtain ⟨r0, hr0⟩ : ∃ m, rRow ps 0 c = m := ⟨_, rfl⟩
  rw [hr1, hr0] at hr
  have R1 := Lib.hid hr1
  have R0 := Lib.hid hr0
  have hrb1 : r1 ≤ 1000 := by rw [← hr1]; unfold rRow; have := (List.takeWhile_sublist (fun p : Pt => p.cls == c) (l := ps.drop 1)).length_le; rw [List.length_drop] at this; omega
  have hn0 : 0 < n := by omega
  have hn0' : (0 : Int) < (n : Int) := by omega
  have hcm := h.cod.2.2.1
  have hcn := h.cod.2.1
  unfold maxLen at hcm
  clear hc hx hcode hr1 hr0 hn hf h
  obtain ⟨X, hX⟩ : ∃ X, X = w.alloc (.cells #[.slice (some ⟨b, off, none⟩) n cP, .slice AC n cC, .slice AN n cN, .int .i64 (S : Int)] 68) := ⟨_, rfl⟩
  have LX0 := Lib.hid (LX.box HH.out hX)
  have HB0 := Lib.hid (show Below w.heap.size w X from by rw [hX]; exact (Below.refl _ w).alloc (Nat.le_refl _) _)
  have HX := Lib.hid hX
  clear hX
  go_enter Tryd.func66, Tryd.ntmps66
  by_cases hx : x = 32
  · subst hx
    go_wp2_with fail
    rw [← HX.out]
    clear e0
    refine (rrow_any (i := 1) c X LX0.out.lat (by omega) R1.out).mono ?_
    rintro e w1 ⟨rfl, hb1⟩
    have LX1 := Lib.hid (LX0.out.later hb1)
    have HB1 := Lib.hid (HB0.out.trans (hb1.mono HB0.out.size))
    obtain ⟨d0, d1, d2, d3⟩ := LX1.out.reads
    clear hb1
    by_cases hr1 : 0 < r1
    · rw [if_pos (by first | exact ⟨rfl, hr1⟩ | exact ⟨trivial, hr1⟩ | simpa using hr1)] at hr
      have HR := Lib.hid hr
      have hr1' : (0 : Int) < (r1 : Int) := by omega
      clear hr
      go_wp2_with fail
      refine (rrow_any (i := 1) c w1 LX1.out.lat (by omega) R1.out).mono ?_
      rintro e w2 ⟨rfl, hb2⟩
      have HB2 := Lib.hid (HB1.out.trans (hb2.mono HB1.out.size))
      go_wp2_with fail
      go_ret
      exact ⟨by rw [← HR.out]; rfl, HB2.out⟩
    · rw [if_neg (fun e => hr1 e.2)] at hr
      have HR := Lib.hid hr
      have hr1' : ¬ (0 : Int) < (r1 : Int) := by omega
      clear hr hr1
      go_wp2_with fail
      refine (rrow_any (i := 0) c w1 LX1.out.lat (by omega) R0.out).mono ?_
      rintro e w2 ⟨rfl, hb2⟩
      have HB2 := Lib.hid (HB1.out.trans (hb2.mono HB1.out.size))
      go_wp2_with fail
      go_ret
      exact ⟨by rw [← HR.out]; rfl, HB2.out⟩
  · rw [if_neg (fun e => hx e.1)] at hr
    have HR := Lib.hid hr
    have hq := beq_no hx
    clear hr hx
    go_wp2_with fail
    rw [← HX.out]
    refine (rrow_any (i := 0) c X LX0.out.lat (by omega) R0.out).mono ?_
    rintro e w2 ⟨rfl, hb2⟩
    have HB2 := Lib.hid (HB0.out.trans (hb2.mono HB0.out.size))
    go_wp2_with fail
    go_ret
    exact ⟨by rw [← HR.out]; rfl, HB2.out⟩
set_option maxRecDepth 100000 in
set_option maxHeartbeats 2000000 in
theorem rblanks_any {n cP cC cN S : Nat} {ps : List Pt} {AP AC AN : Option Addr} (w : World) (h : LAt w w.heap.size ps n AP AC AN cP cC cN) {r : Nat × Nat} (hr : spacesP ps = r) :
    Calls Tryd.prog 67 #[.agg (lV n AP AC AN cP cC cN S)] w fun e w' => e = .returned (aV r) ∧ Below w.heap.size w w' := by
  unfold lV
  have hf := h.few
  have hn := h.len
  have hn1 : n ≤ 1000 := by omega
  have HH := Lib.hid h
  obtain ⟨m, hm⟩ : ∃ m, blanksP ps = m := ⟨_, rfl⟩
  have hmn : m ≤ n := by rw [hn, ← hm]; exact blanks_le
  unfold spacesP at hr
  rw [hm, ← hn] at hr
  have HM := Lib.hid hm
  clear hm hn hf
  clear h
  go_enter Tryd.func67, Tryd.ntmps67
  go_wp2_with fail
  obtain ⟨X, hX⟩ : ∃ X, X = (w.alloc (.cells #[.slice AP n cP, .slice AC n cC, .slice AN n cN, .int .i64 (S : Int)] 68)).alloc (.cells #[.int .i64 0, .int .i64 0] 71) := ⟨_, rfl⟩
  have LX0 := Lib.hid (LY.mk0 HH.out hX)
  rw [← hX]
  clear hX
  obtain ⟨g, hg⟩ : ∃ g, w.heap.size = g := ⟨_, rfl⟩
  rw [hg] at LX0
  try rw [hg]
  have HG := Lib.hid hg
  clear hg
  obtain ⟨c0, c1, c2, c3, z0, z1, f0, f1⟩ := LX0.out.reads
  refine (rspaces_any X LX0.out.lx.lat HM.out).mono ?_
  rintro e v ⟨rfl, hb⟩
  have Lv := Lib.hid (LX0.out.later hb)
  obtain ⟨c0, c1, c2, c3, z0, z1, f0, f1⟩ := Lv.out.reads
  clear hb LX0
  by_cases h1 : m < n ∧ 1 < m
  · rw [if_pos h1] at hr
    obtain ⟨h1, h2⟩ := h1
    have HR := Lib.hid hr
    have h2' : (2 : Int) ≤ (m : Int) := by omega
    have HS := Lib.hid (show (m : Int) - 1 = ((m - 1 : Nat) : Int) from by omega)
    clear hr
    go_wp2_with fail
    obtain ⟨hbb, r0, r1⟩ := Lv.out.setb (.int .i64 ((m : Int) - 1)) (.int .i64 ((m : Int) + 1))
    refine bodyPost_ret (v := .agg #[.int .i64 ((m : Int) - 1), .int .i64 ((m : Int) + 1)]) (by simp [results, Tryd.f67, go_sem, r0, r1]) rfl ⟨?_, hbb⟩
    rw [← HR.out, HS.out]; rfl
  · rw [if_neg h1] at hr
    have HR := Lib.hid hr
    clear hr
    by_cases h2 : m < n
    · have h3 : m ≤ 1 := by omega
      have h3' : ¬ (2 : Int) ≤ (m : Int) := by omega
      clear h1
      go_wp2_with fail
      refine (rmore_any m v (by omega)).mono ?_
      rintro e v2 ⟨rfl, hb⟩
      have Lv2 := Lib.hid (Lv.out.later hb)
      clear c0 c1 c2 c3 z0 z1 f0 f1
      obtain ⟨c0, c1, c2, c3, z0, z1, f0, f1⟩ := Lv2.out.reads
      go_wp2_with fail
      obtain ⟨hbb, r0, r1⟩ := Lv2.out.setb (.int .i64 ((m : Int))) (.int .i64 ((m : Int) + 1))
      refine bodyPost_ret (v := .agg #[.int .i64 ((m : Int)), .int .i64 ((m : Int) + 1)]) (by simp [results, Tryd.f67, go_sem, r0, r1]) rfl ⟨?_, hbb⟩
      rw [← HR.out]; rfl
    · have h2' : ¬ (m : Int) < (n : Int) := by omega
      clear h1
      go_wp2_with fail
      refine (rmore_any m v (by omega)).mono ?_
      rintro e v2 ⟨rfl, hb⟩
      have Lv2 := Lib.hid (Lv.out.later hb)
      clear c0 c1 c2 c3 z0 z1 f0 f1
      obtain ⟨c0, c1, c2, c3, z0, z1, f0, f1⟩ := Lv2.out.reads
      go_wp2_with fail
      obtain ⟨hbb, r0, r1⟩ := Lv2.out.setb (.int .i64 ((m : Int))) (.int .i64 ((m : Int) + 1))
      refine bodyPost_ret (v := .agg #[.int .i64 ((m : Int)), .int .i64 ((m : Int) + 1)]) (by simp [results, Tryd.f67, go_sem, r0, r1]) rfl ⟨?_, hbb⟩
      rw [← HR.out]; rfl
end Go.Proofs.YtkiggpbmlkfdpaaDoor
namespace Go.Proofs.YtkiggpbmlkfdpaaDoor
open Go.RowKit
set_option linter.unusedVariables false

theorem row_le {ps : List Pt} {i : Nat} {c : Int} (hl : ps.length ≤ 1000) : rRow ps i c ≤ 1000 := by
  unfold rRow
  have := (List.takeWhile_sublist (fun p : Pt => p.cls == c) (l := ps.drop i)).length_le
  rw [List.length_drop] at this
  omega
theorem ledR_le {ps : List Pt} {c : Int} (h0 : 0 < ps.length) (hl : ps.length ≤ 1000) : ledR ps c ≤ 1000 := by rw [led_eq]; have := led_le (c := c) h0; omega
set_option maxRecDepth 100000 in
set_option maxHeartbeats 4000000 in
theorem rword_any {n cP cC cN S : Nat} {ps : List Pt} {AP AC AN : Option Addr} (w : World) (h : LAt w w.heap.size ps n AP AC AN cP cC cN) (h0 : 0 < ps.length) {r : Nat × Nat} (hr : wordP ps = r) :
    Calls Tryd.prog 43 #[.agg (lV n AP AC AN cP cC cN S)] w fun e w' => e = .returned (aV r) ∧ Below w.heap.size w w' := by
  unfold lV
  have hf := h.few
  have hn := h.len
  have hn1 : n ≤ 1000 := by omega
  have HH := Lib.hid h
  obtain ⟨b0, hb0⟩ : ∃ m, blanksP ps = m := ⟨_, rfl⟩
  have hbn : b0 ≤ n := by rw [hn, ← hb0]; exact blanks_le
  unfold wordP at hr
  rw [hb0] at hr
  obtain ⟨m, hm⟩ : ∃ m, whileP (fun p => !isSp p.cls) ps b0 = m := ⟨_, rfl⟩
  rw [hm] at hr
  have HR := Lib.hid hr
  have HB0 := Lib.hid hb0
  have HM := Lib.hid hm
  have HN := Lib.hid hn
  have hcm := h.cls.2.2.1
  have hcn := h.cls.2.1
  unfold maxLen at hcm
  clear hr hb0 hm hn hf
  clear h
  go_enter Tryd.func43, Tryd.ntmps43
  go_wp2_with fail
  obtain ⟨X, hX⟩ : ∃ X, X = (w.alloc (.cells #[.slice AP n cP, .slice AC n cC, .slice AN n cN, .int .i64 (S : Int)] 68)).alloc (.cells #[.int .i64 0, .int .i64 0] 71) := ⟨_, rfl⟩
  have LX0 := Lib.hid (LY.mk0 HH.out hX)
  rw [← hX]
  clear hX
  obtain ⟨g, hg⟩ : ∃ g, w.heap.size = g := ⟨_, rfl⟩
  rw [hg] at LX0
  try rw [hg]
  have HG := Lib.hid hg
  clear hg
  obtain ⟨c0, c1, c2, c3, z0, z1, f0, f1⟩ := LX0.out.reads
  refine (rspaces_any X LX0.out.lx.lat HB0.out).mono ?_
  rintro e v ⟨rfl, hb⟩
  have Lv := Lib.hid (LX0.out.later hb)
  clear c0 c1 c2 c3 z0 z1 f0 f1 hb LX0
  obtain ⟨c0, c1, c2, c3, z0, z1, f0, f1⟩ := Lv.out.reads
  go_wp2_with fail
  go_loop [3] (fun z => ∃ j : Nat, z = .int .i64 (j : Int) ∧ j ≤ n ∧ Hid (whileP (fun p => !isSp p.cls) ps j = m)) (fun z => 1001 - (intOf z).toNat)
  case atStart => exact ⟨b0, rfl, hbn, HM⟩
  case round =>
    clear HM
    obtain ⟨j, rfl, hj, HJ⟩ := hrel
    by_cases hlt : j < n
    · have hps : j < ps.length := by have := HN.out; omega
      obtain ⟨b, off, rfl, hb, hc⟩ := Lv.out.lx.lat.clsCells (by omega)
      have e0 := hc j hps
      obtain ⟨x, hx⟩ : ∃ x, (ps[j]'hps).cls = x := ⟨_, rfl⟩
      rw [hx] at e0
      have HX := Lib.hid (show ps[j]? = some (ps[j]'hps) ∧ (!isSp (ps[j]'hps).cls) = !isSp x from ⟨List.getElem?_eq_getElem hps, by rw [hx]⟩)
      clear hc hx
      by_cases h3 : x = 3
      · have HE := Lib.hid (show j = m from by rw [← HJ.out]; exact (while_no HX.out.1 (by show (!isSp (ps[j]'hps).cls) = false; rw [HX.out.2, h3]; rfl)).symm)
        subst h3
        go_wp2_with fail
        refine (rmore_any j v (by omega)).mono ?_
        rintro e v2 ⟨rfl, hb⟩
        have Lv2 := Lib.hid (Lv.out.later hb)
        clear c0 c1 c2 c3 z0 z1 f0 f1
        obtain ⟨c0, c1, c2, c3, z0, z1, f0, f1⟩ := Lv2.out.reads
        go_wp2_with fail
        obtain ⟨hbb, yy0, yy1⟩ := Lv2.out.setb (.int .i64 ((j : Int))) (.int .i64 ((j : Int) + 1))
        refine bodyPost_ret (v := .agg #[.int .i64 ((j : Int)), .int .i64 ((j : Int) + 1)]) (by simp [results, Tryd.f43, go_sem, yy0, yy1]) rfl ⟨?_, hbb⟩
        rw [← HR.out, ← HE.out]; rfl
      · by_cases h4 : x = 4
        · have HE := Lib.hid (show j = m from by rw [← HJ.out]; exact (while_no HX.out.1 (by show (!isSp (ps[j]'hps).cls) = false; rw [HX.out.2, h4]; rfl)).symm)
          subst h4
          clear h3
          go_wp2_with fail
          refine (rmore_any j v (by omega)).mono ?_
          rintro e v2 ⟨rfl, hb⟩
          have Lv2 := Lib.hid (Lv.out.later hb)
          clear c0 c1 c2 c3 z0 z1 f0 f1
          obtain ⟨c0, c1, c2, c3, z0, z1, f0, f1⟩ := Lv2.out.reads
          go_wp2_with fail
          obtain ⟨hbb, yy0, yy1⟩ := Lv2.out.setb (.int .i64 ((j : Int))) (.int .i64 ((j : Int) + 1))
          refine bodyPost_ret (v := .agg #[.int .i64 ((j : Int)), .int .i64 ((j : Int) + 1)]) (by simp [results, Tryd.f43, go_sem, yy0, yy1]) rfl ⟨?_, hbb⟩
          rw [← HR.out, ← HE.out]; rfl
        · have hq3 := bne_yes h3
          have hq4 := bne_yes h4
          have HE := Lib.hid (show whileP (fun p => !isSp p.cls) ps (j + 1) = m from by
            rw [← HJ.out]
            refine (while_yes HX.out.1 ?_).symm
            show (!isSp (ps[j]'hps).cls) = true
            rw [HX.out.2]; unfold isSp; rw [beq_no h3, beq_no h4]; rfl)
          clear h3 h4
          go_wp2_with fail
          go_round
          case rel => exact ⟨j + 1, by go_num, by omega, HE⟩
          case measure => simp [intOf]; omega
    · have hlt' : ¬ (j : Int) < (n : Int) := by omega
      have HE := Lib.hid (show j = m from by rw [← HJ.out]; exact (while_end (List.getElem?_eq_none (by have := HN.out; omega))).symm)
      go_wp2_with fail
      refine (rmore_any j v (by omega)).mono ?_
      rintro e v2 ⟨rfl, hb⟩
      have Lv2 := Lib.hid (Lv.out.later hb)
      clear c0 c1 c2 c3 z0 z1 f0 f1
      obtain ⟨c0, c1, c2, c3, z0, z1, f0, f1⟩ := Lv2.out.reads
      go_wp2_with fail
      obtain ⟨hbb, yy0, yy1⟩ := Lv2.out.setb (.int .i64 ((j : Int))) (.int .i64 ((j : Int) + 1))
      refine bodyPost_ret (v := .agg #[.int .i64 ((j : Int)), .int .i64 ((j : Int) + 1)]) (by simp [results, Tryd.f43, go_sem, yy0, yy1]) rfl ⟨?_, hbb⟩
      rw [← HR.out, ← HE.out]; rfl
set_option maxRecDepth 100000 in
set_option maxHeartbeats 4000000 in
theorem rplain_any {n cP cC cN S : Nat} {ps : List Pt} {AP AC AN : Option Addr} (w : World) (h : LAt w w.heap.size ps n AP AC AN cP cC cN) (h0 : 0 < ps.length) {r : Nat × Nat} (hr : plainR ps = r) :
    Calls Tryd.prog 44 #[.agg (lV n AP AC AN cP cC cN S)] w fun e w' => e = .returned (aV r) ∧ Below w.heap.size w w' := by
  unfold lV
  have hf := h.few
  have hn := h.len
  have hn1 : n ≤ 1000 := by omega
  have HH := Lib.hid h
  obtain ⟨en, he⟩ : ∃ m, endR ps false = m := ⟨_, rfl⟩
  obtain ⟨l1, hl1⟩ : ∃ m, ledR ps 1 = m := ⟨_, rfl⟩
  obtain ⟨l2, hl2⟩ : ∃ m, ledR ps 2 = m := ⟨_, rfl⟩
  obtain ⟨l0, hl0⟩ : ∃ m, ledR ps 0 = m := ⟨_, rfl⟩
  have b1 := ledR_le (c := 1) h0 hf
  have b2 := ledR_le (c := 2) h0 hf
  have b0 := ledR_le (c := 0) h0 hf
  rw [hl1] at b1
  rw [hl2] at b2
  rw [hl0] at b0
  unfold plainR at hr
  rw [he, hl1, hl2, hl0] at hr
  have HE := Lib.hid he
  have H1 := Lib.hid hl1
  have H2 := Lib.hid hl2
  have H0 := Lib.hid hl0
  have HR := Lib.hid hr
  clear he hl1 hl2 hl0 hn hf hr
  clear h
  go_enter Tryd.func44, Tryd.ntmps44
  go_wp2_with fail
  obtain ⟨X, hX⟩ : ∃ X, X = (w.alloc (.cells #[.slice AP n cP, .slice AC n cC, .slice AN n cN, .int .i64 (S : Int)] 68)).alloc (.cells #[.int .i64 0, .int .i64 0] 71) := ⟨_, rfl⟩
  have LX0 := Lib.hid (LY.mk0 HH.out hX)
  rw [← hX]
  clear hX
  obtain ⟨g, hg⟩ : ∃ g, w.heap.size = g := ⟨_, rfl⟩
  rw [hg] at LX0
  try rw [hg]
  have HG := Lib.hid hg
  clear hg
  obtain ⟨c0, c1, c2, c3, z0, z1, f0, f1⟩ := LX0.out.reads
  refine (rending_any false X LX0.out.lx.lat HE.out).mono ?_
  rintro e a ⟨rfl, hb⟩
  have La := Lib.hid (LX0.out.later hb)
  clear c0 c1 c2 c3 z0 z1 f0 f1 hb LX0
  obtain ⟨c0, c1, c2, c3, z0, z1, f0, f1⟩ := La.out.reads
  by_cases g1 : 0 < en
  · have HRR := Lib.hid (show (en, en) = r from by have := HR.out; rw [if_pos g1] at this; exact this)
    have g1' : (0 : Int) < (en : Int) := by omega
    go_wp2_with fail
    obtain ⟨hbb, yy0, yy1⟩ := La.out.setb (.int .i64 ((en : Int))) (.int .i64 ((en : Int)))
    refine bodyPost_ret (v := .agg #[.int .i64 ((en : Int)), .int .i64 ((en : Int))]) (by simp [results, Tryd.f44, go_sem, yy0, yy1]) rfl ⟨?_, hbb⟩
    rw [← HRR.out]; rfl
  have g1' : ¬ (0 : Int) < (en : Int) := by omega
  have K1 := Lib.hid HR.out
  rw [if_neg g1] at K1
  clear HR g1
  go_wp2_with fail
  refine (rled_any 1 a La.out.lx.lat h0 H1.out).mono ?_
  rintro e b ⟨rfl, hb⟩
  have Lb := Lib.hid (La.out.later hb)
  clear c0 c1 c2 c3 z0 z1 f0 f1 hb La
  obtain ⟨c0, c1, c2, c3, z0, z1, f0, f1⟩ := Lb.out.reads
  by_cases g2 : 0 < l1
  · have HRR := Lib.hid (show (l1, l1 + 1) = r from by have := K1.out; rw [if_pos g2] at this; exact this)
    have g2' : (0 : Int) < (l1 : Int) := by omega
    go_wp2_with fail
    refine (rled_any 1 b Lb.out.lx.lat h0 H1.out).mono ?_
    rintro e x ⟨rfl, hb⟩
    have Lx := Lib.hid (Lb.out.later hb)
    clear c0 c1 c2 c3 z0 z1 f0 f1 hb Lb
    obtain ⟨c0, c1, c2, c3, z0, z1, f0, f1⟩ := Lx.out.reads
    go_wp2_with fail
    refine (rmore_any l1 x (by omega)).mono ?_
    rintro e y ⟨rfl, hb⟩
    have Ly := Lib.hid (Lx.out.later hb)
    clear c0 c1 c2 c3 z0 z1 f0 f1 hb Lx
    obtain ⟨c0, c1, c2, c3, z0, z1, f0, f1⟩ := Ly.out.reads
    go_wp2_with fail
    obtain ⟨hbb, yy0, yy1⟩ := Ly.out.setb (.int .i64 ((l1 : Int))) (.int .i64 ((l1 : Int) + 1))
    refine bodyPost_ret (v := .agg #[.int .i64 ((l1 : Int)), .int .i64 ((l1 : Int) + 1)]) (by simp [results, Tryd.f44, go_sem, yy0, yy1]) rfl ⟨?_, hbb⟩
    rw [← HRR.out]; rfl
  have g2' : ¬ (0 : Int) < (l1 : Int) := by omega
  have K2 := Lib.hid K1.out
  rw [if_neg g2] at K2
  clear K1 g2
  go_wp2_with fail
  refine (rled_any 2 b Lb.out.lx.lat h0 H2.out).mono ?_
  rintro e c ⟨rfl, hb⟩
  have Lc := Lib.hid (Lb.out.later hb)
  clear c0 c1 c2 c3 z0 z1 f0 f1 hb Lb
  obtain ⟨c0, c1, c2, c3, z0, z1, f0, f1⟩ := Lc.out.reads
  by_cases g3 : 0 < l2
  · have HRR := Lib.hid (show (l2, l2 + 1) = r from by have := K2.out; rw [if_pos g3] at this; exact this)
    have g3' : (0 : Int) < (l2 : Int) := by omega
    go_wp2_with fail
    refine (rled_any 2 c Lc.out.lx.lat h0 H2.out).mono ?_
    rintro e x ⟨rfl, hb⟩
    have Lx := Lib.hid (Lc.out.later hb)
    clear c0 c1 c2 c3 z0 z1 f0 f1 hb Lc
    obtain ⟨c0, c1, c2, c3, z0, z1, f0, f1⟩ := Lx.out.reads
    go_wp2_with fail
    refine (rmore_any l2 x (by omega)).mono ?_
    rintro e y ⟨rfl, hb⟩
    have Ly := Lib.hid (Lx.out.later hb)
    clear c0 c1 c2 c3 z0 z1 f0 f1 hb Lx
    obtain ⟨c0, c1, c2, c3, z0, z1, f0, f1⟩ := Ly.out.reads
    go_wp2_with fail
    obtain ⟨hbb, yy0, yy1⟩ := Ly.out.setb (.int .i64 ((l2 : Int))) (.int .i64 ((l2 : Int) + 1))
    refine bodyPost_ret (v := .agg #[.int .i64 ((l2 : Int)), .int .i64 ((l2 : Int) + 1)]) (by simp [results, Tryd.f44, go_sem, yy0, yy1]) rfl ⟨?_, hbb⟩
    rw [← HRR.out]; rfl
  have g3' : ¬ (0 : Int) < (l2 : Int) := by omega
  have K3 := Lib.hid K2.out
  rw [if_neg g3] at K3
  clear K2 g3
  go_wp2_with fail
  refine (rled_any 0 c Lc.out.lx.lat h0 H0.out).mono ?_
  rintro e d ⟨rfl, hb⟩
  have Ld := Lib.hid (Lc.out.later hb)
  clear c0 c1 c2 c3 z0 z1 f0 f1 hb Lc
  obtain ⟨c0, c1, c2, c3, z0, z1, f0, f1⟩ := Ld.out.reads
  by_cases g4 : 0 < l0
  · have HRR := Lib.hid (show (l0, l0 + 1) = r from by have := K3.out; rw [if_pos g4] at this; exact this)
    have g4' : (0 : Int) < (l0 : Int) := by omega
    go_wp2_with fail
    refine (rled_any 0 d Ld.out.lx.lat h0 H0.out).mono ?_
    rintro e x ⟨rfl, hb⟩
    have Lx := Lib.hid (Ld.out.later hb)
    clear c0 c1 c2 c3 z0 z1 f0 f1 hb Ld
    obtain ⟨c0, c1, c2, c3, z0, z1, f0, f1⟩ := Lx.out.reads
    go_wp2_with fail
    refine (rmore_any l0 x (by omega)).mono ?_
    rintro e y ⟨rfl, hb⟩
    have Ly := Lib.hid (Lx.out.later hb)
    clear c0 c1 c2 c3 z0 z1 f0 f1 hb Lx
    obtain ⟨c0, c1, c2, c3, z0, z1, f0, f1⟩ := Ly.out.reads
    go_wp2_with fail
    obtain ⟨hbb, yy0, yy1⟩ := Ly.out.setb (.int .i64 ((l0 : Int))) (.int .i64 ((l0 : Int) + 1))
    refine bodyPost_ret (v := .agg #[.int .i64 ((l0 : Int)), .int .i64 ((l0 : Int) + 1)]) (by simp [results, Tryd.f44, go_sem, yy0, yy1]) rfl ⟨?_, hbb⟩
    rw [← HRR.out]; rfl
  have g4' : ¬ (0 : Int) < (l0 : Int) := by omega
  have K4 := Lib.hid K3.out
  rw [if_neg g4] at K4
  clear K3 g4
  go_wp2_with fail
  obtain ⟨rN, rR⟩ := r
  refine (rblanks_any d Ld.out.lx.lat K4.out).mono ?_
  rintro e y ⟨rfl, hb⟩
  have Ly := Lib.hid (Ld.out.later hb)
  clear c0 c1 c2 c3 z0 z1 f0 f1 hb Ld
  obtain ⟨c0, c1, c2, c3, z0, z1, f0, f1⟩ := Ly.out.reads
  unfold aV
  go_wp2_with fail
  obtain ⟨hbb, yy0, yy1⟩ := Ly.out.setb (.int .i64 ((rN : Int))) (.int .i64 ((rR : Int)))
  refine bodyPost_ret (v := .agg #[.int .i64 ((rN : Int)), .int .i64 ((rR : Int))]) (by simp [results, Tryd.f44, go_sem, yy0, yy1]) rfl ⟨?_, hbb⟩
  rfl
set_option maxRecDepth 100000 in
set_option maxHeartbeats 4000000 in
theorem rwide_any {n cP cC cN S : Nat} {ps : List Pt} {AP AC AN : Option Addr} (w : World) (h : LAt w w.heap.size ps n AP AC AN cP cC cN) (h0 : 0 < ps.length) {r : Nat × Nat} (hr : wideR ps = r) :
    Calls Tryd.prog 45 #[.agg (lV n AP AC AN cP cC cN S)] w fun e w' => e = .returned (aV r) ∧ Below w.heap.size w w' := by
  unfold lV
  have hf := h.few
  have hn := h.len
  have hn1 : n ≤ 1000 := by omega
  have HH := Lib.hid h
  obtain ⟨en, he⟩ : ∃ m, endR ps true = m := ⟨_, rfl⟩
  obtain ⟨r1, hr1⟩ : ∃ m, rRow ps 0 1 = m := ⟨_, rfl⟩
  obtain ⟨r2, hr2⟩ : ∃ m, rRow ps 1 1 = m := ⟨_, rfl⟩
  obtain ⟨nm, hnm⟩ : ∃ m, rRow ps 0 2 = m := ⟨_, rfl⟩
  obtain ⟨l0, hl0⟩ : ∃ m, ledR ps 0 = m := ⟨_, rfl⟩
  obtain ⟨r4, hr4⟩ : ∃ m, rRow ps l0 4 = m := ⟨_, rfl⟩
  obtain ⟨bl, hbl⟩ : ∃ m, blanksP ps = m := ⟨_, rfl⟩
  obtain ⟨ln, hln⟩ : ∃ m, lineP ps = m := ⟨_, rfl⟩
  have b1 := row_le (i := 0) (c := 1) hf
  have b2 := row_le (i := 1) (c := 1) hf
  have b3 := row_le (i := 0) (c := 2) hf
  have b0 := ledR_le (c := 0) h0 hf
  have b4 := row_le (i := l0) (c := 4) hf
  have bbl : bl ≤ n := by rw [hn, ← hbl]; exact blanks_le
  rw [hr1] at b1
  rw [hr2] at b2
  rw [hnm] at b3
  rw [hl0] at b0
  rw [hr4] at b4
  obtain ⟨x, hx⟩ : ∃ x, clsAt ps 0 = x := ⟨_, rfl⟩
  have hxe : (ps[0]'h0).cls = x := by rw [← hx]; unfold clsAt; rw [List.getElem?_eq_getElem h0]
  unfold wideR at hr
  rw [he, hr1, hr2, hnm, hl0, hr4, hbl, hln, hx] at hr
  have HE := Lib.hid he
  have H1 := Lib.hid hr1
  have H2 := Lib.hid hr2
  have HNM := Lib.hid hnm
  have H0 := Lib.hid hl0
  have H4 := Lib.hid hr4
  have HBL := Lib.hid hbl
  have HLN := Lib.hid (show lineF ps bl = ln from by rw [← hbl]; exact hln)
  have HR := Lib.hid hr
  have HN := Lib.hid hn
  have HXE := Lib.hid hxe
  have hn0 : 0 < n := by omega
  have hn0' : (0 : Int) < (n : Int) := by omega
  have hcm := h.cls.2.2.1
  have hcn := h.cls.2.1
  unfold maxLen at hcm
  obtain ⟨bb, off, rfl, -, -⟩ := h.clsCells (by omega)
  have CELL := Lib.hid (show ∀ v S, LY w v w.heap.size ps n AP (some ⟨bb, off, none⟩) AN cP cC cN S → v.cell? ⟨bb, off, none⟩ = some (.int .i64 x) from fun v S hv => by
    obtain ⟨b2, o2, e2, _, hc⟩ := hv.lx.lat.clsCells (by omega)
    injection e2 with e2
    injection e2 with e3 e4
    subst e3 e4
    have := hc 0 h0
    rw [Nat.add_zero, HXE.out] at this
    exact this)
  have CELLJ := Lib.hid (show ∀ v S, LY w v w.heap.size ps n AP (some ⟨bb, off, none⟩) AN cP cC cN S → ∀ j (hj : j < ps.length), v.cell? ⟨bb, off + j, none⟩ = some (.int .i64 (ps[j]'hj).cls) from fun v S hv j hj => by
    obtain ⟨b2, o2, e2, _, hc⟩ := hv.lx.lat.clsCells (by omega)
    injection e2 with e2
    injection e2 with e3 e4
    subst e3 e4
    exact hc j hj)
  clear he hr1 hr2 hnm hl0 hr4 hbl hln hn hf hr hx hxe
  clear h
  go_enter Tryd.func45, Tryd.ntmps45
  go_wp2_with fail
  obtain ⟨X, hX⟩ : ∃ X, X = (w.alloc (.cells #[.slice AP n cP, .slice (some ⟨bb, off, none⟩) n cC, .slice AN n cN, .int .i64 (S : Int)] 68)).alloc (.cells #[.int .i64 0, .int .i64 0] 71) := ⟨_, rfl⟩
  have LX0 := Lib.hid (LY.mk0 HH.out hX)
  rw [← hX]
  clear hX
  obtain ⟨g, hg⟩ : ∃ g, w.heap.size = g := ⟨_, rfl⟩
  rw [hg] at LX0 CELL CELLJ
  try rw [hg]
  have HG := Lib.hid hg
  clear hg
  obtain ⟨c0, c1, c2, c3, z0, z1, f0, f1⟩ := LX0.out.reads
  refine (rending_any true X LX0.out.lx.lat HE.out).mono ?_
  rintro e a ⟨rfl, hb⟩
  have La := Lib.hid (LX0.out.later hb)
  clear c0 c1 c2 c3 z0 z1 f0 f1 hb LX0
  obtain ⟨c0, c1, c2, c3, z0, z1, f0, f1⟩ := La.out.reads
  by_cases g1 : 0 < en
  · have HRR := Lib.hid (show (en, en) = r from by have := HR.out; rw [if_pos g1] at this; exact this)
    have g1' : (0 : Int) < (en : Int) := by omega
    go_wp2_with fail
    obtain ⟨hbb, yy0, yy1⟩ := La.out.setb (.int .i64 ((en : Int))) (.int .i64 ((en : Int)))
    refine bodyPost_ret (v := .agg #[.int .i64 ((en : Int)), .int .i64 ((en : Int))]) (by simp [results, Tryd.f45, go_sem, yy0, yy1]) rfl ⟨?_, hbb⟩
    rw [← HRR.out]; rfl
  have g1' : ¬ (0 : Int) < (en : Int) := by omega
  have K1 := Lib.hid HR.out
  rw [if_neg g1] at K1
  clear HR g1
  have x0 := CELL.out a S La.out
  by_cases g2 : x = 1
  · have HRR := Lib.hid (show (r1, r1 + 1) = r from by have := K1.out; rw [if_pos g2] at this; exact this)
    subst g2
    go_wp2_with fail
    refine (rrow_any (i := 0) 1 a La.out.lx.lat (by omega) H1.out).mono ?_
    rintro e b ⟨rfl, hb⟩
    have Lb := Lib.hid (La.out.later hb)
    clear c0 c1 c2 c3 z0 z1 f0 f1 hb La
    obtain ⟨c0, c1, c2, c3, z0, z1, f0, f1⟩ := Lb.out.reads
    go_wp2_with fail
    refine (rmore_any r1 b (by omega)).mono ?_
    rintro e y ⟨rfl, hb⟩
    have Ly := Lib.hid (Lb.out.later hb)
    clear c0 c1 c2 c3 z0 z1 f0 f1 hb Lb
    obtain ⟨c0, c1, c2, c3, z0, z1, f0, f1⟩ := Ly.out.reads
    go_wp2_with fail
    obtain ⟨hbb, yy0, yy1⟩ := Ly.out.setb (.int .i64 ((r1 : Int))) (.int .i64 ((r1 : Int) + 1))
    refine bodyPost_ret (v := .agg #[.int .i64 ((r1 : Int)), .int .i64 ((r1 : Int) + 1)]) (by simp [results, Tryd.f45, go_sem, yy0, yy1]) rfl ⟨?_, hbb⟩
    rw [← HRR.out]; rfl
  have K2 := Lib.hid K1.out
  rw [if_neg g2] at K2
  have q1 := beq_no g2
  clear K1 g2
  have TAIL : ∀ v, LY w v g ps n AP (some ⟨bb, off, none⟩) AN cP cC cN S → True := fun _ _ => trivial
  clear TAIL
  by_cases g3 : x ≠ 2 ∧ x ≠ 4
  · obtain ⟨g3, g4⟩ := g3
    have q2 := bne_yes g3
    have q4 := bne_yes g4
    go_wp2_with fail
    refine (rrow_any (i := 1) 1 a La.out.lx.lat (by omega) H2.out).mono ?_
    rintro e b ⟨rfl, hb⟩
    have Lb := Lib.hid (La.out.later hb)
    clear c0 c1 c2 c3 z0 z1 f0 f1 hb La
    obtain ⟨c0, c1, c2, c3, z0, z1, f0, f1⟩ := Lb.out.reads
    by_cases g5 : 0 < r2
    · have HRR := Lib.hid (show (1 + r2, 1 + r2 + 1) = r from by have := K2.out; rw [if_pos ⟨g3, g4, g5⟩] at this; exact this)
      have g5' : (0 : Int) < (r2 : Int) := by omega
      go_wp2_with fail
      refine (rrow_any (i := 1) 1 b Lb.out.lx.lat (by omega) H2.out).mono ?_
      rintro e c ⟨rfl, hb⟩
      have Lc := Lib.hid (Lb.out.later hb)
      clear c0 c1 c2 c3 z0 z1 f0 f1 hb Lb
      obtain ⟨c0, c1, c2, c3, z0, z1, f0, f1⟩ := Lc.out.reads
      go_wp2_with fail
      obtain ⟨k1, hk1⟩ : ∃ k1, 1 + r2 = k1 := ⟨_, rfl⟩
      have hki : (1 : Int) + (r2 : Int) = (k1 : Int) := by omega
      rw [hk1] at HRR
      have hkl : k1 ≤ 100000 := by omega
      rw [hki]
      refine (rmore_any k1 c hkl).mono ?_
      rintro e y ⟨rfl, hb⟩
      have Ly := Lib.hid (Lc.out.later hb)
      clear c0 c1 c2 c3 z0 z1 f0 f1 hb Lc
      obtain ⟨c0, c1, c2, c3, z0, z1, f0, f1⟩ := Ly.out.reads
      go_wp2_with fail
      obtain ⟨hbb, yy0, yy1⟩ := Ly.out.setb (.int .i64 ((k1 : Int))) (.int .i64 ((k1 : Int) + 1))
      refine bodyPost_ret (v := .agg #[.int .i64 ((k1 : Int)), .int .i64 ((k1 : Int) + 1)]) (by simp [results, Tryd.f45, go_sem, yy0, yy1]) rfl ⟨?_, hbb⟩
      rw [← HRR.out]; rfl
    · have g5' : ¬ (0 : Int) < (r2 : Int) := by omega
      have K3 := Lib.hid K2.out
      rw [if_neg (fun e => g5 e.2.2)] at K3
      clear K2 g5 g3 g4
      go_wp2_with fail
      refine (rrow_any (i := 0) 2 b Lb.out.lx.lat (by omega) HNM.out).mono ?_
      rintro e d ⟨rfl, hb⟩
      have Ld := Lib.hid (Lb.out.later hb)
      clear c0 c1 c2 c3 z0 z1 f0 f1 hb Lb
      obtain ⟨c0, c1, c2, c3, z0, z1, f0, f1⟩ := Ld.out.reads
      by_cases t1 : 3 ≤ nm
      · have HRR := Lib.hid (show (3, 3) = r from by have := K3.out; rw [if_pos t1] at this; exact this)
        have t1' : (3 : Int) ≤ (nm : Int) := by omega
        go_wp2_with fail
        obtain ⟨hbb, yy0, yy1⟩ := Ld.out.setb (.int .i64 (3)) (.int .i64 (3))
        refine bodyPost_ret (v := .agg #[.int .i64 (3), .int .i64 (3)]) (by simp [results, Tryd.f45, go_sem, yy0, yy1]) rfl ⟨?_, hbb⟩
        rw [← HRR.out]; rfl
      have t1' : ¬ (3 : Int) ≤ (nm : Int) := by omega
      have K4 := Lib.hid K3.out
      rw [if_neg t1] at K4
      clear K3 t1
      by_cases t2 : 0 < nm
      · have HRR := Lib.hid (show (nm, nm + 1) = r from by have := K4.out; rw [if_pos t2] at this; exact this)
        have t2' : (0 : Int) < (nm : Int) := by omega
        go_wp2_with fail
        refine (rmore_any nm d (by omega)).mono ?_
        rintro e y ⟨rfl, hb⟩
        have Ly := Lib.hid (Ld.out.later hb)
        clear c0 c1 c2 c3 z0 z1 f0 f1 hb Ld
        obtain ⟨c0, c1, c2, c3, z0, z1, f0, f1⟩ := Ly.out.reads
        go_wp2_with fail
        obtain ⟨hbb, yy0, yy1⟩ := Ly.out.setb (.int .i64 ((nm : Int))) (.int .i64 ((nm : Int) + 1))
        refine bodyPost_ret (v := .agg #[.int .i64 ((nm : Int)), .int .i64 ((nm : Int) + 1)]) (by simp [results, Tryd.f45, go_sem, yy0, yy1]) rfl ⟨?_, hbb⟩
        rw [← HRR.out]; rfl
      have t2' : ¬ (0 : Int) < (nm : Int) := by omega
      have K5 := Lib.hid K4.out
      rw [if_neg t2] at K5
      clear K4 t2
      go_wp2_with fail
      refine (rled_any 0 d Ld.out.lx.lat h0 H0.out).mono ?_
      rintro e f ⟨rfl, hb⟩
      have Lf := Lib.hid (Ld.out.later hb)
      clear c0 c1 c2 c3 z0 z1 f0 f1 hb Ld
      obtain ⟨c0, c1, c2, c3, z0, z1, f0, f1⟩ := Lf.out.reads
      by_cases t3 : 0 < l0
      · have HRR := Lib.hid (show (l0 + r4, l0 + r4 + 1) = r from by have := K5.out; rw [if_pos t3] at this; exact this)
        have t3' : (0 : Int) < (l0 : Int) := by omega
        go_wp2_with fail
        refine (rrow_any (i := l0) 4 f Lf.out.lx.lat (by omega) H4.out).mono ?_
        rintro e k ⟨rfl, hb⟩
        have Lk := Lib.hid (Lf.out.later hb)
        clear c0 c1 c2 c3 z0 z1 f0 f1 hb Lf
        obtain ⟨c0, c1, c2, c3, z0, z1, f0, f1⟩ := Lk.out.reads
        go_wp2_with fail
        obtain ⟨k1, hk1⟩ : ∃ k1, l0 + r4 = k1 := ⟨_, rfl⟩
        have hki : (l0 : Int) + (r4 : Int) = (k1 : Int) := by omega
        rw [hk1] at HRR
        have hkl : k1 ≤ 100000 := by omega
        rw [hki]
        refine (rmore_any k1 k hkl).mono ?_
        rintro e y ⟨rfl, hb⟩
        have Ly := Lib.hid (Lk.out.later hb)
        clear c0 c1 c2 c3 z0 z1 f0 f1 hb Lk
        obtain ⟨c0, c1, c2, c3, z0, z1, f0, f1⟩ := Ly.out.reads
        go_wp2_with fail
        obtain ⟨hbb, yy0, yy1⟩ := Ly.out.setb (.int .i64 ((k1 : Int))) (.int .i64 ((k1 : Int) + 1))
        refine bodyPost_ret (v := .agg #[.int .i64 ((k1 : Int)), .int .i64 ((k1 : Int) + 1)]) (by simp [results, Tryd.f45, go_sem, yy0, yy1]) rfl ⟨?_, hbb⟩
        rw [← HRR.out]; rfl
      have t3' : ¬ (0 : Int) < (l0 : Int) := by omega
      have K6 := Lib.hid K5.out
      rw [if_neg t3] at K6
      clear K5 t3
      go_wp2_with fail
      refine (rspaces_any f Lf.out.lx.lat HBL.out).mono ?_
      rintro e k ⟨rfl, hb⟩
      have Lk := Lib.hid (Lf.out.later hb)
      clear c0 c1 c2 c3 z0 z1 f0 f1 hb Lf
      obtain ⟨c0, c1, c2, c3, z0, z1, f0, f1⟩ := Lk.out.reads
      go_wp2_with fail
      go_loop [5, 6] (fun y z => ∃ j m : Nat, z = .int .i64 (j : Int) ∧ y = .int .i64 (m : Int) ∧ j ≤ bl ∧ Hid (lineF ps j = m)) (fun _ z => bl - (intOf z).toNat)
      case atStart => exact ⟨0, 0, by first | rfl | trivial, by first | rfl | trivial, Nat.zero_le _, Lib.hid rfl⟩
      case round =>
        obtain ⟨j, m, rfl, rfl, hj, HJ⟩ := hrel
        by_cases hlt : j < bl
        · have hps : j < ps.length := by have := HN.out; omega
          have e0 := CELLJ.out k S Lk.out j hps
          obtain ⟨cl, hcl⟩ : ∃ cl, (ps[j]'hps).cls = cl := ⟨_, rfl⟩
          rw [hcl] at e0
          have HCL := Lib.hid (show clsAt ps j = cl from by unfold clsAt; rw [List.getElem?_eq_getElem hps]; exact hcl)
          have hjn : (j : Int) < (n : Int) := by omega
          clear hcl
          by_cases h4 : cl = 4
          · have HM := Lib.hid (show lineF ps (j + 1) = j + 1 from by rw [lineF, if_pos (by rw [HCL.out]; exact h4)])
            subst h4
            go_wp2_with fail
            go_round
            case rel => exact ⟨j + 1, j + 1, by go_num, by go_num, by omega, HM⟩
            case measure => simp [intOf]; omega
          · have HM := Lib.hid (show lineF ps (j + 1) = m from by rw [lineF, if_neg (by rw [HCL.out]; exact h4)]; exact HJ.out)
            have hq := beq_no h4
            clear h4
            go_wp2_with fail
            go_round
            case rel => exact ⟨j + 1, m, by go_num, rfl, by omega, HM⟩
            case measure => simp [intOf]; omega
        · obtain rfl : j = bl := by omega
          have HML := Lib.hid (show m = ln from by rw [← HJ.out]; exact HLN.out)
          have hml := HML.out
          subst hml
          clear HML
          by_cases t4 : 0 < m
          · have HRR := Lib.hid (show (m, j + 1) = r from by have := K6.out; rw [if_pos t4] at this; exact this)
            have t4' : (0 : Int) < (m : Int) := by omega
            go_wp2_with fail
            obtain ⟨hbb, yy0, yy1⟩ := Lk.out.setb (.int .i64 ((m : Int))) (.int .i64 ((j : Int) + 1))
            refine bodyPost_ret (v := .agg #[.int .i64 ((m : Int)), .int .i64 ((j : Int) + 1)]) (by simp [results, Tryd.f45, go_sem, yy0, yy1]) rfl ⟨?_, hbb⟩
            rw [← HRR.out]; rfl
          · have t4' : ¬ (0 : Int) < (m : Int) := by omega
            have K7 := Lib.hid K6.out
            rw [if_neg t4] at K7
            clear K6 t4
            go_wp2_with fail
            obtain ⟨rN, rR⟩ := r
            refine (rblanks_any k Lk.out.lx.lat K7.out).mono ?_
            rintro e y ⟨rfl, hb⟩
            have Ly := Lib.hid (Lk.out.later hb)
            clear c0 c1 c2 c3 z0 z1 f0 f1 hb Lk
            obtain ⟨c0, c1, c2, c3, z0, z1, f0, f1⟩ := Ly.out.reads
            unfold aV
            go_wp2_with fail
            obtain ⟨hbb, yy0, yy1⟩ := Ly.out.setb (.int .i64 ((rN : Int))) (.int .i64 ((rR : Int)))
            refine bodyPost_ret (v := .agg #[.int .i64 ((rN : Int)), .int .i64 ((rR : Int))]) (by simp [results, Tryd.f45, go_sem, yy0, yy1]) rfl ⟨?_, hbb⟩
            rfl

  · have K3 := Lib.hid K2.out
    rw [if_neg (fun e => g3 ⟨e.1, e.2.1⟩)] at K3
    have q24 : x = 2 ∨ x = 4 := by omega
    clear K2 g3
    rcases q24 with rfl | rfl
    · go_wp2_with fail
      refine (rrow_any (i := 0) 2 a La.out.lx.lat (by omega) HNM.out).mono ?_
      rintro e d ⟨rfl, hb⟩
      have Ld := Lib.hid (La.out.later hb)
      clear c0 c1 c2 c3 z0 z1 f0 f1 hb La
      obtain ⟨c0, c1, c2, c3, z0, z1, f0, f1⟩ := Ld.out.reads
      by_cases t1 : 3 ≤ nm
      · have HRR := Lib.hid (show (3, 3) = r from by have := K3.out; rw [if_pos t1] at this; exact this)
        have t1' : (3 : Int) ≤ (nm : Int) := by omega
        go_wp2_with fail
        obtain ⟨hbb, yy0, yy1⟩ := Ld.out.setb (.int .i64 (3)) (.int .i64 (3))
        refine bodyPost_ret (v := .agg #[.int .i64 (3), .int .i64 (3)]) (by simp [results, Tryd.f45, go_sem, yy0, yy1]) rfl ⟨?_, hbb⟩
        rw [← HRR.out]; rfl
      have t1' : ¬ (3 : Int) ≤ (nm : Int) := by omega
      have K4 := Lib.hid K3.out
      rw [if_neg t1] at K4
      clear K3 t1
      by_cases t2 : 0 < nm
      · have HRR := Lib.hid (show (nm, nm + 1) = r from by have := K4.out; rw [if_pos t2] at this; exact this)
        have t2' : (0 : Int) < (nm : Int) := by omega
        go_wp2_with fail
        refine (rmore_any nm d (by omega)).mono ?_
        rintro e y ⟨rfl, hb⟩
        have Ly := Lib.hid (Ld.out.later hb)
        clear c0 c1 c2 c3 z0 z1 f0 f1 hb Ld
        obtain ⟨c0, c1, c2, c3, z0, z1, f0, f1⟩ := Ly.out.reads
        go_wp2_with fail
        obtain ⟨hbb, yy0, yy1⟩ := Ly.out.setb (.int .i64 ((nm : Int))) (.int .i64 ((nm : Int) + 1))
        refine bodyPost_ret (v := .agg #[.int .i64 ((nm : Int)), .int .i64 ((nm : Int) + 1)]) (by simp [results, Tryd.f45, go_sem, yy0, yy1]) rfl ⟨?_, hbb⟩
        rw [← HRR.out]; rfl
      have t2' : ¬ (0 : Int) < (nm : Int) := by omega
      have K5 := Lib.hid K4.out
      rw [if_neg t2] at K5
      clear K4 t2
      go_wp2_with fail
      refine (rled_any 0 d Ld.out.lx.lat h0 H0.out).mono ?_
      rintro e f ⟨rfl, hb⟩
      have Lf := Lib.hid (Ld.out.later hb)
      clear c0 c1 c2 c3 z0 z1 f0 f1 hb Ld
      obtain ⟨c0, c1, c2, c3, z0, z1, f0, f1⟩ := Lf.out.reads
      by_cases t3 : 0 < l0
      · have HRR := Lib.hid (show (l0 + r4, l0 + r4 + 1) = r from by have := K5.out; rw [if_pos t3] at this; exact this)
        have t3' : (0 : Int) < (l0 : Int) := by omega
        go_wp2_with fail
        refine (rrow_any (i := l0) 4 f Lf.out.lx.lat (by omega) H4.out).mono ?_
        rintro e k ⟨rfl, hb⟩
        have Lk := Lib.hid (Lf.out.later hb)
        clear c0 c1 c2 c3 z0 z1 f0 f1 hb Lf
        obtain ⟨c0, c1, c2, c3, z0, z1, f0, f1⟩ := Lk.out.reads
        go_wp2_with fail
        obtain ⟨k1, hk1⟩ : ∃ k1, l0 + r4 = k1 := ⟨_, rfl⟩
        have hki : (l0 : Int) + (r4 : Int) = (k1 : Int) := by omega
        rw [hk1] at HRR
        have hkl : k1 ≤ 100000 := by omega
        rw [hki]
        refine (rmore_any k1 k hkl).mono ?_
        rintro e y ⟨rfl, hb⟩
        have Ly := Lib.hid (Lk.out.later hb)
        clear c0 c1 c2 c3 z0 z1 f0 f1 hb Lk
        obtain ⟨c0, c1, c2, c3, z0, z1, f0, f1⟩ := Ly.out.reads
        go_wp2_with fail
        obtain ⟨hbb, yy0, yy1⟩ := Ly.out.setb (.int .i64 ((k1 : Int))) (.int .i64 ((k1 : Int) + 1))
        refine bodyPost_ret (v := .agg #[.int .i64 ((k1 : Int)), .int .i64 ((k1 : Int) + 1)]) (by simp [results, Tryd.f45, go_sem, yy0, yy1]) rfl ⟨?_, hbb⟩
        rw [← HRR.out]; rfl
      have t3' : ¬ (0 : Int) < (l0 : Int) := by omega
      have K6 := Lib.hid K5.out
      rw [if_neg t3] at K6
      clear K5 t3
      go_wp2_with fail
      refine (rspaces_any f Lf.out.lx.lat HBL.out).mono ?_
      rintro e k ⟨rfl, hb⟩
      have Lk := Lib.hid (Lf.out.later hb)
      clear c0 c1 c2 c3 z0 z1 f0 f1 hb Lf
      obtain ⟨c0, c1, c2, c3, z0, z1, f0, f1⟩ := Lk.out.reads
      go_wp2_with fail
      go_loop [5, 6] (fun y z => ∃ j m : Nat, z = .int .i64 (j : Int) ∧ y = .int .i64 (m : Int) ∧ j ≤ bl ∧ Hid (lineF ps j = m)) (fun _ z => bl - (intOf z).toNat)
      case atStart => exact ⟨0, 0, by first | rfl | trivial, by first | rfl | trivial, Nat.zero_le _, Lib.hid rfl⟩
      case round =>
        obtain ⟨j, m, rfl, rfl, hj, HJ⟩ := hrel
        by_cases hlt : j < bl
        · have hps : j < ps.length := by have := HN.out; omega
          have e0 := CELLJ.out k S Lk.out j hps
          obtain ⟨cl, hcl⟩ : ∃ cl, (ps[j]'hps).cls = cl := ⟨_, rfl⟩
          rw [hcl] at e0
          have HCL := Lib.hid (show clsAt ps j = cl from by unfold clsAt; rw [List.getElem?_eq_getElem hps]; exact hcl)
          have hjn : (j : Int) < (n : Int) := by omega
          clear hcl
          by_cases h4 : cl = 4
          · have HM := Lib.hid (show lineF ps (j + 1) = j + 1 from by rw [lineF, if_pos (by rw [HCL.out]; exact h4)])
            subst h4
            go_wp2_with fail
            go_round
            case rel => exact ⟨j + 1, j + 1, by go_num, by go_num, by omega, HM⟩
            case measure => simp [intOf]; omega
          · have HM := Lib.hid (show lineF ps (j + 1) = m from by rw [lineF, if_neg (by rw [HCL.out]; exact h4)]; exact HJ.out)
            have hq := beq_no h4
            clear h4
            go_wp2_with fail
            go_round
            case rel => exact ⟨j + 1, m, by go_num, rfl, by omega, HM⟩
            case measure => simp [intOf]; omega
        · obtain rfl : j = bl := by omega
          have HML := Lib.hid (show m = ln from by rw [← HJ.out]; exact HLN.out)
          have hml := HML.out
          subst hml
          clear HML
          by_cases t4 : 0 < m
          · have HRR := Lib.hid (show (m, j + 1) = r from by have := K6.out; rw [if_pos t4] at this; exact this)
            have t4' : (0 : Int) < (m : Int) := by omega
            go_wp2_with fail
            obtain ⟨hbb, yy0, yy1⟩ := Lk.out.setb (.int .i64 ((m : Int))) (.int .i64 ((j : Int) + 1))
            refine bodyPost_ret (v := .agg #[.int .i64 ((m : Int)), .int .i64 ((j : Int) + 1)]) (by simp [results, Tryd.f45, go_sem, yy0, yy1]) rfl ⟨?_, hbb⟩
            rw [← HRR.out]; rfl
          · have t4' : ¬ (0 : Int) < (m : Int) := by omega
            have K7 := Lib.hid K6.out
            rw [if_neg t4] at K7
            clear K6 t4
            go_wp2_with fail
            obtain ⟨rN, rR⟩ := r
            refine (rblanks_any k Lk.out.lx.lat K7.out).mono ?_
            rintro e y ⟨rfl, hb⟩
            have Ly := Lib.hid (Lk.out.later hb)
            clear c0 c1 c2 c3 z0 z1 f0 f1 hb Lk
            obtain ⟨c0, c1, c2, c3, z0, z1, f0, f1⟩ := Ly.out.reads
            unfold aV
            go_wp2_with fail
            obtain ⟨hbb, yy0, yy1⟩ := Ly.out.setb (.int .i64 ((rN : Int))) (.int .i64 ((rR : Int)))
            refine bodyPost_ret (v := .agg #[.int .i64 ((rN : Int)), .int .i64 ((rR : Int))]) (by simp [results, Tryd.f45, go_sem, yy0, yy1]) rfl ⟨?_, hbb⟩
            rfl

    · go_wp2_with fail
      refine (rrow_any (i := 0) 2 a La.out.lx.lat (by omega) HNM.out).mono ?_
      rintro e d ⟨rfl, hb⟩
      have Ld := Lib.hid (La.out.later hb)
      clear c0 c1 c2 c3 z0 z1 f0 f1 hb La
      obtain ⟨c0, c1, c2, c3, z0, z1, f0, f1⟩ := Ld.out.reads
      by_cases t1 : 3 ≤ nm
      · have HRR := Lib.hid (show (3, 3) = r from by have := K3.out; rw [if_pos t1] at this; exact this)
        have t1' : (3 : Int) ≤ (nm : Int) := by omega
        go_wp2_with fail
        obtain ⟨hbb, yy0, yy1⟩ := Ld.out.setb (.int .i64 (3)) (.int .i64 (3))
        refine bodyPost_ret (v := .agg #[.int .i64 (3), .int .i64 (3)]) (by simp [results, Tryd.f45, go_sem, yy0, yy1]) rfl ⟨?_, hbb⟩
        rw [← HRR.out]; rfl
      have t1' : ¬ (3 : Int) ≤ (nm : Int) := by omega
      have K4 := Lib.hid K3.out
      rw [if_neg t1] at K4
      clear K3 t1
      by_cases t2 : 0 < nm
      · have HRR := Lib.hid (show (nm, nm + 1) = r from by have := K4.out; rw [if_pos t2] at this; exact this)
        have t2' : (0 : Int) < (nm : Int) := by omega
        go_wp2_with fail
        refine (rmore_any nm d (by omega)).mono ?_
        rintro e y ⟨rfl, hb⟩
        have Ly := Lib.hid (Ld.out.later hb)
        clear c0 c1 c2 c3 z0 z1 f0 f1 hb Ld
        obtain ⟨c0, c1, c2, c3, z0, z1, f0, f1⟩ := Ly.out.reads
        go_wp2_with fail
        obtain ⟨hbb, yy0, yy1⟩ := Ly.out.setb (.int .i64 ((nm : Int))) (.int .i64 ((nm : Int) + 1))
        refine bodyPost_ret (v := .agg #[.int .i64 ((nm : Int)), .int .i64 ((nm : Int) + 1)]) (by simp [results, Tryd.f45, go_sem, yy0, yy1]) rfl ⟨?_, hbb⟩
        rw [← HRR.out]; rfl
      have t2' : ¬ (0 : Int) < (nm : Int) := by omega
      have K5 := Lib.hid K4.out
      rw [if_neg t2] at K5
      clear K4 t2
      go_wp2_with fail
      refine (rled_any 0 d Ld.out.lx.lat h0 H0.out).mono ?_
      rintro e f ⟨rfl, hb⟩
      have Lf := Lib.hid (Ld.out.later hb)
      clear c0 c1 c2 c3 z0 z1 f0 f1 hb Ld
      obtain ⟨c0, c1, c2, c3, z0, z1, f0, f1⟩ := Lf.out.reads
      by_cases t3 : 0 < l0
      · have HRR := Lib.hid (show (l0 + r4, l0 + r4 + 1) = r from by have := K5.out; rw [if_pos t3] at this; exact this)
        have t3' : (0 : Int) < (l0 : Int) := by omega
        go_wp2_with fail
        refine (rrow_any (i := l0) 4 f Lf.out.lx.lat (by omega) H4.out).mono ?_
        rintro e k ⟨rfl, hb⟩
        have Lk := Lib.hid (Lf.out.later hb)
        clear c0 c1 c2 c3 z0 z1 f0 f1 hb Lf
        obtain ⟨c0, c1, c2, c3, z0, z1, f0, f1⟩ := Lk.out.reads
        go_wp2_with fail
        obtain ⟨k1, hk1⟩ : ∃ k1, l0 + r4 = k1 := ⟨_, rfl⟩
        have hki : (l0 : Int) + (r4 : Int) = (k1 : Int) := by omega
        rw [hk1] at HRR
        have hkl : k1 ≤ 100000 := by omega
        rw [hki]
        refine (rmore_any k1 k hkl).mono ?_
        rintro e y ⟨rfl, hb⟩
        have Ly := Lib.hid (Lk.out.later hb)
        clear c0 c1 c2 c3 z0 z1 f0 f1 hb Lk
        obtain ⟨c0, c1, c2, c3, z0, z1, f0, f1⟩ := Ly.out.reads
        go_wp2_with fail
        obtain ⟨hbb, yy0, yy1⟩ := Ly.out.setb (.int .i64 ((k1 : Int))) (.int .i64 ((k1 : Int) + 1))
        refine bodyPost_ret (v := .agg #[.int .i64 ((k1 : Int)), .int .i64 ((k1 : Int) + 1)]) (by simp [results, Tryd.f45, go_sem, yy0, yy1]) rfl ⟨?_, hbb⟩
        rw [← HRR.out]; rfl
      have t3' : ¬ (0 : Int) < (l0 : Int) := by omega
      have K6 := Lib.hid K5.out
      rw [if_neg t3] at K6
      clear K5 t3
      go_wp2_with fail
      refine (rspaces_any f Lf.out.lx.lat HBL.out).mono ?_
      rintro e k ⟨rfl, hb⟩
      have Lk := Lib.hid (Lf.out.later hb)
      clear c0 c1 c2 c3 z0 z1 f0 f1 hb Lf
      obtain ⟨c0, c1, c2, c3, z0, z1, f0, f1⟩ := Lk.out.reads
      go_wp2_with fail
      go_loop [5, 6] (fun y z => ∃ j m : Nat, z = .int .i64 (j : Int) ∧ y = .int .i64 (m : Int) ∧ j ≤ bl ∧ Hid (lineF ps j = m)) (fun _ z => bl - (intOf z).toNat)
      case atStart => exact ⟨0, 0, by first | rfl | trivial, by first | rfl | trivial, Nat.zero_le _, Lib.hid rfl⟩
      case round =>
        obtain ⟨j, m, rfl, rfl, hj, HJ⟩ := hrel
        by_cases hlt : j < bl
        · have hps : j < ps.length := by have := HN.out; omega
          have e0 := CELLJ.out k S Lk.out j hps
          obtain ⟨cl, hcl⟩ : ∃ cl, (ps[j]'hps).cls = cl := ⟨_, rfl⟩
          rw [hcl] at e0
          have HCL := Lib.hid (show clsAt ps j = cl from by unfold clsAt; rw [List.getElem?_eq_getElem hps]; exact hcl)
          have hjn : (j : Int) < (n : Int) := by omega
          clear hcl
          by_cases h4 : cl = 4
          · have HM := Lib.hid (show lineF ps (j + 1) = j + 1 from by rw [lineF, if_pos (by rw [HCL.out]; exact h4)])
            subst h4
            go_wp2_with fail
            go_round
            case rel => exact ⟨j + 1, j + 1, by go_num, by go_num, by omega, HM⟩
            case measure => simp [intOf]; omega
          · have HM := Lib.hid (show lineF ps (j + 1) = m from by rw [lineF, if_neg (by rw [HCL.out]; exact h4)]; exact HJ.out)
            have hq := beq_no h4
            clear h4
            go_wp2_with fail
            go_round
            case rel => exact ⟨j + 1, m, by go_num, rfl, by omega, HM⟩
            case measure => simp [intOf]; omega
        · obtain rfl : j = bl := by omega
          have HML := Lib.hid (show m = ln from by rw [← HJ.out]; exact HLN.out)
          have hml := HML.out
          subst hml
          clear HML
          by_cases t4 : 0 < m
          · have HRR := Lib.hid (show (m, j + 1) = r from by have := K6.out; rw [if_pos t4] at this; exact this)
            have t4' : (0 : Int) < (m : Int) := by omega
            go_wp2_with fail
            obtain ⟨hbb, yy0, yy1⟩ := Lk.out.setb (.int .i64 ((m : Int))) (.int .i64 ((j : Int) + 1))
            refine bodyPost_ret (v := .agg #[.int .i64 ((m : Int)), .int .i64 ((j : Int) + 1)]) (by simp [results, Tryd.f45, go_sem, yy0, yy1]) rfl ⟨?_, hbb⟩
            rw [← HRR.out]; rfl
          · have t4' : ¬ (0 : Int) < (m : Int) := by omega
            have K7 := Lib.hid K6.out
            rw [if_neg t4] at K7
            clear K6 t4
            go_wp2_with fail
            obtain ⟨rN, rR⟩ := r
            refine (rblanks_any k Lk.out.lx.lat K7.out).mono ?_
            rintro e y ⟨rfl, hb⟩
            have Ly := Lib.hid (Lk.out.later hb)
            clear c0 c1 c2 c3 z0 z1 f0 f1 hb Lk
            obtain ⟨c0, c1, c2, c3, z0, z1, f0, f1⟩ := Ly.out.reads
            unfold aV
            go_wp2_with fail
            obtain ⟨hbb, yy0, yy1⟩ := Ly.out.setb (.int .i64 ((rN : Int))) (.int .i64 ((rR : Int)))
            refine bodyPost_ret (v := .agg #[.int .i64 ((rN : Int)), .int .i64 ((rR : Int))]) (by simp [results, Tryd.f45, go_sem, yy0, yy1]) rfl ⟨?_, hbb⟩
            rfl

end Go.Proofs.YtkiggpbmlkfdpaaDoor
