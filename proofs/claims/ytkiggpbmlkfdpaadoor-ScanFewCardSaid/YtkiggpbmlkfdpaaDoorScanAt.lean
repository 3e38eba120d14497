/- The walk of scan's at: the i-th point. -/
import Derived.Test.YtkiggpbmlkfdpaaDoorScanPoint
import Derived.Deep.LoopGhost
namespace Go.Proofs.YtkiggpbmlkfdpaaDoor
open Go.RowKit
set_option linter.unusedVariables false

/-- A slice value that reads as points. -/
def PtsAt (w : World) (B : Nat) (A : Option Addr) (n c : Nat) (ps : List Pt) : Prop := RowAt w B 4 A n c (ptsV ps)
section
variable {w w' : World} {B n c : Nat} {A : Option Addr} {ps : List Pt}
theorem PtsAt.len (h : PtsAt w B A n c ps) : n = ps.length := by have := h.1; rw [length_ptsV] at this; omega
theorem PtsAt.cells (h : PtsAt w B A n c ps) (h0 : 0 < n) : ∃ b off, A = some ⟨b, off, none⟩ ∧ b < B ∧ ∀ i (hi : i < ps.length), w.cell? ⟨b, off + i * 4, none⟩ = some (.int .i64 ps[i].code) ∧ w.cell? ⟨b, off + i * 4 + 1, none⟩ = some (.int .i64 ps[i].cls) ∧ w.cell? ⟨b, off + i * 4 + 2, none⟩ = some (.int .i64 (ps[i].n : Int)) ∧ w.cell? ⟨b, off + i * 4 + 3, none⟩ = some (.bool ps[i].sure) := by
  obtain ⟨b, off, e, hb, hc⟩ := h.2.2.2 h0
  refine ⟨b, off, e, hb, fun i hi => ?_⟩
  obtain ⟨g0, g1, g2, g3⟩ := ptsV_get hi
  exact ⟨hc _ _ g0, by rw [Nat.add_assoc]; exact hc _ _ g1, by rw [Nat.add_assoc]; exact hc _ _ g2, by rw [Nat.add_assoc]; exact hc _ _ g3⟩
end
theorem RdSt.aside {w w' : World} {B q k n c nt ct cr b4 : Nat} {t : List Rg} {ps : List Pt} {wide op : Bool} {A At Ar : Option Addr} {rest : List UInt8} (h : RdSt w B q t ps wide k A n c At nt ct Ar cr op rest) (hg : w.grownBy w' (some b4)) (hq : q < b4) (ho : (Value.slice Ar k cr).ownBlock ≠ some b4) : RdSt w' B q t ps wide k A n c At nt ct Ar cr op rest := by
  have hl := h.lt
  have low := h.low
  have hk : ∀ p : Addr, p.block < B → w'.cell? p = w.cell? p := fun p hp => World.cell?_of_block (hg.block p.block (by omega) (by intro e; injection e with e; omega))
  refine ⟨(hg.block q hl (by intro e; injection e with e; omega)).trans h.blk, RowAt.keep h.rst hk, RowAt.keep h.tab hk, ?_, h.pts, low, h.len, h.few⟩
  exact h.row.kept (row := some b4) hg (.inr ho)
theorem grown_set (w : World) (b j : Nat) (v : Value) : w.grownBy (w.setCell ⟨b, j, none⟩ v) (some b) :=
  ⟨rfl, rfl, rfl, by simp, fun i hi hne => Below.heap_setCell w ⟨b, j, none⟩ v i (by rintro rfl; exact hne rfl)⟩
theorem four_reads {w : World} {g : Nat} {T : TypeId} {x0 x1 x2 x3 a b c d : Value} (h : w.heap[g]? = some (.cells #[x0, x1, x2, x3] T (0, 0))) :
    ((((w.setCell ⟨g, 0, none⟩ a).setCell ⟨g, 1, none⟩ b).setCell ⟨g, 2, none⟩ c).setCell ⟨g, 3, none⟩ d).cell? ⟨g, 0, none⟩ = some a ∧ ((((w.setCell ⟨g, 0, none⟩ a).setCell ⟨g, 1, none⟩ b).setCell ⟨g, 2, none⟩ c).setCell ⟨g, 3, none⟩ d).cell? ⟨g, 1, none⟩ = some b ∧
    ((((w.setCell ⟨g, 0, none⟩ a).setCell ⟨g, 1, none⟩ b).setCell ⟨g, 2, none⟩ c).setCell ⟨g, 3, none⟩ d).cell? ⟨g, 2, none⟩ = some c ∧ ((((w.setCell ⟨g, 0, none⟩ a).setCell ⟨g, 1, none⟩ b).setCell ⟨g, 2, none⟩ c).setCell ⟨g, 3, none⟩ d).cell? ⟨g, 3, none⟩ = some d := by
  have h4 := rheap_set (j := 3) (u := d) (rheap_set (j := 2) (u := c) (rheap_set (j := 1) (u := b) (rheap_set (j := 0) (u := a) h)))
  exact ⟨Lib.cell_of_heap h4 0, Lib.cell_of_heap h4 1, Lib.cell_of_heap h4 2, Lib.cell_of_heap h4 3⟩
theorem RdSt.aside4 {w : World} {B q k n c nt ct cr b4 : Nat} {t : List Rg} {ps : List Pt} {wide op : Bool} {A At Ar : Option Addr} {rest : List UInt8} (h : RdSt w B q t ps wide k A n c At nt ct Ar cr op rest) (hq : q < b4) (ho : (Value.slice Ar k cr).ownBlock ≠ some b4) (x y z u : Value) :
    RdSt ((((w.setCell ⟨b4, 0, none⟩ x).setCell ⟨b4, 1, none⟩ y).setCell ⟨b4, 2, none⟩ z).setCell ⟨b4, 3, none⟩ u) B q t ps wide k A n c At nt ct Ar cr op rest :=
  (((h.aside (grown_set _ b4 0 x) hq ho).aside (grown_set _ b4 1 y) hq ho).aside (grown_set _ b4 2 z) hq ho).aside (grown_set _ b4 3 u) hq ho
theorem below4 {w0 w : World} {q b4 : Nat} (h : Below q w0 w) (hq : q < b4) (x y z u : Value) : Below q w0 ((((w.setCell ⟨b4, 0, none⟩ x).setCell ⟨b4, 1, none⟩ y).setCell ⟨b4, 2, none⟩ z).setCell ⟨b4, 3, none⟩ u) :=
  (((h.setCell (p := ⟨b4, 0, none⟩) (Nat.le_of_lt hq) x).setCell (p := ⟨b4, 1, none⟩) (Nat.le_of_lt hq) y).setCell (p := ⟨b4, 2, none⟩) (Nat.le_of_lt hq) z).setCell (p := ⟨b4, 3, none⟩) (Nat.le_of_lt hq) u
/-- What at answers. -/
def ptAt (ps : List Pt) (i : Nat) : Pt := ps.getD i zeroPt
theorem ptAt_get {ps : List Pt} {i : Nat} (h : i < ps.length) : ptAt ps i = ps[i] := by unfold ptAt; rw [List.getD_eq_getElem?_getD, List.getElem?_eq_getElem h]; rfl
theorem ptAt_none {ps : List Pt} {i : Nat} (h : ps.length ≤ i) : ptAt ps i = zeroPt := by unfold ptAt; rw [List.getD_eq_getElem?_getD, List.getElem?_eq_none h]; rfl
def AtTo (B q : Nat) (t : List Rg) (ps : List Pt) (wide : Bool) (k0 i : Nat) (w : World) (e : Ending) (w' : World) : Prop :=
  e = .returned (.tuple #[.agg (ptCells (ptAt ps i)).toArray, .bool (decide (i < ps.length))]) ∧ Below q w w' ∧ ∃ k, RdAt w' B q t ps wide k ∧ k0 ≤ k ∧ min (i + 1) ps.length ≤ k
set_option maxRecDepth 100000 in
set_option maxHeartbeats 4000000 in
theorem at_any {B q k0 i : Nat} {t : List Rg} {ps : List Pt} {wide : Bool} (w : World) (h : RdAt w B q t ps wide k0) (hi : i ≤ 100000) :
    Calls Tryd.prog 53 #[.pointer (some ⟨q, 0, none⟩), .int .i64 (i : Int)] w (AtTo B q t ps wide k0 i w) := by
  obtain ⟨A, n, c, At, nt, ct, Ar, cr, op, rest, h⟩ := h
  obtain ⟨b4, hb4⟩ : ∃ b4, w.heap.size = b4 := ⟨_, rfl⟩
  have hq4 : q < b4 := by have := h.lt; omega
  have hne : (Value.slice Ar k0 cr).ownBlock ≠ some b4 := fun e => by have := (h.row.lt b4 e).2; omega
  go_enter Tryd.func53, Tryd.ntmps53
  go_wp2_with fail
  obtain ⟨w1, hw1⟩ : ∃ w1, w1 = w.alloc (.cells #[.int .i64 0, .int .i64 0, .int .i64 0, .bool false] 66) := ⟨_, rfl⟩
  have HB1 := Lib.hid (show Below w.heap.size w w1 from by rw [hw1]; exact (Below.refl _ w).alloc (Nat.le_refl _) _)
  have HK1 := Lib.hid (show w1.heap[b4]? = some (.cells #[.int .i64 0, .int .i64 0, .int .i64 0, .bool false] 66 (0, 0)) from by rw [hw1, ← hb4]; exact heap_alloc_new w _)
  have H1 := Lib.hid (h.later HB1.out)
  have HB1' := Lib.hid (HB1.out.mono (show q ≤ w.heap.size by omega))
  rw [← hw1]
  try rw [hb4]
  clear hw1 h HB1 hb4
  go_loopg [5] (ps.length + 1 - k0) (fun gk s5 wr => ∃ (k : Nat) (A : Option Addr) (n c : Nat) (At : Option Addr) (nt ct : Nat) (Ar : Option Addr) (cr : Nat) (op : Bool) (rest : List UInt8), s5 = .bool false ∧ Hid (gk = ps.length + 1 - k) ∧ k0 ≤ k ∧ Hid (RdSt wr B q t ps wide k A n c At nt ct Ar cr op rest) ∧ Hid (Below q w wr) ∧ Hid (wr.heap[b4]? = some (.cells #[.int .i64 0, .int .i64 0, .int .i64 0, .bool false] 66 (0, 0))) ∧ Hid ((Value.slice Ar k cr).ownBlock ≠ some b4) ∧ k ≤ ps.length)
  case atStart => exact ⟨k0, A, n, c, At, nt, ct, Ar, cr, op, rest, rfl, rfl, Nat.le_refl _, H1.out, HB1'.out, HK1.out, hne, H1.out.len⟩
  case round =>
    clear H1 HK1 hne HB1'
    clear A n c At nt ct Ar cr op rest
    obtain ⟨k, A, n, c, At, nt, ct, Ar, cr, op, rest, rfl, HG, hk0, HR, HB, HK, HNE, hkl⟩ := hrel
    obtain ⟨c0, c1, c2, c3, c4⟩ := HR.out.reads
    have hfew := HR.out.few.1
    have y0 : wr.cell? ⟨b4, 0, none⟩ = some (.int .i64 0) := Lib.cell_of_heap HK.out 0
    have y1 : wr.cell? ⟨b4, 1, none⟩ = some (.int .i64 0) := Lib.cell_of_heap HK.out 1
    have y2 : wr.cell? ⟨b4, 2, none⟩ = some (.int .i64 0) := Lib.cell_of_heap HK.out 2
    have y3 : wr.cell? ⟨b4, 3, none⟩ = some (.bool false) := Lib.cell_of_heap HK.out 3
    have g0 := Lib.frozen_of_heap HK.out 0
    have g1 := Lib.frozen_of_heap HK.out 1
    have g2 := Lib.frozen_of_heap HK.out 2
    have g3 := Lib.frozen_of_heap HK.out 3
    by_cases hik : i < k
    · have hips : i < ps.length := by omega
      have hit : i < (ps.take k).length := by rw [List.length_take]; omega
      obtain ⟨b, off, rfl, hb, hc⟩ := PtsAt.cells (RowAt.of_own HR.out.row) (by omega)
      obtain ⟨e0, e1, e2, e3⟩ := hc i hit
      have hget : (ps.take k)[i] = ps[i] := List.getElem_take
      rw [hget] at e0 e1 e2 e3
      obtain ⟨pt, hpt⟩ : ∃ x, ps[i] = x := ⟨_, rfl⟩
      rw [hpt] at e0 e1 e2 e3
      obtain ⟨p0, p1, p2, pn⟩ := pt
      simp only at e0 e1 e2 e3
      have hik' : ¬ (k : Int) ≤ (i : Int) := by omega
      have hik2 : (i : Int) < (k : Int) := by omega
      have HPT := Lib.hid hpt
      clear hc hget hpt
      go_wp2_with fail
      obtain ⟨r0, r1, r2, r3⟩ := four_reads (a := .int .i64 p0) (b := .int .i64 p1) (c := .int .i64 (p2 : Int)) (d := .bool pn) HK.out
      refine bodyPost_ret (v := .tuple #[.agg #[.int .i64 p0, .int .i64 p1, .int .i64 (p2 : Int), .bool pn], .bool true]) (by simp [results, Tryd.f53, go_sem, r0, r1, r2, r3]) rfl ?_
      refine ⟨?_, below4 HB.out hq4 _ _ _ _, k, ⟨A, n, c, At, nt, ct, _, cr, op, rest, HR.out.aside4 hq4 HNE.out _ _ _ _⟩, hk0, by omega⟩
      rw [ptAt_get hips, HPT.out, decide_eq_true hips]
      rfl
    · have hik' : (k : Int) ≤ (i : Int) := by omega
      by_cases hkp : k < ps.length
      · go_wp2_with fail
        refine (more_yes wr HR.out hkp).mono ?_
        rintro e w2 ⟨rfl, A2, n2, c2', At2, nt2, ct2, Ar2, cr2, op2, rest2, h2, hf2⟩
        have HR2 := Lib.hid h2
        have HB2 := Lib.hid (HB.out.trans hf2.low)
        have hb4w : b4 < wr.heap.size := (Array.getElem?_eq_some_iff.1 HK.out).1
        have HK2 := Lib.hid ((hf2.oth b4 hb4w (by omega) HNE.out).trans HK.out)
        have HNE2 := Lib.hid (show (Value.slice Ar2 (k + 1) cr2).ownBlock ≠ some b4 from by
          rcases hf2.row with h | ⟨x, h, hx⟩
          · rw [h]; exact HNE.out
          · rw [h]; intro e; injection e with e; omega)
        have hkl2 := h2.len
        clear h2 hf2
        go_wp2_with fail
        go_roundg (ps.length + 1 - (k + 1))
        case measure => have := HG.out; omega
        case rel => exact ⟨k + 1, A2, n2, c2', At2, nt2, ct2, Ar2, cr2, op2, rest2, rfl, rfl, by omega, HR2, HB2, HK2, HNE2, hkl2⟩
      · have hips : ps.length ≤ i := by omega
        go_wp2_with fail
        refine (more_no wr HR.out (by omega)).mono ?_
        rintro e w2 ⟨rfl, rfl⟩
        go_wp2_with fail
        obtain ⟨r0, r1, r2, r3⟩ := four_reads (a := .int .i64 0) (b := .int .i64 0) (c := .int .i64 0) (d := .bool false) HK.out
        refine bodyPost_ret (v := .tuple #[.agg #[.int .i64 0, .int .i64 0, .int .i64 0, .bool false], .bool false]) (by simp [results, Tryd.f53, go_sem, r0, r1, r2, r3]) rfl ?_
        refine ⟨?_, below4 HB.out hq4 _ _ _ _, k, ⟨A, n, c, At, nt, ct, Ar, cr, op, rest, HR.out.aside4 hq4 HNE.out _ _ _ _⟩, hk0, by omega⟩
        rw [ptAt_none hips, decide_eq_false (by omega)]
        rfl
end Go.Proofs.YtkiggpbmlkfdpaaDoor
