/- The walks of scan's run, blanks, small, led, spaces. -/
import Derived.Test.YtkiggpbmlkfdpaaDoorScanMem
import Derived.Deep.RegionLaw
import Derived.Deep.AppendLies
import Derived.Deep.LoopGhost
import Derived.Lib.MinMax
/- The walk of scan's more: one point more is read. -/
namespace Go.Proofs.YtkiggpbmlkfdpaaDoor
open Go.RowKit
set_option linter.unusedVariables false

theorem len_pts {t : List Rg} {rest : List UInt8} {ps : List Pt} {k : Nat} {op : Bool} (h : ps = ps.take k ++ (if op = true then rest.map (fun _ => openPt) else ptsOf t rest)) (hk : k ≤ ps.length) : rest = [] ↔ k = ps.length := by
  have hl := congrArg List.length h
  rw [List.length_append, List.length_take, Nat.min_eq_left hk] at hl
  constructor
  · rintro rfl
    cases op
    · rw [if_neg (by decide), pts_nil] at hl; simp at hl; omega
    · rw [if_pos rfl] at hl; simp at hl; omega
  · intro e
    have h0 : (if op = true then rest.map (fun _ => openPt) else ptsOf t rest).length = 0 := by omega
    cases op
    · rw [if_neg (by decide)] at h0
      by_cases hr : rest = []
      · exact hr
      · have := pts_pos (t := t) hr; omega
    · rw [if_pos rfl, List.length_map] at h0
      exact List.eq_nil_of_length_eq_zero h0
set_option maxHeartbeats 1000000 in
theorem more_no {B q k n c nt ct cr : Nat} {t : List Rg} {ps : List Pt} {wide op : Bool} {A At Ar : Option Addr} {rest : List UInt8} (w : World) (h : RdSt w B q t ps wide k A n c At nt ct Ar cr op rest) (hk : k = ps.length) :
    Calls Tryd.prog 74 #[.pointer (some ⟨q, 0, none⟩)] w fun e w' => e = .returned (.bool false) ∧ w = w' := by
  obtain rfl := (len_pts h.pts h.len).2 hk
  have hn := h.rst.len
  obtain ⟨c0, c1, c2, c3, c4⟩ := h.reads
  obtain rfl : n = 0 := by simpa using hn
  clear h hk hn
  go_enter Tryd.func74, Tryd.ntmps74
  go_wp2_with fail
  go_ret
  exact ⟨rfl, rfl⟩
/-- The second half: an open point is put behind the row. -/
theorem map_open {rest : List UInt8} (h : rest ≠ []) : rest.map (fun _ => openPt) = openPt :: (rest.drop 1).map (fun _ => openPt) := by
  cases rest with
  | nil => exact absurd rfl h
  | cons x r => rfl
set_option maxRecDepth 100000 in
set_option maxHeartbeats 2000000 in
theorem more_open {B q k n c nt ct cr : Nat} {t : List Rg} {ps : List Pt} {wide : Bool} {A At Ar : Option Addr} {rest : List UInt8} (w : World) (h : RdSt w B q t ps wide k A n c At nt ct Ar cr true rest) (hk : k < ps.length) :
    Calls Tryd.prog 74 #[.pointer (some ⟨q, 0, none⟩)] w (MoreTo B q t ps wide k Ar cr w) := by
  have hr : rest ≠ [] := fun e => by have := (len_pts h.pts h.len).1 e; omega
  have hn := h.rst.len
  have hn0 : 0 < n := by rw [hn]; exact List.length_pos_iff.2 hr
  have hnc := h.rst.2.1
  have hcm := h.rst.2.2.1
  unfold maxLen at hcm
  obtain ⟨c0, c1, c2, c3, c4⟩ := h.reads
  obtain ⟨f0, f2, f3⟩ := h.frees
  have hq := h.lt
  have hfew := h.few.1
  have hpts := h.pts
  rw [if_pos rfl, map_open hr] at hpts
  have HT := Lib.hid (take_more hpts h.len)
  obtain ⟨i0, hi, hz0, hz1, hz2⟩ := info_parts infoPt
  have HN := Lib.hid (pt_block (p := openPt) (heap_alloc_new w (.cells (ptCells openPt).toArray 66)))
  have HO := Lib.hid (h.row.alloc (.cells (ptCells openPt).toArray 66))
  have HB := Lib.hid ((Below.heap_alloc w (.cells (ptCells openPt).toArray 66) q hq).trans h.blk)
  have HF := Lib.hid (h.rst.from_ (k := 1) (by omega))
  have HL := Lib.hid (fun b hb => Nat.le_of_lt (h.row.lt b hb).1)
  have HH := Lib.hid h
  have hd1 : (n : Int) ≠ 0 := by omega
  have hbz := beq_no hd1
  have hone : (1 : Int) ≤ (n : Int) := by omega
  have honec : (1 : Int) ≤ (c : Int) := by omega
  have hbase : q + 1 ≤ (w.alloc (.cells (ptCells openPt).toArray 66)).heap.size := by simp; omega
  have HBA := Lib.hid hbase
  have HOK := Lib.hid (show ∀ u ∈ ptCells openPt, u.oneCell' = true from fun u hu => one_pts (ps := [openPt]) u (by simpa [ptsV] using hu))
  clear h hn hr hpts hd1 hbase
  by_cases hcc : c = 1
  · subst hcc
    obtain rfl : n = 1 := by omega
    rw [if_pos rfl] at HF
    go_enter Tryd.func74, Tryd.ntmps74
    go_wp2_with (at_builtin; refine wpList_append_lies _ rfl (.tmp 62) (.tmp 64) _ rfl (q + 1) 66 i0 _ 4 32 Tryd.underlying59 hi hz0 hz1 hz2 rfl (by decide) (.slice Ar k cr) k (ptsV (ps.take k)) rfl HO.out ⟨w.heap.size, 0, none⟩ 1 1 (ptCells openPt) rfl rfl HN.out HOK.out (by decide) (by unfold maxLen; omega) (by omega) HBA.out _ rfl ?_; intro g cap w5 hown5 hg5 hat5 hlt5; have O5 := Lib.hid hown5; have G5 := Lib.hid hg5; have A5 := Lib.hid hat5; have W5 := Lib.hid (rgrown_block HO.out hg5 HB.out (by decide)); obtain ⟨p0, p2, q0, q2⟩ : w5.cell? ⟨q, 0, none⟩ = some (.slice A 1 1) ∧ w5.cell? ⟨q, 2, none⟩ = some (.slice Ar k cr) ∧ w5.frozen? ⟨q, 0, none⟩ = false ∧ w5.frozen? ⟨q, 2, none⟩ = false := ⟨Lib.cell_of_heap W5.out 0, Lib.cell_of_heap W5.out 2, Lib.frozen_of_heap W5.out 0, Lib.frozen_of_heap W5.out 2⟩; clear hown5 hg5 hat5 hlt5)
    go_ret
    refine close_more HH.out W5.out ?_ (Fr.append G5.out hq HL.out rfl A5.out) HF.out ?_ HT.out.1
    · rw [HT.out.2.1, ptsV_app]
      exact O5.out
    · rw [if_pos rfl]; exact HT.out.2.2
  · rw [if_neg hcc] at HF
    go_enter Tryd.func74, Tryd.ntmps74
    go_wp2_with (at_builtin; refine wpList_append_lies _ rfl (.tmp 62) (.tmp 64) _ rfl (q + 1) 66 i0 _ 4 32 Tryd.underlying59 hi hz0 hz1 hz2 rfl (by decide) (.slice Ar k cr) k (ptsV (ps.take k)) rfl HO.out ⟨w.heap.size, 0, none⟩ 1 1 (ptCells openPt) rfl rfl HN.out HOK.out (by decide) (by unfold maxLen; omega) (by omega) HBA.out _ rfl ?_; intro g cap w5 hown5 hg5 hat5 hlt5; have O5 := Lib.hid hown5; have G5 := Lib.hid hg5; have A5 := Lib.hid hat5; have W5 := Lib.hid (rgrown_block HO.out hg5 HB.out (by decide)); obtain ⟨p0, p2, q0, q2⟩ : w5.cell? ⟨q, 0, none⟩ = some (.slice A n c) ∧ w5.cell? ⟨q, 2, none⟩ = some (.slice Ar k cr) ∧ w5.frozen? ⟨q, 0, none⟩ = false ∧ w5.frozen? ⟨q, 2, none⟩ = false := ⟨Lib.cell_of_heap W5.out 0, Lib.cell_of_heap W5.out 2, Lib.frozen_of_heap W5.out 0, Lib.frozen_of_heap W5.out 2⟩; clear hown5 hg5 hat5 hlt5)
    go_ret
    refine close_more HH.out W5.out ?_ (Fr.append G5.out hq HL.out rfl A5.out) HF.out ?_ HT.out.1
    · rw [HT.out.2.1, ptsV_app]
      exact O5.out
    · rw [if_pos rfl]; exact HT.out.2.2
set_option maxRecDepth 100000 in
set_option maxHeartbeats 2000000 in
theorem more_first {B q k n c nt ct cr : Nat} {t : List Rg} {ps : List Pt} {wide : Bool} {A At Ar : Option Addr} {rest : List UInt8} (w : World) (h : RdSt w B q t ps wide k A n c At nt ct Ar cr false rest) (hk : k < ps.length) (hm : (dec rest false).2.2 = true) :
    Calls Tryd.prog 74 #[.pointer (some ⟨q, 0, none⟩)] w (MoreTo B q t ps wide k Ar cr w) := by
  have hr : rest ≠ [] := fun e => by have := (len_pts h.pts h.len).1 e; omega
  have hn := h.rst.len
  have hn0 : 0 < n := by rw [hn]; exact List.length_pos_iff.2 hr
  have hnc := h.rst.2.1
  have hcm := h.rst.2.2.1
  unfold maxLen at hcm
  obtain ⟨d1, d2, d3, hd⟩ := dec_ex rest false
  obtain rfl : d3 = true := by rw [hd] at hm; exact hm
  have HD := Lib.hid hd
  have h1 := h.opened hr hm
  obtain ⟨c0, c1, c2, c3, c4⟩ := h.reads
  obtain ⟨f0, f2, f3⟩ := h.frees
  have hq := h.lt
  have HQ := Lib.hid h1.lt
  have hfew := h.few.1
  have hpts := h1.pts
  rw [if_pos rfl, map_open hr] at hpts
  have HT := Lib.hid (take_more hpts h1.len)
  obtain ⟨i0, hi, hz0, hz1, hz2⟩ := info_parts infoPt
  have HCL := Lib.hid (fun w' => MoreTo.set0 (w := w) (w5 := w') (B := B) (q := q) (t := t) (ps := ps) (wide := wide) (k := k) (Ar := Ar) (cr := cr) (e := .returned (.bool true)))
  obtain ⟨X, hX⟩ : ∃ X, X = w.setCell ⟨q, 3, none⟩ (.bool true) := ⟨_, rfl⟩
  rw [← hX] at h1 HCL HQ
  have hXs : X.heap.size = w.heap.size := by rw [hX]; simp
  have HN := Lib.hid (pt_block (p := openPt) (heap_alloc_new X (.cells (ptCells openPt).toArray 66)))
  have HO := Lib.hid (h1.row.alloc (.cells (ptCells openPt).toArray 66))
  have HB := Lib.hid ((Below.heap_alloc X (.cells (ptCells openPt).toArray 66) q h1.lt).trans h1.blk)
  have HF := Lib.hid (h1.rst.from_ (k := 1) (by omega))
  have HL := Lib.hid (fun b hb => Nat.le_of_lt (h1.row.lt b hb).1)
  have HH := Lib.hid h1
  have HH0 := Lib.hid h
  have hd1 : (n : Int) ≠ 0 := by omega
  have hbz := beq_no hd1
  have hone : (1 : Int) ≤ (n : Int) := by omega
  have honec : (1 : Int) ≤ (c : Int) := by omega
  have hbase : q + 1 ≤ (X.alloc (.cells (ptCells openPt).toArray 66)).heap.size := by simp; omega
  have HBA := Lib.hid hbase
  have HOK := Lib.hid (show ∀ u ∈ ptCells openPt, u.oneCell' = true from fun u hu => one_pts (ps := [openPt]) u (by simpa [ptsV] using hu))
  rw [hXs] at HN
  clear h h1 hn hr hpts hd1 hbase hm hd hXs
  have HX := Lib.hid hX
  clear hX
  have hX := HX.out
  clear HX
  by_cases hcc : c = 1
  · subst hcc
    obtain rfl : n = 1 := by omega
    rw [if_pos rfl] at HF
    go_enter Tryd.func74, Tryd.ntmps74
    go_wp2_with fail
    refine (decode_as false w HH0.out.rst HD).mono ?_
    rintro e w' ⟨rfl, rfl⟩
    go_wp2_with (at_builtin; rw [← hX]; refine wpList_append_lies _ rfl (.tmp 62) (.tmp 64) _ rfl (q + 1) 66 i0 _ 4 32 Tryd.underlying59 hi hz0 hz1 hz2 rfl (by decide) (.slice Ar k cr) k (ptsV (ps.take k)) rfl HO.out ⟨w.heap.size, 0, none⟩ 1 1 (ptCells openPt) rfl rfl HN.out HOK.out (by decide) (by unfold maxLen; omega) (by omega) HBA.out _ rfl ?_; intro g cap w5 hown5 hg5 hat5 hlt5; have O5 := Lib.hid hown5; have G5 := Lib.hid hg5; have A5 := Lib.hid hat5; have W5 := Lib.hid (rgrown_block HO.out hg5 HB.out (by decide)); obtain ⟨p0, p2, q0, q2⟩ : w5.cell? ⟨q, 0, none⟩ = some (.slice A 1 1) ∧ w5.cell? ⟨q, 2, none⟩ = some (.slice Ar k cr) ∧ w5.frozen? ⟨q, 0, none⟩ = false ∧ w5.frozen? ⟨q, 2, none⟩ = false := ⟨Lib.cell_of_heap W5.out 0, Lib.cell_of_heap W5.out 2, Lib.frozen_of_heap W5.out 0, Lib.frozen_of_heap W5.out 2⟩; clear hown5 hg5 hat5 hlt5)
    go_ret
    refine HCL.out _ (close_more HH.out W5.out ?_ (Fr.append G5.out HQ.out HL.out rfl A5.out) HF.out ?_ HT.out.1)
    · rw [HT.out.2.1, ptsV_app]
      exact O5.out
    · rw [if_pos rfl]; exact HT.out.2.2
  · rw [if_neg hcc] at HF
    go_enter Tryd.func74, Tryd.ntmps74
    go_wp2_with fail
    refine (decode_as false w HH0.out.rst HD).mono ?_
    rintro e w' ⟨rfl, rfl⟩
    go_wp2_with (at_builtin; rw [← hX]; refine wpList_append_lies _ rfl (.tmp 62) (.tmp 64) _ rfl (q + 1) 66 i0 _ 4 32 Tryd.underlying59 hi hz0 hz1 hz2 rfl (by decide) (.slice Ar k cr) k (ptsV (ps.take k)) rfl HO.out ⟨w.heap.size, 0, none⟩ 1 1 (ptCells openPt) rfl rfl HN.out HOK.out (by decide) (by unfold maxLen; omega) (by omega) HBA.out _ rfl ?_; intro g cap w5 hown5 hg5 hat5 hlt5; have O5 := Lib.hid hown5; have G5 := Lib.hid hg5; have A5 := Lib.hid hat5; have W5 := Lib.hid (rgrown_block HO.out hg5 HB.out (by decide)); obtain ⟨p0, p2, q0, q2⟩ : w5.cell? ⟨q, 0, none⟩ = some (.slice A n c) ∧ w5.cell? ⟨q, 2, none⟩ = some (.slice Ar k cr) ∧ w5.frozen? ⟨q, 0, none⟩ = false ∧ w5.frozen? ⟨q, 2, none⟩ = false := ⟨Lib.cell_of_heap W5.out 0, Lib.cell_of_heap W5.out 2, Lib.frozen_of_heap W5.out 0, Lib.frozen_of_heap W5.out 2⟩; clear hown5 hg5 hat5 hlt5)
    go_ret
    refine HCL.out _ (close_more HH.out W5.out ?_ (Fr.append G5.out HQ.out HL.out rfl A5.out) HF.out ?_ HT.out.1)
    · rw [HT.out.2.1, ptsV_app]
      exact O5.out
    · rw [if_pos rfl]; exact HT.out.2.2
end Go.Proofs.YtkiggpbmlkfdpaaDoor
/- The walk of scan's more where a whole code point is read; more at every state. -/
namespace Go.Proofs.YtkiggpbmlkfdpaaDoor
open Go.RowKit
set_option linter.unusedVariables false

set_option maxRecDepth 100000 in
set_option maxHeartbeats 4000000 in
theorem more_point {B q k n c nt ct cr : Nat} {t : List Rg} {ps : List Pt} {wide : Bool} {A At Ar : Option Addr} {rest : List UInt8} (w : World) (h : RdSt w B q t ps wide k A n c At nt ct Ar cr false rest) (hk : k < ps.length) (hm : (dec rest false).2.2 = false) :
    Calls Tryd.prog 74 #[.pointer (some ⟨q, 0, none⟩)] w (MoreTo B q t ps wide k Ar cr w) := by
  have hr : rest ≠ [] := fun e => by have := (len_pts h.pts h.len).1 e; omega
  have hn := h.rst.len
  have hn0 : 0 < n := by rw [hn]; exact List.length_pos_iff.2 hr
  have hnc := h.rst.2.1
  have hcm := h.rst.2.2.1
  unfold maxLen at hcm
  have hdn := dec_nat hr hm
  have hpts := h.pts
  rw [if_neg (by decide), pts_one hr hm] at hpts
  obtain ⟨p, kz, d3, hd⟩ := dec_ex rest false
  rw [hd] at hm hdn hpts
  simp only at hm hdn hpts
  subst hm
  obtain ⟨kn, hkn⟩ : ∃ kn, kz.toNat = kn := ⟨_, rfl⟩
  rw [hkn] at hdn hpts
  obtain rfl : kz = (kn : Int) := hdn.2.2.2.1.symm
  obtain ⟨cl, hcl⟩ : ∃ cl, clsT t p = cl := ⟨_, rfl⟩
  rw [hcl] at hpts
  have HD := Lib.hid hd
  have HCL := Lib.hid hcl
  obtain ⟨c0, c1, c2, c3, c4⟩ := h.reads
  have hq := h.lt
  have hfew := h.few
  have HT := Lib.hid (take_more hpts h.len)
  obtain ⟨i0, hi, hz0, hz1, hz2⟩ := info_parts infoPt
  have HF := Lib.hid (h.rst.from_ (k := kn) (by omega))
  have HH := Lib.hid h
  have hlow := h.low
  have CO := Lib.hid (show ∀ W, Below w.heap.size w W → Calls Tryd.prog 80 #[.slice At nt ct, .int .i64 p] W fun e w' => e = .returned (.int .i64 cl) ∧ Hid (Below w.heap.size w w') ∧ w'.cell? ⟨q, 0, none⟩ = some (.slice A n c) ∧ w'.cell? ⟨q, 2, none⟩ = some (.slice Ar k cr) from fun W hb => by
    refine (of_as W (RowAt.mono (RowAt.below HH.out.tab (hb.mono (by omega))) (by have := hb.size; omega)) HH.out.few.2 HCL).mono ?_
    rintro e w' ⟨rfl, hb2⟩
    have h3 := hb.trans (hb2.mono hb.size)
    have h4 := (HH.out.later h3).reads
    exact ⟨rfl, h3, h4.1, h4.2.2.1⟩)
  have HAP := Lib.hid (show ∀ W1, Below w.heap.size w W1 → W1.heap.size + 1 = (W1.alloc (.cells (ptCells ⟨p, cl, kn, true⟩).toArray 66)).heap.size ∧ (W1.alloc (.cells (ptCells ⟨p, cl, kn, true⟩).toArray 66)).ownsRow (q + 1) 66 4 (.slice Ar k cr) k (ptsV (ps.take k)) ∧ (W1.alloc (.cells (ptCells ⟨p, cl, kn, true⟩).toArray 66)).heap[q]? = some (.cells #[.slice A n c, .slice At nt ct, .slice Ar k cr, .bool false, .bool wide] 61 (0, 0)) ∧ (∀ j u, (ptCells ⟨p, cl, kn, true⟩)[j]? = some u → (W1.alloc (.cells (ptCells ⟨p, cl, kn, true⟩).toArray 66)).cell? ((⟨W1.heap.size, 0, none⟩ : Addr).add j) = some u) ∧ q + 1 ≤ (W1.alloc (.cells (ptCells ⟨p, cl, kn, true⟩).toArray 66)).heap.size from fun W1 hb => by
    have h1 := HH.out.later hb
    have hs := hb.size
    exact ⟨by simp, h1.row.alloc _, (Below.heap_alloc W1 _ q h1.lt).trans h1.blk, pt_block (p := ⟨p, cl, kn, true⟩) (heap_alloc_new W1 _), by simp; omega⟩)
  have HL := Lib.hid (fun b hb => Nat.le_of_lt (h.row.lt b hb).1)
  have hd1 : (n : Int) ≠ 0 := by omega
  have hbz := beq_no hd1
  have hone : (kn : Int) ≤ (n : Int) := by omega
  have honec : (kn : Int) ≤ (c : Int) := by omega
  have hone0 : (0 : Int) ≤ (kn : Int) := by omega
  have HOK := Lib.hid (show ∀ u ∈ ptCells ⟨p, cl, kn, true⟩, u.oneCell' = true from fun u hu => one_pts (ps := [⟨p, cl, kn, true⟩]) u (by simpa [ptsV] using hu))
  obtain ⟨f0, f2, f3⟩ := h.frees
  clear h hn hr hpts hd1 hd hcl hdn hkn
  go_enter Tryd.func74, Tryd.ntmps74
  go_wp2_with fail
  refine (decode_as false w HH.out.rst HD).mono ?_
  rintro e w' ⟨rfl, rfl⟩
  go_wp2_with fail
  go_region_law (first
    | (go_simp; go_at_call 80; refine (CO.out _ (by first | exact Below.refl _ _ | exact Below.drew (Below.refl _ _))).mono ?_; rintro e wA ⟨rfl, hbA, a0, a2⟩; have hqA := (HH.out.later hbA.out).lt)
    | (refine step_append_lies _ rfl (.tmp 32) (.tmp 42) _ rfl (q + 1) 66 i0 _ 4 32 Tryd.underlying59 hi hz0 hz1 hz2 rfl (by decide) (.slice Ar k cr) k (ptsV (ps.take k)) rfl (HAP.out _ hbA.out).2.1 ⟨wA.heap.size, 0, none⟩ 1 1 (ptCells ⟨p, cl, kn, true⟩) rfl rfl (HAP.out _ hbA.out).2.2.2.1 HOK.out (by decide) (by unfold maxLen; omega) (by omega) (HAP.out _ hbA.out).2.2.2.2 _ rfl ?_; intro g cap w5 hown5 hg5 hat5 hlt5; have O5 := Lib.hid hown5; have G5 := Lib.hid hg5; have A5 := Lib.hid hat5; have W5 := Lib.hid (rgrown_block (HAP.out _ hbA.out).2.1 hg5 (HAP.out _ hbA.out).2.2.1 (by decide)); obtain ⟨p0, p2, q0, q2⟩ : w5.cell? ⟨q, 0, none⟩ = some (.slice A n c) ∧ w5.cell? ⟨q, 2, none⟩ = some (.slice Ar k cr) ∧ w5.frozen? ⟨q, 0, none⟩ = false ∧ w5.frozen? ⟨q, 2, none⟩ = false := ⟨Lib.cell_of_heap W5.out 0, Lib.cell_of_heap W5.out 2, Lib.frozen_of_heap W5.out 0, Lib.frozen_of_heap W5.out 2⟩; clear hown5 hg5 hat5 hlt5))
  all_goals
    by_cases hcc : c = kn
    · rw [if_pos hcc, show c - kn = 0 by omega] at HF
      have HCC := Lib.hid hcc
      go_wp2_with fail
      go_ret
      refine close_more HH.out W5.out ?_ ((Fr.append G5.out hqA HL.out rfl A5.out).mk0 hbA.out hq) HF.out ?_ HT.out.1
      · rw [HT.out.2.1, ptsV_app]
        exact O5.out
      · rw [if_neg (by decide)]; exact HT.out.2.2
    · rw [if_neg hcc] at HF
      go_wp2_with fail
      go_ret
      refine close_more HH.out W5.out ?_ ((Fr.append G5.out hqA HL.out rfl A5.out).mk0 hbA.out hq) HF.out ?_ HT.out.1
      · rw [HT.out.2.1, ptsV_app]
        exact O5.out
      · rw [if_neg (by decide)]; exact HT.out.2.2
/-- more where a point is there: whatever the state. -/
theorem more_yes {B q k n c nt ct cr : Nat} {t : List Rg} {ps : List Pt} {wide op : Bool} {A At Ar : Option Addr} {rest : List UInt8} (w : World) (h : RdSt w B q t ps wide k A n c At nt ct Ar cr op rest) (hk : k < ps.length) :
    Calls Tryd.prog 74 #[.pointer (some ⟨q, 0, none⟩)] w (MoreTo B q t ps wide k Ar cr w) := by
  cases op with
  | true => exact more_open w h hk
  | false =>
    cases hm : (dec rest false).2.2 with
    | true => exact more_first w h hk hm
    | false => exact more_point w h hk hm
end Go.Proofs.YtkiggpbmlkfdpaaDoor
/- The walk of scan's at: the i-th point. -/
namespace Go.Proofs.YtkiggpbmlkfdpaaDoor
open Go.RowKit
set_option linter.unusedVariables false

/-- A slice value that reads as points. -/
def PtsAt (w : World) (B : Nat) (A : Option Addr) (n c : Nat) (ps : List Pt) : Prop := RowAt w B 4 A n c (ptsV ps)
section
variable {w w' : World} {B n c : Nat} {A : Option Addr} {ps : List Pt}
theorem PtsAt.len (h : PtsAt w B A n c ps) : n = ps.length := by have := h.1; rw [length_ptsV] at this; omega
theorem PtsAt.cells (h : PtsAt w B A n c ps) (h0 : 0 < n) : ∃ b off, A = some ⟨b, off, none⟩ ∧ b < B ∧ ∀ i (hi : i < ps.length), w.cell? ⟨b, off + i * 4, none⟩ = some (.int .i64 ps[i].code) ∧ w.cell? ⟨b, off + i * 4 + 1, none⟩ = some (.int .i64 ps[i].cls) ∧ w.cell? ⟨b, off + i * 4 + 2, none⟩ = some (.int .i64 (ps[i].n : Int)) ∧ w.cell? ⟨b, off + i * 4 + 3, none⟩ = some (.bool ps[i].sure) := by
  obtain ⟨b, off, e, hb, hc⟩ := h.2.2.2 h0
  refine ⟨b, off, e, hb, fun i hi => ?_⟩
  obtain ⟨g0, g1, g2, g3⟩ := ptsV_get hi
  exact ⟨hc _ _ g0, by rw [Nat.add_assoc]; exact hc _ _ g1, by rw [Nat.add_assoc]; exact hc _ _ g2, by rw [Nat.add_assoc]; exact hc _ _ g3⟩
end
theorem RdSt.aside {w w' : World} {B q k n c nt ct cr b4 : Nat} {t : List Rg} {ps : List Pt} {wide op : Bool} {A At Ar : Option Addr} {rest : List UInt8} (h : RdSt w B q t ps wide k A n c At nt ct Ar cr op rest) (hg : w.grownBy w' (some b4)) (hq : q < b4) (ho : (Value.slice Ar k cr).ownBlock ≠ some b4) : RdSt w' B q t ps wide k A n c At nt ct Ar cr op rest := by
  have hl := h.lt
  have low := h.low
  have hk : ∀ p : Addr, p.block < B → w'.cell? p = w.cell? p := fun p hp => World.cell?_of_block (hg.block p.block (by omega) (by intro e; injection e with e; omega))
  refine ⟨(hg.block q hl (by intro e; injection e with e; omega)).trans h.blk, RowAt.keep h.rst hk, RowAt.keep h.tab hk, ?_, h.pts, low, h.len, h.few⟩
  exact h.row.kept (row := some b4) hg (.inr ho)
theorem grown_set (w : World) (b j : Nat) (v : Value) : w.grownBy (w.setCell ⟨b, j, none⟩ v) (some b) :=
  ⟨rfl, rfl, rfl, by simp, fun i hi hne => Below.heap_setCell w ⟨b, j, none⟩ v i (by rintro rfl; exact hne rfl)⟩
theorem four_reads {w : World} {g : Nat} {T : TypeId} {x0 x1 x2 x3 a b c d : Value} (h : w.heap[g]? = some (.cells #[x0, x1, x2, x3] T (0, 0))) :
    ((((w.setCell ⟨g, 0, none⟩ a).setCell ⟨g, 1, none⟩ b).setCell ⟨g, 2, none⟩ c).setCell ⟨g, 3, none⟩ d).cell? ⟨g, 0, none⟩ = some a ∧ ((((w.setCell ⟨g, 0, none⟩ a).setCell ⟨g, 1, none⟩ b).setCell ⟨g, 2, none⟩ c).setCell ⟨g, 3, none⟩ d).cell? ⟨g, 1, none⟩ = some b ∧
    ((((w.setCell ⟨g, 0, none⟩ a).setCell ⟨g, 1, none⟩ b).setCell ⟨g, 2, none⟩ c).setCell ⟨g, 3, none⟩ d).cell? ⟨g, 2, none⟩ = some c ∧ ((((w.setCell ⟨g, 0, none⟩ a).setCell ⟨g, 1, none⟩ b).setCell ⟨g, 2, none⟩ c).setCell ⟨g, 3, none⟩ d).cell? ⟨g, 3, none⟩ = some d := by
  have h4 := rheap_set (j := 3) (u := d) (rheap_set (j := 2) (u := c) (rheap_set (j := 1) (u := b) (rheap_set (j := 0) (u := a) h)))
  exact ⟨Lib.cell_of_heap h4 0, Lib.cell_of_heap h4 1, Lib.cell_of_heap h4 2, Lib.cell_of_heap h4 3⟩
theorem RdSt.aside4 {w : World} {B q k n c nt ct cr b4 : Nat} {t : List Rg} {ps : List Pt} {wide op : Bool} {A At Ar : Option Addr} {rest : List UInt8} (h : RdSt w B q t ps wide k A n c At nt ct Ar cr op rest) (hq : q < b4) (ho : (Value.slice Ar k cr).ownBlock ≠ some b4) (x y z u : Value) :
    RdSt ((((w.setCell ⟨b4, 0, none⟩ x).setCell ⟨b4, 1, none⟩ y).setCell ⟨b4, 2, none⟩ z).setCell ⟨b4, 3, none⟩ u) B q t ps wide k A n c At nt ct Ar cr op rest :=
  (((h.aside (grown_set _ b4 0 x) hq ho).aside (grown_set _ b4 1 y) hq ho).aside (grown_set _ b4 2 z) hq ho).aside (grown_set _ b4 3 u) hq ho
theorem below4 {w0 w : World} {q b4 : Nat} (h : Below q w0 w) (hq : q < b4) (x y z u : Value) : Below q w0 ((((w.setCell ⟨b4, 0, none⟩ x).setCell ⟨b4, 1, none⟩ y).setCell ⟨b4, 2, none⟩ z).setCell ⟨b4, 3, none⟩ u) :=
  (((h.setCell (p := ⟨b4, 0, none⟩) (Nat.le_of_lt hq) x).setCell (p := ⟨b4, 1, none⟩) (Nat.le_of_lt hq) y).setCell (p := ⟨b4, 2, none⟩) (Nat.le_of_lt hq) z).setCell (p := ⟨b4, 3, none⟩) (Nat.le_of_lt hq) u
/-- What at answers. -/
def ptAt (ps : List Pt) (i : Nat) : Pt := ps.getD i zeroPt
theorem ptAt_get {ps : List Pt} {i : Nat} (h : i < ps.length) : ptAt ps i = ps[i] := by unfold ptAt; rw [List.getD_eq_getElem?_getD, List.getElem?_eq_getElem h]; rfl
theorem ptAt_none {ps : List Pt} {i : Nat} (h : ps.length ≤ i) : ptAt ps i = zeroPt := by unfold ptAt; rw [List.getD_eq_getElem?_getD, List.getElem?_eq_none h]; rfl
def AtTo (B q : Nat) (t : List Rg) (ps : List Pt) (wide : Bool) (k0 i : Nat) (w : World) (e : Ending) (w' : World) : Prop :=
  e = .returned (.tuple #[.agg (ptCells (ptAt ps i)).toArray, .bool (decide (i < ps.length))]) ∧ Below q w w' ∧ ∃ k, RdAt w' B q t ps wide k ∧ k0 ≤ k ∧ min (i + 1) ps.length ≤ k
set_option maxRecDepth 100000 in
set_option maxHeartbeats 4000000 in
theorem at_any {B q k0 i : Nat} {t : List Rg} {ps : List Pt} {wide : Bool} (w : World) (h : RdAt w B q t ps wide k0) (hi : i ≤ 100000) :
    Calls Tryd.prog 53 #[.pointer (some ⟨q, 0, none⟩), .int .i64 (i : Int)] w (AtTo B q t ps wide k0 i w) := by
  obtain ⟨A, n, c, At, nt, ct, Ar, cr, op, rest, h⟩ := h
  obtain ⟨b4, hb4⟩ : ∃ b4, w.heap.size = b4 := ⟨_, rfl⟩
  have hq4 : q < b4 := by have := h.lt; omega
  have hne : (Value.slice Ar k0 cr).ownBlock ≠ some b4 := fun e => by have := (h.row.lt b4 e).2; omega
  go_enter Tryd.func53, Tryd.ntmps53
  go_wp2_with fail
  obtain ⟨w1, hw1⟩ : ∃ w1, w1 = w.alloc (.cells #[.int .i64 0, .int .i64 0, .int .i64 0, .bool false] 66) := ⟨_, rfl⟩
  have HB1 := Lib.hid (show Below w.heap.size w w1 from by rw [hw1]; exact (Below.refl _ w).alloc (Nat.le_refl _) _)
  have HK1 := Lib.hid (show w1.heap[b4]? = some (.cells #[.int .i64 0, .int .i64 0, .int .i64 0, .bool false] 66 (0, 0)) from by rw [hw1, ← hb4]; exact heap_alloc_new w _)
  have H1 := Lib.hid (h.later HB1.out)
  have HB1' := Lib.hid (HB1.out.mono (show q ≤ w.heap.size by omega))
  rw [← hw1]
  try rw [hb4]
  clear hw1 h HB1 hb4
  go_loopg [5] (ps.length + 1 - k0) (fun gk s5 wr => ∃ (k : Nat) (A : Option Addr) (n c : Nat) (At : Option Addr) (nt ct : Nat) (Ar : Option Addr) (cr : Nat) (op : Bool) (rest : List UInt8), s5 = .bool false ∧ Hid (gk = ps.length + 1 - k) ∧ k0 ≤ k ∧ Hid (RdSt wr B q t ps wide k A n c At nt ct Ar cr op rest) ∧ Hid (Below q w wr) ∧ Hid (wr.heap[b4]? = some (.cells #[.int .i64 0, .int .i64 0, .int .i64 0, .bool false] 66 (0, 0))) ∧ Hid ((Value.slice Ar k cr).ownBlock ≠ some b4) ∧ k ≤ ps.length)
  case atStart => exact ⟨k0, A, n, c, At, nt, ct, Ar, cr, op, rest, rfl, rfl, Nat.le_refl _, H1.out, HB1'.out, HK1.out, hne, H1.out.len⟩
  case round =>
    clear H1 HK1 hne HB1'
    clear A n c At nt ct Ar cr op rest
    obtain ⟨k, A, n, c, At, nt, ct, Ar, cr, op, rest, rfl, HG, hk0, HR, HB, HK, HNE, hkl⟩ := hrel
    obtain ⟨c0, c1, c2, c3, c4⟩ := HR.out.reads
    have hfew := HR.out.few.1
    have y0 : wr.cell? ⟨b4, 0, none⟩ = some (.int .i64 0) := Lib.cell_of_heap HK.out 0
    have y1 : wr.cell? ⟨b4, 1, none⟩ = some (.int .i64 0) := Lib.cell_of_heap HK.out 1
    have y2 : wr.cell? ⟨b4, 2, none⟩ = some (.int .i64 0) := Lib.cell_of_heap HK.out 2
    have y3 : wr.cell? ⟨b4, 3, none⟩ = some (.bool false) := Lib.cell_of_heap HK.out 3
    have g0 := Lib.frozen_of_heap HK.out 0
    have g1 := Lib.frozen_of_heap HK.out 1
    have g2 := Lib.frozen_of_heap HK.out 2
    have g3 := Lib.frozen_of_heap HK.out 3
    by_cases hik : i < k
    · have hips : i < ps.length := by omega
      have hit : i < (ps.take k).length := by rw [List.length_take]; omega
      obtain ⟨b, off, rfl, hb, hc⟩ := PtsAt.cells (RowAt.of_own HR.out.row) (by omega)
      obtain ⟨e0, e1, e2, e3⟩ := hc i hit
      have hget : (ps.take k)[i] = ps[i] := List.getElem_take
      rw [hget] at e0 e1 e2 e3
      obtain ⟨pt, hpt⟩ : ∃ x, ps[i] = x := ⟨_, rfl⟩
      rw [hpt] at e0 e1 e2 e3
      obtain ⟨p0, p1, p2, pn⟩ := pt
      simp only at e0 e1 e2 e3
      have hik' : ¬ (k : Int) ≤ (i : Int) := by omega
      have hik2 : (i : Int) < (k : Int) := by omega
      have HPT := Lib.hid hpt
      clear hc hget hpt
      go_wp2_with fail
      obtain ⟨r0, r1, r2, r3⟩ := four_reads (a := .int .i64 p0) (b := .int .i64 p1) (c := .int .i64 (p2 : Int)) (d := .bool pn) HK.out
      refine bodyPost_ret (v := .tuple #[.agg #[.int .i64 p0, .int .i64 p1, .int .i64 (p2 : Int), .bool pn], .bool true]) (by simp [results, Tryd.f53, go_sem, r0, r1, r2, r3]) rfl ?_
      refine ⟨?_, below4 HB.out hq4 _ _ _ _, k, ⟨A, n, c, At, nt, ct, _, cr, op, rest, HR.out.aside4 hq4 HNE.out _ _ _ _⟩, hk0, by omega⟩
      rw [ptAt_get hips, HPT.out, decide_eq_true hips]
      rfl
    · have hik' : (k : Int) ≤ (i : Int) := by omega
      by_cases hkp : k < ps.length
      · go_wp2_with fail
        refine (more_yes wr HR.out hkp).mono ?_
        rintro e w2 ⟨rfl, A2, n2, c2', At2, nt2, ct2, Ar2, cr2, op2, rest2, h2, hf2⟩
        have HR2 := Lib.hid h2
        have HB2 := Lib.hid (HB.out.trans hf2.low)
        have hb4w : b4 < wr.heap.size := (Array.getElem?_eq_some_iff.1 HK.out).1
        have HK2 := Lib.hid ((hf2.oth b4 hb4w (by omega) HNE.out).trans HK.out)
        have HNE2 := Lib.hid (show (Value.slice Ar2 (k + 1) cr2).ownBlock ≠ some b4 from by
          rcases hf2.row with h | ⟨x, h, hx⟩
          · rw [h]; exact HNE.out
          · rw [h]; intro e; injection e with e; omega)
        have hkl2 := h2.len
        clear h2 hf2
        go_wp2_with fail
        go_roundg (ps.length + 1 - (k + 1))
        case measure => have := HG.out; omega
        case rel => exact ⟨k + 1, A2, n2, c2', At2, nt2, ct2, Ar2, cr2, op2, rest2, rfl, rfl, by omega, HR2, HB2, HK2, HNE2, hkl2⟩
      · have hips : ps.length ≤ i := by omega
        go_wp2_with fail
        refine (more_no wr HR.out (by omega)).mono ?_
        rintro e w2 ⟨rfl, rfl⟩
        go_wp2_with fail
        obtain ⟨r0, r1, r2, r3⟩ := four_reads (a := .int .i64 0) (b := .int .i64 0) (c := .int .i64 0) (d := .bool false) HK.out
        refine bodyPost_ret (v := .tuple #[.agg #[.int .i64 0, .int .i64 0, .int .i64 0, .bool false], .bool false]) (by simp [results, Tryd.f53, go_sem, r0, r1, r2, r3]) rfl ?_
        refine ⟨?_, below4 HB.out hq4 _ _ _ _, k, ⟨A, n, c, At, nt, ct, Ar, cr, op, rest, HR.out.aside4 hq4 HNE.out _ _ _ _⟩, hk0, by omega⟩
        rw [ptAt_none hips, decide_eq_false (by omega)]
        rfl
end Go.Proofs.YtkiggpbmlkfdpaaDoor
/- The walks of scan's is, space, sure, run, blanks. -/
namespace Go.Proofs.YtkiggpbmlkfdpaaDoor
open Go.RowKit
set_option linter.unusedVariables false

/-- What a question leaves: an answer, the reader with so many points read, all below it as it was. -/
def Ask (B q : Nat) (t : List Rg) (ps : List Pt) (wide : Bool) (k0 m : Nat) (w : World) (v : Value) (e : Ending) (w' : World) : Prop :=
  e = .returned v ∧ Below q w w' ∧ ∃ k, RdAt w' B q t ps wide k ∧ k0 ≤ k ∧ min m ps.length ≤ k
theorem at_some {B q k0 i : Nat} {t : List Rg} {ps : List Pt} {wide : Bool} {a b : Int} {c : Nat} {d : Bool} (w : World) (h : RdAt w B q t ps wide k0) (hi : i ≤ 100000) (hp : ps[i]? = some ⟨a, b, c, d⟩) :
    Calls Tryd.prog 53 #[.pointer (some ⟨q, 0, none⟩), .int .i64 (i : Int)] w (Ask B q t ps wide k0 (i + 1) w (.tuple #[.agg #[.int .i64 a, .int .i64 b, .int .i64 (c : Int), .bool d], .bool true])) := by
  refine (at_any w h hi).mono ?_
  rintro e w' ⟨rfl, h1, h2⟩
  obtain ⟨hl, hg⟩ := List.getElem?_eq_some_iff.1 hp
  refine ⟨?_, h1, h2⟩
  rw [ptAt_get hl, hg, decide_eq_true hl]
  rfl
theorem at_none {B q k0 i : Nat} {t : List Rg} {ps : List Pt} {wide : Bool} (w : World) (h : RdAt w B q t ps wide k0) (hi : i ≤ 100000) (hp : ps[i]? = none) :
    Calls Tryd.prog 53 #[.pointer (some ⟨q, 0, none⟩), .int .i64 (i : Int)] w (Ask B q t ps wide k0 (i + 1) w (.tuple #[.agg #[.int .i64 0, .int .i64 0, .int .i64 0, .bool false], .bool false])) := by
  refine (at_any w h hi).mono ?_
  rintro e w' ⟨rfl, h1, h2⟩
  rw [List.getElem?_eq_none_iff] at hp
  refine ⟨?_, h1, h2⟩
  rw [ptAt_none hp, decide_eq_false (by omega)]
  rfl
theorem RdAt.size {w : World} {B q k : Nat} {t : List Rg} {ps : List Pt} {wide : Bool} (h : RdAt w B q t ps wide k) : q < w.heap.size ∧ ps.length ≤ 1000 ∧ k ≤ ps.length := by
  obtain ⟨A, n, c, At, nt, ct, Ar, cr, op, rest, h⟩ := h
  exact ⟨h.lt, h.few.1, h.len⟩
theorem RdAt.alloc {w : World} {B q k : Nat} {t : List Rg} {ps : List Pt} {wide : Bool} (h : RdAt w B q t ps wide k) (o : Obj) : RdAt (w.alloc o) B q t ps wide k := h.later ((Below.refl _ w).alloc (Nat.le_refl _) o)
theorem balloc {q : Nat} {w0 w : World} (h : Below q w0 w) (hq : q < w.heap.size) (o : Obj) : Below q w0 (w.alloc o) := h.alloc (Nat.le_of_lt hq) o
set_option maxHeartbeats 1000000 in
theorem is_any {B q k0 i : Nat} {t : List Rg} {ps : List Pt} {wide : Bool} (c : Int) (w : World) (h : RdAt w B q t ps wide k0) (hi : i ≤ 100000) {o : Bool} (ho : isP ps i c = o) :
    Calls Tryd.prog 60 #[.pointer (some ⟨q, 0, none⟩), .int .i64 (i : Int), .int .i64 c] w (Ask B q t ps wide k0 (i + 1) w (.bool o)) := by
  have H := Lib.hid h
  clear h
  unfold isP at ho
  cases hp : ps[i]? with
  | none =>
    rw [hp] at ho
    have HP := Lib.hid hp
    have HO := Lib.hid ho
    clear hp ho
    go_enter Tryd.func60, Tryd.ntmps60
    go_wp2_with fail
    refine (at_none w H.out hi HP.out).mono ?_
    rintro e w2 ⟨rfl, hb, k, hr, hk⟩
    have HB := Lib.hid hb
    have HR := Lib.hid hr
    have HK := Lib.hid hk
    clear hb hr hk
    go_wp2_with fail
    go_ret
    exact ⟨by rw [← HO.out]; rfl, balloc HB.out HR.out.size.1 _, k, HR.out.alloc _, HK.out⟩
  | some p =>
    rw [hp] at ho
    obtain ⟨a, b, n, d⟩ := p
    have HP := Lib.hid hp
    have HO := Lib.hid ho
    clear hp ho
    go_enter Tryd.func60, Tryd.ntmps60
    go_wp2_with fail
    refine (at_some w H.out hi HP.out).mono ?_
    rintro e w2 ⟨rfl, hb, k, hr, hk⟩
    have HB := Lib.hid hb
    have HR := Lib.hid hr
    have HK := Lib.hid hk
    clear hb hr hk
    go_wp2_with fail
    go_ret
    exact ⟨by rw [← HO.out]; rfl, balloc HB.out HR.out.size.1 _, k, HR.out.alloc _, HK.out⟩
set_option maxHeartbeats 1000000 in
theorem space_any {B q k0 i : Nat} {t : List Rg} {ps : List Pt} {wide : Bool} (w : World) (h : RdAt w B q t ps wide k0) (hi : i ≤ 100000) {o : Bool} (ho : spP ps i = o) :
    Calls Tryd.prog 54 #[.pointer (some ⟨q, 0, none⟩), .int .i64 (i : Int)] w (Ask B q t ps wide k0 (i + 1) w (.bool o)) := by
  have H := Lib.hid h
  clear h
  unfold spP at ho
  cases hp : ps[i]? with
  | none =>
    rw [hp] at ho
    have HP := Lib.hid hp
    have HO := Lib.hid ho
    clear hp ho
    go_enter Tryd.func54, Tryd.ntmps54
    go_wp2_with fail
    refine (at_none w H.out hi HP.out).mono ?_
    rintro e w2 ⟨rfl, hb, k, hr, hk⟩
    have HB := Lib.hid hb
    have HR := Lib.hid hr
    have HK := Lib.hid hk
    clear hb hr hk
    go_wp2_with fail
    go_ret
    exact ⟨by rw [← HO.out]; rfl, balloc HB.out HR.out.size.1 _, k, HR.out.alloc _, HK.out⟩
  | some p =>
    rw [hp] at ho
    obtain ⟨a, b, n, d⟩ := p
    have HP := Lib.hid hp
    have HO := Lib.hid (show isSp b = o from ho)
    clear hp ho
    go_enter Tryd.func54, Tryd.ntmps54
    go_wp2_with fail
    refine (at_some w H.out hi HP.out).mono ?_
    rintro e w2 ⟨rfl, hb, k, hr, hk⟩
    have HB := Lib.hid hb
    have HR := Lib.hid hr
    have HK := Lib.hid hk
    clear hb hr hk
    go_wp2_with fail
    refine (isSpace_as _ HO).mono ?_
    rintro e w' ⟨rfl, rfl⟩
    go_wp2_with fail
    go_ret
    exact ⟨rfl, balloc HB.out HR.out.size.1 _, k, HR.out.alloc _, HK.out⟩
set_option maxHeartbeats 1000000 in
theorem sure_any {B q k0 n : Nat} {t : List Rg} {ps : List Pt} {wide : Bool} (w : World) (h : RdAt w B q t ps wide k0) (hn : n ≤ 100000) {o : Bool} (ho : sureP ps n = o) :
    Calls Tryd.prog 40 #[.pointer (some ⟨q, 0, none⟩), .int .i64 (n : Int)] w (Ask B q t ps wide k0 n w (.bool o)) := by
  have H := Lib.hid h
  clear h
  unfold sureP at ho
  obtain ⟨i, hi⟩ : ∃ i, n - 1 = i := ⟨_, rfl⟩
  rw [hi] at ho
  have hmx : max (0 : Int) ((n : Int) - 1) = (i : Int) := by omega
  have hwi : IntKind.i64.wrap ((n : Int) - 1) = (n : Int) - 1 := by rw [IntKind.wrap_i64]; omega
  have hi1 : i ≤ 100000 := by omega
  have HI := Lib.hid (show n ≤ i + 1 from by omega)
  clear hi
  cases hp : ps[i]? with
  | none =>
    rw [hp] at ho
    have HP := Lib.hid hp
    have HO := Lib.hid ho
    clear hp ho
    go_enter Tryd.func40, Tryd.ntmps40
    go_wp2_with fail
    refine (at_none w H.out hi1 HP.out).mono ?_
    rintro e w2 ⟨rfl, hb, k, hr, hk⟩
    have HB := Lib.hid hb
    have HR := Lib.hid hr
    have HK := Lib.hid hk
    clear hb hr hk
    go_wp2_with fail
    go_ret
    exact ⟨by rw [← HO.out]; rfl, balloc HB.out HR.out.size.1 _, k, HR.out.alloc _, HK.out.1, by have := HK.out.2; have := HI.out; omega⟩
  | some p =>
    rw [hp] at ho
    obtain ⟨a, b, m, d⟩ := p
    have HP := Lib.hid hp
    have HO := Lib.hid (show d = o from ho)
    clear hp ho
    go_enter Tryd.func40, Tryd.ntmps40
    go_wp2_with fail
    refine (at_some w H.out hi1 HP.out).mono ?_
    rintro e w2 ⟨rfl, hb, k, hr, hk⟩
    have HB := Lib.hid hb
    have HR := Lib.hid hr
    have HK := Lib.hid hk
    clear hb hr hk
    go_wp2_with fail
    go_ret
    exact ⟨by rw [← HO.out]; rfl, balloc HB.out HR.out.size.1 _, k, HR.out.alloc _, HK.out.1, by have := HK.out.2; have := HI.out; omega⟩
end Go.Proofs.YtkiggpbmlkfdpaaDoor
namespace Go.Proofs.YtkiggpbmlkfdpaaDoor
open Go.RowKit
set_option linter.unusedVariables false

theorem is_true {ps : List Pt} {i : Nat} {c : Int} (h : isP ps i c = true) : i < ps.length ∧ runP ps i c = runP ps (i + 1) c := by
  unfold isP at h
  cases hp : ps[i]? with
  | none => rw [hp] at h; cases h
  | some p =>
    rw [hp] at h
    exact ⟨(List.getElem?_eq_some_iff.1 hp).1, while_yes hp h⟩
theorem is_false {ps : List Pt} {i : Nat} {c : Int} (h : isP ps i c = false) : runP ps i c = i := by
  unfold isP at h
  cases hp : ps[i]? with
  | none => exact while_end hp
  | some p => rw [hp] at h; exact while_no hp h
theorem sp_true {ps : List Pt} {i : Nat} (h : spP ps i = true) : i < ps.length ∧ whileP (fun p => isSp p.cls) ps i = whileP (fun p => isSp p.cls) ps (i + 1) := by
  unfold spP at h
  cases hp : ps[i]? with
  | none => rw [hp] at h; cases h
  | some p =>
    rw [hp] at h
    exact ⟨(List.getElem?_eq_some_iff.1 hp).1, while_yes hp h⟩
theorem sp_false {ps : List Pt} {i : Nat} (h : spP ps i = false) : whileP (fun p => isSp p.cls) ps i = i := by
  unfold spP at h
  cases hp : ps[i]? with
  | none => exact while_end hp
  | some p => rw [hp] at h; exact while_no hp h
theorem run_le {ps : List Pt} {i : Nat} {c : Int} (hi : i ≤ 1000) (hl : ps.length ≤ 1000) : i ≤ runP ps i c ∧ runP ps i c ≤ 1000 := by
  have h := while_le (fun p => p.cls == c) ps i
  unfold runP
  rcases Nat.lt_or_ge ps.length i with h1 | h1
  · have : whileP (fun p => p.cls == c) ps i = i := while_end (List.getElem?_eq_none (by omega))
    omega
  · have := h.2 h1; omega
set_option maxHeartbeats 1000000 in
theorem run_any {B q k0 i : Nat} {t : List Rg} {ps : List Pt} {wide : Bool} (c : Int) (w : World) (h : RdAt w B q t ps wide k0) (hi : i ≤ 1000) {r : Nat} (hr : runP ps i c = r) :
    Calls Tryd.prog 58 #[.pointer (some ⟨q, 0, none⟩), .int .i64 (i : Int), .int .i64 c] w (Ask B q t ps wide k0 (r + 1) w (.int .i64 (r : Int))) := by
  have HR := Lib.hid hr
  have HS := Lib.hid (run_le (c := c) hi h.size.2.1)
  have hps := h.size.2.1
  have H := Lib.hid h
  clear h hr
  go_enter Tryd.func58, Tryd.ntmps58
  go_wp2_with fail
  go_loopw [1] (fun z wr => ∃ (j k : Nat), z = .int .i64 (j : Int) ∧ i ≤ j ∧ j ≤ 1000 ∧ Hid (runP ps j c = r) ∧ Hid (RdAt wr B q t ps wide k) ∧ k0 ≤ k ∧ Hid (Below q w wr)) (fun z _ => 1001 - (intOf z).toNat)
  case atStart => exact ⟨i, k0, rfl, Nat.le_refl _, hi, HR, H, Nat.le_refl _, Below.refl _ _⟩
  case round =>
    clear H
    obtain ⟨j, k, rfl, hij, hj, HJ, HD, hk, HB⟩ := hrel
    have hj2 : j ≤ 100000 := by omega
    cases ho : isP ps j c with
    | true =>
      have HT := Lib.hid (is_true ho)
      have HO := Lib.hid ho
      have hj3 : j < 1000 := by have := HT.out.1; omega
      clear ho
      go_wp2_with fail
      refine (is_any c wr HD.out hj2 HO.out).mono ?_
      rintro e w2 ⟨rfl, hb, k2, hr2, hk2⟩
      have HB2 := Lib.hid (HB.out.trans hb)
      have HD2 := Lib.hid hr2
      have HK2 := Lib.hid hk2
      clear hb hr2 hk2
      go_wp2_with fail
      go_roundw
      case rel => exact ⟨j + 1, k2, by go_num, by omega, by omega, Lib.hid (by rw [← HT.out.2]; exact HJ.out), HD2, by have := HK2.out.1; omega, HB2⟩
      case measure => simp [intOf]; omega
    | false =>
      have HT := Lib.hid (show j = r from by rw [← HJ.out]; exact (is_false ho).symm)
      have HO := Lib.hid ho
      clear ho
      go_wp2_with fail
      refine (is_any c wr HD.out hj2 HO.out).mono ?_
      rintro e w2 ⟨rfl, hb, k2, hr2, hk2⟩
      have HB2 := Lib.hid (HB.out.trans hb)
      have HD2 := Lib.hid hr2
      have HK2 := Lib.hid hk2
      clear hb hr2 hk2
      go_wp2_with fail
      go_ret
      exact ⟨by rw [← HT.out]; rfl, HB2.out, k2, HD2.out, by have := HK2.out.1; omega, by rw [← HT.out]; exact HK2.out.2⟩
set_option maxHeartbeats 2000000 in
theorem blanks_any {B q k0 : Nat} {t : List Rg} {ps : List Pt} {wide : Bool} (w : World) (h : RdAt w B q t ps wide k0) {n ln : Nat} (hn : blanksP ps = n) (hl : lineP ps = ln) :
    Calls Tryd.prog 52 #[.pointer (some ⟨q, 0, none⟩)] w (Ask B q t ps wide k0 (n + 1) w (.tuple #[.int .i64 (n : Int), .int .i64 (ln : Int)])) := by
  have HN := Lib.hid (show whileP (fun p => isSp p.cls) ps 0 = n from hn)
  have HL := Lib.hid (show lineF ps n = ln from by rw [← hn]; exact hl)
  have hps := h.size.2.1
  have H := Lib.hid h
  clear h hn hl
  go_enter Tryd.func52, Tryd.ntmps52
  go_wp2_with fail
  go_loopw [4, 5] (fun z y wr => ∃ (j m k : Nat), z = .int .i64 (j : Int) ∧ y = .int .i64 (m : Int) ∧ j ≤ 1000 ∧ Hid (whileP (fun p => isSp p.cls) ps j = n) ∧ Hid (lineF ps j = m) ∧ Hid (RdAt wr B q t ps wide k) ∧ k0 ≤ k ∧ Hid (Below q w wr)) (fun z _ _ => 1001 - (intOf z).toNat)
  case atStart => exact ⟨0, 0, k0, rfl, rfl, by omega, HN, Lib.hid rfl, H, Nat.le_refl _, Below.refl _ _⟩
  case round =>
    clear H
    obtain ⟨j, m, k, rfl, rfl, hj, HJ, HM, HD, hk, HB⟩ := hrel
    have hj2 : j ≤ 100000 := by omega
    cases ho : spP ps j with
    | true =>
      have HT := Lib.hid (sp_true ho)
      have HO := Lib.hid ho
      have hj3 : j < ps.length := HT.out.1
      clear ho
      go_wp2_with fail
      refine (space_any wr HD.out hj2 HO.out).mono ?_
      rintro e w2 ⟨rfl, hb, k2, hr2, hk2⟩
      have HB2 := Lib.hid (HB.out.trans hb)
      have HD2 := Lib.hid hr2
      have hkj : j < k2 := by omega
      have hkk : k0 ≤ k2 := by omega
      obtain ⟨A, nn, c, At, nt, ct, Ar, cr, op, rest, hst⟩ := hr2
      obtain ⟨c0, c1, c2, c3, c4⟩ := hst.reads
      have hjt : j < (ps.take k2).length := by rw [List.length_take]; omega
      obtain ⟨b, off, rfl, hbl, hc⟩ := PtsAt.cells (RowAt.of_own hst.row) (by omega)
      obtain ⟨e0, e1, e2, e3⟩ := hc j hjt
      have hget : (ps.take k2)[j] = ps[j] := List.getElem_take
      obtain ⟨cl, hcl⟩ : ∃ x, ps[j].cls = x := ⟨_, rfl⟩
      rw [hget, hcl] at e1
      have HCL := Lib.hid (show clsAt ps j = cl from by unfold clsAt; rw [List.getElem?_eq_getElem hj3]; exact hcl)
      have hs1 : IntKind.i64.wrap ((j : Int) + 1 - 1) = (j : Int) := by rw [IntKind.wrap_i64]; omega
      have hkj' : (j : Int) < (k2 : Int) := by omega
      clear hb hk2 hst hc hget hcl e0 e2 e3 hjt
      by_cases h4 : cl = 4
      · subst h4
        have HM2 := Lib.hid (show lineF ps (j + 1) = j + 1 from by rw [lineF, if_pos HCL.out])
        go_wp2_with fail
        go_roundw
        case rel => exact ⟨j + 1, j + 1, k2, by go_num, by go_num, by omega, Lib.hid (by rw [← HT.out.2]; exact HJ.out), HM2, HD2, hkk, HB2⟩
        case measure => simp [intOf]; omega
      · have hb4 := beq_no h4
        have HM2 := Lib.hid (show lineF ps (j + 1) = m from by rw [lineF, if_neg (by rw [HCL.out]; exact h4)]; exact HM.out)
        clear h4
        go_wp2_with fail
        go_roundw
        case rel => exact ⟨j + 1, m, k2, by go_num, rfl, by omega, Lib.hid (by rw [← HT.out.2]; exact HJ.out), HM2, HD2, hkk, HB2⟩
        case measure => simp [intOf]; omega
    | false =>
      have HT := Lib.hid (show j = n from by rw [← HJ.out]; exact (sp_false ho).symm)
      have HO := Lib.hid ho
      clear ho
      go_wp2_with fail
      refine (space_any wr HD.out hj2 HO.out).mono ?_
      rintro e w2 ⟨rfl, hb, k2, hr2, hk2⟩
      have HB2 := Lib.hid (HB.out.trans hb)
      have HD2 := Lib.hid hr2
      have HK2 := Lib.hid hk2
      clear hb hr2 hk2
      go_wp2_with fail
      go_ret2
      have hjn := HT.out
      subst hjn
      exact ⟨by rw [← HL.out, ← HM.out]; rfl, HB2.out, k2, HD2.out, by have := HK2.out.1; omega, HK2.out.2⟩
set_option maxHeartbeats 2000000 in
theorem small_any {B q k0 i : Nat} {t : List Rg} {ps : List Pt} {wide : Bool} (w : World) (h : RdAt w B q t ps wide k0) (hi : i ≤ 1000) {r : Int} (hr : smallP ps wide i = r) :
    Calls Tryd.prog 61 #[.pointer (some ⟨q, 0, none⟩), .int .i64 (i : Int)] w (Ask B q t ps wide k0 (i + 1) w (.int .i64 r)) := by
  have hi2 : i ≤ 100000 := by omega
  have H := Lib.hid h
  clear h
  unfold smallP at hr
  cases hp : ps[i]? with
  | none =>
    rw [hp] at hr
    have HP := Lib.hid hp
    have HO := Lib.hid hr
    clear hp hr
    go_enter Tryd.func61, Tryd.ntmps61
    go_wp2_with fail
    refine (at_none w H.out hi2 HP.out).mono ?_
    rintro e w2 ⟨rfl, hb, k, hr, hk⟩
    have HB := Lib.hid hb
    have HR := Lib.hid hr
    have HK := Lib.hid hk
    clear hb hr hk
    go_wp2_with fail
    go_ret
    exact ⟨by rw [← HO.out]; rfl, balloc HB.out HR.out.size.1 _, k, HR.out.alloc _, HK.out⟩
  | some p =>
    rw [hp] at hr
    obtain ⟨a, b, m, d⟩ := p
    simp only at hr
    have HP := Lib.hid hp
    unfold lowP at hr
    have HO := Lib.hid hr
    clear hp hr
    cases wide with
    | false =>
      have HRA := Lib.hid (show a = r from by have := HO.out; rw [if_neg (by simp)] at this; exact this)
      go_enter Tryd.func61, Tryd.ntmps61
      go_wp2_with fail
      refine (at_some w H.out hi2 HP.out).mono ?_
      rintro e w2 ⟨rfl, hb, k, hr, hk⟩
      have HB := Lib.hid hb
      have HR := Lib.hid hr
      have HK := Lib.hid hk
      obtain ⟨A, nn, c, At, nt, ct, Ar, cr, op, rest, hst⟩ := hr
      obtain ⟨c0, c1, c2, c3, c4⟩ := hst.reads
      have hq := hst.lt
      clear hb hk hst c0 c1 c2 c3
      go_wp2_with fail
      go_ret
      exact ⟨by rw [← HRA.out]; rfl, balloc HB.out HR.out.size.1 _, k, HR.out.alloc _, HK.out⟩
    | true =>
      by_cases hc : 65 ≤ a ∧ a ≤ 90
      · obtain ⟨hc1, hc2⟩ := hc
        have HRA := Lib.hid (show a - 65 + 97 = r from by have := HO.out; rw [if_pos ⟨rfl, hc1, hc2⟩] at this; exact this)
        go_enter Tryd.func61, Tryd.ntmps61
        go_wp2_with fail
        refine (at_some w H.out hi2 HP.out).mono ?_
        rintro e w2 ⟨rfl, hb, k, hr, hk⟩
        have HB := Lib.hid hb
        have HR := Lib.hid hr
        have HK := Lib.hid hk
        obtain ⟨A, nn, c, At, nt, ct, Ar, cr, op, rest, hst⟩ := hr
        obtain ⟨c0, c1, c2, c3, c4⟩ := hst.reads
        have hq := hst.lt
        clear hb hk hst c0 c1 c2 c3
        go_wp2_with fail
        go_ret
        exact ⟨by rw [← HRA.out]; rfl, balloc HB.out HR.out.size.1 _, k, HR.out.alloc _, HK.out⟩
      · have HRA := Lib.hid (show a = r from by have := HO.out; rw [if_neg (by intro e; exact hc e.2)] at this; exact this)
        by_cases hc1 : 65 ≤ a
        all_goals
          have hx1 : decide (65 ≤ a) = decide (65 ≤ a) := rfl
          have hx2 : 65 ≤ a → ¬ a ≤ 90 := fun h1 h2 => hc ⟨h1, h2⟩
          clear hc
          have HX2 := Lib.hid hx2
          first
          | (have hc2 : ¬ a ≤ 90 := hx2 hc1
             clear hx1 hx2
             go_enter Tryd.func61, Tryd.ntmps61)
          | (clear hx1 hx2
             go_enter Tryd.func61, Tryd.ntmps61)
          go_wp2_with fail
          refine (at_some w H.out hi2 HP.out).mono ?_
          rintro e w2 ⟨rfl, hb, k, hr, hk⟩
          have HB := Lib.hid hb
          have HR := Lib.hid hr
          have HK := Lib.hid hk
          obtain ⟨A, nn, c, At, nt, ct, Ar, cr, op, rest, hst⟩ := hr
          obtain ⟨c0, c1, c2, c3, c4⟩ := hst.reads
          have hq := hst.lt
          clear hb hk hst c0 c1 c2 c3
          go_wp2_with fail
          go_ret
          exact ⟨by rw [← HRA.out]; rfl, balloc HB.out HR.out.size.1 _, k, HR.out.alloc _, HK.out⟩
end Go.Proofs.YtkiggpbmlkfdpaaDoor
