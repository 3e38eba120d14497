/- The walk of scan's more: one point more is read. -/
import Derived.Test.YtkiggpbmlkfdpaaDoorScanMem
import Derived.Deep.RegionLaw
import Derived.Deep.AppendLies
namespace Go.Proofs.YtkiggpbmlkfdpaaDoor
open Go.RowKit
set_option linter.unusedVariables false

theorem len_pts {t : List Rg} {rest : List UInt8} {ps : List Pt} {k : Nat} {op : Bool} (h : ps = ps.take k ++ (if op = true then rest.map (fun _ => openPt) else ptsOf t rest)) (hk : k ≤ ps.length) : rest = [] ↔ k = ps.length := by
  have hl := congrArg List.length h
  rw [List.length_append, List.length_take, Nat.min_eq_left hk] at hl
  constructor
  · rintro rfl
    cases op
    · rw [if_neg (by decide), pts_nil] at hl; simp at hl; omega
    · rw [if_pos rfl] at hl; simp at hl; omega
  · intro e
    have h0 : (if op = true then rest.map (fun _ => openPt) else ptsOf t rest).length = 0 := by omega
    cases op
    · rw [if_neg (by decide)] at h0
      by_cases hr : rest = []
      · exact hr
      · have := pts_pos (t := t) hr; omega
    · rw [if_pos rfl, List.length_map] at h0
      exact List.eq_nil_of_length_eq_zero h0
set_option maxHeartbeats 1000000 in
theorem more_no {B q k n c nt ct cr : Nat} {t : List Rg} {ps : List Pt} {wide op : Bool} {A At Ar : Option Addr} {rest : List UInt8} (w : World) (h : RdSt w B q t ps wide k A n c At nt ct Ar cr op rest) (hk : k = ps.length) :
    Calls Tryd.prog 74 #[.pointer (some ⟨q, 0, none⟩)] w fun e w' => e = .returned (.bool false) ∧ w = w' := by
  obtain rfl := (len_pts h.pts h.len).2 hk
  have hn := h.rst.len
  obtain ⟨c0, c1, c2, c3, c4⟩ := h.reads
  obtain rfl : n = 0 := by simpa using hn
  clear h hk hn
  go_enter Tryd.func74, Tryd.ntmps74
  go_wp2_with fail
  go_ret
  exact ⟨rfl, rfl⟩
/-- The second half: an open point is put behind the row. -/
theorem map_open {rest : List UInt8} (h : rest ≠ []) : rest.map (fun _ => openPt) = openPt :: (rest.drop 1).map (fun _ => openPt) := by
  cases rest with
  | nil => exact absurd rfl h
  | cons x r => rfl
set_option maxRecDepth 100000 in
set_option maxHeartbeats 2000000 in
theorem more_open {B q k n c nt ct cr : Nat} {t : List Rg} {ps : List Pt} {wide : Bool} {A At Ar : Option Addr} {rest : List UInt8} (w : World) (h : RdSt w B q t ps wide k A n c At nt ct Ar cr true rest) (hk : k < ps.length) :
    Calls Tryd.prog 74 #[.pointer (some ⟨q, 0, none⟩)] w (MoreTo B q t ps wide k Ar cr w) := by
  have hr : rest ≠ [] := fun e => by have := (len_pts h.pts h.len).1 e; omega
  have hn := h.rst.len
  have hn0 : 0 < n := by rw [hn]; exact List.length_pos_iff.2 hr
  have hnc := h.rst.2.1
  have hcm := h.rst.2.2.1
  unfold maxLen at hcm
  obtain ⟨c0, c1, c2, c3, c4⟩ := h.reads
  obtain ⟨f0, f2, f3⟩ := h.frees
  have hq := h.lt
  have hfew := h.few.1
  have hpts := h.pts
  rw [if_pos rfl, map_open hr] at hpts
  have HT := Lib.hid (take_more hpts h.len)
  obtain ⟨i0, hi, hz0, hz1, hz2⟩ := info_parts infoPt
  have HN := Lib.hid (pt_block (p := openPt) (heap_alloc_new w (.cells (ptCells openPt).toArray 66)))
  have HO := Lib.hid (h.row.alloc (.cells (ptCells openPt).toArray 66))
  have HB := Lib.hid ((Below.heap_alloc w (.cells (ptCells openPt).toArray 66) q hq).trans h.blk)
  have HF := Lib.hid (h.rst.from_ (k := 1) (by omega))
  have HL := Lib.hid (fun b hb => Nat.le_of_lt (h.row.lt b hb).1)
  have HH := Lib.hid h
  have hd1 : (n : Int) ≠ 0 := by omega
  have hbz := beq_no hd1
  have hone : (1 : Int) ≤ (n : Int) := by omega
  have honec : (1 : Int) ≤ (c : Int) := by omega
  have hbase : q + 1 ≤ (w.alloc (.cells (ptCells openPt).toArray 66)).heap.size := by simp; omega
  have HBA := Lib.hid hbase
  have HOK := Lib.hid (show ∀ u ∈ ptCells openPt, u.oneCell' = true from fun u hu => one_pts (ps := [openPt]) u (by simpa [ptsV] using hu))
  clear h hn hr hpts hd1 hbase
  by_cases hcc : c = 1
  · subst hcc
    obtain rfl : n = 1 := by omega
    rw [if_pos rfl] at HF
    go_enter Tryd.func74, Tryd.ntmps74
    go_wp2_with (at_builtin; refine wpList_append_lies _ rfl (.tmp 62) (.tmp 64) _ rfl (q + 1) 66 i0 _ 4 32 Tryd.underlying59 hi hz0 hz1 hz2 rfl (by decide) (.slice Ar k cr) k (ptsV (ps.take k)) rfl HO.out ⟨w.heap.size, 0, none⟩ 1 1 (ptCells openPt) rfl rfl HN.out HOK.out (by decide) (by unfold maxLen; omega) (by omega) HBA.out _ rfl ?_; intro g cap w5 hown5 hg5 hat5 hlt5; have O5 := Lib.hid hown5; have G5 := Lib.hid hg5; have A5 := Lib.hid hat5; have W5 := Lib.hid (rgrown_block HO.out hg5 HB.out (by decide)); obtain ⟨p0, p2, q0, q2⟩ : w5.cell? ⟨q, 0, none⟩ = some (.slice A 1 1) ∧ w5.cell? ⟨q, 2, none⟩ = some (.slice Ar k cr) ∧ w5.frozen? ⟨q, 0, none⟩ = false ∧ w5.frozen? ⟨q, 2, none⟩ = false := ⟨Lib.cell_of_heap W5.out 0, Lib.cell_of_heap W5.out 2, Lib.frozen_of_heap W5.out 0, Lib.frozen_of_heap W5.out 2⟩; clear hown5 hg5 hat5 hlt5)
    go_ret
    refine close_more HH.out W5.out ?_ (Fr.append G5.out hq HL.out rfl A5.out) HF.out ?_ HT.out.1
    · rw [HT.out.2.1, ptsV_app]
      exact O5.out
    · rw [if_pos rfl]; exact HT.out.2.2
  · rw [if_neg hcc] at HF
    go_enter Tryd.func74, Tryd.ntmps74
    go_wp2_with (at_builtin; refine wpList_append_lies _ rfl (.tmp 62) (.tmp 64) _ rfl (q + 1) 66 i0 _ 4 32 Tryd.underlying59 hi hz0 hz1 hz2 rfl (by decide) (.slice Ar k cr) k (ptsV (ps.take k)) rfl HO.out ⟨w.heap.size, 0, none⟩ 1 1 (ptCells openPt) rfl rfl HN.out HOK.out (by decide) (by unfold maxLen; omega) (by omega) HBA.out _ rfl ?_; intro g cap w5 hown5 hg5 hat5 hlt5; have O5 := Lib.hid hown5; have G5 := Lib.hid hg5; have A5 := Lib.hid hat5; have W5 := Lib.hid (rgrown_block HO.out hg5 HB.out (by decide)); obtain ⟨p0, p2, q0, q2⟩ : w5.cell? ⟨q, 0, none⟩ = some (.slice A n c) ∧ w5.cell? ⟨q, 2, none⟩ = some (.slice Ar k cr) ∧ w5.frozen? ⟨q, 0, none⟩ = false ∧ w5.frozen? ⟨q, 2, none⟩ = false := ⟨Lib.cell_of_heap W5.out 0, Lib.cell_of_heap W5.out 2, Lib.frozen_of_heap W5.out 0, Lib.frozen_of_heap W5.out 2⟩; clear hown5 hg5 hat5 hlt5)
    go_ret
    refine close_more HH.out W5.out ?_ (Fr.append G5.out hq HL.out rfl A5.out) HF.out ?_ HT.out.1
    · rw [HT.out.2.1, ptsV_app]
      exact O5.out
    · rw [if_pos rfl]; exact HT.out.2.2
set_option maxRecDepth 100000 in
set_option maxHeartbeats 2000000 in
theorem more_first {B q k n c nt ct cr : Nat} {t : List Rg} {ps : List Pt} {wide : Bool} {A At Ar : Option Addr} {rest : List UInt8} (w : World) (h : RdSt w B q t ps wide k A n c At nt ct Ar cr false rest) (hk : k < ps.length) (hm : (dec rest false).2.2 = true) :
    Calls Tryd.prog 74 #[.pointer (some ⟨q, 0, none⟩)] w (MoreTo B q t ps wide k Ar cr w) := by
  have hr : rest ≠ [] := fun e => by have := (len_pts h.pts h.len).1 e; omega
  have hn := h.rst.len
  have hn0 : 0 < n := by rw [hn]; exact List.length_pos_iff.2 hr
  have hnc := h.rst.2.1
  have hcm := h.rst.2.2.1
  unfold maxLen at hcm
  obtain ⟨d1, d2, d3, hd⟩ := dec_ex rest false
  obtain rfl : d3 = true := by rw [hd] at hm; exact hm
  have HD := Lib.hid hd
  have h1 := h.opened hr hm
  obtain ⟨c0, c1, c2, c3, c4⟩ := h.reads
  obtain ⟨f0, f2, f3⟩ := h.frees
  have hq := h.lt
  have HQ := Lib.hid h1.lt
  have hfew := h.few.1
  have hpts := h1.pts
  rw [if_pos rfl, map_open hr] at hpts
  have HT := Lib.hid (take_more hpts h1.len)
  obtain ⟨i0, hi, hz0, hz1, hz2⟩ := info_parts infoPt
  have HCL := Lib.hid (fun w' => MoreTo.set0 (w := w) (w5 := w') (B := B) (q := q) (t := t) (ps := ps) (wide := wide) (k := k) (Ar := Ar) (cr := cr) (e := .returned (.bool true)))
  obtain ⟨X, hX⟩ : ∃ X, X = w.setCell ⟨q, 3, none⟩ (.bool true) := ⟨_, rfl⟩
  rw [← hX] at h1 HCL HQ
  have hXs : X.heap.size = w.heap.size := by rw [hX]; simp
  have HN := Lib.hid (pt_block (p := openPt) (heap_alloc_new X (.cells (ptCells openPt).toArray 66)))
  have HO := Lib.hid (h1.row.alloc (.cells (ptCells openPt).toArray 66))
  have HB := Lib.hid ((Below.heap_alloc X (.cells (ptCells openPt).toArray 66) q h1.lt).trans h1.blk)
  have HF := Lib.hid (h1.rst.from_ (k := 1) (by omega))
  have HL := Lib.hid (fun b hb => Nat.le_of_lt (h1.row.lt b hb).1)
  have HH := Lib.hid h1
  have HH0 := Lib.hid h
  have hd1 : (n : Int) ≠ 0 := by omega
  have hbz := beq_no hd1
  have hone : (1 : Int) ≤ (n : Int) := by omega
  have honec : (1 : Int) ≤ (c : Int) := by omega
  have hbase : q + 1 ≤ (X.alloc (.cells (ptCells openPt).toArray 66)).heap.size := by simp; omega
  have HBA := Lib.hid hbase
  have HOK := Lib.hid (show ∀ u ∈ ptCells openPt, u.oneCell' = true from fun u hu => one_pts (ps := [openPt]) u (by simpa [ptsV] using hu))
  rw [hXs] at HN
  clear h h1 hn hr hpts hd1 hbase hm hd hXs
  have HX := Lib.hid hX
  clear hX
  have hX := HX.out
  clear HX
  by_cases hcc : c = 1
  · subst hcc
    obtain rfl : n = 1 := by omega
    rw [if_pos rfl] at HF
    go_enter Tryd.func74, Tryd.ntmps74
    go_wp2_with fail
    refine (decode_as false w HH0.out.rst HD).mono ?_
    rintro e w' ⟨rfl, rfl⟩
    go_wp2_with (at_builtin; rw [← hX]; refine wpList_append_lies _ rfl (.tmp 62) (.tmp 64) _ rfl (q + 1) 66 i0 _ 4 32 Tryd.underlying59 hi hz0 hz1 hz2 rfl (by decide) (.slice Ar k cr) k (ptsV (ps.take k)) rfl HO.out ⟨w.heap.size, 0, none⟩ 1 1 (ptCells openPt) rfl rfl HN.out HOK.out (by decide) (by unfold maxLen; omega) (by omega) HBA.out _ rfl ?_; intro g cap w5 hown5 hg5 hat5 hlt5; have O5 := Lib.hid hown5; have G5 := Lib.hid hg5; have A5 := Lib.hid hat5; have W5 := Lib.hid (rgrown_block HO.out hg5 HB.out (by decide)); obtain ⟨p0, p2, q0, q2⟩ : w5.cell? ⟨q, 0, none⟩ = some (.slice A 1 1) ∧ w5.cell? ⟨q, 2, none⟩ = some (.slice Ar k cr) ∧ w5.frozen? ⟨q, 0, none⟩ = false ∧ w5.frozen? ⟨q, 2, none⟩ = false := ⟨Lib.cell_of_heap W5.out 0, Lib.cell_of_heap W5.out 2, Lib.frozen_of_heap W5.out 0, Lib.frozen_of_heap W5.out 2⟩; clear hown5 hg5 hat5 hlt5)
    go_ret
    refine HCL.out _ (close_more HH.out W5.out ?_ (Fr.append G5.out HQ.out HL.out rfl A5.out) HF.out ?_ HT.out.1)
    · rw [HT.out.2.1, ptsV_app]
      exact O5.out
    · rw [if_pos rfl]; exact HT.out.2.2
  · rw [if_neg hcc] at HF
    go_enter Tryd.func74, Tryd.ntmps74
    go_wp2_with fail
    refine (decode_as false w HH0.out.rst HD).mono ?_
    rintro e w' ⟨rfl, rfl⟩
    go_wp2_with (at_builtin; rw [← hX]; refine wpList_append_lies _ rfl (.tmp 62) (.tmp 64) _ rfl (q + 1) 66 i0 _ 4 32 Tryd.underlying59 hi hz0 hz1 hz2 rfl (by decide) (.slice Ar k cr) k (ptsV (ps.take k)) rfl HO.out ⟨w.heap.size, 0, none⟩ 1 1 (ptCells openPt) rfl rfl HN.out HOK.out (by decide) (by unfold maxLen; omega) (by omega) HBA.out _ rfl ?_; intro g cap w5 hown5 hg5 hat5 hlt5; have O5 := Lib.hid hown5; have G5 := Lib.hid hg5; have A5 := Lib.hid hat5; have W5 := Lib.hid (rgrown_block HO.out hg5 HB.out (by decide)); obtain ⟨p0, p2, q0, q2⟩ : w5.cell? ⟨q, 0, none⟩ = some (.slice A n c) ∧ w5.cell? ⟨q, 2, none⟩ = some (.slice Ar k cr) ∧ w5.frozen? ⟨q, 0, none⟩ = false ∧ w5.frozen? ⟨q, 2, none⟩ = false := ⟨Lib.cell_of_heap W5.out 0, Lib.cell_of_heap W5.out 2, Lib.frozen_of_heap W5.out 0, Lib.frozen_of_heap W5.out 2⟩; clear hown5 hg5 hat5 hlt5)
    go_ret
    refine HCL.out _ (close_more HH.out W5.out ?_ (Fr.append G5.out HQ.out HL.out rfl A5.out) HF.out ?_ HT.out.1)
    · rw [HT.out.2.1, ptsV_app]
      exact O5.out
    · rw [if_pos rfl]; exact HT.out.2.2
end Go.Proofs.YtkiggpbmlkfdpaaDoor
