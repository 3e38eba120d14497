/- The walk of scan's more where a whole code point is read; more at every state. -/
import Derived.Test.YtkiggpbmlkfdpaaDoorScanMore
namespace Go.Proofs.YtkiggpbmlkfdpaaDoor
open Go.RowKit
set_option linter.unusedVariables false

set_option maxRecDepth 100000 in
set_option maxHeartbeats 4000000 in
theorem more_point {B q k n c nt ct cr : Nat} {t : List Rg} {ps : List Pt} {wide : Bool} {A At Ar : Option Addr} {rest : List UInt8} (w : World) (h : RdSt w B q t ps wide k A n c At nt ct Ar cr false rest) (hk : k < ps.length) (hm : (dec rest false).2.2 = false) :
    Calls Tryd.prog 74 #[.pointer (some ⟨q, 0, none⟩)] w (MoreTo B q t ps wide k Ar cr w) := by
  have hr : rest ≠ [] := fun e => by have := (len_pts h.pts h.len).1 e; omega
  have hn := h.rst.len
  have hn0 : 0 < n := by rw [hn]; exact List.length_pos_iff.2 hr
  have hnc := h.rst.2.1
  have hcm := h.rst.2.2.1
  unfold maxLen at hcm
  have hdn := dec_nat hr hm
  have hpts := h.pts
  rw [if_neg (by decide), pts_one hr hm] at hpts
  obtain ⟨p, kz, d3, hd⟩ := dec_ex rest false
  rw [hd] at hm hdn hpts
  simp only at hm hdn hpts
  subst hm
  obtain ⟨kn, hkn⟩ : ∃ kn, kz.toNat = kn := ⟨_, rfl⟩
  rw [hkn] at hdn hpts
  obtain rfl : kz = (kn : Int) := hdn.2.2.2.1.symm
  obtain ⟨cl, hcl⟩ : ∃ cl, clsT t p = cl := ⟨_, rfl⟩
  rw [hcl] at hpts
  have HD := Lib.hid hd
  have HCL := Lib.hid hcl
  obtain ⟨c0, c1, c2, c3, c4⟩ := h.reads
  have hq := h.lt
  have hfew := h.few
  have HT := Lib.hid (take_more hpts h.len)
  obtain ⟨i0, hi, hz0, hz1, hz2⟩ := info_parts infoPt
  have HF := Lib.hid (h.rst.from_ (k := kn) (by omega))
  have HH := Lib.hid h
  have hlow := h.low
  have CO := Lib.hid (show ∀ W, Below w.heap.size w W → Calls Tryd.prog 80 #[.slice At nt ct, .int .i64 p] W fun e w' => e = .returned (.int .i64 cl) ∧ Hid (Below w.heap.size w w') ∧ w'.cell? ⟨q, 0, none⟩ = some (.slice A n c) ∧ w'.cell? ⟨q, 2, none⟩ = some (.slice Ar k cr) from fun W hb => by
    refine (of_as W (RowAt.mono (RowAt.below HH.out.tab (hb.mono (by omega))) (by have := hb.size; omega)) HH.out.few.2 HCL).mono ?_
    rintro e w' ⟨rfl, hb2⟩
    have h3 := hb.trans (hb2.mono hb.size)
    have h4 := (HH.out.later h3).reads
    exact ⟨rfl, h3, h4.1, h4.2.2.1⟩)
  have HAP := Lib.hid (show ∀ W1, Below w.heap.size w W1 → W1.heap.size + 1 = (W1.alloc (.cells (ptCells ⟨p, cl, kn, true⟩).toArray 66)).heap.size ∧ (W1.alloc (.cells (ptCells ⟨p, cl, kn, true⟩).toArray 66)).ownsRow (q + 1) 66 4 (.slice Ar k cr) k (ptsV (ps.take k)) ∧ (W1.alloc (.cells (ptCells ⟨p, cl, kn, true⟩).toArray 66)).heap[q]? = some (.cells #[.slice A n c, .slice At nt ct, .slice Ar k cr, .bool false, .bool wide] 61 (0, 0)) ∧ (∀ j u, (ptCells ⟨p, cl, kn, true⟩)[j]? = some u → (W1.alloc (.cells (ptCells ⟨p, cl, kn, true⟩).toArray 66)).cell? ((⟨W1.heap.size, 0, none⟩ : Addr).add j) = some u) ∧ q + 1 ≤ (W1.alloc (.cells (ptCells ⟨p, cl, kn, true⟩).toArray 66)).heap.size from fun W1 hb => by
    have h1 := HH.out.later hb
    have hs := hb.size
    exact ⟨by simp, h1.row.alloc _, (Below.heap_alloc W1 _ q h1.lt).trans h1.blk, pt_block (p := ⟨p, cl, kn, true⟩) (heap_alloc_new W1 _), by simp; omega⟩)
  have HL := Lib.hid (fun b hb => Nat.le_of_lt (h.row.lt b hb).1)
  have hd1 : (n : Int) ≠ 0 := by omega
  have hbz := beq_no hd1
  have hone : (kn : Int) ≤ (n : Int) := by omega
  have honec : (kn : Int) ≤ (c : Int) := by omega
  have hone0 : (0 : Int) ≤ (kn : Int) := by omega
  have HOK := Lib.hid (show ∀ u ∈ ptCells ⟨p, cl, kn, true⟩, u.oneCell' = true from fun u hu => one_pts (ps := [⟨p, cl, kn, true⟩]) u (by simpa [ptsV] using hu))
  obtain ⟨f0, f2, f3⟩ := h.frees
  clear h hn hr hpts hd1 hd hcl hdn hkn
  go_enter Tryd.func74, Tryd.ntmps74
  go_wp2_with fail
  refine (decode_as false w HH.out.rst HD).mono ?_
  rintro e w' ⟨rfl, rfl⟩
  go_wp2_with fail
  go_region_law (first
    | (go_simp; go_at_call 80; refine (CO.out _ (by first | exact Below.refl _ _ | exact Below.drew (Below.refl _ _))).mono ?_; rintro e wA ⟨rfl, hbA, a0, a2⟩; have hqA := (HH.out.later hbA.out).lt)
    | (refine step_append_lies _ rfl (.tmp 32) (.tmp 42) _ rfl (q + 1) 66 i0 _ 4 32 Tryd.underlying59 hi hz0 hz1 hz2 rfl (by decide) (.slice Ar k cr) k (ptsV (ps.take k)) rfl (HAP.out _ hbA.out).2.1 ⟨wA.heap.size, 0, none⟩ 1 1 (ptCells ⟨p, cl, kn, true⟩) rfl rfl (HAP.out _ hbA.out).2.2.2.1 HOK.out (by decide) (by unfold maxLen; omega) (by omega) (HAP.out _ hbA.out).2.2.2.2 _ rfl ?_; intro g cap w5 hown5 hg5 hat5 hlt5; have O5 := Lib.hid hown5; have G5 := Lib.hid hg5; have A5 := Lib.hid hat5; have W5 := Lib.hid (rgrown_block (HAP.out _ hbA.out).2.1 hg5 (HAP.out _ hbA.out).2.2.1 (by decide)); obtain ⟨p0, p2, q0, q2⟩ : w5.cell? ⟨q, 0, none⟩ = some (.slice A n c) ∧ w5.cell? ⟨q, 2, none⟩ = some (.slice Ar k cr) ∧ w5.frozen? ⟨q, 0, none⟩ = false ∧ w5.frozen? ⟨q, 2, none⟩ = false := ⟨Lib.cell_of_heap W5.out 0, Lib.cell_of_heap W5.out 2, Lib.frozen_of_heap W5.out 0, Lib.frozen_of_heap W5.out 2⟩; clear hown5 hg5 hat5 hlt5))
  all_goals
    by_cases hcc : c = kn
    · rw [if_pos hcc, show c - kn = 0 by omega] at HF
      have HCC := Lib.hid hcc
      go_wp2_with fail
      go_ret
      refine close_more HH.out W5.out ?_ ((Fr.append G5.out hqA HL.out rfl A5.out).mk0 hbA.out hq) HF.out ?_ HT.out.1
      · rw [HT.out.2.1, ptsV_app]
        exact O5.out
      · rw [if_neg (by decide)]; exact HT.out.2.2
    · rw [if_neg hcc] at HF
      go_wp2_with fail
      go_ret
      refine close_more HH.out W5.out ?_ ((Fr.append G5.out hqA HL.out rfl A5.out).mk0 hbA.out hq) HF.out ?_ HT.out.1
      · rw [HT.out.2.1, ptsV_app]
        exact O5.out
      · rw [if_neg (by decide)]; exact HT.out.2.2
/-- more where a point is there: whatever the state. -/
theorem more_yes {B q k n c nt ct cr : Nat} {t : List Rg} {ps : List Pt} {wide op : Bool} {A At Ar : Option Addr} {rest : List UInt8} (w : World) (h : RdSt w B q t ps wide k A n c At nt ct Ar cr op rest) (hk : k < ps.length) :
    Calls Tryd.prog 74 #[.pointer (some ⟨q, 0, none⟩)] w (MoreTo B q t ps wide k Ar cr w) := by
  cases op with
  | true => exact more_open w h hk
  | false =>
    cases hm : (dec rest false).2.2 with
    | true => exact more_first w h hk hm
    | false => exact more_point w h hk hm
end Go.Proofs.YtkiggpbmlkfdpaaDoor
