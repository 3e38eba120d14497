/- The walks of base64's reader: over, end. -/
import Derived.Test.YtefhifmilmedhaaDoorWords
import Derived.Test.YtefhifmilmedhaaDoorB64Spec
import Derived.Test.YtefhifmilmedhaaDoorProg
import Derived.Lib.Builder
import Derived.Deep.QuietTactic
import Derived.BigQuiet
import Derived.Deep.RegionHeld3
import Derived.Deep.AppendLies
import Derived.Deep.RegionLaw
import Derived.StillTactics
namespace Go.Proofs.YtefhifmilmedhaaDoor
open Go.RowKit

theorem infoByte' : (Tryd.prog.info? 5).map (fun i => (i.zero, i.size, i.bytes)) = some (some (.int .u8 0), 1, 1) := by kernel_rfl
theorem size3 : (Tryd.prog.info? 103).map (·.size) = some 3 := by kernel_rfl
theorem group_cells {r0 r1 r2 r3 : Nat} (h0 : r0 < 64) (h1 : r1 < 64) (h2 : r2 < 64) (h3 : r3 < 64) :
    bytesV (group r0 r1 r2 r3) = [.int .u8 (((r0 : Int) * 262144 + (r1 : Int) * 4096 + (r2 : Int) * 64 + (r3 : Int)) / 65536), .int .u8 (((r0 : Int) * 262144 + (r1 : Int) * 4096 + (r2 : Int) * 64 + (r3 : Int)) / 256 % 256), .int .u8 (((r0 : Int) * 262144 + (r1 : Int) * 4096 + (r2 : Int) * 64 + (r3 : Int)) % 256)] := by
  simp only [bytesV, group, List.map_cons, List.map_nil]
  rw [UInt8.toNat_ofNat', UInt8.toNat_ofNat', UInt8.toNat_ofNat']
  have e1 : (((r0 * 4 + r1 / 16) % 2 ^ 8 : Nat) : Int) = ((r0 : Int) * 262144 + (r1 : Int) * 4096 + (r2 : Int) * 64 + (r3 : Int)) / 65536 := by omega
  have e2 : (((r1 % 16 * 16 + r2 / 4) % 2 ^ 8 : Nat) : Int) = ((r0 : Int) * 262144 + (r1 : Int) * 4096 + (r2 : Int) * 64 + (r3 : Int)) / 256 % 256 := by omega
  have e3 : (((r2 % 4 * 64 + r3) % 2 ^ 8 : Nat) : Int) = ((r0 : Int) * 262144 + (r1 : Int) * 4096 + (r2 : Int) * 64 + (r3 : Int)) % 256 := by omega
  rw [e1, e2, e3]
def rdCells (q : Rd) (v : Value) : Array Value := #[.int .i64 (q.r0 : Int), .int .i64 (q.r1 : Int), .int .i64 (q.r2 : Int), .int .i64 (q.r3 : Int), .int .i64 (q.n : Int), .int .i64 (q.p : Int), v]
/-- The reader q lies in block g, from B on. -/
def RdAt (B g : Nat) (q : Rd) (w : World) : Prop := B ≤ g ∧ ∃ v, w.heap[g]? = some (.cells (rdCells q v) 119 (0, 0)) ∧ w.ownsRow B 5 1 v q.out.length (bytesV q.out)

set_option maxHeartbeats 1000000 in
set_option maxRecDepth 100000 in
theorem end_small {B g : Nat} {q : Rd} (w : World) (h : RdAt B g q w) (hn : q.n < 4) :
    Calls Tryd.prog 91 #[.pointer (some ⟨g, 0, none⟩)] w fun e w' => e = .returned (.tuple #[]) ∧ w = w' := by
  obtain ⟨_, v, hk, _⟩ := h
  have c4 : w.cell? ⟨g, 4, none⟩ = some (.int .i64 (q.n : Int)) := Lib.cell_of_heap hk 4
  have hn' : (q.n : Int) < 4 := by omega
  go_enter Tryd.func91, Tryd.ntmps91
  go_wp2
  refine bodyPost_ret (results_none rfl _ _ _) rfl ⟨rfl, rfl⟩

theorem news_first {W : World} {ad : Addr} {cs : List Value} (m : Nat) (h : ∀ j u, cs[j]? = some u → W.cell? (ad.add j) = some u) : ∀ j u, (cs.take m)[j]? = some u → W.cell? (ad.add j) = some u := by
  intro j u hu
  rw [List.getElem?_take] at hu
  split at hu
  · exact h j u hu
  · cases hu
theorem end_close {B g r0 r1 r2 r3 gg cap m p : Nat} {out add : List UInt8} {v : Value} {w w2 : World} (hB : B ≤ g) (HB : Below B w w2)
    (hk : w2.heap[g]? = some (.cells (rdCells ⟨4, p, r0, r1, r2, r3, out⟩ v) 119 (0, 0)))
    (hown : w2.ownsRow B 5 1 (.slice (some ⟨gg, 0, none⟩) m cap) m (bytesV (out ++ add))) :
    RdAt B g ⟨0, p, r0, r1, r2, r3, out ++ add⟩ ((w2.setCell ⟨g, 6, none⟩ (.slice (some ⟨gg, 0, none⟩) m cap)).setCell ⟨g, 4, none⟩ (.int .i64 0)) ∧
      Below B w ((w2.setCell ⟨g, 6, none⟩ (.slice (some ⟨gg, 0, none⟩) m cap)).setCell ⟨g, 4, none⟩ (.int .i64 0)) := by
  have hm : m = (out ++ add).length := by have := hown.1; rw [length_bytesV] at this; omega
  refine ⟨⟨hB, .slice (some ⟨gg, 0, none⟩) m cap, ?_, ?_⟩, (HB.setCell (p := ⟨g, 6, none⟩) hB _).setCell (p := ⟨g, 4, none⟩) hB _⟩
  · simp [World.setCell, Array.getElem?_modify, hk, rdCells]
  · have hnew := Lib.ownBlock_ne hown hk (by decide)
    rw [hm] at hown hnew ⊢
    have key : ∀ (W : World) (j : Nat) (u : Value), W.ownsRow B 5 1 (.slice (some ⟨gg, 0, none⟩) (out ++ add).length cap) (out ++ add).length (bytesV (out ++ add)) → (W.setCell ⟨g, j, none⟩ u).ownsRow B 5 1 (.slice (some ⟨gg, 0, none⟩) (out ++ add).length cap) (out ++ add).length (bytesV (out ++ add)) :=
      fun W j u hW => hW.kept (row := some g) ⟨rfl, rfl, rfl, by simp [World.setCell], fun k _ hk => Below.heap_setCell _ _ _ _ (fun e => hk (by simp [e]))⟩ (Or.inr hnew)
    exact key _ _ _ (key _ _ _ hown)

set_option maxHeartbeats 1000000 in
set_option maxRecDepth 100000 in
theorem end_full0 {B g : Nat} {q : Rd} (w : World) (h : RdAt B g q w) (hn : q.n = 4) (h0 : q.r0 < 64) (h1 : q.r1 < 64) (h2 : q.r2 < 64) (h3 : q.r3 < 64) (hp : q.p = 0) (hlen : q.out.length ≤ 1073741824) (hBw : B ≤ w.heap.size) :
    Calls Tryd.prog 91 #[.pointer (some ⟨g, 0, none⟩)] w fun e w' => e = .returned (.tuple #[]) ∧ RdAt B g q.fin w' ∧ Below B w w' := by
  obtain ⟨hB, v, hk, hown⟩ := h
  obtain ⟨n, p, r0, r1, r2, r3, out⟩ := q
  simp only at hn h0 h1 h2 h3 hp hlen hown
  subst hn hp
  have c0 : w.cell? ⟨g, 0, none⟩ = some (.int .i64 (r0 : Int)) := Lib.cell_of_heap hk 0
  have c1 : w.cell? ⟨g, 1, none⟩ = some (.int .i64 (r1 : Int)) := Lib.cell_of_heap hk 1
  have c2 : w.cell? ⟨g, 2, none⟩ = some (.int .i64 (r2 : Int)) := Lib.cell_of_heap hk 2
  have c3 : w.cell? ⟨g, 3, none⟩ = some (.int .i64 (r3 : Int)) := Lib.cell_of_heap hk 3
  have c4 : w.cell? ⟨g, 4, none⟩ = some (.int .i64 4) := Lib.cell_of_heap hk 4
  have c5 : w.cell? ⟨g, 5, none⟩ = some (.int .i64 0) := Lib.cell_of_heap hk 5
  have c6 : w.cell? ⟨g, 6, none⟩ = some v := Lib.cell_of_heap hk 6
  have o1 := or_parts 18 ((r0 : Int) * 262144) (r0 : Int) ((r1 : Int) * 4096) (by omega) (by omega) (by omega) (by omega) (by omega)
  have o2 := or_parts 12 ((r0 : Int) * 262144 + (r1 : Int) * 4096) ((r0 : Int) * 64 + r1) ((r2 : Int) * 64) (by omega) (by omega) (by omega) (by omega) (by omega)
  have o3 := or_parts 6 ((r0 : Int) * 262144 + (r1 : Int) * 4096 + (r2 : Int) * 64) ((r0 : Int) * 4096 + (r1 : Int) * 64 + r2) (r3 : Int) (by omega) (by omega) (by omega) (by omega) (by omega)
  go_enter Tryd.func91, Tryd.ntmps91
  go_wp2_with fail
  go_quiet (fail)
  have hk1 : (w.drewN nq).heap[g]? = some (.cells (rdCells ⟨4, 0, r0, r1, r2, r3, out⟩ v) 119 (0, 0)) := hk
  have hown1 : (w.drewN nq).ownsRow B 5 1 v out.length (bytesV out) := hown
  have hb1 : Below B w (w.drewN nq) := ⟨rfl, rfl, rfl, Nat.le_refl _, fun _ _ => rfl⟩
  have hz1 : B ≤ (w.drewN nq).heap.size := hBw
  clear c0 c1 c2 c3 c4 c5 c6 hk hown
  generalize w.drewN nq = w1 at *
  have hlt : g < w1.heap.size := (Array.getElem?_eq_some_iff.1 hk1).1
  go_wp2_with fail
  have hgrp : bytesV (group r0 r1 r2 r3) = [.int .u8 (((r0 : Int) * 262144 + (r1 : Int) * 4096 + (r2 : Int) * 64 + (r3 : Int)) / 65536), .int .u8 (((r0 : Int) * 262144 + (r1 : Int) * 4096 + (r2 : Int) * 64 + (r3 : Int)) / 256 % 256), .int .u8 (((r0 : Int) * 262144 + (r1 : Int) * 4096 + (r2 : Int) * 64 + (r3 : Int)) % 256)] := group_cells h0 h1 h2 h3
  have HG := Lib.hid hgrp
  clear hgrp o1 o2 o3
  generalize ((r0 : Int) * 262144 + (r1 : Int) * 4096 + (r2 : Int) * 64 + (r3 : Int)) / 65536 = e0 at *
  generalize ((r0 : Int) * 262144 + (r1 : Int) * 4096 + (r2 : Int) * 64 + (r3 : Int)) / 256 % 256 = e1 at *
  generalize ((r0 : Int) * 262144 + (r1 : Int) * 4096 + (r2 : Int) * 64 + (r3 : Int)) % 256 = e2 at *
  have hk2 : (w1.alloc (.cells #[.int .u8 e0, .int .u8 e1, .int .u8 e2] 103)).heap[g]? = some (.cells (rdCells ⟨4, 0, r0, r1, r2, r3, out⟩ v) 119 (0, 0)) := (Below.heap_alloc _ _ _ hlt).trans hk1
  have c5 : (w1.alloc (.cells #[.int .u8 e0, .int .u8 e1, .int .u8 e2] 103)).cell? ⟨g, 5, none⟩ = some (.int .i64 0) := Lib.cell_of_heap hk2 5
  have c6 : (w1.alloc (.cells #[.int .u8 e0, .int .u8 e1, .int .u8 e2] 103)).cell? ⟨g, 6, none⟩ = some v := Lib.cell_of_heap hk2 6
  have f6 : (w1.alloc (.cells #[.int .u8 e0, .int .u8 e1, .int .u8 e2] 103)).frozen? ⟨g, 6, none⟩ = false := Lib.frozen_of_heap hk2 6
  have hne : v.ownBlock ≠ some g := Lib.ownBlock_ne hown1 hk1 (by decide)
  obtain ⟨i0, hi0, hz0, hzz1, hz2⟩ := info_parts infoByte'
  have hw3 : IntKind.i64.wrap 3 = 3 := by decide
  go_region_law (
    (refine step_append_lies _ (by rfl) _ _ _ (by rfl) B 5 i0 _ 1 1 Tryd.underlying22 hi0 hz0 hzz1 hz2 rfl (by omega) v out.length (bytesV out) (by rfl) ((hown1.alloc _).drew)
        ⟨w1.heap.size, 0, none⟩ 3 3 [.int .u8 e0, .int .u8 e1, .int .u8 e2] (by rfl) (by rfl) (news_first 3 (World.news_of_block (cs := #[.int .u8 e0, .int .u8 e1, .int .u8 e2]) (t := 103) (fr := (0, 0)) (heap_alloc_new w1 _))) (by simp [Value.oneCell'])
        (by omega) (by unfold maxLen; omega) (by omega) (by simp; omega) (w1.heap.size + 1) (by simp) ?_; intro gg cap w2 hown2 hgrow hat hltg; have k6 : w2.cell? ⟨g, 6, none⟩ = some v := (World.cell?_of_block (hgrow.block g (by simp; omega) (Ne.symm hne))).trans c6; have hk3 := Lib.hid ((hgrow.block g (by simp; omega) (Ne.symm hne)).trans hk2); have q6 : w2.frozen? ⟨g, 6, none⟩ = false := Lib.frozen_of_heap hk3.out 6; have k4 : w2.cell? ⟨g, 4, none⟩ = some (.int .i64 4) := Lib.cell_of_heap hk3.out 4; have q4 : w2.frozen? ⟨g, 4, none⟩ = false := Lib.frozen_of_heap hk3.out 4))
  all_goals go_wp2_with fail
  all_goals go_end0
  all_goals
    have HB : Below B w w2 := (hb1.alloc hz1 _).trans (((Below.refl B _).drew).grown hgrow (by simp; omega) (fun k hk => (hown1.lt k hk).1))
    have hcl := end_close (add := (group r0 r1 r2 r3).take 3) hB HB hk3.out (m := out.length + 3) (gg := gg) (cap := cap) (by
      rw [show bytesV (out ++ (group r0 r1 r2 r3).take 3) = bytesV out ++ (bytesV (group r0 r1 r2 r3)).take 3 from by simp [bytesV, List.map_take], HG.out]; exact hown2)
    exact ⟨rfl, hcl⟩
set_option maxHeartbeats 1000000 in
set_option maxRecDepth 100000 in
theorem end_full1 {B g : Nat} {q : Rd} (w : World) (h : RdAt B g q w) (hn : q.n = 4) (h0 : q.r0 < 64) (h1 : q.r1 < 64) (h2 : q.r2 < 64) (h3 : q.r3 < 64) (hp : q.p = 1) (hlen : q.out.length ≤ 1073741824) (hBw : B ≤ w.heap.size) :
    Calls Tryd.prog 91 #[.pointer (some ⟨g, 0, none⟩)] w fun e w' => e = .returned (.tuple #[]) ∧ RdAt B g q.fin w' ∧ Below B w w' := by
  obtain ⟨hB, v, hk, hown⟩ := h
  obtain ⟨n, p, r0, r1, r2, r3, out⟩ := q
  simp only at hn h0 h1 h2 h3 hp hlen hown
  subst hn hp
  have c0 : w.cell? ⟨g, 0, none⟩ = some (.int .i64 (r0 : Int)) := Lib.cell_of_heap hk 0
  have c1 : w.cell? ⟨g, 1, none⟩ = some (.int .i64 (r1 : Int)) := Lib.cell_of_heap hk 1
  have c2 : w.cell? ⟨g, 2, none⟩ = some (.int .i64 (r2 : Int)) := Lib.cell_of_heap hk 2
  have c3 : w.cell? ⟨g, 3, none⟩ = some (.int .i64 (r3 : Int)) := Lib.cell_of_heap hk 3
  have c4 : w.cell? ⟨g, 4, none⟩ = some (.int .i64 4) := Lib.cell_of_heap hk 4
  have c5 : w.cell? ⟨g, 5, none⟩ = some (.int .i64 1) := Lib.cell_of_heap hk 5
  have c6 : w.cell? ⟨g, 6, none⟩ = some v := Lib.cell_of_heap hk 6
  have o1 := or_parts 18 ((r0 : Int) * 262144) (r0 : Int) ((r1 : Int) * 4096) (by omega) (by omega) (by omega) (by omega) (by omega)
  have o2 := or_parts 12 ((r0 : Int) * 262144 + (r1 : Int) * 4096) ((r0 : Int) * 64 + r1) ((r2 : Int) * 64) (by omega) (by omega) (by omega) (by omega) (by omega)
  have o3 := or_parts 6 ((r0 : Int) * 262144 + (r1 : Int) * 4096 + (r2 : Int) * 64) ((r0 : Int) * 4096 + (r1 : Int) * 64 + r2) (r3 : Int) (by omega) (by omega) (by omega) (by omega) (by omega)
  go_enter Tryd.func91, Tryd.ntmps91
  go_wp2_with fail
  go_quiet (fail)
  have hk1 : (w.drewN nq).heap[g]? = some (.cells (rdCells ⟨4, 1, r0, r1, r2, r3, out⟩ v) 119 (0, 0)) := hk
  have hown1 : (w.drewN nq).ownsRow B 5 1 v out.length (bytesV out) := hown
  have hb1 : Below B w (w.drewN nq) := ⟨rfl, rfl, rfl, Nat.le_refl _, fun _ _ => rfl⟩
  have hz1 : B ≤ (w.drewN nq).heap.size := hBw
  clear c0 c1 c2 c3 c4 c5 c6 hk hown
  generalize w.drewN nq = w1 at *
  have hlt : g < w1.heap.size := (Array.getElem?_eq_some_iff.1 hk1).1
  go_wp2_with fail
  have hgrp : bytesV (group r0 r1 r2 r3) = [.int .u8 (((r0 : Int) * 262144 + (r1 : Int) * 4096 + (r2 : Int) * 64 + (r3 : Int)) / 65536), .int .u8 (((r0 : Int) * 262144 + (r1 : Int) * 4096 + (r2 : Int) * 64 + (r3 : Int)) / 256 % 256), .int .u8 (((r0 : Int) * 262144 + (r1 : Int) * 4096 + (r2 : Int) * 64 + (r3 : Int)) % 256)] := group_cells h0 h1 h2 h3
  have HG := Lib.hid hgrp
  clear hgrp o1 o2 o3
  generalize ((r0 : Int) * 262144 + (r1 : Int) * 4096 + (r2 : Int) * 64 + (r3 : Int)) / 65536 = e0 at *
  generalize ((r0 : Int) * 262144 + (r1 : Int) * 4096 + (r2 : Int) * 64 + (r3 : Int)) / 256 % 256 = e1 at *
  generalize ((r0 : Int) * 262144 + (r1 : Int) * 4096 + (r2 : Int) * 64 + (r3 : Int)) % 256 = e2 at *
  have hk2 : (w1.alloc (.cells #[.int .u8 e0, .int .u8 e1, .int .u8 e2] 103)).heap[g]? = some (.cells (rdCells ⟨4, 1, r0, r1, r2, r3, out⟩ v) 119 (0, 0)) := (Below.heap_alloc _ _ _ hlt).trans hk1
  have c5 : (w1.alloc (.cells #[.int .u8 e0, .int .u8 e1, .int .u8 e2] 103)).cell? ⟨g, 5, none⟩ = some (.int .i64 1) := Lib.cell_of_heap hk2 5
  have c6 : (w1.alloc (.cells #[.int .u8 e0, .int .u8 e1, .int .u8 e2] 103)).cell? ⟨g, 6, none⟩ = some v := Lib.cell_of_heap hk2 6
  have f6 : (w1.alloc (.cells #[.int .u8 e0, .int .u8 e1, .int .u8 e2] 103)).frozen? ⟨g, 6, none⟩ = false := Lib.frozen_of_heap hk2 6
  have hne : v.ownBlock ≠ some g := Lib.ownBlock_ne hown1 hk1 (by decide)
  obtain ⟨i0, hi0, hz0, hzz1, hz2⟩ := info_parts infoByte'
  have hw3 : IntKind.i64.wrap 2 = 2 := by decide
  go_region_law (
    (refine step_append_lies _ (by rfl) _ _ _ (by rfl) B 5 i0 _ 1 1 Tryd.underlying22 hi0 hz0 hzz1 hz2 rfl (by omega) v out.length (bytesV out) (by rfl) ((hown1.alloc _).drew)
        ⟨w1.heap.size, 0, none⟩ 2 3 [.int .u8 e0, .int .u8 e1] (by rfl) (by rfl) (news_first 2 (World.news_of_block (cs := #[.int .u8 e0, .int .u8 e1, .int .u8 e2]) (t := 103) (fr := (0, 0)) (heap_alloc_new w1 _))) (by simp [Value.oneCell'])
        (by omega) (by unfold maxLen; omega) (by omega) (by simp; omega) (w1.heap.size + 1) (by simp) ?_; intro gg cap w2 hown2 hgrow hat hltg; have k6 : w2.cell? ⟨g, 6, none⟩ = some v := (World.cell?_of_block (hgrow.block g (by simp; omega) (Ne.symm hne))).trans c6; have hk3 := Lib.hid ((hgrow.block g (by simp; omega) (Ne.symm hne)).trans hk2); have q6 : w2.frozen? ⟨g, 6, none⟩ = false := Lib.frozen_of_heap hk3.out 6; have k4 : w2.cell? ⟨g, 4, none⟩ = some (.int .i64 4) := Lib.cell_of_heap hk3.out 4; have q4 : w2.frozen? ⟨g, 4, none⟩ = false := Lib.frozen_of_heap hk3.out 4))
  all_goals go_wp2_with fail
  all_goals go_end0
  all_goals
    have HB : Below B w w2 := (hb1.alloc hz1 _).trans (((Below.refl B _).drew).grown hgrow (by simp; omega) (fun k hk => (hown1.lt k hk).1))
    have hcl := end_close (add := (group r0 r1 r2 r3).take 2) hB HB hk3.out (m := out.length + 2) (gg := gg) (cap := cap) (by
      rw [show bytesV (out ++ (group r0 r1 r2 r3).take 2) = bytesV out ++ (bytesV (group r0 r1 r2 r3)).take 2 from by simp [bytesV, List.map_take], HG.out]; exact hown2)
    exact ⟨rfl, hcl⟩
set_option maxHeartbeats 1000000 in
set_option maxRecDepth 100000 in
theorem end_full2 {B g : Nat} {q : Rd} (w : World) (h : RdAt B g q w) (hn : q.n = 4) (h0 : q.r0 < 64) (h1 : q.r1 < 64) (h2 : q.r2 < 64) (h3 : q.r3 < 64) (hp : q.p = 2) (hlen : q.out.length ≤ 1073741824) (hBw : B ≤ w.heap.size) :
    Calls Tryd.prog 91 #[.pointer (some ⟨g, 0, none⟩)] w fun e w' => e = .returned (.tuple #[]) ∧ RdAt B g q.fin w' ∧ Below B w w' := by
  obtain ⟨hB, v, hk, hown⟩ := h
  obtain ⟨n, p, r0, r1, r2, r3, out⟩ := q
  simp only at hn h0 h1 h2 h3 hp hlen hown
  subst hn hp
  have c0 : w.cell? ⟨g, 0, none⟩ = some (.int .i64 (r0 : Int)) := Lib.cell_of_heap hk 0
  have c1 : w.cell? ⟨g, 1, none⟩ = some (.int .i64 (r1 : Int)) := Lib.cell_of_heap hk 1
  have c2 : w.cell? ⟨g, 2, none⟩ = some (.int .i64 (r2 : Int)) := Lib.cell_of_heap hk 2
  have c3 : w.cell? ⟨g, 3, none⟩ = some (.int .i64 (r3 : Int)) := Lib.cell_of_heap hk 3
  have c4 : w.cell? ⟨g, 4, none⟩ = some (.int .i64 4) := Lib.cell_of_heap hk 4
  have c5 : w.cell? ⟨g, 5, none⟩ = some (.int .i64 2) := Lib.cell_of_heap hk 5
  have c6 : w.cell? ⟨g, 6, none⟩ = some v := Lib.cell_of_heap hk 6
  have o1 := or_parts 18 ((r0 : Int) * 262144) (r0 : Int) ((r1 : Int) * 4096) (by omega) (by omega) (by omega) (by omega) (by omega)
  have o2 := or_parts 12 ((r0 : Int) * 262144 + (r1 : Int) * 4096) ((r0 : Int) * 64 + r1) ((r2 : Int) * 64) (by omega) (by omega) (by omega) (by omega) (by omega)
  have o3 := or_parts 6 ((r0 : Int) * 262144 + (r1 : Int) * 4096 + (r2 : Int) * 64) ((r0 : Int) * 4096 + (r1 : Int) * 64 + r2) (r3 : Int) (by omega) (by omega) (by omega) (by omega) (by omega)
  go_enter Tryd.func91, Tryd.ntmps91
  go_wp2_with fail
  go_quiet (fail)
  have hk1 : (w.drewN nq).heap[g]? = some (.cells (rdCells ⟨4, 2, r0, r1, r2, r3, out⟩ v) 119 (0, 0)) := hk
  have hown1 : (w.drewN nq).ownsRow B 5 1 v out.length (bytesV out) := hown
  have hb1 : Below B w (w.drewN nq) := ⟨rfl, rfl, rfl, Nat.le_refl _, fun _ _ => rfl⟩
  have hz1 : B ≤ (w.drewN nq).heap.size := hBw
  clear c0 c1 c2 c3 c4 c5 c6 hk hown
  generalize w.drewN nq = w1 at *
  have hlt : g < w1.heap.size := (Array.getElem?_eq_some_iff.1 hk1).1
  go_wp2_with fail
  have hgrp : bytesV (group r0 r1 r2 r3) = [.int .u8 (((r0 : Int) * 262144 + (r1 : Int) * 4096 + (r2 : Int) * 64 + (r3 : Int)) / 65536), .int .u8 (((r0 : Int) * 262144 + (r1 : Int) * 4096 + (r2 : Int) * 64 + (r3 : Int)) / 256 % 256), .int .u8 (((r0 : Int) * 262144 + (r1 : Int) * 4096 + (r2 : Int) * 64 + (r3 : Int)) % 256)] := group_cells h0 h1 h2 h3
  have HG := Lib.hid hgrp
  clear hgrp o1 o2 o3
  generalize ((r0 : Int) * 262144 + (r1 : Int) * 4096 + (r2 : Int) * 64 + (r3 : Int)) / 65536 = e0 at *
  generalize ((r0 : Int) * 262144 + (r1 : Int) * 4096 + (r2 : Int) * 64 + (r3 : Int)) / 256 % 256 = e1 at *
  generalize ((r0 : Int) * 262144 + (r1 : Int) * 4096 + (r2 : Int) * 64 + (r3 : Int)) % 256 = e2 at *
  have hk2 : (w1.alloc (.cells #[.int .u8 e0, .int .u8 e1, .int .u8 e2] 103)).heap[g]? = some (.cells (rdCells ⟨4, 2, r0, r1, r2, r3, out⟩ v) 119 (0, 0)) := (Below.heap_alloc _ _ _ hlt).trans hk1
  have c5 : (w1.alloc (.cells #[.int .u8 e0, .int .u8 e1, .int .u8 e2] 103)).cell? ⟨g, 5, none⟩ = some (.int .i64 2) := Lib.cell_of_heap hk2 5
  have c6 : (w1.alloc (.cells #[.int .u8 e0, .int .u8 e1, .int .u8 e2] 103)).cell? ⟨g, 6, none⟩ = some v := Lib.cell_of_heap hk2 6
  have f6 : (w1.alloc (.cells #[.int .u8 e0, .int .u8 e1, .int .u8 e2] 103)).frozen? ⟨g, 6, none⟩ = false := Lib.frozen_of_heap hk2 6
  have hne : v.ownBlock ≠ some g := Lib.ownBlock_ne hown1 hk1 (by decide)
  obtain ⟨i0, hi0, hz0, hzz1, hz2⟩ := info_parts infoByte'
  have hw3 : IntKind.i64.wrap 1 = 1 := by decide
  go_region_law (
    (refine step_append_lies _ (by rfl) _ _ _ (by rfl) B 5 i0 _ 1 1 Tryd.underlying22 hi0 hz0 hzz1 hz2 rfl (by omega) v out.length (bytesV out) (by rfl) ((hown1.alloc _).drew)
        ⟨w1.heap.size, 0, none⟩ 1 3 [.int .u8 e0] (by rfl) (by rfl) (news_first 1 (World.news_of_block (cs := #[.int .u8 e0, .int .u8 e1, .int .u8 e2]) (t := 103) (fr := (0, 0)) (heap_alloc_new w1 _))) (by simp [Value.oneCell'])
        (by omega) (by unfold maxLen; omega) (by omega) (by simp; omega) (w1.heap.size + 1) (by simp) ?_; intro gg cap w2 hown2 hgrow hat hltg; have k6 : w2.cell? ⟨g, 6, none⟩ = some v := (World.cell?_of_block (hgrow.block g (by simp; omega) (Ne.symm hne))).trans c6; have hk3 := Lib.hid ((hgrow.block g (by simp; omega) (Ne.symm hne)).trans hk2); have q6 : w2.frozen? ⟨g, 6, none⟩ = false := Lib.frozen_of_heap hk3.out 6; have k4 : w2.cell? ⟨g, 4, none⟩ = some (.int .i64 4) := Lib.cell_of_heap hk3.out 4; have q4 : w2.frozen? ⟨g, 4, none⟩ = false := Lib.frozen_of_heap hk3.out 4))
  all_goals go_wp2_with fail
  all_goals go_end0
  all_goals
    have HB : Below B w w2 := (hb1.alloc hz1 _).trans (((Below.refl B _).drew).grown hgrow (by simp; omega) (fun k hk => (hown1.lt k hk).1))
    have hcl := end_close (add := (group r0 r1 r2 r3).take 1) hB HB hk3.out (m := out.length + 1) (gg := gg) (cap := cap) (by
      rw [show bytesV (out ++ (group r0 r1 r2 r3).take 1) = bytesV out ++ (bytesV (group r0 r1 r2 r3)).take 1 from by simp [bytesV, List.map_take], HG.out]; exact hown2)
    exact ⟨rfl, hcl⟩

theorem end_any {B g : Nat} {q : Rd} (w : World) (h : RdAt B g q w) (hn : q.n ≤ 4) (h0 : q.r0 < 64) (h1 : q.r1 < 64) (h2 : q.r2 < 64) (h3 : q.r3 < 64) (hp : q.p ≤ 2) (hlen : q.out.length ≤ 1073741824) (hBw : B ≤ w.heap.size) :
    Calls Tryd.prog 91 #[.pointer (some ⟨g, 0, none⟩)] w fun e w' => e = .returned (.tuple #[]) ∧ RdAt B g q.fin w' ∧ Below B w w' := by
  by_cases hs : q.n < 4
  · refine (end_small w h hs).mono ?_
    rintro e w' ⟨rfl, rfl⟩
    exact ⟨rfl, by rw [Rd.fin, if_pos hs]; exact h, Below.refl _ _⟩
  · have hp' : q.p = 0 ∨ q.p = 1 ∨ q.p = 2 := by omega
    rcases hp' with hp' | hp' | hp'
    · exact end_full0 w h (by omega) h0 h1 h2 h3 hp' hlen hBw
    · exact end_full1 w h (by omega) h0 h1 h2 h3 hp' hlen hBw
    · exact end_full2 w h (by omega) h0 h1 h2 h3 hp' hlen hBw
end Go.Proofs.YtefhifmilmedhaaDoor
