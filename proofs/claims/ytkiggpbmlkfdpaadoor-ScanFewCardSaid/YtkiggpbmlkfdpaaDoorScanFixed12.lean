/- The walk of the law's fixed. -/
import Derived.Test.YtkiggpbmlkfdpaaDoorScanCut12
namespace Go.Proofs.YtkiggpbmlkfdpaaDoor
open Go.RowKit
set_option linter.unusedVariables false

theorem fx_next : nextP 2 usualT [39, 114] false = (1, false) := by decide +kernel
theorem fx_1 : cutsL 2 usualT [73, 39, 108, 108, 32, 103, 111] = [[73], [39, 108, 108], [32, 103, 111]] := by decide +kernel
theorem fx_2 : cutsL 2 usualT [97, 32, 32, 98] = [[97], [32], [32, 98]] := by decide +kernel
theorem fx_3 : cutsL 3 usualT [97, 32, 49, 50, 51, 52, 53, 10, 10, 32, 98] = [[97], [32], [49, 50, 51], [52, 53], [10, 10], [32, 98]] := by decide +kernel
theorem txt_const {w : World} {g : Nat} (l : List (List UInt8)) (cs : Array Value) (n : Nat) (hg : w.heap.size = g) (hl : (txtV l).toArray = cs) (hn : l.length = n) (hm : n ≤ maxLen) : TxtAt (w.alloc (.cells cs 9)) (w.alloc (.cells cs 9)).heap.size (some ⟨g, 0, none⟩) n n l := by
  subst hl hn hg
  refine ⟨by rw [length_txtV, Nat.mul_one], Nat.le_refl _, hm, fun _ => ⟨_, _, rfl, by rw [World.size_alloc]; omega, fun j u hu => ?_⟩⟩
  rw [Nat.zero_add]
  have hc : (w.alloc (.cells (txtV l).toArray 9)).heap[w.heap.size]? = some (.cells (txtV l).toArray 9 (0, 0)) := heap_alloc_new _ _
  unfold World.cell?
  rw [hc]
  simpa using hu
theorem CutTo.as {kind : Int} {l : List UInt8} {w w' : World} {e : Ending} (r : List (List UInt8)) (n : Nat) (hr : cutsL kind usualT l = r) (hn : r.length = n) (h : CutTo kind l w e w') : ∃ A c, e = .returned (.slice A n c) ∧ TxtAt w' w'.heap.size A n c r ∧ Below w.heap.size w w' := by
  subst hr hn
  obtain ⟨A, c, h1, h2, h3⟩ := h
  exact ⟨A, c, h1, RowAt.of_own h2, h3⟩
set_option maxRecDepth 100000 in
set_option maxHeartbeats 2000000 in
theorem fixed12 (w : World) (hU : UsualAt w) : Calls Tryd.prog 15 #[] w fun e w' => e = .returned (.bool true) ∧ Below w.heap.size w w' := by
  have HU := Lib.hid hU
  clear hU
  go_enter Tryd.func15, Tryd.ntmps15
  go_wp2_with fail
  refine (susual_any w HU.out).mono ?_
  rintro e w1 ⟨At, ct, rfl, ht1, hb1⟩
  have kc := fun (w : World) (C : Array Value) (n c : Nat) => Lib.run_convert_bytes_const (P := Tryd.prog) w 23 5 C n c Tryd.underlying23 Tryd.underlying5
  obtain ⟨w2, hw2⟩ : ∃ w2, w2 = w1.alloc (.cells #[.int .u8 39, .int .u8 114] 5 (2, 3)) := ⟨_, rfl⟩
  have hbt : BytesAt w2 w2.heap.size (some ⟨w1.heap.size, 0, none⟩) 2 2 [39, 114] := by
    rw [hw2]; exact const_bytes_at w1 [39, 114] _ 2 _ _ rfl rfl (by decide)
  have hb2 : Below w1.heap.size w1 w2 := by rw [hw2]; exact (Below.refl _ w1).alloc (Nat.le_refl _) _
  have HT2 := Lib.hid (show RangesAt w2 w2.heap.size At 51 ct usualT from RowAt.mono (RowAt.below ht1 hb2) hb2.size)
  have HBT := Lib.hid hbt
  have HB2 := Lib.hid (hb1.trans (hb2.mono hb1.size))
  have HW2 := Lib.hid hw2
  clear ht1 hbt hb1 hb2 hw2
  go_wp2_with fail
  try rw [show (#[Value.int .u8 39, .int .u8 114] : Array Value).size = 2 from rfl]
  rw [← HW2.out]
  refine (next_any 2 false w2 HBT.out HT2.out (by omega) (by decide) fx_next).mono ?_
  rintro e w3 ⟨rfl, hb3⟩
  have HB3 := Lib.hid (HB2.out.trans (hb3.mono HB2.out.size))
  have HU3 := Lib.hid (show UsualAt w3 from HU.out.later HB3.out)
  clear hb3 HBT HT2 HB2 HW2
  go_wp2_with fail
  refine (cut12_any (kind := 2) (strOf [73, 39, 108, 108, 32, 103, 111]) w3 HU3.out (by decide) (by decide) (by decide)).mono ?_
  intro e w4 hc
  obtain ⟨A4, c4, rfl, htx, hbb⟩ := CutTo.as (w := w3) [[73], [39, 108, 108], [32, 103, 111]] 3 fx_1 rfl hc
  obtain ⟨w5, hw5⟩ : ∃ w5, w5 = w4.alloc (.cells #[.string ⟨#[73]⟩, .string ⟨#[39, 108, 108]⟩, .string ⟨#[32, 103, 111]⟩] 9) := ⟨_, rfl⟩
  have hb5 : Below w4.heap.size w4 w5 := by rw [hw5]; exact (Below.refl _ w4).alloc (Nat.le_refl _) _
  have HTX4 := Lib.hid (show TxtAt w5 w5.heap.size (some ⟨w4.heap.size, 0, none⟩) 3 3 [[73], [39, 108, 108], [32, 103, 111]] from by rw [hw5]; exact txt_const [[73], [39, 108, 108], [32, 103, 111]] _ 3 rfl rfl rfl (by decide))
  have HTY4 := Lib.hid (show TxtAt w5 w5.heap.size A4 3 c4 [[73], [39, 108, 108], [32, 103, 111]] from RowAt.mono (RowAt.below htx hb5) hb5.size)
  have HB4 := Lib.hid (HB3.out.trans (hbb.mono HB3.out.size))
  have HB5 := Lib.hid (HB4.out.trans (hb5.mono HB4.out.size))
  have HW5 := Lib.hid (hw5)
  clear hc htx hbb hw5 hb5 HB3 HU3
  go_wp2_with fail
  rw [← HW5.out]
  refine (same12 w5 HTY4.out HTX4.out rfl).mono ?_
  rintro e w6 ⟨rfl, k4, rfl⟩
  have HB6 := Lib.hid (below_drewN' (n := k4) HB5.out)
  have HU6 := Lib.hid (show UsualAt (w5.drewN k4) from HU.out.later HB6.out)
  clear HTX4 HTY4 HB4 HB5 HW5
  go_wp2_with fail
  refine (cut12_any (kind := 2) (strOf [97, 32, 32, 98]) (w5.drewN k4) HU6.out (by decide) (by decide) (by decide)).mono ?_
  intro e w7 hc
  obtain ⟨A7, c7, rfl, htx, hbb⟩ := CutTo.as (w := (w5.drewN k4)) [[97], [32], [32, 98]] 3 fx_2 rfl hc
  obtain ⟨w8, hw8⟩ : ∃ w8, w8 = w7.alloc (.cells #[.string ⟨#[97]⟩, .string ⟨#[32]⟩, .string ⟨#[32, 98]⟩] 9) := ⟨_, rfl⟩
  have hb8 : Below w7.heap.size w7 w8 := by rw [hw8]; exact (Below.refl _ w7).alloc (Nat.le_refl _) _
  have HTX7 := Lib.hid (show TxtAt w8 w8.heap.size (some ⟨w7.heap.size, 0, none⟩) 3 3 [[97], [32], [32, 98]] from by rw [hw8]; exact txt_const [[97], [32], [32, 98]] _ 3 rfl rfl rfl (by decide))
  have HTY7 := Lib.hid (show TxtAt w8 w8.heap.size A7 3 c7 [[97], [32], [32, 98]] from RowAt.mono (RowAt.below htx hb8) hb8.size)
  have HB7 := Lib.hid (HB6.out.trans (hbb.mono HB6.out.size))
  have HB8 := Lib.hid (HB7.out.trans (hb8.mono HB7.out.size))
  have HW8 := Lib.hid (hw8)
  clear hc htx hbb hw8 hb8 HB6 HU6
  go_wp2_with fail
  rw [← HW8.out]
  refine (same12 w8 HTY7.out HTX7.out rfl).mono ?_
  rintro e w9 ⟨rfl, k7, rfl⟩
  have HB9 := Lib.hid (below_drewN' (n := k7) HB8.out)
  have HU9 := Lib.hid (show UsualAt (w8.drewN k7) from HU.out.later HB9.out)
  clear HTX7 HTY7 HB7 HB8 HW8
  go_wp2_with fail
  refine (cut12_any (kind := 3) (strOf [97, 32, 49, 50, 51, 52, 53, 10, 10, 32, 98]) (w8.drewN k7) HU9.out (by decide) (by decide) (by decide)).mono ?_
  intro e w10 hc
  obtain ⟨A10, c10, rfl, htx, hbb⟩ := CutTo.as (w := (w8.drewN k7)) [[97], [32], [49, 50, 51], [52, 53], [10, 10], [32, 98]] 6 fx_3 rfl hc
  obtain ⟨w11, hw11⟩ : ∃ w11, w11 = w10.alloc (.cells #[.string ⟨#[97]⟩, .string ⟨#[32]⟩, .string ⟨#[49, 50, 51]⟩, .string ⟨#[52, 53]⟩, .string ⟨#[10, 10]⟩, .string ⟨#[32, 98]⟩] 9) := ⟨_, rfl⟩
  have hb11 : Below w10.heap.size w10 w11 := by rw [hw11]; exact (Below.refl _ w10).alloc (Nat.le_refl _) _
  have HTX10 := Lib.hid (show TxtAt w11 w11.heap.size (some ⟨w10.heap.size, 0, none⟩) 6 6 [[97], [32], [49, 50, 51], [52, 53], [10, 10], [32, 98]] from by rw [hw11]; exact txt_const [[97], [32], [49, 50, 51], [52, 53], [10, 10], [32, 98]] _ 6 rfl rfl rfl (by decide))
  have HTY10 := Lib.hid (show TxtAt w11 w11.heap.size A10 6 c10 [[97], [32], [49, 50, 51], [52, 53], [10, 10], [32, 98]] from RowAt.mono (RowAt.below htx hb11) hb11.size)
  have HB10 := Lib.hid (HB9.out.trans (hbb.mono HB9.out.size))
  have HB11 := Lib.hid (HB10.out.trans (hb11.mono HB10.out.size))
  have HW11 := Lib.hid (hw11)
  clear hc htx hbb hw11 hb11 HB9 HU9
  go_wp2_with fail
  rw [← HW11.out]
  refine (same12 w11 HTY10.out HTX10.out rfl).mono ?_
  rintro e w12 ⟨rfl, k10, rfl⟩
  have HB12 := Lib.hid (below_drewN' (n := k10) HB11.out)
  have HU12 := Lib.hid (show UsualAt (w11.drewN k10) from HU.out.later HB12.out)
  clear HTX10 HTY10 HB10 HB11 HW11
  go_wp2_with fail
  go_ret
  exact ⟨rfl, HB12.out⟩
end Go.Proofs.YtkiggpbmlkfdpaaDoor
