/- The walk of footbridgelaw06.fixed. -/
import Derived.Test.YtefhifmilmedhaaDoorLineAs
import Derived.Test.YtefhifmilmedhaaDoorLineDig
import Derived.Test.YtefhifmilmedhaaDoorLineSame
import Derived.Test.YtefhifmilmedhaaDoorConv
namespace Go.Proofs.YtefhifmilmedhaaDoor
open Go.RowKit

theorem lines_ab : linesL [97, 10, 10, 98] = [[97], [], [98]] := by decide
theorem words_ab : wordsL [97, 32, 32, 98] = none := by decide
theorem num_07 : numL [48, 55] = none := by decide
theorem itoa_12 : Lib.itoa (-12) = [45, 49, 50] := by
  rw [show (-12 : Int) = -((12 : Nat) : Int) from rfl, Lib.itoa_neg 12 (by decide), Lib.decDigits_two (by decide) (by decide)]
  rfl

theorem Tab10.below {w w' : World} (h : Tab10 w) (hb : Below w.heap.size w w') : Tab10 w' := Lib.tabBelow_of_tabIs h w' hb

set_option maxRecDepth 100000 in
set_option maxHeartbeats 1000000 in
theorem fixed06 (w : World) (ht : Tab10 w) : Calls Tryd.prog 13 #[] w fun e w' => e = .returned (.bool true) ∧ Below w.heap.size w w' := by
  have kc := fun (w : World) (C : Array Value) (n c : Nat) => Lib.run_convert_bytes_const (P := Tryd.prog) w 22 5 C n c Tryd.underlying22 Tryd.underlying5
  have HB := Lib.hid (fun w : World => const_bytes_at w [97, 10, 10, 98] #[.int .u8 97, .int .u8 10, .int .u8 10, .int .u8 98] 4 5 (4, 5) rfl rfl (by unfold maxLen; omega))
  go_enter Tryd.func13, Tryd.ntmps13
  go_wp2_with fail
  refine (lines_as _ (HB.out _) (by omega) lines_ab rfl).mono ?_
  rintro e w1 ⟨A1, c1, rfl, h1, hb1⟩
  have B1 := Lib.hid (((Below.refl w.heap.size w).alloc (Nat.le_refl _) (.cells #[.int .u8 97, .int .u8 10, .int .u8 10, .int .u8 98] 5 (4, 5))).trans (hb1.mono (by simp)))
  obtain ⟨g, off, rfl, hg, hc⟩ := h1.cells (by decide)
  clear hb1
  go_wp2_with fail
  refine (words_as (o := false) (by decide) _ (by show (wordsL [97, 32, 32, 98]).isSome = false; rw [words_ab]; rfl) (by show (wordsL [97, 32, 32, 98]).getD [] = []; rw [words_ab]; rfl) rfl).mono ?_
  rintro e w2 ⟨A2, c2, rfl, -, hb2⟩
  have B2 := Lib.hid (B1.out.trans (hb2.mono B1.out.size))
  have HC := Lib.hid (fun i (hi : i < 3) => (hb2.cell (p := ⟨g, off + i, none⟩) hg).trans (hc i hi))
  clear hb2
  go_wp2_with fail
  refine (number_as (n := 0) (o := false) _ (by show (((numL [48, 55]).getD 0 : Nat) : Int) = 0; rw [num_07]; rfl) (by show (numL [48, 55]).isSome = false; rw [num_07]; rfl)).mono ?_
  rintro e w3 ⟨rfl, k, rfl⟩
  have e0 : (w2.drewN k).cell? ⟨g, off, none⟩ = some (.string (strOf [97])) := HC.out 0 (by decide)
  have e1 : (w2.drewN k).cell? ⟨g, off + 1, none⟩ = some (.string (strOf [])) := HC.out 1 (by decide)
  have e2 : (w2.drewN k).cell? ⟨g, off + 2, none⟩ = some (.string (strOf [98])) := HC.out 2 (by decide)
  have k0 : (strOf [97]).toList = [97] := by rw [ByteArray.toList_eq]; rfl
  have k1 : (strOf []).toList.isEmpty = true := by rw [ByteArray.toList_eq]; rfl
  have k2 : (strOf [98]).toList = [98] := by rw [ByteArray.toList_eq]; rfl
  have k3 : (strOf (Lib.itoa (-12))).toList = [45, 49, 50] := by rw [itoa_12, ByteArray.toList_eq]; rfl
  have HT := Lib.hid (show Tab10 (w2.drewN k) from ht.below (below_drewN B2.out k))
  go_wp2_with (go_at_call 21; refine (digits_any (-12) (by omega) (by omega) _ HT.out).mono ?_; rintro e w4 ⟨rfl, hb4⟩; have B4 := Lib.hid ((below_drewN B2.out k).trans (hb4.mono B2.out.size)); clear hb4)
  go_ret
  exact ⟨rfl, B4.out⟩
end Go.Proofs.YtefhifmilmedhaaDoor
