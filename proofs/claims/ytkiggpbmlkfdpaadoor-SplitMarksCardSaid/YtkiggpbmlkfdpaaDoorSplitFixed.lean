/- The walks of the law's great, fixed. -/
import Derived.Test.YtkiggpbmlkfdpaaDoorSplitRef
import Derived.Test.YtkiggpbmlkfdpaaDoorClsUse
namespace Go.Proofs.YtkiggpbmlkfdpaaDoor
open Go.RowKit
set_option linter.unusedVariables false

theorem great13 {A A2 : Option Addr} {n c n2 c2 : Nat} (w : World) {o : Bool} (ho : (decide (80 < n) || decide (120 < n2)) = o) (hn : n ≤ 9223372036854775807) (hn2 : n2 ≤ 9223372036854775807) : Calls Tryd.prog 23 #[.slice A n c, .slice A2 n2 c2] w fun e w' => e = .returned (.bool o) ∧ w = w' := by
  have HO := Lib.hid ho
  clear ho
  by_cases h1 : 80 < n
  · have h1' : (80 : Int) < (n : Int) := by omega
    have HT := Lib.hid (show o = true from by rw [← HO.out, decide_eq_true h1]; rfl)
    go_enter Tryd.func23, Tryd.ntmps23
    go_wp2_with fail
    go_ret
    exact ⟨by rw [HT.out]; rfl, rfl⟩
  · have h1' : ¬ (80 : Int) < (n : Int) := by omega
    by_cases h2 : 120 < n2
    · have h2' : (120 : Int) < (n2 : Int) := by omega
      have HT := Lib.hid (show o = true from by rw [← HO.out, decide_eq_true h2]; simp)
      go_enter Tryd.func23, Tryd.ntmps23
      go_wp2_with fail
      go_ret
      exact ⟨by rw [HT.out]; rfl, rfl⟩
    · have h2' : ¬ (120 : Int) < (n2 : Int) := by omega
      have HT := Lib.hid (show o = false from by rw [← HO.out, decide_eq_false h1, decide_eq_false h2]; rfl)
      go_enter Tryd.func23, Tryd.ntmps23
      go_wp2_with fail
      go_ret
      exact ⟨by rw [HT.out]; rfl, rfl⟩
theorem fx13 : splitL 2 usualT [97, 32, 98, 256] false = [(1, true), (2, true), (1, true)] := by decide +kernel
theorem row_const {w : World} {size n : Nat} (g : Nat) (l : List Value) (cs : Array Value) (t : TypeId) (hg : w.heap.size = g) (hl : l.toArray = cs) (hn : l.length = n * size) (hm : n ≤ maxLen) : RowAt (w.alloc (.cells cs t)) (w.alloc (.cells cs t)).heap.size size (some ⟨g, 0, none⟩) n n l := by
  subst hl hg
  refine ⟨hn, Nat.le_refl _, hm, fun _ => ⟨_, _, rfl, by rw [World.size_alloc]; omega, fun j u hu => ?_⟩⟩
  rw [Nat.zero_add]
  have hc : (w.alloc (.cells l.toArray t)).heap[w.heap.size]? = some (.cells l.toArray t (0, 0)) := heap_alloc_new _ _
  unfold World.cell?
  rw [hc]
  simpa using hu
set_option maxRecDepth 100000 in
set_option maxHeartbeats 2000000 in
theorem fixed13 (w : World) (hU : UsualAt w) : Calls Tryd.prog 24 #[] w fun e w' => e = .returned (.bool true) ∧ Below w.heap.size w w' := by
  have HU := Lib.hid hU
  clear hU
  go_enter Tryd.func24, Tryd.ntmps24
  go_wp2_with fail
  refine (usual_any w HU.out).mono ?_
  rintro e w1 ⟨At, ct, rfl, ht1, hb1⟩
  obtain ⟨w2, hw2⟩ : ∃ w2, w2 = w1.alloc (.cells #[.int .i64 97, .int .i64 32, .int .i64 98, .int .i64 256] 3) := ⟨_, rfl⟩
  have hb2 : Below w1.heap.size w1 w2 := by rw [hw2]; exact (Below.refl _ w1).alloc (Nat.le_refl _) _
  have HT2 := Lib.hid (show RangesAt w2 w2.heap.size At 51 ct usualT from RowAt.mono (RowAt.below ht1 hb2) hb2.size)
  have HI2 := Lib.hid (show IntsAt w2 w2.heap.size (some ⟨w1.heap.size, 0, none⟩) 4 4 [97, 32, 98, 256] from by rw [hw2]; exact row_const _ (intsV [97, 32, 98, 256]) _ _ rfl rfl rfl (by unfold maxLen; omega))
  have HB2 := Lib.hid (hb1.trans (hb2.mono hb1.size))
  have HW2 := Lib.hid hw2
  clear ht1 hb1 hb2 hw2
  go_wp2_with fail
  rw [← HW2.out]
  refine (split_as 2 false w2 HT2.out HI2.out (by omega) (by omega) fx13).mono ?_
  rintro e w3 ⟨A3, c3, rfl, hp3, hb3⟩
  obtain ⟨w4, hw4⟩ : ∃ w4, w4 = w3.alloc (.cells #[.int .i64 1, .bool true, .int .i64 2, .bool true, .int .i64 1, .bool true] 44) := ⟨_, rfl⟩
  have hb4 : Below w3.heap.size w3 w4 := by rw [hw4]; exact (Below.refl _ w3).alloc (Nat.le_refl _) _
  have HP4 := Lib.hid (show PiecesAt w4 w4.heap.size A3 3 c3 [(1, true), (2, true), (1, true)] from RowAt.mono (RowAt.below hp3 hb4) hb4.size)
  have HQ4 := Lib.hid (show PiecesAt w4 w4.heap.size (some ⟨w3.heap.size, 0, none⟩) 3 3 [(1, true), (2, true), (1, true)] from by rw [hw4]; exact row_const _ (pieceV [(1, true), (2, true), (1, true)]) _ _ rfl rfl rfl (by unfold maxLen; omega))
  have HB4 := Lib.hid ((HB2.out.trans (hb3.mono HB2.out.size)).trans (hb4.mono (HB2.out.trans (hb3.mono HB2.out.size)).size))
  have HW4 := Lib.hid hw4
  clear hp3 hb3 hb4 hw4
  go_wp2_with fail
  rw [← HW4.out]
  refine (sameP_as (o := true) w4 HP4.out HQ4.out (by decide)).mono ?_
  rintro e w5 ⟨rfl, hb5⟩
  have HB5 := Lib.hid (HB4.out.trans (hb5.mono HB4.out.size))
  clear hb5
  go_wp2_with fail
  go_ret
  exact ⟨rfl, HB5.out⟩
end Go.Proofs.YtkiggpbmlkfdpaaDoor
