/- The law's fixed, great. -/
import Derived.Test.YtohfkpoblebfaaaAhoAs
namespace Go.Proofs.Ytohfkpoblebfaaa
open Go.RowKit
set_option linter.unusedVariables false

set_option maxHeartbeats 400000 in
theorem great18 {A : Option Addr} {n c : Nat} {o : Bool} (w : World) (ho : decide (40 < n) = o) : Calls Try.prog 13 #[.slice A n c] w fun e w' => e = .returned (.bool o) ∧ w = w' := by
  subst ho
  by_cases h : 40 < n
  · have h' : decide ((40 : Int) < (n : Int)) = true := decide_eq_true (by omega)
    go_enter Try.func13, Try.ntmps13
    go_wp2_with fail
    go_ret
    exact ⟨by rw [decide_eq_true h]; rfl, rfl⟩
  · have h' : decide ((40 : Int) < (n : Int)) = false := decide_eq_false (by omega)
    go_enter Try.func13, Try.ntmps13
    go_wp2_with fail
    go_ret
    exact ⟨by rw [decide_eq_false h]; rfl, rfl⟩
def exL : List Wd := [[104, 101], [115, 104, 101]]
def exT : Wd := [117, 115, 104, 101]
theorem exH : heldL exL exT = 3 := by decide
theorem exE : endsOf exL exT = (1, 3) := by decide
theorem exS : statesL exL = 6 := by decide
theorem exM : mayP exL := by unfold mayP okAll exL okP; decide
theorem new_vals_at {w : World} {cs : Array Value} (l : List Value) (t : TypeId) {g n : Nat} (hc : cs = l.toArray) (hg : w.heap.size = g) (hl : l.length = n) (hm : n ≤ maxLen) : RowAt (w.alloc (.cells cs t)) (g + 1) 1 (some ⟨g, 0, none⟩) n n l := by
  subst hc hg hl
  refine ⟨by omega, Nat.le_refl _, hm, fun _ => ⟨w.heap.size, 0, rfl, by omega, fun j u hu => ?_⟩⟩
  have hc : (w.alloc (.cells l.toArray t)).heap[w.heap.size]? = some (.cells l.toArray t (0, 0)) := heap_alloc_new _ _
  rw [Nat.zero_add, Lib.cell_of_heap hc j, ← hu]
  simp
theorem new_ints_at {w : World} {cs : Array Value} (l : List Int) (t : TypeId) {g n : Nat} (hc : cs = (intsV l).toArray) (hg : w.heap.size = g) (hl : l.length = n) (hm : n ≤ maxLen) : IntsAt (w.alloc (.cells cs t)) (g + 1) (some ⟨g, 0, none⟩) n n l :=
  new_vals_at (intsV l) t hc hg (by rw [length_intsV]; exact hl) hm
def exV (w : World) : Vs := fun i => if i = 0 then (some ⟨w.heap.size, 0, none⟩, 2) else (some ⟨w.heap.size + 1, 0, none⟩, 3)
theorem ex_pats (w w' : World) (hw : w' = ((w.alloc (.cells #[.int .i64 104, .int .i64 101] 3)).alloc (.cells #[.int .i64 115, .int .i64 104, .int .i64 101] 3)).alloc (.cells #[.slice (some ⟨w.heap.size, 0, none⟩) 2 2, .slice (some ⟨w.heap.size + 1, 0, none⟩) 3 3] 31)) : PatsAt w' w'.heap.size (some ⟨w.heap.size + 2, 0, none⟩) 2 2 exL (exV w) := by
  have hz : w'.heap.size = w.heap.size + 3 := by rw [hw]; simp
  have m2 : (2 : Nat) ≤ maxLen := by unfold maxLen; omega
  have m3 : (3 : Nat) ≤ maxLen := by unfold maxLen; omega
  have r1 := new_ints_at (w := w) [104, 101] 3 (cs := #[.int .i64 104, .int .i64 101]) rfl rfl rfl m2
  have r2 := new_ints_at (w := w.alloc (.cells #[.int .i64 104, .int .i64 101] 3)) [115, 104, 101] 3 (cs := #[.int .i64 115, .int .i64 104, .int .i64 101]) rfl (g := w.heap.size + 1) (by simp) rfl m3
  have r3 := new_vals_at (w := (w.alloc (.cells #[.int .i64 104, .int .i64 101] 3)).alloc (.cells #[.int .i64 115, .int .i64 104, .int .i64 101] 3)) [.slice (some ⟨w.heap.size, 0, none⟩) 2 2, .slice (some ⟨w.heap.size + 1, 0, none⟩) 3 3] 31 (cs := #[.slice (some ⟨w.heap.size, 0, none⟩) 2 2, .slice (some ⟨w.heap.size + 1, 0, none⟩) 3 3]) rfl (g := w.heap.size + 2) (by simp) rfl m2
  have q1 := RowAt.mono (RowAt.alloc (RowAt.alloc r1 (by simp) (.cells #[.int .i64 115, .int .i64 104, .int .i64 101] 3)) (by simp) (.cells #[.slice (some ⟨w.heap.size, 0, none⟩) 2 2, .slice (some ⟨w.heap.size + 1, 0, none⟩) 3 3] 31)) (show w.heap.size + 1 ≤ w'.heap.size by omega)
  have q2 := RowAt.mono (RowAt.alloc r2 (by simp) (.cells #[.slice (some ⟨w.heap.size, 0, none⟩) 2 2, .slice (some ⟨w.heap.size + 1, 0, none⟩) 3 3] 31)) (show w.heap.size + 1 + 1 ≤ w'.heap.size by omega)
  rw [← hw] at q1 q2 r3
  refine ⟨rfl, ⟨Nat.le_refl _, m2⟩, fun _ => ⟨_, 0, rfl, by omega, fun i hi => ?_⟩, fun i hi => ?_⟩
  · obtain ⟨b, off, e, _, hc⟩ := r3.2.2.2 (by omega)
    injection e with e
    injection e with e1 e2
    subst e1 e2
    rcases (by omega : i = 0 ∨ i = 1) with rfl | rfl
    · exact hc 0 _ rfl
    · exact hc 1 _ rfl
  · rcases (by omega : i = 0 ∨ i = 1) with rfl | rfl
    · exact q1
    · exact q2
set_option maxRecDepth 100000 in
set_option maxHeartbeats 2000000 in
theorem fixed18 (w : World) : Calls Try.prog 14 #[] w fun e w' => e = .returned (.bool true) ∧ Below w.heap.size w w' := by
  go_enter Try.func14, Try.ntmps14
  go_wp2_with fail
  obtain ⟨w0, hw0⟩ : ∃ w0, w0 = ((w.alloc (.cells #[.int .i64 104, .int .i64 101] 3)).alloc (.cells #[.int .i64 115, .int .i64 104, .int .i64 101] 3)).alloc (.cells #[.slice (some ⟨w.heap.size, 0, none⟩) 2 2, .slice (some ⟨w.heap.size + 1, 0, none⟩) 3 3] 31) := ⟨_, rfl⟩
  have B0 : Below w.heap.size w w0 := by rw [hw0]; exact (((Below.refl _ w).alloc (Nat.le_refl _) _).alloc (by simp) _).alloc (by simp; omega) _
  have hp := ex_pats w w0 hw0
  rw [← hw0]
  have H0 := Lib.hid B0
  clear hw0 B0
  refine (new_as w0 hp exM).mono ?_
  rintro e w1 ⟨B, g, ns, W, f, A, c, rfl, hm, hb⟩
  have H1 := Lib.hid (H0.out.trans (hb.mono H0.out.size))
  have M1 := Lib.hid hm
  clear hp hb hm H0
  go_wp2_with fail
  obtain ⟨w2, hw2⟩ : ∃ w2, w2 = w1.alloc (.cells #[.int .i64 117, .int .i64 115, .int .i64 104, .int .i64 101] 3) := ⟨_, rfl⟩
  have B2 : Below w1.heap.size w1 w2 := by rw [hw2]; exact (Below.refl _ w1).alloc (Nat.le_refl _) _
  have r2 : IntsAt w2 w2.heap.size (some ⟨w1.heap.size, 0, none⟩) 4 4 exT := by
    have := new_ints_at (w := w1) exT 3 (cs := #[.int .i64 117, .int .i64 115, .int .i64 104, .int .i64 101]) rfl rfl (n := 4) rfl (by unfold maxLen; omega)
    rw [hw2]
    exact RowAt.mono this (by simp)
  rw [← hw2]
  have H2 := Lib.hid (H1.out.trans (B2.mono H1.out.size))
  have M2 := Lib.hid (M1.out.below B2)
  clear hw2 B2 H1 M1
  refine (walk_as w2 M2.out r2).mono ?_
  rintro e w3 ⟨t, rfl, ht, hwt, hb⟩
  have M3 := Lib.hid (M2.out.below hb)
  have H3 := Lib.hid (H2.out.trans (hb.mono H2.out.size))
  have S3 := Lib.hid (M3.out.stands_nat ht hwt)
  clear ht hwt hb H2 M2 r2
  go_wp2_with fail
  refine (ends_as (t : Int) w3 M3.out S3.out).mono ?_
  rw [exE]
  rintro e w4 ⟨rfl, hb⟩
  have M4 := Lib.hid (M3.out.below hb)
  have H4 := Lib.hid (H3.out.trans (hb.mono H3.out.size))
  clear hb H3 M3
  go_wp2_with fail
  refine (depth_as (t : Int) w4 M4.out S3.out).mono ?_
  rw [exH]
  rintro e w5 ⟨rfl, hb⟩
  have M5 := Lib.hid (M4.out.below hb)
  have H5 := Lib.hid (H4.out.trans (hb.mono H4.out.size))
  clear hb H4 M4
  go_wp2_with fail
  refine (states_as w5 M5.out).mono ?_
  rw [exS]
  rintro e w6 ⟨rfl, rfl⟩
  go_wp2_with fail
  go_ret
  exact ⟨rfl, H5.out⟩
end Go.Proofs.Ytohfkpoblebfaaa
