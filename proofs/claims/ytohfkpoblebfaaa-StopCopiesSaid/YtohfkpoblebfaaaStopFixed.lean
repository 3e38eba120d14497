/- The law's fixed. -/
import Derived.Test.YtohfkpoblebfaaaStopNew
import Derived.Test.YtohfkpoblebfaaaAhoFixed
namespace Go.Proofs.Ytohfkpoblebfaaa
open Go.RowKit
set_option linter.unusedVariables false

def ex2 : List Wd := [[97, 98], [98]]
theorem ex2M : mayP ex2 := by unfold mayP okAll ex2 okP; decide
theorem ex2F1 : feedS ex2 [] [120, 97] = [120, 97] := by decide
theorem ex2F2 : feedS ex2 [120, 97] [98, 98] = [120, 97, 98] := by decide
theorem ex2R1 : freeW ex2 [120, 97] = 1 := by decide
theorem ex2R2 : freeW ex2 [120, 97, 98] = 1 := by decide
theorem ex2H : hitB ex2 [120, 97, 98] = true := by decide
theorem ex2E : (endsOf ex2 [120, 97, 98]).1 = 0 := by decide
theorem ex2W : fromW ex2 [120, 97, 98] = 1 := by decide
def ex2V (w : World) : Vs := fun i => if i = 0 then (some ⟨w.heap.size, 0, none⟩, 2) else (some ⟨w.heap.size + 1, 0, none⟩, 1)
theorem ex2_pats (w w' : World) (hw : w' = ((w.alloc (.cells #[.int .i64 97, .int .i64 98] 3)).alloc (.cells #[.int .i64 98] 3)).alloc (.cells #[.slice (some ⟨w.heap.size, 0, none⟩) 2 2, .slice (some ⟨w.heap.size + 1, 0, none⟩) 1 1] 31)) : PatsAt w' w'.heap.size (some ⟨w.heap.size + 2, 0, none⟩) 2 2 ex2 (ex2V w) := by
  have hz : w'.heap.size = w.heap.size + 3 := by rw [hw]; simp
  have m2 : (2 : Nat) ≤ maxLen := by unfold maxLen; omega
  have m3 : (1 : Nat) ≤ maxLen := by unfold maxLen; omega
  have r1 := new_ints_at (w := w) [97, 98] 3 (cs := #[.int .i64 97, .int .i64 98]) rfl rfl rfl m2
  have r2 := new_ints_at (w := w.alloc (.cells #[.int .i64 97, .int .i64 98] 3)) [98] 3 (cs := #[.int .i64 98]) rfl (g := w.heap.size + 1) (by simp) rfl m3
  have r3 := new_vals_at (w := (w.alloc (.cells #[.int .i64 97, .int .i64 98] 3)).alloc (.cells #[.int .i64 98] 3)) [.slice (some ⟨w.heap.size, 0, none⟩) 2 2, .slice (some ⟨w.heap.size + 1, 0, none⟩) 1 1] 31 (cs := #[.slice (some ⟨w.heap.size, 0, none⟩) 2 2, .slice (some ⟨w.heap.size + 1, 0, none⟩) 1 1]) rfl (g := w.heap.size + 2) (by simp) rfl m2
  have q1 := RowAt.mono (RowAt.alloc (RowAt.alloc r1 (by simp) (.cells #[.int .i64 98] 3)) (by simp) (.cells #[.slice (some ⟨w.heap.size, 0, none⟩) 2 2, .slice (some ⟨w.heap.size + 1, 0, none⟩) 1 1] 31)) (show w.heap.size + 1 ≤ w'.heap.size by omega)
  have q2 := RowAt.mono (RowAt.alloc r2 (by simp) (.cells #[.slice (some ⟨w.heap.size, 0, none⟩) 2 2, .slice (some ⟨w.heap.size + 1, 0, none⟩) 1 1] 31)) (show w.heap.size + 1 + 1 ≤ w'.heap.size by omega)
  rw [← hw] at q1 q2 r3
  refine ⟨rfl, ⟨Nat.le_refl _, m2⟩, fun _ => ⟨_, 0, rfl, by omega, fun i hi => ?_⟩, fun i hi => ?_⟩
  · obtain ⟨b, off, e, _, hc⟩ := r3.2.2.2 (by omega)
    injection e with e
    injection e with e1 e2
    subst e1 e2
    rcases (by omega : i = 0 ∨ i = 1) with rfl | rfl
    · exact hc 0 _ rfl
    · exact hc 1 _ rfl
  · rcases (by omega : i = 0 ∨ i = 1) with rfl | rfl
    · exact q1
    · exact q2
theorem off_new {q b off : Nat} (h : q < b) : Off q (some ⟨b, off, none⟩) := by
  rintro b' off' s e
  injection e with e
  injection e with e1 e2
  omega
set_option maxRecDepth 100000 in
set_option maxHeartbeats 2000000 in
theorem fixed19 (w : World) : Calls Try.prog 26 #[] w fun e w' => e = .returned (.bool true) ∧ Below w.heap.size w w' := by
  go_enter Try.func26, Try.ntmps26
  go_wp2_with fail
  obtain ⟨w0, hw0⟩ : ∃ w0, w0 = ((w.alloc (.cells #[.int .i64 97, .int .i64 98] 3)).alloc (.cells #[.int .i64 98] 3)).alloc (.cells #[.slice (some ⟨w.heap.size, 0, none⟩) 2 2, .slice (some ⟨w.heap.size + 1, 0, none⟩) 1 1] 31) := ⟨_, rfl⟩
  have B0 : Below w.heap.size w w0 := by rw [hw0]; exact (((Below.refl _ w).alloc (Nat.le_refl _) _).alloc (by simp) _).alloc (by simp; omega) _
  have hp := ex2_pats w w0 hw0
  rw [← hw0]
  have H0 := Lib.hid B0
  clear hw0 B0
  refine (snew_yes w0 hp ex2M).mono ?_
  rintro e w1 ⟨u0, q, B, g, ns, W, f, A, c, rfl, hm, hz, hb⟩
  have hq := hm.far
  have hq1 := hm.lt
  have hqw : w.heap.size ≤ q := by have := H0.out.size; omega
  have H1 := Lib.hid (H0.out.trans (hb.mono H0.out.size))
  have M1 := Lib.hid hm
  clear hp hb hm H0
  go_wp2_with fail
  obtain ⟨w2, hw2⟩ : ∃ w2, w2 = w1.alloc (.cells #[.int .i64 120, .int .i64 97] 3) := ⟨_, rfl⟩
  have B2 : Below w1.heap.size w1 w2 := by rw [hw2]; exact (Below.refl _ w1).alloc (Nat.le_refl _) _
  have r2 : IntsAt w2 w2.heap.size (some ⟨w1.heap.size, 0, none⟩) 2 2 [120, 97] := by
    have := new_ints_at (w := w1) [120, 97] 3 (cs := #[.int .i64 120, .int .i64 97]) rfl rfl (n := 2) rfl (by unfold maxLen; omega)
    rw [hw2]
    exact RowAt.mono this (by simp)
  rw [← hw2]
  have H2 := Lib.hid (H1.out.trans (B2.mono H1.out.size))
  have M2 := Lib.hid (M1.out.below B2)
  clear hw2 B2 H1 M1
  refine (feed_as w2 M2.out r2 (fun _ => off_new hq1) (by decide)).mono ?_
  rw [show FeedTo ex2 [] [120, 97] = FeedTo ex2 [] [120, 97] from rfl]
  rintro e w3 ⟨rfl, hm3, ha⟩
  rw [ex2F1] at hm3
  have H3 := Lib.hid (H2.out.trans (ha.below hqw H2.out.size))
  have M3 := Lib.hid hm3
  clear ha hm3 H2 M2 r2
  go_wp2_with fail
  refine (free_as w3 M3.out (by decide)).mono ?_
  rw [ex2R1]
  rintro e w' ⟨rfl, k, rfl⟩
  obtain ⟨w4, hw4⟩ : ∃ w4, w4 = w3.drewN k := ⟨_, rfl⟩
  have B4 : Below w3.heap.size w3 w4 := by rw [hw4]; exact below_drewN (Below.refl _ _) k
  have H4 := Lib.hid (H3.out.trans (B4.mono H3.out.size))
  have M4 := Lib.hid (M3.out.below B4)
  rw [← hw4]
  clear hw4 B4 H3 M3
  go_wp2_with fail
  obtain ⟨w5, hw5⟩ : ∃ w5, w5 = w4.alloc (.cells #[.int .i64 98, .int .i64 98] 3) := ⟨_, rfl⟩
  have B5 : Below w4.heap.size w4 w5 := by rw [hw5]; exact (Below.refl _ w4).alloc (Nat.le_refl _) _
  have r5 : IntsAt w5 w5.heap.size (some ⟨w4.heap.size, 0, none⟩) 2 2 [98, 98] := by
    have := new_ints_at (w := w4) [98, 98] 3 (cs := #[.int .i64 98, .int .i64 98]) rfl rfl (n := 2) rfl (by unfold maxLen; omega)
    rw [hw5]
    exact RowAt.mono this (by simp)
  rw [← hw5]
  have hq4 := M4.out.lt
  have H5 := Lib.hid (H4.out.trans (B5.mono H4.out.size))
  have M5 := Lib.hid (M4.out.below B5)
  clear hw5 B5 H4 M4
  refine (feed_as w5 M5.out r5 (fun _ => off_new hq4) (by decide)).mono ?_
  rintro e w6 ⟨rfl, hm6, ha⟩
  rw [ex2F2] at hm6
  have H6 := Lib.hid (H5.out.trans (ha.below hqw H5.out.size))
  have M6 := Lib.hid hm6
  rw [ex2F2, ex2H]
  clear ha hm6 H5 M5 r5
  go_wp2_with fail
  refine (hitm_as w6 M6.out).mono ?_
  rw [ex2E, ex2W]
  rintro e w' ⟨rfl, k, rfl⟩
  obtain ⟨w7, hw7⟩ : ∃ w7, w7 = w6.drewN k := ⟨_, rfl⟩
  have B7 : Below w6.heap.size w6 w7 := by rw [hw7]; exact below_drewN (Below.refl _ _) k
  have H7 := Lib.hid (H6.out.trans (B7.mono H6.out.size))
  have M7 := Lib.hid (M6.out.below B7)
  rw [← hw7]
  clear hw7 B7 H6 M6
  go_wp2_with fail
  refine (free_as w7 M7.out (by decide)).mono ?_
  rw [ex2R2]
  rintro e w' ⟨rfl, k2, rfl⟩
  go_wp2_with fail
  go_ret
  exact ⟨rfl, below_drewN H7.out _⟩
end Go.Proofs.Ytohfkpoblebfaaa
