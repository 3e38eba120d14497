/- The walk of class.Usual. -/
import Derived.Test.YthhcdblkbdnbeaaDoorClsOf
namespace Go.Proofs.YthhcdblkbdnbeaaDoor
open Go.RowKit
set_option linter.unusedVariables false

theorem infoRange : (Tryd.prog.info? 28).map (fun i => (i.zero, i.size, i.bytes)) = some (some (.agg #[.int .i64 0, .int .i64 0, .int .i64 0]), 3, 24) := by kernel_rfl
theorem one_ranges : ∀ {t : List Rg}, ∀ u ∈ rangesV t, u.oneCell' = true
  | [], u, h => by simp [rangesV] at h
  | x :: r, u, h => by
    rw [rangesV_cons] at h
    simp only [List.mem_cons] at h
    rcases h with rfl | rfl | rfl | h
    · rfl
    · rfl
    · rfl
    · exact one_ranges u h
theorem cown_below {B k n : Nat} {e : TypeId} {v : Value} {xs : List Value} {w w' : World} (h : w.ownsRow B e k v n xs) (hb : Below w.heap.size w w') : w'.ownsRow B e k v n xs :=
  h.kept (row := none) ⟨hb.os, hb.tape, hb.output, hb.size, fun i hi _ => hb.block i hi⟩ (by cases v.ownBlock <;> simp)
theorem cown_base {B B' k n : Nat} {e : TypeId} {v : Value} {xs : List Value} {w : World} (h : w.ownsRow B e k v n xs) (hb : B' ≤ B) : w.ownsRow B' e k v n xs :=
  ⟨h.1, h.2.imp id fun ⟨g, cap, cur, h1, h2, h3⟩ => ⟨g, cap, cur, h1, Nat.le_trans hb h2, h3⟩⟩
theorem own_new (W : World) (e : TypeId) (k : Nat) : (W.alloc (.cells #[] e)).ownsRow W.heap.size e k (.slice (some ⟨W.heap.size, 0, none⟩) 0 0) 0 [] :=
  ⟨by simp, .inr ⟨W.heap.size, 0, #[], rfl, Nat.le_refl _, heap_alloc_new _ _, Nat.le_refl _, Nat.zero_le _, by simp, by simp⟩⟩

set_option maxRecDepth 100000 in
set_option maxHeartbeats 1000000 in
theorem clone_any {b off n c : Nat} {t : List Rg} (w : World) (h : RangesAt w w.heap.size (some ⟨b, off, none⟩) n c t) (hm : n ≤ 1000) :
    Calls Tryd.prog 18 #[.slice (some ⟨b, off, none⟩) n c] w fun e w' => ∃ v, e = .returned v ∧ w'.ownsRow w.heap.size 28 3 v n (rangesV t) ∧ Below w.heap.size w w' := by
  have hnil := fun (w : World) (n' c' : Nat) => Lib.run_eql_slice_nil (P := Tryd.prog) w 22 28 (some ⟨b, off, none⟩) n c n' c' Tryd.underlying22
  have HO := Lib.hid (own_new w 28 3)
  have HR := Lib.hid (RowAt.alloc h (Nat.le_refl _) (.cells #[] 28))
  have HAL := Lib.hid ((Below.refl w.heap.size w).alloc (Nat.le_refl _) (.cells #[] 28))
  clear h
  go_enter Tryd.func18, Tryd.ntmps18
  go_wp2_with (at_builtin; refine wpList_append_row rfl (.tmp 5) (.tmp 6) _ rfl w.heap.size 28 _ 3 24 Tryd.underlying22 infoRange rfl (by omega) _ 0 [] rfl HO.out w.heap.size (some ⟨b, off, none⟩) n c (rangesV t) rfl HR.out one_ranges n (Nat.zero_add _) (rangesV t) rfl (by unfold maxLen; omega) (by omega) (by simp) ?_; intro A3 c3 w3 hown3 hb3 hg3; have HO3 := Lib.hid hown3; have HB3 := Lib.hid (HAL.out.trans hb3); clear hown3 hb3 hg3)
  go_ret
  exact ⟨_, rfl, HO3.out, HB3.out⟩

set_option maxRecDepth 100000 in
set_option maxHeartbeats 1000000 in
theorem usual_own (w : World) (h : RangesAt w w.heap.size (some ⟨0, 0, none⟩) 51 51 usualT) :
    Calls Tryd.prog 12 #[] w fun e w' => ∃ v, e = .returned v ∧ w'.ownsRow w.heap.size 28 3 v 51 (rangesV usualT) ∧ Below w.heap.size w w' := by
  have HH := Lib.hid h
  clear h
  go_enter Tryd.func12, Tryd.ntmps12
  go_wp2_with fail
  refine (clone_any _ HH.out (by omega)).mono ?_
  rintro e w' ⟨v, rfl, hown, hb⟩
  have HO := Lib.hid hown
  have HB := Lib.hid hb
  clear hown hb
  go_wp2_with fail
  go_ret
  exact ⟨_, rfl, HO.out, HB.out⟩
/-- The usual table as it lies in memory when the program began. -/
def UsualAt (w : World) : Prop := RangesAt w 1 (some ⟨0, 0, none⟩) 51 51 usualT ∧ 1 ≤ w.heap.size
theorem UsualAt.later {w w' : World} (h : UsualAt w) (hb : Below w.heap.size w w') : UsualAt w' := ⟨RowAt.below h.1 (hb.mono h.2), Nat.le_trans h.2 hb.size⟩
theorem usual_any (w : World) (h : UsualAt w) :
    Calls Tryd.prog 12 #[] w fun e w' => ∃ A c, e = .returned (.slice A 51 c) ∧ RangesAt w' w'.heap.size A 51 c usualT ∧ Below w.heap.size w w' := by
  refine (usual_own w (RowAt.mono h.1 h.2)).mono ?_
  rintro e w' ⟨v, rfl, hown, hb⟩
  obtain ⟨A, c, rfl⟩ := own_form hown
  exact ⟨A, c, rfl, RowAt.of_own hown, hb⟩
end Go.Proofs.YthhcdblkbdnbeaaDoor
