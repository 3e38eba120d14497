/- What the condition on the usual table gives; what a law's row over it asks. -/
import Derived.Test.YtkiggpbmlkfdpaaDoorOpenR
import Derived.Test.YtkiggpbmlkfdpaaDoorRows
import Derived.ProofKit
import Derived.LaidMore
import Derived.OpenShut
import Derived.Stop.Joined
namespace Go.Proofs.YtkiggpbmlkfdpaaDoor
open Go.ChangeShapes Go.WideShapes Go.ChangeAt Go.WideMaps Go.WideElems Go.RowKit
set_option linter.unusedVariables false

theorem ownNone : ownKnob Tryd.prog.godebug = none := by kernel_rfl
theorem laidOut : laidOutB Tryd.prog = true := by kernel_rfl
theorem gUsual : Tryd.prog.globalNamed "footbridge/class.usual" = some 0 := by kernel_rfl
theorem tUsual : (Tryd.prog.globals[0]?).map (·.type) = some 83 := by kernel_rfl
abbrev laidList : List (String × DataW Unit) := [("footbridge/class.usual", Rows.laid_footbridge_class_usual)]
def datumOf (t : List Rg) : DataW Unit := .agg (t.map fun x => .agg [.lit (.int .i64 x.1), .lit (.int .i64 x.2.1), .lit (.int .i64 x.2.2)])
theorem laid_datum : (Rows.laid_footbridge_class_usual : DataW Unit) = datumOf usualT := rfl
theorem door_met (os : Os) (args : Array Value) : laidMetH Tryd.prog laidList ((World.doorLaid Tryd.prog 400 os).forCall (fun _ _ => 0) ⟨#[], args, []⟩).memory :=
  laidMetH_of_parts3 (fuel := 8) (laidMet_of_run' 8 (by kernel_rfl) (by kernel_rfl)) (by kernel_rfl) (by kernel_rfl)

theorem of_laid {W : World} (h : laidMetH Tryd.prog laidList W) : UsualAt W := by
  rw [MakeChecks.laidMetH_plain _ _ _ (by kernel_rfl)] at h
  obtain ⟨ps, ⟨g0, t0, cs0, f0, p0, q0, hg0, ht0, hv0, hd0, _, _⟩, _, _⟩ := h
  obtain rfl := Option.some.inj (gUsual.symm.trans hg0)
  obtain rfl := Option.some.inj (tUsual.symm.trans ht0)
  obtain ⟨xs, m1, _, hx1, hlen, hn3, hel⟩ := DataW.trod_array Tryd.underlying83 hd0
  rw [cells_range] at hel
  simp only [Prod.mk.injEq] at hx1
  have hx2 := hx1.1
  rw [laid_datum] at hx2
  unfold datumOf at hx2
  injection hx2 with hx2
  have key : ∀ i, i < 51 → W.cell? ⟨0, i * 3, none⟩ = some (.int .i64 (rg usualT i).1) ∧ W.cell? ⟨0, i * 3 + 1, none⟩ = some (.int .i64 (rg usualT i).2.1) ∧ W.cell? ⟨0, i * 3 + 2, none⟩ = some (.int .i64 (rg usualT i).2.2) := by
    intro i hi
    have hxi : xs[i]? = some (xs[i]'(by omega)) := List.getElem?_eq_getElem (by omega)
    have h1 := (hel i hi).trans hxi
    obtain ⟨x, y, z, hcs, hd⟩ := trod_range h1
    have h2 : (usualT.map fun x => (DataW.agg [.lit (.int .i64 x.1), .lit (.int .i64 x.2.1), .lit (.int .i64 x.2.2)] : DataW Unit))[i]? = (xs.map (·.1))[i]? := by rw [hx2]
    rw [List.getElem?_map, List.getElem?_map, hxi, List.getElem?_eq_getElem (show i < usualT.length by rw [usual_len]; exact hi), ← rg_get] at h2
    simp only [Option.map_some, Option.some.injEq] at h2
    rw [hd] at h2
    simp only [DataW.agg.injEq, List.cons.injEq, DataW.lit.injEq, Lit.int.injEq, true_and, and_true] at h2
    obtain ⟨e0, e1, e2⟩ := h2
    have c0 := World.var?_cell hg0 hv0 (i * 3)
    have c1 := World.var?_cell hg0 hv0 (i * 3 + 1)
    have c2 := World.var?_cell hg0 hv0 (i * 3 + 2)
    have k : ∀ j, j < 3 → cs0[i * 3 + j]? = ((cs0.toList.drop (i * 3)).take 3)[j]? := fun j hj => by
      rw [List.getElem?_take_of_lt hj, List.getElem?_drop, Array.getElem?_toList]
    have k0 := k 0 (by omega)
    have k1 := k 1 (by omega)
    have k2 := k 2 (by omega)
    rw [hcs] at k0 k1 k2
    rw [Nat.add_zero] at k0
    rw [c0, c1, c2, k0, k1, k2, e0, e1, e2]
    exact ⟨rfl, rfl, rfl⟩
  have hb : 0 < W.heap.size := World.block_lt_of_cell? W _ (key 0 (by omega)).1
  refine ⟨⟨by rw [length_rangesV, usual_len], Nat.le_refl _, by unfold maxLen; omega, fun _ => ⟨0, 0, rfl, by omega, fun j u hu => ?_⟩⟩, hb⟩
  have hj : j < 51 * 3 := by
    rcases Nat.lt_or_ge j (51 * 3) with h1 | h1
    · exact h1
    · rw [List.getElem?_eq_none (by rw [length_rangesV, usual_len]; exact h1)] at hu; cases hu
  have hi : j / 3 < 51 := by omega
  obtain ⟨h0, h1, h2⟩ := key (j / 3) hi
  obtain ⟨g0, g1, g2⟩ := rangesV_get (t := usualT) (i := j / 3) (by rw [usual_len]; exact hi)
  rw [Nat.zero_add]
  have hd : j = j / 3 * 3 ∨ j = j / 3 * 3 + 1 ∨ j = j / 3 * 3 + 2 := by omega
  generalize j / 3 = i at *
  rcases hd with rfl | rfl | rfl
  · rw [g0] at hu; rw [← hu]; simpa using h0
  · rw [g1] at hu; rw [← hu]; simpa using h1
  · rw [g2] at hu; rw [← hu]; simpa using h2
end Go.Proofs.YtkiggpbmlkfdpaaDoor
