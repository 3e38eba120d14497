/- More words for memory: two rows of unlike types lie apart, a row kept below, a struct of two cells stored. -/
import Derived.Test.YtefhifmilmedhaaWords
namespace Go.Proofs.Ytefhifmilmedhaa
open Go.RowKit

theorem own_apart {w : World} {b1 b2 s1 s2 n1 n2 : Nat} {e1 e2 : TypeId} {v1 v2 : Value} {xs1 xs2 : List Value} (h1 : w.ownsRow b1 e1 s1 v1 n1 xs1) (h2 : w.ownsRow b2 e2 s2 v2 n2 xs2) (hne : e1 ≠ e2) : v1.ownBlock = none ∨ v1.ownBlock ≠ v2.ownBlock := by
  rcases h1.2 with ⟨rfl, _⟩ | ⟨g1, cap1, cur1, rfl, _, hh1, _⟩
  · left; rfl
  · right
    rcases h2.2 with ⟨rfl, _⟩ | ⟨g2, cap2, cur2, rfl, _, hh2, _⟩
    · simp [Value.ownBlock]
    · intro e
      simp only [Value.ownBlock, Option.some.injEq] at e
      subst e
      rw [hh1] at hh2
      injection hh2 with hh2
      injection hh2 with _ ht
      exact hne ht
theorem own_kept {B b k n : Nat} {e : TypeId} {v : Value} {xs : List Value} {w w' : World} (h : w.ownsRow b e k v n xs) (hb : Below B w w') (hB : w.heap.size ≤ B) : w'.ownsRow b e k v n xs :=
  h.kept (row := none) ⟨hb.os, hb.tape, hb.output, by have := hb.size; omega, fun i hi _ => hb.block i (by omega)⟩ (by cases v.ownBlock <;> simp)
theorem two_cells {w : World} {g : Nat} {a b : Value} (h0 : (w.cell? ⟨g, 0, none⟩).isSome = true) (h1 : (w.cell? ⟨g, 1, none⟩).isSome = true) :
    ((w.setCell ⟨g, 0, none⟩ a).setCell ⟨g, 1, none⟩ b).cell? ⟨g, 0, none⟩ = some a ∧ ((w.setCell ⟨g, 0, none⟩ a).setCell ⟨g, 1, none⟩ b).cell? ⟨g, 1, none⟩ = some b := by
  constructor
  · rw [World.cell?_setCell_other _ _ _ _ (by intro e; injection e with _ e; cases e)]
    exact World.cell?_setCell_same' _ _ _ h0
  · exact World.cell?_setCell_same' _ _ _ (by rw [World.cell?_setCell_other _ _ _ _ (by intro e; injection e with _ e; cases e)]; exact h1)
/-- A block of two cells, its reads. -/
theorem pair_reads {w : World} {g : Nat} {x y : Value} {t : TypeId} (h : w.heap[g]? = some (.cells #[x, y] t (0, 0))) :
    w.cell? ⟨g, 0, none⟩ = some x ∧ w.cell? ⟨g, 1, none⟩ = some y ∧ w.frozen? ⟨g, 0, none⟩ = false ∧ w.frozen? ⟨g, 1, none⟩ = false :=
  ⟨Lib.cell_of_heap h 0, Lib.cell_of_heap h 1, Lib.frozen_of_heap h 0, Lib.frozen_of_heap h 1⟩
/-- A new block of one element. -/
theorem new_row_at {w : World} {cs : Array Value} (l : List Value) (t : TypeId) {size g : Nat} (hc : cs = l.toArray) (hl : l.length = size) (hg : w.heap.size = g) : RowAt (w.alloc (.cells cs t)) (g + 1) size (some ⟨g, 0, none⟩) 1 1 l := by
  subst hc hg
  refine ⟨by omega, Nat.le_refl _, by unfold maxLen; omega, fun _ => ⟨w.heap.size, 0, rfl, by omega, fun j u hu => ?_⟩⟩
  have hc : (w.alloc (.cells l.toArray t)).heap[w.heap.size]? = some (.cells l.toArray t (0, 0)) := heap_alloc_new _ _
  rw [Nat.zero_add, Lib.cell_of_heap hc j, ← hu]
  simp
end Go.Proofs.Ytefhifmilmedhaa
