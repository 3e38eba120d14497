/- Split in memory: the boxes of its pieces and of whether all are decided, a run. -/
import Derived.Test.YtkiggpbmlkfdpaaDoorSplitRuns
import Derived.RangeFuncNested
import Derived.Deep.Onto
namespace Go.Proofs.YtkiggpbmlkfdpaaDoor
open Go.RowKit
set_option linter.unusedVariables false

/-- The cells of pieces. -/
def pieceV (l : List (Nat × Bool)) : List Value := l.flatMap fun x => [.int .i64 (x.1 : Int), .bool x.2]
theorem length_pieceV (l : List (Nat × Bool)) : (pieceV l).length = l.length * 2 := by
  induction l with
  | nil => rfl
  | cons x l ih => simp only [pieceV, List.flatMap_cons, List.length_append, List.length_cons, List.length_nil] at ih ⊢; omega
theorem pieceV_snoc (l : List (Nat × Bool)) (n : Nat) (d : Bool) : pieceV (l ++ [(n, d)]) = pieceV l ++ [.int .i64 (n : Int), .bool d] := by simp [pieceV]
theorem infoPiece : (Tryd.prog.info? 44).map (fun i => (i.zero, i.size, i.bytes)) = some (some (.agg #[.int .i64 0, .bool false]), 2, 16) := by kernel_rfl
/-- The box of the pieces, the box behind it, and all below them. -/
structure SpSt (S : Nat) (W0 W : World) (p : List (Nat × Bool)) (s : Bool) : Prop where
  box : ∃ v, Boxed W S 41 v ∧ W.ownsRow (S + 3) 44 2 v p.length (pieceV p)
  sure : Boxed W (S + 1) 4 (.bool s)
  low : Below S W0 W
  big : S + 3 ≤ W.heap.size
theorem own_rowP {W : World} {B : Nat} {v : Value} {n : Nat} {xs : List Value} (h : W.ownsRow B 44 2 v n xs) : ∀ r, v.ownBlock = some r → B ≤ r ∧ ∃ cs f, W.heap[r]? = some (.cells cs 44 f) := by
  intro r hr
  rcases h.2 with ⟨rfl, _⟩ | ⟨g, cap, cur, rfl, hb, hgb, _⟩
  · simp [Value.ownBlock] at hr
  · obtain rfl : g = r := by simpa [Value.ownBlock] using hr
    exact ⟨hb, _, _, hgb⟩
section
variable {S : Nat} {W0 W W' : World} {p : List (Nat × Bool)} {s : Bool}
theorem SpSt.turn (h : SpSt S W0 W p s) {row : Option Nat} (hg : W.grownBy W' row) (hr : ∀ r, row = some r → S + 3 ≤ r ∧ ∃ o, W.heap[r]? = some o ∧ ∀ cs f, o ≠ Obj.cells cs 44 f) : SpSt S W0 W' p s := by
  obtain ⟨v, hv, ho⟩ := h.box
  refine ⟨⟨v, hv.kept hg (fun e => by have := (hr _ e.symm).1; omega), ho.kept hg ?_⟩, h.sure.kept hg (fun e => by have := (hr _ e.symm).1; omega), h.low.grown hg (by have := h.big; omega) (fun r e => by have := (hr r e).1; omega), Nat.le_trans h.big hg.size⟩
  cases hb : v.ownBlock with
  | none => exact .inl rfl
  | some g =>
    right
    intro e
    obtain ⟨_, cs, f, hc⟩ := own_rowP ho g hb
    obtain ⟨_, o, hk, hne⟩ := hr g e.symm
    rw [hc] at hk
    injection hk with hk
    exact hne _ _ hk.symm
theorem SpSt.below (h : SpSt S W0 W p s) (hb : Below W.heap.size W W') : SpSt S W0 W' p s := by
  obtain ⟨v, hv, ho⟩ := h.box
  have hz := hb.size
  refine ⟨⟨v, (hb.block S hv.lt).trans hv, own_kept ho hb (Nat.le_refl _)⟩, (hb.block _ h.sure.lt).trans h.sure, h.low.trans (hb.mono (by have := h.big; omega)), Nat.le_trans h.big hz⟩
theorem SpSt.set (h : SpSt S W0 W p s) (b : Bool) : SpSt S W0 (W.setCell ⟨S + 1, 0, none⟩ (.bool b)) p b := by
  obtain ⟨v, hv, ho⟩ := h.box
  refine ⟨⟨v, hv.other (by omega) _, ho.kept (grownBy_setCell' W (S + 1) _) ?_⟩, h.sure.set _, h.low.setCell (by show S ≤ S + 1; omega) _, ?_⟩
  · cases hb : v.ownBlock with
    | none => exact .inl rfl
    | some g => right; intro e; have := (own_rowP ho g hb).1; injection e with e; omega
  · have := (grownBy_setCell' W (S + 1) (.bool b)).size; have := h.big; omega
theorem SpSt.set_box (h : SpSt S W0 W p s) (b : Bool) {v : Value} (hv : Boxed W S 41 v) (ho : W.ownsRow (S + 3) 44 2 v p.length (pieceV p)) :
    Boxed (W.setCell ⟨S + 1, 0, none⟩ (.bool b)) S 41 v ∧ (W.setCell ⟨S + 1, 0, none⟩ (.bool b)).ownsRow (S + 3) 44 2 v p.length (pieceV p) := by
  refine ⟨hv.other (by omega) _, ho.kept (grownBy_setCell' W (S + 1) _) ?_⟩
  cases hb : v.ownBlock with
  | none => exact .inl rfl
  | some g => right; intro e; have := (own_rowP ho g hb).1; injection e with e; omega
/-- What an append to the pieces has left behind, and the store of the new slice. -/
theorem SpSt.push (h : SpSt S W0 W p s) {v v' : Value} {w1 : World} {n : Nat} {d : Bool} {ct : Array Value} (hv : Boxed W S 41 v) (ho : W.ownsRow (S + 3) 44 2 v p.length (pieceV p))
    (hown' : w1.ownsRow (S + 3) 44 2 v' (p.length + 1) (pieceV p ++ [.int .i64 (n : Int), .bool d])) (hgrow : (W.alloc (.cells ct 44)).grownBy w1 v.ownBlock) :
    Boxed w1 S 41 v ∧ SpSt S W0 (w1.setCell ⟨S, 0, none⟩ v') (p ++ [(n, d)]) s ∧ KeepsOthers W (w1.setCell ⟨S, 0, none⟩ v') ∧ W.heap.size ≤ (w1.setCell ⟨S, 0, none⟩ v').heap.size ∧
    (∀ g cs f, S + 3 ≤ g → W.heap[g]? = some (.cells cs 5 f) → (w1.setCell ⟨S, 0, none⟩ v').heap[g]? = some (.cells cs 5 f)) := by
  obtain ⟨a1, a2, a3, a4, a5⟩ := hv.appended (n₀ := S) (by decide) (World.ownsRow.mono ho (by omega)) (by have := h.big; omega) (Nat.le_refl _) (World.ownsRow.mono hown' (by omega)) hgrow
  have hz1 := hgrow.size
  rw [World.size_alloc] at hz1
  have hz2 := (grownBy_setCell' w1 S v').size
  have hne : ∀ r, v.ownBlock = some r → S + 3 ≤ r := fun r e => (own_rowP ho r e).1
  refine ⟨a1, ⟨⟨v', a2, ?_⟩, ?_, h.low.trans a5, by have := h.big; omega⟩, a4, by omega, ?_⟩
  · rw [List.length_append, pieceV_snoc]
    refine hown'.kept (grownBy_setCell' w1 S v') ?_
    cases hb : v'.ownBlock with
    | none => exact .inl rfl
    | some g => right; intro e; have := (own_rowP hown' g hb).1; injection e with e; omega
  · have h1 : Boxed w1 (S + 1) 4 (.bool s) := (h.sure.alloc _).kept hgrow (fun e => by have := hne _ e.symm; omega)
    exact h1.other (by omega) _
  · intro g cs f hg hk
    have hlt := (Array.getElem?_eq_some_iff.1 hk).1
    have h1 : (W.alloc (.cells ct 44)).heap[g]? = some (.cells cs 5 f) := (Below.heap_alloc W _ g hlt).trans hk
    have h2 : w1.heap[g]? = some (.cells cs 5 f) := (hgrow.block g (by rw [World.size_alloc]; omega) (fun e => by
      obtain ⟨_, cs2, f2, hc⟩ := own_rowP (ho.alloc (.cells ct 44)) g e.symm
      rw [h1] at hc
      injection hc with hc
      injection hc with _ hc
      exact absurd hc (by decide))).trans h1
    exact ((grownBy_setCell' w1 S v').block g (Array.getElem?_eq_some_iff.1 h2).1 (fun e => by injection e with e; omega)).trans h2
end
/-- A run in a row of bytes of the iterator's own. -/
def RunAt (W : World) (B : Nat) (A : Option Addr) (n c : Nat) (l : List UInt8) : Prop :=
  BytesAt W W.heap.size A n c l ∧ (0 < n → ∃ g off cs f, A = some ⟨g, off, none⟩ ∧ B ≤ g ∧ W.heap[g]? = some (.cells cs 5 f))
section
variable {W W' : World} {B n c : Nat} {A : Option Addr} {l : List UInt8}
theorem RunAt.of_own (h : W.ownsRow B 5 1 (.slice A n c) n (bytesV l)) : RunAt W B A n c l := by
  refine ⟨RowAt.of_own h, fun hn => ?_⟩
  rcases h.2 with ⟨_, h0⟩ | ⟨g, cap, cur, hv, hb, hgb, _⟩
  · omega
  · injection hv with hA
    exact ⟨g, 0, _, _, hA, hb, hgb⟩
theorem RunAt.keep (h : RunAt W B A n c l) (hz : W.heap.size ≤ W'.heap.size) (hk : ∀ g cs f, B ≤ g → W.heap[g]? = some (.cells cs 5 f) → W'.heap[g]? = some (.cells cs 5 f)) : RunAt W' B A n c l := by
  refine ⟨⟨h.1.1, h.1.2.1, h.1.2.2.1, fun hn => ?_⟩, fun hn => ?_⟩
  · obtain ⟨g, off, cs, f, rfl, hB, hg⟩ := h.2 hn
    obtain ⟨b, o2, e, hb, hc⟩ := h.1.2.2.2 hn
    injection e with e
    injection e with e1 e2
    subst e1 e2
    refine ⟨_, _, rfl, by omega, fun j u hu => ?_⟩
    rw [← hc j u hu]
    exact World.cell?_of_block (by rw [hk _ _ _ hB hg, hg])
  · obtain ⟨g, off, cs, f, hA, hB, hg⟩ := h.2 hn
    exact ⟨g, off, cs, f, hA, hB, hk _ _ _ hB hg⟩
theorem RunAt.from_ (h : RunAt W B A n c l) {k : Nat} (hk : k ≤ n) : RunAt W B (if c = k then A else A.map (·.add k)) (n - k) (c - k) (l.drop k) := by
  refine ⟨h.1.from_ hk, fun hn => ?_⟩
  obtain ⟨g, off, cs, f, rfl, hB, hg⟩ := h.2 (by omega)
  have := h.1.2.1
  rw [if_neg (by omega)]
  exact ⟨g, off + k, cs, f, congrArg some (addr_plus g off k), hB, hg⟩
theorem RunAt.below (h : RunAt W B A n c l) (hb : Below W.heap.size W W') : RunAt W' B A n c l :=
  h.keep hb.size (fun g cs f _ hg => (hb.block g (Array.getElem?_eq_some_iff.1 hg).1).trans hg)
theorem RunAt.set (h : RunAt W B A n c l) {b : Nat} (hb : b < B) (v : Value) : RunAt (W.setCell ⟨b, 0, none⟩ v) B A n c l :=
  h.keep (grownBy_setCell' W b v).size (fun g cs f hB hg => ((grownBy_setCell' W b v).block g (Array.getElem?_eq_some_iff.1 hg).1 (fun e => by injection e with e; omega)).trans hg)
end
theorem cell_two_new (w : World) (e : TypeId) (a b : Value) (g : Nat) (hg : w.heap.size = g) : ∀ j u, ([a, b] : List Value)[j]? = some u → (w.alloc (.cells #[a, b] e)).cell? ((⟨g, 0, none⟩ : Addr).add j) = some u := by
  subst hg
  intro j u hu
  rw [addr_plus, Nat.zero_add]
  have hc : (w.alloc (.cells #[a, b] e)).heap[w.heap.size]? = some (.cells #[a, b] e (0, 0)) := World.alloc_heap_new _ _
  unfold World.cell?
  rw [hc]
  simpa using hu
theorem KeepsOthers.below {W W' : World} (h : Below W.heap.size W W') : KeepsOthers W W' :=
  ⟨h.size, fun k o hk _ => (h.block k (Array.getElem?_eq_some_iff.1 hk).1).trans hk⟩
end Go.Proofs.YtkiggpbmlkfdpaaDoor
