/- A range over an iterator that writes rows of its own between its rounds: the caller's and the iterator's invariant told as one; no round leaves the loop. -/
import Derived.RangeFuncBox
import Derived.RangeFuncLeaves
import Derived.RangeFuncBound
import Derived.RangeFuncCalls
import Derived.RangeFuncFrom
import Derived.Deep.Draws
import Derived.Test.YtkiggpbmlkfdpaaDoorProg
namespace Go.Proofs.YtkiggpbmlkfdpaaDoor
open Go.RowKit
set_option linter.unusedVariables false
variable {F : Fence} {n : Nat} {P : Program}

/-- Nothing but cells turns. -/
def CellsTurn (Bk : World → Prop) : Prop :=
  ∀ W W' row, Bk W → W.grownBy W' row → (∀ r, row = some r → ∃ o : Obj, W.heap[r]? = some o ∧ o.isCells = true) → Bk W'
theorem CellsTurn.drewN {Bk : World → Prop} (h : CellsTurn Bk) {W : World} (hb : Bk W) (k : Nat) : Bk (W.drewN k) :=
  h W _ none hb ⟨rfl, rfl, rfl, Nat.le_refl _, fun _ _ _ => rfl⟩ (fun r e => by cases e)
theorem CellsTurn.others {Bk : World → Prop} (h : CellsTurn Bk) {W W' : World} {row : Option Nat} (hb : Bk W) (hg : W.grownBy W' row) (hr : ∀ r, row = some r → ∃ o : Obj, W.heap[r]? = some o ∧ o.isCells = true) : Bk W' := h W W' row hb hg hr
theorem kept_cells {W W' : World} {row : Option Nat} (hg : W.grownBy W' row) (hr : ∀ r, row = some r → ∃ o : Obj, W.heap[r]? = some o ∧ o.isCells = true) {k : Nat} {o : Obj} (hk : W.heap[k]? = some o) (ho : o.isCells = false) : W'.heap[k]? = some o := by
  refine (hg.block k (Array.getElem?_eq_some_iff.1 hk).1 (fun e => ?_)).trans hk
  obtain ⟨o', h1, h2⟩ := hr k e.symm
  rw [hk] at h1
  injection h1 with h1
  subst h1
  rw [ho] at h2
  cases h2
/-- A loop's block and the block of its deferred calls, kept by all that turns cells alone. -/
theorem cellsTurn_two (l d : Nat) (ol od : Obj) (hl : ol.isCells = false) (hd : od.isCells = false) : CellsTurn (fun W => W.heap[l]? = some ol ∧ W.heap[d]? = some od) :=
  fun W W' row h hg hr => ⟨kept_cells hg hr h.1 hl, kept_cells hg hr h.2 hd⟩

/-- How the body ends: it goes on. -/
def onPost {α : Type} (Z : α → World → Prop) (x : α) (W : World) : Exit → Act → World → Prop
  | .normal, _, W' => KeepsOthers W W' ∧ Z x W'
  | _, _, _ => False

theorem wpIn_range_joint {α : Type} {g : Operand} {ps : Array Tmp} {assign body : Code} {Q : Exit → Act → World → Prop} {a : Act} {w : World}
    (hro : F.round = none) (h1 : 1 ≤ n) {gf : Nat} {lb : Array Value} (hg : a.eval g = .func (.func gf) #[] lb) (hFg : F.fn gf) (eg : ∀ args w, (callFunc gf args).run P w = .ok (.enter gf args) w)
    {encs : α → Array Value} (hps : ∀ x, (encs x).size = ps.size) (Y Z : α → World → Prop) (E : World → Prop)
    (hY : OwnFrom w.heap.size Y) (hZ : OwnFrom w.heap.size Z) (hE : OwnFrom w.heap.size (fun (_ : Unit) W => E W))
    (hseq : ∀ (l : Nat) (Bk : World → Prop) (o o' : Obj), CellsTurn Bk → Bk ((w.alloc o).alloc o') →
      (∀ x W1, Y x W1 → Bk W1 → YieldAt F (n - 1 - 1) P l (encs x) W1 fun e W' => e = .returned (.bool true) ∧ Z x W' ∧ Bk W') →
      CallsIn F (n - 1) P gf (#[.func (.yield l) #[] #[]] ++ lb) ((w.alloc o).alloc o') fun e W' => (∃ v, e = .returned v) ∧ E W' ∧ Bk W')
    (a₁ : α → Act)
    (hassign : ∀ (l : Nat) (x : α) (W : World) (K : Act → World → Prop), K (a₁ x) W →
      assign.wpIn (F.inRound l) (n - 1 - 1) P (Exit.then K (fun _ _ _ => False)) { tmps := (ps.zip (encs x)).foldl (fun t (p, v) => t.setIfInBounds p v) a.tmps, defers := [] } W)
    (hbody : ∀ (l : Nat) (x : α) (W : World), Y x W → body.wpIn (F.inRound l) (n - 1 - 1) P (onPost Z x W) (a₁ x) W)
    (hdone : ∀ (D : Nat) (W : World), w.heap.size ≤ D → E W → W.heap[D]? = some (.deferred (some [])) → Q .normal { a with defers := { target := .collected D, args := #[] } :: a.defers } W) :
    (Code.rangeFunc g ps assign body).wpIn F n P Q a w := by
  refine wpIn_rangeFunc fun fn hfn => ?_
  rw [hro]
  obtain ⟨rec, hrec⟩ : ∃ rec : LoopState → Loop, rec = fun st => { state := st, pending := none, fn, tmps := a.tmps, params := ps, assign, body, defers := w.heap.size } := ⟨_, rfl⟩
  have hL : ((w.alloc (.deferred (some []))).alloc (.loop (rec .ready))).heap[w.heap.size + 1]? = some (.loop (rec .ready)) := by
    have := World.alloc_heap_new (w.alloc (.deferred (some []))) (.loop (rec .ready)); rwa [World.size_alloc] at this
  have hD : ((w.alloc (.deferred (some []))).alloc (.loop (rec .ready))).heap[w.heap.size]? = some (.deferred (some [])) :=
    (Below.heap_alloc _ _ _ (by simp)).trans (World.alloc_heap_new w _)
  refine ⟨w.heap.size + 1, [{ target := .collected w.heap.size, args := #[] }], (w.alloc (.deferred (some []))).alloc (.loop (rec .ready)), { target := .fn (.func gf) lb, args := #[.func (.yield (w.heap.size + 1)) #[] #[]] }, (w.alloc (.deferred (some []))).alloc (.loop (rec .ready)), gf, #[.func (.yield (w.heap.size + 1)) #[] #[]] ++ lb, (w.alloc (.deferred (some []))).alloc (.loop (rec .ready)), ?_, ?_, ?_, ?_, fun _ => h1, ?_⟩
  · rw [hrec]; exact run_enterLoop_outer _ _ _ _ _
  · simp only [resolve, hg]
    simp [go_sem]
  · intro f' hf'
    simp [Target.leads] at hf'
    subst hf'
    exact hFg
  · simp [invoke, go_sem, eg]
  · refine (hseq (w.heap.size + 1) (fun W => W.heap[w.heap.size + 1]? = some (.loop (rec .ready)) ∧ W.heap[w.heap.size]? = some (.deferred (some []))) _ _ (cellsTurn_two _ _ _ _ rfl rfl) ⟨hL, hD⟩ ?_).mono ?_
    · rintro x W hy ⟨hl, hk⟩
      have hlt : w.heap.size + 1 < W.heap.size := (Array.getElem?_eq_some_iff.1 hl).1
      have hyd := run_yield (P := P) (args := encs x) hl (by rw [hrec]; exact hps x)
      rw [hrec] at hyd
      refine ⟨fn, _, assign, body, hyd, roundIn_of_wpIn hfn (hassign _ x W _ ⟨_, run_beginRound hl (by rw [hrec]), ?_⟩)⟩
      obtain ⟨ob, hob⟩ : ∃ ob : Obj, ob = .loop { rec .ready with state := .busy } := ⟨_, rfl⟩
      rw [← hob]
      have hl2 : (W.putObj (w.heap.size + 1) ob).heap[w.heap.size + 1]? = some ob := World.putObj_heap_same hlt
      have hk2 : (W.putObj (w.heap.size + 1) ob).heap[w.heap.size]? = some (.deferred (some [])) := (World.putObj_heap_other (by omega)).trans hk
      refine wpIn_mono (hbody _ x _ (hY.putObj _ hy (by omega) hl rfl)) ?_
      rintro e a3 W3 hp
      cases e with
      | normal =>
        obtain ⟨hk3, hz⟩ := hp
        have hl3 := hk3.same _ _ hl2 (by rw [hob]; rfl)
        have hd3 := hk3.same _ _ hk2 rfl
        rw [hob] at hl3
        have hr := run_endRound (P := P) none hl3
        rw [hrec] at hr
        refine ⟨_, _, hr, rfl, hZ.putObj _ hz (by omega) hl3 rfl, ?_, ?_⟩
        · rw [hrec]; exact World.putObj_heap_same (Array.getElem?_eq_some_iff.1 hl3).1
        · exact (World.putObj_heap_other (by omega)).trans hd3
      | ret => exact hp.elim
      | exit id => exact hp.elim
      | goto t => exact hp.elim
      | panic ch => exact hp.elim
      | outgrown => exact hp.elim
    · rintro e W2 ⟨⟨v, rfl⟩, he, hl, hk⟩
      have hend := run_endLoop (P := P) hl (by rw [hrec]; simp)
      rw [hrec] at hend
      exact ⟨none, _, hend, hdone _ _ (Nat.le_refl _) (hE.putObj (s := ()) _ he (by omega) hl rfl) ((World.putObj_heap_other (by omega)).trans hk)⟩
end Go.Proofs.YtkiggpbmlkfdpaaDoor
