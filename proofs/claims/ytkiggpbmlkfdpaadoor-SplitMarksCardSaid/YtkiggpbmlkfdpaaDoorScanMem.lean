/- The reader of scan in memory. -/
import Derived.Test.YtkiggpbmlkfdpaaDoorScanRefLaw
import Derived.Test.YtkiggpbmlkfdpaaDoorUtfDecode
import Derived.Test.YtkiggpbmlkfdpaaDoorClsOf
import Derived.Test.YtkiggpbmlkfdpaaDoorClsSpace
import Derived.Test.YtkiggpbmlkfdpaaDoorMem
namespace Go.Proofs.YtkiggpbmlkfdpaaDoor
open Go.RowKit
set_option linter.unusedVariables false

/-- The cells of points. -/
def ptCells (p : Pt) : List Value := [.int .i64 p.code, .int .i64 p.cls, .int .i64 (p.n : Int), .bool p.sure]
def ptsV (ps : List Pt) : List Value := ps.flatMap ptCells
theorem ptsV_cons (p : Pt) (r : List Pt) : ptsV (p :: r) = .int .i64 p.code :: .int .i64 p.cls :: .int .i64 (p.n : Int) :: .bool p.sure :: ptsV r := rfl
theorem ptsV_app (a b : List Pt) : ptsV (a ++ b) = ptsV a ++ ptsV b := by unfold ptsV; exact List.flatMap_append
theorem length_ptsV : ∀ ps : List Pt, (ptsV ps).length = ps.length * 4
  | [] => rfl
  | p :: r => by rw [ptsV_cons]; simp only [List.length_cons]; rw [length_ptsV r]; omega
theorem ptsV_get : ∀ {ps : List Pt} {i : Nat} (h : i < ps.length), (ptsV ps)[i * 4]? = some (.int .i64 ps[i].code) ∧ (ptsV ps)[i * 4 + 1]? = some (.int .i64 ps[i].cls) ∧ (ptsV ps)[i * 4 + 2]? = some (.int .i64 (ps[i].n : Int)) ∧ (ptsV ps)[i * 4 + 3]? = some (.bool ps[i].sure)
  | p :: r, 0, _ => ⟨rfl, rfl, rfl, rfl⟩
  | p :: r, i + 1, h => by
    have := ptsV_get (ps := r) (i := i) (by simp only [List.length_cons] at h; omega)
    rw [ptsV_cons, show (i + 1) * 4 = i * 4 + 4 by omega]
    exact this
theorem one_pts : ∀ {ps : List Pt}, ∀ u ∈ ptsV ps, u.oneCell' = true
  | [], u, h => by simp [ptsV] at h
  | x :: r, u, h => by
    rw [ptsV_cons] at h
    simp only [List.mem_cons] at h
    rcases h with rfl | rfl | rfl | rfl | h
    · rfl
    · rfl
    · rfl
    · rfl
    · exact one_pts u h
theorem infoPt : (Tryd.prog.info? 66).map (fun i => (i.zero, i.size, i.bytes)) = some (some (.agg #[.int .i64 0, .int .i64 0, .int .i64 0, .bool false]), 4, 32) := by kernel_rfl
/-- The reader's block, and what lies behind it: so many points read. -/
structure RdSt (w : World) (B q : Nat) (t : List Rg) (ps : List Pt) (wide : Bool) (k : Nat) (A : Option Addr) (n c : Nat) (At : Option Addr) (nt ct : Nat) (Ar : Option Addr) (cr : Nat) (op : Bool) (rest : List UInt8) : Prop where
  blk : w.heap[q]? = some (.cells #[.slice A n c, .slice At nt ct, .slice Ar k cr, .bool op, .bool wide] 61 (0, 0))
  rst : BytesAt w B A n c rest
  tab : RangesAt w B At nt ct t
  row : w.ownsRow (q + 1) 66 4 (.slice Ar k cr) k (ptsV (ps.take k))
  pts : ps = ps.take k ++ (if op = true then rest.map (fun _ => openPt) else ptsOf t rest)
  low : B ≤ q
  len : k ≤ ps.length
  few : ps.length ≤ 1000 ∧ nt ≤ 1000
section
variable {w w' : World} {B q k n c nt ct cr : Nat} {t : List Rg} {ps : List Pt} {wide op : Bool} {A At Ar : Option Addr} {rest : List UInt8}
theorem RdSt.lt (h : RdSt w B q t ps wide k A n c At nt ct Ar cr op rest) : q < w.heap.size := (Array.getElem?_eq_some_iff.1 h.blk).1
theorem RdSt.reads (h : RdSt w B q t ps wide k A n c At nt ct Ar cr op rest) : w.cell? ⟨q, 0, none⟩ = some (.slice A n c) ∧ w.cell? ⟨q, 1, none⟩ = some (.slice At nt ct) ∧ w.cell? ⟨q, 2, none⟩ = some (.slice Ar k cr) ∧ w.cell? ⟨q, 3, none⟩ = some (.bool op) ∧ w.cell? ⟨q, 4, none⟩ = some (.bool wide) :=
  ⟨Lib.cell_of_heap h.blk 0, Lib.cell_of_heap h.blk 1, Lib.cell_of_heap h.blk 2, Lib.cell_of_heap h.blk 3, Lib.cell_of_heap h.blk 4⟩
theorem RdSt.frees (h : RdSt w B q t ps wide k A n c At nt ct Ar cr op rest) : w.frozen? ⟨q, 0, none⟩ = false ∧ w.frozen? ⟨q, 2, none⟩ = false ∧ w.frozen? ⟨q, 3, none⟩ = false :=
  ⟨Lib.frozen_of_heap h.blk 0, Lib.frozen_of_heap h.blk 2, Lib.frozen_of_heap h.blk 3⟩
theorem RdSt.later (h : RdSt w B q t ps wide k A n c At nt ct Ar cr op rest) (hb : Below w.heap.size w w') : RdSt w' B q t ps wide k A n c At nt ct Ar cr op rest :=
  ⟨(hb.block q h.lt).trans h.blk, RowAt.below h.rst (hb.mono (by have := h.lt; have := h.low; omega)), RowAt.below h.tab (hb.mono (by have := h.lt; have := h.low; omega)), own_kept h.row hb (Nat.le_refl _), h.pts, h.low, h.len, h.few⟩
end
def RdAt (w : World) (B q : Nat) (t : List Rg) (ps : List Pt) (wide : Bool) (k : Nat) : Prop :=
  ∃ A n c At nt ct Ar cr op rest, RdSt w B q t ps wide k A n c At nt ct Ar cr op rest
theorem RdAt.later {w w' : World} {B q k : Nat} {t : List Rg} {ps : List Pt} {wide : Bool} (h : RdAt w B q t ps wide k) (hb : Below w.heap.size w w') : RdAt w' B q t ps wide k := by
  obtain ⟨A, n, c, At, nt, ct, Ar, cr, op, rest, h⟩ := h
  exact ⟨A, n, c, At, nt, ct, Ar, cr, op, rest, h.later hb⟩
/-- A row of another type keeps a block. -/
theorem rgrown_block {w w' : World} {b0 b : Nat} {e t : TypeId} {s n : Nat} {v : Value} {xs : List Value} {cs : Array Value} (ho : w.ownsRow b0 e s v n xs) (hg : w.grownBy w' v.ownBlock) (hb : w.heap[b]? = some (.cells cs t (0, 0))) (he : e ≠ t) : w'.heap[b]? = some (.cells cs t (0, 0)) := by
  rw [hg.block b (Array.getElem?_eq_some_iff.1 hb).1 (fun h => ?_)]
  · exact hb
  · rcases ho.2 with ⟨rfl, _⟩ | ⟨q, cap, cur, rfl, _, hh, _⟩
    · cases h
    · simp only [Value.ownBlock, Option.some.injEq] at h
      subst h
      rw [hh] at hb
      injection hb with hb
      injection hb with _ ht
      exact he ht
/-- What is unlike behind a step of the reader: its block, its row's, and new ones. -/
structure Fr (q : Nat) (w w' : World) (v v' : Value) : Prop where
  low : Below q w w'
  oth : ∀ b, b < w.heap.size → b ≠ q → v.ownBlock ≠ some b → w'.heap[b]? = w.heap[b]?
  row : v'.ownBlock = v.ownBlock ∨ ∃ x, v'.ownBlock = some x ∧ w.heap.size ≤ x
/-- The state behind one point more. -/
def MoreTo (B q : Nat) (t : List Rg) (ps : List Pt) (wide : Bool) (k : Nat) (Ar : Option Addr) (cr : Nat) (w : World) (e : Ending) (w' : World) : Prop :=
  e = .returned (.bool true) ∧ ∃ A n c At nt ct Ar' cr' op rest, RdSt w' B q t ps wide (k + 1) A n c At nt ct Ar' cr' op rest ∧ Fr q w w' (.slice Ar k cr) (.slice Ar' (k + 1) cr')
/-- A new block of one point. -/
theorem pt_block {w : World} {g : Nat} {p : Pt} (h : w.heap[g]? = some (.cells (ptCells p).toArray 66 (0, 0))) : ∀ j u, (ptCells p)[j]? = some u → w.cell? ((⟨g, 0, none⟩ : Addr).add j) = some u := fun j u hu => by
  rw [addr_plus, Nat.zero_add, Lib.cell_of_heap h j]
  simpa using hu
theorem take_more {ps : List Pt} {k : Nat} {p : Pt} {r : List Pt} (h : ps = ps.take k ++ p :: r) (hk : k ≤ ps.length) : k < ps.length ∧ ps.take (k + 1) = ps.take k ++ [p] ∧ ps = ps.take (k + 1) ++ r := by
  have hl := congrArg List.length h
  rw [List.length_append, List.length_take, List.length_cons] at hl
  have hlt : k < ps.length := by omega
  have hp : ps[k]? = some p := by
    rw [h, List.getElem?_append_right (by rw [List.length_take]; omega), List.length_take, Nat.min_eq_left (by omega), Nat.sub_self]
    rfl
  have h2 : ps.take (k + 1) = ps.take k ++ [p] := by rw [List.take_add_one, hp]; rfl
  refine ⟨hlt, h2, ?_⟩
  rw [h2, List.append_assoc]
  exact h
theorem rheap_set {w : World} {g j : Nat} {t : TypeId} {u : Value} {cs : Array Value} (hg : w.heap[g]? = some (.cells cs t (0, 0))) : (w.setCell ⟨g, j, none⟩ u).heap[g]? = some (.cells (cs.setIfInBounds j u) t (0, 0)) := by
  simp [World.setCell, Array.getElem?_modify, hg]
theorem rown_set {w : World} {b0 g j : Nat} {e t : TypeId} {s n : Nat} {v u : Value} {xs : List Value} {cs : Array Value} (ho : w.ownsRow b0 e s v n xs) (hg : w.heap[g]? = some (.cells cs t (0, 0))) (he : e ≠ t) : (w.setCell ⟨g, j, none⟩ u).ownsRow b0 e s v n xs := by
  refine ⟨ho.1, ?_⟩
  rcases ho.2 with h | ⟨q, cap, cur, rfl, hb, hh, rest⟩
  · exact .inl h
  · refine .inr ⟨q, cap, cur, rfl, hb, ?_, rest⟩
    have hne : q ≠ g := by
      rintro rfl
      rw [hh] at hg
      injection hg with hg
      injection hg with _ ht
      exact he ht
    exact (Below.heap_setCell w ⟨g, j, none⟩ u q hne).trans hh
section
variable {w w5 : World} {B q k n c n2 c2 nt ct cr g cap : Nat} {t : List Rg} {ps : List Pt} {wide op op5 : Bool} {A A2 At Ar : Option Addr} {rest rest2 : List UInt8}
/-- Behind the append: the two stores. -/
theorem close_more (H0 : RdSt w B q t ps wide k A n c At nt ct Ar cr op rest)
    (W5 : w5.heap[q]? = some (.cells #[.slice A n c, .slice At nt ct, .slice Ar k cr, .bool op5, .bool wide] 61 (0, 0)))
    (O5 : w5.ownsRow (q + 1) 66 4 (.slice (some ⟨g, 0, none⟩) (k + 1) cap) (k + 1) (ptsV (ps.take (k + 1)))) (F5 : Fr q w w5 (.slice Ar k cr) (.slice (some ⟨g, 0, none⟩) (k + 1) cap))
    (R2 : BytesAt w B A2 n2 c2 rest2) (P2 : ps = ps.take (k + 1) ++ (if op5 = true then rest2.map (fun _ => openPt) else ptsOf t rest2)) (hk : k + 1 ≤ ps.length) :
    MoreTo B q t ps wide k Ar cr w (.returned (.bool true)) ((w5.setCell ⟨q, 2, none⟩ (.slice (some ⟨g, 0, none⟩) (k + 1) cap)).setCell ⟨q, 0, none⟩ (.slice A2 n2 c2)) := by
  have W6 := rheap_set (j := 2) (u := .slice (some ⟨g, 0, none⟩) (k + 1) cap) W5
  have W7 := rheap_set (j := 0) (u := .slice A2 n2 c2) W6
  have L7 : Below q w ((w5.setCell ⟨q, 2, none⟩ (.slice (some ⟨g, 0, none⟩) (k + 1) cap)).setCell ⟨q, 0, none⟩ (.slice A2 n2 c2)) := (F5.low.setCell (p := ⟨q, 2, none⟩) (Nat.le_refl _) _).setCell (p := ⟨q, 0, none⟩) (Nat.le_refl _) _
  have low := H0.low
  refine ⟨rfl, A2, n2, c2, At, nt, ct, some ⟨g, 0, none⟩, cap, op5, rest2, ⟨W7, RowAt.below R2 (L7.mono low), RowAt.below H0.tab (L7.mono low), rown_set (rown_set O5 W5 (by decide)) W6 (by decide), P2, low, hk, H0.few⟩, L7, fun b hb hq hv => ?_, F5.row⟩
  exact ((Below.heap_setCell _ ⟨q, 0, none⟩ _ b hq).trans (Below.heap_setCell _ ⟨q, 2, none⟩ _ b hq)).trans (F5.oth b hb hq hv)
/-- The flag set. -/
theorem RdSt.opened (h : RdSt w B q t ps wide k A n c At nt ct Ar cr false rest) (hr : rest ≠ []) (hd : (dec rest false).2.2 = true) : RdSt (w.setCell ⟨q, 3, none⟩ (.bool true)) B q t ps wide k A n c At nt ct Ar cr true rest := by
  refine ⟨rheap_set h.blk, RowAt.setCell h.rst (p := ⟨q, 3, none⟩) h.low _, RowAt.setCell h.tab (p := ⟨q, 3, none⟩) h.low _, rown_set h.row h.blk (by decide), ?_, h.low, h.len, h.few⟩
  rw [if_pos rfl]
  have := h.pts
  rw [if_neg (by decide), pts_more hr hd] at this
  exact this
theorem Fr.append {w1 : World} {v : Value} {o : Obj} {H : Nat} (hg : (w.alloc o).grownBy w1 v.ownBlock) (hq : q < w.heap.size) (hl : ∀ b, v.ownBlock = some b → q ≤ b) (hH : (w.alloc o).heap.size = H) (hat : v.ownBlock = some g ∨ g = H) {m : Nat} : Fr q w w1 v (.slice (some ⟨g, 0, none⟩) m cap) := by
  refine ⟨?_, fun b hb hne hv => ?_, ?_⟩
  · refine ((Below.refl q w).alloc (Nat.le_of_lt hq) _).grown hg (by simp; omega) hl
  · exact (hg.block b (by simp; omega) (fun e => hv e.symm)).trans (Below.heap_alloc _ _ _ hb)
  · rcases hat with h | h
    · left; rw [h]; rfl
    · right; refine ⟨g, rfl, ?_⟩; rw [h, ← hH]; simp
theorem Fr.mk0 {w1 : World} {v v' : Value} (h : Fr q w1 w5 v v') (hb : Below w.heap.size w w1) (hq : q < w.heap.size) : Fr q w w5 v v' := by
  refine ⟨(hb.mono (Nat.le_of_lt hq)).trans h.low, fun b hb' hne hv => (h.oth b (by have := hb.size; omega) hne hv).trans (hb.block b hb'), ?_⟩
  rcases h.row with h1 | ⟨x, h1, h2⟩
  · exact .inl h1
  · exact .inr ⟨x, h1, by have := hb.size; omega⟩
theorem Fr.set0 {v v' : Value} {u : Value} (h : Fr q (w.setCell ⟨q, 3, none⟩ u) w5 v v') : Fr q w w5 v v' := by
  refine ⟨((Below.refl q w).setCell (p := ⟨q, 3, none⟩) (Nat.le_refl _) u).trans h.low, fun b hb' hne hv => (h.oth b (by simpa using hb') hne hv).trans (Below.heap_setCell _ ⟨q, 3, none⟩ _ b hne), ?_⟩
  rcases h.row with h1 | ⟨x, h1, h2⟩
  · exact .inl h1
  · exact .inr ⟨x, h1, by simpa using h2⟩
theorem MoreTo.set0 {e : Ending} (h : MoreTo B q t ps wide k Ar cr (w.setCell ⟨q, 3, none⟩ (.bool true)) e w5) : MoreTo B q t ps wide k Ar cr w e w5 := by
  obtain ⟨he, A, n, c, At, nt, ct, Ar', cr', op, rest, h1, h2⟩ := h
  exact ⟨he, A, n, c, At, nt, ct, Ar', cr', op, rest, h1, h2.set0⟩
end
end Go.Proofs.YtkiggpbmlkfdpaaDoor
