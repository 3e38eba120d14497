/- The plain law of scan: the document's points, one by one, and the memory that they lie in. -/
import Derived.Test.YtkiggpbmlkfdpaaDoorScanMem
import Derived.Test.YtkiggpbmlkfdpaaDoorUtfRefP
namespace Go.Proofs.YtkiggpbmlkfdpaaDoor
open Go.RowKit
set_option linter.unusedVariables false

theorem ptsLen (t : List Rg) : ∀ l : List UInt8, (ptsOf t l).length ≤ l.length := by
  refine pts_ind (Nat.le_refl _) (fun l h0 h => ?_) (fun l h0 h h1 h2 ih => ?_)
  · rw [pts_more h0 h, List.length_map]; exact Nat.le_refl _
  · rw [pts_one h0 h, List.length_cons]
    rw [List.length_drop] at ih
    omega
theorem rest_len (l : List UInt8) : restOf l ≤ l.length := (rest_le l.length l (Nat.le_refl _)).1
theorem rest_whole {l : List UInt8} (h0 : l ≠ []) (h : restOf l = l.length) : (dec l false).2.2 = true := by
  cases hm : (dec l false).2.2 with
  | true => rfl
  | false =>
    exfalso
    have hr := restOf_step (List.length_pos_iff.2 h0) (dec_trip hm)
    have hd := dec_nat h0 hm
    have := rest_len (l.drop (dec l false).2.1.toNat)
    rw [List.length_drop] at this
    omega
/-- What is left, and its points. -/
def PtRest (t : List Rg) (R : Nat) (rest : List UInt8) (tl : List Pt) : Prop :=
  (R < rest.length ∧ restOf rest = R ∧ tl = ptsOf t rest) ∨ (rest.length ≤ R ∧ tl = rest.map (fun _ => openPt) ∧ (rest = [] ∨ (dec rest false).2.2 = true ∨ ∀ x ∈ rest, 128 ≤ (x.toNat : Int) ∧ (x.toNat : Int) ≤ 191))
theorem ptRest_mk {t : List Rg} {R : Nat} {rest : List UInt8} (h : restOf rest = R) : PtRest t R rest (ptsOf t rest) := by
  rcases Nat.lt_or_ge R rest.length with h1 | h1
  · exact .inl ⟨h1, h, rfl⟩
  · by_cases h0 : rest = []
    · subst h0; exact .inr ⟨h1, rfl, .inl rfl⟩
    · have h2 := rest_whole h0 (by have := rest_len rest; omega)
      exact .inr ⟨h1, pts_more h0 h2, .inr (.inl h2)⟩
theorem of_open (t : List Rg) (hv : mayT t = true) : ofT (-1) t = 0 := by
  unfold mayT at hv
  rw [Bool.and_eq_true] at hv
  exact ofT_late hv.2 (Int.le_refl _)
theorem of_cls {t : List Rg} (hv : mayT t = true) (p : Int) : ofT p t = clsT t p := by unfold clsT; rw [if_pos hv]
/-- One point more of what is left. -/
theorem ptRest_step {t : List Rg} {R : Nat} {rest : List UInt8} {tl : List Pt} (hv : mayT t = true) (h : PtRest t R rest tl) (h0 : rest ≠ []) :
    ∃ (p : Int) (k : Nat) (tl2 : List Pt), dec rest true = (p, (k : Int), false) ∧ 1 ≤ k ∧ k ≤ rest.length ∧ tl = ⟨p, ofT p t, k, decide (R < rest.length)⟩ :: tl2 ∧ PtRest t R (rest.drop k) tl2 := by
  rcases h with ⟨h1, h2, h3⟩ | ⟨h1, h2, h3⟩
  · have hm : (dec rest false).2.2 = false := by
      cases hm : (dec rest false).2.2 with
      | false => rfl
      | true =>
        have := restOf_more (List.length_pos_iff.2 h0) (dec_trip hm)
        omega
    have hd := dec_nat h0 hm
    have ht := dec_trip hm
    have htt := dec_true (List.length_pos_iff.2 h0) ht
    have hr := restOf_step (List.length_pos_iff.2 h0) ht
    refine ⟨(dec rest false).1, (dec rest false).2.1.toNat, ptsOf t (rest.drop (dec rest false).2.1.toNat), ?_, hd.1, hd.2.1, ?_, ptRest_mk (by rw [← hr, h2])⟩
    · rw [htt, hd.2.2.2.1]
    · rw [h3, pts_one h0 hm, of_cls hv, decide_eq_true h1]
  · obtain ⟨c, r, rfl⟩ : ∃ c r, rest = c :: r := by
      cases rest with
      | nil => exact absurd rfl h0
      | cons c r => exact ⟨c, r, rfl⟩
    refine ⟨-1, 1, r.map (fun _ => openPt), ?_, Nat.le_refl _, by simp, ?_, ?_⟩
    · rcases h3 with h3 | h3 | h3
      · cases h3
      · exact (more_shape h3).2.2
      · have hc := h3 c (by simp)
        exact dec_none (kind_0 hc.1 (by omega))
    · rw [h2, of_open t hv, decide_eq_false (by omega)]; rfl
    · rw [List.drop_succ_cons, List.drop_zero]
      refine .inr ⟨by simp at h1; omega, rfl, ?_⟩
      rcases h3 with h3 | h3 | h3
      · cases h3
      · exact .inr (.inr (more_shape h3).2.1)
      · exact .inr (.inr fun x hx => h3 x (by simp [hx]))
/-! Three rows of ints in one box. -/
def sepV (u v : Value) : Prop := ∀ x, u.ownBlock = some x → v.ownBlock ≠ some x
theorem sepV.symm {u v : Value} (h : sepV u v) : sepV v u := fun x h1 h2 => h x h2 h1
theorem sepV.kept {u v : Value} (h : sepV u v) : u.ownBlock = none ∨ u.ownBlock ≠ v.ownBlock := by
  cases hu : u.ownBlock with
  | none => exact .inl rfl
  | some x => exact .inr fun e => h x hu e.symm
structure PS (w : World) (K b5 : Nat) (AP : Option Addr) (kP cP : Nat) (xP : List Int) (AC : Option Addr) (kC cC : Nat) (xC : List Int) (AN : Option Addr) (kN cN : Nat) (xN : List Int) (S : Nat) : Prop where
  blk : w.heap[b5]? = some (.cells #[.slice AP kP cP, .slice AC kC cC, .slice AN kN cN, .int .i64 (S : Int)] 68 (0, 0))
  rp : w.ownsRow K 3 1 (.slice AP kP cP) kP (intsV xP)
  rc : w.ownsRow K 3 1 (.slice AC kC cC) kC (intsV xC)
  rn : w.ownsRow K 3 1 (.slice AN kN cN) kN (intsV xN)
  pc : sepV (.slice AP kP cP) (.slice AC kC cC)
  pn : sepV (.slice AP kP cP) (.slice AN kN cN)
  cn : sepV (.slice AC kC cC) (.slice AN kN cN)
  low : b5 < K
section
variable {w w' w1 : World} {K b5 kP cP kC cC kN cN S g cap H : Nat} {AP AC AN : Option Addr} {xP xC xN : List Int} {o : Obj} {x : Int}
theorem PS.lt (h : PS w K b5 AP kP cP xP AC kC cC xC AN kN cN xN S) : b5 < w.heap.size := (Array.getElem?_eq_some_iff.1 h.blk).1
theorem PS.later (h : PS w K b5 AP kP cP xP AC kC cC xC AN kN cN xN S) (hb : Below w.heap.size w w') : PS w' K b5 AP kP cP xP AC kC cC xC AN kN cN xN S :=
  ⟨(hb.block b5 h.lt).trans h.blk, own_kept h.rp hb (Nat.le_refl _), own_kept h.rc hb (Nat.le_refl _), own_kept h.rn hb (Nat.le_refl _), h.pc, h.pn, h.cn, h.low⟩
theorem PS.reads (h : PS w K b5 AP kP cP xP AC kC cC xC AN kN cN xN S) : w.cell? ⟨b5, 0, none⟩ = some (.slice AP kP cP) ∧ w.cell? ⟨b5, 1, none⟩ = some (.slice AC kC cC) ∧ w.cell? ⟨b5, 2, none⟩ = some (.slice AN kN cN) ∧ w.cell? ⟨b5, 3, none⟩ = some (.int .i64 (S : Int)) ∧ w.frozen? ⟨b5, 0, none⟩ = false ∧ w.frozen? ⟨b5, 1, none⟩ = false ∧ w.frozen? ⟨b5, 2, none⟩ = false ∧ w.frozen? ⟨b5, 3, none⟩ = false :=
  ⟨Lib.cell_of_heap h.blk 0, Lib.cell_of_heap h.blk 1, Lib.cell_of_heap h.blk 2, Lib.cell_of_heap h.blk 3, Lib.frozen_of_heap h.blk 0, Lib.frozen_of_heap h.blk 1, Lib.frozen_of_heap h.blk 2, Lib.frozen_of_heap h.blk 3⟩
theorem sep_grown {u v : Value} {m : Nat} (h : sepV u v) (hat : u.ownBlock = some g ∨ g = H) (hH : (w.alloc o).heap.size = H) (hv : ∀ b, v.ownBlock = some b → b < w.heap.size) : sepV (.slice (some ⟨g, 0, none⟩) m cap) v := by
  intro y hy e
  have hyg : g = y := by simpa [Value.ownBlock] using hy
  subst hyg
  rcases hat with h1 | h1
  · exact h g h1 e
  · have := hv g e
    simp at hH
    omega
theorem intsV_one (xs : List Int) (x : Int) : intsV (xs ++ [x]) = intsV xs ++ [.int .i64 x] := by unfold intsV; rw [List.map_append]; rfl
theorem PS.addP (h : PS w K b5 AP kP cP xP AC kC cC xC AN kN cN xN S) (ho : w1.ownsRow K 3 1 (.slice (some ⟨g, 0, none⟩) (kP + 1) cap) (kP + 1) (intsV xP ++ [.int .i64 x])) (hg : (w.alloc o).grownBy w1 (Value.slice AP kP cP).ownBlock) (hat : (Value.slice AP kP cP).ownBlock = some g ∨ g = H) (hH : (w.alloc o).heap.size = H) :
    PS (w1.setCell ⟨b5, 0, none⟩ (.slice (some ⟨g, 0, none⟩) (kP + 1) cap)) K b5 (some ⟨g, 0, none⟩) (kP + 1) cap (xP ++ [x]) AC kC cC xC AN kN cN xN S := by
  have hb := rgrown_block (h.rp.alloc o) hg ((Below.heap_alloc w o b5 h.lt).trans h.blk) (by decide)
  exact ⟨rheap_set hb, by rw [intsV_one]; exact rown_set ho hb (by decide), rown_set ((h.rc.alloc o).kept hg h.pc.symm.kept) hb (by decide), rown_set ((h.rn.alloc o).kept hg h.pn.symm.kept) hb (by decide),
    sep_grown h.pc hat hH (fun b e => (h.rc.lt b e).2), sep_grown h.pn hat hH (fun b e => (h.rn.lt b e).2), h.cn, h.low⟩
theorem PS.addC (h : PS w K b5 AP kP cP xP AC kC cC xC AN kN cN xN S) (ho : w1.ownsRow K 3 1 (.slice (some ⟨g, 0, none⟩) (kC + 1) cap) (kC + 1) (intsV xC ++ [.int .i64 x])) (hg : (w.alloc o).grownBy w1 (Value.slice AC kC cC).ownBlock) (hat : (Value.slice AC kC cC).ownBlock = some g ∨ g = H) (hH : (w.alloc o).heap.size = H) :
    PS (w1.setCell ⟨b5, 1, none⟩ (.slice (some ⟨g, 0, none⟩) (kC + 1) cap)) K b5 AP kP cP xP (some ⟨g, 0, none⟩) (kC + 1) cap (xC ++ [x]) AN kN cN xN S := by
  have hb := rgrown_block (h.rc.alloc o) hg ((Below.heap_alloc w o b5 h.lt).trans h.blk) (by decide)
  exact ⟨rheap_set hb, rown_set ((h.rp.alloc o).kept hg h.pc.kept) hb (by decide), by rw [intsV_one]; exact rown_set ho hb (by decide), rown_set ((h.rn.alloc o).kept hg h.cn.symm.kept) hb (by decide),
    (sep_grown h.pc.symm hat hH (fun b e => (h.rp.lt b e).2)).symm, h.pn, sep_grown h.cn hat hH (fun b e => (h.rn.lt b e).2), h.low⟩
theorem PS.addN (h : PS w K b5 AP kP cP xP AC kC cC xC AN kN cN xN S) (ho : w1.ownsRow K 3 1 (.slice (some ⟨g, 0, none⟩) (kN + 1) cap) (kN + 1) (intsV xN ++ [.int .i64 x])) (hg : (w.alloc o).grownBy w1 (Value.slice AN kN cN).ownBlock) (hat : (Value.slice AN kN cN).ownBlock = some g ∨ g = H) (hH : (w.alloc o).heap.size = H) :
    PS (w1.setCell ⟨b5, 2, none⟩ (.slice (some ⟨g, 0, none⟩) (kN + 1) cap)) K b5 AP kP cP xP AC kC cC xC (some ⟨g, 0, none⟩) (kN + 1) cap (xN ++ [x]) S := by
  have hb := rgrown_block (h.rn.alloc o) hg ((Below.heap_alloc w o b5 h.lt).trans h.blk) (by decide)
  exact ⟨rheap_set hb, rown_set ((h.rp.alloc o).kept hg h.pn.kept) hb (by decide), rown_set ((h.rc.alloc o).kept hg h.cn.kept) hb (by decide), by rw [intsV_one]; exact rown_set ho hb (by decide),
    h.pc, (sep_grown h.pn.symm hat hH (fun b e => (h.rp.lt b e).2)).symm, (sep_grown h.cn.symm hat hH (fun b e => (h.rc.lt b e).2)).symm, h.low⟩
theorem PS.addS (h : PS w K b5 AP kP cP xP AC kC cC xC AN kN cN xN S) {S2 : Nat} : PS (w.setCell ⟨b5, 3, none⟩ (.int .i64 (S2 : Int))) K b5 AP kP cP xP AC kC cC xC AN kN cN xN S2 :=
  ⟨rheap_set h.blk, rown_set h.rp h.blk (by decide), rown_set h.rc h.blk (by decide), rown_set h.rn h.blk (by decide), h.pc, h.pn, h.cn, h.low⟩
/-- A box of another type, behind an append onto a row of ints and a store. -/
theorem box_kept {T : TypeId} {v : Value} {n d j : Nat} {cs : Array Value} {xs : List Value} {u : Value} (hr : w.ownsRow K 3 1 v n xs) (hg : (w.alloc o).grownBy w1 v.ownBlock) (hd : w.heap[d]? = some (.cells cs T (0, 0))) (hT : 3 ≠ T) (hne : d ≠ b5) : w1.heap[d]? = some (.cells cs T (0, 0)) ∧ (w1.setCell ⟨b5, j, none⟩ u).heap[d]? = some (.cells cs T (0, 0)) := by
  have h1 := rgrown_block (hr.alloc o) hg ((Below.heap_alloc w o d (Array.getElem?_eq_some_iff.1 hd).1).trans hd) hT
  exact ⟨h1, (Below.heap_setCell w1 ⟨b5, j, none⟩ u d hne).trans h1⟩
theorem below_app {w0 : World} {B : Nat} {v u : Value} {j : Nat} (hb : Below B w0 w) (hB : B ≤ w.heap.size) (hg : (w.alloc o).grownBy w1 v.ownBlock) (hv : ∀ b, v.ownBlock = some b → B ≤ b) (h5 : B ≤ b5) : Below B w0 (w1.setCell ⟨b5, j, none⟩ u) :=
  ((hb.alloc hB o).grown hg (by simp; omega) hv).setCell (p := ⟨b5, j, none⟩) h5 u
theorem count_shape {ps : List Pt} {n : Nat} (h : Shape ps n) : ps.countP Pt.sure = n := by
  have h1 : ps.countP Pt.sure = (ps.take n).countP Pt.sure + (ps.drop n).countP Pt.sure := by rw [← List.countP_append, List.take_append_drop]
  have h2 : (ps.take n).countP Pt.sure = n := by
    have hl : (ps.take n).length = n := by rw [List.length_take]; have := h.le; omega
    refine Eq.trans ?_ hl
    rw [List.countP_eq_length]
    intro p hp
    obtain ⟨i, hi, rfl⟩ := List.mem_iff_getElem.1 hp
    rw [hl] at hi
    have := h.yes i _ (List.getElem?_eq_getElem (by have := h.le; omega)) hi
    rw [List.getElem_take]
    exact this.1
  have h3 : (ps.drop n).countP Pt.sure = 0 := by
    rw [List.countP_eq_zero]
    intro p hp
    obtain ⟨i, hi, rfl⟩ := List.mem_iff_getElem.1 hp
    rw [List.length_drop] at hi
    rw [List.getElem_drop, h.no (n + i) _ (List.getElem?_eq_getElem (by omega)) (by omega)]
    decide
  omega
end
end Go.Proofs.YtkiggpbmlkfdpaaDoor
