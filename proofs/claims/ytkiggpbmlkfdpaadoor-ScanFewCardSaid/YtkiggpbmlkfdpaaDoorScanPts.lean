/- The walk of the document's points. -/
import Derived.Test.YtkiggpbmlkfdpaaDoorScanMem
import Derived.Test.YtkiggpbmlkfdpaaDoorUtfRefP
import Derived.Test.YtkiggpbmlkfdpaaDoorScanRRow
import Derived.Deep.RegionLaw
import Derived.Deep.AppendLies
import Derived.Outline
/- The plain law of scan: the document's points, one by one, and the memory that they lie in. -/
namespace Go.Proofs.YtkiggpbmlkfdpaaDoor
open Go.RowKit
set_option linter.unusedVariables false

theorem ptsLen (t : List Rg) : ∀ l : List UInt8, (ptsOf t l).length ≤ l.length := by
  refine pts_ind (Nat.le_refl _) (fun l h0 h => ?_) (fun l h0 h h1 h2 ih => ?_)
  · rw [pts_more h0 h, List.length_map]; exact Nat.le_refl _
  · rw [pts_one h0 h, List.length_cons]
    rw [List.length_drop] at ih
    omega
theorem rest_len (l : List UInt8) : restOf l ≤ l.length := (rest_le l.length l (Nat.le_refl _)).1
theorem rest_whole {l : List UInt8} (h0 : l ≠ []) (h : restOf l = l.length) : (dec l false).2.2 = true := by
  cases hm : (dec l false).2.2 with
  | true => rfl
  | false =>
    exfalso
    have hr := restOf_step (List.length_pos_iff.2 h0) (dec_trip hm)
    have hd := dec_nat h0 hm
    have := rest_len (l.drop (dec l false).2.1.toNat)
    rw [List.length_drop] at this
    omega
/-- What is left, and its points. -/
def PtRest (t : List Rg) (R : Nat) (rest : List UInt8) (tl : List Pt) : Prop :=
  (R < rest.length ∧ restOf rest = R ∧ tl = ptsOf t rest) ∨ (rest.length ≤ R ∧ tl = rest.map (fun _ => openPt) ∧ (rest = [] ∨ (dec rest false).2.2 = true ∨ ∀ x ∈ rest, 128 ≤ (x.toNat : Int) ∧ (x.toNat : Int) ≤ 191))
theorem ptRest_mk {t : List Rg} {R : Nat} {rest : List UInt8} (h : restOf rest = R) : PtRest t R rest (ptsOf t rest) := by
  rcases Nat.lt_or_ge R rest.length with h1 | h1
  · exact .inl ⟨h1, h, rfl⟩
  · by_cases h0 : rest = []
    · subst h0; exact .inr ⟨h1, rfl, .inl rfl⟩
    · have h2 := rest_whole h0 (by have := rest_len rest; omega)
      exact .inr ⟨h1, pts_more h0 h2, .inr (.inl h2)⟩
theorem of_open (t : List Rg) (hv : mayT t = true) : ofT (-1) t = 0 := by
  unfold mayT at hv
  rw [Bool.and_eq_true] at hv
  exact ofT_late hv.2 (Int.le_refl _)
theorem of_cls {t : List Rg} (hv : mayT t = true) (p : Int) : ofT p t = clsT t p := by unfold clsT; rw [if_pos hv]
/-- One point more of what is left. -/
theorem ptRest_step {t : List Rg} {R : Nat} {rest : List UInt8} {tl : List Pt} (hv : mayT t = true) (h : PtRest t R rest tl) (h0 : rest ≠ []) :
    ∃ (p : Int) (k : Nat) (tl2 : List Pt), dec rest true = (p, (k : Int), false) ∧ 1 ≤ k ∧ k ≤ rest.length ∧ tl = ⟨p, ofT p t, k, decide (R < rest.length)⟩ :: tl2 ∧ PtRest t R (rest.drop k) tl2 := by
  rcases h with ⟨h1, h2, h3⟩ | ⟨h1, h2, h3⟩
  · have hm : (dec rest false).2.2 = false := by
      cases hm : (dec rest false).2.2 with
      | false => rfl
      | true =>
        have := restOf_more (List.length_pos_iff.2 h0) (dec_trip hm)
        omega
    have hd := dec_nat h0 hm
    have ht := dec_trip hm
    have htt := dec_true (List.length_pos_iff.2 h0) ht
    have hr := restOf_step (List.length_pos_iff.2 h0) ht
    refine ⟨(dec rest false).1, (dec rest false).2.1.toNat, ptsOf t (rest.drop (dec rest false).2.1.toNat), ?_, hd.1, hd.2.1, ?_, ptRest_mk (by rw [← hr, h2])⟩
    · rw [htt, hd.2.2.2.1]
    · rw [h3, pts_one h0 hm, of_cls hv, decide_eq_true h1]
  · obtain ⟨c, r, rfl⟩ : ∃ c r, rest = c :: r := by
      cases rest with
      | nil => exact absurd rfl h0
      | cons c r => exact ⟨c, r, rfl⟩
    refine ⟨-1, 1, r.map (fun _ => openPt), ?_, Nat.le_refl _, by simp, ?_, ?_⟩
    · rcases h3 with h3 | h3 | h3
      · cases h3
      · exact (more_shape h3).2.2
      · have hc := h3 c (by simp)
        exact dec_none (kind_0 hc.1 (by omega))
    · rw [h2, of_open t hv, decide_eq_false (by omega)]; rfl
    · rw [List.drop_succ_cons, List.drop_zero]
      refine .inr ⟨by simp at h1; omega, rfl, ?_⟩
      rcases h3 with h3 | h3 | h3
      · cases h3
      · exact .inr (.inr (more_shape h3).2.1)
      · exact .inr (.inr fun x hx => h3 x (by simp [hx]))
/-! Three rows of ints in one box. -/
def sepV (u v : Value) : Prop := ∀ x, u.ownBlock = some x → v.ownBlock ≠ some x
theorem sepV.symm {u v : Value} (h : sepV u v) : sepV v u := fun x h1 h2 => h x h2 h1
theorem sepV.kept {u v : Value} (h : sepV u v) : u.ownBlock = none ∨ u.ownBlock ≠ v.ownBlock := by
  cases hu : u.ownBlock with
  | none => exact .inl rfl
  | some x => exact .inr fun e => h x hu e.symm
structure PS (w : World) (K b5 : Nat) (AP : Option Addr) (kP cP : Nat) (xP : List Int) (AC : Option Addr) (kC cC : Nat) (xC : List Int) (AN : Option Addr) (kN cN : Nat) (xN : List Int) (S : Nat) : Prop where
  blk : w.heap[b5]? = some (.cells #[.slice AP kP cP, .slice AC kC cC, .slice AN kN cN, .int .i64 (S : Int)] 68 (0, 0))
  rp : w.ownsRow K 3 1 (.slice AP kP cP) kP (intsV xP)
  rc : w.ownsRow K 3 1 (.slice AC kC cC) kC (intsV xC)
  rn : w.ownsRow K 3 1 (.slice AN kN cN) kN (intsV xN)
  pc : sepV (.slice AP kP cP) (.slice AC kC cC)
  pn : sepV (.slice AP kP cP) (.slice AN kN cN)
  cn : sepV (.slice AC kC cC) (.slice AN kN cN)
  low : b5 < K
section
variable {w w' w1 : World} {K b5 kP cP kC cC kN cN S g cap H : Nat} {AP AC AN : Option Addr} {xP xC xN : List Int} {o : Obj} {x : Int}
theorem PS.lt (h : PS w K b5 AP kP cP xP AC kC cC xC AN kN cN xN S) : b5 < w.heap.size := (Array.getElem?_eq_some_iff.1 h.blk).1
theorem PS.later (h : PS w K b5 AP kP cP xP AC kC cC xC AN kN cN xN S) (hb : Below w.heap.size w w') : PS w' K b5 AP kP cP xP AC kC cC xC AN kN cN xN S :=
  ⟨(hb.block b5 h.lt).trans h.blk, own_kept h.rp hb (Nat.le_refl _), own_kept h.rc hb (Nat.le_refl _), own_kept h.rn hb (Nat.le_refl _), h.pc, h.pn, h.cn, h.low⟩
theorem PS.reads (h : PS w K b5 AP kP cP xP AC kC cC xC AN kN cN xN S) : w.cell? ⟨b5, 0, none⟩ = some (.slice AP kP cP) ∧ w.cell? ⟨b5, 1, none⟩ = some (.slice AC kC cC) ∧ w.cell? ⟨b5, 2, none⟩ = some (.slice AN kN cN) ∧ w.cell? ⟨b5, 3, none⟩ = some (.int .i64 (S : Int)) ∧ w.frozen? ⟨b5, 0, none⟩ = false ∧ w.frozen? ⟨b5, 1, none⟩ = false ∧ w.frozen? ⟨b5, 2, none⟩ = false ∧ w.frozen? ⟨b5, 3, none⟩ = false :=
  ⟨Lib.cell_of_heap h.blk 0, Lib.cell_of_heap h.blk 1, Lib.cell_of_heap h.blk 2, Lib.cell_of_heap h.blk 3, Lib.frozen_of_heap h.blk 0, Lib.frozen_of_heap h.blk 1, Lib.frozen_of_heap h.blk 2, Lib.frozen_of_heap h.blk 3⟩
theorem sep_grown {u v : Value} {m : Nat} (h : sepV u v) (hat : u.ownBlock = some g ∨ g = H) (hH : (w.alloc o).heap.size = H) (hv : ∀ b, v.ownBlock = some b → b < w.heap.size) : sepV (.slice (some ⟨g, 0, none⟩) m cap) v := by
  intro y hy e
  have hyg : g = y := by simpa [Value.ownBlock] using hy
  subst hyg
  rcases hat with h1 | h1
  · exact h g h1 e
  · have := hv g e
    simp at hH
    omega
theorem intsV_one (xs : List Int) (x : Int) : intsV (xs ++ [x]) = intsV xs ++ [.int .i64 x] := by unfold intsV; rw [List.map_append]; rfl
theorem PS.addP (h : PS w K b5 AP kP cP xP AC kC cC xC AN kN cN xN S) (ho : w1.ownsRow K 3 1 (.slice (some ⟨g, 0, none⟩) (kP + 1) cap) (kP + 1) (intsV xP ++ [.int .i64 x])) (hg : (w.alloc o).grownBy w1 (Value.slice AP kP cP).ownBlock) (hat : (Value.slice AP kP cP).ownBlock = some g ∨ g = H) (hH : (w.alloc o).heap.size = H) :
    PS (w1.setCell ⟨b5, 0, none⟩ (.slice (some ⟨g, 0, none⟩) (kP + 1) cap)) K b5 (some ⟨g, 0, none⟩) (kP + 1) cap (xP ++ [x]) AC kC cC xC AN kN cN xN S := by
  have hb := rgrown_block (h.rp.alloc o) hg ((Below.heap_alloc w o b5 h.lt).trans h.blk) (by decide)
  exact ⟨rheap_set hb, by rw [intsV_one]; exact rown_set ho hb (by decide), rown_set ((h.rc.alloc o).kept hg h.pc.symm.kept) hb (by decide), rown_set ((h.rn.alloc o).kept hg h.pn.symm.kept) hb (by decide),
    sep_grown h.pc hat hH (fun b e => (h.rc.lt b e).2), sep_grown h.pn hat hH (fun b e => (h.rn.lt b e).2), h.cn, h.low⟩
theorem PS.addC (h : PS w K b5 AP kP cP xP AC kC cC xC AN kN cN xN S) (ho : w1.ownsRow K 3 1 (.slice (some ⟨g, 0, none⟩) (kC + 1) cap) (kC + 1) (intsV xC ++ [.int .i64 x])) (hg : (w.alloc o).grownBy w1 (Value.slice AC kC cC).ownBlock) (hat : (Value.slice AC kC cC).ownBlock = some g ∨ g = H) (hH : (w.alloc o).heap.size = H) :
    PS (w1.setCell ⟨b5, 1, none⟩ (.slice (some ⟨g, 0, none⟩) (kC + 1) cap)) K b5 AP kP cP xP (some ⟨g, 0, none⟩) (kC + 1) cap (xC ++ [x]) AN kN cN xN S := by
  have hb := rgrown_block (h.rc.alloc o) hg ((Below.heap_alloc w o b5 h.lt).trans h.blk) (by decide)
  exact ⟨rheap_set hb, rown_set ((h.rp.alloc o).kept hg h.pc.kept) hb (by decide), by rw [intsV_one]; exact rown_set ho hb (by decide), rown_set ((h.rn.alloc o).kept hg h.cn.symm.kept) hb (by decide),
    (sep_grown h.pc.symm hat hH (fun b e => (h.rp.lt b e).2)).symm, h.pn, sep_grown h.cn hat hH (fun b e => (h.rn.lt b e).2), h.low⟩
theorem PS.addN (h : PS w K b5 AP kP cP xP AC kC cC xC AN kN cN xN S) (ho : w1.ownsRow K 3 1 (.slice (some ⟨g, 0, none⟩) (kN + 1) cap) (kN + 1) (intsV xN ++ [.int .i64 x])) (hg : (w.alloc o).grownBy w1 (Value.slice AN kN cN).ownBlock) (hat : (Value.slice AN kN cN).ownBlock = some g ∨ g = H) (hH : (w.alloc o).heap.size = H) :
    PS (w1.setCell ⟨b5, 2, none⟩ (.slice (some ⟨g, 0, none⟩) (kN + 1) cap)) K b5 AP kP cP xP AC kC cC xC (some ⟨g, 0, none⟩) (kN + 1) cap (xN ++ [x]) S := by
  have hb := rgrown_block (h.rn.alloc o) hg ((Below.heap_alloc w o b5 h.lt).trans h.blk) (by decide)
  exact ⟨rheap_set hb, rown_set ((h.rp.alloc o).kept hg h.pn.kept) hb (by decide), rown_set ((h.rc.alloc o).kept hg h.cn.kept) hb (by decide), by rw [intsV_one]; exact rown_set ho hb (by decide),
    h.pc, (sep_grown h.pn.symm hat hH (fun b e => (h.rp.lt b e).2)).symm, (sep_grown h.cn.symm hat hH (fun b e => (h.rc.lt b e).2)).symm, h.low⟩
theorem PS.addS (h : PS w K b5 AP kP cP xP AC kC cC xC AN kN cN xN S) {S2 : Nat} : PS (w.setCell ⟨b5, 3, none⟩ (.int .i64 (S2 : Int))) K b5 AP kP cP xP AC kC cC xC AN kN cN xN S2 :=
  ⟨rheap_set h.blk, rown_set h.rp h.blk (by decide), rown_set h.rc h.blk (by decide), rown_set h.rn h.blk (by decide), h.pc, h.pn, h.cn, h.low⟩
/-- A box of another type, behind an append onto a row of ints and a store. -/
theorem box_kept {T : TypeId} {v : Value} {n d j : Nat} {cs : Array Value} {xs : List Value} {u : Value} (hr : w.ownsRow K 3 1 v n xs) (hg : (w.alloc o).grownBy w1 v.ownBlock) (hd : w.heap[d]? = some (.cells cs T (0, 0))) (hT : 3 ≠ T) (hne : d ≠ b5) : w1.heap[d]? = some (.cells cs T (0, 0)) ∧ (w1.setCell ⟨b5, j, none⟩ u).heap[d]? = some (.cells cs T (0, 0)) := by
  have h1 := rgrown_block (hr.alloc o) hg ((Below.heap_alloc w o d (Array.getElem?_eq_some_iff.1 hd).1).trans hd) hT
  exact ⟨h1, (Below.heap_setCell w1 ⟨b5, j, none⟩ u d hne).trans h1⟩
theorem below_app {w0 : World} {B : Nat} {v u : Value} {j : Nat} (hb : Below B w0 w) (hB : B ≤ w.heap.size) (hg : (w.alloc o).grownBy w1 v.ownBlock) (hv : ∀ b, v.ownBlock = some b → B ≤ b) (h5 : B ≤ b5) : Below B w0 (w1.setCell ⟨b5, j, none⟩ u) :=
  ((hb.alloc hB o).grown hg (by simp; omega) hv).setCell (p := ⟨b5, j, none⟩) h5 u
theorem count_shape {ps : List Pt} {n : Nat} (h : Shape ps n) : ps.countP Pt.sure = n := by
  have h1 : ps.countP Pt.sure = (ps.take n).countP Pt.sure + (ps.drop n).countP Pt.sure := by rw [← List.countP_append, List.take_append_drop]
  have h2 : (ps.take n).countP Pt.sure = n := by
    have hl : (ps.take n).length = n := by rw [List.length_take]; have := h.le; omega
    refine Eq.trans ?_ hl
    rw [List.countP_eq_length]
    intro p hp
    obtain ⟨i, hi, rfl⟩ := List.mem_iff_getElem.1 hp
    rw [hl] at hi
    have := h.yes i _ (List.getElem?_eq_getElem (by have := h.le; omega)) hi
    rw [List.getElem_take]
    exact this.1
  have h3 : (ps.drop n).countP Pt.sure = 0 := by
    rw [List.countP_eq_zero]
    intro p hp
    obtain ⟨i, hi, rfl⟩ := List.mem_iff_getElem.1 hp
    rw [List.length_drop] at hi
    rw [List.getElem_drop, h.no (n + i) _ (List.getElem?_eq_getElem (by omega)) (by omega)]
    decide
  omega
end
end Go.Proofs.YtkiggpbmlkfdpaaDoor
namespace Go.Proofs.YtkiggpbmlkfdpaaDoor
open Go.RowKit
set_option linter.unusedVariables false

theorem news_one {w : World} {g : Nat} {x : Int} (hg : w.heap.size = g) : ∀ j u, ([.int .i64 x] : List Value)[j]? = some u → (w.alloc (.cells #[.int .i64 x] 3)).cell? ((⟨g, 0, none⟩ : Addr).add j) = some u := by
  subst hg
  exact World.news_of_block (heap_alloc_new w _)
theorem one_int (x : Int) : ∀ u ∈ ([.int .i64 x] : List Value), u.oneCell' = true := by
  intro u hu
  simp only [List.mem_singleton] at hu
  subst hu
  rfl
def PtsTo (t : List Rg) (l : List UInt8) (w : World) (e : Ending) (w' : World) : Prop :=
  ∃ (AP AC AN : Option Addr) (cP cC cN S n : Nat), e = .returned (.agg (lV n AP AC AN cP cC cN S)) ∧ LAt w' w'.heap.size (ptsOf t l) n AP AC AN cP cC cN ∧ Shape (ptsOf t l) S ∧ Below w.heap.size w w'
set_option maxRecDepth 100000 in
set_option maxHeartbeats 8000000 in
theorem rpts_any {At : Option Addr} {nt ct : Nat} {t : List Rg} (s : ByteArray) (w : World) (ht : RangesAt w w.heap.size At nt ct t) (hs : s.size ≤ 1000) (hv : mayT t = true) :
    Calls Tryd.prog 42 #[.slice At nt ct, .string s] w (PtsTo t s.data.toList w) := by
  have HT := Lib.hid ht
  have HV := Lib.hid hv
  obtain ⟨i0, hi, hz0, hz1, hz2⟩ := info_parts info_intP
  obtain ⟨b4, hb4⟩ : ∃ b4, w.heap.size = b4 := ⟨_, rfl⟩
  clear ht hv
  go_enter Tryd.func42, Tryd.ntmps42
  go_wp2_with fail
  obtain ⟨X, hX⟩ : ∃ X, X = (w.alloc (.cells #[.slice none 0 0, .slice none 0 0, .slice none 0 0, .int .i64 0] 68)).alloc (.cells #[.slice none 0 0, .slice none 0 0, .slice none 0 0, .int .i64 0] 68) := ⟨_, rfl⟩
  have HB := Lib.hid (show Below w.heap.size w X from by rw [hX]; exact ((Below.refl _ w).alloc (Nat.le_refl _) _).alloc (by simp) _)
  have H4 := Lib.hid (show X.heap[b4]? = some (.cells #[.slice none 0 0, .slice none 0 0, .slice none 0 0, .int .i64 0] 68 (0, 0)) from by rw [hX, ← hb4]; exact (Below.heap_alloc _ _ _ (by simp)).trans (heap_alloc_new w _))
  have HP := Lib.hid (show PS X (b4 + 2) (b4 + 1) none 0 0 [] none 0 0 [] none 0 0 [] 0 from by
    refine ⟨?_, World.ownsRow_nil _ _ _ _, World.ownsRow_nil _ _ _ _, World.ownsRow_nil _ _ _ _, ?_, ?_, ?_, by omega⟩
    · have := heap_alloc_new (w.alloc (.cells #[.slice none 0 0, .slice none 0 0, .slice none 0 0, .int .i64 0] 68)) (.cells #[.slice none 0 0, .slice none 0 0, .slice none 0 0, .int .i64 0] 68)
      rw [hX, ← hb4]; simpa using this
    · intro x hx; cases hx
    · intro x hx; cases hx
    · intro x hx; cases hx)
  rw [← hX]
  rw [hb4] at HB
  try rw [hb4]
  have HB4 := Lib.hid hb4
  clear hX hb4
  refine (rrest_any s X (by omega)).mono ?_
  rintro e X2 ⟨rfl, hb2⟩
  have HP2 := Lib.hid (HP.out.later hb2)
  have HBX := Lib.hid (HB.out.trans (hb2.mono (by have := HP.out.lt; omega)))
  have H42 := Lib.hid ((hb2.block b4 (Array.getElem?_eq_some_iff.1 H4.out).1).trans H4.out)
  obtain ⟨R, hR⟩ : ∃ R, restOf s.data.toList = R := ⟨_, rfl⟩
  rw [hR]
  have HPR := Lib.hid (ptRest_mk (t := t) hR)
  have hRl : R ≤ 1000 := by rw [← hR]; have := rest_len s.data.toList; rw [str_len] at this; omega
  have HPL := Lib.hid (Nat.le_trans (show (ptsOf t s.data.toList).length ≤ s.data.toList.length from ptsLen t _) (by rw [str_len]; exact hs))
  clear HP HB H4 hb2 hR
  go_wp2_with fail
  go_loopw [1] (fun z wr => ∃ (tt : ByteArray) (dn tl : List Pt) (AP AC AN : Option Addr) (cP cC cN S k : Nat), z = .string tt ∧ Hid (dn ++ tl = ptsOf t s.data.toList) ∧ Hid (PtRest t R tt.data.toList tl) ∧ Hid (dn.length = k ∧ k ≤ 1000) ∧ Hid (PS wr (b4 + 2) (b4 + 1) AP k cP (codesP dn) AC k cC (clssP dn) AN k cN (numsL dn) S) ∧ Hid (wr.heap[b4]? = some (.cells #[.slice none 0 0, .slice none 0 0, .slice none 0 0, .int .i64 0] 68 (0, 0))) ∧ Hid (Below b4 w wr) ∧ Hid (dn.countP Pt.sure = S) ∧ tt.size ≤ 1000) (fun z _ => lenOf z)
  case atStart => exact ⟨s, [], ptsOf t s.data.toList, none, none, none, 0, 0, 0, 0, 0, rfl, Lib.hid rfl, HPR, Lib.hid ⟨rfl, by omega⟩, HP2, H42, HBX, Lib.hid rfl, hs⟩
  case round =>
    clear HP2 HBX H42 HPR
    obtain ⟨tt, dn, tl, AP, AC, AN, cP, cC, cN, S, k, rfl, HD, HPR, HK, HP, H4, HB, HS, htt⟩ := hrel
    by_cases h0 : tt.size = 0
    · have hs0 : tt.data.toList = [] := List.eq_nil_of_length_eq_zero (by rw [str_len]; exact h0)
      have hs1 : tt.toList = [] := by rw [ByteArray.toList_eq]; exact hs0
      have HDN := Lib.hid (show dn = ptsOf t s.data.toList from by
        have h1 := HPR.out
        rw [hs0] at h1
        rcases h1 with ⟨h1, _⟩ | ⟨_, h1, _⟩
        · simp at h1
        · have := HD.out; rw [h1] at this; simpa using this)
      obtain ⟨c0, c1, c2, c3, -, -, -, -⟩ := HP.out.reads
      have f0 := Lib.frozen_of_heap H4.out 0
      have f1 := Lib.frozen_of_heap H4.out 1
      have f2 := Lib.frozen_of_heap H4.out 2
      have f3 := Lib.frozen_of_heap H4.out 3
      have y0 : wr.cell? ⟨b4, 0, none⟩ = some (.slice none 0 0) := Lib.cell_of_heap H4.out 0
      have y1 : wr.cell? ⟨b4, 1, none⟩ = some (.slice none 0 0) := Lib.cell_of_heap H4.out 1
      have y2 : wr.cell? ⟨b4, 2, none⟩ = some (.slice none 0 0) := Lib.cell_of_heap H4.out 2
      have y3 : wr.cell? ⟨b4, 3, none⟩ = some (.int .i64 0) := Lib.cell_of_heap H4.out 3
      clear hs0
      go_wp2_with fail
      obtain ⟨r0, r1, r2, r3⟩ := four_reads (a := .slice AP k cP) (b := .slice AC k cC) (c := .slice AN k cN) (d := .int .i64 (S : Int)) H4.out
      refine bodyPost_ret (v := .agg #[.slice AP k cP, .slice AC k cC, .slice AN k cN, .int .i64 (S : Int)]) (by simp [results, Tryd.f42, go_sem, r0, r1, r2, r3]) rfl ?_
      obtain ⟨Z, hZ⟩ : ∃ Z, Z = (((wr.setCell ⟨b4, 0, none⟩ (.slice AP k cP)).setCell ⟨b4, 1, none⟩ (.slice AC k cC)).setCell ⟨b4, 2, none⟩ (.slice AN k cN)).setCell ⟨b4, 3, none⟩ (.int .i64 (S : Int)) := ⟨_, rfl⟩
      have hown : ∀ v xs, wr.ownsRow (b4 + 2) 3 1 v k xs → Z.ownsRow (b4 + 2) 3 1 v k xs := fun v xs ho => by
        rw [hZ]
        have o1 := rown_set (j := 0) (u := .slice AP k cP) ho H4.out (by decide)
        have e1 := rheap_set (j := 0) (u := .slice AP k cP) H4.out
        have o2 := rown_set (j := 1) (u := .slice AC k cC) o1 e1 (by decide)
        have e2 := rheap_set (j := 1) (u := .slice AC k cC) e1
        have o3 := rown_set (j := 2) (u := .slice AN k cN) o2 e2 (by decide)
        have e3 := rheap_set (j := 2) (u := .slice AN k cN) e2
        exact rown_set (j := 3) (u := .int .i64 (S : Int)) o3 e3 (by decide)
      have hbel : Below b4 w Z := by
        rw [hZ]
        exact (((HB.out.setCell (p := ⟨b4, 0, none⟩) (Nat.le_refl _) _).setCell (p := ⟨b4, 1, none⟩) (Nat.le_refl _) _).setCell (p := ⟨b4, 2, none⟩) (Nat.le_refl _) _).setCell (p := ⟨b4, 3, none⟩) (Nat.le_refl _) _
      rw [← hZ]
      obtain ⟨S2, hsh, -⟩ := pts_shape t s.data.toList
      have hS2 := count_shape hsh
      rw [← HDN.out, HS.out] at hS2
      subst hS2
      have hkl := HK.out.1
      refine ⟨AP, AC, AN, cP, cC, cN, S, k, rfl, ⟨by rw [← HDN.out, hkl], HPL.out, ?_, ?_, ?_⟩, hsh, by rw [HB4.out]; exact hbel⟩
      · rw [← HDN.out]; exact RowAt.of_own (hown _ _ HP.out.rp)
      · rw [← HDN.out]; exact RowAt.of_own (hown _ _ HP.out.rc)
      · rw [← HDN.out]; exact RowAt.of_own (hown _ _ HP.out.rn)
    · have hs1 : tt.toList.isEmpty = false := str_nonempty h0
      have hne : tt.data.toList ≠ [] := fun e => h0 (by rw [← str_len, e]; rfl)
      obtain ⟨p, kz, tl2, hd, hk1, hk2, htl, hpr2⟩ := ptRest_step HV.out HPR.out hne
      rw [str_len] at hk2 htl
      obtain ⟨cl, hcl⟩ : ∃ cl, ofT p t = cl := ⟨_, rfl⟩
      rw [hcl] at htl
      have HCL := Lib.hid hcl
      have HD1 := Lib.hid hd
      have HZ := Lib.hid (show PtRest t R (tt.extract kz tt.size).data.toList tl2 from by
        rw [Lib.extract_data, List.take_of_length_le (by rw [List.length_drop, str_len]; omega)]; exact hpr2)
      have HX := Lib.hid (show (tt.extract kz tt.size).size = tt.size - kz from by rw [ByteArray.size_extract, Nat.min_self])
      obtain ⟨o, ho⟩ : ∃ o, decide (R < tt.size) = o := ⟨_, rfl⟩
      rw [ho] at htl
      have HDN := Lib.hid (show (dn ++ [(⟨p, cl, kz, o⟩ : Pt)]) ++ tl2 = ptsOf t s.data.toList from by rw [← HD.out, htl, List.append_assoc]; rfl)
      have hk9 : k + 1 ≤ 1000 := by
        have h1 := congrArg List.length HDN.out
        rw [List.length_append, List.length_append, HK.out.1] at h1
        have := HPL.out
        simp at h1
        omega
      have hkz3 : (kz : Int) ≤ (tt.size : Int) := by omega
      have hkz4 : (0 : Int) ≤ (kz : Int) := by omega
      clear hd htl hpr2 hcl hne hk2 HPR HD
      go_wp2_with fail
      refine (rdecode_as wr (by unfold maxLen; omega) rfl HD1).mono ?_
      rintro e w2 ⟨rfl, hb2⟩
      obtain ⟨X3, hX3⟩ : ∃ X3, X3 = w2.alloc (.cells #[.int .i64 p, .int .i64 (kz : Int), .bool false] 77) := ⟨_, rfl⟩
      have hb3 : Below wr.heap.size wr X3 := by rw [hX3]; exact hb2.trans (((Below.refl _ w2).alloc (Nat.le_refl _) _).mono hb2.size)
      have HP2w := Lib.hid (HP.out.later hb2)
      have H42w := Lib.hid ((hb2.block b4 (Array.getElem?_eq_some_iff.1 H4.out).1).trans H4.out)
      have HB2w := Lib.hid (HB.out.trans (hb2.mono (by have := HP.out.lt; omega)))
      have HP3 := Lib.hid (HP.out.later hb3)
      have H43 := Lib.hid ((hb3.block b4 (Array.getElem?_eq_some_iff.1 H4.out).1).trans H4.out)
      have HB3 := Lib.hid (HB.out.trans (hb3.mono (by have := HP.out.lt; omega)))
      have HDX := Lib.hid (show X3.heap[w2.heap.size]? = some (.cells #[.int .i64 p, .int .i64 (kz : Int), .bool false] 77 (0, 0)) from by rw [hX3]; exact heap_alloc_new w2 _)
      have hX3s : X3.heap.size = w2.heap.size + 1 := by rw [hX3]; simp
      have hd5 : b4 + 1 < w2.heap.size := by have := HP.out.lt; have := hb2.size; omega
      have hd5n : w2.heap.size ≠ b4 + 1 := by omega
      have hwd : w.heap.size ≤ w2.heap.size := by have := HB.out.size; have := hb2.size; omega
      clear HP H4 HB hb2 hb3
      obtain ⟨c0, c1, c2, c3, f0, f1, f2, f3⟩ := HP2w.out.reads
      cases o with
      | true =>
        have hgt : R < tt.size := of_decide_eq_true ho
        have hgt' : (R : Int) < (tt.size : Int) := by omega
        obtain ⟨V, hV⟩ : ∃ V, V = w2.setCell ⟨b4 + 1, 3, none⟩ (.int .i64 ((S : Int) + 1)) := ⟨_, rfl⟩
        have hSb : S ≤ 1000 := by have := HS.out; have := HK.out; have h2 := List.countP_le_length (p := Pt.sure) (l := dn); omega
        have HPV := Lib.hid (show PS V (b4 + 2) (b4 + 1) AP k cP (codesP dn) AC k cC (clssP dn) AN k cN (numsL dn) (S + 1) from by
          rw [hV, show ((S : Int) + 1) = ((S + 1 : Nat) : Int) from by omega]; exact HP2w.out.addS)
        have hVs : V.heap.size = w2.heap.size := by rw [hV]; simp
        have H4V := Lib.hid (show V.heap[b4]? = some (.cells #[.slice none 0 0, .slice none 0 0, .slice none 0 0, .int .i64 0] 68 (0, 0)) from by rw [hV]; exact (Below.heap_setCell w2 ⟨b4 + 1, 3, none⟩ _ b4 (by show b4 ≠ b4 + 1; omega)).trans H42w.out)
        have HBV := Lib.hid (show Below b4 w V from by rw [hV]; exact HB2w.out.setCell (p := ⟨b4 + 1, 3, none⟩) (by show b4 ≤ b4 + 1; omega) _)
        obtain ⟨Y, hY⟩ : ∃ Y, Y = V.alloc (.cells #[.int .i64 p, .int .i64 (kz : Int), .bool false] 77) := ⟨_, rfl⟩
        have hbY : Below V.heap.size V Y := by rw [hY]; exact (Below.refl _ V).alloc (Nat.le_refl _) _
        have HPY := Lib.hid (HPV.out.later hbY)
        have H4Y := Lib.hid ((hbY.block b4 (Array.getElem?_eq_some_iff.1 H4V.out).1).trans H4V.out)
        have HBY := Lib.hid (HBV.out.trans (hbY.mono (by omega)))
        have HDY := Lib.hid (show Y.heap[w2.heap.size]? = some (.cells #[.int .i64 p, .int .i64 (kz : Int), .bool false] 77 (0, 0)) from by rw [hY, ← hVs]; exact heap_alloc_new V _)
        have hYs : Y.heap.size = w2.heap.size + 1 := by rw [hY]; simp [hVs]
        have HVV := Lib.hid hV
        clear hV hbY hVs
        have HSY := Lib.hid (show (dn ++ [(⟨p, cl, kz, true⟩ : Pt)]).countP Pt.sure = S + 1 from by rw [List.countP_append, HS.out]; rfl)
        have hkk : k ≤ 1000 := by omega
        have hbase1 : b4 + 2 ≤ (Y.alloc (.cells #[.int .i64 p] 3)).heap.size := by simp; omega
        have HBS1 := Lib.hid hbase1
        have HN1 := Lib.hid (news_one (w := Y) (x := p) hYs)
        have HI1 := Lib.hid (one_int p)
        have HOP := Lib.hid (HPY.out.rp.alloc (.cells #[.int .i64 p] 3))
        have HX3 := Lib.hid hX3
        have HYY := Lib.hid hY
        clear hbase1 hX3 hY ho
        go_wp2_with (at_builtin; rw [← HVV.out, ← HYY.out]; refine wpList_append_lies _ rfl (.tmp 24) (.tmp 27) _ rfl (b4 + 2) 3 i0 _ 1 8 Tryd.underlying37 hi hz0 hz1 hz2 rfl (by decide) (.slice AP k cP) k (intsV (codesP dn)) rfl HOP.out ⟨w2.heap.size + 1, 0, none⟩ 1 1 [.int .i64 p] rfl rfl HN1.out HI1.out (by decide) (by unfold maxLen; omega) (by omega) HBS1.out _ rfl ?_; intro g1 cap1 w3 hown3 hg3 hat3 hlt3; have O3 := Lib.hid hown3; have G3 := Lib.hid hg3; have A3 := Lib.hid hat3; have W3 := Lib.hid (rgrown_block HOP.out hg3 ((Below.heap_alloc Y _ (b4 + 1) HPY.out.lt).trans HPY.out.blk) (by decide)); obtain ⟨p0, q0⟩ : w3.cell? ⟨b4 + 1, 0, none⟩ = some (.slice AP k cP) ∧ w3.frozen? ⟨b4 + 1, 0, none⟩ = false := ⟨Lib.cell_of_heap W3.out 0, Lib.frozen_of_heap W3.out 0⟩; clear hown3 hg3 hat3 hlt3)
        obtain ⟨w4, hw4⟩ : ∃ w4, w4 = w3.setCell ⟨b4 + 1, 0, none⟩ (.slice (some ⟨g1, 0, none⟩) (k + 1) cap1) := ⟨_, rfl⟩
        have HP4 := Lib.hid (show PS w4 (b4 + 2) (b4 + 1) (some ⟨g1, 0, none⟩) (k + 1) cap1 (codesP dn ++ [p]) AC k cC (clssP dn) AN k cN (numsL dn) (S + 1) from by rw [hw4]; exact HPY.out.addP O3.out G3.out A3.out rfl)
        have HD4 := Lib.hid (show w4.heap[w2.heap.size]? = some (.cells #[.int .i64 p, .int .i64 (kz : Int), .bool false] 77 (0, 0)) from by rw [hw4]; exact (box_kept HPY.out.rp G3.out HDY.out (by decide) hd5n).2)
        have H44 := Lib.hid (show w4.heap[b4]? = some (.cells #[.slice none 0 0, .slice none 0 0, .slice none 0 0, .int .i64 0] 68 (0, 0)) from by rw [hw4]; exact (box_kept HPY.out.rp G3.out H4Y.out (by decide) (by omega)).2)
        have HBw4 := Lib.hid (show Below b4 w w4 from by rw [hw4]; exact below_app HBY.out (by omega) G3.out (fun b e => by have := (HPY.out.rp.lt b e).1; omega) (by omega))
        rw [← hw4]
        obtain ⟨c0, c1, c2, c3, f0, f1, f2, f3⟩ := HP4.out.reads
        have e0 : w4.cell? ⟨w2.heap.size, 0, none⟩ = some (.int .i64 p) := Lib.cell_of_heap HD4.out 0
        have hq4 : b4 + 1 < w4.heap.size := HP4.out.lt
        have HTd := Lib.hid (show RangesAt w4.drew w4.drew.heap.size At nt ct t from RowAt.mono (RowAt.below HT.out (by rw [HB4.out]; exact HBw4.out.drew)) (by have := HBw4.out.size; have := HP4.out.lt; rw [HB4.out]; show b4 ≤ w4.heap.size; omega))
        have HPd := Lib.hid (HP4.out.later (Below.drew (Below.refl w4.heap.size w4)))
        have HOC := Lib.hid (HPd.out.rc.alloc (.cells #[.int .i64 cl] 3))
        have HN2 := Lib.hid (news_one (w := w4.drew) (x := cl) (g := w4.heap.size) rfl)
        have HI2 := Lib.hid (one_int cl)
        have HBS2 := Lib.hid (show b4 + 2 ≤ (w4.drew.alloc (.cells #[.int .i64 cl] 3)).heap.size from by have := HPd.out.lt; simp; simp at this; omega)
        clear hw4 O3 G3 A3 W3 HPY HDY H4Y HBY p0 q0
        go_region_law (first
          | (refine step_append_lies _ rfl (.tmp 31) (.tmp 36) _ rfl (b4 + 2) 3 i0 _ 1 8 Tryd.underlying37 hi hz0 hz1 hz2 rfl (by decide) (.slice AC k cC) k (intsV (clssP dn)) rfl HOC.out ⟨w4.heap.size, 0, none⟩ 1 1 [.int .i64 cl] rfl rfl HN2.out HI2.out (by decide) (by unfold maxLen; omega) (by omega) HBS2.out _ rfl ?_; intro g2 cap2 w5 hown5 hg5 hat5 hlt5; have O5 := Lib.hid hown5; have G5 := Lib.hid hg5; have A5 := Lib.hid hat5; have W5 := Lib.hid (rgrown_block HOC.out hg5 ((Below.heap_alloc w4.drew _ (b4 + 1) HPd.out.lt).trans HPd.out.blk) (by decide)); obtain ⟨p1, q1⟩ : w5.cell? ⟨b4 + 1, 1, none⟩ = some (.slice AC k cC) ∧ w5.frozen? ⟨b4 + 1, 1, none⟩ = false := ⟨Lib.cell_of_heap W5.out 1, Lib.frozen_of_heap W5.out 1⟩; clear hown5 hg5 hat5 hlt5)
          | (go_simp; go_at_call 22; refine (rof_as _ HTd.out HCL).mono ?_; rintro e w' ⟨rfl, rfl⟩))
        all_goals
          obtain ⟨w6, hw6⟩ : ∃ w6, w6 = w5.setCell ⟨b4 + 1, 1, none⟩ (.slice (some ⟨g2, 0, none⟩) (k + 1) cap2) := ⟨_, rfl⟩
          have HP6 := Lib.hid (show PS w6 (b4 + 2) (b4 + 1) (some ⟨g1, 0, none⟩) (k + 1) cap1 (codesP dn ++ [p]) (some ⟨g2, 0, none⟩) (k + 1) cap2 (clssP dn ++ [cl]) AN k cN (numsL dn) (S + 1) from by rw [hw6]; exact HPd.out.addC O5.out G5.out A5.out rfl)
          have HD6 := Lib.hid (show w6.heap[w2.heap.size]? = some (.cells #[.int .i64 p, .int .i64 (kz : Int), .bool false] 77 (0, 0)) from by rw [hw6]; exact (box_kept (w := w4.drew) HPd.out.rc G5.out HD4.out (by decide) hd5n).2)
          have H46 := Lib.hid (show w6.heap[b4]? = some (.cells #[.slice none 0 0, .slice none 0 0, .slice none 0 0, .int .i64 0] 68 (0, 0)) from by rw [hw6]; exact (box_kept (w := w4.drew) HPd.out.rc G5.out H44.out (by decide) (by omega)).2)
          have HBw6 := Lib.hid (show Below b4 w w6 from by rw [hw6]; exact below_app (w := w4.drew) HBw4.out.drew (by have := HP4.out.lt; show b4 ≤ w4.heap.size; omega) G5.out (fun b e => by have := (HPd.out.rc.lt b e).1; omega) (by omega))
          rw [← hw6]
          clear c0 c1 c2 c3 f0 f1 f2 f3
          obtain ⟨c0, c1, c2, c3, f0, f1, f2, f3⟩ := HP6.out.reads
          have e1 : w6.cell? ⟨w2.heap.size, 1, none⟩ = some (.int .i64 (kz : Int)) := Lib.cell_of_heap HD6.out 1
          have HON := Lib.hid (HP6.out.rn.alloc (.cells #[.int .i64 (kz : Int)] 3))
          have HN3 := Lib.hid (news_one (w := w6) (x := (kz : Int)) (g := w6.heap.size) rfl)
          have HI3 := Lib.hid (one_int (kz : Int))
          have HBS3 := Lib.hid (show b4 + 2 ≤ (w6.alloc (.cells #[.int .i64 (kz : Int)] 3)).heap.size from by have := HP6.out.lt; simp; omega)
          clear hw6 O5 G5 A5 W5 HPd HD4 H44 HBw4 p1 q1 e0 HTd HOC HP4
          go_wp2_with (at_builtin; refine wpList_append_lies _ rfl (.tmp 40) (.tmp 43) _ rfl (b4 + 2) 3 i0 _ 1 8 Tryd.underlying37 hi hz0 hz1 hz2 rfl (by decide) (.slice AN k cN) k (intsV (numsL dn)) rfl HON.out ⟨w6.heap.size, 0, none⟩ 1 1 [.int .i64 (kz : Int)] rfl rfl HN3.out HI3.out (by decide) (by unfold maxLen; omega) (by omega) HBS3.out _ rfl ?_; intro g3 cap3 w7 hown7 hg7 hat7 hlt7; have O7 := Lib.hid hown7; have G7 := Lib.hid hg7; have A7 := Lib.hid hat7; have W7 := Lib.hid (rgrown_block HON.out hg7 ((Below.heap_alloc w6 _ (b4 + 1) HP6.out.lt).trans HP6.out.blk) (by decide)); have D7 := Lib.hid (box_kept (b5 := b4 + 1) (j := 2) (u := .slice (some ⟨g3, 0, none⟩) (k + 1) cap3) HP6.out.rn hg7 HD6.out (by decide) hd5n).1; obtain ⟨p2, q2⟩ : w7.cell? ⟨b4 + 1, 2, none⟩ = some (.slice AN k cN) ∧ w7.frozen? ⟨b4 + 1, 2, none⟩ = false := ⟨Lib.cell_of_heap W7.out 2, Lib.frozen_of_heap W7.out 2⟩; have e2 : w7.cell? ⟨w2.heap.size, 1, none⟩ = some (.int .i64 (kz : Int)) := Lib.cell_of_heap D7.out 1; clear hown7 hg7 hat7 hlt7)
          go_roundw
          case rel =>
            refine ⟨tt.extract kz tt.size, dn ++ [(⟨p, cl, kz, true⟩ : Pt)], tl2, some ⟨g1, 0, none⟩, some ⟨g2, 0, none⟩, some ⟨g3, 0, none⟩, cap1, cap2, cap3, (S + 1), k + 1, rfl, HDN, HZ, Lib.hid ⟨by rw [List.length_append, HK.out.1]; rfl, hk9⟩, ?_, ?_, ?_, HSY, by rw [HX.out]; omega⟩
            · have := HP6.out.addN O7.out G7.out A7.out rfl
              refine Lib.hid ?_
              unfold codesP clssP numsL
              rw [List.map_append, List.map_append, List.map_append]
              exact this
            · exact Lib.hid (box_kept HP6.out.rn G7.out H46.out (by decide) (by omega)).2
            · exact Lib.hid (below_app HBw6.out (by have := HP6.out.lt; omega) G7.out (fun b e => by have := (HP6.out.rn.lt b e).1; omega) (by omega))
          case measure => simp only [lenOf]; rw [HX.out]; omega
      | false =>
        have hgt : ¬ R < tt.size := of_decide_eq_false ho
        have hgt' : ¬ (R : Int) < (tt.size : Int) := by omega
        obtain ⟨Y, hY⟩ : ∃ Y, Y = X3 := ⟨_, rfl⟩
        rw [← hY] at HP3 H43 HB3 HDX hX3s
        have HPY := HP3
        have H4Y := H43
        have HBY := HB3
        have HDY := HDX
        have hYs := hX3s
        have HSY := Lib.hid (show (dn ++ [(⟨p, cl, kz, false⟩ : Pt)]).countP Pt.sure = S from by rw [List.countP_append, HS.out]; rfl)
        have hkk : k ≤ 1000 := by omega
        have hbase1 : b4 + 2 ≤ (Y.alloc (.cells #[.int .i64 p] 3)).heap.size := by simp; omega
        have HBS1 := Lib.hid hbase1
        have HN1 := Lib.hid (news_one (w := Y) (x := p) hYs)
        have HI1 := Lib.hid (one_int p)
        have HOP := Lib.hid (HPY.out.rp.alloc (.cells #[.int .i64 p] 3))
        have HX3 := Lib.hid hX3
        have HYY := Lib.hid hY
        clear hbase1 hX3 hY ho
        go_wp2_with (at_builtin; rw [← HX3.out, ← HYY.out]; refine wpList_append_lies _ rfl (.tmp 24) (.tmp 27) _ rfl (b4 + 2) 3 i0 _ 1 8 Tryd.underlying37 hi hz0 hz1 hz2 rfl (by decide) (.slice AP k cP) k (intsV (codesP dn)) rfl HOP.out ⟨w2.heap.size + 1, 0, none⟩ 1 1 [.int .i64 p] rfl rfl HN1.out HI1.out (by decide) (by unfold maxLen; omega) (by omega) HBS1.out _ rfl ?_; intro g1 cap1 w3 hown3 hg3 hat3 hlt3; have O3 := Lib.hid hown3; have G3 := Lib.hid hg3; have A3 := Lib.hid hat3; have W3 := Lib.hid (rgrown_block HOP.out hg3 ((Below.heap_alloc Y _ (b4 + 1) HPY.out.lt).trans HPY.out.blk) (by decide)); obtain ⟨p0, q0⟩ : w3.cell? ⟨b4 + 1, 0, none⟩ = some (.slice AP k cP) ∧ w3.frozen? ⟨b4 + 1, 0, none⟩ = false := ⟨Lib.cell_of_heap W3.out 0, Lib.frozen_of_heap W3.out 0⟩; clear hown3 hg3 hat3 hlt3)
        obtain ⟨w4, hw4⟩ : ∃ w4, w4 = w3.setCell ⟨b4 + 1, 0, none⟩ (.slice (some ⟨g1, 0, none⟩) (k + 1) cap1) := ⟨_, rfl⟩
        have HP4 := Lib.hid (show PS w4 (b4 + 2) (b4 + 1) (some ⟨g1, 0, none⟩) (k + 1) cap1 (codesP dn ++ [p]) AC k cC (clssP dn) AN k cN (numsL dn) S from by rw [hw4]; exact HPY.out.addP O3.out G3.out A3.out rfl)
        have HD4 := Lib.hid (show w4.heap[w2.heap.size]? = some (.cells #[.int .i64 p, .int .i64 (kz : Int), .bool false] 77 (0, 0)) from by rw [hw4]; exact (box_kept HPY.out.rp G3.out HDY.out (by decide) hd5n).2)
        have H44 := Lib.hid (show w4.heap[b4]? = some (.cells #[.slice none 0 0, .slice none 0 0, .slice none 0 0, .int .i64 0] 68 (0, 0)) from by rw [hw4]; exact (box_kept HPY.out.rp G3.out H4Y.out (by decide) (by omega)).2)
        have HBw4 := Lib.hid (show Below b4 w w4 from by rw [hw4]; exact below_app HBY.out (by omega) G3.out (fun b e => by have := (HPY.out.rp.lt b e).1; omega) (by omega))
        rw [← hw4]
        obtain ⟨c0, c1, c2, c3, f0, f1, f2, f3⟩ := HP4.out.reads
        have e0 : w4.cell? ⟨w2.heap.size, 0, none⟩ = some (.int .i64 p) := Lib.cell_of_heap HD4.out 0
        have hq4 : b4 + 1 < w4.heap.size := HP4.out.lt
        have HTd := Lib.hid (show RangesAt w4.drew w4.drew.heap.size At nt ct t from RowAt.mono (RowAt.below HT.out (by rw [HB4.out]; exact HBw4.out.drew)) (by have := HBw4.out.size; have := HP4.out.lt; rw [HB4.out]; show b4 ≤ w4.heap.size; omega))
        have HPd := Lib.hid (HP4.out.later (Below.drew (Below.refl w4.heap.size w4)))
        have HOC := Lib.hid (HPd.out.rc.alloc (.cells #[.int .i64 cl] 3))
        have HN2 := Lib.hid (news_one (w := w4.drew) (x := cl) (g := w4.heap.size) rfl)
        have HI2 := Lib.hid (one_int cl)
        have HBS2 := Lib.hid (show b4 + 2 ≤ (w4.drew.alloc (.cells #[.int .i64 cl] 3)).heap.size from by have := HPd.out.lt; simp; simp at this; omega)
        clear hw4 O3 G3 A3 W3 HPY HDY H4Y HBY p0 q0
        go_region_law (first
          | (refine step_append_lies _ rfl (.tmp 31) (.tmp 36) _ rfl (b4 + 2) 3 i0 _ 1 8 Tryd.underlying37 hi hz0 hz1 hz2 rfl (by decide) (.slice AC k cC) k (intsV (clssP dn)) rfl HOC.out ⟨w4.heap.size, 0, none⟩ 1 1 [.int .i64 cl] rfl rfl HN2.out HI2.out (by decide) (by unfold maxLen; omega) (by omega) HBS2.out _ rfl ?_; intro g2 cap2 w5 hown5 hg5 hat5 hlt5; have O5 := Lib.hid hown5; have G5 := Lib.hid hg5; have A5 := Lib.hid hat5; have W5 := Lib.hid (rgrown_block HOC.out hg5 ((Below.heap_alloc w4.drew _ (b4 + 1) HPd.out.lt).trans HPd.out.blk) (by decide)); obtain ⟨p1, q1⟩ : w5.cell? ⟨b4 + 1, 1, none⟩ = some (.slice AC k cC) ∧ w5.frozen? ⟨b4 + 1, 1, none⟩ = false := ⟨Lib.cell_of_heap W5.out 1, Lib.frozen_of_heap W5.out 1⟩; clear hown5 hg5 hat5 hlt5)
          | (go_simp; go_at_call 22; refine (rof_as _ HTd.out HCL).mono ?_; rintro e w' ⟨rfl, rfl⟩))
        all_goals
          obtain ⟨w6, hw6⟩ : ∃ w6, w6 = w5.setCell ⟨b4 + 1, 1, none⟩ (.slice (some ⟨g2, 0, none⟩) (k + 1) cap2) := ⟨_, rfl⟩
          have HP6 := Lib.hid (show PS w6 (b4 + 2) (b4 + 1) (some ⟨g1, 0, none⟩) (k + 1) cap1 (codesP dn ++ [p]) (some ⟨g2, 0, none⟩) (k + 1) cap2 (clssP dn ++ [cl]) AN k cN (numsL dn) S from by rw [hw6]; exact HPd.out.addC O5.out G5.out A5.out rfl)
          have HD6 := Lib.hid (show w6.heap[w2.heap.size]? = some (.cells #[.int .i64 p, .int .i64 (kz : Int), .bool false] 77 (0, 0)) from by rw [hw6]; exact (box_kept (w := w4.drew) HPd.out.rc G5.out HD4.out (by decide) hd5n).2)
          have H46 := Lib.hid (show w6.heap[b4]? = some (.cells #[.slice none 0 0, .slice none 0 0, .slice none 0 0, .int .i64 0] 68 (0, 0)) from by rw [hw6]; exact (box_kept (w := w4.drew) HPd.out.rc G5.out H44.out (by decide) (by omega)).2)
          have HBw6 := Lib.hid (show Below b4 w w6 from by rw [hw6]; exact below_app (w := w4.drew) HBw4.out.drew (by have := HP4.out.lt; show b4 ≤ w4.heap.size; omega) G5.out (fun b e => by have := (HPd.out.rc.lt b e).1; omega) (by omega))
          rw [← hw6]
          clear c0 c1 c2 c3 f0 f1 f2 f3
          obtain ⟨c0, c1, c2, c3, f0, f1, f2, f3⟩ := HP6.out.reads
          have e1 : w6.cell? ⟨w2.heap.size, 1, none⟩ = some (.int .i64 (kz : Int)) := Lib.cell_of_heap HD6.out 1
          have HON := Lib.hid (HP6.out.rn.alloc (.cells #[.int .i64 (kz : Int)] 3))
          have HN3 := Lib.hid (news_one (w := w6) (x := (kz : Int)) (g := w6.heap.size) rfl)
          have HI3 := Lib.hid (one_int (kz : Int))
          have HBS3 := Lib.hid (show b4 + 2 ≤ (w6.alloc (.cells #[.int .i64 (kz : Int)] 3)).heap.size from by have := HP6.out.lt; simp; omega)
          clear hw6 O5 G5 A5 W5 HPd HD4 H44 HBw4 p1 q1 e0 HTd HOC HP4
          go_wp2_with (at_builtin; refine wpList_append_lies _ rfl (.tmp 40) (.tmp 43) _ rfl (b4 + 2) 3 i0 _ 1 8 Tryd.underlying37 hi hz0 hz1 hz2 rfl (by decide) (.slice AN k cN) k (intsV (numsL dn)) rfl HON.out ⟨w6.heap.size, 0, none⟩ 1 1 [.int .i64 (kz : Int)] rfl rfl HN3.out HI3.out (by decide) (by unfold maxLen; omega) (by omega) HBS3.out _ rfl ?_; intro g3 cap3 w7 hown7 hg7 hat7 hlt7; have O7 := Lib.hid hown7; have G7 := Lib.hid hg7; have A7 := Lib.hid hat7; have W7 := Lib.hid (rgrown_block HON.out hg7 ((Below.heap_alloc w6 _ (b4 + 1) HP6.out.lt).trans HP6.out.blk) (by decide)); have D7 := Lib.hid (box_kept (b5 := b4 + 1) (j := 2) (u := .slice (some ⟨g3, 0, none⟩) (k + 1) cap3) HP6.out.rn hg7 HD6.out (by decide) hd5n).1; obtain ⟨p2, q2⟩ : w7.cell? ⟨b4 + 1, 2, none⟩ = some (.slice AN k cN) ∧ w7.frozen? ⟨b4 + 1, 2, none⟩ = false := ⟨Lib.cell_of_heap W7.out 2, Lib.frozen_of_heap W7.out 2⟩; have e2 : w7.cell? ⟨w2.heap.size, 1, none⟩ = some (.int .i64 (kz : Int)) := Lib.cell_of_heap D7.out 1; clear hown7 hg7 hat7 hlt7)
          go_roundw
          case rel =>
            refine ⟨tt.extract kz tt.size, dn ++ [(⟨p, cl, kz, false⟩ : Pt)], tl2, some ⟨g1, 0, none⟩, some ⟨g2, 0, none⟩, some ⟨g3, 0, none⟩, cap1, cap2, cap3, S, k + 1, rfl, HDN, HZ, Lib.hid ⟨by rw [List.length_append, HK.out.1]; rfl, hk9⟩, ?_, ?_, ?_, HSY, by rw [HX.out]; omega⟩
            · have := HP6.out.addN O7.out G7.out A7.out rfl
              refine Lib.hid ?_
              unfold codesP clssP numsL
              rw [List.map_append, List.map_append, List.map_append]
              exact this
            · exact Lib.hid (box_kept HP6.out.rn G7.out H46.out (by decide) (by omega)).2
            · exact Lib.hid (below_app HBw6.out (by have := HP6.out.lt; omega) G7.out (fun b e => by have := (HP6.out.rn.lt b e).1; omega) (by omega))
          case measure => simp only [lenOf]; rw [HX.out]; omega
end Go.Proofs.YtkiggpbmlkfdpaaDoor
