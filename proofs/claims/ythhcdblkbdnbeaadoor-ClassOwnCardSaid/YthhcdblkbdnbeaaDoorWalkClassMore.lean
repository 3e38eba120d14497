/- The walk of ClassMore: true for every input. -/
import Derived.Test.YthhcdblkbdnbeaaDoorClsFixed
import Derived.Deep.RegionLaw
namespace Go.Proofs.YthhcdblkbdnbeaaDoor
open Go.RowKit
set_option linter.unusedVariables false

/-- append of a whole row as one step of a region that draws. -/
theorem step_append_row {P : Program} {ops : Array Oper} {o : Oper} {a : Act} {w : World} {K : Act → World → Prop} {Q : Exit → Act → World → Prop} {E : Prop} (hgd : o.guard = none) (s x : Operand) (t : TypeId)
    (ho : o.op = .call { callee := .builtin .append, args := #[s, x], argTypes := #[t, t] })
    (base : Nat) (e : TypeId) (z : Value) (size bytes : Nat) (ht : P.underlying t = some (.slice e)) (hinfo : (P.info? e).map (fun i => (i.zero, i.size, i.bytes)) = some (some z, size, bytes)) (hzs : z.cells.size = size) (hsz : 0 < size)
    (v : Value) (n : Nat) (xs : List Value) (hs : a.eval s = v) (hown : w.ownsRow base e size v n xs) (B : Nat) (A : Option Addr) (m c : Nat) (news : List Value) (hx : a.eval x = .slice A m c) (hr : RowAt w B size A m c news)
    (h1 : ∀ u ∈ news, u.oneCell' = true) (h63 : n + m ≤ maxLen) (hbytes : (n + m) * bytes ≤ 140737488355328) (hbase : base ≤ w.heap.size)
    (h : ∀ A' c' w', w'.ownsRow base e size (.slice A' (n + m) c') (n + m) (xs ++ news) → Below base w w' → w.grownBy w' v.ownBlock → K (a.put o.dst (.slice A' (n + m) c')) w') :
    if Region.wanted o (yielded ops a.tmps) = true then Oper.wp P o a w K Q else E := by
  have hw : Region.wanted o (yielded ops a.tmps) = true := by simp [Region.wanted, hgd]
  rw [if_pos hw]
  obtain ⟨v', w', hrun, h2, h3⟩ := run_append_row (P := P) w base t o.type e z size bytes ht hinfo hzs hsz v n xs hown B A m c news hr h1 h63 hbytes hbase
  unfold Oper.wp execOp
  simp only [ho, resolve, invoke, builtin, Sem.run_bind, Sem.run_pure, Result.andThen_ok, List.map_toArray, List.map_cons, List.map_nil, hs, hx, hrun]
  obtain ⟨A', c', rfl⟩ := own_form h2
  exact h A' c' w' h2 ((Below.refl base w).grown h3 hbase (fun k hk => (hown.lt k hk).1)) h3

theorem row_of_block {w : World} {g : Nat} {xa xb xc : Int} (h : w.heap[g]? = some (.cells #[.int .i64 xa, .int .i64 xb, .int .i64 xc] 28)) : RowAt w (g + 1) 3 (some ⟨g, 0, none⟩) 1 1 (rangesV [(xa, xb, xc)]) := by
  refine ⟨rfl, Nat.le_refl _, by unfold maxLen; omega, fun _ => ⟨g, 0, rfl, by omega, fun j u hu => ?_⟩⟩
  have hj : j < 3 := by
    rcases Nat.lt_or_ge j 3 with h1 | h1
    · exact h1
    · rw [List.getElem?_eq_none (by rw [length_rangesV]; exact h1)] at hu; cases hu
  rw [Nat.zero_add, Lib.cell_of_heap h j, ← hu]
  rcases (by omega : j = 0 ∨ j = 1 ∨ j = 2) with rfl | rfl | rfl <;> rfl
theorem blk_a {w1 w3 : World} {a b : Obj} {r : Option Nat} (h : ((w1.alloc a).alloc b).drew.grownBy w3 r) (hr : r = some w1.heap.size) : w3.heap[w1.heap.size + 1]? = some b := by
  subst hr
  refine (h.block (w1.heap.size + 1) ?_ (fun e => by injection e with e; omega)).trans ?_
  · show w1.heap.size + 1 < ((w1.alloc a).alloc b).heap.size
    rw [World.size_alloc, World.size_alloc]; omega
  · have := heap_alloc_new (w1.alloc a) b
    rw [World.size_alloc] at this
    exact this
theorem blk_b {w1 w3 : World} {a b : Obj} {r : Option Nat} (h : ((w1.alloc a).alloc b).drew.grownBy w3 r) (hr : r = some (w1.heap.size + 1)) : w3.heap[w1.heap.size]? = some a := by
  subst hr
  refine (h.block w1.heap.size ?_ (fun e => by injection e with e; omega)).trans ?_
  · show w1.heap.size < ((w1.alloc a).alloc b).heap.size
    rw [World.size_alloc, World.size_alloc]; omega
  · exact (Below.heap_alloc (w1.alloc a) b w1.heap.size (by rw [World.size_alloc]; omega)).trans (heap_alloc_new w1 a)
theorem may_snoc_eq {t : List Rg} {x : Rg} {p : Int} (h : mayT (t ++ [x]) = true) (ht : mayT t = true) : clsT (t ++ [x]) p = if x.1 ≤ p ∧ p ≤ x.2.1 then x.2.2 else clsT t p := by
  unfold clsT
  rw [if_pos h, if_pos ht]
  unfold mayT at h
  rw [Bool.and_eq_true] at h
  have hk := h.2
  have hsn : ∀ {t : List Rg} {last : Int}, rOk last (t ++ [x]) = true → ofT p (t ++ [x]) = if x.1 ≤ p ∧ p ≤ x.2.1 then x.2.2 else ofT p t := by
    intro t
    induction t with
    | nil => intro last _; rfl
    | cons y r ih =>
      intro last h1
      rw [List.cons_append] at h1 ⊢
      have h2 := rOk_cons.1 h1
      rw [ofT, ofT, ih h2.2]
      by_cases hy : y.1 ≤ p ∧ p ≤ y.2.1
      · rw [if_pos hy, if_pos hy]
        have h3 := rOk_at (t := r ++ [x]) (i := r.length) h2.2 (by rw [List.length_append]; simp)
        have h4 : rg (r ++ [x]) r.length = x := by rw [rg_get (by rw [List.length_append]; simp)]; simp
        rw [h4] at h3
        rw [if_neg (by omega)]
      · rw [if_neg hy, if_neg hy]
  exact hsn hk

set_option maxRecDepth 100000 in
set_option maxHeartbeats 2000000 in
theorem walkClassMore (w : World) (hU : UsualAt w) {A : Option Addr} {n c : Nat} {t : List Rg} (h : RangesAt w w.heap.size A n c t) (xa xb xc : Int) (p : Int) :
    Calls Tryd.prog 4 #[.slice A n c, .agg #[.int .i64 xa, .int .i64 xb, .int .i64 xc], .int .i64 p] w fun e w' => e = .returned (.bool true) ∧ Below w.heap.size w w' := by
  have hn := h.2.1
  have hc := h.2.2.1
  unfold maxLen at hc
  have hz0 := hU.2
  obtain ⟨W0, hW0⟩ : ∃ W0, W0 = w.alloc (.cells #[.int .i64 xa, .int .i64 xb, .int .i64 xc] 28) := ⟨_, rfl⟩
  have hb0 : Below w.heap.size w W0 := by rw [hW0]; exact (Below.refl _ _).alloc (Nat.le_refl _) _
  have BB := Lib.hid hb0
  have HU := Lib.hid (hU.later hb0)
  have HH := Lib.hid (h.later hb0)
  have hsz : w.heap.size + 1 = W0.heap.size := by rw [hW0, World.size_alloc]
  have HX := Lib.hid (show W0.heap[w.heap.size]? = some (.cells #[.int .i64 xa, .int .i64 xb, .int .i64 xc] 28) from by rw [hW0]; exact heap_alloc_new _ _)
  have hlen := Lib.hid h.len
  have HZ := Lib.hid hsz
  have HW0 := Lib.hid hW0
  clear h hU hb0 hsz hW0
  by_cases hl : 199 < n
  · have hl1 : (199 : Int) < n := by omega
    go_enter Tryd.func4, Tryd.ntmps4
    go_wp2_with fail
    rw [← HW0.out]
    refine (fixed02 _ HU.out).mono ?_
    rintro e w' ⟨rfl, hb⟩
    have B1 := Lib.hid (BB.out.trans (hb.mono BB.out.size))
    clear hb
    go_wp2_with fail
    go_ret
    exact ⟨rfl, B1.out⟩
  have hl1 : decide ((199 : Int) < n) = false := decide_eq_false (by omega)
  have hl1' : decide (199 < n) = false := decide_eq_false (by omega)
  obtain ⟨v, hv⟩ : ∃ v, mayT t = v := ⟨_, rfl⟩
  have HV := Lib.hid hv
  cases v
  · clear hv
    go_enter Tryd.func4, Tryd.ntmps4
    go_wp2_with fail
    rw [← HW0.out]
    refine (rmay_as _ HH.out HV).mono ?_
    rintro e w1 ⟨rfl, hb⟩
    have U1 := Lib.hid (HU.out.later hb)
    have B1 := Lib.hid (BB.out.trans (hb.mono BB.out.size))
    clear hb
    go_wp2_with fail
    refine (fixed02 _ U1.out).mono ?_
    rintro e w' ⟨rfl, hb⟩
    have B2 := Lib.hid (B1.out.trans (hb.mono B1.out.size))
    clear hb
    go_wp2_with fail
    go_ret
    exact ⟨rfl, B2.out⟩
  · go_enter Tryd.func4, Tryd.ntmps4
    go_wp2_with fail
    rw [← HW0.out]
    refine (rmay_as _ HH.out HV).mono ?_
    rintro e w1 ⟨rfl, hb⟩
    have U1 := Lib.hid (HU.out.later hb)
    have H1 := Lib.hid (HH.out.later hb)
    have X1 := Lib.hid (show w1.heap[w.heap.size]? = some (.cells #[.int .i64 xa, .int .i64 xb, .int .i64 xc] 28) from (hb.block _ (by rw [← HZ.out]; omega)).trans HX.out)
    have B1 := Lib.hid (BB.out.trans (hb.mono BB.out.size))
    have hz1 : w.heap.size + 1 ≤ w1.heap.size := by rw [HZ.out]; exact hb.size
    have x0 : w1.cell? ⟨w.heap.size, 0, none⟩ = some (.int .i64 xa) := Lib.cell_of_heap X1.out 0
    have x1 : w1.cell? ⟨w.heap.size, 1, none⟩ = some (.int .i64 xb) := Lib.cell_of_heap X1.out 1
    have x2 : w1.cell? ⟨w.heap.size, 2, none⟩ = some (.int .i64 xc) := Lib.cell_of_heap X1.out 2
    clear hb hv
    go_wp2_with fail
    have hwl : w.heap.size < w1.heap.size := by omega
    have O1 := Lib.hid (own_new w1 28 3)
    have o2 := own_new (w1.alloc (.cells #[.int .i64 xa, .int .i64 xb, .int .i64 xc] 28)) 28 3
    rw [World.size_alloc] at o2
    have O2 := Lib.hid (cown_base o2 (Nat.le_of_lt (Nat.lt_succ_self _)))
    clear o2
    have hn3 : n ≤ 199 := by omega
    go_region_law (first
      | (refine step_append_row rfl (.tmp 18) (.tmp 19) _ rfl w1.heap.size 28 _ 3 24 Tryd.underlying22 infoRange rfl (by omega) _ 0 [] rfl (by first | exact O1.out.drew | exact (O1.out.alloc _).drew | exact O2.out.drew) w1.heap.size A n c (rangesV t) rfl (by first | exact RowAt.drew (RowAt.alloc H1.out (Nat.le_refl _) _) | exact RowAt.drew (RowAt.alloc (RowAt.alloc H1.out (Nat.le_refl _) _) (Nat.le_of_lt (by rw [World.size_alloc]; exact Nat.lt_succ_self _)) _)) one_ranges (by unfold maxLen; omega) (by omega) (by first | (show _ ≤ (World.alloc (World.alloc _ _) _).heap.size; rw [World.size_alloc, World.size_alloc]; omega) | (show _ ≤ (World.alloc _ _).heap.size; rw [World.size_alloc]; omega)) ?_; intro A3 c3 w3 hown3 hb3 hg3; rw [Nat.zero_add, List.nil_append] at hown3; have hz3 : w1.heap.size ≤ w3.heap.size := Nat.le_trans (by first | exact Nat.le_of_eq rfl | (show _ ≤ (World.alloc _ _).heap.size; rw [World.size_alloc]; omega) | (show _ ≤ (World.alloc _ _).heap.size; rw [World.size_alloc, World.size_alloc]; omega)) hb3.size; have HO3 := Lib.hid hown3; have HB3 := Lib.hid hb3; have HG3 := Lib.hid hg3; have y0 : w3.cell? ⟨w.heap.size, 0, none⟩ = some (.int .i64 xa) := (hb3.cell hwl).trans (by first | exact (World.cell?_alloc_lt _ _ _ (by simp; omega)).trans x0 | exact (World.cell?_alloc_lt _ _ _ (by simp; omega)).trans ((World.cell?_alloc_lt _ _ _ (by simp; omega)).trans x0)); have y1 : w3.cell? ⟨w.heap.size, 1, none⟩ = some (.int .i64 xb) := (hb3.cell hwl).trans (by first | exact (World.cell?_alloc_lt _ _ _ (by simp; omega)).trans x1 | exact (World.cell?_alloc_lt _ _ _ (by simp; omega)).trans ((World.cell?_alloc_lt _ _ _ (by simp; omega)).trans x1)); have y2 : w3.cell? ⟨w.heap.size, 2, none⟩ = some (.int .i64 xc) := (hb3.cell hwl).trans (by first | exact (World.cell?_alloc_lt _ _ _ (by simp; omega)).trans x2 | exact (World.cell?_alloc_lt _ _ _ (by simp; omega)).trans ((World.cell?_alloc_lt _ _ _ (by simp; omega)).trans x2)); clear hown3 hb3 hg3)
      | (refine step_append_row rfl (.tmp 20) (.tmp 22) _ rfl w1.heap.size 28 _ 3 24 Tryd.underlying22 infoRange rfl (by omega) _ n (rangesV t) rfl (by first | exact HO3.out | exact HO3.out.alloc _ | exact HO3.out.drew | exact (HO3.out.alloc _).drew) _ _ 1 1 (rangesV [(xa, xb, xc)]) rfl (by first | exact row_of_block (heap_alloc_new _ _) | exact row_of_block (blk_a HG3.out rfl) | exact row_of_block (blk_b HG3.out rfl)) one_ranges (by unfold maxLen; omega) (by omega) (by first | exact hz3 | (rw [World.size_alloc]; omega) | (show _ ≤ (World.alloc _ _).heap.size; rw [World.size_alloc]; omega)) ?_; intro A4 c4 w4 hown4 hb4 hg4; have HO4 := Lib.hid hown4; have HB4 := Lib.hid hb4; clear hown4 hb4 hg4))
    all_goals
      have BW : Below w1.heap.size w1 w4 := by
        first
        | exact ((((Below.refl w1.heap.size w1).alloc (Nat.le_refl _) _).drew.trans HB3.out).alloc hz3 _).trans HB4.out
        | exact ((((Below.refl w1.heap.size w1).alloc (Nat.le_refl _) _).alloc (by rw [World.size_alloc]; omega) _).drew.trans HB3.out).trans HB4.out
      have M4 := Lib.hid (show RangesAt w4 w4.heap.size A4 (n + 1) c4 (t ++ [(xa, xb, xc)]) from by unfold RangesAt; rw [rangesV_app]; exact RowAt.of_own HO4.out)
      have T4 := Lib.hid (H1.out.later BW)
      have X4 := Lib.hid ((BW.block w.heap.size hwl).trans X1.out)
      have U4 := Lib.hid (U1.out.later BW)
      have B4 := Lib.hid (B1.out.trans (BW.mono (by omega)))
      have hx4 : w.heap.size < w4.heap.size := Nat.lt_of_lt_of_le hwl BW.size
      clear HB3 HB4 HG3 HO3 HO4 BW y0 y1 y2 x0 x1 x2 hz3
      obtain ⟨v2, hv2⟩ : ∃ v2, mayT (t ++ [(xa, xb, xc)]) = v2 := ⟨_, rfl⟩
      have HV2 := Lib.hid hv2
      have hm1 : n + 1 ≤ 1000 := by omega
      have hm2 : n ≤ 1000 := by omega
      cases v2
      · have HF := Lib.hid (show clsT (t ++ [(xa, xb, xc)]) p = 0 from by unfold clsT; rw [if_neg (by rw [hv2]; simp)])
        clear hv2
        go_wp2_with fail
        refine (rmay_as _ M4.out HV2).mono ?_
        rintro e w5 ⟨rfl, hb⟩
        have M5 := Lib.hid (M4.out.later hb)
        have U5 := Lib.hid (U4.out.later hb)
        have B5 := Lib.hid (B4.out.trans (hb.mono B4.out.size))
        clear hb
        go_wp2_with fail
        refine (fixed02 _ U5.out).mono ?_
        rintro e w6 ⟨rfl, hb⟩
        have M6 := Lib.hid (M5.out.later hb)
        have B6 := Lib.hid (B5.out.trans (hb.mono B5.out.size))
        clear hb
        go_wp2_with fail
        refine (of_as _ M6.out hm1 HF).mono ?_
        rintro e w7 ⟨rfl, hb⟩
        have M7 := Lib.hid (M6.out.later hb)
        have B7 := Lib.hid (B6.out.trans (hb.mono B6.out.size))
        clear hb
        go_wp2_with fail
        refine (may_as _ M7.out hm1 HV2).mono ?_
        rintro e w8 ⟨rfl, hb⟩
        have B8 := Lib.hid (B7.out.trans (hb.mono B7.out.size))
        clear hb
        go_wp2_with fail
        go_ret
        exact ⟨rfl, B8.out⟩
      · obtain ⟨r, hr⟩ : ∃ r, clsT t p = r := ⟨_, rfl⟩
        have HR := Lib.hid hr
        have hsn := may_snoc_eq (p := p) hv2 HV.out
        rw [hr] at hsn
        simp only at hsn
        have hcs : ¬ xa ≤ p ∨ (xa ≤ p ∧ ¬ p ≤ xb) ∨ (xa ≤ p ∧ p ≤ xb) := by omega
        clear hv2 hr
        rcases hcs with h1 | ⟨h1, h2⟩ | ⟨h1, h2⟩
        · have HF := Lib.hid (show clsT (t ++ [(xa, xb, xc)]) p = r from by rw [hsn, if_neg (by omega)])
          have f1 : decide (xa ≤ p) = false := decide_eq_false h1
          clear hsn
          go_wp2_with fail
          refine (rmay_as _ M4.out HV2).mono ?_
          rintro e w5 ⟨rfl, hb⟩
          have M5 := Lib.hid (M4.out.later hb)
          have T5 := Lib.hid (T4.out.later hb)
          have U5 := Lib.hid (U4.out.later hb)
          have X5 := Lib.hid ((hb.block w.heap.size hx4).trans X4.out)
          have hx5 : w.heap.size < w5.heap.size := Nat.lt_of_lt_of_le hx4 hb.size
          have B5 := Lib.hid (B4.out.trans (hb.mono B4.out.size))
          clear hb
          go_wp2_with fail
          refine (of_as _ T5.out hm2 HR).mono ?_
          rintro e w6 ⟨rfl, hb⟩
          have M6 := Lib.hid (M5.out.later hb)
          have U6 := Lib.hid (U5.out.later hb)
          have X6 := Lib.hid ((hb.block w.heap.size hx5).trans X5.out)
          have B6 := Lib.hid (B5.out.trans (hb.mono B5.out.size))
          have z0 : w6.cell? ⟨w.heap.size, 0, none⟩ = some (.int .i64 xa) := Lib.cell_of_heap X6.out 0
          have z1 : w6.cell? ⟨w.heap.size, 1, none⟩ = some (.int .i64 xb) := Lib.cell_of_heap X6.out 1
          have z2 : w6.cell? ⟨w.heap.size, 2, none⟩ = some (.int .i64 xc) := Lib.cell_of_heap X6.out 2
          clear hb
          go_wp2_with fail
          clear z0 z1 z2
          refine (fixed02 _ U6.out).mono ?_
          rintro e w7 ⟨rfl, hb⟩
          have M7 := Lib.hid (M6.out.later hb)
          have B7 := Lib.hid (B6.out.trans (hb.mono B6.out.size))
          clear hb
          go_wp2_with fail
          refine (of_as _ M7.out hm1 HF).mono ?_
          rintro e w8 ⟨rfl, hb⟩
          have B8 := Lib.hid (B7.out.trans (hb.mono B7.out.size))
          clear hb
          go_wp2_with fail
          go_ret
          exact ⟨by simp, B8.out⟩
        · have HF := Lib.hid (show clsT (t ++ [(xa, xb, xc)]) p = r from by rw [hsn, if_neg (by omega)])
          have f1 : decide (xa ≤ p) = true := decide_eq_true h1
          have f2 : decide (p ≤ xb) = false := decide_eq_false h2
          clear hsn
          go_wp2_with fail
          refine (rmay_as _ M4.out HV2).mono ?_
          rintro e w5 ⟨rfl, hb⟩
          have M5 := Lib.hid (M4.out.later hb)
          have T5 := Lib.hid (T4.out.later hb)
          have U5 := Lib.hid (U4.out.later hb)
          have X5 := Lib.hid ((hb.block w.heap.size hx4).trans X4.out)
          have hx5 : w.heap.size < w5.heap.size := Nat.lt_of_lt_of_le hx4 hb.size
          have B5 := Lib.hid (B4.out.trans (hb.mono B4.out.size))
          clear hb
          go_wp2_with fail
          refine (of_as _ T5.out hm2 HR).mono ?_
          rintro e w6 ⟨rfl, hb⟩
          have M6 := Lib.hid (M5.out.later hb)
          have U6 := Lib.hid (U5.out.later hb)
          have X6 := Lib.hid ((hb.block w.heap.size hx5).trans X5.out)
          have B6 := Lib.hid (B5.out.trans (hb.mono B5.out.size))
          have z0 : w6.cell? ⟨w.heap.size, 0, none⟩ = some (.int .i64 xa) := Lib.cell_of_heap X6.out 0
          have z1 : w6.cell? ⟨w.heap.size, 1, none⟩ = some (.int .i64 xb) := Lib.cell_of_heap X6.out 1
          have z2 : w6.cell? ⟨w.heap.size, 2, none⟩ = some (.int .i64 xc) := Lib.cell_of_heap X6.out 2
          clear hb
          go_wp2_with fail
          clear z0 z1 z2
          refine (fixed02 _ U6.out).mono ?_
          rintro e w7 ⟨rfl, hb⟩
          have M7 := Lib.hid (M6.out.later hb)
          have B7 := Lib.hid (B6.out.trans (hb.mono B6.out.size))
          clear hb
          go_wp2_with fail
          refine (of_as _ M7.out hm1 HF).mono ?_
          rintro e w8 ⟨rfl, hb⟩
          have B8 := Lib.hid (B7.out.trans (hb.mono B7.out.size))
          clear hb
          go_wp2_with fail
          go_ret
          exact ⟨by simp, B8.out⟩
        · have HF := Lib.hid (show clsT (t ++ [(xa, xb, xc)]) p = xc from by rw [hsn, if_pos ⟨h1, h2⟩])
          have f1 : decide (xa ≤ p) = true := decide_eq_true h1
          have f2 : decide (p ≤ xb) = true := decide_eq_true h2
          clear hsn
          go_wp2_with fail
          refine (rmay_as _ M4.out HV2).mono ?_
          rintro e w5 ⟨rfl, hb⟩
          have M5 := Lib.hid (M4.out.later hb)
          have T5 := Lib.hid (T4.out.later hb)
          have U5 := Lib.hid (U4.out.later hb)
          have X5 := Lib.hid ((hb.block w.heap.size hx4).trans X4.out)
          have hx5 : w.heap.size < w5.heap.size := Nat.lt_of_lt_of_le hx4 hb.size
          have B5 := Lib.hid (B4.out.trans (hb.mono B4.out.size))
          clear hb
          go_wp2_with fail
          refine (of_as _ T5.out hm2 HR).mono ?_
          rintro e w6 ⟨rfl, hb⟩
          have M6 := Lib.hid (M5.out.later hb)
          have U6 := Lib.hid (U5.out.later hb)
          have X6 := Lib.hid ((hb.block w.heap.size hx5).trans X5.out)
          have B6 := Lib.hid (B5.out.trans (hb.mono B5.out.size))
          have z0 : w6.cell? ⟨w.heap.size, 0, none⟩ = some (.int .i64 xa) := Lib.cell_of_heap X6.out 0
          have z1 : w6.cell? ⟨w.heap.size, 1, none⟩ = some (.int .i64 xb) := Lib.cell_of_heap X6.out 1
          have z2 : w6.cell? ⟨w.heap.size, 2, none⟩ = some (.int .i64 xc) := Lib.cell_of_heap X6.out 2
          clear hb
          go_wp2_with fail
          clear z0 z1 z2
          refine (fixed02 _ U6.out).mono ?_
          rintro e w7 ⟨rfl, hb⟩
          have M7 := Lib.hid (M6.out.later hb)
          have B7 := Lib.hid (B6.out.trans (hb.mono B6.out.size))
          clear hb
          go_wp2_with fail
          refine (of_as _ M7.out hm1 HF).mono ?_
          rintro e w8 ⟨rfl, hb⟩
          have B8 := Lib.hid (B7.out.trans (hb.mono B7.out.size))
          clear hb
          go_wp2_with fail
          go_ret
          exact ⟨by simp, B8.out⟩
end Go.Proofs.YthhcdblkbdnbeaaDoor
