/- The walk of line.Words. -/
import Derived.Test.YtefhifmilmedhaaStrs
namespace Go.Proofs.Ytefhifmilmedhaa
open Go.RowKit Go.Shelf
attribute [local go_sem] Oper.semAt_some

set_option maxRecDepth 100000 in
set_option maxHeartbeats 1000000 in
theorem words_in (F : Fence) (n : Nat) (h1 : F.fn 23) (h2 : F.fn 22) (h3 : F.fn 31) (hro : F.round = none) (hn : 3 ≤ n) (s : ByteArray) (hm : s.size ≤ 1099511627776) (w : World) :
    CallsIn F n Try.prog 23 #[.string s] w fun e W' => ∃ v, e = .returned (.tuple #[v, .bool (wordsL s.data.toList).isSome]) ∧
      W'.ownsRow w.heap.size 9 1 v ((wordsL s.data.toList).getD []).length (strsV ((wordsL s.data.toList).getD [])) ∧ Below w.heap.size w W' := by
  have hn1 : 1 ≤ n := by omega
  obtain ⟨i0, hi, hz0, hz1, hz2⟩ := info_parts infoStr
  refine callsIn_of_wp_marks Try.func23 rfl h1 ?_ hro
  simp only [Try.ntmps23, List.size_toArray, List.length_cons, List.length_nil, Nat.reduceAdd, Nat.reduceSub, Array.replicate_succ, Array.replicate_zero, List.push_toArray, List.append_toArray, List.nil_append, List.cons_append]
  gi_wp2_with (gi_at_call 22; refine (parts_in F (n - 1) h2 hro _ _ _).mono ?_; rintro e w' ⟨rfl, rfl⟩)
  obtain ⟨wa, hwa⟩ : ∃ W0, W0 = w.alloc (.cells #[.slice none 0 0] 44) := ⟨_, rfl⟩
  obtain ⟨wb, hwb⟩ : ∃ W0, W0 = wa.alloc (.cells #[.bool false] 4) := ⟨_, rfl⟩
  obtain ⟨wc, hwc⟩ : ∃ W0, W0 = wb.alloc (.cells #[.slice none 0 0] 44) := ⟨_, rfl⟩
  obtain ⟨wd, hwd⟩ : ∃ W0, W0 = wc.alloc (.cells #[.string s] 9) := ⟨_, rfl⟩
  obtain ⟨W0, hW0⟩ : ∃ W0, W0 = wd.alloc (.cells #[.int .u8 32] 5) := ⟨_, rfl⟩
  have za : wa.heap.size = w.heap.size + 1 := by rw [hwa]; simp
  have zb : wb.heap.size = w.heap.size + 1 + 1 := by rw [hwb]; simp [za]
  have zc : wc.heap.size = w.heap.size + 1 + 1 + 1 := by rw [hwc]; simp [zb]
  have zd : wd.heap.size = w.heap.size + 1 + 1 + 1 + 1 := by rw [hwd]; simp [zc]
  have z0 : W0.heap.size = w.heap.size + 5 := by rw [hW0]; simp [zd]
  have bR := Boxed.new w 44 (.slice none 0 0)
  have bB := Boxed.new wa 4 (.bool false)
  have bO := Boxed.new wb 44 (.slice none 0 0)
  have bS := Boxed.new wc 9 (.string s)
  have bC := Boxed.new wd 5 (.int .u8 32)
  rw [za] at bB
  rw [zb] at bO
  rw [zc] at bS
  rw [zd] at bC
  rw [← hwa] at bR
  rw [← hwb] at bB
  rw [← hwc] at bO
  rw [← hwd] at bS
  rw [← hW0] at bC
  have bR := (((bR.alloc (.cells #[.bool false] 4)).alloc (.cells #[.slice none 0 0] 44)).alloc (.cells #[.string s] 9)).alloc (.cells #[.int .u8 32] 5)
  have bB := ((bB.alloc (.cells #[.slice none 0 0] 44)).alloc (.cells #[.string s] 9)).alloc (.cells #[.int .u8 32] 5)
  have bO := (bO.alloc (.cells #[.string s] 9)).alloc (.cells #[.int .u8 32] 5)
  have bS := bS.alloc (.cells #[.int .u8 32] 5)
  rw [← hwb, ← hwc, ← hwd, ← hW0] at bR
  rw [← hwc, ← hwd, ← hW0] at bB
  rw [← hwd, ← hW0] at bO
  rw [← hW0] at bS
  have hB0 : Below w.heap.size w W0 := by
    rw [hW0, hwd, hwc, hwb, hwa]
    exact (((((Below.refl _ w).alloc (Nat.le_refl _) _).alloc (by simp) _).alloc (by simp; omega) _).alloc (by simp; omega) _).alloc (by simp; omega) _
  rw [← hwa, ← hwb, ← hwc, ← hwd, ← hW0]
  refine wpIn_rangeFunc_ownG hro hn1 (gf := 31) (lb := #[.pointer (some ⟨w.heap.size + 1 + 1 + 1, 0, none⟩), .pointer (some ⟨w.heap.size + 1 + 1 + 1 + 1, 0, none⟩)]) rfl h3 (enters_of Try.func31 (by kernel_rfl) rfl)
    (parts_stops F (n - 1) h3 hro (by omega) (w.heap.size + 1 + 1 + 1) (w.heap.size + 1 + 1) s 32 (by unfold maxLen; omega) _ (by omega) bS.cell bC.cell) (fun h h' => h.trans h') (keepP_b (by omega) (by omega)) (Below.refl _ _) (fun _ => rfl)
    (fun pre W => ((∃ v, Boxed W (w.heap.size + 1 + 1) 44 v ∧ W.ownsRow (w.heap.size + 5) 9 1 v pre.length (strsV pre) ∧ [] ∉ pre)) ∧ Below (w.heap.size + 1 + 1) W0 W)
    (fun c pre W => (c = .ret ∧ [] ∈ pre ∧ W.cell? ⟨w.heap.size, 0, none⟩ = some (.slice none 0 0) ∧ W.cell? ⟨w.heap.size + 1, 0, none⟩ = some (.bool false)) ∧ Below w.heap.size W0 W)
    (OwnFrom.and (Own.from (holdsRow_own (w.heap.size + 5) (w.heap.size + 1 + 1) 44 9 1 (fun pre : List (List UInt8) => pre.length) (fun pre => strsV pre) (fun pre _ => [] ∉ pre)) _) (ownFrom_below (by omega) (by omega)))
    (fun c => OwnFrom.and (Own.from (fun s A B row hs hg hr => ⟨hs.1, hs.2.1, cell_kept hs.2.2.1 hg hr, cell_kept hs.2.2.2 hg hr⟩) _) (ownFrom_below (by omega) (by omega)))
    ⟨⟨_, bO, World.ownsRow_nil _ _ _ _, by simp⟩, Below.refl _ _⟩
    (fun x => { tmps := #[.string s, undef, .pointer (some ⟨w.heap.size, 0, none⟩), .pointer (some ⟨w.heap.size + 1, 0, none⟩), .pointer (some ⟨w.heap.size + 1 + 1, 0, none⟩), .string (strOf x), .string s, .func (.func 31) #[] #[.pointer (some ⟨w.heap.size + 1 + 1 + 1, 0, none⟩), .pointer (some ⟨w.heap.size + 1 + 1 + 1 + 1, 0, none⟩)], .string (strOf x), undef, undef, undef, undef, undef, undef, undef], defers := [] }) ?assign ?body ?done ?stop
  case assign =>
    intro l x W K hK
    gi_wp2
    exact hK
  case body =>
    rintro l pre x W ⟨⟨v, hv, hrow, hne⟩, hB⟩ hlt
    have hc := hv.cell
    have hBz := hB.size
    by_cases hx : x = []
    · have c0 := (hB.cell (p := ⟨w.heap.size, 0, none⟩) (Nat.lt_succ_of_lt (Nat.lt_succ_self _))).trans bR.cell
      have c1 := (hB.cell (p := ⟨w.heap.size + 1, 0, none⟩) (Nat.lt_succ_self _)).trans bB.cell
      have f0 := (hB.frozen (p := ⟨w.heap.size, 0, none⟩) (Nat.lt_succ_of_lt (Nat.lt_succ_self _))).trans bR.frozen
      have f1 := (hB.frozen (p := ⟨w.heap.size + 1, 0, none⟩) (Nat.lt_succ_self _)).trans bB.frozen
      have hx' : (strOf x).toList.isEmpty = true := by rw [hx, ByteArray.toList_eq, strOf_list]; rfl
      have HX := Lib.hid hx
      clear hx
      gi_wp2
      refine ⟨((KeepsOthers.setCell W _ _).trans (KeepsOthers.setCell _ _ _)).from _, ⟨rfl, List.mem_append.2 (.inr (by rw [HX.out]; simp)), ?_, ?_⟩, ((hB.mono (Nat.le_succ_of_le (Nat.le_succ _))).setCell (p := ⟨w.heap.size, 0, none⟩) (Nat.le_refl _) _).setCell (p := ⟨w.heap.size + 1, 0, none⟩) (Nat.le_succ _) _⟩
      · rw [World.cell?_setCell_other _ _ _ _ (by intro e; injection e with e _; omega)]
        exact World.cell?_setCell_same' _ _ _ (by rw [c0]; rfl)
      · exact World.cell?_setCell_same' _ _ _ (by rw [World.cell?_setCell_other _ _ _ _ (by intro e; injection e with e _; omega), c1]; rfl)
    · have hx' : (strOf x).toList.isEmpty = false := by
        rw [ByteArray.toList_eq, strOf_list]
        cases x with
        | nil => exact absurd rfl hx
        | cons => rfl
      have HX := Lib.hid hx
      clear hx
      gi_wp2_with (gi_at_builtin; refine wpListIn_append_own _ rfl _ _ 44 rfl (w.heap.size + 5) 9 i0 (.string ⟨#[]⟩) 1 16 Try.underlying44 hi hz0 hz1 hz2 rfl (by decide) _ _ _ rfl (hrow.alloc _) ⟨W.heap.size, 0, none⟩ 1 1 [.string (strOf x)] rfl rfl (cell_one_new _ _ _) (by simp [Value.oneCell']) (by unfold maxLen; omega) (by omega) (by simp; omega) ?_; intro v' w1 hown' hgrow _; obtain ⟨g', cap', rfl⟩ := ownsRow_succ hown'; obtain ⟨hv1, hv2, hr2, hk2, hb2⟩ := boxed_push (n₀ := w.heap.size + 1 + 1) (Bs := w.heap.size + 1 + 1 + 1) hv (by decide) hrow (by omega) (by omega) (Nat.le_refl _) (by omega) (by omega) hown' hgrow; have hc1 := hv1.cell; have hf1 := hv1.frozen)
      exact ⟨hk2.from _, hb2, ⟨_, hv2, by rw [strsV_snoc, List.length_append]; exact hr2, fun e => (List.mem_append.1 e).elim hne (fun e => HX.out (List.mem_singleton.1 e).symm)⟩, hB.trans hb2.1⟩
  case done =>
    rintro D ys W hD rfl ⟨⟨v, hv, hrow, hne⟩, hB⟩ hK
    obtain ⟨Av, cv, rfl⟩ := own_form hrow
    have hc := hv.cell
    have c0 := (hB.cell (p := ⟨w.heap.size, 0, none⟩) (Nat.lt_succ_of_lt (Nat.lt_succ_self _))).trans bR.cell
    have c1 := (hB.cell (p := ⟨w.heap.size + 1, 0, none⟩) (Nat.lt_succ_self _)).trans bB.cell
    have f0 := (hB.frozen (p := ⟨w.heap.size, 0, none⟩) (Nat.lt_succ_of_lt (Nat.lt_succ_self _))).trans bR.frozen
    have f1 := (hB.frozen (p := ⟨w.heap.size + 1, 0, none⟩) (Nat.lt_succ_self _)).trans bB.frozen
    have hwd : wordsL s.data.toList = some (partsF 32 [] s.data.toList) := by unfold wordsL; rw [if_neg hne]
    have HW := Lib.hid hwd
    have HR := Lib.hid hrow
    have HV := Lib.hid hv
    clear hwd hrow hv hne
    gi_wp2
    obtain ⟨W1, hW1⟩ : ∃ W1, W1 = (W.setCell ⟨w.heap.size, 0, none⟩ (.slice Av (partsF 32 [] s.data.toList).length cv)).setCell ⟨w.heap.size + 1, 0, none⟩ (.bool true) := ⟨_, rfl⟩
    rw [← hW1]
    have e0 : W1.cell? ⟨w.heap.size, 0, none⟩ = some (.slice Av (partsF 32 [] s.data.toList).length cv) := by
      rw [hW1, World.cell?_setCell_other _ _ _ _ (by intro e; injection e with e _; omega)]
      exact World.cell?_setCell_same' _ _ _ (by rw [c0]; rfl)
    have e1 : W1.cell? ⟨w.heap.size + 1, 0, none⟩ = some (.bool true) := by
      rw [hW1]
      exact World.cell?_setCell_same' _ _ _ (by rw [World.cell?_setCell_other _ _ _ _ (by intro e; injection e with e _; omega), c1]; rfl)
    have hKs : KeepsOthers W W1 := by rw [hW1]; exact (KeepsOthers.setCell W _ _).trans (KeepsOthers.setCell _ _ _)
    have hK' := hKs.same D _ hK rfl
    have hr1 : W1.ownsRow (w.heap.size + 5) 9 1 (.slice Av (partsF 32 [] s.data.toList).length cv) (partsF 32 [] s.data.toList).length (strsV (partsF 32 [] s.data.toList)) := by
      have hk : ∀ (U : World) (b : Nat) (u : Value), b < w.heap.size + 5 → U.ownsRow (w.heap.size + 5) 9 1 (.slice Av (partsF 32 [] s.data.toList).length cv) (partsF 32 [] s.data.toList).length (strsV (partsF 32 [] s.data.toList)) → (U.setCell ⟨b, 0, none⟩ u).ownsRow (w.heap.size + 5) 9 1 (.slice Av (partsF 32 [] s.data.toList).length cv) (partsF 32 [] s.data.toList).length (strsV (partsF 32 [] s.data.toList)) := by
        intro U b u hb hr
        refine hr.kept (grownBy_setCell' U b u) (.inr fun e => ?_)
        have := (hr.lt b e).1
        omega
      rw [hW1]
      exact hk _ _ _ (by omega) (hk _ _ _ (by omega) HR.out)
    have hb1 : Below w.heap.size w W1 := by
      rw [hW1]
      exact ((hB0.trans (hB.mono (Nat.le_succ_of_le (Nat.le_succ _)))).setCell (p := ⟨w.heap.size, 0, none⟩) (Nat.le_refl _) _).setCell (p := ⟨w.heap.size + 1, 0, none⟩) (Nat.le_succ _) _
    refine ⟨by simp, .inl ⟨_, _, rfl, run_takeDeferred hK', ?_⟩⟩
    have d0 := cell_kept e0 (grownBy_putObj' _ D (.deferred none)) (fun r e => by cases e; exact ⟨_, hK', rfl⟩)
    have d1 := cell_kept e1 (grownBy_putObj' _ D (.deferred none)) (fun r e => by cases e; exact ⟨_, hK', rfl⟩)
    refine ⟨.tuple #[.slice Av (partsF 32 [] s.data.toList).length cv, .bool true], by simp [results, Try.f23, go_sem, d0, d1], _, by rw [HW.out]; rfl, ?_, ?_⟩
    · rw [HW.out]; exact World.ownsRow.mono (ownsRow_putObj hr1 _ hK' rfl) (by omega)
    · exact hb1.trans (belowK_b (w := w) (Nat.le_refl _) W1 D _ _ (by omega) hK' rfl rfl)
  case stop =>
    rintro D c pre W hD hSp ⟨⟨rfl, hin, c0, c1⟩, hB⟩ hK
    have hwd : wordsL s.data.toList = none := by unfold wordsL; rw [if_pos (hSp.subset hin)]
    have HW := Lib.hid hwd
    clear hwd hin hSp
    gi_wp2
    refine ⟨by simp, .inl ⟨_, _, rfl, run_takeDeferred hK, ?_⟩⟩
    have d0 := cell_kept c0 (grownBy_putObj' _ D (.deferred none)) (fun r e => by cases e; exact ⟨_, hK, rfl⟩)
    have d1 := cell_kept c1 (grownBy_putObj' _ D (.deferred none)) (fun r e => by cases e; exact ⟨_, hK, rfl⟩)
    refine ⟨.tuple #[.slice none 0 0, .bool false], by simp [results, Try.f23, go_sem, d0, d1], _, by rw [HW.out]; rfl, ?_, ?_⟩
    · rw [HW.out]; exact World.ownsRow_nil _ _ _ _
    · exact (hB0.trans hB).trans (belowK_b (w := w) (Nat.le_refl _) W D _ _ (by omega) hK rfl rfl)

theorem words_any (s : ByteArray) (hm : s.size ≤ 1099511627776) (w : World) :
    Calls Try.prog 23 #[.string s] w fun e W' => ∃ v, e = .returned (.tuple #[v, .bool (wordsL s.data.toList).isSome]) ∧
      W'.ownsRow w.heap.size 9 1 v ((wordsL s.data.toList).getD []).length (strsV ((wordsL s.data.toList).getD [])) ∧ Below w.heap.size w W' :=
  callsIn_wide.1 (words_in Fence.wide 3 trivial trivial trivial rfl (Nat.le_refl _) s hm w)
end Go.Proofs.Ytefhifmilmedhaa
