/- The walks of the reference's row, Usual. -/
import Derived.Test.YthhcdblkbdnbeaaDoorClsUse
namespace Go.Proofs.YthhcdblkbdnbeaaDoor
open Go.RowKit
set_option linter.unusedVariables false

theorem new_ints_at (w : World) (l : List Int) (cs : Array Value) (n : Nat) (e : TypeId) (hl : (intsV l).toArray = cs) (hn : l.length = n) (hm : n ≤ maxLen) : IntsAt (w.alloc (.cells cs e)) (w.alloc (.cells cs e)).heap.size (some ⟨w.heap.size, 0, none⟩) n n l := by
  subst hl hn
  refine ⟨by rw [length_intsV, Nat.mul_one], Nat.le_refl _, hm, fun _ => ⟨_, _, rfl, by rw [World.size_alloc]; omega, fun j u hu => ?_⟩⟩
  rw [Nat.zero_add, World.cell?_alloc_at _ _ _ _ rfl]
  simpa using hu
theorem rowT_two {c : Int} {l : List Int} {k : Nat} (h : k + 1 < l.length) : rowT c (l.drop k) = (l[k], l[k + 1], c) :: rowT c (l.drop (k + 2)) := by
  rw [List.drop_eq_getElem_cons (show k < l.length by omega), List.drop_eq_getElem_cons h, rowT]
theorem rowT_end {c : Int} {l : List Int} {k : Nat} (h : ¬ k + 1 < l.length) : rowT c (l.drop k) = [] := by
  have hl : (l.drop k).length ≤ 1 := by rw [List.length_drop]; omega
  rcases hd : l.drop k with _ | ⟨x, _ | ⟨y, r⟩⟩
  · rfl
  · rfl
  · rw [hd] at hl; simp at hl

set_option maxRecDepth 100000 in
set_option maxHeartbeats 1000000 in
theorem rrow_pos {b off c : Nat} {l : List Int} (cl : Int) (w : World) (h0 : 0 < l.length) (hm : l.length ≤ 1000) (hc0 : l.length ≤ c) (hc1 : c ≤ 9223372036854775807) (hb0 : b < w.heap.size) (HC : Hid (∀ i (hi : i < l.length), w.cell? ⟨b, off + i, none⟩ = some (.int .i64 l[i]))) :
    Calls Tryd.prog 19 #[.int .i64 cl, .slice (some ⟨b, off, none⟩) l.length c] w fun e w' => ∃ v, e = .returned v ∧ w'.ownsRow w.heap.size 28 3 v (rowT cl l).length (rangesV (rowT cl l)) ∧ Below w.heap.size w w' := by
  go_enter Tryd.func19, Tryd.ntmps19
  go_wp2_with fail
  go_loopw [5, 6] (fun v u wr => ∃ (k : Nat) (d : List Rg), u = .int .i64 k ∧ k ≤ l.length + 1 ∧ d.length ≤ k ∧ Hid (d ++ rowT cl (l.drop k) = rowT cl l) ∧ wr.ownsRow w.heap.size 28 3 v d.length (rangesV d) ∧ Below w.heap.size w wr) (fun _ u _ => l.length + 1 - (intOf u).toNat)
  case atStart => exact ⟨0, [], rfl, by omega, by simp, by rfl, own_new _ _ _, (Below.refl _ _).alloc (Nat.le_refl _) _⟩
  case round =>
    obtain ⟨k, d, rfl, hk, hd, HD, hown, hbel⟩ := hrel
    have HO := Lib.hid hown
    have HB := Lib.hid hbel
    have hz := hbel.size
    by_cases hlt : k + 1 < l.length
    · have hlt1 : (k : Int) + 1 < l.length := by omega
      have c0 := (hbel.cell (p := ⟨b, off + k, none⟩) hb0).trans (HC.out k (by omega))
      have c1 := (hbel.cell (p := ⟨b, off + (k + 1), none⟩) hb0).trans (HC.out (k + 1) hlt)
      have hk1 : (k : Int) < l.length := by omega
      have hw1 : IntKind.i64.wrap ((k : Int) + 1) = ((k + 1 : Nat) : Int) := by rw [IntKind.wrap_i64]; omega
      have hk2 : (0 : Int) ≤ ((k + 1 : Nat) : Int) := by omega
      have hk3 : ((k + 1 : Nat) : Int) < l.length := by omega
      have hk5 : (0 : Int) ≤ (k : Int) + 1 := by omega
      have HT := Lib.hid (show (d ++ [(l[k], l[k + 1], cl)]) ++ rowT cl (l.drop (k + 2)) = rowT cl l from by rw [← HD.out, rowT_two hlt, List.append_assoc]; rfl)
      clear hown hbel
      obtain ⟨x0, hx0⟩ : ∃ x, l[k] = x := ⟨_, rfl⟩
      obtain ⟨x1, hx1⟩ : ∃ x, l[k + 1] = x := ⟨_, rfl⟩
      rw [hx0] at c0 HT
      rw [hx1] at c1 HT
      clear hx0 hx1
      go_wp2_with fail
      obtain ⟨i0, hi0, hz0, hzz1, hz2⟩ := info_parts infoRange
      go_region_law (
        (refine step_append_lies _ (by rfl) _ _ _ (by rfl) w.heap.size 28 i0 _ 3 24 Tryd.underlying22 hi0 hz0 hzz1 hz2 rfl (by omega) u5 d.length (rangesV d) (by rfl) ((HO.out.alloc _).drew)
          ⟨wr.heap.size, 0, none⟩ 1 1 [.int .i64 x0, .int .i64 x1, .int .i64 cl] (by rfl) (by rfl) (World.news_of_block (cs := #[.int .i64 x0, .int .i64 x1, .int .i64 cl]) (t := 28) (fr := (0, 0)) (heap_alloc_new wr _)) (by simp [Value.oneCell'])
          (by omega) (by unfold maxLen; omega) (by omega) (by simp; omega) (wr.heap.size + 1) (by simp) ?_; intro gg cap w2 hown2 hgrow hat hltg; have HO2 := Lib.hid hown2; have HG2 := Lib.hid hgrow; clear hown2 hgrow hat))
      all_goals go_wp2_with fail
      all_goals
        refine ⟨⟨k + 2, d ++ [(x0, x1, cl)], by go_num, by omega, by rw [List.length_append, List.length_singleton]; omega, HT.out, ?_, ?_⟩, by simp [intOf]; omega⟩
        · rw [List.length_append, List.length_singleton, rangesV_app]
          exact HO2.out
        · exact HB.out.trans ((((Below.refl w.heap.size wr).alloc hz _).drew).grown HG2.out (by simp; omega) (fun k hk => (HO.out.lt k hk).1))
    · have hlt1 : ¬ (k : Int) + 1 < l.length := by omega
      have HT := Lib.hid (show d = rowT cl l from by rw [← HD.out, rowT_end hlt, List.append_nil])
      clear hown hbel
      go_wp2_with fail
      obtain ⟨A9, c9, rfl⟩ := own_form HO.out
      go_ret
      rw [← HT.out]
      exact ⟨_, rfl, HO.out, HB.out⟩
theorem rrow_as {n c : Nat} {A : Option Addr} {l : List Int} {t : List Rg} {m : Nat} (cl : Int) (w : World) (h : IntsAt w w.heap.size A n c l) (h0 : 0 < l.length) (hm : l.length ≤ 1000) (ht : Hid (rowT cl l = t)) (hl : Hid (t.length = m)) :
    Calls Tryd.prog 19 #[.int .i64 cl, .slice A n c] w fun e w' => ∃ A c, e = .returned (.slice A m c) ∧ w'.ownsRow w.heap.size 28 3 (.slice A m c) m (rangesV t) ∧ Below w.heap.size w w' := by
  have hn := h.2.1
  have hc := h.2.2.1
  unfold maxLen at hc
  obtain rfl := h.len
  obtain ⟨b, off, rfl, hb, hcs⟩ := h.cells h0
  refine (rrow_pos cl w h0 hm hn (by omega) hb hcs).mono ?_
  rintro e w' ⟨v, rfl, hown, hb⟩
  rw [ht.out, hl.out] at hown
  obtain ⟨A, c, rfl⟩ := own_form hown
  exact ⟨A, c, rfl, hown, hb⟩

def l1 : List Int := [65, 90, 97, 122, 170, 170, 181, 181, 186, 186, 192, 214, 216, 246, 248, 705, 880, 883, 886, 887, 891, 893, 895, 895, 902, 902, 904, 1013, 1015, 1153, 1162, 1327, 1329, 1366, 1377, 1415, 1488, 1514, 1568, 1610, 2308, 2361, 3585, 3632, 4256, 4351, 4352, 4680, 7680, 8124, 12353, 12438, 12449, 12538, 19968, 40959, 44032, 55203, 131072, 173791]
def l2 : List Int := [48, 57, 178, 179, 185, 185, 188, 190, 1632, 1641, 2406, 2415, 8544, 8584, 65296, 65305]
def l4 : List Int := [10, 10, 13, 13]
def l3 : List Int := [9, 9, 11, 12, 32, 32, 133, 133, 160, 160, 5760, 5760, 8192, 8202, 8232, 8233, 8239, 8239, 8287, 8287, 12288, 12288]
set_option maxRecDepth 100000 in
set_option maxHeartbeats 1000000 in
theorem rusual_any (w : World) :
    Calls Tryd.prog 13 #[] w fun e w' => ∃ A c, e = .returned (.slice A 51 c) ∧ RangesAt w' w'.heap.size A 51 c refT ∧ Below w.heap.size w w' := by
  have L1 := Lib.hid (show (rowT 1 l1).length = 30 from by decide)
  have L2 := Lib.hid (show (rowT 2 l2).length = 8 from by decide)
  have L4 := Lib.hid (show (rowT 4 l4).length = 2 from by decide)
  have L3 := Lib.hid (show (rowT 3 l3).length = 11 from by decide)
  have N1 := Lib.hid (fun w : World => new_ints_at w l1 (intsV l1).toArray 60 3 rfl (by decide) (by unfold maxLen; omega))
  have N2 := Lib.hid (fun w : World => new_ints_at w l2 (intsV l2).toArray 16 3 rfl (by decide) (by unfold maxLen; omega))
  have N4 := Lib.hid (fun w : World => new_ints_at w l4 (intsV l4).toArray 4 3 rfl (by decide) (by unfold maxLen; omega))
  have N3 := Lib.hid (fun w : World => new_ints_at w l3 (intsV l3).toArray 22 3 rfl (by decide) (by unfold maxLen; omega))
  go_enter Tryd.func13, Tryd.ntmps13
  go_wp2_with fail
  refine (rrow_as 1 _ (N1.out w) (by decide) (by decide) (t := rowT 1 l1) rfl L1).mono ?_
  rintro e w1 ⟨A1, c1, rfl, hown1, hb1⟩
  have O1 := Lib.hid (cown_base hown1 (show w.heap.size ≤ _ by simp))
  have B1 := Lib.hid (((Below.refl w.heap.size w).alloc (Nat.le_refl _) _).trans (hb1.mono (by simp)))
  have hz1 := B1.out.size
  clear hown1 hb1
  go_wp2_with fail
  refine (rrow_as 2 _ (N2.out w1) (by decide) (by decide) (t := rowT 2 l2) rfl L2).mono ?_
  rintro e w2 ⟨A2, c2, rfl, hown2, hb2⟩
  have O12 := Lib.hid (cown_below (O1.out.alloc (.cells (intsV l2).toArray 3)) hb2)
  have R2 := Lib.hid (RowAt.of_own hown2)
  have B2 := Lib.hid ((B1.out.alloc hz1 (.cells (intsV l2).toArray 3)).trans (hb2.mono (by simp; omega)))
  have hz2 := B2.out.size
  clear hown2 hb2
  go_wp2_with (at_builtin; refine wpList_append_row rfl (.tmp 4) (.tmp 6) _ rfl w.heap.size 28 _ 3 24 Tryd.underlying22 infoRange rfl (by omega) _ 30 (rangesV (rowT 1 l1)) rfl O12.out w2.heap.size A2 8 c2 (rangesV (rowT 2 l2)) rfl R2.out one_ranges 38 rfl (rangesV (rowT 1 l1 ++ rowT 2 l2)) (rangesV_app _ _).symm (by unfold maxLen; omega) (by omega) hz2 ?_; intro A3 c3 w3 hown3 hb3 hg3; have O3 := Lib.hid hown3; have B3 := Lib.hid (B2.out.trans hb3); have hz3 := B3.out.size; clear hown3 hb3 hg3)
  refine (rrow_as 4 _ (N4.out w3) (by decide) (by decide) (t := rowT 4 l4) rfl L4).mono ?_
  rintro e w4 ⟨A4, c4, rfl, hown4, hb4⟩
  have O34 := Lib.hid (cown_below (O3.out.alloc (.cells (intsV l4).toArray 3)) hb4)
  have R4 := Lib.hid (RowAt.of_own hown4)
  have B4 := Lib.hid ((B3.out.alloc hz3 (.cells (intsV l4).toArray 3)).trans (hb4.mono (by simp; omega)))
  have hz4 := B4.out.size
  clear hown4 hb4
  go_wp2_with (at_builtin; refine wpList_append_row rfl (.tmp 8) (.tmp 10) _ rfl w.heap.size 28 _ 3 24 Tryd.underlying22 infoRange rfl (by omega) _ 38 (rangesV (rowT 1 l1 ++ rowT 2 l2)) rfl O34.out w4.heap.size A4 2 c4 (rangesV (rowT 4 l4)) rfl R4.out one_ranges 40 rfl (rangesV (rowT 1 l1 ++ rowT 2 l2 ++ rowT 4 l4)) (rangesV_app _ _).symm (by unfold maxLen; omega) (by omega) hz4 ?_; intro A5 c5 w5 hown5 hb5 hg5; have O5 := Lib.hid hown5; have B5 := Lib.hid (B4.out.trans hb5); have hz5 := B5.out.size; clear hown5 hb5 hg5)
  refine (rrow_as 3 _ (N3.out w5) (by decide) (by decide) (t := rowT 3 l3) rfl L3).mono ?_
  rintro e w6 ⟨A6, c6, rfl, hown6, hb6⟩
  have O56 := Lib.hid (cown_below (O5.out.alloc (.cells (intsV l3).toArray 3)) hb6)
  have R6 := Lib.hid (RowAt.of_own hown6)
  have B6 := Lib.hid ((B5.out.alloc hz5 (.cells (intsV l3).toArray 3)).trans (hb6.mono (by simp; omega)))
  have hz6 := B6.out.size
  clear hown6 hb6
  go_wp2_with (at_builtin; refine wpList_append_row rfl (.tmp 12) (.tmp 14) _ rfl w.heap.size 28 _ 3 24 Tryd.underlying22 infoRange rfl (by omega) _ 40 (rangesV (rowT 1 l1 ++ rowT 2 l2 ++ rowT 4 l4)) rfl O56.out w6.heap.size A6 11 c6 (rangesV (rowT 3 l3)) rfl R6.out one_ranges 51 rfl (rangesV (rowT 1 l1 ++ rowT 2 l2 ++ rowT 4 l4 ++ rowT 3 l3)) (rangesV_app _ _).symm (by unfold maxLen; omega) (by omega) hz6 ?_; intro A7 c7 w7 hown7 hb7 hg7; have O7 := Lib.hid hown7; have B7 := Lib.hid (B6.out.trans hb7); clear hown7 hb7 hg7)
  go_ret
  exact ⟨_, _, rfl, RowAt.of_own O7.out, B7.out⟩
end Go.Proofs.YthhcdblkbdnbeaaDoor
