/- The walk of rank.row. -/
import Derived.Test.YtefhifmilmedhaaDoorRankLaw
import Derived.Test.YtefhifmilmedhaaDoorLineAs
import Derived.Test.YtefhifmilmedhaaDoorB64Read
namespace Go.Proofs.YtefhifmilmedhaaDoor
open Go.RowKit

theorem dec_as {s : ByteArray} {b : List UInt8} {n : Nat} {ok : Bool} {k : Nat} (w : World) (hm : s.size ≤ 100000) (hd : dec64 s.data.toList = (b, n, ok)) (hk : b.length = k) :
    Calls Tryd.prog 61 #[.string s] w fun e w' => ∃ A c, e = .returned (.tuple #[.slice A k c, .int .i64 (n : Int), .bool ok]) ∧ BytesAt w' w'.heap.size A k c b ∧ Below w.heap.size w w' := by
  subst hk
  refine (decode64_any s w hm).mono ?_
  rintro e w' ⟨v, rfl, hown, hb⟩
  rw [hd] at hown ⊢
  obtain ⟨A, c, rfl⟩ := own_form hown
  exact ⟨A, c, rfl, RowAt.of_own hown, hb⟩

set_option maxRecDepth 100000 in
set_option maxHeartbeats 1000000 in
theorem row_any (s : ByteArray) (hm : s.size ≤ 99999) (w : World) : Calls Tryd.prog 46 #[.string s] w fun e w' =>
    e = .returned (.tuple #[.agg #[.string (strOf (rowR s.data.toList).1), .int .i64 ((rowR s.data.toList).2.1 : Int)], .int .i64 ((rowR s.data.toList).2.2 : Int)]) ∧ Below w.heap.size w w' := by
  obtain ⟨ws, hws⟩ : ∃ ws, (wordsL s.data.toList).getD [] = ws := ⟨_, rfl⟩
  obtain ⟨o, ho⟩ : ∃ o, (wordsL s.data.toList).isSome = o := ⟨_, rfl⟩
  obtain ⟨n, hn⟩ : ∃ n, ws.length = n := ⟨_, rfl⟩
  by_cases hgood : o = true ∧ n = 2
  · obtain ⟨ho1, hn1⟩ := hgood
    subst ho1 hn1
    obtain ⟨a, b, hab⟩ : ∃ a b, ws = [a, b] := by
      match ws, hn with
      | [a, b], _ => exact ⟨a, b, rfl⟩
    subst hab
    have hw : wordsL s.data.toList = some [a, b] := by
      cases h : wordsL s.data.toList with
      | none => rw [h] at ho; cases ho
      | some x => rw [h, Option.getD_some] at hws; rw [hws]
    have hla : (strOf a).size ≤ 99999 := by have := word_le hw a (by simp); rw [str_len] at this; rw [strOf_size]; omega
    have hlb : (strOf b).size ≤ 99999 := by have := word_le hw b (by simp); rw [str_len] at this; rw [strOf_size]; omega
    have hr := rowR_two hw
    obtain ⟨t, m, ok, hd⟩ : ∃ t m ok, dec64 a = (t, m, ok) := ⟨_, _, _, rfl⟩
    obtain ⟨k, hk⟩ : ∃ k, t.length = k := ⟨_, rfl⟩
    obtain ⟨nb, hnb⟩ : ∃ nb : Nat, (numL b).getD 0 = nb := ⟨_, rfl⟩
    obtain ⟨is, his⟩ : ∃ is, (numL b).isSome = is := ⟨_, rfl⟩
    rw [hd, hnb] at hr
    have hcase : (rowR s.data.toList = if ok = false ∨ is = false then ([], 0, 2) else if 64 < k then ([], 0, 7) else (t, nb, 0)) := by
      rw [hr, hk]
      have : numL b = none ↔ is = false := by rw [← his, Option.isSome_eq_false_iff, Option.isNone_iff_eq_none]
      simp only [this]
    have HO := Lib.hid ho
    have HW := Lib.hid hws
    have HD := Lib.hid (show dec64 (strOf a).data.toList = (t, m, ok) from hd)
    have HK := Lib.hid hk
    have HNB := Lib.hid (show (((numL (strOf b).data.toList).getD 0 : Nat) : Int) = (nb : Int) from by rw [strOf_list, hnb])
    have HIS := Lib.hid (show (numL (strOf b).data.toList).isSome = is from his)
    have HC := Lib.hid hcase
    clear ho hws hn hw hr hd hk hnb his hcase
    go_enter Tryd.func46, Tryd.ntmps46
    go_wp2_with fail
    refine (words_as (n := 2) (by omega) _ HO.out HW.out rfl).mono ?_
    rintro e w1 ⟨A1, c1, rfl, h1, hb1⟩
    obtain ⟨g1, o1, rfl, hg1, hc1⟩ := h1.cells (by decide)
    have G1 := Lib.hid (show w1.heap[w.heap.size]? = some (.cells #[.string ⟨#[]⟩, .int .i64 0] 40 (0, 0)) from (hb1.block _ (by simp)).trans (heap_alloc_new w _))
    have B1 := Lib.hid (((Below.refl w.heap.size w).alloc (Nat.le_refl _) _).trans (hb1.mono (by simp)))
    have LT := Lib.hid (show w.heap.size < w1.heap.size from by have := hb1.size; simp at this; omega)
    have e0 : w1.cell? ⟨g1, o1, none⟩ = some (.string (strOf a)) := hc1 0 (Nat.succ_pos _)
    have E1 := Lib.hid (show w1.cell? ⟨g1, o1 + 1, none⟩ = some (.string (strOf b)) from hc1 1 (Nat.lt_succ_self _))
    clear hb1 h1 hc1
    go_wp2_with fail
    refine (dec_as _ (by omega) HD.out HK.out).mono ?_
    rintro e w2 ⟨A2, c2, rfl, h2, hb2⟩
    have e1 : w2.cell? ⟨g1, o1 + 1, none⟩ = some (.string (strOf b)) := (hb2.cell (p := ⟨g1, o1 + 1, none⟩) hg1).trans E1.out
    have G2 := Lib.hid ((hb2.block _ LT.out).trans G1.out)
    have B2 := Lib.hid (B1.out.trans (hb2.mono B1.out.size))
    have T2 := Lib.hid h2
    clear hb2 h2 e0
    go_wp2_with fail
    refine (number_as _ HNB.out HIS.out).mono ?_
    rintro e w3 ⟨rfl, q, rfl⟩
    have c0 : (w2.drewN q).cell? ⟨w.heap.size, 0, none⟩ = some (.string ⟨#[]⟩) := Lib.cell_of_heap G2.out 0
    have c1' : (w2.drewN q).cell? ⟨w.heap.size, 1, none⟩ = some (.int .i64 0) := Lib.cell_of_heap G2.out 1
    have f0 : (w2.drewN q).frozen? ⟨w.heap.size, 0, none⟩ = false := Lib.frozen_of_heap G2.out 0
    have f1 : (w2.drewN q).frozen? ⟨w.heap.size, 1, none⟩ = false := Lib.frozen_of_heap G2.out 1
    have B3 := Lib.hid (below_drewN B2.out q)
    clear e1
    cases ok with
    | false =>
      have HR := Lib.hid (HC.out.trans (if_pos (.inl rfl)))
      go_wp2_with fail
      have d0 : (((w2.drewN q).setCell ⟨w.heap.size, 0, none⟩ (.string ⟨#[]⟩)).setCell ⟨w.heap.size, 1, none⟩ (.int .i64 0)).cell? ⟨w.heap.size, 0, none⟩ = some (.string ⟨#[]⟩) := by
        rw [World.cell?_setCell_other _ _ _ _ (by intro e; injection e with _ e; cases e)]
        exact World.cell?_setCell_same' _ _ _ (by rw [c0]; rfl)
      have d1 : (((w2.drewN q).setCell ⟨w.heap.size, 0, none⟩ (.string ⟨#[]⟩)).setCell ⟨w.heap.size, 1, none⟩ (.int .i64 0)).cell? ⟨w.heap.size, 1, none⟩ = some (.int .i64 0) :=
        World.cell?_setCell_same' _ _ _ (by rw [World.cell?_setCell_other _ _ _ _ (by intro e; injection e with _ e; cases e), c1']; rfl)
      refine bodyPost_ret (v := .tuple #[.agg #[.string ⟨#[]⟩, .int .i64 0], .int .i64 2]) (by simp [results, Tryd.f46, go_sem, d0, d1]) rfl ?_
      exact ⟨by rw [HR.out]; rfl, (B3.out.setCell (p := ⟨w.heap.size, 0, none⟩) (Nat.le_refl _) _).setCell (p := ⟨w.heap.size, 1, none⟩) (Nat.le_refl _) _⟩
    | true =>
      cases is with
      | false =>
        have HR := Lib.hid (HC.out.trans (if_pos (.inr rfl)))
        go_wp2_with fail
        have d0 : (((w2.drewN q).setCell ⟨w.heap.size, 0, none⟩ (.string ⟨#[]⟩)).setCell ⟨w.heap.size, 1, none⟩ (.int .i64 0)).cell? ⟨w.heap.size, 0, none⟩ = some (.string ⟨#[]⟩) := by
          rw [World.cell?_setCell_other _ _ _ _ (by intro e; injection e with _ e; cases e)]
          exact World.cell?_setCell_same' _ _ _ (by rw [c0]; rfl)
        have d1 : (((w2.drewN q).setCell ⟨w.heap.size, 0, none⟩ (.string ⟨#[]⟩)).setCell ⟨w.heap.size, 1, none⟩ (.int .i64 0)).cell? ⟨w.heap.size, 1, none⟩ = some (.int .i64 0) :=
          World.cell?_setCell_same' _ _ _ (by rw [World.cell?_setCell_other _ _ _ _ (by intro e; injection e with _ e; cases e), c1']; rfl)
        refine bodyPost_ret (v := .tuple #[.agg #[.string ⟨#[]⟩, .int .i64 0], .int .i64 2]) (by simp [results, Tryd.f46, go_sem, d0, d1]) rfl ?_
        exact ⟨by rw [HR.out]; rfl, (B3.out.setCell (p := ⟨w.heap.size, 0, none⟩) (Nat.le_refl _) _).setCell (p := ⟨w.heap.size, 1, none⟩) (Nat.le_refl _) _⟩
      | true =>
        by_cases h64 : 64 < k
        · have h64' : (64 : Int) < (k : Int) := by omega
          have HR := Lib.hid (show rowR s.data.toList = ([], 0, 7) from HC.out.trans (by rw [if_neg (by simp), if_pos h64]))
          go_wp2_with fail
          have d0 : (((w2.drewN q).setCell ⟨w.heap.size, 0, none⟩ (.string ⟨#[]⟩)).setCell ⟨w.heap.size, 1, none⟩ (.int .i64 0)).cell? ⟨w.heap.size, 0, none⟩ = some (.string ⟨#[]⟩) := by
            rw [World.cell?_setCell_other _ _ _ _ (by intro e; injection e with _ e; cases e)]
            exact World.cell?_setCell_same' _ _ _ (by rw [c0]; rfl)
          have d1 : (((w2.drewN q).setCell ⟨w.heap.size, 0, none⟩ (.string ⟨#[]⟩)).setCell ⟨w.heap.size, 1, none⟩ (.int .i64 0)).cell? ⟨w.heap.size, 1, none⟩ = some (.int .i64 0) :=
            World.cell?_setCell_same' _ _ _ (by rw [World.cell?_setCell_other _ _ _ _ (by intro e; injection e with _ e; cases e), c1']; rfl)
          refine bodyPost_ret (v := .tuple #[.agg #[.string ⟨#[]⟩, .int .i64 0], .int .i64 7]) (by simp [results, Tryd.f46, go_sem, d0, d1]) rfl ?_
          exact ⟨by rw [HR.out]; rfl, (B3.out.setCell (p := ⟨w.heap.size, 0, none⟩) (Nat.le_refl _) _).setCell (p := ⟨w.heap.size, 1, none⟩) (Nat.le_refl _) _⟩
        · have h64' : ¬ (64 : Int) < (k : Int) := by omega
          have HR := Lib.hid (show rowR s.data.toList = (t, nb, 0) from HC.out.trans (by rw [if_neg (by simp), if_neg h64]))
          have cv := run_string_bytes (P := Tryd.prog) (w := w2.drewN q) 22 9 5 Tryd.underlying22 Tryd.underlying5 Tryd.underlying9 (RowAt.drewN T2.out q)
          go_wp2_with fail
          have d0 : (((w2.drewN q).setCell ⟨w.heap.size, 0, none⟩ (.string (strOf t))).setCell ⟨w.heap.size, 1, none⟩ (.int .i64 (nb : Int))).cell? ⟨w.heap.size, 0, none⟩ = some (.string (strOf t)) := by
            rw [World.cell?_setCell_other _ _ _ _ (by intro e; injection e with _ e; cases e)]
            exact World.cell?_setCell_same' _ _ _ (by rw [c0]; rfl)
          have d1 : (((w2.drewN q).setCell ⟨w.heap.size, 0, none⟩ (.string (strOf t))).setCell ⟨w.heap.size, 1, none⟩ (.int .i64 (nb : Int))).cell? ⟨w.heap.size, 1, none⟩ = some (.int .i64 (nb : Int)) :=
            World.cell?_setCell_same' _ _ _ (by rw [World.cell?_setCell_other _ _ _ _ (by intro e; injection e with _ e; cases e), c1']; rfl)
          refine bodyPost_ret (v := .tuple #[.agg #[.string (strOf t), .int .i64 (nb : Int)], .int .i64 0]) (by simp [results, Tryd.f46, go_sem, d0, d1]) rfl ?_
          exact ⟨by rw [HR.out]; rfl, (B3.out.setCell (p := ⟨w.heap.size, 0, none⟩) (Nat.le_refl _) _).setCell (p := ⟨w.heap.size, 1, none⟩) (Nat.le_refl _) _⟩
  · have HR := Lib.hid (show rowR s.data.toList = ([], 0, 2) from rowR_bad (fun a b e => hgood (by
      rw [e] at ho hws
      rw [Option.getD_some] at hws
      subst hws
      exact ⟨ho.symm, hn.symm⟩)))
    have hb : (!o || !((n : Int) == 2)) = true := by
      cases o with
      | false => rfl
      | true =>
        have : ¬ n = 2 := fun e => hgood ⟨rfl, e⟩
        have := beq_no (a := (n : Int)) (b := 2) (by omega)
        rw [this]; rfl
    have HO := Lib.hid ho
    have HW := Lib.hid hws
    have HN := Lib.hid hn
    clear ho hws hn
    go_enter Tryd.func46, Tryd.ntmps46
    go_wp2_with fail
    refine (words_as (by omega) _ HO.out HW.out HN.out).mono ?_
    rintro e w1 ⟨A1, c1, rfl, h1, hb1⟩
    have G1 := Lib.hid (show w1.heap[w.heap.size]? = some (.cells #[.string ⟨#[]⟩, .int .i64 0] 40 (0, 0)) from (hb1.block _ (by simp)).trans (heap_alloc_new w _))
    have B1 := Lib.hid (((Below.refl w.heap.size w).alloc (Nat.le_refl _) _).trans (hb1.mono (by simp)))
    have c0 : w1.cell? ⟨w.heap.size, 0, none⟩ = some (.string ⟨#[]⟩) := Lib.cell_of_heap G1.out 0
    have c1' : w1.cell? ⟨w.heap.size, 1, none⟩ = some (.int .i64 0) := Lib.cell_of_heap G1.out 1
    have f0 : w1.frozen? ⟨w.heap.size, 0, none⟩ = false := Lib.frozen_of_heap G1.out 0
    have f1 : w1.frozen? ⟨w.heap.size, 1, none⟩ = false := Lib.frozen_of_heap G1.out 1
    clear hb1 h1
    cases o with
    | false =>
      go_wp2_with fail
      have d0 : ((w1.setCell ⟨w.heap.size, 0, none⟩ (.string ⟨#[]⟩)).setCell ⟨w.heap.size, 1, none⟩ (.int .i64 0)).cell? ⟨w.heap.size, 0, none⟩ = some (.string ⟨#[]⟩) := by
        rw [World.cell?_setCell_other _ _ _ _ (by intro e; injection e with _ e; cases e)]
        exact World.cell?_setCell_same' _ _ _ (by rw [c0]; rfl)
      have d1 : ((w1.setCell ⟨w.heap.size, 0, none⟩ (.string ⟨#[]⟩)).setCell ⟨w.heap.size, 1, none⟩ (.int .i64 0)).cell? ⟨w.heap.size, 1, none⟩ = some (.int .i64 0) :=
        World.cell?_setCell_same' _ _ _ (by rw [World.cell?_setCell_other _ _ _ _ (by intro e; injection e with _ e; cases e), c1']; rfl)
      refine bodyPost_ret (v := .tuple #[.agg #[.string ⟨#[]⟩, .int .i64 0], .int .i64 2]) (by simp [results, Tryd.f46, go_sem, d0, d1]) rfl ?_
      exact ⟨by rw [HR.out]; rfl, (B1.out.setCell (p := ⟨w.heap.size, 0, none⟩) (Nat.le_refl _) _).setCell (p := ⟨w.heap.size, 1, none⟩) (Nat.le_refl _) _⟩
    | true =>
      have hn2 : (n : Int) ≠ 2 := by
        intro e
        exact hgood ⟨rfl, by omega⟩
      have hbn := beq_no hn2
      go_wp2_with fail
      have d0 : ((w1.setCell ⟨w.heap.size, 0, none⟩ (.string ⟨#[]⟩)).setCell ⟨w.heap.size, 1, none⟩ (.int .i64 0)).cell? ⟨w.heap.size, 0, none⟩ = some (.string ⟨#[]⟩) := by
        rw [World.cell?_setCell_other _ _ _ _ (by intro e; injection e with _ e; cases e)]
        exact World.cell?_setCell_same' _ _ _ (by rw [c0]; rfl)
      have d1 : ((w1.setCell ⟨w.heap.size, 0, none⟩ (.string ⟨#[]⟩)).setCell ⟨w.heap.size, 1, none⟩ (.int .i64 0)).cell? ⟨w.heap.size, 1, none⟩ = some (.int .i64 0) :=
        World.cell?_setCell_same' _ _ _ (by rw [World.cell?_setCell_other _ _ _ _ (by intro e; injection e with _ e; cases e), c1']; rfl)
      refine bodyPost_ret (v := .tuple #[.agg #[.string ⟨#[]⟩, .int .i64 0], .int .i64 2]) (by simp [results, Tryd.f46, go_sem, d0, d1]) rfl ?_
      exact ⟨by rw [HR.out]; rfl, (B1.out.setCell (p := ⟨w.heap.size, 0, none⟩) (Nat.le_refl _) _).setCell (p := ⟨w.heap.size, 1, none⟩) (Nat.le_refl _) _⟩
end Go.Proofs.YtefhifmilmedhaaDoor
