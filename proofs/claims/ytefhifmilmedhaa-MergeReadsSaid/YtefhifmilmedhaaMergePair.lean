/- The walk of merge's pair. -/
import Derived.Test.YtefhifmilmedhaaMergeLaw
import Derived.Test.YtefhifmilmedhaaLetRead
import Derived.Test.YtefhifmilmedhaaLineAs
import Derived.Test.YtefhifmilmedhaaStrs
import Derived.Test.YtefhifmilmedhaaMem
import Derived.Test.YtefhifmilmedhaaRowsV
import Derived.Laws.EntriesVeiled
/- The walks of merge's first and writing; what a reader is in memory. -/
namespace Go.Proofs.Ytefhifmilmedhaa
open Go.RowKit

/-- Rows of strings are as they were. -/
def StrsKept (w w' : World) : Prop := ∀ (b0 : Nat) (v : Value) (n : Nat) (xs : List Value), w.ownsRow b0 9 1 v n xs → w'.ownsRow b0 9 1 v n xs
theorem StrsKept.refl (w : World) : StrsKept w w := fun _ _ _ _ h => h
theorem StrsKept.trans {a b c : World} (h : StrsKept a b) (h' : StrsKept b c) : StrsKept a c := fun b0 v n xs ho => h' b0 v n xs (h b0 v n xs ho)
theorem StrsKept.below {w w' : World} (h : Below w.heap.size w w') : StrsKept w w' := fun _ _ _ _ ho => own_kept ho h (Nat.le_refl _)
theorem StrsKept.grown {w w' : World} {b : Nat} {e : TypeId} {s n : Nat} {v : Value} {xs : List Value} (h : w.ownsRow b e s v n xs) (he : 9 ≠ e) (hg : w.grownBy w' v.ownBlock) : StrsKept w w' := fun _ _ _ _ ho => ho.kept hg (own_apart ho h he)
theorem own_set_other {w : World} {b0 g j : Nat} {e t : TypeId} {s n : Nat} {v u : Value} {xs : List Value} {cs : Array Value} (ho : w.ownsRow b0 e s v n xs) (hg : w.heap[g]? = some (.cells cs t (0, 0))) (he : e ≠ t) : (w.setCell ⟨g, j, none⟩ u).ownsRow b0 e s v n xs := by
  refine ⟨ho.1, ?_⟩
  rcases ho.2 with h | ⟨q, cap, cur, rfl, hb, hh, rest⟩
  · exact .inl h
  · refine .inr ⟨q, cap, cur, rfl, hb, ?_, rest⟩
    have hne : q ≠ g := by
      rintro rfl
      rw [hh] at hg
      injection hg with hg
      injection hg with _ ht
      exact he ht
    exact (Below.heap_setCell w ⟨g, j, none⟩ u q hne).trans hh
theorem StrsKept.set {w : World} {g j : Nat} {t : TypeId} {u : Value} {cs : Array Value} (hg : w.heap[g]? = some (.cells cs t (0, 0))) (he : 9 ≠ t) : StrsKept w (w.setCell ⟨g, j, none⟩ u) := fun _ _ _ _ ho => own_set_other ho hg he
theorem heap_set_at {w : World} {g j : Nat} {t : TypeId} {u : Value} {cs : Array Value} (hg : w.heap[g]? = some (.cells cs t (0, 0))) : (w.setCell ⟨g, j, none⟩ u).heap[g]? = some (.cells (cs.setIfInBounds j u) t (0, 0)) := by
  simp [World.setCell, Array.getElem?_modify, hg]

/-- The cells of pairs. -/
def pairsV (l : PairsL) : List Value := l.flatMap fun x => [.string (strOf x.1), .string (strOf x.2)]
theorem pairsV_snoc (l : PairsL) (x : List UInt8 × List UInt8) : pairsV (l ++ [x]) = pairsV l ++ [.string (strOf x.1), .string (strOf x.2)] := by simp [pairsV]
/-- The reader's next, by its phase. -/
def fnNo : Nat → Nat
  | 0 => 19
  | 1 => 29
  | _ => 36
def fnOf (ph g : Nat) : Value := .func (.func (fnNo ph)) #[.pointer (some ⟨g, 0, none⟩)] #[]
structure MrAt (w : World) (g ph : Nat) (rows : RowsL) (pairs : PairsL) (A1 : Option Addr) (c1 : Nat) (A2 : Option Addr) (c2 : Nat) : Prop where
  blk : w.heap[g]? = some (.cells #[fnOf ph g, .slice A1 rows.length c1, .slice A2 pairs.length c2, .bool (decide (ph = 2))] 55 (0, 0))
  rows : w.ownsRow (g + 1) 43 2 (.slice A1 rows.length c1) rows.length (rowsV rows)
  pairs : w.ownsRow (g + 1) 60 2 (.slice A2 pairs.length c2) pairs.length (pairsV pairs)
theorem MrAt.lt {w : World} {g ph : Nat} {rows : RowsL} {pairs : PairsL} {A1 A2 : Option Addr} {c1 c2 : Nat} (h : MrAt w g ph rows pairs A1 c1 A2 c2) : g < w.heap.size := (Array.getElem?_eq_some_iff.1 h.blk).1
theorem MrAt.below {w w' : World} {g ph : Nat} {rows : RowsL} {pairs : PairsL} {A1 A2 : Option Addr} {c1 c2 : Nat} (h : MrAt w g ph rows pairs A1 c1 A2 c2) (hb : Below w.heap.size w w') : MrAt w' g ph rows pairs A1 c1 A2 c2 :=
  ⟨(hb.block _ h.lt).trans h.blk, own_kept h.rows hb (Nat.le_refl _), own_kept h.pairs hb (Nat.le_refl _)⟩
theorem MrAt.reads {w : World} {g ph : Nat} {rows : RowsL} {pairs : PairsL} {A1 A2 : Option Addr} {c1 c2 : Nat} (h : MrAt w g ph rows pairs A1 c1 A2 c2) :
    w.cell? ⟨g, 0, none⟩ = some (fnOf ph g) ∧ w.cell? ⟨g, 1, none⟩ = some (.slice A1 rows.length c1) ∧ w.cell? ⟨g, 2, none⟩ = some (.slice A2 pairs.length c2) ∧ w.cell? ⟨g, 3, none⟩ = some (.bool (decide (ph = 2))) ∧
      w.frozen? ⟨g, 0, none⟩ = false ∧ w.frozen? ⟨g, 1, none⟩ = false ∧ w.frozen? ⟨g, 2, none⟩ = false ∧ w.frozen? ⟨g, 3, none⟩ = false :=
  ⟨Lib.cell_of_heap h.blk 0, Lib.cell_of_heap h.blk 1, Lib.cell_of_heap h.blk 2, Lib.cell_of_heap h.blk 3, Lib.frozen_of_heap h.blk 0, Lib.frozen_of_heap h.blk 1, Lib.frozen_of_heap h.blk 2, Lib.frozen_of_heap h.blk 3⟩
/-- What a step of the reader does. -/
def Stepped (w : World) (g ph : Nat) (rows : RowsL) (pairs : PairsL) (s : List UInt8) (e : Ending) (w' : World) : Prop :=
  ∃ A1 c1 A2 c2, e = .returned (.int .i64 ((stepM ph rows pairs s).1 : Int)) ∧ MrAt w' g (stepM ph rows pairs s).2.1 (stepM ph rows pairs s).2.2.1 (stepM ph rows pairs s).2.2.2 A1 c1 A2 c2 ∧ Below g w w' ∧ StrsKept w w'

theorem vocab_ne {s : List UInt8} (h : s ≠ vocabL) : ((strOf s).toList == [118, 111, 99, 97, 98]) = false := by
  rw [ByteArray.toList_eq, strOf_list, beq_eq_false_iff_ne]; exact h
theorem merges_ne {s : List UInt8} (h : s ≠ mergesL) : ((strOf s).toList == [109, 101, 114, 103, 101, 115]) = false := by
  rw [ByteArray.toList_eq, strOf_list, beq_eq_false_iff_ne]; exact h

set_option maxRecDepth 100000 in
set_option maxHeartbeats 1000000 in
theorem first_any {g : Nat} {rows : RowsL} {pairs : PairsL} {A1 A2 : Option Addr} {c1 c2 : Nat} (s : List UInt8) (w : World) (h : MrAt w g 0 rows pairs A1 c1 A2 c2) :
    Calls Try.prog 19 #[.pointer (some ⟨g, 0, none⟩), .string (strOf s)] w (Stepped w g 0 rows pairs s) := by
  obtain ⟨r0, r1, r2, r3, f0, f1, f2, f3⟩ := h.reads
  have HR := Lib.hid h
  clear h
  by_cases hs : s = vocabL
  · have hq : (strOf s).toList = [118, 111, 99, 97, 98] := by rw [ByteArray.toList_eq, strOf_list]; exact hs
    have HS := Lib.hid (show stepM 0 rows pairs s = (0, 1, rows, pairs) from by unfold stepM; rw [if_pos rfl, if_pos hs])
    clear hs
    go_enter Try.func19, Try.ntmps19
    go_wp2_with fail
    go_ret
    refine ⟨A1, c1, A2, c2, ?_, ?_, (Below.refl _ _).setCell (p := ⟨g, 0, none⟩) (Nat.le_refl _) _, StrsKept.set HR.out.blk (by decide)⟩
    · rw [HS.out]; rfl
    · rw [HS.out]
      exact ⟨(heap_set_at HR.out.blk).trans rfl, own_set_other HR.out.rows HR.out.blk (by decide), own_set_other HR.out.pairs HR.out.blk (by decide)⟩
  · have hq := vocab_ne hs
    have HS := Lib.hid (show stepM 0 rows pairs s = (2, 0, rows, pairs) from by unfold stepM; rw [if_pos rfl, if_neg hs])
    clear hs
    go_enter Try.func19, Try.ntmps19
    go_wp2_with fail
    go_ret
    refine ⟨A1, c1, A2, c2, ?_, ?_, Below.refl _ _, StrsKept.refl _⟩
    · rw [HS.out]; rfl
    · rw [HS.out]; exact HR.out

set_option maxRecDepth 100000 in
set_option maxHeartbeats 1000000 in
theorem writing_any (a : List UInt8) (hm : a.length ≤ 99999) (w : World) : Calls Try.prog 37 #[.string (strOf a)] w fun e w' =>
    e = .returned (.tuple #[.string (strOf (wrR a).1), .int .i64 ((wrR a).2 : Int)]) ∧ Below w.heap.size w w' := by
  obtain ⟨b, n, ok, hd⟩ : ∃ b n ok, rdAt a 0 = (b, n, ok) := ⟨_, _, _, rfl⟩
  obtain ⟨k, hk⟩ : ∃ k, b.length = k := ⟨_, rfl⟩
  have HW := Lib.hid (show wrR a = if ok = false then ([], 2) else if 64 < k then ([], 7) else (b, 0) from by unfold wrR; rw [hd, hk])
  have HD := Lib.hid (show rdAt (strOf a).data.toList 0 = (b, n, ok) from hd)
  have HK := Lib.hid hk
  have HM := Lib.hid (show (strOf a).size ≤ 100000 from by rw [strOf_size]; omega)
  clear hd hk
  go_enter Try.func37, Try.ntmps37
  go_wp2_with fail
  refine (lread_as _ HM.out HD.out).mono ?_
  rw [HK.out]
  rintro e w1 ⟨A, c, rfl, h1, hb1⟩
  have S1 := Lib.hid h1
  have B1 := Lib.hid hb1
  clear h1 hb1
  cases ok with
  | false =>
    go_wp2_with fail
    go_ret2
    exact ⟨by rw [HW.out]; rfl, B1.out⟩
  | true =>
    by_cases h64 : 64 < k
    · have h64' : (64 : Int) < (k : Int) := by omega
      have HV := Lib.hid (show wrR a = ([], 7) from HW.out.trans (by rw [if_neg (by simp), if_pos h64]))
      clear h64
      go_wp2_with fail
      go_ret2
      exact ⟨by rw [HV.out]; rfl, B1.out⟩
    · have h64' : ¬ (64 : Int) < (k : Int) := by omega
      have HV := Lib.hid (show wrR a = (b, 0) from HW.out.trans (by rw [if_neg (by simp), if_neg h64]))
      have cv := run_string_bytes (P := Try.prog) (w := w1) 22 9 5 Try.underlying22 Try.underlying5 Try.underlying9 S1.out
      clear h64
      go_wp2_with fail
      go_ret2
      exact ⟨by rw [HV.out]; rfl, B1.out⟩
end Go.Proofs.Ytefhifmilmedhaa
/- The walks of merge's row and pair. -/
namespace Go.Proofs.Ytefhifmilmedhaa
open Go.RowKit

section
variable {rows : RowsL} {pairs : PairsL} {s t : List UInt8} {nb er : Nat}
theorem stepM_row (hs : s ≠ mergesL) (h : rowM s = (t, nb, er)) : stepM 1 rows pairs s = if er ≠ 0 then (er, 1, rows, pairs) else if 4096 ≤ rows.length then (7, 1, rows, pairs) else (0, 1, rows ++ [(t, nb)], pairs) := by
  unfold stepM; rw [if_neg (by decide), if_pos rfl, if_neg hs, h]
theorem stepM_row_bad (hs : s ≠ mergesL) (h : rowM s = (t, nb, er)) (he : er ≠ 0) : stepM 1 rows pairs s = (er, 1, rows, pairs) := by rw [stepM_row hs h, if_pos he]
theorem stepM_row_full (hs : s ≠ mergesL) (h : rowM s = (t, nb, 0)) (h4 : 4096 ≤ rows.length) : stepM 1 rows pairs s = (7, 1, rows, pairs) := by rw [stepM_row hs h, if_neg (by simp), if_pos h4]
theorem stepM_row_ok (hs : s ≠ mergesL) (h : rowM s = (t, nb, 0)) (h4 : ¬ 4096 ≤ rows.length) : stepM 1 rows pairs s = (0, 1, rows ++ [(t, nb)], pairs) := by rw [stepM_row hs h, if_neg (by simp), if_neg h4]
theorem stepM_pair {t2 : List UInt8} (h : pairM s = (t, t2, er)) : stepM 2 rows pairs s = if er ≠ 0 then (er, 2, rows, pairs) else if 16384 ≤ pairs.length then (7, 2, rows, pairs) else (0, 2, rows, pairs ++ [(t, t2)]) := by
  unfold stepM; rw [if_neg (by decide), if_neg (by decide), h]
theorem stepM_pair_bad {t2 : List UInt8} (h : pairM s = (t, t2, er)) (he : er ≠ 0) : stepM 2 rows pairs s = (er, 2, rows, pairs) := by rw [stepM_pair h, if_pos he]
theorem stepM_pair_full {t2 : List UInt8} (h : pairM s = (t, t2, 0)) (h4 : 16384 ≤ pairs.length) : stepM 2 rows pairs s = (7, 2, rows, pairs) := by rw [stepM_pair h, if_neg (by simp), if_pos h4]
theorem stepM_pair_ok {t2 : List UInt8} (h : pairM s = (t, t2, 0)) (h4 : ¬ 16384 ≤ pairs.length) : stepM 2 rows pairs s = (0, 2, rows, pairs ++ [(t, t2)]) := by rw [stepM_pair h, if_neg (by simp), if_neg h4]
end
/-- A step that only looked. -/
theorem Stepped.same {w w' : World} {g ph er : Nat} {rows : RowsL} {pairs : PairsL} {A1 A2 : Option Addr} {c1 c2 : Nat} {s : List UInt8} (h : MrAt w g ph rows pairs A1 c1 A2 c2) (hb : Below w.heap.size w w') (hs : stepM ph rows pairs s = (er, ph, rows, pairs)) :
    Stepped w g ph rows pairs s (.returned (.int .i64 (er : Int))) w' :=
  ⟨A1, c1, A2, c2, by rw [hs], by rw [hs]; exact h.below hb, hb.mono (Nat.le_of_lt h.lt), StrsKept.below hb⟩

theorem number_b {s : ByteArray} {n : Int} {o : Bool} (w : World) (h1 : (((numL s.data.toList).getD 0 : Nat) : Int) = n) (h2 : (numL s.data.toList).isSome = o) :
    Calls Try.prog 25 #[.string s] w fun e w' => e = .returned (.tuple #[.int .i64 n, .bool o]) ∧ Below w.heap.size w w' := by
  refine (number_as w h1 h2).mono ?_
  rintro e w' ⟨rfl, k, rfl⟩
  exact ⟨rfl, below_drewN (Below.refl _ _) k⟩
theorem writing_as {a b : List UInt8} {er : Nat} (hm : a.length ≤ 99999) (w : World) (h : wrR a = (b, er)) : Calls Try.prog 37 #[.string (strOf a)] w fun e w' =>
    e = .returned (.tuple #[.string (strOf b), .int .i64 (er : Int)]) ∧ Below w.heap.size w w' := by
  have := writing_any a hm w
  rw [h] at this
  exact this

set_option maxRecDepth 100000 in
set_option maxHeartbeats 2000000 in
theorem mrow_any {g : Nat} {rows : RowsL} {pairs : PairsL} {A1 A2 : Option Addr} {c1 c2 : Nat} (s : List UInt8) (hm : s.length ≤ 99999) (w : World) (h : MrAt w g 1 rows pairs A1 c1 A2 c2) (hr : rows.length ≤ 4096) :
    Calls Try.prog 29 #[.pointer (some ⟨g, 0, none⟩), .string (strOf s)] w (Stepped w g 1 rows pairs s) := by
  have HR := Lib.hid h
  by_cases hs : s = mergesL
  · obtain ⟨r0, r1, r2, r3, f0, f1, f2, f3⟩ := h.reads
    have hq : (strOf s).toList = [109, 101, 114, 103, 101, 115] := by rw [ByteArray.toList_eq, strOf_list]; exact hs
    have HS := Lib.hid (show stepM 1 rows pairs s = (0, 2, rows, pairs) from by unfold stepM; rw [if_neg (by decide), if_pos rfl, if_pos hs])
    clear hs h
    go_enter Try.func29, Try.ntmps29
    go_wp2_with fail
    go_ret
    have H1 := heap_set_at (j := 3) (u := .bool true) HR.out.blk
    refine ⟨A1, c1, A2, c2, by rw [HS.out]; rfl, ?_, ((Below.refl _ _).setCell (p := ⟨g, 3, none⟩) (Nat.le_refl _) _).setCell (p := ⟨g, 0, none⟩) (Nat.le_refl _) _, (StrsKept.set HR.out.blk (by decide)).trans (StrsKept.set H1 (by decide))⟩
    rw [HS.out]
    exact ⟨(heap_set_at H1).trans rfl, own_set_other (own_set_other HR.out.rows HR.out.blk (by decide)) H1 (by decide), own_set_other (own_set_other HR.out.pairs HR.out.blk (by decide)) H1 (by decide)⟩
  · have hq := merges_ne hs
    have HNE := Lib.hid hs
    obtain ⟨ws, hws⟩ : ∃ ws, (wordsL s).getD [] = ws := ⟨_, rfl⟩
    obtain ⟨o, ho⟩ : ∃ o, (wordsL s).isSome = o := ⟨_, rfl⟩
    obtain ⟨n, hn⟩ : ∃ n, ws.length = n := ⟨_, rfl⟩
    have HWS := Lib.hid (show (wordsL (strOf s).data.toList).getD [] = ws from hws)
    have HO := Lib.hid (show (wordsL (strOf s).data.toList).isSome = o from ho)
    have HN := Lib.hid hn
    have HM := Lib.hid (show (strOf s).size ≤ 1099511627776 from by rw [strOf_size]; omega)
    have hgw := h.lt
    clear hs h hws ho hn
    go_enter Try.func29, Try.ntmps29
    go_wp2_with fail
    refine (words_as HM.out _ HO.out HWS.out HN.out).mono ?_
    rintro e w1 ⟨AW, cW, rfl, h1, hb1⟩
    have B1 := Lib.hid hb1
    have S1 := Lib.hid h1
    clear hb1 h1
    by_cases hgood : n = 2
    · obtain ⟨a, b, rfl, hw⟩ := words_two (s := s) HWS.out HN.out hgood
      have ho1 : o = true := by rw [← HO.out]; show (wordsL s).isSome = true; rw [hw]; rfl
      subst hgood ho1
      have hla := word_le hw a (by simp)
      have hlb := word_le hw b (by simp)
      have hlb' : (strOf b).size ≤ 99999 := by rw [strOf_size]; omega
      obtain ⟨nb, hnb⟩ : ∃ nb : Nat, (numL b).getD 0 = nb := ⟨_, rfl⟩
      obtain ⟨is, his⟩ : ∃ is, (numL b).isSome = is := ⟨_, rfl⟩
      obtain ⟨t, et, ht⟩ : ∃ t et, wrR a = (t, et) := ⟨_, _, rfl⟩
      have HRM := Lib.hid (show rowM s = if is = false then ([], 0, 2) else (t, nb, et) from by
        rw [rowM_two hw, hnb, ht, ← his]
        have : numL b = none ↔ (numL b).isSome = false := by rw [Option.isSome_eq_false_iff, Option.isNone_iff_eq_none]
        simp only [this])
      have HET := Lib.hid (show et = 2 ∨ et = 7 ∨ et = 0 from by have := wrR_err a; rw [ht] at this; exact this)
      have HNB := Lib.hid (show (((numL (strOf b).data.toList).getD 0 : Nat) : Int) = (nb : Int) from by rw [strOf_list, hnb])
      have HIS := Lib.hid (show (numL (strOf b).data.toList).isSome = is from his)
      have HT := Lib.hid ht
      clear hnb his ht hw
      obtain ⟨gw, ow, rfl, hgw', hcw⟩ := S1.out.cells (by decide)
      have E0 := Lib.hid (hcw 0 (Nat.succ_pos _))
      have e1 : w1.cell? ⟨gw, ow + 1, none⟩ = some (.string (strOf b)) := hcw 1 (Nat.lt_succ_self _)
      clear hcw
      go_wp2_with fail
      refine (number_b _ HNB.out HIS.out).mono ?_
      rintro e w2 ⟨rfl, hb2⟩
      have B2 := Lib.hid (B1.out.trans (hb2.mono B1.out.size))
      have e0 : w2.cell? ⟨gw, ow, none⟩ = some (.string (strOf a)) := (hb2.cell (p := ⟨gw, ow, none⟩) hgw').trans E0.out
      clear hb2 e1
      go_wp2_with fail
      refine (writing_as (by omega) _ HT.out).mono ?_
      rintro e w3 ⟨rfl, hb3⟩
      have B3 := Lib.hid (B2.out.trans (hb3.mono B2.out.size))
      have M3 := Lib.hid (HR.out.below B3.out)
      obtain ⟨r0, r1, r2, r3, f0, f1, f2, f3⟩ := M3.out.reads
      clear hb3 e0
      cases is with
      | false =>
        have HS := Lib.hid (show stepM 1 rows pairs s = (2, 1, rows, pairs) from stepM_row_bad HNE.out (HRM.out.trans (if_pos rfl)) (by decide))
        go_wp2_with fail
        go_ret
        exact Stepped.same HR.out B3.out HS.out
      | true =>
        by_cases het : et = 0
        · subst het
          by_cases h4 : 4096 ≤ rows.length
          · have h4' : (4096 : Int) ≤ (rows.length : Int) := by omega
            have HS := Lib.hid (show stepM 1 rows pairs s = (7, 1, rows, pairs) from stepM_row_full HNE.out (HRM.out.trans (if_neg (by simp))) h4)
            go_wp2_with fail
            go_ret
            exact Stepped.same HR.out B3.out HS.out
          · have h4' : ¬ (4096 : Int) ≤ (rows.length : Int) := by omega
            have HS := Lib.hid (show stepM 1 rows pairs s = (0, 1, rows ++ [(t, nb)], pairs) from stepM_row_ok HNE.out (HRM.out.trans (if_neg (by simp))) h4)
            have HON := Lib.hid (one_row (t, nb))
            have HSN := Lib.hid (show rowsV rows ++ [.string (strOf t), .int .i64 (nb : Int)] = rowsV (rows ++ [(t, nb)]) from (rowsV_snoc rows (t, nb)).symm)
            have HRB := Lib.hid (row_blk w3 (.string (strOf t)) (.int .i64 (nb : Int)) 43 (g := w3.heap.size) rfl)
            have L1 := Lib.hid (show g + 1 ≤ (w3.alloc (.cells #[.string (strOf t), .int .i64 (nb : Int)] 43)).heap.size from by have := M3.out.lt; simp; omega)
            have W3B := Lib.hid (show (w3.alloc (.cells #[.string (strOf t), .int .i64 (nb : Int)] 43)).heap[g]? = some (.cells #[fnOf 1 g, .slice A1 rows.length c1, .slice A2 pairs.length c2, .bool false] 55 (0, 0)) from (Below.heap_alloc _ _ _ M3.out.lt).trans M3.out.blk)
            go_wp2_with (at_builtin; refine wpList_append_row rfl (.tmp 66) (.tmp 70) _ rfl (g + 1) 43 _ 2 24 Try.underlying24 infoRow rfl (by decide) (.slice A1 rows.length c1) rows.length (rowsV rows) rfl (M3.out.rows.alloc _) (w3.heap.size + 1) (some ⟨w3.heap.size, 0, none⟩) 1 1 [.string (strOf t), .int .i64 (nb : Int)] rfl HRB.out HON.out (rows.length + 1) rfl (rowsV (rows ++ [(t, nb)])) HSN.out (by unfold maxLen; omega) (by omega) L1.out ?_; intro A5 c5 w5 hown5 hb5 hg5; have O5 := Lib.hid hown5; have B5 := Lib.hid hb5; have G5 := Lib.hid hg5; have W5 := Lib.hid ((hb5.block g (Nat.lt_succ_self _)).trans W3B.out); obtain ⟨p1, q1⟩ : w5.cell? ⟨g, 1, none⟩ = some (.slice A1 rows.length c1) ∧ w5.frozen? ⟨g, 1, none⟩ = false := ⟨Lib.cell_of_heap W5.out 1, Lib.frozen_of_heap W5.out 1⟩; clear hown5 hb5 hg5)
            go_ret
            have P5 := (M3.out.pairs.alloc (.cells #[.string (strOf t), .int .i64 (nb : Int)] 43)).kept G5.out (own_apart M3.out.pairs M3.out.rows (by decide))
            have K5 : StrsKept w w5 := (StrsKept.below B3.out).trans ((StrsKept.below ((Below.refl _ w3).alloc (Nat.le_refl _) _)).trans (StrsKept.grown (M3.out.rows.alloc _) (by decide) G5.out))
            have BB : Below g w w5 := (B3.out.mono (Nat.le_of_lt hgw)).trans (((Below.refl g w3).alloc (Nat.le_of_lt M3.out.lt) _).trans (B5.out.mono (Nat.le_succ g)))
            refine ⟨A5, c5, A2, c2, by rw [HS.out]; rfl, ?_, BB.setCell (p := ⟨g, 1, none⟩) (Nat.le_refl _) _, K5.trans (StrsKept.set W5.out (by decide))⟩
            rw [HS.out]
            exact ⟨by rw [heap_set_at W5.out, List.length_append]; rfl, by rw [List.length_append]; exact own_set_other O5.out W5.out (by decide), own_set_other P5 W5.out (by decide)⟩
        · have het' := beq_no (a := (et : Int)) (b := 0) (by omega)
          have HS := Lib.hid (show stepM 1 rows pairs s = (et, 1, rows, pairs) from stepM_row_bad HNE.out (HRM.out.trans (if_neg (by simp))) het)
          clear het
          go_wp2_with fail
          go_ret
          exact Stepped.same HR.out B3.out HS.out
    · have HS := Lib.hid (show stepM 1 rows pairs s = (2, 1, rows, pairs) from stepM_row_bad HNE.out (rowM_bad (words_not (s := s) HWS.out HN.out hgood)) (by decide))
      have hbn := bne_yes (a := (n : Int)) (b := 2) (by omega)
      have hbq := beq_no (a := (n : Int)) (b := 2) (by omega)
      clear hgood
      cases o with
      | false =>
        go_wp2_with fail
        go_ret
        exact Stepped.same HR.out B1.out HS.out
      | true =>
        go_wp2_with fail
        go_ret
        exact Stepped.same HR.out B1.out HS.out
end Go.Proofs.Ytefhifmilmedhaa
namespace Go.Proofs.Ytefhifmilmedhaa
open Go.RowKit

theorem infoPair : (Try.prog.info? 60).map (fun i => (i.zero, i.size, i.bytes)) = some (some (.agg #[.string ⟨#[]⟩, .string ⟨#[]⟩]), 2, 32) := by kernel_rfl
theorem one_pair (x : List UInt8 × List UInt8) : ∀ u ∈ ([.string (strOf x.1), .string (strOf x.2)] : List Value), u.oneCell' = true := by
  intro u hu
  simp only [List.mem_cons, List.not_mem_nil, or_false] at hu
  rcases hu with rfl | rfl <;> rfl

set_option maxRecDepth 100000 in
set_option maxHeartbeats 2000000 in
theorem mpair_any {g : Nat} {rows : RowsL} {pairs : PairsL} {A1 A2 : Option Addr} {c1 c2 : Nat} (s : List UInt8) (hm : s.length ≤ 99999) (w : World) (h : MrAt w g 2 rows pairs A1 c1 A2 c2) (hr : pairs.length ≤ 16384) :
    Calls Try.prog 36 #[.pointer (some ⟨g, 0, none⟩), .string (strOf s)] w (Stepped w g 2 rows pairs s) := by
  have HR := Lib.hid h
  obtain ⟨ws, hws⟩ : ∃ ws, (wordsL s).getD [] = ws := ⟨_, rfl⟩
  obtain ⟨o, ho⟩ : ∃ o, (wordsL s).isSome = o := ⟨_, rfl⟩
  obtain ⟨n, hn⟩ : ∃ n, ws.length = n := ⟨_, rfl⟩
  have HWS := Lib.hid (show (wordsL (strOf s).data.toList).getD [] = ws from hws)
  have HO := Lib.hid (show (wordsL (strOf s).data.toList).isSome = o from ho)
  have HN := Lib.hid hn
  have HM := Lib.hid (show (strOf s).size ≤ 1099511627776 from by rw [strOf_size]; omega)
  have hgw := h.lt
  clear h hws ho hn
  go_enter Try.func36, Try.ntmps36
  go_wp2_with fail
  refine (words_as HM.out _ HO.out HWS.out HN.out).mono ?_
  rintro e w1 ⟨AW, cW, rfl, h1, hb1⟩
  have B1 := Lib.hid hb1
  have S1 := Lib.hid h1
  clear hb1 h1
  by_cases hgood : n = 2
  · obtain ⟨a, b, rfl, hw⟩ := words_two (s := s) HWS.out HN.out hgood
    have ho1 : o = true := by rw [← HO.out]; show (wordsL s).isSome = true; rw [hw]; rfl
    subst hgood ho1
    have hla := word_le hw a (by simp)
    have hlb := word_le hw b (by simp)
    obtain ⟨t, et, ht⟩ : ∃ t et, wrR a = (t, et) := ⟨_, _, rfl⟩
    obtain ⟨u, eu, hu⟩ : ∃ u eu, wrR b = (u, eu) := ⟨_, _, rfl⟩
    have HPM := Lib.hid (show pairM s = if et = 2 ∨ eu = 2 then ([], [], 2) else if et ≠ 0 ∨ eu ≠ 0 then ([], [], 7) else (t, u, 0) from by rw [pairM_two hw, ht, hu])
    have hET : et = 2 ∨ et = 7 ∨ et = 0 := by have := wrR_err a; rw [ht] at this; exact this
    have hEU : eu = 2 ∨ eu = 7 ∨ eu = 0 := by have := wrR_err b; rw [hu] at this; exact this
    have HT := Lib.hid ht
    have HU := Lib.hid hu
    have HET := Lib.hid hET
    have HEU := Lib.hid hEU
    clear ht hu hw hET hEU
    obtain ⟨gw, ow, rfl, hgw', hcw⟩ := S1.out.cells (by decide)
    have e0 : w1.cell? ⟨gw, ow, none⟩ = some (.string (strOf a)) := hcw 0 (Nat.succ_pos _)
    have E1 := Lib.hid (hcw 1 (Nat.lt_succ_self _))
    clear hcw
    go_wp2_with fail
    refine (writing_as (by omega) _ HT.out).mono ?_
    rintro e w2 ⟨rfl, hb2⟩
    have B2 := Lib.hid (B1.out.trans (hb2.mono B1.out.size))
    have e1 : w2.cell? ⟨gw, ow + 1, none⟩ = some (.string (strOf b)) := (hb2.cell (p := ⟨gw, ow + 1, none⟩) hgw').trans E1.out
    clear hb2 e0
    go_wp2_with fail
    refine (writing_as (by omega) _ HU.out).mono ?_
    rintro e w3 ⟨rfl, hb3⟩
    have B3 := Lib.hid (B2.out.trans (hb3.mono B2.out.size))
    have M3 := Lib.hid (HR.out.below B3.out)
    obtain ⟨r0, r1, r2, r3, f0, f1, f2, f3⟩ := M3.out.reads
    clear hb3 e1
    rcases HET.out with rfl | het | rfl
    · have HS := Lib.hid (show stepM 2 rows pairs s = (2, 2, rows, pairs) from stepM_pair_bad (HPM.out.trans (if_pos (.inl rfl))) (by decide))
      go_wp2_with fail
      go_ret
      exact Stepped.same HR.out B3.out HS.out
    · subst het
      rcases HEU.out with rfl | heu | rfl
      · have HS := Lib.hid (show stepM 2 rows pairs s = (2, 2, rows, pairs) from stepM_pair_bad (HPM.out.trans (if_pos (.inr rfl))) (by decide))
        go_wp2_with fail
        go_ret
        exact Stepped.same HR.out B3.out HS.out
      · subst heu
        have HS := Lib.hid (show stepM 2 rows pairs s = (7, 2, rows, pairs) from stepM_pair_bad (HPM.out.trans ((if_neg (by decide)).trans (if_pos (by decide)))) (by decide))
        go_wp2_with fail
        go_ret
        exact Stepped.same HR.out B3.out HS.out
      · have HS := Lib.hid (show stepM 2 rows pairs s = (7, 2, rows, pairs) from stepM_pair_bad (HPM.out.trans ((if_neg (by decide)).trans (if_pos (by decide)))) (by decide))
        go_wp2_with fail
        go_ret
        exact Stepped.same HR.out B3.out HS.out
    · rcases HEU.out with rfl | heu | rfl
      · have HS := Lib.hid (show stepM 2 rows pairs s = (2, 2, rows, pairs) from stepM_pair_bad (HPM.out.trans (if_pos (.inr rfl))) (by decide))
        go_wp2_with fail
        go_ret
        exact Stepped.same HR.out B3.out HS.out
      · subst heu
        have HS := Lib.hid (show stepM 2 rows pairs s = (7, 2, rows, pairs) from stepM_pair_bad (HPM.out.trans ((if_neg (by decide)).trans (if_pos (by decide)))) (by decide))
        go_wp2_with fail
        go_ret
        exact Stepped.same HR.out B3.out HS.out
      · have HP0 := Lib.hid (show pairM s = (t, u, 0) from HPM.out.trans ((if_neg (by decide)).trans (if_neg (by decide))))
        by_cases h4 : 16384 ≤ pairs.length
        · have h4' : (16384 : Int) ≤ (pairs.length : Int) := by omega
          have HS := Lib.hid (show stepM 2 rows pairs s = (7, 2, rows, pairs) from stepM_pair_full HP0.out h4)
          go_wp2_with fail
          go_ret
          exact Stepped.same HR.out B3.out HS.out
        · have h4' : ¬ (16384 : Int) ≤ (pairs.length : Int) := by omega
          have HS := Lib.hid (show stepM 2 rows pairs s = (0, 2, rows, pairs ++ [(t, u)]) from stepM_pair_ok HP0.out h4)
          have HON := Lib.hid (one_pair (t, u))
          have HSN := Lib.hid (show pairsV pairs ++ [.string (strOf t), .string (strOf u)] = pairsV (pairs ++ [(t, u)]) from (pairsV_snoc pairs (t, u)).symm)
          have HRB := Lib.hid (row_blk w3 (.string (strOf t)) (.string (strOf u)) 60 (g := w3.heap.size) rfl)
          have L1 := Lib.hid (show g + 1 ≤ (w3.alloc (.cells #[.string (strOf t), .string (strOf u)] 60)).heap.size from by have := M3.out.lt; simp; omega)
          have W3B := Lib.hid (show (w3.alloc (.cells #[.string (strOf t), .string (strOf u)] 60)).heap[g]? = some (.cells #[fnOf 2 g, .slice A1 rows.length c1, .slice A2 pairs.length c2, .bool true] 55 (0, 0)) from (Below.heap_alloc _ _ _ M3.out.lt).trans M3.out.blk)
          go_wp2_with (at_builtin; refine wpList_append_row rfl (.tmp 65) (.tmp 69) _ rfl (g + 1) 60 _ 2 32 Try.underlying33 infoPair rfl (by decide) (.slice A2 pairs.length c2) pairs.length (pairsV pairs) rfl (M3.out.pairs.alloc _) (w3.heap.size + 1) (some ⟨w3.heap.size, 0, none⟩) 1 1 [.string (strOf t), .string (strOf u)] rfl HRB.out HON.out (pairs.length + 1) rfl (pairsV (pairs ++ [(t, u)])) HSN.out (by unfold maxLen; omega) (by omega) L1.out ?_; intro A5 c5 w5 hown5 hb5 hg5; have O5 := Lib.hid hown5; have B5 := Lib.hid hb5; have G5 := Lib.hid hg5; have W5 := Lib.hid ((hb5.block g (Nat.lt_succ_self _)).trans W3B.out); obtain ⟨p1, q1⟩ : w5.cell? ⟨g, 2, none⟩ = some (.slice A2 pairs.length c2) ∧ w5.frozen? ⟨g, 2, none⟩ = false := ⟨Lib.cell_of_heap W5.out 2, Lib.frozen_of_heap W5.out 2⟩; clear hown5 hb5 hg5)
          go_ret
          have P5 := (M3.out.rows.alloc (.cells #[.string (strOf t), .string (strOf u)] 60)).kept G5.out (own_apart M3.out.rows M3.out.pairs (by decide))
          have K5 : StrsKept w w5 := (StrsKept.below B3.out).trans ((StrsKept.below ((Below.refl _ w3).alloc (Nat.le_refl _) _)).trans (StrsKept.grown (M3.out.pairs.alloc _) (by decide) G5.out))
          have BB : Below g w w5 := (B3.out.mono (Nat.le_of_lt hgw)).trans (((Below.refl g w3).alloc (Nat.le_of_lt M3.out.lt) _).trans (B5.out.mono (Nat.le_succ g)))
          refine ⟨A1, c1, A5, c5, by rw [HS.out]; rfl, ?_, BB.setCell (p := ⟨g, 2, none⟩) (Nat.le_refl _) _, K5.trans (StrsKept.set W5.out (by decide))⟩
          rw [HS.out]
          exact ⟨by rw [heap_set_at W5.out, List.length_append]; rfl, own_set_other P5 W5.out (by decide), by rw [List.length_append]; exact own_set_other O5.out W5.out (by decide)⟩
  · have HS := Lib.hid (show stepM 2 rows pairs s = (2, 2, rows, pairs) from stepM_pair_bad (pairM_bad (words_not (s := s) HWS.out HN.out hgood)) (by decide))
    have hbn := bne_yes (a := (n : Int)) (b := 2) (by omega)
    have hbq := beq_no (a := (n : Int)) (b := 2) (by omega)
    clear hgood
    cases o with
    | false =>
      go_wp2_with fail
      go_ret
      exact Stepped.same HR.out B1.out HS.out
    | true =>
      go_wp2_with fail
      go_ret
      exact Stepped.same HR.out B1.out HS.out
end Go.Proofs.Ytefhifmilmedhaa
