/- The walks of merge's first and writing; what a reader is in memory. -/
import Derived.Test.YtefhifmilmedhaaMergeLaw
import Derived.Test.YtefhifmilmedhaaLetRead
import Derived.Test.YtefhifmilmedhaaLineAs
import Derived.Test.YtefhifmilmedhaaStrs
import Derived.Test.YtefhifmilmedhaaMem
import Derived.Test.YtefhifmilmedhaaRowsV
import Derived.Laws.EntriesVeiled
namespace Go.Proofs.Ytefhifmilmedhaa
open Go.RowKit

/-- Rows of strings are as they were. -/
def StrsKept (w w' : World) : Prop := ∀ (b0 : Nat) (v : Value) (n : Nat) (xs : List Value), w.ownsRow b0 9 1 v n xs → w'.ownsRow b0 9 1 v n xs
theorem StrsKept.refl (w : World) : StrsKept w w := fun _ _ _ _ h => h
theorem StrsKept.trans {a b c : World} (h : StrsKept a b) (h' : StrsKept b c) : StrsKept a c := fun b0 v n xs ho => h' b0 v n xs (h b0 v n xs ho)
theorem StrsKept.below {w w' : World} (h : Below w.heap.size w w') : StrsKept w w' := fun _ _ _ _ ho => own_kept ho h (Nat.le_refl _)
theorem StrsKept.grown {w w' : World} {b : Nat} {e : TypeId} {s n : Nat} {v : Value} {xs : List Value} (h : w.ownsRow b e s v n xs) (he : 9 ≠ e) (hg : w.grownBy w' v.ownBlock) : StrsKept w w' := fun _ _ _ _ ho => ho.kept hg (own_apart ho h he)
theorem own_set_other {w : World} {b0 g j : Nat} {e t : TypeId} {s n : Nat} {v u : Value} {xs : List Value} {cs : Array Value} (ho : w.ownsRow b0 e s v n xs) (hg : w.heap[g]? = some (.cells cs t (0, 0))) (he : e ≠ t) : (w.setCell ⟨g, j, none⟩ u).ownsRow b0 e s v n xs := by
  refine ⟨ho.1, ?_⟩
  rcases ho.2 with h | ⟨q, cap, cur, rfl, hb, hh, rest⟩
  · exact .inl h
  · refine .inr ⟨q, cap, cur, rfl, hb, ?_, rest⟩
    have hne : q ≠ g := by
      rintro rfl
      rw [hh] at hg
      injection hg with hg
      injection hg with _ ht
      exact he ht
    exact (Below.heap_setCell w ⟨g, j, none⟩ u q hne).trans hh
theorem StrsKept.set {w : World} {g j : Nat} {t : TypeId} {u : Value} {cs : Array Value} (hg : w.heap[g]? = some (.cells cs t (0, 0))) (he : 9 ≠ t) : StrsKept w (w.setCell ⟨g, j, none⟩ u) := fun _ _ _ _ ho => own_set_other ho hg he
theorem heap_set_at {w : World} {g j : Nat} {t : TypeId} {u : Value} {cs : Array Value} (hg : w.heap[g]? = some (.cells cs t (0, 0))) : (w.setCell ⟨g, j, none⟩ u).heap[g]? = some (.cells (cs.setIfInBounds j u) t (0, 0)) := by
  simp [World.setCell, Array.getElem?_modify, hg]

/-- The cells of pairs. -/
def pairsV (l : PairsL) : List Value := l.flatMap fun x => [.string (strOf x.1), .string (strOf x.2)]
theorem pairsV_snoc (l : PairsL) (x : List UInt8 × List UInt8) : pairsV (l ++ [x]) = pairsV l ++ [.string (strOf x.1), .string (strOf x.2)] := by simp [pairsV]
/-- The reader's next, by its phase. -/
def fnNo : Nat → Nat
  | 0 => 19
  | 1 => 29
  | _ => 36
def fnOf (ph g : Nat) : Value := .func (.func (fnNo ph)) #[.pointer (some ⟨g, 0, none⟩)] #[]
structure MrAt (w : World) (g ph : Nat) (rows : RowsL) (pairs : PairsL) (A1 : Option Addr) (c1 : Nat) (A2 : Option Addr) (c2 : Nat) : Prop where
  blk : w.heap[g]? = some (.cells #[fnOf ph g, .slice A1 rows.length c1, .slice A2 pairs.length c2, .bool (decide (ph = 2))] 55 (0, 0))
  rows : w.ownsRow (g + 1) 43 2 (.slice A1 rows.length c1) rows.length (rowsV rows)
  pairs : w.ownsRow (g + 1) 60 2 (.slice A2 pairs.length c2) pairs.length (pairsV pairs)
theorem MrAt.lt {w : World} {g ph : Nat} {rows : RowsL} {pairs : PairsL} {A1 A2 : Option Addr} {c1 c2 : Nat} (h : MrAt w g ph rows pairs A1 c1 A2 c2) : g < w.heap.size := (Array.getElem?_eq_some_iff.1 h.blk).1
theorem MrAt.below {w w' : World} {g ph : Nat} {rows : RowsL} {pairs : PairsL} {A1 A2 : Option Addr} {c1 c2 : Nat} (h : MrAt w g ph rows pairs A1 c1 A2 c2) (hb : Below w.heap.size w w') : MrAt w' g ph rows pairs A1 c1 A2 c2 :=
  ⟨(hb.block _ h.lt).trans h.blk, own_kept h.rows hb (Nat.le_refl _), own_kept h.pairs hb (Nat.le_refl _)⟩
theorem MrAt.reads {w : World} {g ph : Nat} {rows : RowsL} {pairs : PairsL} {A1 A2 : Option Addr} {c1 c2 : Nat} (h : MrAt w g ph rows pairs A1 c1 A2 c2) :
    w.cell? ⟨g, 0, none⟩ = some (fnOf ph g) ∧ w.cell? ⟨g, 1, none⟩ = some (.slice A1 rows.length c1) ∧ w.cell? ⟨g, 2, none⟩ = some (.slice A2 pairs.length c2) ∧ w.cell? ⟨g, 3, none⟩ = some (.bool (decide (ph = 2))) ∧
      w.frozen? ⟨g, 0, none⟩ = false ∧ w.frozen? ⟨g, 1, none⟩ = false ∧ w.frozen? ⟨g, 2, none⟩ = false ∧ w.frozen? ⟨g, 3, none⟩ = false :=
  ⟨Lib.cell_of_heap h.blk 0, Lib.cell_of_heap h.blk 1, Lib.cell_of_heap h.blk 2, Lib.cell_of_heap h.blk 3, Lib.frozen_of_heap h.blk 0, Lib.frozen_of_heap h.blk 1, Lib.frozen_of_heap h.blk 2, Lib.frozen_of_heap h.blk 3⟩
/-- What a step of the reader does. -/
def Stepped (w : World) (g ph : Nat) (rows : RowsL) (pairs : PairsL) (s : List UInt8) (e : Ending) (w' : World) : Prop :=
  ∃ A1 c1 A2 c2, e = .returned (.int .i64 ((stepM ph rows pairs s).1 : Int)) ∧ MrAt w' g (stepM ph rows pairs s).2.1 (stepM ph rows pairs s).2.2.1 (stepM ph rows pairs s).2.2.2 A1 c1 A2 c2 ∧ Below g w w' ∧ StrsKept w w'

theorem vocab_ne {s : List UInt8} (h : s ≠ vocabL) : ((strOf s).toList == [118, 111, 99, 97, 98]) = false := by
  rw [ByteArray.toList_eq, strOf_list, beq_eq_false_iff_ne]; exact h
theorem merges_ne {s : List UInt8} (h : s ≠ mergesL) : ((strOf s).toList == [109, 101, 114, 103, 101, 115]) = false := by
  rw [ByteArray.toList_eq, strOf_list, beq_eq_false_iff_ne]; exact h

set_option maxRecDepth 100000 in
set_option maxHeartbeats 1000000 in
theorem first_any {g : Nat} {rows : RowsL} {pairs : PairsL} {A1 A2 : Option Addr} {c1 c2 : Nat} (s : List UInt8) (w : World) (h : MrAt w g 0 rows pairs A1 c1 A2 c2) :
    Calls Try.prog 19 #[.pointer (some ⟨g, 0, none⟩), .string (strOf s)] w (Stepped w g 0 rows pairs s) := by
  obtain ⟨r0, r1, r2, r3, f0, f1, f2, f3⟩ := h.reads
  have HR := Lib.hid h
  clear h
  by_cases hs : s = vocabL
  · have hq : (strOf s).toList = [118, 111, 99, 97, 98] := by rw [ByteArray.toList_eq, strOf_list]; exact hs
    have HS := Lib.hid (show stepM 0 rows pairs s = (0, 1, rows, pairs) from by unfold stepM; rw [if_pos rfl, if_pos hs])
    clear hs
    go_enter Try.func19, Try.ntmps19
    go_wp2_with fail
    go_ret
    refine ⟨A1, c1, A2, c2, ?_, ?_, (Below.refl _ _).setCell (p := ⟨g, 0, none⟩) (Nat.le_refl _) _, StrsKept.set HR.out.blk (by decide)⟩
    · rw [HS.out]; rfl
    · rw [HS.out]
      exact ⟨(heap_set_at HR.out.blk).trans rfl, own_set_other HR.out.rows HR.out.blk (by decide), own_set_other HR.out.pairs HR.out.blk (by decide)⟩
  · have hq := vocab_ne hs
    have HS := Lib.hid (show stepM 0 rows pairs s = (2, 0, rows, pairs) from by unfold stepM; rw [if_pos rfl, if_neg hs])
    clear hs
    go_enter Try.func19, Try.ntmps19
    go_wp2_with fail
    go_ret
    refine ⟨A1, c1, A2, c2, ?_, ?_, Below.refl _ _, StrsKept.refl _⟩
    · rw [HS.out]; rfl
    · rw [HS.out]; exact HR.out

set_option maxRecDepth 100000 in
set_option maxHeartbeats 1000000 in
theorem writing_any (a : List UInt8) (hm : a.length ≤ 99999) (w : World) : Calls Try.prog 37 #[.string (strOf a)] w fun e w' =>
    e = .returned (.tuple #[.string (strOf (wrR a).1), .int .i64 ((wrR a).2 : Int)]) ∧ Below w.heap.size w w' := by
  obtain ⟨b, n, ok, hd⟩ : ∃ b n ok, rdAt a 0 = (b, n, ok) := ⟨_, _, _, rfl⟩
  obtain ⟨k, hk⟩ : ∃ k, b.length = k := ⟨_, rfl⟩
  have HW := Lib.hid (show wrR a = if ok = false then ([], 2) else if 64 < k then ([], 7) else (b, 0) from by unfold wrR; rw [hd, hk])
  have HD := Lib.hid (show rdAt (strOf a).data.toList 0 = (b, n, ok) from hd)
  have HK := Lib.hid hk
  have HM := Lib.hid (show (strOf a).size ≤ 100000 from by rw [strOf_size]; omega)
  clear hd hk
  go_enter Try.func37, Try.ntmps37
  go_wp2_with fail
  refine (lread_as _ HM.out HD.out).mono ?_
  rw [HK.out]
  rintro e w1 ⟨A, c, rfl, h1, hb1⟩
  have S1 := Lib.hid h1
  have B1 := Lib.hid hb1
  clear h1 hb1
  cases ok with
  | false =>
    go_wp2_with fail
    go_ret2
    exact ⟨by rw [HW.out]; rfl, B1.out⟩
  | true =>
    by_cases h64 : 64 < k
    · have h64' : (64 : Int) < (k : Int) := by omega
      have HV := Lib.hid (show wrR a = ([], 7) from HW.out.trans (by rw [if_neg (by simp), if_pos h64]))
      clear h64
      go_wp2_with fail
      go_ret2
      exact ⟨by rw [HV.out]; rfl, B1.out⟩
    · have h64' : ¬ (64 : Int) < (k : Int) := by omega
      have HV := Lib.hid (show wrR a = (b, 0) from HW.out.trans (by rw [if_neg (by simp), if_neg h64]))
      have cv := run_string_bytes (P := Try.prog) (w := w1) 22 9 5 Try.underlying22 Try.underlying5 Try.underlying9 S1.out
      clear h64
      go_wp2_with fail
      go_ret2
      exact ⟨by rw [HV.out]; rfl, B1.out⟩
end Go.Proofs.Ytefhifmilmedhaa
