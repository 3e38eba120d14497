/- The walk of RankReads: true for every input. -/
import Derived.Test.YtefhifmilmedhaaRankFixed
import Derived.Test.YtefhifmilmedhaaRankRef
namespace Go.Proofs.Ytefhifmilmedhaa
open Go.RowKit

theorem rread_as {s : ByteArray} {m fl fe : Nat} {x : List (List UInt8 × Nat)} (w : World) (hm : s.size ≤ 99999) (hx : readL s.data.toList = (x, fl, fe)) (hn : x.length = m) :
    Calls Try.prog 7 #[.string s] w fun e w' =>
      ∃ A' c', e = .returned (.tuple #[.slice A' m c', .agg #[.int .i64 (fl : Int), .int .i64 (fe : Int)]]) ∧ RowAt w' w'.heap.size 2 A' m c' (rowsI (x.map intRow)) ∧ Below w.heap.size w w' := by
  subst hn
  refine (rread_any s hm w).mono ?_
  rintro e w' ⟨A', c', rfl, hr, hb⟩
  rw [hx] at hr ⊢
  rw [rowsV_eq] at hr
  exact ⟨A', c', rfl, hr, hb⟩

set_option maxRecDepth 100000 in
set_option maxHeartbeats 1000000 in
theorem walkRankReads (W : World) {A : Option Addr} {n c : Nat} {l : List UInt8} (hl : BytesAt W W.heap.size A n c l) : Calls Try.prog 3 #[.slice A n c] W fun e W' => e = .returned (.bool true) ∧ Below W.heap.size W W' := by
  have hn := hl.len
  by_cases h2 : 2000 < n
  · have h2' : (2000 : Int) < (n : Int) := by omega
    clear hn
    go_enter Try.func3, Try.ntmps3
    go_wp2_with (go_at_call 5; refine (fixed07 _).mono ?_; rintro e w' ⟨rfl, hb⟩)
    go_ret
    exact ⟨rfl, hb⟩
  · have h2' : ¬ (2000 : Int) < (n : Int) := by omega
    obtain ⟨x, fl, fe, hx⟩ : ∃ x fl fe, readL l = (x, fl, fe) := ⟨_, _, _, rfl⟩
    obtain ⟨m, hm⟩ : ∃ m, x.length = m := ⟨_, rfl⟩
    have HN := Lib.hid hn
    have HX := Lib.hid hx
    have HM := Lib.hid hm
    have HL := Lib.hid hl
    have HS := Lib.hid (show (strOf l).size ≤ 99999 from by rw [strOf_size]; omega)
    clear hn hx hm hl
    go_enter Try.func3, Try.ntmps3
    go_wp2_with fail
    refine (read_as _ HL.out (by omega) HX.out HM.out).mono ?_
    rintro e w1 ⟨A1, c1, rfl, h1, hb1⟩
    have B1 := Lib.hid (hb1.alloc hb1.size (.cells #[.int .i64 (fl : Int), .int .i64 (fe : Int)] 27))
    have S1 := Lib.hid (RowAt.alloc h1 (Nat.le_refl _) (.cells #[.int .i64 (fl : Int), .int .i64 (fe : Int)] 27))
    have cv1 := run_string_bytes (P := Try.prog) 22 9 5 Try.underlying22 Try.underlying5 Try.underlying9 (RowAt.below HL.out B1.out)
    clear hb1 h1
    go_wp2_with fail
    refine (rread_as _ HS.out HX.out HM.out).mono ?_
    rintro e w2 ⟨A2, c2, rfl, h2, hb2⟩
    have B2 := Lib.hid (B1.out.trans (hb2.mono B1.out.size))
    have G1 := Lib.hid (show w2.heap[w1.heap.size]? = some (.cells #[.int .i64 (fl : Int), .int .i64 (fe : Int)] 27 (0, 0)) from (hb2.block _ (by simp)).trans (heap_alloc_new w1 _))
    have S2 := Lib.hid (RowAt.mono (RowAt.below S1.out (hb2.mono (by simp))) (by have := hb2.size; simp at this; omega : w1.heap.size ≤ w2.heap.size))
    have R2 := Lib.hid h2
    have L1 := Lib.hid (show w1.heap.size < w2.heap.size from by have := hb2.size; simp at this; omega)
    clear hb2 h2
    go_wp2_with fail
    refine (fixed07 _).mono ?_
    rintro e w3 ⟨rfl, hb3⟩
    have C3 := Lib.hid (((Below.refl w2.heap.size w2).alloc (Nat.le_refl _) (.cells #[.int .i64 (fl : Int), .int .i64 (fe : Int)] 27)).trans (hb3.mono (by simp)))
    have G2 := Lib.hid (show w3.heap[w2.heap.size]? = some (.cells #[.int .i64 (fl : Int), .int .i64 (fe : Int)] 27 (0, 0)) from (hb3.block _ (by simp)).trans (heap_alloc_new w2 _))
    have B3 := Lib.hid (B2.out.trans (C3.out.mono B2.out.size))
    have S3 := Lib.hid (RowAt.below S2.out C3.out)
    have R3 := Lib.hid (RowAt.below R2.out C3.out)
    obtain ⟨x0, x1, -, -⟩ := pair_reads ((C3.out.block _ L1.out).trans G1.out)
    obtain ⟨y0, y1, -, -⟩ := pair_reads G2.out
    have q1 := fun w => eql_fault (a := (fl : Int)) (b := (fl : Int)) (c := (fe : Int)) (d := (fe : Int)) (o := true) (by simp) w
    clear hb3
    go_wp2_with fail
    refine (sameRows_any _ S3.out R3.out).mono ?_
    rintro e w4 ⟨rfl, k, rfl⟩
    go_wp2_with fail
    go_ret
    exact ⟨by simp, below_drewN B3.out k⟩
end Go.Proofs.Ytefhifmilmedhaa
