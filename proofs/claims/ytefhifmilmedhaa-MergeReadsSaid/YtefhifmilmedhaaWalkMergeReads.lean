/- The walk of MergeReads: true for every input. -/
import Derived.Test.YtefhifmilmedhaaMergeFixed
import Derived.Test.YtefhifmilmedhaaMergeRef
namespace Go.Proofs.Ytefhifmilmedhaa
open Go.RowKit

theorem mrread_as {s : ByteArray} {m1 m2 fl fe : Nat} {x : RowsL} {y : PairsL} (w : World) (hm : s.size ≤ 99999) (hx : mergeL s.data.toList = (x, y, fl, fe)) (h1 : x.length = m1) (h2 : y.length = m2) :
    Calls Try.prog 11 #[.string s] w fun e w' =>
      ∃ A1 c1 A2 c2, e = .returned (.agg #[.slice A1 m1 c1, .slice A2 m2 c2, .int .i64 (fl : Int), .int .i64 (fe : Int)]) ∧ RowAt w' w'.heap.size 2 A1 m1 c1 (rowsI (x.map intRow)) ∧ RowAt w' w'.heap.size 2 A2 m2 c2 (pairsV y) ∧ Below w.heap.size w w' := by
  subst h1 h2
  refine (mrread_any s hm w).mono ?_
  rintro e w' ⟨A1, c1, A2, c2, rfl, hr, hp, hb⟩
  rw [hx] at hr hp ⊢
  rw [rowsV_eq] at hr
  exact ⟨A1, c1, A2, c2, rfl, hr, hp, hb⟩

set_option maxRecDepth 100000 in
set_option maxHeartbeats 1000000 in
theorem walkMergeReads (W : World) {A : Option Addr} {n c : Nat} {l : List UInt8} (hl : BytesAt W W.heap.size A n c l) : Calls Try.prog 4 #[.slice A n c] W fun e W' => e = .returned (.bool true) ∧ Below W.heap.size W W' := by
  have hn := hl.len
  by_cases h2 : 1000 < n
  · have h2' : (1000 : Int) < (n : Int) := by omega
    clear hn
    go_enter Try.func4, Try.ntmps4
    go_wp2_with (go_at_call 9; refine (fixed08 _).mono ?_; rintro e w' ⟨rfl, hb⟩)
    go_ret
    exact ⟨rfl, hb⟩
  · have h2' : ¬ (1000 : Int) < (n : Int) := by omega
    obtain ⟨x, y, fl, fe, hx⟩ : ∃ x y fl fe, mergeL l = (x, y, fl, fe) := ⟨_, _, _, _, rfl⟩
    obtain ⟨m1, hm1⟩ : ∃ m, x.length = m := ⟨_, rfl⟩
    obtain ⟨m2, hm2⟩ : ∃ m, y.length = m := ⟨_, rfl⟩
    have HN := Lib.hid hn
    have HX := Lib.hid hx
    have HM1 := Lib.hid hm1
    have HM2 := Lib.hid hm2
    have HL := Lib.hid hl
    have HS := Lib.hid (show (strOf l).size ≤ 99999 from by rw [strOf_size]; omega)
    clear hn hx hm1 hm2 hl
    go_enter Try.func4, Try.ntmps4
    go_wp2_with fail
    refine (mread_as _ HL.out (by omega) HX.out HM1.out HM2.out).mono ?_
    rintro e w1 ⟨A1, c1, A2, c2, rfl, h1, h2, hb1⟩
    obtain ⟨X1, hX1⟩ : ∃ X1, X1 = (w1.alloc (.cells #[.slice A1 m1 c1, .slice A2 m2 c2] 35)).alloc (.cells #[.int .i64 (fl : Int), .int .i64 (fe : Int)] 27) := ⟨_, rfl⟩
    have C1 : Below w1.heap.size w1 X1 := by rw [hX1]; exact ((Below.refl _ w1).alloc (Nat.le_refl _) _).alloc (by simp) _
    have B1 := Lib.hid (hb1.trans (C1.mono hb1.size))
    have S1 := Lib.hid (RowAt.below h1 C1)
    have P1 := Lib.hid (RowAt.below h2 C1)
    have hz1 : X1.heap.size = w1.heap.size + 2 := by rw [hX1]; simp
    have G1 := Lib.hid (laid2 (w := w1) (w' := X1) (a := .slice A1 m1 c1) (b := .slice A2 m2 c2) (c := .int .i64 (fl : Int)) (d := .int .i64 (fe : Int)) (ta := 35) (tb := 27) (by rw [hX1]; exact Below.refl _ _))
    have cv1 := run_string_bytes (P := Try.prog) 22 9 5 Try.underlying22 Try.underlying5 Try.underlying9 (RowAt.below HL.out B1.out)
    have HX1 := Lib.hid hX1
    have HZ1 := Lib.hid hz1
    rw [hX1] at cv1
    clear hb1 h1 h2 C1 hX1 hz1
    go_wp2_with fail
    rw [← HX1.out]
    refine (mrread_as _ HS.out HX.out HM1.out HM2.out).mono ?_
    rintro e w2 ⟨A3, c3, A4, c4, rfl, h3, h4, hb2⟩
    have C2 : Below w2.heap.size w2 (w2.alloc (.cells #[.slice A3 m1 c3, .slice A4 m2 c4, .int .i64 (fl : Int), .int .i64 (fe : Int)] 39)) := (Below.refl _ w2).alloc (Nat.le_refl _) _
    have B2 := Lib.hid ((B1.out.trans (hb2.mono B1.out.size)).trans (C2.mono (by have := B1.out.size; have := hb2.size; omega)))
    have hsz := hb2.size
    rw [HZ1.out] at hsz
    have D2 := Lib.hid (hb2.trans (C2.mono hb2.size))
    have S2 := Lib.hid (RowAt.mono (RowAt.below S1.out (D2.out.mono (by rw [HZ1.out]; omega))) (by omega : w1.heap.size ≤ w2.heap.size))
    have P2 := Lib.hid (RowAt.mono (RowAt.below P1.out (D2.out.mono (by rw [HZ1.out]; omega))) (by omega : w1.heap.size ≤ w2.heap.size))
    have R2 := Lib.hid (RowAt.below h3 C2)
    have Q2 := Lib.hid (RowAt.below h4 C2)
    clear hb2 h3 h4 C2
    go_wp2_with fail
    refine (fixed08 _).mono ?_
    rintro e w3 ⟨rfl, hb3⟩
    have hz3 : w2.heap.size + 1 ≤ w3.heap.size := by have := hb3.size; simp at this; omega
    have G2 := (hb3.block w2.heap.size (by simp)).trans (heap_alloc_new w2 (.cells #[.slice A3 m1 c3, .slice A4 m2 c4, .int .i64 (fl : Int), .int .i64 (fe : Int)] 39))
    have E3 := Lib.hid (D2.out.trans (hb3.mono D2.out.size))
    have B3 := Lib.hid (B2.out.trans (hb3.mono B2.out.size))
    have S3 := Lib.hid (RowAt.below S2.out (hb3.mono (by simp)))
    have P3 := Lib.hid (RowAt.below P2.out (hb3.mono (by simp)))
    have R3 := Lib.hid (RowAt.below R2.out (hb3.mono (by simp)))
    have Q3 := Lib.hid (RowAt.below Q2.out (hb3.mono (by simp)))
    obtain ⟨x0, x1, -, -⟩ := pair_reads ((E3.out.block _ (by rw [HZ1.out]; omega)).trans G1.out.1)
    obtain ⟨y0, y1, -, -⟩ := pair_reads ((E3.out.block _ (by rw [HZ1.out]; omega)).trans G1.out.2)
    obtain ⟨z0, z1, z2, z3, -⟩ := quad_reads G2
    have q1 := fun w => eql_fault (a := (fl : Int)) (b := (fl : Int)) (c := (fe : Int)) (d := (fe : Int)) (o := true) (by simp) w
    clear hb3 G2
    go_wp2_with fail
    refine (sameTabs_any _ (by omega) S3.out R3.out P3.out Q3.out).mono ?_
    rintro e w4 ⟨rfl, hb4⟩
    go_wp2_with fail
    go_ret
    exact ⟨by simp, B3.out.trans (hb4.mono B3.out.size)⟩
end Go.Proofs.Ytefhifmilmedhaa
