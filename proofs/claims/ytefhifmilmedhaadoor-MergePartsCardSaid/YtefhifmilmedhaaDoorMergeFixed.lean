/- The walk of footbridgelaw08.fixed. -/
import Derived.Test.YtefhifmilmedhaaDoorMergeSame
import Derived.Test.YtefhifmilmedhaaDoorRankSame
import Derived.Test.YtefhifmilmedhaaDoorConv
namespace Go.Proofs.YtefhifmilmedhaaDoor
open Go.RowKit

theorem m_ok : mergeL [118, 111, 99, 97, 98, 10, 97, 32, 48, 10, 109, 101, 114, 103, 101, 115, 10] = ([([97], 0)], [], 0, 0) := by decide +kernel
theorem m_nil : mergeL [] = ([], [], 1, 2) := by decide +kernel
theorem m_two : mergeL [118, 111, 99, 97, 98, 10] = ([], [], 2, 2) := by decide +kernel
theorem mread_as {A : Option Addr} {n c m1 m2 fl fe : Nat} {l : List UInt8} {x : RowsL} {y : PairsL} (w : World) (hl : BytesAt w w.heap.size A n c l) (hm : n ≤ 99999) (hx : mergeL l = (x, y, fl, fe)) (h1 : x.length = m1) (h2 : y.length = m2) :
    Calls Tryd.prog 34 #[.slice A n c] w fun e w' =>
      ∃ A1 c1 A2 c2, e = .returned (.tuple #[.agg #[.slice A1 m1 c1, .slice A2 m2 c2], .agg #[.int .i64 (fl : Int), .int .i64 (fe : Int)]]) ∧ RowAt w' w'.heap.size 2 A1 m1 c1 (rowsI (x.map intRow)) ∧ RowAt w' w'.heap.size 2 A2 m2 c2 (pairsV y) ∧ Below w.heap.size w w' := by
  subst h1 h2
  refine (mread_any w hl hm).mono ?_
  rintro e w' ⟨A1, c1, A2, c2, rfl, hr, hp, hb⟩
  rw [hx] at hr hp ⊢
  rw [rowsV_eq] at hr
  exact ⟨A1, c1, A2, c2, rfl, hr, hp, hb⟩
/-- The tables and the fault of a call that are laid in two new blocks. -/
theorem laid2 {w w' : World} {a b c d : Value} {ta tb : TypeId} (hb : Below (w.heap.size + 1 + 1) ((w.alloc (.cells #[a, b] ta)).alloc (.cells #[c, d] tb)) w') :
    w'.heap[w.heap.size]? = some (.cells #[a, b] ta (0, 0)) ∧ w'.heap[w.heap.size + 1]? = some (.cells #[c, d] tb (0, 0)) := by
  constructor
  · exact (hb.block _ (by omega)).trans ((Below.heap_alloc _ _ _ (by simp)).trans (heap_alloc_new w _))
  · refine (hb.block _ (by omega)).trans ?_
    have h := heap_alloc_new (w.alloc (.cells #[a, b] ta)) (.cells #[c, d] tb)
    rw [World.size_alloc] at h
    exact h

set_option maxRecDepth 100000 in
set_option maxHeartbeats 1000000 in
theorem fixed08 (w : World) : Calls Tryd.prog 31 #[] w fun e w' => e = .returned (.bool true) ∧ Below w.heap.size w w' := by
  have kc := fun (w : World) (C : Array Value) (n c : Nat) => Lib.run_convert_bytes_const (P := Tryd.prog) w 22 5 C n c Tryd.underlying22 Tryd.underlying5
  have KC := Lib.hid kc
  have H1 := Lib.hid (const_bytes_at w [118, 111, 99, 97, 98, 10, 97, 32, 48, 10, 109, 101, 114, 103, 101, 115, 10] #[.int .u8 118, .int .u8 111, .int .u8 99, .int .u8 97, .int .u8 98, .int .u8 10, .int .u8 97, .int .u8 32, .int .u8 48, .int .u8 10, .int .u8 109, .int .u8 101, .int .u8 114, .int .u8 103, .int .u8 101, .int .u8 115, .int .u8 10] 17 5 (17, 18) rfl rfl (by unfold maxLen; omega))
  go_enter Tryd.func31, Tryd.ntmps31
  go_wp2_with fail
  refine (mread_as _ H1.out (by omega) m_ok rfl rfl).mono ?_
  rintro e w1 ⟨A1, c1, A2, c2, rfl, -, -, hb1⟩
  have B1 := Lib.hid (((Below.refl w.heap.size w).alloc (Nat.le_refl _) _).trans (hb1.mono (by simp)))
  clear hb1
  go_wp2_with fail
  refine (mread_as (l := []) _ (show BytesAt _ _ none 0 0 [] from RowAt.nil) (by omega) m_nil rfl rfl).mono ?_
  rintro e w2 ⟨A3, c3, A4, c4, rfl, -, -, hb2⟩
  obtain ⟨ga, gb⟩ := laid2 (hb2.mono (by simp))
  have GA := Lib.hid ga
  have GB := Lib.hid gb
  have L2 := Lib.hid (show w1.heap.size + 1 < w2.heap.size from by have := hb2.size; simp at this; omega)
  have B2 := Lib.hid (((B1.out.alloc B1.out.size (.cells #[.slice A1 1 c1, .slice A2 0 c2] 59)).alloc (by have := B1.out.size; simp; omega) (.cells #[.int .i64 0, .int .i64 0] 47)).trans (hb2.mono (by have := B1.out.size; simp; omega)))
  clear hb2 ga gb kc
  have k2 := KC.out ((w2.alloc (.cells #[.slice A3 0 c3, .slice A4 0 c4] 59)).alloc (.cells #[.int .i64 1, .int .i64 2] 47))
  have hz : ((w2.alloc (.cells #[.slice A3 0 c3, .slice A4 0 c4] 59)).alloc (.cells #[.int .i64 1, .int .i64 2] 47)).heap.size = w2.heap.size + 1 + 1 := by simp
  rw [hz] at k2
  have HZ := Lib.hid hz
  clear hz
  go_wp2_with fail
  refine (mread_as _ (const_bytes_g (w2.heap.size + 1 + 1) HZ.out [118, 111, 99, 97, 98, 10] _ 6 5 (6, 7) rfl rfl (by unfold maxLen; omega)) (by omega) m_two rfl rfl).mono ?_
  rintro e w3 ⟨A5, c5, A6, c6, rfl, -, -, hb3⟩
  have C3 : Below (w2.heap.size + 1 + 1) ((w2.alloc (.cells #[.slice A3 0 c3, .slice A4 0 c4] 59)).alloc (.cells #[.int .i64 1, .int .i64 2] 47)) w3 := ((Below.refl _ _).alloc (by simp) _).trans (hb3.mono (by simp))
  have D3 : Below w2.heap.size w2 w3 := (((Below.refl _ w2).alloc (Nat.le_refl _) _).alloc (by simp) _).trans (C3.mono (by omega))
  obtain ⟨gc, gd⟩ := laid2 C3
  have B3 := Lib.hid (B2.out.trans (D3.mono B2.out.size))
  have l2 := L2.out
  have l3 : w2.heap.size + 1 < w3.heap.size := by have := C3.size; simp at this; omega
  have up : ∀ (b : Nat) (o : Obj), b < w3.heap.size → w3.heap[b]? = some o → ((w3.alloc (.cells #[.slice A5 0 c5, .slice A6 0 c6] 59)).alloc (.cells #[.int .i64 2, .int .i64 2] 47)).heap[b]? = some o := fun b o h1 h2 =>
    (Below.heap_alloc _ _ _ (by simp; omega)).trans ((Below.heap_alloc _ _ _ h1).trans h2)
  obtain ⟨p0, p1, -, -⟩ := pair_reads (up _ _ (by omega) ((D3.block _ (by omega)).trans GA.out))
  obtain ⟨q0, q1, -, -⟩ := pair_reads (up _ _ (by omega) ((D3.block _ (by omega)).trans GB.out))
  obtain ⟨r0, r1, -, -⟩ := pair_reads (up _ _ (by omega) gc)
  obtain ⟨s0, s1, -, -⟩ := pair_reads (up _ _ (by omega) gd)
  obtain ⟨gx, gy⟩ := laid2 (w := w3) (a := .slice A5 0 c5) (b := .slice A6 0 c6) (c := .int .i64 2) (d := .int .i64 2) (ta := 59) (tb := 47) (Below.refl _ _)
  obtain ⟨x0, x1, -, -⟩ := pair_reads gx
  obtain ⟨y0, y1, -, -⟩ := pair_reads gy
  have B4 := Lib.hid ((B3.out.alloc B3.out.size (.cells #[.slice A5 0 c5, .slice A6 0 c6] 59)).alloc (by have := B3.out.size; simp; omega) (.cells #[.int .i64 2, .int .i64 2] 47))
  have f1 := fun w => eql_fault (a := 0) (b := 0) (c := 0) (d := 0) (o := true) (by decide) w
  have f2 := fun w => eql_fault (a := 1) (b := 1) (c := 2) (d := 2) (o := true) (by decide) w
  have f3 := fun w => eql_fault (a := 2) (b := 2) (c := 2) (d := 2) (o := true) (by decide) w
  clear hb3 C3 D3 k2 up gc gd gx gy
  go_wp2_with fail
  go_ret
  exact ⟨rfl, B4.out⟩
end Go.Proofs.YtefhifmilmedhaaDoor
