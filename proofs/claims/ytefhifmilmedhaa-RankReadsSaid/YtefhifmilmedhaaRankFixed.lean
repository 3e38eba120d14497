/- The walk of footbridgelaw07.fixed. -/
import Derived.Test.YtefhifmilmedhaaRankSame
import Derived.Test.YtefhifmilmedhaaRankRead
import Derived.Test.YtefhifmilmedhaaConv
namespace Go.Proofs.Ytefhifmilmedhaa
open Go.RowKit

theorem dec_bang : dec64 [73, 81, 61, 61] = ([33], 0, true) := by rw [dec64_4]; decide
theorem row_ok : rowR [73, 81, 61, 61, 32, 48] = ([33], 0, 0) := by
  rw [rowR_two (a := [73, 81, 61, 61]) (b := [48]) (by decide), dec_bang]
  decide
theorem row_no : rowR [73, 81, 61, 61, 32, 32, 48] = ([], 0, 2) := by
  refine rowR_bad fun a b h => ?_
  rw [show wordsL [73, 81, 61, 61, 32, 32, 48] = none from by decide] at h
  cases h
theorem read_ok : readL [73, 81, 61, 61, 32, 48, 10] = ([([33], 0)], 0, 0) := by
  unfold readL
  rw [show linesL [73, 81, 61, 61, 32, 48, 10] = [[73, 81, 61, 61, 32, 48]] from by decide, readG, row_ok]
  decide
theorem read_no : readL [73, 81, 61, 61, 32, 32, 48] = ([], 1, 2) := by
  unfold readL
  rw [show linesL [73, 81, 61, 61, 32, 32, 48] = [[73, 81, 61, 61, 32, 32, 48]] from by decide, readG, row_no]
  decide
theorem read_as {A : Option Addr} {n c m fl fe : Nat} {l : List UInt8} {x : List (List UInt8 × Nat)} (w : World) (hl : BytesAt w w.heap.size A n c l) (hm : n ≤ 99999) (hx : readL l = (x, fl, fe)) (hn : x.length = m) :
    Calls Try.prog 6 #[.slice A n c] w fun e w' =>
      ∃ A' c', e = .returned (.tuple #[.slice A' m c', .agg #[.int .i64 (fl : Int), .int .i64 (fe : Int)]]) ∧ RowAt w' w'.heap.size 2 A' m c' (rowsI (x.map intRow)) ∧ Below w.heap.size w w' := by
  subst hn
  refine (read_any w hl hm).mono ?_
  rintro e w' ⟨A', c', rfl, hr, hb⟩
  rw [hx] at hr ⊢
  rw [rowsV_eq] at hr
  exact ⟨A', c', rfl, hr, hb⟩

set_option maxRecDepth 100000 in
set_option maxHeartbeats 1000000 in
theorem fixed07 (w : World) : Calls Try.prog 5 #[] w fun e w' => e = .returned (.bool true) ∧ Below w.heap.size w w' := by
  have kc := fun (w : World) (C : Array Value) (n c : Nat) => Lib.run_convert_bytes_const (P := Try.prog) w 22 5 C n c Try.underlying22 Try.underlying5
  have H1 := Lib.hid (fun w : World => const_bytes_at w [73, 81, 61, 61, 32, 48, 10] #[.int .u8 73, .int .u8 81, .int .u8 61, .int .u8 61, .int .u8 32, .int .u8 48, .int .u8 10] 7 5 (7, 8) rfl rfl (by unfold maxLen; omega))
  have H2 := Lib.hid (fun w : World => const_bytes_at w [73, 81, 61, 61, 32, 32, 48] #[.int .u8 73, .int .u8 81, .int .u8 61, .int .u8 61, .int .u8 32, .int .u8 32, .int .u8 48] 7 5 (7, 8) rfl rfl (by unfold maxLen; omega))
  go_enter Try.func5, Try.ntmps5
  go_wp2_with fail
  refine (read_as _ (H1.out _) (by omega) read_ok rfl).mono ?_
  rintro e w1 ⟨A1, c1, rfl, h1, hb1⟩
  have B1 := Lib.hid (((Below.refl w.heap.size w).alloc (Nat.le_refl _) (.cells #[.int .u8 73, .int .u8 81, .int .u8 61, .int .u8 61, .int .u8 32, .int .u8 48, .int .u8 10] 5 (7, 8))).trans (hb1.mono (by simp)))
  have S1 := Lib.hid h1
  clear hb1 h1
  have k2 := kc (w1.alloc (.cells #[.int .i64 0, .int .i64 0] 27))
  rw [World.size_alloc] at k2
  go_wp2_with fail
  refine (read_as _ (const_bytes_g (w1.heap.size + 1) (World.size_alloc _ _) [73, 81, 61, 61, 32, 32, 48] _ 7 5 (7, 8) rfl rfl (by unfold maxLen; omega)) (by omega) read_no rfl).mono ?_
  rintro e w2 ⟨A2, c2, rfl, h2, hb2⟩
  have B2 := Lib.hid (((B1.out.alloc B1.out.size (.cells #[.int .i64 0, .int .i64 0] 27)).alloc (by have := B1.out.size; simp; omega) (.cells #[.int .u8 73, .int .u8 81, .int .u8 61, .int .u8 61, .int .u8 32, .int .u8 32, .int .u8 48] 5 (7, 8))).trans (hb2.mono (by have := B1.out.size; simp; omega)))
  obtain ⟨b, off, rfl, hb, hc⟩ := rows_cells S1.out Nat.zero_lt_one
  obtain ⟨r0, r1⟩ := hc 0 (by decide)
  have G1 := Lib.hid (show w2.heap[w1.heap.size]? = some (.cells #[.int .i64 0, .int .i64 0] 27 (0, 0)) from (hb2.block _ (by simp; omega)).trans ((Below.heap_alloc _ _ _ (by simp)).trans (heap_alloc_new w1 _)))
  have e0 : w2.cell? ⟨b, off, none⟩ = some (.string (strOf [33])) := (hb2.cell (p := ⟨b, off, none⟩) (by simp; omega)).trans ((World.cell?_alloc_lt _ _ _ (by simp; omega)).trans ((World.cell?_alloc_lt _ _ _ (by simpa using hb)).trans r0))
  have e1 : w2.cell? ⟨b, off + 1, none⟩ = some (.int .i64 0) := (hb2.cell (p := ⟨b, off + 1, none⟩) (by simp; omega)).trans ((World.cell?_alloc_lt _ _ _ (by simp; omega)).trans ((World.cell?_alloc_lt _ _ _ (by simpa using hb)).trans r1))
  have b0 : b < w2.heap.size := by have := hb2.size; simp at this; omega
  have b1 : w1.heap.size < w2.heap.size := by have := hb2.size; simp at this; omega
  have E0 := (World.cell?_alloc_lt w2 (.cells #[.int .i64 1, .int .i64 2] 27) ⟨b, off, none⟩ b0).trans e0
  have E1 := (World.cell?_alloc_lt w2 (.cells #[.int .i64 1, .int .i64 2] 27) ⟨b, off + 1, none⟩ b0).trans e1
  obtain ⟨x0, x1, y0, y1⟩ := pair_reads ((Below.heap_alloc w2 (.cells #[.int .i64 1, .int .i64 2] 27) _ b1).trans G1.out)
  obtain ⟨z0, z1, -, -⟩ := pair_reads (heap_alloc_new w2 (.cells #[.int .i64 1, .int .i64 2] 27))
  have B3 := Lib.hid (B2.out.alloc B2.out.size (.cells #[.int .i64 1, .int .i64 2] 27))
  clear r0 r1 hc hb2 h2 e0 e1
  have q1 : ∀ w : World, (binOp .eql 43 (.agg #[.string (strOf [33]), .int .i64 0]) (.agg #[.string ⟨#[33]⟩, .int .i64 0])).run Try.prog w = .ok (.bool true) w := fun w => eql_row (s1 := [33]) (s2 := [33]) (c := 0) (d := 0) (o := true) (by decide) w
  have q2 := fun w => eql_fault (a := 0) (b := 0) (c := 0) (d := 0) (o := true) (by decide) w
  have q3 := fun w => eql_fault (a := 1) (b := 1) (c := 2) (d := 2) (o := true) (by decide) w
  go_wp2_with fail
  go_ret
  exact ⟨rfl, B3.out⟩
end Go.Proofs.Ytefhifmilmedhaa
