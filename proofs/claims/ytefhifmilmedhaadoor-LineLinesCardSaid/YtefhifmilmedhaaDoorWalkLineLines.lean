/- The walk of LineLines. -/
import Derived.Test.YtefhifmilmedhaaDoorLineFixed
namespace Go.Proofs.YtefhifmilmedhaaDoor
open Go.RowKit

theorem of_drew {B : Nat} {a w : World} (h : Below B a.drew w) : Below B a w := ⟨h.os, h.tape, h.output, h.size, h.block⟩

set_option maxRecDepth 100000 in
set_option maxHeartbeats 1000000 in
theorem walkLineLines (W : World) (ht : Tab10 W) {A : Option Addr} {n c : Nat} {l : List UInt8} (hl : BytesAt W W.heap.size A n c l) : Calls Tryd.prog 3 #[.slice A n c] W fun e W' => e = .returned (.bool true) ∧ Below W.heap.size W W' := by
  have hn := hl.len
  by_cases h2 : 2000 < n
  · have h2' : (2000 : Int) < (n : Int) := by omega
    clear hn
    go_enter Tryd.func3, Tryd.ntmps3
    go_wp2_with (go_at_call 13; refine (fixed06 _ ht).mono ?_; rintro e w' ⟨rfl, hb⟩)
    go_ret
    exact ⟨rfl, hb⟩
  · have h2' : ¬ (2000 : Int) < (n : Int) := by omega
    have h2'' : (n : Int) ≤ 2000 := by omega
    have HN := Lib.hid hn
    clear hn
    go_enter Tryd.func3, Tryd.ntmps3
    go_wp2_with fail
    have hLz : l.length ≤ 2000 := by have := HN.out; omega
    go_region_with (first
      | (go_at_call 13; refine (fixed06 W.drew ht).mono ?_; rintro e wf ⟨rfl, hbf'⟩; have hbf := of_drew hbf'; have hlf : BytesAt wf wf.heap.size A n c l := RowAt.mono (RowAt.below hl hbf) hbf.size; have cvf := run_string_bytes (P := Tryd.prog) 22 9 5 Tryd.underlying22 Tryd.underlying5 Tryd.underlying9 hlf; clear hbf')
      | (go_at_call 15; refine (lines_as (x := linesL l) _ hlf (by omega) rfl rfl).mono ?_; rintro e w1 ⟨A1, c1, rfl, h1, hb1⟩; have hl1 : BytesAt w1 w1.heap.size A n c l := RowAt.mono (RowAt.below hlf hb1) hb1.size; have cv1 := run_string_bytes (P := Tryd.prog) 22 9 5 Tryd.underlying22 Tryd.underlying5 Tryd.underlying9 hl1)
      | (go_at_call 16; refine (rlines_as (x := linesL l) (by rw [strOf_size]; omega) _ rfl rfl).mono ?_; rintro e w2 ⟨A2, c2, rfl, h2, hb2⟩; have h12 : StrsAt w2 w2.heap.size A1 (linesL l).length c1 (linesL l) := RowAt.mono (RowAt.below h1 hb2) hb2.size)
      | (go_at_call 14; refine (same_any _ h12 h2).mono ?_; rintro e w3 ⟨rfl, k3, rfl⟩))
    all_goals
      go_wp2_with fail
      go_ret
      exact ⟨rfl, below_drewN (hbf.trans (hb1.mono hbf.size) |>.trans (hb2.mono (Nat.le_trans hbf.size hb1.size))) _⟩
end Go.Proofs.YtefhifmilmedhaaDoor
