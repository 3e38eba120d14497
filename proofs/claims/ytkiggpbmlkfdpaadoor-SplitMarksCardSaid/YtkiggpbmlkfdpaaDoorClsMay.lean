/- The walk of class.May. -/
import Derived.Test.YtkiggpbmlkfdpaaDoorClsWalk
namespace Go.Proofs.YtkiggpbmlkfdpaaDoor
open Go.RowKit
set_option linter.unusedVariables false

theorem below_drewN' {B : Nat} {a w : World} (h : Below B a w) (n : Nat) : Below B a (w.drewN n) := ⟨h.os, h.tape, h.output, h.size, h.block⟩
set_option maxRecDepth 100000 in
set_option maxHeartbeats 4000000 in
theorem may_pos {b off c : Nat} {t : List Rg} (w : World) (h0 : 0 < t.length) (hm : t.length ≤ 1000) (hc0 : t.length ≤ c) (hc1 : c ≤ 9223372036854775807) (hb : b < w.heap.size)
    (HC : Hid (∀ i, i < t.length → w.cell? ⟨b, off + i * 3, none⟩ = some (.int .i64 (rg t i).1) ∧ w.cell? ⟨b, off + i * 3 + 1, none⟩ = some (.int .i64 (rg t i).2.1) ∧ w.cell? ⟨b, off + i * 3 + 2, none⟩ = some (.int .i64 (rg t i).2.2))) :
    Calls Tryd.prog 36 #[.slice (some ⟨b, off, none⟩) t.length c] w fun e w' => e = .returned (.bool (mayT t)) ∧ Below w.heap.size w w' := by
  go_enter Tryd.func36, Tryd.ntmps36
  go_wp2_with fail
  go_loopw [7] (fun u wr => ∃ i : Nat, u = .int .i64 i ∧ i ≤ t.length ∧ Hid (rOk (-1) (t.take i) = true) ∧ Below w.heap.size w wr) (fun u _ => t.length - (intOf u).toNat)
  case atStart => exact ⟨0, rfl, Nat.zero_le _, by rfl, Below.refl _ _⟩
  case round =>
    obtain ⟨i, rfl, hi, HK, hbel⟩ := hrel
    have HB := Lib.hid hbel
    have hz := hbel.size
    by_cases hlt : i < t.length
    · have hlt1 : (i : Int) < t.length := by omega
      obtain ⟨c0, c1, c2⟩ := HC.out i hlt
      have d0 : wr.cell? ⟨b, off + i * 3, none⟩ = some (.int .i64 (rg t i).1) := (hbel.cell (p := ⟨b, off + i * 3, none⟩) hb).trans c0
      have d1 : wr.cell? ⟨b, off + i * 3 + 1, none⟩ = some (.int .i64 (rg t i).2.1) := (hbel.cell (p := ⟨b, off + i * 3 + 1, none⟩) hb).trans c1
      have d2 : wr.cell? ⟨b, off + i * 3 + 2, none⟩ = some (.int .i64 (rg t i).2.2) := (hbel.cell (p := ⟨b, off + i * 3 + 2, none⟩) hb).trans c2
      clear c0 c1 c2
      rcases okAt_cases t i with ⟨hok, hcs⟩ | ⟨hok, h1, h2, h3, h4, h5, h6⟩
      · have HF := Lib.hid (show mayT t = false from by unfold mayT; rw [rOk_bad hlt HK.out hok, Bool.and_false])
        clear hok
        rcases hcs with h1 | ⟨h1, h2⟩ | ⟨h1, h2, h3⟩ | ⟨h1, h2, h3, h4⟩ | ⟨h1, h2, h3, h4, h5⟩ | ⟨h1, h2, h3, h4, h5, h6, h7⟩
        · have f1 : decide ((rg t i).1 < 0) = true := decide_eq_true (by omega)
          clear hbel
          go_wp2_with fail
          go_quiet (fail)
          go_wp2_with fail
          go_ret
          exact ⟨ret_bool HF.out.symm, below_drewN' (HB.out.alloc HB.out.size _) _⟩
        · have f1 : decide ((rg t i).1 < 0) = false := decide_eq_false (by omega)
          have f2 : decide ((rg t i).2.1 < (rg t i).1) = true := decide_eq_true (by omega)
          clear hbel
          go_wp2_with fail
          go_quiet (fail)
          go_wp2_with fail
          go_ret
          exact ⟨ret_bool HF.out.symm, below_drewN' (HB.out.alloc HB.out.size _) _⟩
        · have f1 : decide ((rg t i).1 < 0) = false := decide_eq_false (by omega)
          have f2 : decide ((rg t i).2.1 < (rg t i).1) = false := decide_eq_false (by omega)
          have f3 : decide (1114111 < (rg t i).2.1) = true := decide_eq_true (by omega)
          clear hbel
          go_wp2_with fail
          go_quiet (fail)
          go_wp2_with fail
          go_ret
          exact ⟨ret_bool HF.out.symm, below_drewN' (HB.out.alloc HB.out.size _) _⟩
        · have f1 : decide ((rg t i).1 < 0) = false := decide_eq_false (by omega)
          have f2 : decide ((rg t i).2.1 < (rg t i).1) = false := decide_eq_false (by omega)
          have f3 : decide (1114111 < (rg t i).2.1) = false := decide_eq_false (by omega)
          have f4 : decide ((rg t i).2.2 < 1) = true := decide_eq_true (by omega)
          clear hbel
          go_wp2_with fail
          go_quiet (fail)
          go_wp2_with fail
          go_ret
          exact ⟨ret_bool HF.out.symm, below_drewN' (HB.out.alloc HB.out.size _) _⟩
        · have f1 : decide ((rg t i).1 < 0) = false := decide_eq_false (by omega)
          have f2 : decide ((rg t i).2.1 < (rg t i).1) = false := decide_eq_false (by omega)
          have f3 : decide (1114111 < (rg t i).2.1) = false := decide_eq_false (by omega)
          have f4 : decide ((rg t i).2.2 < 1) = false := decide_eq_false (by omega)
          have f5 : decide (4 < (rg t i).2.2) = true := decide_eq_true (by omega)
          clear hbel
          go_wp2_with fail
          go_quiet (fail)
          go_wp2_with fail
          go_ret
          exact ⟨ret_bool HF.out.symm, below_drewN' (HB.out.alloc HB.out.size _) _⟩
        · have f1 : decide ((rg t i).1 < 0) = false := decide_eq_false (by omega)
          have f2 : decide ((rg t i).2.1 < (rg t i).1) = false := decide_eq_false (by omega)
          have f3 : decide (1114111 < (rg t i).2.1) = false := decide_eq_false (by omega)
          have f4 : decide ((rg t i).2.2 < 1) = false := decide_eq_false (by omega)
          have f5 : decide (4 < (rg t i).2.2) = false := decide_eq_false (by omega)
          obtain ⟨k, hk⟩ : ∃ k, i - 1 = k := ⟨_, rfl⟩
          rw [hk] at h7
          have hk1 : IntKind.i64.wrap ((i : Int) - 1) = (k : Int) := by rw [IntKind.wrap_i64]; omega
          have hk4 : (0 : Int) ≤ k := by omega
          have hk2 : k < t.length := by omega
          have hk3 : (k : Int) < t.length := by omega
          have f6 : decide ((0 : Int) < (i : Int)) = true := decide_eq_true (by omega)
          have f6' : decide (0 < i) = true := decide_eq_true (by omega)
          obtain ⟨_, c1, _⟩ := HC.out k hk2
          have d3 : wr.cell? ⟨b, off + k * 3 + 1, none⟩ = some (.int .i64 (rg t k).2.1) := (hbel.cell (p := ⟨b, off + k * 3 + 1, none⟩) hb).trans c1
          have d5 : (wr.alloc (.cells #[.int .i64 (rg t i).1, .int .i64 (rg t i).2.1, .int .i64 (rg t i).2.2] 75)).cell? ⟨b, off + k * 3 + 1, none⟩ = some (.int .i64 (rg t k).2.1) := by rw [World.cell?_alloc_lt wr _ _ (by show b < wr.heap.size; omega)]; exact d3
          have f7 : decide ((rg t i).1 ≤ (rg t k).2.1) = true := decide_eq_true h7
          clear c1 h7 hk
          clear hbel
          go_wp2_with fail
          go_quiet (fail)
          go_wp2_with fail
          go_ret
          exact ⟨ret_bool HF.out.symm, below_drewN' (HB.out.alloc HB.out.size _) _⟩
      · have HN := Lib.hid (show rOk (-1) (t.take (i + 1)) = true from by rw [rOk_take hlt HK.out]; exact hok)
        clear hok
        have f1 : decide ((rg t i).1 < 0) = false := decide_eq_false (by omega)
        have f2 : decide ((rg t i).2.1 < (rg t i).1) = false := decide_eq_false (by omega)
        have f3 : decide (1114111 < (rg t i).2.1) = false := decide_eq_false (by omega)
        have f4 : decide ((rg t i).2.2 < 1) = false := decide_eq_false (by omega)
        have f5 : decide (4 < (rg t i).2.2) = false := decide_eq_false (by omega)
        rcases h6 with h6 | ⟨h6, h7⟩
        · have f6 : decide ((0 : Int) < (i : Int)) = false := decide_eq_false (by omega)
          have f6' : decide (0 < i) = false := decide_eq_false (by omega)
          have H6 := Lib.hid h6
          clear hbel h6
          go_wp2_with fail
          go_quiet (fail)
          go_wp2_with fail
          go_roundw
          case rel => exact ⟨i + 1, by go_num, by omega, HN.out, below_drewN' (HB.out.alloc HB.out.size _) _⟩
          case measure => simp [intOf]; omega
        · obtain ⟨k, hk⟩ : ∃ k, i - 1 = k := ⟨_, rfl⟩
          rw [hk] at h7
          have hk1 : IntKind.i64.wrap ((i : Int) - 1) = (k : Int) := by rw [IntKind.wrap_i64]; omega
          have hk4 : (0 : Int) ≤ k := by omega
          have hk2 : k < t.length := by omega
          have hk3 : (k : Int) < t.length := by omega
          have f6 : decide ((0 : Int) < (i : Int)) = true := decide_eq_true (by omega)
          have f6' : decide (0 < i) = true := decide_eq_true (by omega)
          obtain ⟨_, c1, _⟩ := HC.out k hk2
          have d3 : wr.cell? ⟨b, off + k * 3 + 1, none⟩ = some (.int .i64 (rg t k).2.1) := (hbel.cell (p := ⟨b, off + k * 3 + 1, none⟩) hb).trans c1
          have d5 : (wr.alloc (.cells #[.int .i64 (rg t i).1, .int .i64 (rg t i).2.1, .int .i64 (rg t i).2.2] 75)).cell? ⟨b, off + k * 3 + 1, none⟩ = some (.int .i64 (rg t k).2.1) := by rw [World.cell?_alloc_lt wr _ _ (by show b < wr.heap.size; omega)]; exact d3
          have f7 : decide ((rg t i).1 ≤ (rg t k).2.1) = false := decide_eq_false (by omega)
          clear c1 h7 hbel hk
          go_wp2_with fail
          go_quiet (fail)
          go_wp2_with fail
          go_roundw
          case rel => exact ⟨i + 1, by go_num, by omega, HN.out, below_drewN' (HB.out.alloc HB.out.size _) _⟩
          case measure => simp [intOf]; omega
    · obtain rfl : i = t.length := by omega
      have hlt1 : ¬ (t.length : Int) < t.length := by omega
      have HF := Lib.hid (show mayT t = decide ((t.length : Int) ≤ 200) from by
        have h := HK.out
        rw [List.take_length] at h
        unfold mayT
        rw [h, Bool.and_true, Bool.eq_iff_iff, decide_eq_true_iff, decide_eq_true_iff]
        omega)
      clear hbel
      go_wp2_with fail
      go_ret
      exact ⟨ret_bool (by rw [HF.out]), HB.out⟩
theorem may_nil {A : Option Addr} {c : Nat} (w : World) :
    Calls Tryd.prog 36 #[.slice A 0 c] w fun e w' => e = .returned (.bool true) ∧ w = w' := by
  go_enter Tryd.func36, Tryd.ntmps36
  go_wp2_with fail
  go_loop [7] (fun u => u = .int .i64 0) (fun u => 0)
  case atStart => exact rfl
  case round =>
    subst hrel
    go_wp2_with fail
    go_ret
    exact ⟨rfl, rfl⟩
theorem may_any {A : Option Addr} {n c : Nat} {t : List Rg} (w : World) (h : RangesAt w w.heap.size A n c t) (hm : n ≤ 1000) :
    Calls Tryd.prog 36 #[.slice A n c] w fun e w' => e = .returned (.bool (mayT t)) ∧ Below w.heap.size w w' := by
  have hn := h.2.1
  have hc := h.2.2.1
  unfold maxLen at hc
  obtain rfl := h.len
  by_cases h0 : 0 < t.length
  · obtain ⟨b, off, rfl, hb, hcs⟩ := h.cells h0
    exact may_pos w h0 hm hn (by omega) hb hcs
  · obtain rfl : t = [] := List.eq_nil_of_length_eq_zero (by omega)
    exact (may_nil w).mono fun e w' ⟨he, hw⟩ => ⟨he, by subst hw; exact Below.refl _ _⟩
theorem may_as {A : Option Addr} {n c : Nat} {t : List Rg} {v : Bool} (w : World) (h : RangesAt w w.heap.size A n c t) (hm : n ≤ 1000) (hv : Hid (mayT t = v)) :
    Calls Tryd.prog 36 #[.slice A n c] w fun e w' => e = .returned (.bool v) ∧ Below w.heap.size w w' := by
  have := may_any w h hm; rw [hv.out] at this; exact this
end Go.Proofs.YtkiggpbmlkfdpaaDoor
