/- The walk of base64's reader: sign. -/
import Derived.Test.YtefhifmilmedhaaDoorB64Sign
namespace Go.Proofs.YtefhifmilmedhaaDoor
open Go.RowKit

theorem over_no {B g : Nat} {q : Rd} (w : World) (h : RdAt B g q w) (ho : ¬ (q.n = 0 ∧ 0 < q.p)) :
    Calls Tryd.prog 88 #[.pointer (some ⟨g, 0, none⟩)] w fun e w' => e = .returned (.bool false) ∧ w = w' :=
  (over_any _ h).mono fun e w' ⟨he, hw⟩ => ⟨by rw [decide_eq_false ho] at he; exact he, hw⟩



set_option maxHeartbeats 1000000 in
set_option maxRecDepth 100000 in
theorem push_0 {B g r0 r1 r2 r3 x : Nat} {out : List UInt8} (c : UInt8) (w : World) (h : RdAt B g ⟨0, 0, r0, r1, r2, r3, out⟩ w) (h1 : r1 < 64) (h2 : r2 < 64) (h3 : r3 < 64) (hx : x < 64) (hc : val c = (x : Int)) (hlen : out.length ≤ 1073741824) (hBw : B ≤ w.heap.size) :
    Calls Tryd.prog 75 #[.pointer (some ⟨g, 0, none⟩), .int .u8 (c.toNat : Int)] w fun e w' => e = .returned (.bool true) ∧ RdAt B g (Rd.fin ⟨1, 0, x, r1, r2, r3, out⟩) w' ∧ Below B w w' := by
  have hR := Lib.hid h
  have HO := Lib.hid (over_no _ h (fun hh => absurd hh.2 (Nat.lt_irrefl 0)))
  obtain ⟨hB, v, hk, _⟩ := h
  have cn : w.cell? ⟨g, 0, none⟩ = some (.int .i64 (r0 : Int)) := Lib.cell_of_heap hk 0
  have c4 : w.cell? ⟨g, 4, none⟩ = some (.int .i64 0) := Lib.cell_of_heap hk 4
  have c5 : w.cell? ⟨g, 5, none⟩ = some (.int .i64 0) := Lib.cell_of_heap hk 5
  have fn : w.frozen? ⟨g, 0, none⟩ = false := Lib.frozen_of_heap hk 0
  have f4 : w.frozen? ⟨g, 4, none⟩ = false := Lib.frozen_of_heap hk 4
  have hcc : ((c.toNat : Int) == 61) = false := beq_no (fun e => by
    have : c = 61 := by rw [← UInt8.toNat_inj]; show c.toNat = 61; omega
    rw [this, val_pad] at hc
    omega)
  have HX := Lib.hid hc
  have hx0 : ¬ (x : Int) < 0 := by omega
  have fin : Calls Tryd.prog 91 #[.pointer (some ⟨g, 0, none⟩)] ((w.setCell ⟨g, 0, none⟩ (.int .i64 (x : Int))).setCell ⟨g, 4, none⟩ (.int .i64 1)).drew fun e w' => e = .returned (.tuple #[]) ∧ RdAt B g (Rd.fin ⟨1, 0, x, r1, r2, r3, out⟩) w' ∧ Below B w w' := by
    refine (end_any (q := ⟨1, 0, x, r1, r2, r3, out⟩) _ (RdAt.drew (RdAt.put (q := ⟨0, 0, x, r1, r2, r3, out⟩) (RdAt.put hR.out (fun _ => rfl) rfl) (fun _ => rfl) rfl)) (by simp) hx h1 h2 h3 (by simp) hlen (by simpa [World.setCell] using hBw)).mono ?_
    rintro e w' ⟨rfl, hq, hb⟩
    exact ⟨rfl, hq, ((((Below.refl B w).setCell (p := ⟨g, 0, none⟩) hB _).setCell (p := ⟨g, 4, none⟩) hB _).drew).trans hb⟩
  have FIN := Lib.hid fin
  clear fin hk hc
  go_enter Tryd.func75, Tryd.ntmps75
  go_wp2_with fail
  refine HO.out.mono ?_
  rintro e w' ⟨rfl, rfl⟩
  go_wp2_with fail
  refine (idx_any _ rfl HX).mono ?_
  rintro e w' ⟨rfl, rfl⟩
  go_wp2_with fail
  go_region
  all_goals go_wp2_with fail
  refine FIN.out.mono ?_
  rintro e w' ⟨rfl, hq, hb⟩
  go_wp2_with fail
  go_ret
  exact ⟨rfl, hq, hb⟩

set_option maxHeartbeats 1000000 in
set_option maxRecDepth 100000 in
theorem push_1 {B g r0 r1 r2 r3 x : Nat} {out : List UInt8} (c : UInt8) (w : World) (h : RdAt B g ⟨1, 0, r0, r1, r2, r3, out⟩ w) (h0 : r0 < 64) (h2 : r2 < 64) (h3 : r3 < 64) (hx : x < 64) (hc : val c = (x : Int)) (hlen : out.length ≤ 1073741824) (hBw : B ≤ w.heap.size) :
    Calls Tryd.prog 75 #[.pointer (some ⟨g, 0, none⟩), .int .u8 (c.toNat : Int)] w fun e w' => e = .returned (.bool true) ∧ RdAt B g (Rd.fin ⟨2, 0, r0, x, r2, r3, out⟩) w' ∧ Below B w w' := by
  have hR := Lib.hid h
  have HO := Lib.hid (over_no _ h (fun hh => absurd hh.2 (Nat.lt_irrefl 0)))
  obtain ⟨hB, v, hk, _⟩ := h
  have cn : w.cell? ⟨g, 1, none⟩ = some (.int .i64 (r1 : Int)) := Lib.cell_of_heap hk 1
  have c4 : w.cell? ⟨g, 4, none⟩ = some (.int .i64 1) := Lib.cell_of_heap hk 4
  have c5 : w.cell? ⟨g, 5, none⟩ = some (.int .i64 0) := Lib.cell_of_heap hk 5
  have fn : w.frozen? ⟨g, 1, none⟩ = false := Lib.frozen_of_heap hk 1
  have f4 : w.frozen? ⟨g, 4, none⟩ = false := Lib.frozen_of_heap hk 4
  have hcc : ((c.toNat : Int) == 61) = false := beq_no (fun e => by
    have : c = 61 := by rw [← UInt8.toNat_inj]; show c.toNat = 61; omega
    rw [this, val_pad] at hc
    omega)
  have HX := Lib.hid hc
  have hx0 : ¬ (x : Int) < 0 := by omega
  have fin : Calls Tryd.prog 91 #[.pointer (some ⟨g, 0, none⟩)] ((w.setCell ⟨g, 1, none⟩ (.int .i64 (x : Int))).setCell ⟨g, 4, none⟩ (.int .i64 2)).drew fun e w' => e = .returned (.tuple #[]) ∧ RdAt B g (Rd.fin ⟨2, 0, r0, x, r2, r3, out⟩) w' ∧ Below B w w' := by
    refine (end_any (q := ⟨2, 0, r0, x, r2, r3, out⟩) _ (RdAt.drew (RdAt.put (q := ⟨1, 0, r0, x, r2, r3, out⟩) (RdAt.put hR.out (fun _ => rfl) rfl) (fun _ => rfl) rfl)) (by simp) h0 hx h2 h3 (by simp) hlen (by simpa [World.setCell] using hBw)).mono ?_
    rintro e w' ⟨rfl, hq, hb⟩
    exact ⟨rfl, hq, ((((Below.refl B w).setCell (p := ⟨g, 1, none⟩) hB _).setCell (p := ⟨g, 4, none⟩) hB _).drew).trans hb⟩
  have FIN := Lib.hid fin
  clear fin hk hc
  go_enter Tryd.func75, Tryd.ntmps75
  go_wp2_with fail
  refine HO.out.mono ?_
  rintro e w' ⟨rfl, rfl⟩
  go_wp2_with fail
  refine (idx_any _ rfl HX).mono ?_
  rintro e w' ⟨rfl, rfl⟩
  go_wp2_with fail
  go_region
  all_goals go_wp2_with fail
  refine FIN.out.mono ?_
  rintro e w' ⟨rfl, hq, hb⟩
  go_wp2_with fail
  go_ret
  exact ⟨rfl, hq, hb⟩

set_option maxHeartbeats 1000000 in
set_option maxRecDepth 100000 in
theorem push_2 {B g r0 r1 r2 r3 x : Nat} {out : List UInt8} (c : UInt8) (w : World) (h : RdAt B g ⟨2, 0, r0, r1, r2, r3, out⟩ w) (h0 : r0 < 64) (h1 : r1 < 64) (h3 : r3 < 64) (hx : x < 64) (hc : val c = (x : Int)) (hlen : out.length ≤ 1073741824) (hBw : B ≤ w.heap.size) :
    Calls Tryd.prog 75 #[.pointer (some ⟨g, 0, none⟩), .int .u8 (c.toNat : Int)] w fun e w' => e = .returned (.bool true) ∧ RdAt B g (Rd.fin ⟨3, 0, r0, r1, x, r3, out⟩) w' ∧ Below B w w' := by
  have hR := Lib.hid h
  have HO := Lib.hid (over_no _ h (fun hh => absurd hh.2 (Nat.lt_irrefl 0)))
  obtain ⟨hB, v, hk, _⟩ := h
  have cn : w.cell? ⟨g, 2, none⟩ = some (.int .i64 (r2 : Int)) := Lib.cell_of_heap hk 2
  have c4 : w.cell? ⟨g, 4, none⟩ = some (.int .i64 2) := Lib.cell_of_heap hk 4
  have c5 : w.cell? ⟨g, 5, none⟩ = some (.int .i64 0) := Lib.cell_of_heap hk 5
  have fn : w.frozen? ⟨g, 2, none⟩ = false := Lib.frozen_of_heap hk 2
  have f4 : w.frozen? ⟨g, 4, none⟩ = false := Lib.frozen_of_heap hk 4
  have hcc : ((c.toNat : Int) == 61) = false := beq_no (fun e => by
    have : c = 61 := by rw [← UInt8.toNat_inj]; show c.toNat = 61; omega
    rw [this, val_pad] at hc
    omega)
  have HX := Lib.hid hc
  have hx0 : ¬ (x : Int) < 0 := by omega
  have fin : Calls Tryd.prog 91 #[.pointer (some ⟨g, 0, none⟩)] ((w.setCell ⟨g, 2, none⟩ (.int .i64 (x : Int))).setCell ⟨g, 4, none⟩ (.int .i64 3)).drew fun e w' => e = .returned (.tuple #[]) ∧ RdAt B g (Rd.fin ⟨3, 0, r0, r1, x, r3, out⟩) w' ∧ Below B w w' := by
    refine (end_any (q := ⟨3, 0, r0, r1, x, r3, out⟩) _ (RdAt.drew (RdAt.put (q := ⟨2, 0, r0, r1, x, r3, out⟩) (RdAt.put hR.out (fun _ => rfl) rfl) (fun _ => rfl) rfl)) (by simp) h0 h1 hx h3 (by simp) hlen (by simpa [World.setCell] using hBw)).mono ?_
    rintro e w' ⟨rfl, hq, hb⟩
    exact ⟨rfl, hq, ((((Below.refl B w).setCell (p := ⟨g, 2, none⟩) hB _).setCell (p := ⟨g, 4, none⟩) hB _).drew).trans hb⟩
  have FIN := Lib.hid fin
  clear fin hk hc
  go_enter Tryd.func75, Tryd.ntmps75
  go_wp2_with fail
  refine HO.out.mono ?_
  rintro e w' ⟨rfl, rfl⟩
  go_wp2_with fail
  refine (idx_any _ rfl HX).mono ?_
  rintro e w' ⟨rfl, rfl⟩
  go_wp2_with fail
  go_region
  all_goals go_wp2_with fail
  refine FIN.out.mono ?_
  rintro e w' ⟨rfl, hq, hb⟩
  go_wp2_with fail
  go_ret
  exact ⟨rfl, hq, hb⟩

set_option maxHeartbeats 1000000 in
set_option maxRecDepth 100000 in
theorem push_3 {B g r0 r1 r2 r3 x : Nat} {out : List UInt8} (c : UInt8) (w : World) (h : RdAt B g ⟨3, 0, r0, r1, r2, r3, out⟩ w) (h0 : r0 < 64) (h1 : r1 < 64) (h2 : r2 < 64) (hx : x < 64) (hc : val c = (x : Int)) (hlen : out.length ≤ 1073741824) (hBw : B ≤ w.heap.size) :
    Calls Tryd.prog 75 #[.pointer (some ⟨g, 0, none⟩), .int .u8 (c.toNat : Int)] w fun e w' => e = .returned (.bool true) ∧ RdAt B g (Rd.fin ⟨4, 0, r0, r1, r2, x, out⟩) w' ∧ Below B w w' := by
  have hR := Lib.hid h
  have HO := Lib.hid (over_no _ h (fun hh => absurd hh.2 (Nat.lt_irrefl 0)))
  obtain ⟨hB, v, hk, _⟩ := h
  have cn : w.cell? ⟨g, 3, none⟩ = some (.int .i64 (r3 : Int)) := Lib.cell_of_heap hk 3
  have c4 : w.cell? ⟨g, 4, none⟩ = some (.int .i64 3) := Lib.cell_of_heap hk 4
  have c5 : w.cell? ⟨g, 5, none⟩ = some (.int .i64 0) := Lib.cell_of_heap hk 5
  have fn : w.frozen? ⟨g, 3, none⟩ = false := Lib.frozen_of_heap hk 3
  have f4 : w.frozen? ⟨g, 4, none⟩ = false := Lib.frozen_of_heap hk 4
  have hcc : ((c.toNat : Int) == 61) = false := beq_no (fun e => by
    have : c = 61 := by rw [← UInt8.toNat_inj]; show c.toNat = 61; omega
    rw [this, val_pad] at hc
    omega)
  have HX := Lib.hid hc
  have hx0 : ¬ (x : Int) < 0 := by omega
  have fin : Calls Tryd.prog 91 #[.pointer (some ⟨g, 0, none⟩)] ((w.setCell ⟨g, 3, none⟩ (.int .i64 (x : Int))).setCell ⟨g, 4, none⟩ (.int .i64 4)).drew fun e w' => e = .returned (.tuple #[]) ∧ RdAt B g (Rd.fin ⟨4, 0, r0, r1, r2, x, out⟩) w' ∧ Below B w w' := by
    refine (end_any (q := ⟨4, 0, r0, r1, r2, x, out⟩) _ (RdAt.drew (RdAt.put (q := ⟨3, 0, r0, r1, r2, x, out⟩) (RdAt.put hR.out (fun _ => rfl) rfl) (fun _ => rfl) rfl)) (by simp) h0 h1 h2 hx (by simp) hlen (by simpa [World.setCell] using hBw)).mono ?_
    rintro e w' ⟨rfl, hq, hb⟩
    exact ⟨rfl, hq, ((((Below.refl B w).setCell (p := ⟨g, 3, none⟩) hB _).setCell (p := ⟨g, 4, none⟩) hB _).drew).trans hb⟩
  have FIN := Lib.hid fin
  clear fin hk hc
  go_enter Tryd.func75, Tryd.ntmps75
  go_wp2_with fail
  refine HO.out.mono ?_
  rintro e w' ⟨rfl, rfl⟩
  go_wp2_with fail
  refine (idx_any _ rfl HX).mono ?_
  rintro e w' ⟨rfl, rfl⟩
  go_wp2_with fail
  go_region
  all_goals go_wp2_with fail
  refine FIN.out.mono ?_
  rintro e w' ⟨rfl, hq, hb⟩
  go_wp2_with fail
  go_ret
  exact ⟨rfl, hq, hb⟩

set_option maxHeartbeats 1000000 in
set_option maxRecDepth 100000 in
theorem sign_yes {B g : Nat} {q q' : Rd} (c : UInt8) (w : World) (h : RdAt B g q w) (hq : RdOk q) (hlen : q.out.length ≤ 1073741824) (hBw : B ≤ w.heap.size) (hy : q.step c = some q') :
    Calls Tryd.prog 75 #[.pointer (some ⟨g, 0, none⟩), .int .u8 (c.toNat : Int)] w fun e w' => e = .returned (.bool true) ∧ RdAt B g q' w' ∧ Below B w w' := by
  obtain ⟨n, p, r0, r1, r2, r3, out⟩ := q
  obtain ⟨q1, q2, q3, q4, q5, q6, q7⟩ := hq
  simp only at q1 q2 q3 q4 q5 q6 q7 hlen
  unfold Rd.step at hy
  by_cases ho : n = 0 ∧ 0 < p
  · rw [if_pos ho] at hy; cases hy
  rw [if_neg ho] at hy
  by_cases hc : c = 61
  · subst hc
    rw [if_pos rfl] at hy
    by_cases a1 : n < 2
    · rw [if_pos a1] at hy; cases hy
    rw [if_neg a1] at hy
    by_cases a2 : n = 2 ∧ r1 % 16 ≠ 0
    · rw [if_pos a2] at hy; cases hy
    rw [if_neg a2] at hy
    by_cases a3 : n = 3 ∧ p = 0 ∧ r2 % 4 ≠ 0
    · rw [if_pos a3] at hy; cases hy
    rw [if_neg a3] at hy
    have HO := Lib.hid (over_no _ h ho)
    have hR := Lib.hid h
    have pads : Calls Tryd.prog 89 #[.pointer (some ⟨g, 0, none⟩)] w fun e w' => e = .returned (.bool true) ∧ RdAt B g q' w' ∧ Below B w w' := by
      injection hy with hy
      by_cases hn2 : n = 2
      · obtain rfl : p = 0 := by omega
        subst hn2
        rw [← hy]
        exact pad_two w h q3 q4 q6 (Classical.not_not.1 fun hh => a2 ⟨rfl, hh⟩) hlen hBw
      · obtain rfl : n = 3 := by omega
        have HP3 : p = 0 ∧ r2 % 4 = 0 ∨ p = 1 := by
          rcases q7 with h | h | h
          · cases h
          · exact Or.inl ⟨h, Classical.not_not.1 fun hh => a3 ⟨rfl, h, hh⟩⟩
          · exact Or.inr h.2
        rw [← hy]
        exact pad_three w h q3 q4 q5 HP3 hlen hBw
    have PADS := Lib.hid pads
    have e61 : ((61 : UInt8).toNat : Int) = 61 := rfl
    clear hy pads a1 a2 a3 ho h q7
    rw [e61]
    go_enter Tryd.func75, Tryd.ntmps75
    go_wp2_with fail
    refine HO.out.mono ?_
    rintro e w' ⟨rfl, rfl⟩
    go_wp2_with fail
    refine PADS.out.mono ?_
    rintro e w' ⟨rfl, hq, hb⟩
    go_wp2_with fail
    go_ret
    exact ⟨rfl, hq, hb⟩
  · rw [if_neg hc] at hy
    by_cases a1 : val c < 0 ∨ 0 < p
    · rw [if_pos a1] at hy; cases hy
    rw [if_neg a1] at hy
    injection hy with hy
    have hvr := val_range c
    obtain ⟨x, hx⟩ : ∃ x : Nat, val c = x := ⟨(val c).toNat, by omega⟩
    rw [hx, Int.toNat_natCast] at hy
    obtain rfl : p = 0 := by omega
    have hn : n = 0 ∨ n = 1 ∨ n = 2 ∨ n = 3 := by omega
    rcases hn with rfl | rfl | rfl | rfl
    · rw [← hy]; exact push_0 c w h q4 q5 q6 (by omega) hx hlen hBw
    · rw [← hy]; exact push_1 c w h q3 q5 q6 (by omega) hx hlen hBw
    · rw [← hy]; exact push_2 c w h q3 q4 q6 (by omega) hx hlen hBw
    · rw [← hy]; exact push_3 c w h q3 q4 q5 (by omega) hx hlen hBw
/-- A step leaves the values small. -/
theorem step_small {q q' : Rd} {c : UInt8} (hq : RdOk q) (hy : q.step c = some q') : RdOk q' ∧ q'.out.length ≤ q.out.length + 3 := by
  obtain ⟨n, p, r0, r1, r2, r3, out⟩ := q
  obtain ⟨q1, q2, q3, q4, q5, q6, q7⟩ := hq
  simp only at q1 q2 q3 q4 q5 q6 q7
  unfold Rd.step at hy
  by_cases ho : n = 0 ∧ 0 < p
  · rw [if_pos ho] at hy; cases hy
  rw [if_neg ho] at hy
  by_cases hc : c = 61
  · subst hc
    rw [if_pos rfl] at hy
    by_cases a1 : n < 2
    · rw [if_pos a1] at hy; cases hy
    rw [if_neg a1] at hy
    by_cases a2 : n = 2 ∧ r1 % 16 ≠ 0
    · rw [if_pos a2] at hy; cases hy
    rw [if_neg a2] at hy
    by_cases a3 : n = 3 ∧ p = 0 ∧ r2 % 4 ≠ 0
    · rw [if_pos a3] at hy; cases hy
    rw [if_neg a3] at hy
    injection hy with hy
    by_cases hn2 : n = 2
    · obtain rfl : p = 0 := by omega
      subst hn2 hy
      simp only [Rd.put, Rd.fin, RdOk]
      simp
      omega
    · obtain rfl : n = 3 := by omega
      subst hy
      simp only [Rd.put, Rd.fin, RdOk]
      simp [group]
      omega
  · rw [if_neg hc] at hy
    by_cases a1 : val c < 0 ∨ 0 < p
    · rw [if_pos a1] at hy; cases hy
    rw [if_neg a1] at hy
    injection hy with hy
    have hvr := val_range c
    obtain rfl : p = 0 := by omega
    have hn : n = 0 ∨ n = 1 ∨ n = 2 ∨ n = 3 := by omega
    rcases hn with rfl | rfl | rfl | rfl <;> (subst hy; simp [Rd.put, Rd.fin, RdOk, group]; omega)
end Go.Proofs.YtefhifmilmedhaaDoor
