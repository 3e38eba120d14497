/- The walks of base64's reader: over, pad, sign. -/
import Derived.Test.YtefhifmilmedhaaDoorB64End
import Derived.Test.YtefhifmilmedhaaDoorB64Law
import Derived.Test.YtefhifmilmedhaaDoorShelf
namespace Go.Proofs.YtefhifmilmedhaaDoor
open Go.RowKit

theorem and_15 (n : Int) (h0 : 0 ≤ n) (h1 : n ≤ 9223372036854775807) : bits .and .i64 n 15 = n % 16 := by
  obtain ⟨z, rfl⟩ := Int.eq_ofNat_of_zero_le h0
  have := i64_and_nat z 15 (by omega) (by omega)
  rw [show (15 : Nat) = 2 ^ 4 - 1 from rfl, Nat.and_two_pow_sub_one_eq_mod] at this
  simpa using this
theorem and_3 (n : Int) (h0 : 0 ≤ n) (h1 : n ≤ 9223372036854775807) : bits .and .i64 n 3 = n % 4 := by
  obtain ⟨z, rfl⟩ := Int.eq_ofNat_of_zero_le h0
  have := i64_and_nat z 3 (by omega) (by omega)
  rw [show (3 : Nat) = 2 ^ 2 - 1 from rfl, Nat.and_two_pow_sub_one_eq_mod] at this
  simpa using this
/-- The reader's values are small. -/
def RdOk (q : Rd) : Prop := q.n ≤ 3 ∧ q.p ≤ 2 ∧ q.r0 < 64 ∧ q.r1 < 64 ∧ q.r2 < 64 ∧ q.r3 < 64 ∧ (q.n = 0 ∨ q.p = 0 ∨ (q.n = 3 ∧ q.p = 1))

set_option maxHeartbeats 1000000 in
set_option maxRecDepth 100000 in
theorem over_any {B g : Nat} {q : Rd} (w : World) (h : RdAt B g q w) :
    Calls Tryd.prog 88 #[.pointer (some ⟨g, 0, none⟩)] w fun e w' => e = .returned (.bool (decide (q.n = 0 ∧ 0 < q.p))) ∧ w = w' := by
  obtain ⟨_, v, hk, _⟩ := h
  have c4 : w.cell? ⟨g, 4, none⟩ = some (.int .i64 (q.n : Int)) := Lib.cell_of_heap hk 4
  have c5 : w.cell? ⟨g, 5, none⟩ = some (.int .i64 (q.p : Int)) := Lib.cell_of_heap hk 5
  clear hk
  by_cases hn : q.n = 0
  · have hn' : ((q.n : Int) == 0) = true := beq_yes (by omega)
    go_enter Tryd.func88, Tryd.ntmps88
    go_wp2
    go_ret
    exact ⟨ret_bool (by simp [hn]), rfl⟩
  · have hn' : ((q.n : Int) == 0) = false := beq_no (by omega)
    go_enter Tryd.func88, Tryd.ntmps88
    go_wp2
    go_ret
    exact ⟨ret_bool (by simp [hn]), rfl⟩

theorem rd_set {w : World} {g j : Nat} {cs : Array Value} {T : TypeId} {u : Value} (h : w.heap[g]? = some (.cells cs T (0, 0))) : (w.setCell ⟨g, j, none⟩ u).heap[g]? = some (.cells (cs.setIfInBounds j u) T (0, 0)) := by
  simp [World.setCell, Array.getElem?_modify, h]
theorem own_set {w : World} {B g j n : Nat} {v u : Value} {xs : List Value} (h : w.ownsRow B 5 1 v n xs) (hne : v.ownBlock ≠ some g) : (w.setCell ⟨g, j, none⟩ u).ownsRow B 5 1 v n xs :=
  h.kept (row := some g) ⟨rfl, rfl, rfl, by simp [World.setCell], fun k _ hk => Below.heap_setCell _ _ _ _ (fun e => hk (by simp [e]))⟩ (Or.inr hne)
/-- A store into the reader's own cells. -/
theorem RdAt.put {w : World} {B g j : Nat} {q q' : Rd} {u : Value} (h : RdAt B g q w) (hj : ∀ v, (rdCells q v).setIfInBounds j u = rdCells q' v) (ho : q'.out = q.out) : RdAt B g q' (w.setCell ⟨g, j, none⟩ u) := by
  obtain ⟨hB, v, hk, hown⟩ := h
  refine ⟨hB, v, by rw [rd_set hk, hj], ?_⟩
  rw [ho]
  exact own_set hown (Lib.ownBlock_ne hown hk (by decide))
theorem RdAt.drewN {w : World} {B g : Nat} {q : Rd} (h : RdAt B g q w) (n : Nat) : RdAt B g q (w.drewN n) := h

set_option maxHeartbeats 1000000 in
set_option maxRecDepth 100000 in
theorem pad_no {B g : Nat} {q : Rd} (w : World) (h : RdAt B g q w) (hq : RdOk q) (hno : q.n < 2 ∨ (q.n = 2 ∧ q.r1 % 16 ≠ 0) ∨ (q.n = 3 ∧ q.p = 0 ∧ q.r2 % 4 ≠ 0)) :
    Calls Tryd.prog 89 #[.pointer (some ⟨g, 0, none⟩)] w fun e w' => e = .returned (.bool false) ∧ w = w' := by
  obtain ⟨_, v, hk, _⟩ := h
  obtain ⟨q1, q2, q3, q4, q5, q6, _⟩ := hq
  have c1 : w.cell? ⟨g, 1, none⟩ = some (.int .i64 (q.r1 : Int)) := Lib.cell_of_heap hk 1
  have c2 : w.cell? ⟨g, 2, none⟩ = some (.int .i64 (q.r2 : Int)) := Lib.cell_of_heap hk 2
  have c4 : w.cell? ⟨g, 4, none⟩ = some (.int .i64 (q.n : Int)) := Lib.cell_of_heap hk 4
  have c5 : w.cell? ⟨g, 5, none⟩ = some (.int .i64 (q.p : Int)) := Lib.cell_of_heap hk 5
  have a15 := and_15 (q.r1 : Int) (by omega) (by omega)
  have a3 := and_3 (q.r2 : Int) (by omega) (by omega)
  clear hk
  rcases hno with hn | ⟨hn, hr⟩ | ⟨hn, hp, hr⟩
  · have hn' : (q.n : Int) < 2 := by omega
    go_enter Tryd.func89, Tryd.ntmps89
    go_wp2
    go_ret
    exact ⟨rfl, rfl⟩
  · have hn1 : ¬ (q.n : Int) < 2 := by omega
    have hn' : ((q.n : Int) == 2) = true := beq_yes (by omega)
    have hr' : ((q.r1 : Int) % 16 != 0) = true := bne_yes (by omega)
    go_enter Tryd.func89, Tryd.ntmps89
    go_wp2
    go_ret
    exact ⟨rfl, rfl⟩
  · have hn1 : ¬ (q.n : Int) < 2 := by omega
    have hn2 : ((q.n : Int) == 2) = false := beq_no (by omega)
    have hn' : ((q.n : Int) == 3) = true := beq_yes (by omega)
    have hp' : ((q.p : Int) == 0) = true := beq_yes (by omega)
    have hr' : ((q.r2 : Int) % 4 != 0) = true := bne_yes (by omega)
    go_enter Tryd.func89, Tryd.ntmps89
    go_wp2
    go_ret
    exact ⟨rfl, rfl⟩

theorem RdAt.drew {w : World} {B g : Nat} {q : Rd} (h : RdAt B g q w) : RdAt B g q w.drew := h

set_option maxHeartbeats 1000000 in
set_option maxRecDepth 100000 in
theorem pad_two {B g r0 r1 r2 r3 : Nat} {out : List UInt8} (w : World) (h : RdAt B g ⟨2, 0, r0, r1, r2, r3, out⟩ w) (h0 : r0 < 64) (h1 : r1 < 64) (h3 : r3 < 64) (hr : r1 % 16 = 0) (hlen : out.length ≤ 1073741824) (hBw : B ≤ w.heap.size) :
    Calls Tryd.prog 89 #[.pointer (some ⟨g, 0, none⟩)] w fun e w' => e = .returned (.bool true) ∧ RdAt B g ⟨3, 1, r0, r1, 0, r3, out⟩ w' ∧ Below B w w' := by
  have hR := Lib.hid h
  obtain ⟨hB, v, hk, _⟩ := h
  have c1 : w.cell? ⟨g, 1, none⟩ = some (.int .i64 (r1 : Int)) := Lib.cell_of_heap hk 1
  have c2 : w.cell? ⟨g, 2, none⟩ = some (.int .i64 (r2 : Int)) := Lib.cell_of_heap hk 2
  have c4 : w.cell? ⟨g, 4, none⟩ = some (.int .i64 2) := Lib.cell_of_heap hk 4
  have c5 : w.cell? ⟨g, 5, none⟩ = some (.int .i64 0) := Lib.cell_of_heap hk 5
  have f2 : w.frozen? ⟨g, 2, none⟩ = false := Lib.frozen_of_heap hk 2
  have f4 : w.frozen? ⟨g, 4, none⟩ = false := Lib.frozen_of_heap hk 4
  have f5 : w.frozen? ⟨g, 5, none⟩ = false := Lib.frozen_of_heap hk 5
  have a15 := and_15 (r1 : Int) (by omega) (by omega)
  have hr' : ((r1 : Int) % 16 != 0) = false := bne_no (by omega)
  clear hk
  go_enter Tryd.func89, Tryd.ntmps89
  go_wp2
  go_region
  all_goals go_wp2_with fail
  refine (end_any (q := ⟨3, 1, r0, r1, 0, r3, out⟩) _ (RdAt.drew (RdAt.put (q := ⟨3, 0, r0, r1, 0, r3, out⟩) (RdAt.put (q := ⟨2, 0, r0, r1, 0, r3, out⟩) (RdAt.put hR.out (fun _ => rfl) rfl) (fun _ => rfl) rfl) (fun _ => rfl) rfl)) (by simp) h0 h1 (by simp) h3 (by simp) hlen (by simpa [World.setCell] using hBw)).mono ?_
  rintro e w' ⟨rfl, hq, hb⟩
  go_wp2_with fail
  go_ret
  exact ⟨rfl, hq, (((((Below.refl B w).setCell (p := ⟨g, 2, none⟩) hB _).setCell (p := ⟨g, 4, none⟩) hB _).setCell (p := ⟨g, 5, none⟩) hB _).drew).trans hb⟩

set_option maxHeartbeats 1000000 in
set_option maxRecDepth 100000 in
theorem pad_three {B g p r0 r1 r2 r3 : Nat} {out : List UInt8} (w : World) (h : RdAt B g ⟨3, p, r0, r1, r2, r3, out⟩ w) (h0 : r0 < 64) (h1 : r1 < 64) (h2 : r2 < 64) (hp : p = 0 ∧ r2 % 4 = 0 ∨ p = 1) (hlen : out.length ≤ 1073741824) (hBw : B ≤ w.heap.size) :
    Calls Tryd.prog 89 #[.pointer (some ⟨g, 0, none⟩)] w fun e w' => e = .returned (.bool true) ∧ RdAt B g (Rd.fin ⟨4, p + 1, r0, r1, r2, 0, out⟩) w' ∧ Below B w w' := by
  have hR := Lib.hid h
  obtain ⟨hB, v, hk, _⟩ := h
  have c1 : w.cell? ⟨g, 1, none⟩ = some (.int .i64 (r1 : Int)) := Lib.cell_of_heap hk 1
  have c2 : w.cell? ⟨g, 2, none⟩ = some (.int .i64 (r2 : Int)) := Lib.cell_of_heap hk 2
  have c3 : w.cell? ⟨g, 3, none⟩ = some (.int .i64 (r3 : Int)) := Lib.cell_of_heap hk 3
  have c4 : w.cell? ⟨g, 4, none⟩ = some (.int .i64 3) := Lib.cell_of_heap hk 4
  have c5 : w.cell? ⟨g, 5, none⟩ = some (.int .i64 (p : Int)) := Lib.cell_of_heap hk 5
  have f3 : w.frozen? ⟨g, 3, none⟩ = false := Lib.frozen_of_heap hk 3
  have f4 : w.frozen? ⟨g, 4, none⟩ = false := Lib.frozen_of_heap hk 4
  have f5 : w.frozen? ⟨g, 5, none⟩ = false := Lib.frozen_of_heap hk 5
  have a3 := and_3 (r2 : Int) (by omega) (by omega)
  have hpl : p ≤ 1 := by omega
  clear hk
  have fin : Calls Tryd.prog 91 #[.pointer (some ⟨g, 0, none⟩)] (((w.setCell ⟨g, 3, none⟩ (.int .i64 0)).setCell ⟨g, 4, none⟩ (.int .i64 4)).setCell ⟨g, 5, none⟩ (.int .i64 ((p : Int) + 1))).drew fun e w' => e = .returned (.tuple #[]) ∧ RdAt B g (Rd.fin ⟨4, p + 1, r0, r1, r2, 0, out⟩) w' ∧ Below B w w' := by
    refine (end_any (q := ⟨4, p + 1, r0, r1, r2, 0, out⟩) _ (RdAt.drew (RdAt.put (q := ⟨4, p, r0, r1, r2, 0, out⟩) (RdAt.put (q := ⟨3, p, r0, r1, r2, 0, out⟩) (RdAt.put hR.out (fun _ => rfl) rfl) (fun _ => rfl) rfl) (fun _ => rfl) rfl)) (by simp) h0 h1 h2 (by simp) (by simp; omega) hlen (by simpa [World.setCell] using hBw)).mono ?_
    rintro e w' ⟨rfl, hq, hb⟩
    exact ⟨rfl, hq, (((((Below.refl B w).setCell (p := ⟨g, 3, none⟩) hB _).setCell (p := ⟨g, 4, none⟩) hB _).setCell (p := ⟨g, 5, none⟩) hB _).drew).trans hb⟩
  have FIN := Lib.hid fin
  clear fin
  rcases hp with ⟨hp, hr⟩ | hp
  · have hp' : ((p : Int) == 0) = true := beq_yes (by omega)
    have hr' : ((r2 : Int) % 4 != 0) = false := bne_no (by omega)
    clear hp
    go_enter Tryd.func89, Tryd.ntmps89
    go_wp2
    go_region
    all_goals go_wp2_with fail
    refine FIN.out.mono ?_
    rintro e w' ⟨rfl, hq, hb⟩
    go_wp2_with fail
    go_ret
    exact ⟨rfl, hq, hb⟩
  · have hp' : ((p : Int) == 0) = false := beq_no (by omega)
    clear hp
    go_enter Tryd.func89, Tryd.ntmps89
    go_wp2
    go_region
    all_goals go_wp2_with fail
    refine FIN.out.mono ?_
    rintro e w' ⟨rfl, hq, hb⟩
    go_wp2_with fail
    go_ret
    exact ⟨rfl, hq, hb⟩

theorem index_val (c : UInt8) : Lib.indexByte sgs c = val c := by
  have : ∀ k, k < 256 → Lib.indexByte sgs (UInt8.ofNat k) = val (UInt8.ofNat k) := by decide +kernel
  have hc := this c.toNat (by have := c.toNat_lt; omega)
  rw [UInt8.ofNat_toNat] at hc
  exact hc
theorem idx_any {s : ByteArray} {c : UInt8} {v : Int} (w : World) (hs : s.data.toList = sgs) (hv : Hid (val c = v)) :
    Calls Tryd.prog 90 #[.string s, .int .u8 (c.toNat : Int)] w fun e w' => e = .returned (.int .i64 v) ∧ w = w' := by
  refine (Tryd.strings_IndexByte s _ w).mono ?_
  rintro e w' ⟨he, hw⟩
  rw [hs, show ((c.toNat : Int)).toNat.toUInt8 = c from by rw [Int.toNat_natCast]; exact UInt8.ofNat_toNat, index_val, hv.out] at he
  exact ⟨he, hw.symm⟩

set_option maxHeartbeats 1000000 in
set_option maxRecDepth 100000 in
theorem sign_no {B g : Nat} {q : Rd} (c : UInt8) (w : World) (h : RdAt B g q w) (hq : RdOk q) (hno : q.step c = none) :
    Calls Tryd.prog 75 #[.pointer (some ⟨g, 0, none⟩), .int .u8 (c.toNat : Int)] w fun e w' => e = .returned (.bool false) ∧ w = w' := by
  have hR := Lib.hid h
  obtain ⟨hB, v, hk, _⟩ := h
  have c5 : w.cell? ⟨g, 5, none⟩ = some (.int .i64 (q.p : Int)) := Lib.cell_of_heap hk 5
  clear hk
  by_cases ho : q.n = 0 ∧ 0 < q.p
  · have HO := Lib.hid (show decide (q.n = 0 ∧ 0 < q.p) = true from decide_eq_true ho)
    clear ho hno
    go_enter Tryd.func75, Tryd.ntmps75
    go_wp2_with fail
    refine (over_any _ hR.out).mono ?_
    rintro e w' ⟨he, rfl⟩
    rw [HO.out] at he
    subst he
    go_wp2_with fail
    go_ret
    exact ⟨rfl, rfl⟩
  · have HO := Lib.hid (show decide (q.n = 0 ∧ 0 < q.p) = false from decide_eq_false ho)
    unfold Rd.step at hno
    rw [if_neg ho] at hno
    by_cases hc : c = 61
    · subst hc
      have hbad : q.n < 2 ∨ (q.n = 2 ∧ q.r1 % 16 ≠ 0) ∨ (q.n = 3 ∧ q.p = 0 ∧ q.r2 % 4 ≠ 0) := by
        rw [if_pos rfl] at hno
        by_cases a1 : q.n < 2
        · exact .inl a1
        · rw [if_neg a1] at hno
          by_cases a2 : q.n = 2 ∧ q.r1 % 16 ≠ 0
          · exact .inr (.inl a2)
          · rw [if_neg a2] at hno
            by_cases a3 : q.n = 3 ∧ q.p = 0 ∧ q.r2 % 4 ≠ 0
            · exact .inr (.inr a3)
            · rw [if_neg a3] at hno; cases hno
      have HB := Lib.hid hbad
      have hcc : (((61 : UInt8).toNat : Int) == 61) = true := rfl
      have e61 : ((61 : UInt8).toNat : Int) = 61 := rfl
      clear hno ho hbad
      rw [e61]
      go_enter Tryd.func75, Tryd.ntmps75
      go_wp2_with fail
      refine (over_any _ hR.out).mono ?_
      rintro e w' ⟨he, rfl⟩
      rw [HO.out] at he
      subst he
      go_wp2_with fail
      refine (pad_no _ hR.out hq HB.out).mono ?_
      rintro e w' ⟨rfl, rfl⟩
      go_wp2_with fail
      go_ret
      exact ⟨rfl, rfl⟩
    · have hbad : val c < 0 ∨ 0 < q.p := by
        rw [if_neg hc] at hno
        by_cases a1 : val c < 0 ∨ 0 < q.p
        · exact a1
        · rw [if_neg a1] at hno; cases hno
      have hcc : ((c.toNat : Int) == 61) = false := beq_no (fun e => hc (by rw [← UInt8.toNat_inj]; show c.toNat = 61; omega))
      have hvr := val_range c
      obtain ⟨x, hx⟩ : ∃ x, val c = x := ⟨_, rfl⟩
      rw [hx] at hvr hbad
      have HX := Lib.hid hx
      clear hno ho hx hc
      by_cases hx0 : x < 0
      · go_enter Tryd.func75, Tryd.ntmps75
        go_wp2_with fail
        refine (over_any _ hR.out).mono ?_
        rintro e w' ⟨he, rfl⟩
        rw [HO.out] at he
        subst he
        go_wp2_with fail
        refine (idx_any _ rfl HX).mono ?_
        rintro e w' ⟨rfl, rfl⟩
        go_wp2_with fail
        go_ret
        exact ⟨rfl, rfl⟩
      · have hp0 : (0 : Int) < q.p := by omega
        go_enter Tryd.func75, Tryd.ntmps75
        go_wp2_with fail
        refine (over_any _ hR.out).mono ?_
        rintro e w' ⟨he, rfl⟩
        rw [HO.out] at he
        subst he
        go_wp2_with fail
        refine (idx_any _ rfl HX).mono ?_
        rintro e w' ⟨rfl, rfl⟩
        go_wp2_with fail
        go_ret
        exact ⟨rfl, rfl⟩
end Go.Proofs.YtefhifmilmedhaaDoor
