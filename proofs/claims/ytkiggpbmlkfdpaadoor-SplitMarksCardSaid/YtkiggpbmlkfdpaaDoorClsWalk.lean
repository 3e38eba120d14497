/- The walks of class: Compare, the search, May, Of. -/
import Derived.Test.YtkiggpbmlkfdpaaDoorClsLaw
import Derived.Test.YtkiggpbmlkfdpaaDoorProg
import Derived.Deep.QuietTactic
import Derived.BigQuiet
namespace Go.Proofs.YtkiggpbmlkfdpaaDoor
open Go.RowKit
set_option linter.unusedVariables false

/-- The cells of a table. -/
def rangesV (t : List Rg) : List Value := t.flatMap fun x => [.int .i64 x.1, .int .i64 x.2.1, .int .i64 x.2.2]
theorem rangesV_cons (x : Rg) (r : List Rg) : rangesV (x :: r) = .int .i64 x.1 :: .int .i64 x.2.1 :: .int .i64 x.2.2 :: rangesV r := rfl
theorem rangesV_app (s t : List Rg) : rangesV (s ++ t) = rangesV s ++ rangesV t := by unfold rangesV; exact List.flatMap_append
theorem length_rangesV : ∀ t : List Rg, (rangesV t).length = t.length * 3
  | [] => rfl
  | x :: r => by rw [rangesV_cons]; simp only [List.length_cons, length_rangesV r]; omega
theorem rangesV_get : ∀ {t : List Rg} {i : Nat}, i < t.length → (rangesV t)[i * 3]? = some (.int .i64 (rg t i).1) ∧ (rangesV t)[i * 3 + 1]? = some (.int .i64 (rg t i).2.1) ∧ (rangesV t)[i * 3 + 2]? = some (.int .i64 (rg t i).2.2)
  | x :: r, 0, _ => ⟨rfl, rfl, rfl⟩
  | x :: r, i + 1, h => by
    have := rangesV_get (t := r) (i := i) (by simp only [List.length_cons] at h; omega)
    rw [rangesV_cons, show (i + 1) * 3 = i * 3 + 1 + 1 + 1 from by omega]
    simp only [List.getElem?_cons_succ]
    exact this
def RangesAt (w : World) (B : Nat) (A : Option Addr) (n c : Nat) (t : List Rg) : Prop := RowAt w B 3 A n c (rangesV t)
section
variable {w w' : World} {B n c : Nat} {A : Option Addr} {t : List Rg}
theorem RangesAt.len (h : RangesAt w B A n c t) : n = t.length := by have := h.1; rw [length_rangesV] at this; omega
theorem RangesAt.cells (h : RangesAt w B A n c t) (h0 : 0 < n) : ∃ b off, A = some ⟨b, off, none⟩ ∧ b < B ∧ ∀ i, i < t.length → w.cell? ⟨b, off + i * 3, none⟩ = some (.int .i64 (rg t i).1) ∧ w.cell? ⟨b, off + i * 3 + 1, none⟩ = some (.int .i64 (rg t i).2.1) ∧ w.cell? ⟨b, off + i * 3 + 2, none⟩ = some (.int .i64 (rg t i).2.2) := by
  obtain ⟨b, off, e, hb, hc⟩ := h.2.2.2 h0
  refine ⟨b, off, e, hb, fun i hi => ?_⟩
  obtain ⟨h1, h2, h3⟩ := rangesV_get hi
  exact ⟨hc _ _ h1, by rw [Nat.add_assoc]; exact hc _ _ h2, by rw [Nat.add_assoc]; exact hc _ _ h3⟩
end

def cmpI (x y : Int) : Int := if x < y then -1 else if y < x then 1 else 0
set_option maxHeartbeats 400000 in
theorem isNaN_any (x : Int) (w : World) : Calls Tryd.prog 87 #[.int .i64 x] w fun e w' => e = .returned (.bool false) ∧ w = w' := by
  go_enter Tryd.func87, Tryd.ntmps87
  go_wp2
  go_ret
  exact ⟨by simp, rfl⟩
set_option maxHeartbeats 400000 in
theorem compare_any (x y : Int) (w : World) : Calls Tryd.prog 85 #[.int .i64 x, .int .i64 y] w fun e w' => e = .returned (.int .i64 (cmpI x y)) ∧ w = w' := by
  have hd : x < y ∨ y < x ∨ (¬ x < y ∧ ¬ y < x) := by omega
  rcases hd with h | h | ⟨h, h'⟩
  all_goals
    go_enter Tryd.func85, Tryd.ntmps85
    go_wp2_with fail
    refine (isNaN_any _ _).mono ?_
    rintro e w' ⟨rfl, rfl⟩
    go_wp2_with fail
    refine (isNaN_any _ _).mono ?_
    rintro e w' ⟨rfl, rfl⟩
    go_wp2
    go_ret
    refine ⟨ret_int ?_, rfl⟩
    unfold cmpI
    (repeat' split) <;> omega
set_option maxHeartbeats 400000 in
theorem ofcmp_any (lo hi c p : Int) (w : World) : Calls Tryd.prog 84 #[.agg #[.int .i64 lo, .int .i64 hi, .int .i64 c], .int .i64 p] w fun e w' => e = .returned (.int .i64 (cmpI hi p)) ∧ Below w.heap.size w w' := by
  go_enter Tryd.func84, Tryd.ntmps84
  go_wp2_with fail
  refine (compare_any _ _ _).mono ?_
  rintro e w' ⟨rfl, rfl⟩
  go_wp2
  go_ret
  exact ⟨rfl, (Below.refl _ _).alloc (Nat.le_refl _) _⟩

theorem ofcmp_as {lo hi c p r : Int} (w : World) (h : Hid (cmpI hi p = r)) : Calls Tryd.prog 84 #[.agg #[.int .i64 lo, .int .i64 hi, .int .i64 c], .int .i64 p] w fun e w' => e = .returned (.int .i64 r) ∧ Below w.heap.size w w' := by
  have := ofcmp_any lo hi c p w; rw [h.out] at this; exact this

/-- What the search answers: the first range that doesn't end ahead of a point. -/
def FoundAt (t : List Rg) (p : Int) (w : World) (e : Ending) (w' : World) : Prop := ∃ (i : Nat) (f : Bool), e = .returned (.tuple #[.int .i64 i, .bool f]) ∧ i ≤ t.length ∧ (∀ k, k < i → (rg t k).2.1 < p) ∧ (∀ k, i ≤ k → k < t.length → p ≤ (rg t k).2.1) ∧ Below w.heap.size w w'

set_option maxRecDepth 100000 in
set_option maxHeartbeats 1000000 in
theorem search_pos {b off c : Nat} {t : List Rg} (p : Int) (w : World) (ht : Hid (rOk (-1) t = true)) (h0 : 0 < t.length) (hm : t.length ≤ 200) (hc0 : t.length ≤ c) (hc1 : c ≤ 9223372036854775807) (hb : b < w.heap.size)
    (HC : Hid (∀ i, i < t.length → w.cell? ⟨b, off + i * 3, none⟩ = some (.int .i64 (rg t i).1) ∧ w.cell? ⟨b, off + i * 3 + 1, none⟩ = some (.int .i64 (rg t i).2.1) ∧ w.cell? ⟨b, off + i * 3 + 2, none⟩ = some (.int .i64 (rg t i).2.2))) :
    Calls Tryd.prog 83 #[.slice (some ⟨b, off, none⟩) t.length c, .int .i64 p, .func (.func 84) #[] #[]] w (FoundAt t p w) := by
  go_enter Tryd.func83, Tryd.ntmps83
  go_wp2_with fail
  go_loopw [9, 10] (fun u v wr => ∃ i j : Nat, u = .int .i64 i ∧ v = .int .i64 j ∧ i ≤ j ∧ j ≤ t.length ∧ Hid (∀ k, k < i → (rg t k).2.1 < p) ∧ Hid (∀ k, j ≤ k → k < t.length → p ≤ (rg t k).2.1) ∧ Below w.heap.size w wr) (fun u v _ => (intOf v).toNat - (intOf u).toNat)
  case atStart => exact ⟨0, t.length, rfl, rfl, Nat.zero_le _, Nat.le_refl _, fun k h => absurd h (by omega), fun k h h' => absurd h' (by omega), Below.refl _ _⟩
  case round =>
    obtain ⟨i, j, rfl, rfl, hij, hj, H1, H2, hbel⟩ := hrel
    have HB := Lib.hid hbel
    by_cases hlt : i < j
    · have hlt1 : (i : Int) < j := by omega
      obtain ⟨m, hm2⟩ : ∃ m, (i + j) / 2 = m := ⟨_, rfl⟩
      have hm3 : ((i : Int) + j) / 2 = m := by omega
      have hm4 : m < t.length := by omega
      have hm5 : (m : Int) < t.length := by omega
      obtain ⟨c0, c1, c2⟩ := HC.out m hm4
      have d0 : wr.cell? ⟨b, off + m * 3, none⟩ = some (.int .i64 (rg t m).1) := (hbel.cell (p := ⟨b, off + m * 3, none⟩) hb).trans c0
      have d1 : wr.cell? ⟨b, off + m * 3 + 1, none⟩ = some (.int .i64 (rg t m).2.1) := (hbel.cell (p := ⟨b, off + m * 3 + 1, none⟩) hb).trans c1
      have d2 : wr.cell? ⟨b, off + m * 3 + 2, none⟩ = some (.int .i64 (rg t m).2.2) := (hbel.cell (p := ⟨b, off + m * 3 + 2, none⟩) hb).trans c2
      clear hbel c0 c1 c2
      have hmono : ∀ k k' : Nat, k ≤ k' → k' < t.length → (rg t k).2.1 ≤ (rg t k').2.1 := fun k k' h1 h2 => by
        rcases Nat.lt_or_ge k k' with h3 | h3
        · have h4 := rOk_rise ht.out h3 h2
          have h5 := rOk_at ht.out h2
          omega
        · obtain rfl : k = k' := by omega
          exact Int.le_refl _
      by_cases hp : (rg t m).2.1 < p
      · have HC := Lib.hid (show cmpI (rg t m).2.1 p = -1 from by unfold cmpI; rw [if_pos hp])
        have H1' := Lib.hid (show ∀ k, k < m + 1 → (rg t k).2.1 < p from fun k hk => by have := hmono k m (by omega) hm4; omega)
        clear hmono hp
        go_wp2_with fail
        refine (ofcmp_as _ HC).mono ?_
        rintro e w2 ⟨rfl, hb2⟩
        have HB2 := Lib.hid (HB.out.trans (hb2.mono HB.out.size))
        clear hb2
        go_wp2_with fail
        go_roundw
        case rel => exact ⟨m + 1, j, by go_num, rfl, by omega, hj, H1'.out, H2.out, HB2.out⟩
        case measure => simp [intOf]; omega
      · have H2' := Lib.hid (show ∀ k, m ≤ k → k < t.length → p ≤ (rg t k).2.1 from fun k hk hk2 => by have := hmono m k hk hk2; omega)
        obtain ⟨r, hr⟩ : ∃ r, cmpI (rg t m).2.1 p = r := ⟨_, rfl⟩
        have HC := Lib.hid hr
        have hr0 : ¬ r < 0 := by rw [← hr]; unfold cmpI; rw [if_neg hp]; split <;> omega
        clear hmono hp hr
        go_wp2_with fail
        refine (ofcmp_as _ HC).mono ?_
        rintro e w2 ⟨rfl, hb2⟩
        have HB2 := Lib.hid (HB.out.trans (hb2.mono HB.out.size))
        clear hb2
        go_wp2_with fail
        go_roundw
        case rel => exact ⟨i, m, rfl, rfl, by omega, by omega, H1.out, H2'.out, HB2.out⟩
        case measure => simp [intOf]; omega
    · obtain rfl : i = j := by omega
      have hlt1 : ¬ (i : Int) < i := by omega
      by_cases hin : i < t.length
      · have hin1 : (i : Int) < t.length := by omega
        have hin2 : decide ((i : Int) < t.length) = true := decide_eq_true hin1
        have hin3 : decide (i < t.length) = true := decide_eq_true hin
        obtain ⟨c0, c1, c2⟩ := HC.out i hin
        have d0 : wr.cell? ⟨b, off + i * 3, none⟩ = some (.int .i64 (rg t i).1) := (hbel.cell (p := ⟨b, off + i * 3, none⟩) hb).trans c0
        have d1 : wr.cell? ⟨b, off + i * 3 + 1, none⟩ = some (.int .i64 (rg t i).2.1) := (hbel.cell (p := ⟨b, off + i * 3 + 1, none⟩) hb).trans c1
        have d2 : wr.cell? ⟨b, off + i * 3 + 2, none⟩ = some (.int .i64 (rg t i).2.2) := (hbel.cell (p := ⟨b, off + i * 3 + 2, none⟩) hb).trans c2
        obtain ⟨r, hr⟩ : ∃ r, cmpI (rg t i).2.1 p = r := ⟨_, rfl⟩
        have HCC := Lib.hid hr
        clear hbel c0 c1 c2 hr
        go_wp2_with fail
        refine (ofcmp_as _ HCC).mono ?_
        rintro e w2 ⟨rfl, hb2⟩
        have HB2 := Lib.hid (HB.out.trans (hb2.mono HB.out.size))
        clear hb2
        go_wp2_with fail
        go_ret2
        exact ⟨i, _, rfl, hj, H1.out, H2.out, HB2.out⟩
      · have hin2 : decide ((i : Int) < t.length) = false := decide_eq_false (by omega)
        have hin3 : decide (i < t.length) = false := decide_eq_false hin
        clear hbel
        go_wp2_with fail
        go_ret2
        exact ⟨i, _, rfl, hj, H1.out, H2.out, HB.out⟩

set_option maxRecDepth 100000 in
set_option maxHeartbeats 1000000 in
theorem search_nil {A : Option Addr} {c : Nat} (p : Int) (w : World) :
    Calls Tryd.prog 83 #[.slice A 0 c, .int .i64 p, .func (.func 84) #[] #[]] w fun e w' => e = .returned (.tuple #[.int .i64 0, .bool false]) ∧ w = w' := by
  go_enter Tryd.func83, Tryd.ntmps83
  go_wp2_with fail
  go_loop [9, 10] (fun u v => u = .int .i64 0 ∧ v = .int .i64 0) (fun u v => 0)
  case atStart => exact ⟨rfl, rfl⟩
  case round =>
    obtain ⟨rfl, rfl⟩ := hrel
    go_wp2_with fail
    go_ret2
    exact ⟨rfl, rfl⟩

/-- What the program's look finds wrong first. -/
theorem okAt_cases (t : List Rg) (i : Nat) : (okAt t i = false ∧ ((rg t i).1 < 0 ∨ (0 ≤ (rg t i).1 ∧ (rg t i).2.1 < (rg t i).1) ∨ (0 ≤ (rg t i).1 ∧ (rg t i).1 ≤ (rg t i).2.1 ∧ 1114111 < (rg t i).2.1) ∨
    (0 ≤ (rg t i).1 ∧ (rg t i).1 ≤ (rg t i).2.1 ∧ (rg t i).2.1 ≤ 1114111 ∧ (rg t i).2.2 < 1) ∨ (0 ≤ (rg t i).1 ∧ (rg t i).1 ≤ (rg t i).2.1 ∧ (rg t i).2.1 ≤ 1114111 ∧ 1 ≤ (rg t i).2.2 ∧ 4 < (rg t i).2.2) ∨
    (0 ≤ (rg t i).1 ∧ (rg t i).1 ≤ (rg t i).2.1 ∧ (rg t i).2.1 ≤ 1114111 ∧ 1 ≤ (rg t i).2.2 ∧ (rg t i).2.2 ≤ 4 ∧ 0 < i ∧ (rg t i).1 ≤ (rg t (i - 1)).2.1))) ∨
    (okAt t i = true ∧ 0 ≤ (rg t i).1 ∧ (rg t i).1 ≤ (rg t i).2.1 ∧ (rg t i).2.1 ≤ 1114111 ∧ 1 ≤ (rg t i).2.2 ∧ (rg t i).2.2 ≤ 4 ∧ (i = 0 ∨ (0 < i ∧ (rg t (i - 1)).2.1 < (rg t i).1))) := by
  unfold okAt
  rcases hd : decide (0 ≤ (rg t i).1 ∧ (rg t i).1 ≤ (rg t i).2.1 ∧ (rg t i).2.1 ≤ 1114111 ∧ 1 ≤ (rg t i).2.2 ∧ (rg t i).2.2 ≤ 4 ∧ (0 < i → (rg t (i - 1)).2.1 < (rg t i).1)) with _ | _
  · left
    rw [decide_eq_false_iff_not] at hd
    exact ⟨rfl, by omega⟩
  · right
    rw [decide_eq_true_iff] at hd
    exact ⟨rfl, by omega⟩
end Go.Proofs.YtkiggpbmlkfdpaaDoor
