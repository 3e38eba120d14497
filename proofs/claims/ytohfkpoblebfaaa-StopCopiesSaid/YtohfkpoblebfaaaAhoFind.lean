/- The walks of cmp.Compare, of the search among a state's ways, of find. -/
import Derived.Test.YtohfkpoblebfaaaAhoLaw
import Derived.Test.YtohfkpoblebfaaaMem
import Derived.Test.YtohfkpoblebfaaaProg
import Derived.Deep.QuietTactic
import Derived.BigQuiet
namespace Go.Proofs.Ytohfkpoblebfaaa
open Go.RowKit
set_option linter.unusedVariables false

/-- The cells of ways. -/
def waysV (ws : List (Int × Nat)) : List Value := ws.flatMap fun x => [.int .i64 x.1, .int .i64 (x.2 : Int)]
theorem waysV_cons (x : Int × Nat) (r : List (Int × Nat)) : waysV (x :: r) = .int .i64 x.1 :: .int .i64 (x.2 : Int) :: waysV r := rfl
theorem waysV_app (s t : List (Int × Nat)) : waysV (s ++ t) = waysV s ++ waysV t := by unfold waysV; exact List.flatMap_append
theorem length_waysV : ∀ t : List (Int × Nat), (waysV t).length = t.length * 2
  | [] => rfl
  | x :: r => by rw [waysV_cons]; simp only [List.length_cons, length_waysV r]; omega
theorem waysV_get : ∀ {t : List (Int × Nat)} {i : Nat}, i < t.length → (waysV t)[i * 2]? = some (.int .i64 (wy t i).1) ∧ (waysV t)[i * 2 + 1]? = some (.int .i64 ((wy t i).2 : Int))
  | x :: r, 0, _ => ⟨rfl, rfl⟩
  | x :: r, i + 1, h => by
    have := waysV_get (t := r) (i := i) (by simp only [List.length_cons] at h; omega)
    rw [waysV_cons, show (i + 1) * 2 = i * 2 + 1 + 1 from by omega]
    simp only [List.getElem?_cons_succ]
    exact this
def WaysAt (w : World) (B : Nat) (A : Option Addr) (n c : Nat) (t : List (Int × Nat)) : Prop := RowAt w B 2 A n c (waysV t)
section
variable {w w' : World} {B n c : Nat} {A : Option Addr} {t : List (Int × Nat)}
theorem WaysAt.len (h : WaysAt w B A n c t) : n = t.length := by have := h.1; rw [length_waysV] at this; omega
theorem WaysAt.cells (h : WaysAt w B A n c t) (h0 : 0 < n) : ∃ b off, A = some ⟨b, off, none⟩ ∧ b < B ∧ ∀ i, i < t.length → w.cell? ⟨b, off + i * 2, none⟩ = some (.int .i64 (wy t i).1) ∧ w.cell? ⟨b, off + i * 2 + 1, none⟩ = some (.int .i64 ((wy t i).2 : Int)) := by
  obtain ⟨b, off, e, hb, hc⟩ := h.2.2.2 h0
  refine ⟨b, off, e, hb, fun i hi => ?_⟩
  obtain ⟨h1, h2⟩ := waysV_get hi
  exact ⟨hc _ _ h1, by rw [Nat.add_assoc]; exact hc _ _ h2⟩
end

def cmpI (x y : Int) : Int := if x < y then -1 else if y < x then 1 else 0
set_option maxHeartbeats 400000 in
theorem isNaN_any (x : Int) (w : World) : Calls Try.prog 51 #[.int .i64 x] w fun e w' => e = .returned (.bool false) ∧ w = w' := by
  go_enter Try.func51, Try.ntmps51
  go_wp2
  go_ret
  exact ⟨by simp, rfl⟩
set_option maxHeartbeats 400000 in
theorem compare_any (x y : Int) (w : World) : Calls Try.prog 49 #[.int .i64 x, .int .i64 y] w fun e w' => e = .returned (.int .i64 (cmpI x y)) ∧ w = w' := by
  have hd : x < y ∨ y < x ∨ (¬ x < y ∧ ¬ y < x) := by omega
  rcases hd with h | h | ⟨h, h'⟩
  all_goals
    go_enter Try.func49, Try.ntmps49
    go_wp2_with fail
    refine (isNaN_any _ _).mono ?_
    rintro e w' ⟨rfl, rfl⟩
    go_wp2_with fail
    refine (isNaN_any _ _).mono ?_
    rintro e w' ⟨rfl, rfl⟩
    go_wp2
    go_ret
    refine ⟨ret_int ?_, rfl⟩
    unfold cmpI
    (repeat' split) <;> omega
set_option maxHeartbeats 400000 in
theorem waycmp_any (a b p : Int) (w : World) : Calls Try.prog 48 #[.agg #[.int .i64 a, .int .i64 b], .int .i64 p] w fun e w' => e = .returned (.int .i64 (cmpI a p)) ∧ Below w.heap.size w w' := by
  go_enter Try.func48, Try.ntmps48
  go_wp2_with fail
  refine (compare_any _ _ _).mono ?_
  rintro e w' ⟨rfl, rfl⟩
  go_wp2
  go_ret
  exact ⟨rfl, (Below.refl _ _).alloc (Nat.le_refl _) _⟩
theorem waycmp_as {a b p r : Int} (w : World) (h : Hid (cmpI a p = r)) : Calls Try.prog 48 #[.agg #[.int .i64 a, .int .i64 b], .int .i64 p] w fun e w' => e = .returned (.int .i64 r) ∧ Below w.heap.size w w' := by
  have := waycmp_any a b p w; rw [h.out] at this; exact this

/-- What the search answers: the place of a symbol among ways, and whether it is there. -/
def FoundAt (t : List (Int × Nat)) (p : Int) (w : World) (e : Ending) (w' : World) : Prop := ∃ f : Bool, e = .returned (.tuple #[.int .i64 (posOf t p : Int), .bool f]) ∧ (f = true ↔ (posOf t p < t.length ∧ (wy t (posOf t p)).1 = p)) ∧ Below w.heap.size w w'
theorem rising_le {t : List (Int × Nat)} (h : Rising t) {k k' : Nat} (h1 : k ≤ k') (h2 : k' < t.length) : (wy t k).1 ≤ (wy t k').1 := by
  induction t generalizing k k' with
  | nil => simp at h2
  | cons a r ih =>
    cases k' with
    | zero => obtain rfl : k = 0 := by omega
              exact Int.le_refl _
    | succ k' =>
      have h2' : k' < r.length := by simp only [List.length_cons] at h2; omega
      cases k with
      | zero =>
        have := rising_head h (wy r k') (by unfold wy; rw [List.getD_eq_getElem?_getD, List.getElem?_eq_getElem h2']; exact List.getElem_mem h2')
        show a.1 ≤ (wy r k').1
        omega
      | succ k => exact ih (rising_tail h) (by omega) h2'

set_option maxRecDepth 100000 in
set_option maxHeartbeats 1000000 in
theorem search_pos {b off c : Nat} {t : List (Int × Nat)} (p : Int) (w : World) (ht : Hid (Rising t)) (h0 : 0 < t.length) (hm : t.length ≤ 100000) (hc0 : t.length ≤ c) (hc1 : c ≤ 9223372036854775807) (hb : b < w.heap.size)
    (HC : Hid (∀ i, i < t.length → w.cell? ⟨b, off + i * 2, none⟩ = some (.int .i64 (wy t i).1) ∧ w.cell? ⟨b, off + i * 2 + 1, none⟩ = some (.int .i64 ((wy t i).2 : Int)))) :
    Calls Try.prog 47 #[.slice (some ⟨b, off, none⟩) t.length c, .int .i64 p, .func (.func 48) #[] #[]] w (FoundAt t p w) := by
  go_enter Try.func47, Try.ntmps47
  go_wp2_with fail
  go_loopw [9, 10] (fun u v wr => ∃ i j : Nat, u = .int .i64 i ∧ v = .int .i64 j ∧ i ≤ j ∧ j ≤ t.length ∧ Hid (∀ k, k < i → (wy t k).1 < p) ∧ Hid (∀ k, j ≤ k → k < t.length → p ≤ (wy t k).1) ∧ Below w.heap.size w wr) (fun u v _ => (intOf v).toNat - (intOf u).toNat)
  case atStart => exact ⟨0, t.length, rfl, rfl, Nat.zero_le _, Nat.le_refl _, fun k h => absurd h (by omega), fun k h h' => absurd h' (by omega), Below.refl _ _⟩
  case round =>
    obtain ⟨i, j, rfl, rfl, hij, hj, H1, H2, hbel⟩ := hrel
    have HB := Lib.hid hbel
    by_cases hlt : i < j
    · have hlt1 : (i : Int) < j := by omega
      obtain ⟨m, hm2⟩ : ∃ m, (i + j) / 2 = m := ⟨_, rfl⟩
      have hm3 : ((i : Int) + j) / 2 = m := by omega
      have hm4 : m < t.length := by omega
      have hm5 : (m : Int) < t.length := by omega
      obtain ⟨c0, c1⟩ := HC.out m hm4
      have d0 : wr.cell? ⟨b, off + m * 2, none⟩ = some (.int .i64 (wy t m).1) := (hbel.cell (p := ⟨b, off + m * 2, none⟩) hb).trans c0
      have d1 : wr.cell? ⟨b, off + m * 2 + 1, none⟩ = some (.int .i64 ((wy t m).2 : Int)) := (hbel.cell (p := ⟨b, off + m * 2 + 1, none⟩) hb).trans c1
      clear hbel c0 c1
      by_cases hp : (wy t m).1 < p
      · have HC := Lib.hid (show cmpI (wy t m).1 p = -1 from by unfold cmpI; rw [if_pos hp])
        have H1' := Lib.hid (show ∀ k, k < m + 1 → (wy t k).1 < p from fun k hk => by have := rising_le ht.out (show k ≤ m by omega) hm4; omega)
        clear hp
        go_wp2_with fail
        refine (waycmp_as _ HC).mono ?_
        rintro e w2 ⟨rfl, hb2⟩
        have HB2 := Lib.hid (HB.out.trans (hb2.mono HB.out.size))
        clear hb2
        go_wp2_with fail
        go_roundw
        case rel => exact ⟨m + 1, j, by go_num, rfl, by omega, hj, H1'.out, H2.out, HB2.out⟩
        case measure => simp [intOf]; omega
      · have H2' := Lib.hid (show ∀ k, m ≤ k → k < t.length → p ≤ (wy t k).1 from fun k hk hk2 => by have := rising_le ht.out hk hk2; omega)
        obtain ⟨r, hr⟩ : ∃ r, cmpI (wy t m).1 p = r := ⟨_, rfl⟩
        have HC := Lib.hid hr
        have hr0 : ¬ r < 0 := by rw [← hr]; unfold cmpI; rw [if_neg hp]; split <;> omega
        clear hp hr
        go_wp2_with fail
        refine (waycmp_as _ HC).mono ?_
        rintro e w2 ⟨rfl, hb2⟩
        have HB2 := Lib.hid (HB.out.trans (hb2.mono HB.out.size))
        clear hb2
        go_wp2_with fail
        go_roundw
        case rel => exact ⟨i, m, rfl, rfl, by omega, by omega, H1.out, H2'.out, HB2.out⟩
        case measure => simp [intOf]; omega
    · obtain rfl : i = j := by omega
      have hlt1 : ¬ (i : Int) < i := by omega
      have hpo := posOf_uniq ht.out hj H1.out H2.out
      have HP := Lib.hid hpo
      clear hpo
      by_cases hin : i < t.length
      · have hin1 : (i : Int) < t.length := by omega
        have hin2 : decide ((i : Int) < t.length) = true := decide_eq_true hin1
        have hin3 : decide (i < t.length) = true := decide_eq_true hin
        obtain ⟨c0, c1⟩ := HC.out i hin
        have d0 : wr.cell? ⟨b, off + i * 2, none⟩ = some (.int .i64 (wy t i).1) := (hbel.cell (p := ⟨b, off + i * 2, none⟩) hb).trans c0
        have d1 : wr.cell? ⟨b, off + i * 2 + 1, none⟩ = some (.int .i64 ((wy t i).2 : Int)) := (hbel.cell (p := ⟨b, off + i * 2 + 1, none⟩) hb).trans c1
        clear hbel c0 c1
        obtain ⟨r, hr⟩ : ∃ r, cmpI (wy t i).1 p = r := ⟨_, rfl⟩
        have HC := Lib.hid hr
        have hr0 : (r == 0) = true ↔ (wy t i).1 = p := by
          rw [← hr, beq_iff_eq]
          unfold cmpI
          (repeat' split) <;> constructor <;> intro h <;> omega
        obtain ⟨z, hz⟩ : ∃ z, (r == 0) = z := ⟨_, rfl⟩
        rw [hz] at hr0
        have HZ := Lib.hid hr0
        clear hr hr0
        go_wp2_with fail
        refine (waycmp_as _ HC).mono ?_
        rintro e w2 ⟨rfl, hb2⟩
        have HB2 := Lib.hid (HB.out.trans (hb2.mono HB.out.size))
        clear hb2
        go_wp2_with fail
        go_ret2
        refine ⟨z, by rw [← HP.out]; rfl, ?_, HB2.out⟩
        rw [← HP.out, HZ.out]
        exact ⟨fun h => ⟨hin, h⟩, fun h => h.2⟩
      · have hin1 : ¬ (i : Int) < t.length := by omega
        have hin2 : decide ((i : Int) < t.length) = false := decide_eq_false hin1
        have hin3 : decide (i < t.length) = false := decide_eq_false hin
        go_wp2_with fail
        go_ret2
        refine ⟨false, by rw [← HP.out]; rfl, ?_, HB.out⟩
        rw [← HP.out]
        exact ⟨fun h => (by cases h), fun h => absurd h.1 hin⟩

set_option maxRecDepth 100000 in
set_option maxHeartbeats 1000000 in
theorem search_nil {A : Option Addr} {c : Nat} (p : Int) (w : World) :
    Calls Try.prog 47 #[.slice A 0 c, .int .i64 p, .func (.func 48) #[] #[]] w fun e w' => e = .returned (.tuple #[.int .i64 0, .bool false]) ∧ w = w' := by
  go_enter Try.func47, Try.ntmps47
  go_wp2_with fail
  go_loop [9, 10] (fun u v => u = .int .i64 0 ∧ v = .int .i64 0) (fun u v => 0)
  case atStart => exact ⟨rfl, rfl⟩
  case round =>
    obtain ⟨rfl, rfl⟩ := hrel
    go_wp2_with fail
    go_ret2
    exact ⟨rfl, rfl⟩
theorem search_any {A : Option Addr} {n c : Nat} {t : List (Int × Nat)} (p : Int) (w : World) (ht : Rising t) (hm : t.length ≤ 100000) (h : WaysAt w w.heap.size A n c t) :
    Calls Try.prog 47 #[.slice A n c, .int .i64 p, .func (.func 48) #[] #[]] w (FoundAt t p w) := by
  obtain rfl := h.len
  by_cases h0 : 0 < t.length
  · obtain ⟨b, off, rfl, hb, hc⟩ := h.cells h0
    have hcap := h.2.2.1
    unfold maxLen at hcap
    exact search_pos p w ht h0 hm h.2.1 hcap hb hc
  · obtain rfl : t = [] := List.eq_nil_of_length_eq_zero (by omega)
    refine (search_nil p w).mono ?_
    rintro e w' ⟨rfl, rfl⟩
    exact ⟨false, rfl, by simp, Below.refl _ _⟩

/-- find's contract, its values named. -/
def FindAt (p : Nat) (f : Bool) (w : World) (e : Ending) (w' : World) : Prop := e = .returned (.tuple #[.int .i64 (p : Int), .bool f]) ∧ Below w.heap.size w w'
set_option maxRecDepth 100000 in
set_option maxHeartbeats 1000000 in
theorem find_any {A : Option Addr} {n c : Nat} {t : List (Int × Nat)} {fall depth place long : Int} (p : Int) (w : World) (ht : Rising t) (hm : t.length ≤ 100000) (h : WaysAt w w.heap.size A n c t) :
    Calls Try.prog 43 #[.agg #[.slice A n c, .int .i64 fall, .int .i64 depth, .int .i64 place, .int .i64 long], .int .i64 p] w (FoundAt t p w) := by
  have HT := Lib.hid ht
  have HH := Lib.hid h
  clear ht h
  go_enter Try.func43, Try.ntmps43
  go_wp2_with fail
  refine (search_any p _ HT.out hm (RowAt.mono (RowAt.alloc HH.out (Nat.le_refl _) _) (by simp))).mono ?_
  rintro e w1 ⟨f, rfl, hf, hb⟩
  have HF := Lib.hid hf
  clear hf
  go_wp2_with fail
  go_ret2
  exact ⟨f, rfl, HF.out, ((Below.refl _ w).alloc (Nat.le_refl _) _).trans (hb.mono (by simp))⟩
/-- find where the symbol leads on, and where it doesn't. -/
theorem find_yes {A : Option Addr} {n c t' : Nat} {t : List (Int × Nat)} {fall depth place long : Int} (p : Int) (w : World) (ht : Rising t) (hm : t.length ≤ 100000) (h : WaysAt w w.heap.size A n c t) (hw : wayOf t p = some t') :
    Calls Try.prog 43 #[.agg #[.slice A n c, .int .i64 fall, .int .i64 depth, .int .i64 place, .int .i64 long], .int .i64 p] w fun e w' =>
      e = .returned (.tuple #[.int .i64 (posOf t p : Int), .bool true]) ∧ Below w.heap.size w w' := by
  refine (find_any p w ht hm h).mono ?_
  rintro e w' ⟨f, rfl, hf, hb⟩
  rw [wayOf_pos ht] at hw
  split at hw
  · rename_i h1; rw [hf.2 h1]; exact ⟨rfl, hb⟩
  · cases hw
theorem way_place {t : List (Int × Nat)} {p : Int} {t' : Nat} (ht : Rising t) (hw : wayOf t p = some t') : posOf t p < t.length ∧ (wy t (posOf t p)).1 = p ∧ (wy t (posOf t p)).2 = t' := by
  rw [wayOf_pos ht] at hw
  split at hw
  · rename_i h1; exact ⟨h1.1, h1.2, Option.some.inj hw⟩
  · cases hw
theorem find_no {A : Option Addr} {n c : Nat} {t : List (Int × Nat)} {fall depth place long : Int} (p : Int) (w : World) (ht : Rising t) (hm : t.length ≤ 100000) (h : WaysAt w w.heap.size A n c t) (hw : wayOf t p = none) :
    Calls Try.prog 43 #[.agg #[.slice A n c, .int .i64 fall, .int .i64 depth, .int .i64 place, .int .i64 long], .int .i64 p] w fun e w' =>
      e = .returned (.tuple #[.int .i64 (posOf t p : Int), .bool false]) ∧ Below w.heap.size w w' := by
  refine (find_any p w ht hm h).mono ?_
  rintro e w' ⟨f, rfl, hf, hb⟩
  rw [wayOf_pos ht] at hw
  split at hw
  · cases hw
  · rename_i h1
    cases f with
    | false => exact ⟨rfl, hb⟩
    | true => exact absurd (hf.1 rfl) h1
end Go.Proofs.Ytohfkpoblebfaaa
