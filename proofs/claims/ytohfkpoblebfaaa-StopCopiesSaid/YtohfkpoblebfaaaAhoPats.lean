/- Patterns in memory; the walks of New's closure and of the look for a wrong pattern. -/
import Derived.Test.YtohfkpoblebfaaaAhoLaw2
import Derived.Test.YtohfkpoblebfaaaAhoMem
namespace Go.Proofs.Ytohfkpoblebfaaa
open Go.RowKit
set_option linter.unusedVariables false

/-- A row of rows of numbers. -/
structure PatsAt (w : World) (B : Nat) (A : Option Addr) (n c : Nat) (l : List Wd) (v : Vs) : Prop where
  len : n = l.length
  cap : n ≤ c ∧ c ≤ maxLen
  cells : 0 < n → ∃ b off, A = some ⟨b, off, none⟩ ∧ b < B ∧ ∀ i, i < n → w.cell? ⟨b, off + i, none⟩ = some (.slice (v i).1 (wd l i).length (v i).2)
  rows : ∀ i, i < n → IntsAt w B (v i).1 (wd l i).length (v i).2 (wd l i)
section
variable {w w' : World} {B B' n c : Nat} {A : Option Addr} {l : List Wd} {v : Vs}
theorem PatsAt.keep (h : PatsAt w B A n c l v) (hk : ∀ p : Addr, p.block < B → w'.cell? p = w.cell? p) : PatsAt w' B A n c l v :=
  ⟨h.len, h.cap, fun hn => by
    obtain ⟨b, off, e, hb, hc⟩ := h.cells hn
    exact ⟨b, off, e, hb, fun i hi => (hk _ hb).trans (hc i hi)⟩, fun i hi => RowAt.keep (h.rows i hi) hk⟩
theorem PatsAt.below (h : PatsAt w B A n c l v) (hb : Below B w w') : PatsAt w' B A n c l v := h.keep fun _ hp => hb.cell hp
theorem PatsAt.mono (h : PatsAt w B A n c l v) (hB : B ≤ B') : PatsAt w B' A n c l v :=
  ⟨h.len, h.cap, fun hn => by
    obtain ⟨b, off, e, hb, hc⟩ := h.cells hn
    exact ⟨b, off, e, by omega, hc⟩, fun i hi => RowAt.mono (h.rows i hi) hB⟩
end
/-- May a pattern be? -/
def okP (p : Wd) : Bool := decide (1 ≤ p.length ∧ p.length ≤ 64)
def okAll (l : List Wd) : Bool := l.all okP
def mayP (l : List Wd) : Prop := l.length ≤ 32 ∧ okAll l = true
theorem okAll_iff {l : List Wd} : okAll l = true ↔ ∀ i, i < l.length → okP (wd l i) = true := by
  unfold okAll
  rw [List.all_eq_true]
  constructor
  · intro h i hi; exact h _ (wd_mem hi)
  · intro h p hp
    obtain ⟨i, hi, he⟩ := mem_wd hp
    rw [← he]; exact h i hi

set_option maxHeartbeats 400000 in
theorem wrong_any {n c : Nat} {A : Option Addr} {b : Bool} (w : World) (hn : (decide (1 ≤ n ∧ n ≤ 64)) = !b) :
    Calls Try.prog 37 #[.slice A n c] w fun e w' => e = .returned (.bool b) ∧ w = w' := by
  by_cases h0 : n = 0
  · have hb : b = true := by subst h0; simpa using hn
    have e0 := beq_yes (a := (n : Int)) (b := 0) (by omega)
    subst hb
    clear h0 hn
    go_enter Try.func37, Try.ntmps37
    go_wp2_with fail
    go_ret
    exact ⟨rfl, rfl⟩
  · have e0 := beq_no (a := (n : Int)) (b := 0) (by omega)
    by_cases h1 : 64 < n
    · have hb : b = true := by cases b with
        | true => rfl
        | false => simp at hn; omega
      have h1' : (64 : Int) < (n : Int) := by omega
      subst hb
      clear h0 hn
      go_enter Try.func37, Try.ntmps37
      go_wp2_with fail
      go_ret
      exact ⟨rfl, rfl⟩
    · have hb : b = false := by cases b with
        | false => rfl
        | true => simp at hn; omega
      have h1' : ¬ (64 : Int) < (n : Int) := by omega
      subst hb
      clear h0 hn
      go_enter Try.func37, Try.ntmps37
      go_wp2_with fail
      go_ret
      exact ⟨rfl, rfl⟩
/-- Where the first wrong pattern stands. -/
def IdxTo (l : List Wd) (w : World) (e : Ending) (w' : World) : Prop := ∃ k : Int, e = .returned (.int .i64 k) ∧ (0 ≤ k ↔ okAll l = false) ∧ w = w'
set_option maxRecDepth 100000 in
set_option maxHeartbeats 1000000 in
theorem index_any {B n c : Nat} {A : Option Addr} {l : List Wd} {v : Vs} (w : World) (h : PatsAt w B A n c l v) :
    Calls Try.prog 45 #[.slice A n c, .func (.func 37) #[] #[]] w (IdxTo l w) := by
  have hcap := h.cap
  unfold maxLen at hcap
  obtain ⟨hc1, hc2⟩ := hcap
  have HH := Lib.hid h
  have HL := Lib.hid h.len
  clear h
  go_enter Try.func45, Try.ntmps45
  go_wp2_with fail
  go_loop [8] (fun i => ∃ k : Nat, k ≤ n ∧ i = .int .i64 k ∧ Hid (∀ j, j < k → okP (wd l j) = true)) (fun i => n - (intOf i).toNat)
  case atStart => exact ⟨0, Nat.zero_le _, rfl, fun j hj => absurd hj (by omega)⟩
  case round =>
    obtain ⟨k, hk, rfl, HK⟩ := hrel
    by_cases hlt : k < n
    · obtain ⟨b, off, rfl, hb, hc⟩ := HH.out.cells (by omega)
      have e0 := hc k hlt
      obtain ⟨x, hx⟩ : ∃ x, okP (wd l k) = x := ⟨_, rfl⟩
      have HX := Lib.hid hx
      have HXN := Lib.hid (show decide (1 ≤ (wd l k).length ∧ (wd l k).length ≤ 64) = !(!x) from by rw [Bool.not_not]; exact hx)
      clear hc hx
      go_wp2_with fail
      refine (wrong_any _ HXN.out).mono ?_
      rintro e w' ⟨rfl, rfl⟩
      cases x with
      | false =>
        go_wp2_with fail
        go_ret
        refine ⟨(k : Int), rfl, ⟨fun _ => ?_, fun _ => by omega⟩, rfl⟩
        rw [Bool.eq_false_iff]
        intro hall
        have := okAll_iff.1 hall k (by have := HL.out; omega)
        rw [HX.out] at this
        cases this
      | true =>
        have HK' := Lib.hid (show ∀ j, j < k + 1 → okP (wd l j) = true from fun j hj => by
          rcases Nat.lt_or_ge j k with h1 | h1
          · exact HK.out j h1
          · obtain rfl : j = k := by omega
            exact HX.out)
        go_wp2_with fail
        go_round
        case rel => exact ⟨k + 1, by omega, by go_num, HK'⟩
        case measure => simp [intOf]; omega
    · obtain rfl : k = n := by omega
      go_wp2_with fail
      go_ret
      refine ⟨-1, rfl, ⟨fun h => by omega, fun h => ?_⟩, rfl⟩
      rw [okAll_iff.2 (fun i hi => HK.out i (by have := HL.out; omega))] at h
      cases h
set_option maxHeartbeats 400000 in
theorem contains_any {B n c : Nat} {A : Option Addr} {l : List Wd} {v : Vs} (w : World) (h : PatsAt w B A n c l v) :
    Calls Try.prog 38 #[.slice A n c, .func (.func 37) #[] #[]] w fun e w' => e = .returned (.bool (!okAll l)) ∧ w = w' := by
  have HH := Lib.hid h
  clear h
  go_enter Try.func38, Try.ntmps38
  go_wp2_with fail
  refine (index_any _ HH.out).mono ?_
  rintro e w' ⟨k, rfl, hk, rfl⟩
  have HK := Lib.hid hk
  clear hk
  by_cases h0 : 0 ≤ k
  · go_wp2_with fail
    go_ret
    exact ⟨by rw [HK.out.1 h0]; rfl, rfl⟩
  · have h1 : okAll l = true := by
      cases hx : okAll l with
      | true => rfl
      | false => exact absurd (HK.out.2 hx) h0
    have H1 := Lib.hid h1
    have hd : decide (0 ≤ k) = false := decide_eq_false h0
    clear h1
    go_wp2_with fail
    go_ret
    exact ⟨by rw [H1.out]; rfl, rfl⟩
end Go.Proofs.Ytohfkpoblebfaaa
