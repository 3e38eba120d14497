/- The walk of StopNil: true for every input. -/
import Derived.Test.YtohfkpoblebfaaaStopFixed
namespace Go.Proofs.Ytohfkpoblebfaaa
open Go.RowKit
set_option linter.unusedVariables false

theorem no_hit (t : Wd) : hitB [] t = false := rfl
theorem no_feed (t : Wd) : feedS [] [] t = t := by
  have := feedS_all (l := []) (s := []) (t := t) (fun k _ => no_hit _)
  simpa using this
theorem no_held (t : Wd) : heldL [] t = 0 := by
  have key : ∀ n, heldF [] t n = 0 := by
    intro n
    induction n with
    | zero => rfl
    | succ n ih => rw [heldF, if_neg (by unfold anyB; simp)]; exact ih
  exact key _
theorem no_free (t : Wd) : freeW [] t = (t.length : Int) := by
  unfold freeW
  rw [if_neg (by rw [no_hit]; decide), no_held]
  simp
theorem no_pats (w : World) (v : Vs) : PatsAt w w.heap.size none 0 0 [] v := ⟨rfl, ⟨Nat.le_refl _, Nat.zero_le _⟩, fun h => absurd h (by omega), fun i hi => absurd hi (by omega)⟩
theorem no_may : mayP [] := ⟨by simp, rfl⟩
theorem off_old {q B : Nat} {w : World} {size n c : Nat} {A : Option Addr} {xs : List Value} (h : RowAt w B size A n c xs) (hq : B ≤ q) : 0 < n → Off q A := by
  intro hn
  obtain ⟨b, off, rfl, hb, _⟩ := h.2.2.2 hn
  rintro b' off' s e
  injection e with e
  injection e with e1 e2
  omega
set_option maxRecDepth 100000 in
set_option maxHeartbeats 2000000 in
theorem walkStopNil (W : World) {A : Option Addr} {n c : Nat} {t : Wd} (hu : IntsAt W W.heap.size A n c t) (wf : ∀ n ∈ t, (Lit.int .i64 n).wf = true) :
    Calls Try.prog 12 #[.slice A n c] W fun e W' => e = .returned (.bool true) ∧ Below W.heap.size W W' := by
  have HN := Lib.hid hu.len
  by_cases h2 : 100 < n
  · have h2' : (100 : Int) < (n : Int) := by omega
    go_enter Try.func12, Try.ntmps12
    go_wp2_with fail
    refine (fixed19 _).mono ?_
    rintro e w' ⟨rfl, hb⟩
    go_wp2_with fail
    go_ret
    exact ⟨rfl, hb⟩
  · have h2' : ¬ (100 : Int) < (n : Int) := by omega
    have HU := Lib.hid hu
    clear hu
    go_enter Try.func12, Try.ntmps12
    go_wp2_with fail
    refine (feed_nil _).mono ?_
    rintro e w' ⟨rfl, rfl⟩
    go_wp2_with fail
    refine (hitm_nil _).mono ?_
    rintro e w' ⟨rfl, rfl⟩
    go_wp2_with fail
    refine (snew_yes W (no_pats W (fun _ => (none, 0))) no_may).mono ?_
    rintro e w1 ⟨u0, q, B, g, ns, W1, f, A1, c1, rfl, hm, hz, hb⟩
    have hqw : W.heap.size ≤ q := by have := hm.far; omega
    have H1 := Lib.hid hb
    have M1 := Lib.hid hm
    clear hm hb
    go_wp2_with fail
    refine (feed_as w1 M1.out (RowAt.mono (RowAt.below HU.out H1.out) H1.out.size) (off_old HU.out hqw) (by have := HN.out; simp; omega)).mono ?_
    rintro e w2 ⟨rfl, hm2, ha⟩
    rw [no_feed] at hm2 ⊢
    rw [no_hit]
    have HLN := Lib.hid (show t.length - ([] : Wd).length = n from by have := HN.out; simp; omega)
    rw [HLN.out]
    have H2 := Lib.hid (H1.out.trans (ha.below hqw H1.out.size))
    have M2 := Lib.hid hm2
    clear ha hm2 H1 M1
    go_wp2_with fail
    refine (fixed19 _).mono ?_
    rintro e w3 ⟨rfl, hb⟩
    have H3 := Lib.hid (H2.out.trans (hb.mono H2.out.size))
    have M3 := Lib.hid (M2.out.below hb)
    clear hb H2 M2
    go_wp2_with fail
    refine (seen_nil _).mono ?_
    rintro e w' ⟨rfl, rfl⟩
    go_wp2_with fail
    refine (held_nil _).mono ?_
    rintro e w' ⟨rfl, rfl⟩
    go_wp2_with fail
    refine (free_nil _).mono ?_
    rintro e w' ⟨rfl, rfl⟩
    go_wp2_with fail
    refine (copy_nil _).mono ?_
    rintro e w' ⟨rfl, rfl⟩
    go_wp2_with fail
    refine (free_as w3 M3.out (by have := HN.out; omega)).mono ?_
    rw [no_free, ← HN.out]
    rintro e w' ⟨rfl, k, rfl⟩
    go_wp2_with fail
    go_ret
    exact ⟨by first | rfl | simp, below_drewN H3.out _⟩
end Go.Proofs.Ytohfkpoblebfaaa
