/- The law's Is, fixed, great. -/
import Derived.Test.YtohfkpoblebfaaaStopNew
import Derived.Test.YtohfkpoblebfaaaStopRef
import Derived.BigQuiet
namespace Go.Proofs.Ytohfkpoblebfaaa
open Go.RowKit
set_option linter.unusedVariables false

theorem quiet_off_same {P : Program} {f : FuncId} {args : Array Value} {w : World} {q n : Nat} {v : Value}
    (h : Calls P f args (w.drewN (q + n)) fun e w' => e = .returned v ∧ w' = w.drewN (q + n)) : Calls P f args (w.drewN (q + n)) fun e w'' => e = .returned v ∧ ∃ m, w'' = w.drewN (q + m) :=
  h.mono fun _ _ ⟨he, hm⟩ => ⟨he, n, hm⟩
set_option maxRecDepth 100000 in
set_option maxHeartbeats 2000000 in
theorem is_as {w0 : World} {l W : List Wd} {B g c q : Nat} {ns : List Nd} {f : Vs} {A : Option Addr} {s : Wd} (w : World) (h : WAt w0 w l q s B g ns W f A c) (hl : s.length ≤ 1000000) :
    Calls Try.prog 30 #[.pointer (some ⟨q, 0, none⟩), .agg (wV l s)] w fun e w' => e = .returned (.bool true) ∧ Below w.heap.size w w' := by
  unfold wV
  obtain ⟨sn, hsn⟩ : ∃ x : Int, (s.length : Int) = x := ⟨_, rfl⟩
  obtain ⟨hd, hhd⟩ : ∃ x : Int, (heldW l s : Int) = x := ⟨_, rfl⟩
  obtain ⟨fr, hfr⟩ : ∃ x : Int, freeW l s = x := ⟨_, rfl⟩
  obtain ⟨pl, hpl⟩ : ∃ x : Int, (endsOf l s).1 = x := ⟨_, rfl⟩
  obtain ⟨fm, hfm⟩ : ∃ x : Int, fromW l s = x := ⟨_, rfl⟩
  rw [hsn, hhd, hfr, hpl, hfm]
  obtain ⟨w1, hw1⟩ : ∃ w1, w1 = w.alloc (.cells #[.int .i64 sn, .int .i64 hd, .int .i64 fr, .int .i64 pl, .int .i64 fm] 48) := ⟨_, rfl⟩
  have HB := Lib.hid (show Below w.heap.size w w1 from by rw [hw1]; exact (Below.refl _ w).alloc (Nat.le_refl _) _)
  have HK := Lib.hid (show w1.heap[w.heap.size]? = some (.cells #[.int .i64 sn, .int .i64 hd, .int .i64 fr, .int .i64 pl, .int .i64 fm] 48 (0, 0)) from by rw [hw1]; exact heap_alloc_new w _)
  have H1 := Lib.hid (h.below HB.out)
  have CS := Lib.hid (show ∀ k, Calls Try.prog 32 #[.pointer (some ⟨q, 0, none⟩)] (w1.drewN k) fun e w' => e = .returned (.int .i64 sn) ∧ w' = w1.drewN k from fun k => by
    refine (seen_as (w1.drewN k) (H1.out.below (below_drewN (Below.refl _ _) k))).mono ?_
    rintro e w' ⟨rfl, rfl⟩
    exact ⟨by rw [hsn], rfl⟩)
  have CH := Lib.hid (show ∀ k, Calls Try.prog 33 #[.pointer (some ⟨q, 0, none⟩)] (w1.drewN k) fun e w' => e = .returned (.int .i64 hd) ∧ ∃ m, w' = (w1.drewN k).drewN m from fun k => by
    refine (held_as (w1.drewN k) (H1.out.below (below_drewN (Below.refl _ _) k))).mono ?_
    rintro e w' ⟨rfl, m, rfl⟩
    exact ⟨by rw [hhd], m, rfl⟩)
  have CF := Lib.hid (show ∀ k, Calls Try.prog 31 #[.pointer (some ⟨q, 0, none⟩)] (w1.drewN k) fun e w' => e = .returned (.int .i64 fr) ∧ ∃ m, w' = (w1.drewN k).drewN m from fun k => by
    refine (free_as (w1.drewN k) (H1.out.below (below_drewN (Below.refl _ _) k)) hl).mono ?_
    rintro e w' ⟨rfl, m, rfl⟩
    exact ⟨by rw [hfr], m, rfl⟩)
  have CI := Lib.hid (hitm_as w1 H1.out)
  rw [hpl, hfm] at CI
  clear h hsn hhd hfr hpl hfm
  obtain ⟨d0, d1, d2, d3, d4⟩ := five_cells HK.out
  go_enter Try.func30, Try.ntmps30
  go_wp2_with fail
  rw [← hw1]
  clear hw1
  refine CI.out.mono ?_
  rintro e w' ⟨rfl, k, rfl⟩
  go_wp2_with fail
  go_quiet ((first
    | (go_at_call 32; exact quiet_off_same (CS.out _))
    | (go_at_call 33; exact quiet_off (CH.out _))
    | (go_at_call 31; exact quiet_off (CF.out _))))
  go_wp2_with fail
  go_ret
  exact ⟨by first | rfl | simp, by first | exact below_drewN HB.out _ | exact below_drewN (below_drewN HB.out _) _⟩

def greatB (n m : Nat) (rows : List Wd) : Bool := decide (40 < n) || decide (20 < m) || rows.any fun r => decide (30 < r.length)
theorem any_no {rows : List Wd} (h : ∀ j, j < rows.length → (wd rows j).length ≤ 30) : (rows.any fun r => decide (30 < r.length)) = false := by
  rw [List.any_eq_false]
  intro r hr
  obtain ⟨i, hi, rfl⟩ := mem_wd hr
  have := h i hi
  simpa using this
theorem any_yes {rows : List Wd} {j : Nat} (hj : j < rows.length) (h : 30 < (wd rows j).length) : (rows.any fun r => decide (30 < r.length)) = true := by
  rw [List.any_eq_true]
  exact ⟨_, wd_mem hj, by simpa using h⟩
set_option maxRecDepth 100000 in
set_option maxHeartbeats 1000000 in
theorem great19 {A A2 : Option Addr} {n c n2 c2 B : Nat} {rows : List Wd} {v2 : Vs} {o : Bool} (w : World) (h : PatsAt w B A2 n2 c2 rows v2) (ho : greatB n n2 rows = o) :
    Calls Try.prog 25 #[.slice A n c, .slice A2 n2 c2] w fun e w' => e = .returned (.bool o) ∧ w = w' := by
  have hcap := h.cap
  unfold maxLen at hcap
  obtain ⟨hc1, hc2⟩ := hcap
  have HH := Lib.hid h
  have HL := Lib.hid h.len
  have HO := Lib.hid ho
  clear h ho
  by_cases h1 : 40 < n
  · have h1' : decide ((40 : Int) < (n : Int)) = true := decide_eq_true (by omega)
    have HOT := Lib.hid (show o = true from by rw [← HO.out]; unfold greatB; rw [decide_eq_true h1]; rfl)
    go_enter Try.func25, Try.ntmps25
    go_wp2_with fail
    go_ret
    exact ⟨by rw [HOT.out]; rfl, rfl⟩
  · have h1' : decide ((40 : Int) < (n : Int)) = false := decide_eq_false (by omega)
    by_cases h2 : 20 < n2
    · have h2' : decide ((20 : Int) < (n2 : Int)) = true := decide_eq_true (by omega)
      have HOT := Lib.hid (show o = true from by rw [← HO.out]; unfold greatB; rw [decide_eq_true h2]; simp)
      go_enter Try.func25, Try.ntmps25
      go_wp2_with fail
      go_ret
      exact ⟨by rw [HOT.out]; rfl, rfl⟩
    · have h2' : decide ((20 : Int) < (n2 : Int)) = false := decide_eq_false (by omega)
      have HOA := Lib.hid (show (rows.any fun r => decide (30 < r.length)) = o from by rw [← HO.out]; unfold greatB; rw [decide_eq_false h1, decide_eq_false h2]; rfl)
      go_enter Try.func25, Try.ntmps25
      go_wp2_with fail
      go_loop [17] (fun i => ∃ k : Nat, k ≤ n2 ∧ i = .int .i64 k ∧ Hid (∀ j, j < k → (wd rows j).length ≤ 30)) (fun i => n2 - (intOf i).toNat)
      case atStart => exact ⟨0, Nat.zero_le _, rfl, fun j hj => absurd hj (by omega)⟩
      case round =>
        obtain ⟨k, hk, rfl, HK⟩ := hrel
        by_cases hlt : k < n2
        · obtain ⟨b, off, rfl, hb, hc⟩ := HH.out.cells (by omega)
          have e0 := hc k hlt
          obtain ⟨ln, hln⟩ : ∃ x, (wd rows k).length = x := ⟨_, rfl⟩
          rw [hln] at e0
          have HLN := Lib.hid hln
          clear hc hln
          by_cases hgt : 30 < ln
          · have hgt' : (30 : Int) < (ln : Int) := by omega
            have HOT := Lib.hid (show o = true from by rw [← HOA.out]; exact any_yes (j := k) (by have := HL.out; omega) (by rw [HLN.out]; exact hgt))
            go_wp2_with fail
            go_ret
            exact ⟨by rw [HOT.out]; rfl, rfl⟩
          · have hgt' : ¬ (30 : Int) < (ln : Int) := by omega
            have HK' := Lib.hid (show ∀ j, j < k + 1 → (wd rows j).length ≤ 30 from fun j hj => by
              rcases Nat.lt_or_ge j k with h | h
              · exact HK.out j h
              · obtain rfl : j = k := by omega
                rw [HLN.out]; omega)
            go_wp2_with fail
            go_round
            case rel => exact ⟨k + 1, by omega, by go_num, HK'⟩
            case measure => simp [intOf]; omega
        · obtain rfl : k = n2 := by omega
          have HOF := Lib.hid (show o = false from by rw [← HOA.out]; exact any_no (fun j hj => HK.out j (by have := HL.out; omega)))
          go_wp2_with fail
          go_ret
          exact ⟨by rw [HOF.out]; rfl, rfl⟩
end Go.Proofs.Ytohfkpoblebfaaa
