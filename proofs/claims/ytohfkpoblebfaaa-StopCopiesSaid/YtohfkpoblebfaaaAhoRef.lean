/- The walks of the document's May, begins. -/
import Derived.Test.YtohfkpoblebfaaaAhoPats
import Derived.LoopN
import Derived.BigQuiet
namespace Go.Proofs.Ytohfkpoblebfaaa
open Go.RowKit
set_option linter.unusedVariables false

set_option maxRecDepth 100000 in
set_option maxHeartbeats 1000000 in
theorem may_any {B n c : Nat} {A : Option Addr} {l : List Wd} {v : Vs} {o : Bool} (w : World) (h : PatsAt w B A n c l v) (ho : (okAll l && decide (n ≤ 32)) = o) :
    Calls Try.prog 16 #[.slice A n c] w fun e w' => e = .returned (.bool o) ∧ w = w' := by
  have hcap := h.cap
  unfold maxLen at hcap
  obtain ⟨hc1, hc2⟩ := hcap
  have HH := Lib.hid h
  have HL := Lib.hid h.len
  have HO := Lib.hid ho
  clear h ho
  go_enter Try.func16, Try.ntmps16
  go_wp2_with fail
  go_loop [6] (fun i => ∃ k : Nat, k ≤ n ∧ i = .int .i64 k ∧ Hid (∀ j, j < k → okP (wd l j) = true)) (fun i => n - (intOf i).toNat)
  case atStart => exact ⟨0, Nat.zero_le _, rfl, fun j hj => absurd hj (by omega)⟩
  case round =>
    obtain ⟨k, hk, rfl, HK⟩ := hrel
    by_cases hlt : k < n
    · obtain ⟨b, off, rfl, hb, hc⟩ := HH.out.cells (by omega)
      have e0 := hc k hlt
      obtain ⟨ln, hln⟩ : ∃ x, (wd l k).length = x := ⟨_, rfl⟩
      rw [hln] at e0
      have HLN := Lib.hid hln
      clear hc hln
      by_cases hok : 1 ≤ ln ∧ ln ≤ 64
      · obtain ⟨hok1, hok2⟩ := hok
        have z1 : ¬ (ln : Int) < 1 := by omega
        have z2 : ¬ (64 : Int) < (ln : Int) := by omega
        have HK' := Lib.hid (show ∀ j, j < k + 1 → okP (wd l j) = true from fun j hj => by
          rcases Nat.lt_or_ge j k with h1 | h1
          · exact HK.out j h1
          · obtain rfl : j = k := by omega
            unfold okP; rw [HLN.out]; exact decide_eq_true ⟨hok1, hok2⟩)
        go_wp2_with fail
        go_round
        case rel => exact ⟨k + 1, by omega, by go_num, HK'⟩
        case measure => simp [intOf]; omega
      · have HN := Lib.hid (show o = false from by
          rw [← HO.out]
          have : okAll l = false := by
            rw [Bool.eq_false_iff]
            intro hall
            have := okAll_iff.1 hall k (by have := HL.out; omega)
            unfold okP at this
            rw [HLN.out] at this
            exact hok (of_decide_eq_true this)
          rw [this]; rfl)
        by_cases z1 : (ln : Int) < 1
        · go_wp2_with fail
          go_ret
          exact ⟨by rw [HN.out]; rfl, rfl⟩
        · have z2 : (64 : Int) < (ln : Int) := by omega
          go_wp2_with fail
          go_ret
          exact ⟨by rw [HN.out]; rfl, rfl⟩
    · obtain rfl : k = n := by omega
      have hall : okAll l = true := okAll_iff.2 (fun i hi => HK.out i (by have := HL.out; omega))
      have HN := Lib.hid (show decide (k ≤ 32) = o from by rw [← HO.out, hall]; rfl)
      clear hall
      by_cases z : (k : Int) ≤ 32
      · have z' : decide ((k : Int) ≤ 32) = true := decide_eq_true z
        have HN2 := Lib.hid (show o = true from by rw [← HN.out]; exact decide_eq_true (by omega))
        go_wp2_with fail
        go_ret
        exact ⟨by rw [HN2.out]; rfl, rfl⟩
      · have z' : decide ((k : Int) ≤ 32) = false := decide_eq_false z
        have HN2 := Lib.hid (show o = false from by rw [← HN.out]; exact decide_eq_false (by omega))
        go_wp2_with fail
        go_ret
        exact ⟨by rw [HN2.out]; rfl, rfl⟩

theorem prefix_step {p u : Wd} {k : Nat} (hp : k < p.length) (hu : k < u.length) (h : u.take k = p.take k) : (u.take (k + 1) = p.take (k + 1)) ↔ p[k] = u[k] := by
  rw [List.take_add_one, List.take_add_one, List.getElem?_eq_getElem hp, List.getElem?_eq_getElem hu, h]
  simp only [Option.toList_some, List.append_cancel_left_eq, List.cons.injEq, and_true]
  exact eq_comm
set_option maxRecDepth 100000 in
set_option maxHeartbeats 1000000 in
theorem begins_any {A A' : Option Addr} {n n' c c' B B' : Nat} {p u : Wd} {o : Bool} (w : World) (h : IntsAt w B A n c p) (h' : IntsAt w B' A' n' c' u) (ho : decide (u <+: p) = o) :
    Calls Try.prog 41 #[.slice A n c, .slice A' n' c'] w fun e w' => e = .returned (.bool o) ∧ ∃ k, w' = w.drewN k := by
  subst ho
  have e1 := h.len
  have e2 := h'.len
  have hcap := h.2.2.1
  have hcn := h.2.1
  have hcap' := h'.2.2.1
  have hcn' := h'.2.1
  unfold maxLen at hcap hcap'
  have HH := Lib.hid h
  have HH' := Lib.hid h'
  have E1 := Lib.hid e1
  have E2 := Lib.hid e2
  clear h h' e1 e2
  by_cases hn : n < n'
  · have hn' : (n : Int) < (n' : Int) := by omega
    have HN := Lib.hid (show ¬ u <+: p from fun e => by have := e.length_le; have := E1.out; have := E2.out; omega)
    go_enter Try.func41, Try.ntmps41
    go_wp2_with fail
    go_ret
    exact ⟨by rw [decide_eq_false HN.out]; rfl, 0, rfl⟩
  · have hn' : ¬ (n : Int) < (n' : Int) := by omega
    go_enter Try.func41, Try.ntmps41
    go_wp2_with fail
    go_loopw [13] (fun i wr => ∃ k q : Nat, k ≤ n' ∧ i = .int .i64 k ∧ u.take k = p.take k ∧ wr = w.drewN q) (fun i _ => n' - (intOf i).toNat)
    case atStart => exact ⟨0, 0, Nat.zero_le _, rfl, by simp, rfl⟩
    case round =>
      obtain ⟨k, q, hk, rfl, ht, rfl⟩ := hrel
      by_cases hlt : k < n'
      · have hkp : k < p.length := by have := E1.out; omega
        have hku : k < u.length := by have := E2.out; omega
        obtain ⟨b, off, rfl, hb, hc⟩ := HH.out.cells (by omega)
        obtain ⟨b', off', rfl, hb', hc'⟩ := HH'.out.cells (by omega)
        obtain ⟨x, hx⟩ : ∃ x, p[k]'hkp = x := ⟨_, rfl⟩
        obtain ⟨y, hy⟩ : ∃ y, u[k]'hku = y := ⟨_, rfl⟩
        have c1 : w.cell? ⟨b, off + k, none⟩ = some (.int .i64 x) := by rw [hc k hkp, hx]
        have c2 : w.cell? ⟨b', off' + k, none⟩ = some (.int .i64 y) := by rw [hc' k hku, hy]
        have hps := prefix_step hkp hku ht
        rw [hx, hy] at hps
        have HPS := Lib.hid hps
        clear hc hc' hx hy hps ht
        by_cases hxy : x = y
        · have hb0 := bne_no hxy
          have HT := Lib.hid (HPS.out.2 hxy)
          clear hxy
          go_wp2_with fail
          go_quiet (fail)
          go_wp2_with fail
          go_roundw
          case rel => exact ⟨k + 1, q + nq, by omega, by go_num, HT.out, by first | rfl | rw [World.drewN_drewN]⟩
          case measure => simp [intOf]; omega
        · have hb0 := bne_yes hxy
          have HN := Lib.hid (show ¬ u <+: p from fun e => hxy (HPS.out.1 (by
            have h1 := List.prefix_iff_eq_take.1 e
            rw [h1, List.take_take, Nat.min_eq_left (by omega)])))
          clear hxy
          go_wp2_with fail
          go_quiet (fail)
          go_wp2_with fail
          go_ret
          exact ⟨by rw [decide_eq_false HN.out]; rfl, q + nq, by first | rfl | rw [World.drewN_drewN]⟩
      · obtain rfl : k = n' := by omega
        have HY := Lib.hid (show u <+: p from by
          rw [List.take_of_length_le (by have := E2.out; omega)] at ht
          rw [ht]; exact List.take_prefix _ _)
        clear ht
        go_wp2_with fail
        go_ret
        exact ⟨by rw [decide_eq_true HY.out]; rfl, q, rfl⟩
end Go.Proofs.Ytohfkpoblebfaaa
