/- The walk of the document's States. -/
import Derived.Test.YtohfkpoblebfaaaAhoRefWalk
namespace Go.Proofs.Ytohfkpoblebfaaa
open Go.RowKit
set_option linter.unusedVariables false

theorem freshK_le (l : List Wd) (i : Nat) : ∀ k, freshK l i k ≤ k
  | 0 => Nat.le_refl _
  | k + 1 => by rw [freshK]; have := freshK_le l i k; split <;> omega
theorem statesF_le {l : List Wd} (h : okAll l = true) : ∀ i, i ≤ l.length → statesF l i ≤ 1 + 64 * i
  | 0, _ => Nat.le_refl _
  | i + 1, hi => by
    rw [statesF]
    have := statesF_le h i (by omega)
    have h1 := freshK_le l i (wd l i).length
    have h2 := okAll_iff.1 h i (by omega)
    unfold okP at h2
    have := of_decide_eq_true h2
    omega
/-- Is a first part fresh, as far as o? -/
def freshO (l : List Wd) (i k o : Nat) : Bool := (List.range o).all fun o => !decide ((wd l i).take k <+: wd l o)
theorem freshO_next (l : List Wd) (i k o : Nat) : freshO l i k (o + 1) = (freshO l i k o && !decide ((wd l i).take k <+: wd l o)) := by
  unfold freshO
  rw [List.range_succ, List.all_append]
  simp
theorem IntsAt.to_ {w : World} {B n k c : Nat} {A : Option Addr} {u : Wd} (h : IntsAt w B A n c u) (hk : k ≤ n) : IntsAt w B A k c (u.take k) := by
  have h1 := RowAt.to_ h hk
  rw [Nat.mul_one] at h1
  unfold IntsAt
  rw [show intsV (u.take k) = (intsV u).take k by unfold intsV; rw [List.map_take]]
  exact h1
set_option maxRecDepth 100000 in
set_option maxHeartbeats 4000000 in
theorem rstates_any {A : Option Addr} {B n c : Nat} {l : List Wd} {v : Vs} (w : World) (h : PatsAt w B A n c l v) (hm : mayP l) :
    Calls Try.prog 18 #[.slice A n c] w fun e w' => e = .returned (.int .i64 (statesL l : Int)) ∧ ∃ q, w' = w.drewN q := by
  have hcap := h.cap
  unfold maxLen at hcap
  obtain ⟨hc1, hc2⟩ := hcap
  have e1 := h.len
  have hn32 : n ≤ 32 := by have := hm.1; omega
  have HM := Lib.hid hm.2
  have HH := Lib.hid h
  have HL := Lib.hid e1
  clear h hm e1
  go_enter Try.func18, Try.ntmps18
  go_wp2_with fail
  go_loopw [3, 10] (fun v i wr => ∃ (k q x : Nat), k ≤ n ∧ i = .int .i64 (k : Int) ∧ v = .int .i64 (x : Int) ∧ Hid (statesF l k = x) ∧ wr = w.drewN q) (fun _ i _ => n - (intOf i).toNat)
  case atStart => exact ⟨0, 0, 1, Nat.zero_le _, rfl, rfl, rfl, rfl⟩
  case round =>
    obtain ⟨i, q, x, hi, rfl, rfl, HX, rfl⟩ := hrel
    by_cases hlt : i < n
    · obtain ⟨b, off, rfl, hb, hc⟩ := HH.out.cells (by omega)
      have e0 := hc i hlt
      have HC := Lib.hid hc
      have HR := Lib.hid (HH.out.rows i hlt)
      have hok := okAll_iff.1 HM.out i (by have := HL.out; omega)
      unfold okP at hok
      obtain ⟨hok1, hok2⟩ := of_decide_eq_true hok
      obtain ⟨ln, hln⟩ : ∃ x, (wd l i).length = x := ⟨_, rfl⟩
      rw [hln] at e0 HR hok1 hok2
      have hlc := HR.out.2.1
      have hlm := HR.out.2.2.1
      unfold maxLen at hlm
      obtain ⟨Ai, hAi⟩ : ∃ x, (v i).1 = x := ⟨_, rfl⟩
      obtain ⟨ci, hci⟩ : ∃ x, (v i).2 = x := ⟨_, rfl⟩
      rw [hAi, hci] at e0 HR
      rw [hci] at hlc hlm
      obtain ⟨bi, offi, rfl, hbi, hcell⟩ := HR.out.cells (by omega)
      have hx1 : x ≤ 1 + 64 * i := by have := statesF_le HM.out i (by have := HL.out; omega); rw [HX.out] at this; exact this
      have HLN := Lib.hid hln
      have HAC := Lib.hid (show v i = (some ⟨bi, offi, none⟩, ci) from Prod.ext hAi hci)
      clear hc hln hcell hAi hci hok
      obtain ⟨wo, hwo⟩ : ∃ wo : World, wo = w.drewN q := ⟨_, rfl⟩
      have HHo := Lib.hid (show PatsAt wo B (some ⟨b, off, none⟩) n c l v from by rw [hwo]; exact HH.out.keep fun _ _ => rfl)
      have HRo := Lib.hid (show IntsAt wo B (some ⟨bi, offi, none⟩) ln ci (wd l i) from by rw [hwo]; exact RowAt.drewN HR.out q)
      have e0o : wo.cell? ⟨b, off + i, none⟩ = some (.slice (some ⟨bi, offi, none⟩) ln ci) := by rw [hwo]; exact e0
      rw [← hwo]
      have HWO := Lib.hid hwo
      clear HR hwo e0 HC
      go_wp2_with fail
      go_loopw [3, 5] (fun v z wr => ∃ (k q y : Nat), k ≤ ln ∧ z = .int .i64 ((k : Int) + 1) ∧ v = .int .i64 (y : Int) ∧ Hid (x + freshK l i k = y) ∧ wr = wo.drewN q) (fun _ z _ => ln + 1 - (intOf z).toNat)
      case atStart => exact ⟨0, 0, x, Nat.zero_le _, rfl, rfl, rfl, rfl⟩
      case round =>
        obtain ⟨k, q2, y, hk, rfl, rfl, HY, rfl⟩ := hrel
        have hy1 : y ≤ x + k := by have := HY.out; have := freshK_le l i k; omega
        by_cases hkl : k < ln
        · obtain ⟨k1, hk1⟩ : ∃ k1, k + 1 = k1 := ⟨_, rfl⟩
          have hki : ((k : Int) + 1) = (k1 : Int) := by omega
          have hk1a : (0 : Int) ≤ (k1 : Int) := by omega
          have hk1b : (k1 : Int) ≤ (ln : Int) := by omega
          have hk1c : k1 ≤ ln := by omega
          rw [hki]
          have HK1 := Lib.hid hk1
          have hyk : y < 4000 := by omega
          have hkk : k < 64 := by omega
          clear hk1 hki
          have HT := Lib.hid (HRo.out.to_ hk1c)
          obtain ⟨wm, hwm⟩ : ∃ wm : World, wm = wo.drewN q2 := ⟨_, rfl⟩
          have HHm := Lib.hid (show PatsAt wm B (some ⟨b, off, none⟩) n c l v from by rw [hwm]; exact HHo.out.keep fun _ _ => rfl)
          have HTm := Lib.hid (show IntsAt wm B (some ⟨bi, offi, none⟩) k1 ci ((wd l i).take k1) from by rw [hwm]; exact RowAt.drewN HT.out q2)
          have e0m : wm.cell? ⟨b, off + i, none⟩ = some (.slice (some ⟨bi, offi, none⟩) ln ci) := by rw [hwm]; exact e0o
          rw [← hwm]
          have HWM := Lib.hid hwm
          clear HT hwm HHo e0o
          go_wp2_with fail
          go_loopw [6, 7] (fun v z wr => ∃ (o q : Nat) (f : Bool), o ≤ i ∧ z = .int .i64 (o : Int) ∧ v = .bool f ∧ Hid (freshO l i k1 o = f) ∧ wr = wm.drewN q) (fun _ z _ => i - (intOf z).toNat)
          case atStart => exact ⟨0, 0, true, Nat.zero_le _, rfl, rfl, rfl, rfl⟩
          case round =>
            obtain ⟨o, q3, f, ho, rfl, rfl, HF, rfl⟩ := hrel
            by_cases hol : o < i
            · obtain ⟨b2, off2, hA2, -, hc2'⟩ := HHm.out.cells (by omega)
              obtain ⟨rfl, rfl⟩ : b = b2 ∧ off = off2 := by injection hA2 with h; injection h with h1 h2; exact ⟨h1, h2⟩
              have e1 := hc2' o (by omega)
              have HR2 := Lib.hid (HHm.out.rows o (by omega))
              clear hA2 hc2'
              have hon : o < n := by omega
              cases f with
              | true =>
                obtain ⟨d, hd⟩ : ∃ d, decide ((wd l i).take k1 <+: wd l o) = d := ⟨_, rfl⟩
                have HF' := Lib.hid (show freshO l i k1 (o + 1) = !d from by rw [freshO_next, HF.out, hd]; rfl)
                have HD := Lib.hid hd
                clear hd
                go_wp2_with fail
                go_quiet ((go_at_call 41; exact quiet_off (begins_q wm _ HR2.out HTm.out HD.out)))
                go_wp2_with fail
                go_roundw
                case rel => exact ⟨o + 1, q3 + nq, !d, by omega, by go_num, rfl, HF', by first | rfl | rw [World.drewN_drewN]⟩
                case measure => simp [intOf]; omega
              | false =>
                have HF' := Lib.hid (show freshO l i k1 (o + 1) = false from by rw [freshO_next, HF.out]; rfl)
                go_wp2_with fail
                go_quiet (fail)
                go_wp2_with fail
                go_roundw
                case rel => exact ⟨o + 1, q3 + nq, false, by omega, by go_num, rfl, HF', by first | rfl | rw [World.drewN_drewN]⟩
                case measure => simp [intOf]; omega
            · obtain rfl : o = i := by omega
              cases f with
              | true =>
                have HN := Lib.hid (show x + freshK l o (k + 1) = y + 1 from by
                  have h1 := HF.out
                  rw [← HK1.out] at h1
                  rw [freshK, show freshB l o (k + 1) = true from h1, if_pos rfl]
                  have := HY.out; omega)
                go_wp2_with fail
                go_roundw
                case rel => exact ⟨k + 1, q2 + q3, y + 1, by omega, by have := HK1.out; go_num, by go_num, HN, by rw [HWM.out]; simp [World.drewN_drewN]⟩
                case measure => simp [intOf]; have := HK1.out; omega
              | false =>
                have HN := Lib.hid (show x + freshK l o (k + 1) = y from by
                  have h1 := HF.out
                  rw [← HK1.out] at h1
                  rw [freshK, show freshB l o (k + 1) = false from h1, if_neg (by decide)]
                  have := HY.out; omega)
                go_wp2_with fail
                go_roundw
                case rel => exact ⟨k + 1, q2 + q3, y, by omega, by have := HK1.out; go_num, rfl, HN, by rw [HWM.out]; simp [World.drewN_drewN]⟩
                case measure => simp [intOf]; have := HK1.out; omega
        · obtain rfl : k = ln := by omega
          have HN := Lib.hid (show statesF l (i + 1) = y from by rw [statesF, HX.out, HLN.out]; exact HY.out)
          have hkz : ¬ ((k : Int) + 1) ≤ (k : Int) := by omega
          go_wp2_with fail
          go_roundw
          case rel => exact ⟨i + 1, q + q2, y, by omega, by go_num, rfl, HN, by rw [HWO.out]; simp [World.drewN_drewN]⟩
          case measure => simp [intOf]; omega
    · obtain rfl : i = n := by omega
      have HE := Lib.hid (show statesL l = x from by rw [← HX.out]; unfold statesL; rw [← HL.out])
      go_wp2_with fail
      go_ret
      exact ⟨by rw [HE.out]; rfl, q, rfl⟩
end Go.Proofs.Ytohfkpoblebfaaa
