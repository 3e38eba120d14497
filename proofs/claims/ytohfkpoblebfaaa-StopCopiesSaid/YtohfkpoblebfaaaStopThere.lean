/- The walk of the document's There. -/
import Derived.Test.YtohfkpoblebfaaaStopFreeLaw
import Derived.Test.YtohfkpoblebfaaaAhoRefWalk
import Derived.BigQuiet
namespace Go.Proofs.Ytohfkpoblebfaaa
open Go.RowKit
set_option linter.unusedVariables false

theorem take_next {p u : Wd} {m : Nat} (hp : m < p.length) (hu : m < u.length) : (p.take (m + 1) = u.take (m + 1)) ↔ (p.take m = u.take m ∧ p[m] = u[m]) := by
  constructor
  · intro h
    refine ⟨?_, ?_⟩
    · have := congrArg (List.take m) h
      rwa [List.take_take, List.take_take, Nat.min_eq_left (by omega)] at this
    · have := congrArg (fun l => l[m]?) h
      simp only [List.getElem?_take, show m < m + 1 by omega, if_true, List.getElem?_eq_getElem hp, List.getElem?_eq_getElem hu] at this
      injection this
  · rintro ⟨h1, h2⟩
    rw [List.take_add_one, List.take_add_one, h1, List.getElem?_eq_getElem hp, List.getElem?_eq_getElem hu, h2]
theorem there_yes {l : List Wd} {u : Wd} {i k : Nat} (hk : k < l.length) (h : wd l k <+: u.drop i) : thereB l u i = true := there_iff.2 ⟨_, wd_mem hk, h⟩
theorem there_not {l : List Wd} {u : Wd} {i : Nat} (h : ∀ k, k < l.length → ¬ wd l k <+: u.drop i) : thereB l u i = false := by
  rw [Bool.eq_false_iff]
  intro e
  obtain ⟨p, hp, h2⟩ := there_iff.1 e
  obtain ⟨k, hk, rfl⟩ := mem_wd hp
  exact h k hk h2
set_option maxRecDepth 100000 in
set_option maxHeartbeats 2000000 in
theorem rthere_any {A A' : Option Addr} {B B' n n' c c' i0 : Nat} {l : List Wd} {v : Vs} {u : Wd} (w : World) (h : PatsAt w B A n c l v) (h' : IntsAt w B' A' n' c' u) (hi : i0 ≤ n') (hl : ∀ k, k < l.length → (wd l k).length ≤ 64) (hn : n' ≤ 1000000) :
    Calls Try.prog 34 #[.slice A n c, .slice A' n' c', .int .i64 (i0 : Int)] w fun e w' => e = .returned (.bool (thereB l u i0)) ∧ ∃ q, w' = w.drewN q := by
  have hcap := h.cap
  have hcap' := h'.2.2.1
  have hcn' := h'.2.1
  unfold maxLen at hcap hcap'
  obtain ⟨hc1, hc2⟩ := hcap
  have e1 := h.len
  have e2 := h'.len
  have HH := Lib.hid h
  have HU := Lib.hid h'
  have HL := Lib.hid e1
  have HLU := Lib.hid e2
  have H64 := Lib.hid hl
  clear h h' e1 e2 hl
  go_enter Try.func34, Try.ntmps34
  go_wp2_with fail
  go_loopw [13] (fun i wr => ∃ (k q : Nat), k ≤ n ∧ i = .int .i64 k ∧ Hid (∀ j, j < k → ¬ wd l j <+: u.drop i0) ∧ wr = w.drewN q) (fun i _ => n - (intOf i).toNat)
  case atStart => exact ⟨0, 0, Nat.zero_le _, rfl, Lib.hid (fun j hj => absurd hj (by omega)), rfl⟩
  case round =>
    obtain ⟨k, q, hk, rfl, HK, rfl⟩ := hrel
    by_cases hlt : k < n
    · obtain ⟨b, off, rfl, hb, hc⟩ := HH.out.cells (by omega)
      have e0 := hc k hlt
      have HR := Lib.hid (HH.out.rows k hlt)
      have h64 := H64.out k (by have := HL.out; omega)
      obtain ⟨ln, hln⟩ : ∃ x, (wd l k).length = x := ⟨_, rfl⟩
      have hlc := HR.out.2.1
      have hlm := HR.out.2.2.1
      unfold maxLen at hlm
      rw [hln] at e0 HR hlc h64
      have HLN := Lib.hid hln
      clear hc hln
      by_cases hfit : n' < i0 + ln
      · have hfit' : (n' : Int) < (i0 : Int) + (ln : Int) := by omega
        have HK' := Lib.hid (show ∀ j, j < k + 1 → ¬ wd l j <+: u.drop i0 from fun j hj => by
          rcases Nat.lt_or_ge j k with h1 | h1
          · exact HK.out j h1
          · obtain rfl : j = k := by omega
            intro e
            have := e.length_le
            rw [List.length_drop] at this
            have := HLU.out; have := HLN.out; omega)
        go_wp2_with fail
        go_roundw
        case rel => exact ⟨k + 1, q, by omega, by go_num, HK', rfl⟩
        case measure => simp [intOf]; omega
      · have hfit' : ¬ (n' : Int) < (i0 : Int) + (ln : Int) := by omega
        obtain ⟨wo, hwo⟩ : ∃ wo : World, wo = w.drewN q := ⟨_, rfl⟩
        have HHo := Lib.hid (show PatsAt wo B (some ⟨b, off, none⟩) n c l v from by rw [hwo]; exact HH.out.keep fun _ _ => rfl)
        have HRo := Lib.hid (show IntsAt wo B (v k).1 ln (v k).2 (wd l k) from by rw [hwo]; exact RowAt.drewN HR.out q)
        have HUo := Lib.hid (show IntsAt wo B' A' n' c' u from by rw [hwo]; exact RowAt.drewN HU.out q)
        have e0' : wo.cell? ⟨b, off + k, none⟩ = some (.slice (v k).1 ln (v k).2) := by rw [hwo]; exact e0
        rw [← hwo]
        have HWO := Lib.hid hwo
        clear HR hwo e0
        go_wp2_with fail
        go_loopw [9, 10] (fun ok z wr => ∃ (m q : Nat) (o : Bool), m ≤ ln ∧ z = .int .i64 m ∧ ok = .bool o ∧ Hid (o = decide ((wd l k).take m = (u.drop i0).take m)) ∧ wr = wo.drewN q) (fun _ z _ => ln - (intOf z).toNat)
        case atStart => exact ⟨0, 0, true, Nat.zero_le _, rfl, rfl, Lib.hid (by simp), rfl⟩
        case round =>
          obtain ⟨m, q2, o, hm, rfl, rfl, HO, rfl⟩ := hrel
          by_cases hlm2 : m < ln
          · have hmp : m < (wd l k).length := by have := HLN.out; omega
            have hmu : m < (u.drop i0).length := by rw [List.length_drop]; have := HLU.out; omega
            have HTN := Lib.hid (take_next hmp hmu)
            cases o with
            | true =>
              obtain ⟨b2, off2, hv, hb2, hc2'⟩ := IntsAt.cells HRo.out (by omega)
              obtain ⟨b3, off3, rfl, hb3, hc3'⟩ := IntsAt.cells HUo.out (by omega)
              rw [hv] at e0'
              obtain ⟨x, hx⟩ : ∃ x, (wd l k)[m]'hmp = x := ⟨_, rfl⟩
              obtain ⟨y, hy⟩ : ∃ y, (u.drop i0)[m]'hmu = y := ⟨_, rfl⟩
              obtain ⟨s, hs⟩ : ∃ s, i0 + m = s := ⟨_, rfl⟩
              have c1 := hc2' m hmp
              have c2 := hc3' (i0 + m) (by rw [List.length_drop] at hmu; omega)
              have hye : u[i0 + m]'(by rw [List.length_drop] at hmu; omega) = y := by rw [← hy, List.getElem_drop]
              rw [hx] at c1
              rw [hye, hs] at c2
              have hws : IntKind.i64.wrap ((i0 : Int) + (m : Int)) = (s : Int) := by rw [IntKind.wrap_i64]; omega
              have hs1 : (s : Int) < (n' : Int) := by omega
              have hs2 : s < n' := by omega
              have HX := Lib.hid hx
              have HY := Lib.hid hy
              have HV := Lib.hid hv
              clear hc2' hc3' hx hy hye hs hv
              by_cases hxy : x = y
              · have hb0 := beq_yes hxy
                have HO' := Lib.hid (show true = decide ((wd l k).take (m + 1) = (u.drop i0).take (m + 1)) from (decide_eq_true (HTN.out.2 ⟨of_decide_eq_true HO.out.symm, by rw [HX.out, HY.out]; exact hxy⟩)).symm)
                clear hxy
                go_wp2_with fail
                go_quiet (fail)
                go_wp2_with fail
                go_roundw
                case rel => exact ⟨m + 1, q2 + nq, true, by omega, by go_num, rfl, HO', by first | rfl | rw [World.drewN_drewN]⟩
                case measure => simp [intOf]; omega
              · have hb0 := beq_no hxy
                have HO' := Lib.hid (show false = decide ((wd l k).take (m + 1) = (u.drop i0).take (m + 1)) from (decide_eq_false (fun e => hxy (by have := (HTN.out.1 e).2; rw [HX.out, HY.out] at this; exact this))).symm)
                clear hxy
                go_wp2_with fail
                go_quiet (fail)
                go_wp2_with fail
                go_roundw
                case rel => exact ⟨m + 1, q2 + nq, false, by omega, by go_num, rfl, HO', by first | rfl | rw [World.drewN_drewN]⟩
                case measure => simp [intOf]; omega
            | false =>
              have HO' := Lib.hid (show false = decide ((wd l k).take (m + 1) = (u.drop i0).take (m + 1)) from (decide_eq_false (fun e => absurd (HTN.out.1 e).1 (of_decide_eq_false HO.out.symm))).symm)
              go_wp2_with fail
              go_quiet (fail)
              go_wp2_with fail
              go_roundw
              case rel => exact ⟨m + 1, q2 + nq, false, by omega, by go_num, rfl, HO', by first | rfl | rw [World.drewN_drewN]⟩
              case measure => simp [intOf]; omega
          · obtain rfl : m = ln := by omega
            have HP := Lib.hid (show o = decide (wd l k <+: u.drop i0) from by
              rw [HO.out, Bool.eq_iff_iff, decide_eq_true_iff, decide_eq_true_iff, List.prefix_iff_eq_take, HLN.out, List.take_of_length_le (by have := HLN.out; omega)])
            clear HO
            cases o with
            | true =>
              have HT := Lib.hid (there_yes (by have := HL.out; omega) (of_decide_eq_true HP.out.symm))
              go_wp2_with fail
              go_ret
              exact ⟨by rw [HT.out]; rfl, q + q2, by rw [HWO.out]; simp [World.drewN_drewN]⟩
            | false =>
              have HK' := Lib.hid (show ∀ j, j < k + 1 → ¬ wd l j <+: u.drop i0 from fun j hj => by
                rcases Nat.lt_or_ge j k with h1 | h1
                · exact HK.out j h1
                · obtain rfl : j = k := by omega
                  exact of_decide_eq_false HP.out.symm)
              go_wp2_with fail
              go_roundw
              case rel => exact ⟨k + 1, q + q2, by omega, by go_num, HK', by rw [HWO.out]; simp [World.drewN_drewN]⟩
              case measure => simp [intOf]; omega
    · obtain rfl : k = n := by omega
      have HT := Lib.hid (there_not (l := l) (u := u) (i := i0) (fun j hj => HK.out j (by have := HL.out; omega)))
      go_wp2_with fail
      go_ret
      exact ⟨by rw [HT.out]; rfl, q, rfl⟩
end Go.Proofs.Ytohfkpoblebfaaa
