/- The walks of scan's run, blanks, small, led, spaces. -/
import Derived.Test.YtkiggpbmlkfdpaaDoorScanAsk
namespace Go.Proofs.YtkiggpbmlkfdpaaDoor
open Go.RowKit
set_option linter.unusedVariables false

theorem is_true {ps : List Pt} {i : Nat} {c : Int} (h : isP ps i c = true) : i < ps.length ∧ runP ps i c = runP ps (i + 1) c := by
  unfold isP at h
  cases hp : ps[i]? with
  | none => rw [hp] at h; cases h
  | some p =>
    rw [hp] at h
    exact ⟨(List.getElem?_eq_some_iff.1 hp).1, while_yes hp h⟩
theorem is_false {ps : List Pt} {i : Nat} {c : Int} (h : isP ps i c = false) : runP ps i c = i := by
  unfold isP at h
  cases hp : ps[i]? with
  | none => exact while_end hp
  | some p => rw [hp] at h; exact while_no hp h
theorem sp_true {ps : List Pt} {i : Nat} (h : spP ps i = true) : i < ps.length ∧ whileP (fun p => isSp p.cls) ps i = whileP (fun p => isSp p.cls) ps (i + 1) := by
  unfold spP at h
  cases hp : ps[i]? with
  | none => rw [hp] at h; cases h
  | some p =>
    rw [hp] at h
    exact ⟨(List.getElem?_eq_some_iff.1 hp).1, while_yes hp h⟩
theorem sp_false {ps : List Pt} {i : Nat} (h : spP ps i = false) : whileP (fun p => isSp p.cls) ps i = i := by
  unfold spP at h
  cases hp : ps[i]? with
  | none => exact while_end hp
  | some p => rw [hp] at h; exact while_no hp h
theorem run_le {ps : List Pt} {i : Nat} {c : Int} (hi : i ≤ 1000) (hl : ps.length ≤ 1000) : i ≤ runP ps i c ∧ runP ps i c ≤ 1000 := by
  have h := while_le (fun p => p.cls == c) ps i
  unfold runP
  rcases Nat.lt_or_ge ps.length i with h1 | h1
  · have : whileP (fun p => p.cls == c) ps i = i := while_end (List.getElem?_eq_none (by omega))
    omega
  · have := h.2 h1; omega
set_option maxHeartbeats 1000000 in
theorem run_any {B q k0 i : Nat} {t : List Rg} {ps : List Pt} {wide : Bool} (c : Int) (w : World) (h : RdAt w B q t ps wide k0) (hi : i ≤ 1000) {r : Nat} (hr : runP ps i c = r) :
    Calls Tryd.prog 58 #[.pointer (some ⟨q, 0, none⟩), .int .i64 (i : Int), .int .i64 c] w (Ask B q t ps wide k0 (r + 1) w (.int .i64 (r : Int))) := by
  have HR := Lib.hid hr
  have HS := Lib.hid (run_le (c := c) hi h.size.2.1)
  have hps := h.size.2.1
  have H := Lib.hid h
  clear h hr
  go_enter Tryd.func58, Tryd.ntmps58
  go_wp2_with fail
  go_loopw [1] (fun z wr => ∃ (j k : Nat), z = .int .i64 (j : Int) ∧ i ≤ j ∧ j ≤ 1000 ∧ Hid (runP ps j c = r) ∧ Hid (RdAt wr B q t ps wide k) ∧ k0 ≤ k ∧ Hid (Below q w wr)) (fun z _ => 1001 - (intOf z).toNat)
  case atStart => exact ⟨i, k0, rfl, Nat.le_refl _, hi, HR, H, Nat.le_refl _, Below.refl _ _⟩
  case round =>
    clear H
    obtain ⟨j, k, rfl, hij, hj, HJ, HD, hk, HB⟩ := hrel
    have hj2 : j ≤ 100000 := by omega
    cases ho : isP ps j c with
    | true =>
      have HT := Lib.hid (is_true ho)
      have HO := Lib.hid ho
      have hj3 : j < 1000 := by have := HT.out.1; omega
      clear ho
      go_wp2_with fail
      refine (is_any c wr HD.out hj2 HO.out).mono ?_
      rintro e w2 ⟨rfl, hb, k2, hr2, hk2⟩
      have HB2 := Lib.hid (HB.out.trans hb)
      have HD2 := Lib.hid hr2
      have HK2 := Lib.hid hk2
      clear hb hr2 hk2
      go_wp2_with fail
      go_roundw
      case rel => exact ⟨j + 1, k2, by go_num, by omega, by omega, Lib.hid (by rw [← HT.out.2]; exact HJ.out), HD2, by have := HK2.out.1; omega, HB2⟩
      case measure => simp [intOf]; omega
    | false =>
      have HT := Lib.hid (show j = r from by rw [← HJ.out]; exact (is_false ho).symm)
      have HO := Lib.hid ho
      clear ho
      go_wp2_with fail
      refine (is_any c wr HD.out hj2 HO.out).mono ?_
      rintro e w2 ⟨rfl, hb, k2, hr2, hk2⟩
      have HB2 := Lib.hid (HB.out.trans hb)
      have HD2 := Lib.hid hr2
      have HK2 := Lib.hid hk2
      clear hb hr2 hk2
      go_wp2_with fail
      go_ret
      exact ⟨by rw [← HT.out]; rfl, HB2.out, k2, HD2.out, by have := HK2.out.1; omega, by rw [← HT.out]; exact HK2.out.2⟩
set_option maxHeartbeats 2000000 in
theorem blanks_any {B q k0 : Nat} {t : List Rg} {ps : List Pt} {wide : Bool} (w : World) (h : RdAt w B q t ps wide k0) {n ln : Nat} (hn : blanksP ps = n) (hl : lineP ps = ln) :
    Calls Tryd.prog 52 #[.pointer (some ⟨q, 0, none⟩)] w (Ask B q t ps wide k0 (n + 1) w (.tuple #[.int .i64 (n : Int), .int .i64 (ln : Int)])) := by
  have HN := Lib.hid (show whileP (fun p => isSp p.cls) ps 0 = n from hn)
  have HL := Lib.hid (show lineF ps n = ln from by rw [← hn]; exact hl)
  have hps := h.size.2.1
  have H := Lib.hid h
  clear h hn hl
  go_enter Tryd.func52, Tryd.ntmps52
  go_wp2_with fail
  go_loopw [4, 5] (fun z y wr => ∃ (j m k : Nat), z = .int .i64 (j : Int) ∧ y = .int .i64 (m : Int) ∧ j ≤ 1000 ∧ Hid (whileP (fun p => isSp p.cls) ps j = n) ∧ Hid (lineF ps j = m) ∧ Hid (RdAt wr B q t ps wide k) ∧ k0 ≤ k ∧ Hid (Below q w wr)) (fun z _ _ => 1001 - (intOf z).toNat)
  case atStart => exact ⟨0, 0, k0, rfl, rfl, by omega, HN, Lib.hid rfl, H, Nat.le_refl _, Below.refl _ _⟩
  case round =>
    clear H
    obtain ⟨j, m, k, rfl, rfl, hj, HJ, HM, HD, hk, HB⟩ := hrel
    have hj2 : j ≤ 100000 := by omega
    cases ho : spP ps j with
    | true =>
      have HT := Lib.hid (sp_true ho)
      have HO := Lib.hid ho
      have hj3 : j < ps.length := HT.out.1
      clear ho
      go_wp2_with fail
      refine (space_any wr HD.out hj2 HO.out).mono ?_
      rintro e w2 ⟨rfl, hb, k2, hr2, hk2⟩
      have HB2 := Lib.hid (HB.out.trans hb)
      have HD2 := Lib.hid hr2
      have hkj : j < k2 := by omega
      have hkk : k0 ≤ k2 := by omega
      obtain ⟨A, nn, c, At, nt, ct, Ar, cr, op, rest, hst⟩ := hr2
      obtain ⟨c0, c1, c2, c3, c4⟩ := hst.reads
      have hjt : j < (ps.take k2).length := by rw [List.length_take]; omega
      obtain ⟨b, off, rfl, hbl, hc⟩ := PtsAt.cells (RowAt.of_own hst.row) (by omega)
      obtain ⟨e0, e1, e2, e3⟩ := hc j hjt
      have hget : (ps.take k2)[j] = ps[j] := List.getElem_take
      obtain ⟨cl, hcl⟩ : ∃ x, ps[j].cls = x := ⟨_, rfl⟩
      rw [hget, hcl] at e1
      have HCL := Lib.hid (show clsAt ps j = cl from by unfold clsAt; rw [List.getElem?_eq_getElem hj3]; exact hcl)
      have hs1 : IntKind.i64.wrap ((j : Int) + 1 - 1) = (j : Int) := by rw [IntKind.wrap_i64]; omega
      have hkj' : (j : Int) < (k2 : Int) := by omega
      clear hb hk2 hst hc hget hcl e0 e2 e3 hjt
      by_cases h4 : cl = 4
      · subst h4
        have HM2 := Lib.hid (show lineF ps (j + 1) = j + 1 from by rw [lineF, if_pos HCL.out])
        go_wp2_with fail
        go_roundw
        case rel => exact ⟨j + 1, j + 1, k2, by go_num, by go_num, by omega, Lib.hid (by rw [← HT.out.2]; exact HJ.out), HM2, HD2, hkk, HB2⟩
        case measure => simp [intOf]; omega
      · have hb4 := beq_no h4
        have HM2 := Lib.hid (show lineF ps (j + 1) = m from by rw [lineF, if_neg (by rw [HCL.out]; exact h4)]; exact HM.out)
        clear h4
        go_wp2_with fail
        go_roundw
        case rel => exact ⟨j + 1, m, k2, by go_num, rfl, by omega, Lib.hid (by rw [← HT.out.2]; exact HJ.out), HM2, HD2, hkk, HB2⟩
        case measure => simp [intOf]; omega
    | false =>
      have HT := Lib.hid (show j = n from by rw [← HJ.out]; exact (sp_false ho).symm)
      have HO := Lib.hid ho
      clear ho
      go_wp2_with fail
      refine (space_any wr HD.out hj2 HO.out).mono ?_
      rintro e w2 ⟨rfl, hb, k2, hr2, hk2⟩
      have HB2 := Lib.hid (HB.out.trans hb)
      have HD2 := Lib.hid hr2
      have HK2 := Lib.hid hk2
      clear hb hr2 hk2
      go_wp2_with fail
      go_ret2
      have hjn := HT.out
      subst hjn
      exact ⟨by rw [← HL.out, ← HM.out]; rfl, HB2.out, k2, HD2.out, by have := HK2.out.1; omega, HK2.out.2⟩
set_option maxHeartbeats 2000000 in
theorem small_any {B q k0 i : Nat} {t : List Rg} {ps : List Pt} {wide : Bool} (w : World) (h : RdAt w B q t ps wide k0) (hi : i ≤ 1000) {r : Int} (hr : smallP ps wide i = r) :
    Calls Tryd.prog 61 #[.pointer (some ⟨q, 0, none⟩), .int .i64 (i : Int)] w (Ask B q t ps wide k0 (i + 1) w (.int .i64 r)) := by
  have hi2 : i ≤ 100000 := by omega
  have H := Lib.hid h
  clear h
  unfold smallP at hr
  cases hp : ps[i]? with
  | none =>
    rw [hp] at hr
    have HP := Lib.hid hp
    have HO := Lib.hid hr
    clear hp hr
    go_enter Tryd.func61, Tryd.ntmps61
    go_wp2_with fail
    refine (at_none w H.out hi2 HP.out).mono ?_
    rintro e w2 ⟨rfl, hb, k, hr, hk⟩
    have HB := Lib.hid hb
    have HR := Lib.hid hr
    have HK := Lib.hid hk
    clear hb hr hk
    go_wp2_with fail
    go_ret
    exact ⟨by rw [← HO.out]; rfl, balloc HB.out HR.out.size.1 _, k, HR.out.alloc _, HK.out⟩
  | some p =>
    rw [hp] at hr
    obtain ⟨a, b, m, d⟩ := p
    simp only at hr
    have HP := Lib.hid hp
    unfold lowP at hr
    have HO := Lib.hid hr
    clear hp hr
    cases wide with
    | false =>
      have HRA := Lib.hid (show a = r from by have := HO.out; rw [if_neg (by simp)] at this; exact this)
      go_enter Tryd.func61, Tryd.ntmps61
      go_wp2_with fail
      refine (at_some w H.out hi2 HP.out).mono ?_
      rintro e w2 ⟨rfl, hb, k, hr, hk⟩
      have HB := Lib.hid hb
      have HR := Lib.hid hr
      have HK := Lib.hid hk
      obtain ⟨A, nn, c, At, nt, ct, Ar, cr, op, rest, hst⟩ := hr
      obtain ⟨c0, c1, c2, c3, c4⟩ := hst.reads
      have hq := hst.lt
      clear hb hk hst c0 c1 c2 c3
      go_wp2_with fail
      go_ret
      exact ⟨by rw [← HRA.out]; rfl, balloc HB.out HR.out.size.1 _, k, HR.out.alloc _, HK.out⟩
    | true =>
      by_cases hc : 65 ≤ a ∧ a ≤ 90
      · obtain ⟨hc1, hc2⟩ := hc
        have HRA := Lib.hid (show a - 65 + 97 = r from by have := HO.out; rw [if_pos ⟨rfl, hc1, hc2⟩] at this; exact this)
        go_enter Tryd.func61, Tryd.ntmps61
        go_wp2_with fail
        refine (at_some w H.out hi2 HP.out).mono ?_
        rintro e w2 ⟨rfl, hb, k, hr, hk⟩
        have HB := Lib.hid hb
        have HR := Lib.hid hr
        have HK := Lib.hid hk
        obtain ⟨A, nn, c, At, nt, ct, Ar, cr, op, rest, hst⟩ := hr
        obtain ⟨c0, c1, c2, c3, c4⟩ := hst.reads
        have hq := hst.lt
        clear hb hk hst c0 c1 c2 c3
        go_wp2_with fail
        go_ret
        exact ⟨by rw [← HRA.out]; rfl, balloc HB.out HR.out.size.1 _, k, HR.out.alloc _, HK.out⟩
      · have HRA := Lib.hid (show a = r from by have := HO.out; rw [if_neg (by intro e; exact hc e.2)] at this; exact this)
        by_cases hc1 : 65 ≤ a
        all_goals
          have hx1 : decide (65 ≤ a) = decide (65 ≤ a) := rfl
          have hx2 : 65 ≤ a → ¬ a ≤ 90 := fun h1 h2 => hc ⟨h1, h2⟩
          clear hc
          have HX2 := Lib.hid hx2
          first
          | (have hc2 : ¬ a ≤ 90 := hx2 hc1
             clear hx1 hx2
             go_enter Tryd.func61, Tryd.ntmps61)
          | (clear hx1 hx2
             go_enter Tryd.func61, Tryd.ntmps61)
          go_wp2_with fail
          refine (at_some w H.out hi2 HP.out).mono ?_
          rintro e w2 ⟨rfl, hb, k, hr, hk⟩
          have HB := Lib.hid hb
          have HR := Lib.hid hr
          have HK := Lib.hid hk
          obtain ⟨A, nn, c, At, nt, ct, Ar, cr, op, rest, hst⟩ := hr
          obtain ⟨c0, c1, c2, c3, c4⟩ := hst.reads
          have hq := hst.lt
          clear hb hk hst c0 c1 c2 c3
          go_wp2_with fail
          go_ret
          exact ⟨by rw [← HRA.out]; rfl, balloc HB.out HR.out.size.1 _, k, HR.out.alloc _, HK.out⟩
end Go.Proofs.YtkiggpbmlkfdpaaDoor
