/- The walks of class.Of, Usual, IsSpace and of the reference's May, Of, row, Usual. -/
import Derived.Test.YtkiggpbmlkfdpaaDoorClsMay
import Derived.StillTailTactics
import Derived.Deep.AppendLies
import Derived.Deep.RegionLaw
namespace Go.Proofs.YtkiggpbmlkfdpaaDoor
open Go.RowKit
set_option linter.unusedVariables false

theorem RangesAt.later {w w' : World} {n c : Nat} {A : Option Addr} {t : List Rg} (h : RangesAt w w.heap.size A n c t) (hb : Below w.heap.size w w') : RangesAt w' w'.heap.size A n c t := RowAt.mono (RowAt.below h hb) hb.size

set_option maxRecDepth 100000 in
set_option maxHeartbeats 1000000 in
theorem of_any {A : Option Addr} {n c : Nat} {t : List Rg} (p : Int) (w : World) (h : RangesAt w w.heap.size A n c t) (hm : n ≤ 1000) :
    Calls Tryd.prog 80 #[.slice A n c, .int .i64 p] w fun e w' => e = .returned (.int .i64 (clsT t p)) ∧ Below w.heap.size w w' := by
  obtain ⟨v, hv⟩ : ∃ v, mayT t = v := ⟨_, rfl⟩
  have HV := Lib.hid hv
  have HH := Lib.hid h
  have hn := h.2.1
  have hc := h.2.2.1
  unfold maxLen at hc
  cases v
  · have HF := Lib.hid (show clsT t p = 0 from by unfold clsT; rw [if_neg (by rw [hv]; simp)])
    clear hv h
    go_enter Tryd.func80, Tryd.ntmps80
    go_wp2_with fail
    refine (may_as _ HH.out hm HV).mono ?_
    rintro e w1 ⟨rfl, hb⟩
    have HB := Lib.hid hb
    clear hb
    go_wp2_with fail
    go_ret
    exact ⟨ret_int (by rw [HF.out]), HB.out⟩
  · have hcl : clsT t p = ofT p t := by unfold clsT; rw [if_pos hv]
    have hmt : rOk (-1) t = true ∧ t.length ≤ 200 := by
      unfold mayT at hv
      rw [Bool.and_eq_true, decide_eq_true_iff] at hv
      exact ⟨hv.2, hv.1⟩
    obtain rfl := h.len
    by_cases h0 : 0 < t.length
    · obtain ⟨b, off, rfl, hb0, hcs⟩ := h.cells h0
      have HC := Lib.hid hcs
      have HOK := Lib.hid hmt.1
      have hl200 := hmt.2
      have HCL := Lib.hid hcl
      clear hcs hmt hv h hcl
      go_enter Tryd.func80, Tryd.ntmps80
      go_wp2_with fail
      refine (may_as _ HH.out hm HV).mono ?_
      rintro e w1 ⟨rfl, hb⟩
      have HB := Lib.hid hb
      have hbz := hb.size
      have HC1 : Hid (∀ i, i < t.length → w1.cell? ⟨b, off + i * 3, none⟩ = some (.int .i64 (rg t i).1) ∧ w1.cell? ⟨b, off + i * 3 + 1, none⟩ = some (.int .i64 (rg t i).2.1) ∧ w1.cell? ⟨b, off + i * 3 + 2, none⟩ = some (.int .i64 (rg t i).2.2)) := fun i hi =>
        ⟨(HB.out.cell (p := ⟨b, _, none⟩) hb0).trans (HC.out i hi).1, (HB.out.cell (p := ⟨b, _, none⟩) hb0).trans (HC.out i hi).2.1, (HB.out.cell (p := ⟨b, _, none⟩) hb0).trans (HC.out i hi).2.2⟩
      clear hb
      go_wp2_with fail
      refine (search_pos p _ HOK h0 hl200 hn (by omega) (by omega) HC1).mono ?_
      rintro e w2 ⟨i, f, rfl, hi, hi1, hi2, hb2⟩
      have HB2 := Lib.hid (HB.out.trans (hb2.mono hbz))
      have hbw : b < w1.heap.size := by omega
      have HR := Lib.hid (of_search HOK.out hi hi1 hi2)
      have HC2 := Lib.hid (show ∀ i, i < t.length → w2.cell? ⟨b, off + i * 3, none⟩ = some (.int .i64 (rg t i).1) ∧ w2.cell? ⟨b, off + i * 3 + 2, none⟩ = some (.int .i64 (rg t i).2.2) from fun i hi =>
        ⟨(hb2.cell (p := ⟨b, _, none⟩) hbw).trans (HC1.out i hi).1, (hb2.cell (p := ⟨b, _, none⟩) hbw).trans (HC1.out i hi).2.2⟩)
      clear hb2 hi1 hi2
      by_cases hit : i = t.length
      · have HF := Lib.hid (show clsT t p = 0 from by rw [HCL.out, HR.out, if_pos hit])
        have e1 : ((i : Int) == (t.length : Int)) = true := beq_yes (by omega)
        have e2 : (i == t.length) = true := by rw [beq_iff_eq]; exact hit
        clear hit
        go_wp2_with fail
        go_ret
        exact ⟨ret_int (by rw [HF.out]), HB2.out⟩
      · have hilt : i < t.length := by omega
        have hilt1 : (i : Int) < t.length := by omega
        have e1 : ((i : Int) == (t.length : Int)) = false := beq_no (by omega)
        have e2 : (i == t.length) = false := by rw [beq_eq_false_iff_ne]; exact hit
        obtain ⟨d0, d2⟩ := HC2.out i hilt
        by_cases hp : p < (rg t i).1
        · have HF := Lib.hid (show clsT t p = 0 from by rw [HCL.out, HR.out, if_neg hit, if_pos hp])
          have f1 : decide (p < (rg t i).1) = true := decide_eq_true hp
          clear hit hp
          go_wp2_with fail
          go_ret
          exact ⟨ret_int (by rw [HF.out]), HB2.out⟩
        · have HF := Lib.hid (show clsT t p = (rg t i).2.2 from by rw [HCL.out, HR.out, if_neg hit, if_neg hp])
          have f1 : decide (p < (rg t i).1) = false := decide_eq_false hp
          clear hit hp
          go_wp2_with fail
          go_ret
          exact ⟨ret_int (by rw [HF.out]), HB2.out⟩
    · obtain rfl : t = [] := List.eq_nil_of_length_eq_zero (by omega)
      have HF := Lib.hid (show clsT [] p = 0 from by rw [hcl]; rfl)
      clear hv h hcl hmt
      simp only [List.length_nil] at HH hm ⊢
      go_enter Tryd.func80, Tryd.ntmps80
      go_wp2_with fail
      refine (may_as _ HH.out hm HV).mono ?_
      rintro e w1 ⟨rfl, hb⟩
      have HB := Lib.hid hb
      clear hb
      go_wp2_with fail
      refine (search_nil p _).mono ?_
      rintro e w2 ⟨rfl, rfl⟩
      go_wp2_with fail
      go_ret
      exact ⟨ret_int (by rw [HF.out]), HB.out⟩
theorem of_as {A : Option Addr} {n c : Nat} {t : List Rg} {p r : Int} (w : World) (h : RangesAt w w.heap.size A n c t) (hm : n ≤ 1000) (hr : Hid (clsT t p = r)) :
    Calls Tryd.prog 80 #[.slice A n c, .int .i64 p] w fun e w' => e = .returned (.int .i64 r) ∧ Below w.heap.size w w' := by
  have := of_any p w h hm; rw [hr.out] at this; exact this

/-- The reference's look: each range against the last one's end. -/
theorem rOk_take' {t : List Rg} {k : Nat} (h : k < t.length) (hk : rOk (-1) (t.take k) = true) : rOk (-1) (t.take (k + 1)) = decide (lastHi t k < (rg t k).1 ∧ (rg t k).1 ≤ (rg t k).2.1 ∧ (rg t k).2.1 ≤ 1114111 ∧ 1 ≤ (rg t k).2.2 ∧ (rg t k).2.2 ≤ 4) := by
  rw [take_snoc' h, rOk_snoc, hk, Bool.true_and]
  have hl : (t.take k).length = k := by rw [List.length_take]; omega
  unfold lastHi
  by_cases h0 : k = 0
  · subst h0; simp
  · have hne : t.take k ≠ [] := by intro h1; rw [h1] at hl; simp at hl; omega
    have hr : rg (t.take k) (k - 1) = rg t (k - 1) := by
      unfold rg
      rw [List.getD_eq_getElem?_getD, List.getD_eq_getElem?_getD, List.getElem?_take_of_lt (by omega)]
    rw [if_neg hne, hl, hr, if_neg h0]
theorem rOk_bad' {t : List Rg} {k : Nat} (h : k < t.length) (hk : rOk (-1) (t.take k) = true) (hb : ¬ (lastHi t k < (rg t k).1 ∧ (rg t k).1 ≤ (rg t k).2.1 ∧ (rg t k).2.1 ≤ 1114111 ∧ 1 ≤ (rg t k).2.2 ∧ (rg t k).2.2 ≤ 4)) : rOk (-1) t = false := by
  rw [← Bool.not_eq_true]
  intro h1
  have := rOk_pre (k := k + 1) h1
  rw [rOk_take' h hk, decide_eq_false hb] at this
  cases this
theorem lastHi_succ (t : List Rg) (k : Nat) : lastHi t (k + 1) = (rg t k).2.1 := by unfold lastHi; rw [if_neg (by omega)]; rfl

set_option maxRecDepth 100000 in
set_option maxHeartbeats 4000000 in
theorem rmay_any {A : Option Addr} {n c : Nat} {t : List Rg} (w : World) (h : RangesAt w w.heap.size A n c t) :
    Calls Tryd.prog 19 #[.slice A n c] w fun e w' => e = .returned (.bool (mayT t)) ∧ Below w.heap.size w w' := by
  have hn := h.2.1
  have hc := h.2.2.1
  unfold maxLen at hc
  by_cases hbig : 200 < n
  · have hbig1 : (200 : Int) < n := by omega
    have HF := Lib.hid (show mayT t = false from by unfold mayT; rw [decide_eq_false (by rw [← h.len]; omega), Bool.false_and])
    clear h
    go_enter Tryd.func19, Tryd.ntmps19
    go_wp2_with fail
    go_ret
    exact ⟨ret_bool HF.out.symm, Below.refl _ _⟩
  have hbig1 : ¬ (200 : Int) < n := by omega
  obtain rfl := h.len
  have HM := Lib.hid (fun (v : Bool) (hv : rOk (-1) t = v) => show mayT t = v from by unfold mayT; rw [decide_eq_true (by omega), Bool.true_and, hv])
  by_cases h0 : 0 < t.length
  · obtain ⟨b, off, rfl, hb0, hcs⟩ := h.cells h0
    have HC := Lib.hid hcs
    clear h hcs
    go_enter Tryd.func19, Tryd.ntmps19
    go_wp2_with fail
    go_loopw [3, 10] (fun l u wr => ∃ i : Nat, u = .int .i64 i ∧ l = .int .i64 (lastHi t i) ∧ i ≤ t.length ∧ Hid (rOk (-1) (t.take i) = true) ∧ Below w.heap.size w wr) (fun _ u _ => t.length - (intOf u).toNat)
    case atStart => exact ⟨0, rfl, rfl, Nat.zero_le _, by rfl, Below.refl _ _⟩
    case round =>
      obtain ⟨i, rfl, rfl, hi, HK, hbel⟩ := hrel
      have HB := Lib.hid hbel
      by_cases hlt : i < t.length
      · have hlt1 : (i : Int) < t.length := by omega
        obtain ⟨c0, c1, c2⟩ := HC.out i hlt
        have d0 : wr.cell? ⟨b, off + i * 3, none⟩ = some (.int .i64 (rg t i).1) := (hbel.cell (p := ⟨b, off + i * 3, none⟩) hb0).trans c0
        have d1 : wr.cell? ⟨b, off + i * 3 + 1, none⟩ = some (.int .i64 (rg t i).2.1) := (hbel.cell (p := ⟨b, off + i * 3 + 1, none⟩) hb0).trans c1
        have d2 : wr.cell? ⟨b, off + i * 3 + 2, none⟩ = some (.int .i64 (rg t i).2.2) := (hbel.cell (p := ⟨b, off + i * 3 + 2, none⟩) hb0).trans c2
        clear c0 c1 c2 hbel
        obtain ⟨L, hL⟩ : ∃ L, lastHi t i = L := ⟨_, rfl⟩
        have hcs : ((rg t i).1 ≤ L ∨ (L < (rg t i).1 ∧ (rg t i).2.1 < (rg t i).1) ∨ (L < (rg t i).1 ∧ (rg t i).1 ≤ (rg t i).2.1 ∧ 1114111 < (rg t i).2.1) ∨ (L < (rg t i).1 ∧ (rg t i).1 ≤ (rg t i).2.1 ∧ (rg t i).2.1 ≤ 1114111 ∧ (rg t i).2.2 < 1) ∨
          (L < (rg t i).1 ∧ (rg t i).1 ≤ (rg t i).2.1 ∧ (rg t i).2.1 ≤ 1114111 ∧ 1 ≤ (rg t i).2.2 ∧ 4 < (rg t i).2.2)) ∨ (L < (rg t i).1 ∧ (rg t i).1 ≤ (rg t i).2.1 ∧ (rg t i).2.1 ≤ 1114111 ∧ 1 ≤ (rg t i).2.2 ∧ (rg t i).2.2 ≤ 4) := by omega
        have hlast := lastHi_succ t i
        rw [hL]
        rcases hcs with hcs | ⟨h1, h2, h3, h4, h5⟩
        · have HF := Lib.hid (HM.out false (rOk_bad' hlt HK.out (by rw [hL]; omega)))
          have HL := Lib.hid hL
          clear hL hlast
          rcases hcs with h1 | ⟨h1, h2⟩ | ⟨h1, h2, h3⟩ | ⟨h1, h2, h3, h4⟩ | ⟨h1, h2, h3, h4, h5⟩
          · have f1 : decide ((rg t i).1 ≤ L) = true := decide_eq_true (by omega)
            go_wp2_with fail
            go_quiet (fail)
            go_wp2_with fail
            go_ret
            exact ⟨ret_bool HF.out.symm, below_drewN' HB.out _⟩
          · have f1 : decide ((rg t i).1 ≤ L) = false := decide_eq_false (by omega)
            have f2 : decide ((rg t i).2.1 < (rg t i).1) = true := decide_eq_true (by omega)
            go_wp2_with fail
            go_quiet (fail)
            go_wp2_with fail
            go_ret
            exact ⟨ret_bool HF.out.symm, below_drewN' HB.out _⟩
          · have f1 : decide ((rg t i).1 ≤ L) = false := decide_eq_false (by omega)
            have f2 : decide ((rg t i).2.1 < (rg t i).1) = false := decide_eq_false (by omega)
            have f3 : decide (1114111 < (rg t i).2.1) = true := decide_eq_true (by omega)
            go_wp2_with fail
            go_quiet (fail)
            go_wp2_with fail
            go_ret
            exact ⟨ret_bool HF.out.symm, below_drewN' HB.out _⟩
          · have f1 : decide ((rg t i).1 ≤ L) = false := decide_eq_false (by omega)
            have f2 : decide ((rg t i).2.1 < (rg t i).1) = false := decide_eq_false (by omega)
            have f3 : decide (1114111 < (rg t i).2.1) = false := decide_eq_false (by omega)
            have f4 : decide ((rg t i).2.2 < 1) = true := decide_eq_true (by omega)
            go_wp2_with fail
            go_quiet (fail)
            go_wp2_with fail
            go_ret
            exact ⟨ret_bool HF.out.symm, below_drewN' HB.out _⟩
          · have f1 : decide ((rg t i).1 ≤ L) = false := decide_eq_false (by omega)
            have f2 : decide ((rg t i).2.1 < (rg t i).1) = false := decide_eq_false (by omega)
            have f3 : decide (1114111 < (rg t i).2.1) = false := decide_eq_false (by omega)
            have f4 : decide ((rg t i).2.2 < 1) = false := decide_eq_false (by omega)
            have f5 : decide (4 < (rg t i).2.2) = true := decide_eq_true (by omega)
            go_wp2_with fail
            go_quiet (fail)
            go_wp2_with fail
            go_ret
            exact ⟨ret_bool HF.out.symm, below_drewN' HB.out _⟩
        · have HN := Lib.hid (show rOk (-1) (t.take (i + 1)) = true from by rw [rOk_take' hlt HK.out, hL, decide_eq_true ⟨h1, h2, h3, h4, h5⟩])
          have HLS := Lib.hid hlast
          have HL := Lib.hid hL
          clear hL hlast
          have f1 : decide ((rg t i).1 ≤ L) = false := decide_eq_false (by omega)
          have f2 : decide ((rg t i).2.1 < (rg t i).1) = false := decide_eq_false (by omega)
          have f3 : decide (1114111 < (rg t i).2.1) = false := decide_eq_false (by omega)
          have f4 : decide ((rg t i).2.2 < 1) = false := decide_eq_false (by omega)
          have f5 : decide (4 < (rg t i).2.2) = false := decide_eq_false (by omega)
          go_wp2_with fail
          go_quiet (fail)
          go_wp2_with fail
          go_roundw
          case rel => exact ⟨i + 1, by go_num, by rw [HLS.out], by omega, HN.out, below_drewN' HB.out _⟩
          case measure => simp [intOf]; omega
      · obtain rfl : i = t.length := by omega
        have hlt1 : ¬ (t.length : Int) < t.length := by omega
        have HF := Lib.hid (HM.out true (by have := HK.out; rw [List.take_length] at this; exact this))
        clear hbel
        go_wp2_with fail
        go_ret
        exact ⟨ret_bool HF.out.symm, HB.out⟩
  · obtain rfl : t = [] := List.eq_nil_of_length_eq_zero (by omega)
    have HF := Lib.hid (HM.out true rfl)
    clear h
    simp only [List.length_nil] at *
    go_enter Tryd.func19, Tryd.ntmps19
    go_wp2_with fail
    go_loop [3, 10] (fun l u => l = .int .i64 (-1) ∧ u = .int .i64 0) (fun l u => 0)
    case atStart => exact ⟨rfl, rfl⟩
    case round =>
      obtain ⟨rfl, rfl⟩ := hrel
      go_wp2_with fail
      go_ret
      exact ⟨ret_bool HF.out.symm, Below.refl _ _⟩
theorem rmay_as {A : Option Addr} {n c : Nat} {t : List Rg} {v : Bool} (w : World) (h : RangesAt w w.heap.size A n c t) (hv : Hid (mayT t = v)) :
    Calls Tryd.prog 19 #[.slice A n c] w fun e w' => e = .returned (.bool v) ∧ Below w.heap.size w w' := by
  have := rmay_any w h; rw [hv.out] at this; exact this

set_option maxRecDepth 100000 in
set_option maxHeartbeats 1000000 in
theorem rof_any {A : Option Addr} {n c : Nat} {t : List Rg} (p : Int) (w : World) (h : RangesAt w w.heap.size A n c t) :
    Calls Tryd.prog 22 #[.slice A n c, .int .i64 p] w fun e w' => e = .returned (.int .i64 (ofT p t)) ∧ w = w' := by
  have hn := h.2.1
  have hc := h.2.2.1
  unfold maxLen at hc
  obtain rfl := h.len
  by_cases h0 : 0 < t.length
  · obtain ⟨b, off, rfl, hb0, hcs⟩ := h.cells h0
    have HC := Lib.hid hcs
    clear h hcs
    go_enter Tryd.func22, Tryd.ntmps22
    go_wp2_with fail
    go_loop [8] (fun u => ∃ i : Nat, u = .int .i64 i ∧ i ≤ t.length ∧ Hid (ofT p (t.drop i) = ofT p t)) (fun u => t.length - (intOf u).toNat)
    case atStart => exact ⟨0, rfl, Nat.zero_le _, by rfl⟩
    case round =>
      obtain ⟨i, rfl, hi, HK⟩ := hrel
      by_cases hlt : i < t.length
      · have hlt1 : (i : Int) < t.length := by omega
        obtain ⟨d0, d1, d2⟩ := HC.out i hlt
        have hst : ofT p (t.drop i) = if (rg t i).1 ≤ p ∧ p ≤ (rg t i).2.1 then (rg t i).2.2 else ofT p (t.drop (i + 1)) := by
          rw [List.drop_eq_getElem_cons hlt, ofT, ← rg_get hlt]
        rw [HK.out] at hst
        by_cases h1 : (rg t i).1 ≤ p
        · have f1 : decide ((rg t i).1 ≤ p) = true := decide_eq_true h1
          by_cases h2 : p ≤ (rg t i).2.1
          · have f2 : decide (p ≤ (rg t i).2.1) = true := decide_eq_true h2
            have HF := Lib.hid (show ofT p t = (rg t i).2.2 from by rw [hst, if_pos ⟨h1, h2⟩])
            clear hst
            go_wp2_with fail
            go_ret
            exact ⟨ret_int HF.out.symm, rfl⟩
          · have f2 : decide (p ≤ (rg t i).2.1) = false := decide_eq_false h2
            have HF := Lib.hid (show ofT p (t.drop (i + 1)) = ofT p t from by rw [hst, if_neg (fun h => h2 h.2)])
            clear hst
            go_wp2_with fail
            go_round
            case rel => exact ⟨i + 1, by go_num, by omega, HF.out⟩
            case measure => simp [intOf]; omega
        · have f1 : decide ((rg t i).1 ≤ p) = false := decide_eq_false h1
          have HF := Lib.hid (show ofT p (t.drop (i + 1)) = ofT p t from by rw [hst, if_neg (fun h => h1 h.1)])
          clear hst
          go_wp2_with fail
          go_round
          case rel => exact ⟨i + 1, by go_num, by omega, HF.out⟩
          case measure => simp [intOf]; omega
      · obtain rfl : i = t.length := by omega
        have hlt1 : ¬ (t.length : Int) < t.length := by omega
        have HF := Lib.hid (show ofT p t = 0 from by rw [← HK.out, List.drop_of_length_le (Nat.le_refl _)]; rfl)
        go_wp2_with fail
        go_ret
        exact ⟨ret_int HF.out.symm, rfl⟩
  · obtain rfl : t = [] := List.eq_nil_of_length_eq_zero (by omega)
    clear h
    simp only [List.length_nil] at *
    go_enter Tryd.func22, Tryd.ntmps22
    go_wp2_with fail
    go_loop [8] (fun u => u = .int .i64 0) (fun u => 0)
    case atStart => exact rfl
    case round =>
      subst hrel
      go_wp2_with fail
      go_ret
      exact ⟨rfl, rfl⟩
theorem rof_as {A : Option Addr} {n c : Nat} {t : List Rg} {p r : Int} (w : World) (h : RangesAt w w.heap.size A n c t) (hr : Hid (ofT p t = r)) :
    Calls Tryd.prog 22 #[.slice A n c, .int .i64 p] w fun e w' => e = .returned (.int .i64 r) ∧ w = w' := by
  have := rof_any p w h; rw [hr.out] at this; exact this
end Go.Proofs.YtkiggpbmlkfdpaaDoor
