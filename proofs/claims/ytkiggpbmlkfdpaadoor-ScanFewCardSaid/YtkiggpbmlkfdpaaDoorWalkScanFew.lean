/- The walk of ScanFew: true for every input. -/
import Derived.Test.YtkiggpbmlkfdpaaDoorScanFixed12
import Derived.Test.YtkiggpbmlkfdpaaDoorScanFewStep
namespace Go.Proofs.YtkiggpbmlkfdpaaDoor
open Go.RowKit
set_option linter.unusedVariables false
theorem few_mostF (R : Nat) : mostF R = 2 ∨ mostF R = 4 := by unfold mostF; split <;> omega
set_option maxRecDepth 100000 in
set_option maxHeartbeats 4000000 in
theorem walkScanFew (w : World) (hU : UsualAt w) (kind : Int) {A : Option Addr} {n c : Nat} {l : List UInt8} (h : BytesAt w w.heap.size A n c l) :
    Calls Tryd.prog 7 #[.int .i64 kind, .slice A n c] w fun e w' => e = .returned (.bool true) ∧ Below w.heap.size w w' := by
  have hcap' := h.2.2.1
  have hcn' := h.2.1
  unfold maxLen at hcap'
  have HU := Lib.hid hU
  have HB := Lib.hid h
  have HL := Lib.hid h.len
  clear hU h
  by_cases hbig : 200 < n ∨ kind < 0 ∨ 3 < kind
  · obtain ⟨b1, hb1⟩ : ∃ b1, decide ((200 : Int) < (n : Int)) = b1 := ⟨_, rfl⟩
    by_cases h1 : 200 < n
    · have h1' : (200 : Int) < (n : Int) := by omega
      clear hbig hb1
      go_enter Tryd.func7, Tryd.ntmps7
      go_wp2_with fail
      refine (fixed12 w HU.out).mono ?_
      rintro e w' ⟨rfl, hb⟩
      have HE := Lib.hid hb
      go_wp2_with fail
      go_ret
      exact ⟨rfl, HE.out⟩
    · have h1' : ¬ (200 : Int) < (n : Int) := by omega
      by_cases h2 : kind < 0
      · clear hbig hb1
        go_enter Tryd.func7, Tryd.ntmps7
        go_wp2_with fail
        refine (fixed12 w HU.out).mono ?_
        rintro e w' ⟨rfl, hb⟩
        have HE := Lib.hid hb
        go_wp2_with fail
        go_ret
        exact ⟨rfl, HE.out⟩
      · have h3 : 3 < kind := by omega
        clear hbig hb1
        go_enter Tryd.func7, Tryd.ntmps7
        go_wp2_with fail
        refine (fixed12 w HU.out).mono ?_
        rintro e w' ⟨rfl, hb⟩
        have HE := Lib.hid hb
        go_wp2_with fail
        go_ret
        exact ⟨rfl, HE.out⟩
  · have h1 : ¬ 200 < n := fun e => hbig (.inl e)
    have h1' : ¬ (200 : Int) < (n : Int) := by omega
    have h2 : ¬ kind < 0 := fun e => hbig (.inr (.inl e))
    have h3 : ¬ 3 < kind := fun e => hbig (.inr (.inr e))
    have HS := Lib.hid (show n ≤ 200 from by omega)
    have HK := Lib.hid (show 0 ≤ kind ∧ kind ≤ 3 from by omega)
    obtain ⟨R, hR⟩ : ∃ R, restOf l = R := ⟨_, rfl⟩
    have HR := Lib.hid hR
    clear hbig hR
    go_enter Tryd.func7, Tryd.ntmps7
    go_wp2_with fail
    go_loopw [5, 6] (fun u v wr => ∃ (j : Nat) (A1 : Option Addr) (n1 c1 : Nat) (l1 : List UInt8), u = .int .i64 j ∧ v = .slice A1 n1 c1 ∧ n1 + j ≤ n ∧ c1 ≤ c ∧ Hid (BytesAt wr w.heap.size A1 n1 c1 l1) ∧ Hid (FewI kind R j l1) ∧ Hid (Below w.heap.size w wr)) (fun _ v _ => lenOf v)
    case atStart => exact ⟨0, A, n, c, l, rfl, rfl, Nat.le_refl _, Nat.le_refl _, HB, Lib.hid (.inl ⟨rfl, .inr HR.out⟩), Lib.hid (Below.refl _ _)⟩
    case round =>
      obtain ⟨j, A1, n1, c1, l1, rfl, rfl, hnj, hc1, HB1, HI, HW⟩ := hrel
      have hc1n := HB1.out.2.1
      have hl1 := HB1.out.len
      by_cases h0 : n1 = 0
      · subst h0
        have HJ := Lib.hid (show j ≤ mostF R from few_end (kind := kind) (by have : l1 = [] := List.eq_nil_of_length_eq_zero hl1.symm; rw [← this]; exact HI.out))
        have hcv := run_string_bytes (P := Tryd.prog) 23 9 5 Tryd.underlying23 Tryd.underlying5 Tryd.underlying9 (show BytesAt wr wr.heap.size A n c l from RowAt.mono (RowAt.below HB.out HW.out) HW.out.size)
        clear hl1
        go_wp2_with fail
        refine (rrest_any (strOf l) wr (by rw [strOf_size]; have := HS.out; have := HL.out; omega)).mono ?_
        rw [strOf_list, HR.out]
        rintro e w2 ⟨rfl, hb2⟩
        have HW2 := Lib.hid (HW.out.trans (hb2.mono HW.out.size))
        clear hb2 hcv
        by_cases hR0 : R = 0
        · subst hR0
          have hj : (j : Int) ≤ 2 := by have := HJ.out; unfold mostF at this; simp at this; omega
          go_wp2_with fail
          refine (fixed12 w2 (HU.out.later HW2.out)).mono ?_
          rintro e w3 ⟨rfl, hb3⟩
          have HW3 := Lib.hid (HW2.out.trans (hb3.mono HW2.out.size))
          clear hb3
          go_wp2_with fail
          go_ret
          exact ⟨rfl, HW3.out⟩
        · have hj : (j : Int) ≤ 4 := by have := HJ.out; unfold mostF at this; rw [if_neg hR0] at this; omega
          have hR1 : ((R : Int) == 0) = false := beq_no (by omega)
          go_wp2_with fail
          refine (fixed12 w2 (HU.out.later HW2.out)).mono ?_
          rintro e w3 ⟨rfl, hb3⟩
          have HW3 := Lib.hid (HW2.out.trans (hb3.mono HW2.out.size))
          clear hb3
          go_wp2_with fail
          go_ret
          exact ⟨rfl, HW3.out⟩
      · have h0' : (0 : Int) < (n1 : Int) := by omega
        have hne : l1 ≠ [] := fun e => h0 (by rw [hl1, e]; rfl)
        obtain ⟨⟨r, ok⟩, hr⟩ : ∃ r, nextP kind usualT l1 false = r := ⟨_, rfl⟩
        have hbd := next_bounds (kind := kind) (t := usualT) false hne usual_may12 HK.out.1 HK.out.2
        rw [hr] at hbd
        obtain ⟨hbd1, hbd2⟩ := hbd
        simp only at hbd1 hbd2
        rw [← hl1] at hbd2
        have hbd3 : ¬ (r : Int) < 1 := by omega
        have hbd4 : ¬ (n1 : Int) < (r : Int) := by omega
        have hbd5 : (r : Int) ≤ (n1 : Int) := by omega
        have HN := Lib.hid hr
        have HL1 := Lib.hid hl1
        have HNE := Lib.hid hne
        clear hr hl1 hne
        go_wp2_with fail
        refine (susual_any wr (HU.out.later HW.out)).mono ?_
        rintro e w2 ⟨At, ct, rfl, ht2, hb2⟩
        have HT2 := Lib.hid ht2
        have HW2 := Lib.hid (HW.out.trans (hb2.mono HW.out.size))
        have HB2 := Lib.hid (show BytesAt w2 w.heap.size A1 n1 c1 l1 from RowAt.below HB1.out (hb2.mono HW.out.size))
        clear ht2 hb2
        go_wp2_with fail
        refine (next_any kind false w2 (RowAt.mono HB2.out HW2.out.size) HT2.out (by omega) (by have := HS.out; have := HL1.out; omega) HN.out).mono ?_
        rintro e w3 ⟨rfl, hb3⟩
        have HW3 := Lib.hid (HW2.out.trans (hb3.mono HW2.out.size))
        have HB3 := Lib.hid (show BytesAt w3 w.heap.size A1 n1 c1 l1 from RowAt.below HB2.out (hb3.mono HW2.out.size))
        have HFR := Lib.hid (HB3.out.from_ (k := r) (by omega))
        clear hb3
        by_cases hs : ok = true ∧ j = 0
        · obtain ⟨rfl, hj0⟩ := hs
          have hj1 : ¬ (0 : Int) < (j : Int) := by omega
          have HI2 := Lib.hid (show FewI kind R j (l1.drop r) from by
            have h := HI.out
            rw [hj0] at h ⊢
            exact few_sure HNE.out HK.out.1 HK.out.2 HN.out h)
          go_wp2_with fail
          go_roundw
          case rel => exact ⟨j, _, _, _, _, by rw [hj0]; rfl, rfl, by omega, by omega, HFR, HI2, HW3⟩
          case measure => simp only [lenOf]; omega
        · have HI2 := Lib.hid (show FewI kind R (j + 1) (l1.drop r) from few_more HNE.out HK.out.1 HK.out.2 HN.out HI.out (by
            cases ok with
            | false => exact .inl rfl
            | true => exact .inr (by rcases Nat.eq_zero_or_pos j with h | h; exact absurd ⟨rfl, h⟩ hs; exact h)))
          cases ok with
          | false =>
            go_wp2_with fail
            go_roundw
            case rel => exact ⟨j + 1, _, _, _, _, by go_num, rfl, by omega, by omega, HFR, HI2, HW3⟩
            case measure => simp only [lenOf]; omega
          | true =>
            have hj1 : (0 : Int) < (j : Int) := by rcases Nat.eq_zero_or_pos j with h | h; exact absurd ⟨rfl, h⟩ hs; omega
            go_wp2_with fail
            go_roundw
            case rel => exact ⟨j + 1, _, _, _, _, by go_num, rfl, by omega, by omega, HFR, HI2, HW3⟩
            case measure => simp only [lenOf]; omega
end Go.Proofs.YtkiggpbmlkfdpaaDoor
