/- The walk of ScanStays: true for every input. -/
import Derived.Test.YtkiggpbmlkfdpaaDoorScanFixed12
import Derived.Test.YtkiggpbmlkfdpaaDoorScanFewStep
namespace Go.Proofs.YtkiggpbmlkfdpaaDoor
open Go.RowKit
set_option linter.unusedVariables false
theorem infoByte12 : (Tryd.prog.info? 5).map (fun i => (i.zero, i.size, i.bytes)) = some (some (.int .u8 0), 1, 1) := by kernel_rfl
theorem one_bytes12 {l : List UInt8} : ∀ u ∈ bytesV l, u.oneCell' = true := by
  intro u hu
  unfold bytesV at hu
  obtain ⟨x, _, rfl⟩ := List.mem_map.1 hu
  rfl
theorem bytesV_app12 (a b : List UInt8) : bytesV (a ++ b) = bytesV a ++ bytesV b := by unfold bytesV; rw [List.map_append]
set_option maxRecDepth 100000 in
set_option maxHeartbeats 2000000 in
theorem walkScanStays (w : World) (hU : UsualAt w) (kind : Int) {At A A2 : Option Addr} {nt ct n c n2 c2 : Nat} {t : List Rg} {l d : List UInt8} (ht : RangesAt w w.heap.size At nt ct t) (h : BytesAt w w.heap.size A n c l) (hd : BytesAt w w.heap.size A2 n2 c2 d) (final : Bool) :
    Calls Tryd.prog 5 #[.int .i64 kind, .slice At nt ct, .slice A n c, .slice A2 n2 c2, .bool final] w fun e w' => e = .returned (.bool true) ∧ Below w.heap.size w w' := by
  have hcap := ht.2.2.1
  have hcn := ht.2.1
  have hcap' := h.2.2.1
  have hcn' := h.2.1
  have hcap2 := hd.2.2.1
  have hcn2 := hd.2.1
  unfold maxLen at hcap hcap' hcap2
  obtain ⟨o, ho⟩ : ∃ o, (decide (80 < nt) || decide (200 < n)) = o := ⟨_, rfl⟩
  have HO := Lib.hid ho
  have HU := Lib.hid hU
  have HT := Lib.hid ht
  have HB := Lib.hid h
  have HD := Lib.hid hd
  have HL := Lib.hid h.len
  have HLD := Lib.hid hd.len
  clear ho hU ht h hd
  by_cases hbig : o = true ∨ 100 < n ∨ 100 < n2
  · have HBG := Lib.hid hbig
    have hfix : ∀ W, W = w → Calls Tryd.prog 15 #[] W fun e w' => e = .returned (.bool true) ∧ Below w.heap.size w w' := fun W e => by subst e; exact fixed12 _ HU.out
    have HF := Lib.hid hfix
    clear hbig hfix
    cases o with
    | true =>
      go_enter Tryd.func5, Tryd.ntmps5
      go_wp2_with fail
      refine (great12 w HO.out (by omega) (by omega)).mono ?_
      rintro e w' ⟨rfl, rfl⟩
      go_wp2_with fail
      refine (HF.out _ rfl).mono ?_
      rintro e w' ⟨rfl, hb⟩
      have HE := Lib.hid hb
      go_wp2_with fail
      go_ret
      exact ⟨rfl, HE.out⟩
    | false =>
      by_cases h1 : 100 < n
      · have h1' : (100 : Int) < (n : Int) := by omega
        go_enter Tryd.func5, Tryd.ntmps5
        go_wp2_with fail
        refine (great12 w HO.out (by omega) (by omega)).mono ?_
        rintro e w' ⟨rfl, rfl⟩
        go_wp2_with fail
        refine (HF.out _ rfl).mono ?_
        rintro e w' ⟨rfl, hb⟩
        have HE := Lib.hid hb
        go_wp2_with fail
        go_ret
        exact ⟨rfl, HE.out⟩
      · have h1' : ¬ (100 : Int) < (n : Int) := by omega
        have h2 : 100 < n2 := by rcases HBG.out with h | h | h; cases h; exact absurd h h1; exact h
        have h2' : (100 : Int) < (n2 : Int) := by omega
        go_enter Tryd.func5, Tryd.ntmps5
        go_wp2_with fail
        refine (great12 w HO.out (by omega) (by omega)).mono ?_
        rintro e w' ⟨rfl, rfl⟩
        go_wp2_with fail
        refine (HF.out _ rfl).mono ?_
        rintro e w' ⟨rfl, hb⟩
        have HE := Lib.hid hb
        go_wp2_with fail
        go_ret
        exact ⟨rfl, HE.out⟩
  · have hof : o = false := by cases o with | true => exact absurd (.inl rfl) hbig | false => rfl
    have h1 : ¬ 100 < n := fun e => hbig (.inr (.inl e))
    have h2 : ¬ 100 < n2 := fun e => hbig (.inr (.inr e))
    have h1' : ¬ (100 : Int) < (n : Int) := by omega
    have h2' : ¬ (100 : Int) < (n2 : Int) := by omega
    subst hof
    have hsm := HO.out
    rw [Bool.or_eq_false_iff, decide_eq_false_iff_not, decide_eq_false_iff_not] at hsm
    have HS := Lib.hid (show nt ≤ 80 ∧ n ≤ 100 ∧ n2 ≤ 100 from by omega)
    obtain ⟨⟨r, s⟩, hr⟩ : ∃ r, nextP kind t l false = r := ⟨_, rfl⟩
    have HR := Lib.hid hr
    clear hr hbig hsm
    go_enter Tryd.func5, Tryd.ntmps5
    go_wp2_with fail
    refine (great12 w HO.out (by omega) (by omega)).mono ?_
    rintro e w' ⟨rfl, rfl⟩
    go_wp2_with fail
    refine (next_any kind false w HB.out HT.out (by have := HS.out; omega) (by have := HS.out; have := HL.out; omega) HR.out).mono ?_
    rintro e w1 ⟨rfl, hb1⟩
    have HB1 := Lib.hid hb1
    clear hb1
    cases s with
    | false =>
      go_wp2_with fail
      refine (fixed12 w1 (HU.out.later HB1.out)).mono ?_
      rintro e w2 ⟨rfl, hb2⟩
      have HB2 := Lib.hid (HB1.out.trans (hb2.mono HB1.out.size))
      clear hb2
      go_wp2_with fail
      go_ret
      exact ⟨rfl, HB2.out⟩
    | true =>
      obtain ⟨q0, q1, q2⟩ := next_stays d final HR.out
      have hr0 : (0 : Int) < (r : Int) := by omega
      have Q1 := Lib.hid q1
      have Q2 := Lib.hid q2
      have hal : Below w1.heap.size w1 (w1.alloc (.cells #[] 5)) := (Below.refl _ w1).alloc (Nat.le_refl _) _
      have HAL := Lib.hid (HB1.out.trans (hal.mono HB1.out.size))
      have HO0 := Lib.hid (own_empty w1 5 1)
      have HR1 := Lib.hid (show BytesAt (w1.alloc (.cells #[] 5)) (w1.alloc (.cells #[] 5)).heap.size A n c l from RowAt.mono (RowAt.below HB.out HAL.out) HAL.out.size)
      have hz1 : w1.heap.size ≤ (w1.alloc (.cells #[] 5)).heap.size := by simp
      have HALW := Lib.hid hal
      clear q0 q1 q2 hal
      go_wp2_with (first
        | (at_builtin; refine wpList_append_row rfl (.tmp 44) (.tmp 45) _ rfl w1.heap.size 5 _ 1 1 Tryd.underlying23 infoByte12 rfl (by omega) _ 0 [] rfl HO0.out _ A n c (bytesV l) rfl HR1.out one_bytes12 n (Nat.zero_add _) (bytesV l) rfl (by unfold maxLen; omega) (by omega) hz1 ?_; intro A3 c3 w3 hown3 hb3 hg3; (have HO3 := Lib.hid hown3); (have HB3w := Lib.hid (HALW.out.trans hb3)); (have HB3 := Lib.hid (HB1.out.trans (HB3w.out.mono HB1.out.size))); (have hz3 := HB3w.out.size); (have HD3 := Lib.hid (show BytesAt w3 w3.heap.size A2 n2 c2 d from RowAt.mono (RowAt.below HD.out HB3.out) HB3.out.size)); clear hown3 hb3 hg3)
        | (at_builtin; refine wpList_append_row rfl (.tmp 46) (.tmp 47) _ rfl w1.heap.size 5 _ 1 1 Tryd.underlying23 infoByte12 rfl (by omega) _ n (bytesV l) rfl HO3.out _ A2 n2 c2 (bytesV d) rfl HD3.out one_bytes12 (n + n2) rfl (bytesV (l ++ d)) (bytesV_app12 _ _).symm (by unfold maxLen; omega) (by omega) hz3 ?_; intro A4 c4 w4 hown4 hb4 hg4; (have HO4 := Lib.hid hown4); (have HB4 := Lib.hid (HB3.out.trans (hb4.mono HB1.out.size))); clear hown4 hb4 hg4))
      refine (next_any kind final w4 (RowAt.of_own HO4.out) (RowAt.mono (RowAt.below HT.out HB4.out) HB4.out.size) (by have := HS.out; omega) (by rw [List.length_append]; have := HS.out; have := HL.out; have := HLD.out; omega) Q1.out).mono ?_
      rintro e w5 ⟨rfl, hb5⟩
      have HB5 := Lib.hid (HB4.out.trans (hb5.mono HB4.out.size))
      clear hb5
      go_wp2_with fail
      refine (next_any kind true w5 (RowAt.mono (RowAt.below HB.out HB5.out) HB5.out.size) (RowAt.mono (RowAt.below HT.out HB5.out) HB5.out.size) (by have := HS.out; omega) (by have := HS.out; have := HL.out; omega) Q2.out).mono ?_
      rintro e w6 ⟨rfl, hb6⟩
      have HB6 := Lib.hid (HB5.out.trans (hb6.mono HB5.out.size))
      clear hb6
      go_wp2_with fail
      refine (fixed12 w6 (HU.out.later HB6.out)).mono ?_
      rintro e w7 ⟨rfl, hb7⟩
      have HB7 := Lib.hid (HB6.out.trans (hb7.mono HB6.out.size))
      clear hb7
      go_wp2_with fail
      go_ret
      first
        | exact ⟨rfl, HB7.out⟩
        | exact ⟨by simp, HB7.out⟩
end Go.Proofs.YtkiggpbmlkfdpaaDoor
