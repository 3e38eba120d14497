/- The walk of ScanOpen: true for every input. -/
import Derived.Test.YtkiggpbmlkfdpaaDoorScanFixed12
import Derived.Test.YtkiggpbmlkfdpaaDoorScanOpenLaw
namespace Go.Proofs.YtkiggpbmlkfdpaaDoor
open Go.RowKit
set_option linter.unusedVariables false
theorem open_next {kind : Int} {l : List UInt8} (h1 : 0 ≤ kind) (h3 : kind ≤ 3) (x : UInt8) {m : Nat} (h : (nextP kind usualT (l ++ [x]) true).1 = m) : nextP kind usualT (l ++ [x]) true = (m, true) := by
  have hne : l ++ [x] ≠ [] := by simp
  subst h
  by_cases hk : kind = 0
  · subst hk
    unfold nextP
    rw [if_neg (by rintro (h4 | h4 | h4 | h4); exact hne h4; rw [usual_may12] at h4; cases h4; omega; omega), if_pos rfl]
  · rw [next_some hne usual_may12 (by omega) h3]; rfl
def OpenI (kind : Int) (l : List UInt8) (n i : Nat) : Prop := ∃ (j : Nat) (x : UInt8), i ≤ j ∧ signs[j]? = some x ∧ (nextP kind usualT (l ++ [x]) true).1 ≠ n
theorem OpenI.lt {kind : Int} {l : List UInt8} {n i : Nat} (h : OpenI kind l n i) : i < 7 := by
  obtain ⟨j, x, h1, h2, h3⟩ := h
  have := (List.getElem?_eq_some_iff.1 h2).1
  have h7 : signs.length = 7 := rfl
  omega
theorem OpenI.next {kind : Int} {l : List UInt8} {n i : Nat} {x : UInt8} (h : OpenI kind l n i) (hx : signs[i]? = some x) (he : (nextP kind usualT (l ++ [x]) true).1 = n) : OpenI kind l n (i + 1) := by
  obtain ⟨j, y, h1, h2, h3⟩ := h
  refine ⟨j, y, ?_, h2, h3⟩
  rcases Nat.lt_or_ge i j with h | h
  · exact h
  · obtain rfl : i = j := by omega
    rw [hx] at h2
    injection h2 with h2
    subst h2
    exact absurd he h3
theorem strOf_app (a b : List UInt8) : strOf a ++ strOf b = strOf (a ++ b) := by
  apply ByteArray.ext
  simp [strOf]
def signV : Array Value := #[.string ⟨#[97]⟩, .string ⟨#[101]⟩, .string ⟨#[108]⟩, .string ⟨#[49]⟩, .string ⟨#[33]⟩, .string ⟨#[32]⟩, .string ⟨#[10]⟩]
theorem sign_val (i : Nat) (x : UInt8) (h : signs[i]? = some x) : signV[i]? = some (.string (strOf [x])) := by
  have h7 : i < 7 := (List.getElem?_eq_some_iff.1 h).1
  rcases (by omega : i = 0 ∨ i = 1 ∨ i = 2 ∨ i = 3 ∨ i = 4 ∨ i = 5 ∨ i = 6) with rfl | rfl | rfl | rfl | rfl | rfl | rfl <;> (simp [signs] at h; subst h; rfl)
theorem sign_cell {w : World} (i : Nat) (x : UInt8) (h : signs[i]? = some x) (g : Nat) (hg : w.heap.size = g) : (w.alloc (.cells signV 9)).cell? ⟨g, i, none⟩ = some (.string (strOf [x])) := by
  subst hg
  have hc : (w.alloc (.cells signV 9)).heap[w.heap.size]? = some (.cells signV 9 (0, 0)) := heap_alloc_new _ _
  unfold World.cell?
  rw [hc]
  simpa using sign_val i x h
set_option maxRecDepth 100000 in
set_option maxHeartbeats 4000000 in
theorem walkScanOpen (w : World) (hU : UsualAt w) (kind : Int) {A : Option Addr} {n c : Nat} {l : List UInt8} (h : BytesAt w w.heap.size A n c l) :
    Calls Tryd.prog 6 #[.int .i64 kind, .slice A n c] w fun e w' => e = .returned (.bool true) ∧ Below w.heap.size w w' := by
  have hcap' := h.2.2.1
  have hcn' := h.2.1
  unfold maxLen at hcap'
  have HU := Lib.hid hU
  have HB := Lib.hid h
  have HL := Lib.hid h.len
  clear hU h
  by_cases hbig : 100 < n ∨ n = 0 ∨ kind < 0 ∨ 3 < kind
  · have fin : ∀ (hh : True), True := fun _ => trivial
    by_cases h1 : 100 < n
    · have h1' : (100 : Int) < (n : Int) := by omega
      clear hbig fin
      go_enter Tryd.func6, Tryd.ntmps6
      go_wp2_with fail
      refine (fixed12 w HU.out).mono ?_
      rintro e w' ⟨rfl, hb⟩
      have HE := Lib.hid hb
      go_wp2_with fail
      go_ret
      exact ⟨rfl, HE.out⟩
    · have h1' : ¬ (100 : Int) < (n : Int) := by omega
      by_cases h0 : n = 0
      · have h0' := beq_yes (a := (n : Int)) (b := 0) (by omega)
        clear hbig fin h0
        go_enter Tryd.func6, Tryd.ntmps6
        go_wp2_with fail
        refine (fixed12 w HU.out).mono ?_
        rintro e w' ⟨rfl, hb⟩
        have HE := Lib.hid hb
        go_wp2_with fail
        go_ret
        exact ⟨rfl, HE.out⟩
      · have h0' := beq_no (a := (n : Int)) (b := 0) (by omega)
        by_cases h2 : kind < 0
        · clear hbig fin
          go_enter Tryd.func6, Tryd.ntmps6
          go_wp2_with fail
          refine (fixed12 w HU.out).mono ?_
          rintro e w' ⟨rfl, hb⟩
          have HE := Lib.hid hb
          go_wp2_with fail
          go_ret
          exact ⟨rfl, HE.out⟩
        · have h3 : 3 < kind := by omega
          clear hbig fin
          go_enter Tryd.func6, Tryd.ntmps6
          go_wp2_with fail
          refine (fixed12 w HU.out).mono ?_
          rintro e w' ⟨rfl, hb⟩
          have HE := Lib.hid hb
          go_wp2_with fail
          go_ret
          exact ⟨rfl, HE.out⟩
  · have h1 : ¬ 100 < n := fun e => hbig (.inl e)
    have h1' : ¬ (100 : Int) < (n : Int) := by omega
    have hn0 : ¬ n = 0 := fun e => hbig (.inr (.inl e))
    have h0' := beq_no (a := (n : Int)) (b := 0) (by omega)
    have h2 : ¬ kind < 0 := fun e => hbig (.inr (.inr (.inl e)))
    have h3 : ¬ 3 < kind := fun e => hbig (.inr (.inr (.inr e)))
    have HS := Lib.hid (show n ≤ 100 from by omega)
    have HK := Lib.hid (show 0 ≤ kind ∧ kind ≤ 3 from by omega)
    have HNE := Lib.hid (show l ≠ [] from fun e => hn0 (by rw [HL.out, e]; rfl))
    obtain ⟨R, hR⟩ : ∃ R, restOf l = R := ⟨_, rfl⟩
    have HR := Lib.hid hR
    obtain ⟨⟨m, ok⟩, hm⟩ : ∃ r, nextP kind usualT l false = r := ⟨_, rfl⟩
    have HM := Lib.hid hm
    have hcv := run_string_bytes (P := Tryd.prog) 23 9 5 Tryd.underlying23 Tryd.underlying5 Tryd.underlying9 HB.out
    clear hbig hR hm
    go_enter Tryd.func6, Tryd.ntmps6
    go_wp2_with fail
    refine (rrest_any (strOf l) w (by rw [strOf_size]; have := HS.out; have := HL.out; omega)).mono ?_
    rw [strOf_list, HR.out]
    rintro e w1 ⟨rfl, hb1⟩
    have HW1 := Lib.hid hb1
    clear hb1 hcv
    by_cases hR0 : R = 0
    · have hRz : ¬ (0 : Int) < (R : Int) := by omega
      have HR0 := Lib.hid hR0
      clear hR0
      go_wp2_with fail
      refine (susual_any w1 (HU.out.later HW1.out)).mono ?_
      rintro e w2 ⟨At, ct, rfl, ht2, hb2⟩
      have HT2 := Lib.hid ht2
      have HW2 := Lib.hid (HW1.out.trans (hb2.mono HW1.out.size))
      have HB2 := Lib.hid (show BytesAt w2 w.heap.size A n c l from RowAt.below HB.out HW2.out)
      clear ht2 hb2
      go_wp2_with fail
      refine (next_any kind false w2 (RowAt.mono HB2.out HW2.out.size) HT2.out (by omega) (by have := HS.out; have := HL.out; omega) HM.out).mono ?_
      rintro e w3 ⟨rfl, hb3⟩
      have HW3 := Lib.hid (HW2.out.trans (hb3.mono HW2.out.size))
      clear hb3 HT2
      cases ok with
      | true =>
        go_wp2_with fail
        refine (fixed12 w3 (HU.out.later HW3.out)).mono ?_
        rintro e w4 ⟨rfl, hb4⟩
        have HW4 := Lib.hid (HW3.out.trans (hb4.mono HW3.out.size))
        clear hb4
        go_wp2_with fail
        go_ret
        exact ⟨rfl, HW4.out⟩
      | false =>
        have HO := Lib.hid (show OpenI kind l m 0 from by
          obtain ⟨j, x, h1, h2⟩ := next_opens HNE.out HK.out.1 HK.out.2 (HR.out.trans HR0.out) HM.out
          exact ⟨j, x, Nat.zero_le _, h1, h2⟩)
        obtain ⟨g, hg⟩ : ∃ g, w3.heap.size = g := ⟨_, rfl⟩
        obtain ⟨w4, hw4⟩ : ∃ w4, w4 = w3.alloc (.cells signV 9) := ⟨_, rfl⟩
        have HCS := Lib.hid (show ∀ (i : Nat) (x : UInt8), signs[i]? = some x → w4.cell? ⟨g, i, none⟩ = some (.string (strOf [x])) from fun i x hx => by rw [hw4]; exact sign_cell i x hx g hg)
        have HZ4 := Lib.hid (show g < w4.heap.size from by rw [hw4, World.size_alloc]; omega)
        have HB4 := Lib.hid (show Below w3.heap.size w3 w4 from by rw [hw4]; exact (Below.refl _ w3).alloc (Nat.le_refl _) _)
        have HW4 := Lib.hid (HW3.out.trans (HB4.out.mono HW3.out.size))
        have HG := Lib.hid hg
        have HWQ := Lib.hid hw4
        clear hg hw4
        go_wp2_with fail
        try rw [HG.out]
        go_loopw [45] (fun i wr => ∃ k : Nat, i = .int .i64 k ∧ Hid (OpenI kind l m k) ∧ Hid (Below w4.heap.size w4 wr)) (fun i _ => 7 - (intOf i).toNat)
        case atStart => exact ⟨0, rfl, HO, Lib.hid (by rw [HWQ.out]; exact Below.refl _ _)⟩
        case round =>
          obtain ⟨k, rfl, HI, HWR⟩ := hrel
          have hk7 := HI.out.lt
          obtain ⟨x, hx⟩ : ∃ x, signs[k]? = some x := ⟨_, List.getElem?_eq_getElem hk7⟩
          have hcell : wr.cell? ⟨g, k, none⟩ = some (.string (strOf [x])) := (HWR.out.cell (p := ⟨g, k, none⟩) HZ4.out).trans (HCS.out k x hx)
          have HX := Lib.hid hx
          obtain ⟨q, hq⟩ : ∃ q, (nextP kind usualT (l ++ [x]) true).1 = q := ⟨_, rfl⟩
          have HQ := Lib.hid (open_next HK.out.1 HK.out.2 x hq)
          have HQ1 := Lib.hid hq
          have HWN := Lib.hid (HW4.out.trans (HWR.out.mono HW4.out.size))
          have HSZ := Lib.hid (show (strOf l ++ strOf [x]).size = l.length + 1 from by rw [strOf_app, strOf_size, List.length_append]; rfl)
          have HLST := Lib.hid (show (strOf l ++ strOf [x]).data.toList = l ++ [x] from by rw [strOf_app]; rfl)
          have hlim : ¬ 9223372036854775807 < (strOf l).size + (strOf [x]).size := by rw [strOf_size, strOf_size]; have := HS.out; have := HL.out; simp only [List.length_cons, List.length_nil]; omega
          have hmx : (strOf l ++ strOf [x]).size ≤ maxLen := by rw [HSZ.out]; unfold maxLen; have := HS.out; have := HL.out; omega
          have HUR := Lib.hid (show UsualAt wr.drew from HU.out.later (Below.drew HWN.out))
          have HBR := Lib.hid (show BytesAt wr.drew w.heap.size A n c l from RowAt.below HB.out (Below.drew HWN.out))
          have hsD := run_string_bytes (P := Tryd.prog) (w := wr.drew) 23 9 5 Tryd.underlying23 Tryd.underlying5 Tryd.underlying9 HBR.out
          obtain ⟨cA, wA, hbA, htA, hzA, hbbA⟩ := run_bytes_new (P := Tryd.prog) wr.drew 9 23 5 (strOf l ++ strOf [x]) Tryd.underlying9 Tryd.underlying23 Tryd.underlying5 hmx
          rw [ByteArray.size_append] at hbA htA
          have HTA := Lib.hid (show BytesAt wA wA.heap.size (some ⟨wr.heap.size, 0, none⟩) ((strOf l).size + (strOf [x]).size) cA (l ++ [x]) from by rw [hzA, ← HLST.out]; exact htA)
          have HWA := Lib.hid ((Below.drew HWN.out).trans (hbbA.mono (Below.drew HWN.out).size))
          have HWRA := Lib.hid ((Below.drew HWR.out).trans (hbbA.mono (Below.drew HWR.out).size))
          have HUA := Lib.hid (show UsualAt wA from HU.out.later HWA.out)
          have HMX := Lib.hid hmx
          have HLL := Lib.hid (show (l ++ [x]).length ≤ 1000 from by rw [List.length_append]; have := HS.out; have := HL.out; simp only [List.length_cons, List.length_nil]; omega)
          clear hx hq htA hzA hbbA hmx
          go_wp2_with fail
          go_region_with (first
            | (go_at_call 18; (with_reducible refine (susual_any wr.drew HUR.out).mono ?_); rintro e w5 ⟨A5, c5, rfl, ht5, hb5⟩; have HT5 := Lib.hid ht5; have HB5 := Lib.hid hb5; have HW5 := Lib.hid ((Below.drew HWN.out).trans (hb5.mono (Below.drew HWN.out).size)); have hs5 := run_string_bytes (P := Tryd.prog) (w := w5) 23 9 5 Tryd.underlying23 Tryd.underlying5 Tryd.underlying9 (show BytesAt w5 w.heap.size A n c l from RowAt.below HB.out HW5.out); obtain ⟨c6, w6, hb6, ht6, hz6, hbb6⟩ := run_bytes_new (P := Tryd.prog) w5 9 23 5 (strOf l ++ strOf [x]) Tryd.underlying9 Tryd.underlying23 Tryd.underlying5 HMX.out; rw [ByteArray.size_append] at hb6 ht6; have HT6 := Lib.hid (show BytesAt w6 w6.heap.size (some ⟨w5.heap.size, 0, none⟩) ((strOf l).size + (strOf [x]).size) c6 (l ++ [x]) from by rw [hz6, ← HLST.out]; exact ht6); have HW6 := Lib.hid (HW5.out.trans (hbb6.mono HW5.out.size)); have HWR6 := Lib.hid (((Below.drew HWR.out).trans (HB5.out.mono (Below.drew HWR.out).size)).trans (hbb6.mono (((Below.drew HWR.out).trans (HB5.out.mono (Below.drew HWR.out).size)).size))); have HTR6 := Lib.hid (show RangesAt w6 w6.heap.size A5 51 c5 usualT from RowAt.mono (RowAt.below HT5.out hbb6) hbb6.size); clear ht5 hb5 ht6 hz6 hbb6)
            | (go_at_call 18; (with_reducible refine (susual_any wA HUA.out).mono ?_); rintro e w6 ⟨A5, c5, rfl, ht5, hb5⟩; have HTR6 := Lib.hid ht5; have HWR6 := Lib.hid (HWRA.out.trans (hb5.mono HWRA.out.size)); have HW6 := Lib.hid (HWA.out.trans (hb5.mono HWA.out.size)); have HT6 := Lib.hid (show BytesAt w6 w6.heap.size (some ⟨wr.heap.size, 0, none⟩) ((strOf l).size + (strOf [x]).size) cA (l ++ [x]) from RowAt.mono (RowAt.below HTA.out hb5) hb5.size); clear ht5 hb5)
            | (go_at_call 16; (with_reducible refine (next_any kind true w6 HT6.out HTR6.out (by omega) HLL.out HQ.out).mono ?_); rintro e w7 ⟨rfl, hb7⟩; have HW7 := Lib.hid (HW6.out.trans (hb7.mono HW6.out.size)); have HWR7 := Lib.hid (HWR6.out.trans (hb7.mono HWR6.out.size)); clear hb7))
          all_goals
            by_cases hqm : q = m
            · have HIN := Lib.hid (show OpenI kind l m (k + 1) from HI.out.next HX.out (HQ1.out.trans hqm))
              have hqb : ((q : Int) == (m : Int)) = true := beq_yes (by omega)
              have hqb' : ((q : Int) != (m : Int)) = false := bne_no (by omega)
              clear hqm
              go_wp2_with fail
              go_roundw
              case rel => exact ⟨k + 1, by go_num, HIN, HWR7⟩
              case measure => show 7 - ((k : Int) + 1).toNat < 7 - ((k : Int)).toNat; omega
            · have hqb : ((q : Int) == (m : Int)) = false := beq_no (by omega)
              have hqb' : ((q : Int) != (m : Int)) = true := bne_yes (by omega)
              clear hqm
              go_wp2_with fail
              refine (fixed12 w7 (HU.out.later HW7.out)).mono ?_
              rintro e w8 ⟨rfl, hb8⟩
              have HW8 := Lib.hid (HW7.out.trans (hb8.mono HW7.out.size))
              clear hb8
              go_wp2_with fail
              go_ret
              exact ⟨rfl, HW8.out⟩
    · have hRz : (0 : Int) < (R : Int) := by omega
      clear hR0
      go_wp2_with fail
      refine (fixed12 w1 (HU.out.later HW1.out)).mono ?_
      rintro e w2 ⟨rfl, hb2⟩
      have HW2 := Lib.hid (HW1.out.trans (hb2.mono HW1.out.size))
      clear hb2
      go_wp2_with fail
      go_ret
      exact ⟨rfl, HW2.out⟩
end Go.Proofs.YtkiggpbmlkfdpaaDoor
