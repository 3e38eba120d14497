/- The walk of SplitFew: true for every input. -/
import Derived.Test.YtkiggpbmlkfdpaaDoorSplitFixed
namespace Go.Proofs.YtkiggpbmlkfdpaaDoor
open Go.RowKit
set_option linter.unusedVariables false
theorem openL_take (p : List (Nat × Bool)) (k : Nat) (h : k < p.length) : openL (p.take (k + 1)) = openL (p.take k) + (if p[k].2 = true then 0 else 1) := by
  rw [List.take_add_one, List.getElem?_eq_getElem h, open_app]
  simp only [Option.toList, openL, Nat.add_zero]
theorem openL_le : ∀ p : List (Nat × Bool), openL p ≤ p.length
  | [] => Nat.le_refl _
  | (a, b) :: p => by have := openL_le p; rw [openL, List.length_cons]; split <;> omega
theorem split_few_open (kind : Int) (text : List Int) : openL (splitL kind usualT text false) ≤ mostF (restOf (lastT [] text)) := by
  unfold splitL
  split
  · exact Nat.zero_le _
  · rename_i h
    exact rawT_few (by omega) (by omega) text []
theorem lastT_len : ∀ (text : List Int) (acc : List UInt8), (lastT acc text).length ≤ acc.length + text.length
  | [], acc => by rw [lastT]; omega
  | s :: r, acc => by
    rw [lastT]
    split
    · have := lastT_len r []; simp only [List.length_nil, List.length_cons] at *; omega
    · have := lastT_len r (acc ++ [byteOf s]); simp only [List.length_append, List.length_nil, List.length_cons] at *; omega
set_option maxRecDepth 100000 in
set_option maxHeartbeats 4000000 in
theorem walkSplitFew (w : World) (hU : UsualAt w) (kind : Int) {A : Option Addr} {n c : Nat} {l : List Int} (h : IntsAt w w.heap.size A n c l) :
    Calls Tryd.prog 10 #[.int .i64 kind, .slice A n c] w fun e w' => e = .returned (.bool true) ∧ Below w.heap.size w w' := by
  have hcap' := h.2.2.1
  have hcn' := h.2.1
  unfold maxLen at hcap'
  have HU := Lib.hid hU
  have HB := Lib.hid h
  have HL := Lib.hid h.len
  clear hU h
  by_cases h1 : 120 < n
  · have h1' : (120 : Int) < (n : Int) := by omega
    go_enter Tryd.func10, Tryd.ntmps10
    go_wp2_with fail
    refine (fixed13 w HU.out).mono ?_
    rintro e w' ⟨rfl, hb⟩
    have HE := Lib.hid hb
    go_wp2_with fail
    go_ret
    exact ⟨rfl, HE.out⟩
  · have h1' : ¬ (120 : Int) < (n : Int) := by omega
    have HS := Lib.hid (show n ≤ 120 from by omega)
    obtain ⟨p, hp⟩ : ∃ p, splitL kind usualT l false = p := ⟨_, rfl⟩
    obtain ⟨R, hR⟩ : ∃ R, restOf (lastT [] l) = R := ⟨_, rfl⟩
    have hop := split_few_open kind l
    have hpl := (split_few (kind := kind) (t := usualT) (text := l) (fin := false)).1
    rw [hp, hR] at hop
    rw [hp] at hpl
    have HP := Lib.hid hp
    have HR := Lib.hid hR
    have HOP := Lib.hid hop
    have HPL := Lib.hid (show p.length ≤ 120 from by have := HL.out; have := HS.out; omega)
    clear hp hR hop hpl
    go_enter Tryd.func10, Tryd.ntmps10
    go_wp2_with fail
    refine (usual_any w HU.out).mono ?_
    rintro e w1 ⟨At, ct, rfl, ht1, hb1⟩
    have HT1 := Lib.hid ht1
    have HB1 := Lib.hid hb1
    have HX1 := Lib.hid (show IntsAt w1 w1.heap.size A n c l from RowAt.mono (RowAt.below HB.out hb1) hb1.size)
    clear ht1 hb1
    go_wp2_with fail
    refine (split_as kind false w1 HT1.out HX1.out (by omega) (by have := HS.out; omega) HP.out).mono ?_
    rintro e w2 ⟨A2, c2, rfl, hpa, hb2⟩
    have HPA := Lib.hid hpa
    have HW2 := Lib.hid (HB1.out.trans (hb2.mono HB1.out.size))
    have hcn2 := hpa.2.1
    have hcm2 := hpa.2.2.1
    unfold maxLen at hcm2
    clear hpa hb2
    go_wp2_with fail
    go_loopw [5, 17] (fun s i wr => ∃ k : Nat, i = .int .i64 k ∧ k ≤ p.length ∧ s = .int .i64 (openL (p.take k) : Int) ∧ Hid (Below w2.heap.size w2 wr)) (fun _ i _ => p.length - (intOf i).toNat)
    case atStart => exact ⟨0, rfl, Nat.zero_le _, rfl, Lib.hid (Below.refl _ _)⟩
    case round =>
      obtain ⟨k, rfl, hk, rfl, HW⟩ := hrel
      by_cases hlt : k < p.length
      · obtain ⟨b, off, rfl, hb, hc⟩ := HPA.out.cells (by omega)
        obtain ⟨⟨a, d⟩, hx1⟩ : ∃ x, p[k]'hlt = x := ⟨_, rfl⟩
        have c1 : wr.cell? ⟨b, off + k * 2, none⟩ = some (.int .i64 (a : Int)) := by rw [HW.out.cell (p := ⟨b, off + k * 2, none⟩) hb, (hc k hlt).1, hx1]
        have c2 : wr.cell? ⟨b, off + k * 2 + 1, none⟩ = some (.bool d) := by rw [HW.out.cell (p := ⟨b, off + k * 2 + 1, none⟩) hb]; have := (hc k hlt).2; rw [hx1] at this; exact this
        have hdt := openL_take p k hlt
        rw [hx1] at hdt
        have hol : openL (p.take k) ≤ 120 := by have := openL_le (p.take k); rw [List.length_take] at this; have := HPL.out; omega
        have HDT := Lib.hid hdt
        have HAL := Lib.hid (fun o => HW.out.alloc HW.out.size o)
        clear hc hx1 hdt
        cases d with
        | true =>
          go_wp2_with fail
          go_roundw
          case rel => exact ⟨k + 1, by go_num, by omega, by rw [HDT.out, if_pos rfl]; rfl, Lib.hid (HAL.out _)⟩
          case measure => show p.length - ((k : Int) + 1).toNat < p.length - ((k : Int)).toNat; omega
        | false =>
          go_wp2_with fail
          go_roundw
          case rel => exact ⟨k + 1, by go_num, by omega, by rw [HDT.out, if_neg (by simp)]; go_num, Lib.hid (HAL.out _)⟩
          case measure => show p.length - ((k : Int) + 1).toNat < p.length - ((k : Int)).toNat; omega
      · have HE := Lib.hid (show p.take k = p from List.take_of_length_le (by omega))
        obtain ⟨q, hq⟩ : ∃ q, openL (p.take k) = q := ⟨_, rfl⟩
        have HQ := Lib.hid (show q ≤ mostF R from by rw [← hq, HE.out]; exact HOP.out)
        have hq4 : (q : Int) ≤ 4 := by have := HQ.out; unfold mostF at this; split at this <;> omega
        have HW3 := Lib.hid (HW2.out.trans (HW.out.mono HW2.out.size))
        have hke : k = p.length := by omega
        have HKE := Lib.hid hke
        clear hke
        rw [hq]
        clear hq
        go_wp2_with fail
        refine (fixed13 wr (HU.out.later HW3.out)).mono ?_
        rintro e w4 ⟨rfl, hb4⟩
        have HW4 := Lib.hid (HW3.out.trans (hb4.mono HW3.out.size))
        clear hb4
        by_cases h2 : q ≤ 2
        · have h2' : (q : Int) ≤ 2 := by omega
          go_wp2_with fail
          go_ret
          exact ⟨rfl, HW4.out⟩
        · have h2' : ¬ (q : Int) ≤ 2 := by omega
          have hR0 : (0 : Int) < (R : Int) := by have := HQ.out; unfold mostF at this; split at this <;> omega
          have hR1 : decide (0 < R) = true := decide_eq_true (by omega)
          have hqd : decide ((q : Int) ≤ 2) = false := decide_eq_false h2'
          go_wp2_with fail
          refine (rlast_any w4 (RowAt.mono (RowAt.below HB.out HW4.out) HW4.out.size) (by have := HS.out; omega)).mono ?_
          rintro e w5 ⟨rfl, hb5⟩
          have HW5 := Lib.hid (HW4.out.trans (hb5.mono HW4.out.size))
          clear hb5
          go_wp2_with fail
          refine (rrest_any (strOf (lastT [] l)) w5 (by rw [strOf_size]; have := lastT_len l []; have := HS.out; have := HL.out; simp only [List.length_nil] at *; omega)).mono ?_
          rw [strOf_list, HR.out]
          rintro e w6 ⟨rfl, hb6⟩
          have HW6 := Lib.hid (HW5.out.trans (hb6.mono HW5.out.size))
          clear hb6
          go_wp2_with fail
          go_ret
          exact ⟨rfl, HW6.out⟩
end Go.Proofs.YtkiggpbmlkfdpaaDoor
