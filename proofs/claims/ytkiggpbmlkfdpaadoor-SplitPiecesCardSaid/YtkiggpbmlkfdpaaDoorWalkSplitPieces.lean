/- The walk of SplitPieces: true for every input. -/
import Derived.Test.YtkiggpbmlkfdpaaDoorSplitFixed
namespace Go.Proofs.YtkiggpbmlkfdpaaDoor
open Go.RowKit
set_option linter.unusedVariables false
set_option maxRecDepth 100000 in
set_option maxHeartbeats 4000000 in
theorem walkSplitPieces (w : World) (hU : UsualAt w) (kind : Int) {At A : Option Addr} {nt ct n c : Nat} {t : List Rg} {l : List Int} (ht : RangesAt w w.heap.size At nt ct t) (h : IntsAt w w.heap.size A n c l) (final : Bool) :
    Calls Tryd.prog 11 #[.int .i64 kind, .slice At nt ct, .slice A n c, .bool final] w fun e w' => e = .returned (.bool true) ∧ Below w.heap.size w w' := by
  have hcap := ht.2.2.1
  have hcn := ht.2.1
  have hcap' := h.2.2.1
  have hcn' := h.2.1
  unfold maxLen at hcap hcap'
  obtain ⟨o, ho⟩ : ∃ o, (decide (80 < nt) || decide (120 < n)) = o := ⟨_, rfl⟩
  have HO := Lib.hid ho
  have HU := Lib.hid hU
  have HT := Lib.hid ht
  have HB := Lib.hid h
  have HL := Lib.hid h.len
  clear ho hU ht h
  cases o with
  | true =>
    go_enter Tryd.func11, Tryd.ntmps11
    go_wp2_with fail
    refine (great13 w HO.out (by omega) (by omega)).mono ?_
    rintro e w' ⟨rfl, rfl⟩
    go_wp2_with fail
    refine (fixed13 w HU.out).mono ?_
    rintro e w' ⟨rfl, hb⟩
    have HE := Lib.hid hb
    go_wp2_with fail
    go_ret
    exact ⟨rfl, HE.out⟩
  | false =>
    have hsm := HO.out
    rw [Bool.or_eq_false_iff, decide_eq_false_iff_not, decide_eq_false_iff_not] at hsm
    have HS := Lib.hid (show nt ≤ 80 ∧ n ≤ 120 from by omega)
    obtain ⟨p, hp⟩ : ∃ p, splitL kind t l final = p := ⟨_, rfl⟩
    have HP := Lib.hid hp
    have hal : Below w.heap.size w (w.alloc (.cells #[] 3)) := (Below.refl _ w).alloc (Nat.le_refl _) _
    have HAL := Lib.hid hal
    have HO0 := Lib.hid (own_empty w 3 1)
    have HX1 := Lib.hid (show IntsAt (w.alloc (.cells #[] 3)) (w.alloc (.cells #[] 3)).heap.size A n c l from RowAt.mono (RowAt.below HB.out hal) hal.size)
    have hz1 : w.heap.size ≤ (w.alloc (.cells #[] 3)).heap.size := by simp
    clear hsm hp hal
    go_enter Tryd.func11, Tryd.ntmps11
    go_wp2_with fail
    refine (great13 w HO.out (by omega) (by omega)).mono ?_
    rintro e w' ⟨rfl, rfl⟩
    go_wp2_with (at_builtin; refine wpList_append_row rfl (.tmp 16) (.tmp 17) _ rfl w.heap.size 3 _ 1 8 Tryd.underlying37 infoInt13 rfl (by omega) _ 0 [] rfl HO0.out _ A n c (intsV l) rfl HX1.out one_ints n (Nat.zero_add _) (intsV l) rfl (by unfold maxLen; have := HS.out; omega) (by have := HS.out; omega) hz1 ?_; intro A3 c3 w3 hown3 hb3 hg3; (have HI3 := Lib.hid (show IntsAt w3 w3.heap.size A3 n c3 l from RowAt.of_own hown3)); (have HW3 := Lib.hid (HAL.out.trans hb3)); clear hown3 hb3 hg3)
    refine (split_as kind final w3 (RowAt.mono (RowAt.below HT.out HW3.out) HW3.out.size) HI3.out (by have := HS.out; omega) (by have := HS.out; omega) HP.out).mono ?_
    rintro e w4 ⟨A4, c4, rfl, hp4, hb4⟩
    have HP4 := Lib.hid hp4
    have HW4 := Lib.hid (HW3.out.trans (hb4.mono HW3.out.size))
    have HI4 := Lib.hid (show IntsAt w4 w4.heap.size A3 n c3 l from RowAt.mono (RowAt.below HI3.out hb4) hb4.size)
    have HX4 := Lib.hid (show IntsAt w4 w4.heap.size A n c l from RowAt.mono (RowAt.below HB.out HW4.out) HW4.out.size)
    have hc3 := HI4.out.2.1
    have hc3m := HI4.out.2.2.1
    unfold maxLen at hc3m
    clear hp4 hb4
    go_wp2_with fail
    go_loopw [26] (fun i wr => ∃ k q : Nat, k ≤ n ∧ i = .int .i64 k ∧ wr = w4.drewN q) (fun i _ => n - (intOf i).toNat)
    case atStart => exact ⟨0, 0, Nat.zero_le _, rfl, rfl⟩
    case round =>
      obtain ⟨k, q, hk, rfl, rfl⟩ := hrel
      by_cases hlt : k < n
      · obtain ⟨b, off, rfl, hb, hc⟩ := HI4.out.cells (by omega)
        obtain ⟨b', off', rfl, hb', hc'⟩ := HX4.out.cells (by omega)
        have hkl : k < l.length := by rw [← HL.out]; exact hlt
        obtain ⟨s, hs⟩ : ∃ s, l[k]'hkl = s := ⟨_, rfl⟩
        have c1 : w4.cell? ⟨b, off + k, none⟩ = some (.int .i64 s) := by rw [hc k hkl, hs]
        have c2 : w4.cell? ⟨b', off' + k, none⟩ = some (.int .i64 s) := by rw [hc' k hkl, hs]
        have hq : (s != s) = false := bne_no rfl
        clear hc hc' hs
        go_wp2_with fail
        go_quiet (fail)
        go_wp2_with fail
        go_roundw
        case rel => exact ⟨k + 1, q + nq, by omega, rfl, rfl⟩
        case measure => show n - ((k : Int) + 1).toNat < n - ((k : Int)).toNat; omega
      · have hke : k = n := by omega
        have HKE := Lib.hid hke
        have HW5 := Lib.hid (below_drewN' (n := q) HW4.out)
        have HP5 := Lib.hid (show PiecesAt (w4.drewN q) (w4.drewN q).heap.size A4 p.length c4 p from RowAt.drewN HP4.out q)
        clear hke
        go_wp2_with fail
        refine (fixed13 (w4.drewN q) (HU.out.later HW5.out)).mono ?_
        rintro e w6 ⟨rfl, hb6⟩
        have HW6 := Lib.hid (HW5.out.trans (hb6.mono HW5.out.size))
        have HP6 := Lib.hid (show PiecesAt w6 w6.heap.size A4 p.length c4 p from RowAt.mono (RowAt.below HP5.out hb6) hb6.size)
        clear hb6
        go_wp2_with fail
        refine (rsplit_as kind final w6 (RowAt.mono (RowAt.below HT.out HW6.out) HW6.out.size) (RowAt.mono (RowAt.below HB.out HW6.out) HW6.out.size) (by have := HS.out; omega) HP.out).mono ?_
        rintro e w7 ⟨A7, c7, rfl, hp7, hb7⟩
        have HP7 := Lib.hid hp7
        have HQ7 := Lib.hid (show PiecesAt w7 w7.heap.size A4 p.length c4 p from RowAt.mono (RowAt.below HP6.out hb7) hb7.size)
        have HW7 := Lib.hid (HW6.out.trans (hb7.mono HW6.out.size))
        clear hp7 hb7
        go_wp2_with fail
        refine (sameP_as (o := true) w7 HQ7.out HP7.out (decide_eq_true rfl)).mono ?_
        rintro e w8 ⟨rfl, hb8⟩
        have HW8 := Lib.hid (HW7.out.trans (hb8.mono HW7.out.size))
        clear hb8
        go_wp2_with fail
        refine (decided_any kind w8 (RowAt.mono (RowAt.below HT.out HW8.out) HW8.out.size) (RowAt.mono (RowAt.below HB.out HW8.out) HW8.out.size) (by have := HS.out; omega) (by have := HS.out; omega)).mono ?_
        rintro e w9 ⟨rfl, hb9⟩
        have HW9 := Lib.hid (HW8.out.trans (hb9.mono HW8.out.size))
        clear hb9
        go_wp2_with fail
        refine (rdecided_any kind w9 (RowAt.mono (RowAt.below HT.out HW9.out) HW9.out.size) (RowAt.mono (RowAt.below HB.out HW9.out) HW9.out.size) (by have := HS.out; omega)).mono ?_
        rintro e w10 ⟨rfl, hb10⟩
        have HW10 := Lib.hid (HW9.out.trans (hb10.mono HW9.out.size))
        have hee : ((decL (splitL kind t l false) : Int) == (decL (splitL kind t l false) : Int)) = true := beq_self_eq_true _
        clear hb10
        go_wp2_with fail
        go_ret
        first
          | exact ⟨rfl, HW10.out⟩
          | exact ⟨by simp, HW10.out⟩
end Go.Proofs.YtkiggpbmlkfdpaaDoor
