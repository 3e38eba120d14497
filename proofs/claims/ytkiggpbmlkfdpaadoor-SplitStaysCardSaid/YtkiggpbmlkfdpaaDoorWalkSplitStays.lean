/- The walk of SplitStays: true for every input. -/
import Derived.Test.YtkiggpbmlkfdpaaDoorSplitFixed
namespace Go.Proofs.YtkiggpbmlkfdpaaDoor
open Go.RowKit
set_option linter.unusedVariables false
theorem split_stays_at {kind : Int} {t : List Rg} {l d : List Int} {fin : Bool} {i a : Nat} (h : (splitL kind t l false)[i]? = some (a, true)) : (splitL kind t (l ++ d) fin)[i]? = some (a, true) := by
  unfold splitL at h ⊢
  split at h
  · simp at h
  · rename_i g
    rw [if_neg g]
    have hv : mayT t = true := by
      cases h2 : mayT t with
      | true => rfl
      | false => exact absurd (.inr (.inr h2)) g
    exact (rawT_stays (by omega) (by omega) hv d l []).cum i a h
theorem split_stays_dec (kind : Int) (t : List Rg) (l d : List Int) : decL (splitL kind t l false) ≤ decL (splitL kind t (l ++ d) false) := by
  unfold splitL
  split
  · exact Nat.le_refl _
  · rename_i g
    have hv : mayT t = true := by
      cases h2 : mayT t with
      | true => rfl
      | false => exact absurd (.inr (.inr h2)) g
    exact (rawT_stays (fin := false) (by omega) (by omega) hv d l []).dec
set_option maxRecDepth 100000 in
set_option maxHeartbeats 4000000 in
theorem walkSplitStays (w : World) (hU : UsualAt w) (kind : Int) {At A A2 : Option Addr} {nt ct n c n2 c2 : Nat} {t : List Rg} {l d : List Int} (ht : RangesAt w w.heap.size At nt ct t) (h : IntsAt w w.heap.size A n c l) (hd : IntsAt w w.heap.size A2 n2 c2 d) (final : Bool) :
    Calls Tryd.prog 12 #[.int .i64 kind, .slice At nt ct, .slice A n c, .slice A2 n2 c2, .bool final] w fun e w' => e = .returned (.bool true) ∧ Below w.heap.size w w' := by
  have hcap := ht.2.2.1
  have hcn := ht.2.1
  have hcap' := h.2.2.1
  have hcn' := h.2.1
  have hcap2 := hd.2.2.1
  have hcn2 := hd.2.1
  unfold maxLen at hcap hcap' hcap2
  obtain ⟨o, ho⟩ : ∃ o, (decide (80 < nt) || decide (120 < n)) = o := ⟨_, rfl⟩
  have HO := Lib.hid ho
  have HU := Lib.hid hU
  have HT := Lib.hid ht
  have HB := Lib.hid h
  have HD := Lib.hid hd
  have HL := Lib.hid h.len
  have HLD := Lib.hid hd.len
  clear ho hU ht h hd
  by_cases hbig : o = true ∨ 60 < n ∨ 60 < n2
  · have HBG := Lib.hid hbig
    have hfix : ∀ W, W = w → Calls Tryd.prog 24 #[] W fun e w' => e = .returned (.bool true) ∧ Below w.heap.size w w' := fun W e => by subst e; exact fixed13 _ HU.out
    have HF := Lib.hid hfix
    clear hbig hfix
    cases o with
    | true =>
      go_enter Tryd.func12, Tryd.ntmps12
      go_wp2_with fail
      refine (great13 w HO.out (by omega) (by omega)).mono ?_
      rintro e w' ⟨rfl, rfl⟩
      go_wp2_with fail
      refine (HF.out _ rfl).mono ?_
      rintro e w' ⟨rfl, hb⟩
      have HE := Lib.hid hb
      go_wp2_with fail
      go_ret
      exact ⟨rfl, HE.out⟩
    | false =>
      by_cases h1 : 60 < n
      · have h1' : (60 : Int) < (n : Int) := by omega
        go_enter Tryd.func12, Tryd.ntmps12
        go_wp2_with fail
        refine (great13 w HO.out (by omega) (by omega)).mono ?_
        rintro e w' ⟨rfl, rfl⟩
        go_wp2_with fail
        refine (HF.out _ rfl).mono ?_
        rintro e w' ⟨rfl, hb⟩
        have HE := Lib.hid hb
        go_wp2_with fail
        go_ret
        exact ⟨rfl, HE.out⟩
      · have h1' : ¬ (60 : Int) < (n : Int) := by omega
        have h2 : 60 < n2 := by rcases HBG.out with h | h | h; cases h; exact absurd h h1; exact h
        have h2' : (60 : Int) < (n2 : Int) := by omega
        go_enter Tryd.func12, Tryd.ntmps12
        go_wp2_with fail
        refine (great13 w HO.out (by omega) (by omega)).mono ?_
        rintro e w' ⟨rfl, rfl⟩
        go_wp2_with fail
        refine (HF.out _ rfl).mono ?_
        rintro e w' ⟨rfl, hb⟩
        have HE := Lib.hid hb
        go_wp2_with fail
        go_ret
        exact ⟨rfl, HE.out⟩
  · have hof : o = false := by cases o with | true => exact absurd (.inl rfl) hbig | false => rfl
    have h1 : ¬ 60 < n := fun e => hbig (.inr (.inl e))
    have h2 : ¬ 60 < n2 := fun e => hbig (.inr (.inr e))
    have h1' : ¬ (60 : Int) < (n : Int) := by omega
    have h2' : ¬ (60 : Int) < (n2 : Int) := by omega
    subst hof
    have hsm := HO.out
    rw [Bool.or_eq_false_iff, decide_eq_false_iff_not, decide_eq_false_iff_not] at hsm
    have HS := Lib.hid (show nt ≤ 80 ∧ n ≤ 60 ∧ n2 ≤ 60 from by omega)
    obtain ⟨x, hx⟩ : ∃ x, splitL kind t l false = x := ⟨_, rfl⟩
    obtain ⟨y, hy⟩ : ∃ y, splitL kind t (l ++ d) final = y := ⟨_, rfl⟩
    have HX := Lib.hid hx
    have HY := Lib.hid hy
    have HST := Lib.hid (show ∀ i a, x[i]? = some (a, true) → y[i]? = some (a, true) from fun i a h => by rw [← hy]; rw [← hx] at h; exact split_stays_at h)
    have HDC := Lib.hid (split_stays_dec kind t l d)
    clear hx hy hbig hsm
    go_enter Tryd.func12, Tryd.ntmps12
    go_wp2_with fail
    refine (great13 w HO.out (by omega) (by omega)).mono ?_
    rintro e w' ⟨rfl, rfl⟩
    go_wp2_with fail
    refine (rjoin_any w HB.out HD.out (by have := HS.out; omega) (by have := HS.out; omega)).mono ?_
    rintro e w1 ⟨A1, c1, rfl, hi1, hb1⟩
    have HI1 := Lib.hid hi1
    have HW1 := Lib.hid hb1
    clear hi1 hb1
    go_wp2_with fail
    refine (split_as kind final w1 (RowAt.mono (RowAt.below HT.out HW1.out) HW1.out.size) HI1.out (by have := HS.out; omega) (by have := HS.out; omega) HY.out).mono ?_
    rintro e w2 ⟨A2', c2', rfl, hp2, hb2⟩
    have HP2 := Lib.hid hp2
    have HW2 := Lib.hid (HW1.out.trans (hb2.mono HW1.out.size))
    have HI2 := Lib.hid (show IntsAt w2 w2.heap.size A1 (n + n2) c1 (l ++ d) from RowAt.mono (RowAt.below HI1.out hb2) hb2.size)
    have hyc := hp2.2.1
    have hym := hp2.2.2.1
    unfold maxLen at hym
    clear hp2 hb2
    go_wp2_with fail
    refine (split_as kind false w2 (RowAt.mono (RowAt.below HT.out HW2.out) HW2.out.size) (RowAt.mono (RowAt.below HB.out HW2.out) HW2.out.size) (by have := HS.out; omega) (by have := HS.out; omega) HX.out).mono ?_
    rintro e w3 ⟨A3, c3, rfl, hp3, hb3⟩
    have HP3 := Lib.hid hp3
    have HQ3 := Lib.hid (show PiecesAt w3 w3.heap.size A2' y.length c2' y from RowAt.mono (RowAt.below HP2.out hb3) hb3.size)
    have HI3 := Lib.hid (show IntsAt w3 w3.heap.size A1 (n + n2) c1 (l ++ d) from RowAt.mono (RowAt.below HI2.out hb3) hb3.size)
    have HW3 := Lib.hid (HW2.out.trans (hb3.mono HW2.out.size))
    have hxc := hp3.2.1
    have hxm := hp3.2.2.1
    unfold maxLen at hxm
    clear hp3 hb3
    go_wp2_with fail
    go_loopw [42] (fun i wr => ∃ k : Nat, k ≤ x.length ∧ i = .int .i64 k ∧ Hid (Below w3.heap.size w3 wr)) (fun i _ => x.length - (intOf i).toNat)
    case atStart => exact ⟨0, Nat.zero_le _, rfl, Lib.hid (Below.refl _ _)⟩
    case round =>
      obtain ⟨k, hk, rfl, HW⟩ := hrel
      by_cases hlt : k < x.length
      · obtain ⟨b, off, rfl, hb, hc⟩ := HP3.out.cells (by omega)
        obtain ⟨⟨a, dd⟩, hx1⟩ : ∃ z, x[k]'hlt = z := ⟨_, rfl⟩
        have c1' : wr.cell? ⟨b, off + k * 2, none⟩ = some (.int .i64 (a : Int)) := by rw [HW.out.cell (p := ⟨b, off + k * 2, none⟩) hb, (hc k hlt).1, hx1]
        have c2'' : wr.cell? ⟨b, off + k * 2 + 1, none⟩ = some (.bool dd) := by rw [HW.out.cell (p := ⟨b, off + k * 2 + 1, none⟩) hb]; have := (hc k hlt).2; rw [hx1] at this; exact this
        obtain ⟨ob, hob⟩ : ∃ ob : Obj, ob = .cells #[.int .i64 (a : Int), .bool dd] 44 := ⟨_, rfl⟩
        have hn0 : (wr.alloc (.cells #[.int .i64 (a : Int), .bool dd] 44)).cell? ⟨wr.heap.size, 0, none⟩ = some (.int .i64 (a : Int)) := Lib.cell_of_heap (heap_alloc_new _ _) 0
        have hn1 : (wr.alloc (.cells #[.int .i64 (a : Int), .bool dd] 44)).cell? ⟨wr.heap.size, 1, none⟩ = some (.bool dd) := Lib.cell_of_heap (heap_alloc_new _ _) 1
        have HWA := Lib.hid (fun o => HW.out.alloc HW.out.size o)
        have hxk : x[k]? = some (a, dd) := by rw [List.getElem?_eq_getElem hlt, hx1]
        clear hc hx1
        cases dd with
        | false =>
          clear hxk
          go_wp2_with fail
          go_quiet (fail)
          go_wp2_with fail
          go_roundw
          case rel => exact ⟨k + 1, by omega, by go_num, Lib.hid (below_drewN' (n := nq) (HWA.out _))⟩
          case measure => show x.length - ((k : Int) + 1).toNat < x.length - ((k : Int)).toNat; omega
        | true =>
          have hyk := HST.out k a hxk
          obtain ⟨hky, hye⟩ := List.getElem?_eq_some_iff.1 hyk
          obtain ⟨b', off', rfl, hb', hc'⟩ := HQ3.out.cells (by omega)
          have hky1 : decide (y.length ≤ k) = false := decide_eq_false (by omega)
          have hky2 : decide ((y.length : Int) ≤ (k : Int)) = false := decide_eq_false (by omega)
          have e1 : (wr.alloc (.cells #[.int .i64 (a : Int), .bool true] 44)).cell? ⟨b', off' + k * 2, none⟩ = some (.int .i64 (a : Int)) := by
            rw [World.cell?_alloc_lt _ _ _ (by have := HW.out.size; show b' < _; omega), HW.out.cell (p := ⟨b', off' + k * 2, none⟩) hb', (hc' k hky).1, hye]
          have e2 : (wr.alloc (.cells #[.int .i64 (a : Int), .bool true] 44)).cell? ⟨b', off' + k * 2 + 1, none⟩ = some (.bool true) := by
            rw [World.cell?_alloc_lt _ _ _ (by have := HW.out.size; show b' < _; omega), HW.out.cell (p := ⟨b', off' + k * 2 + 1, none⟩) hb']; have := (hc' k hky).2; rw [hye] at this; exact this
          have hq := neq_piece (a := a) (b := a) (c := true) (d := true) (o := true) (decide_eq_true rfl)
          clear hxk hyk hye hc'
          go_wp2_with fail
          go_quiet (fail)
          go_wp2_with fail
          go_roundw
          case rel => exact ⟨k + 1, by omega, by go_num, Lib.hid (below_drewN' (n := nq) (HWA.out _))⟩
          case measure => show x.length - ((k : Int) + 1).toNat < x.length - ((k : Int)).toNat; omega
      · have hke : k = x.length := by omega
        have HKE := Lib.hid hke
        have HW4 := Lib.hid (HW3.out.trans (HW.out.mono HW3.out.size))
        have HI4 := Lib.hid (show IntsAt wr wr.heap.size A1 (n + n2) c1 (l ++ d) from RowAt.mono (RowAt.below HI3.out HW.out) HW.out.size)
        clear hke
        go_wp2_with fail
        refine (fixed13 wr (HU.out.later HW4.out)).mono ?_
        rintro e w5 ⟨rfl, hb5⟩
        have HW5 := Lib.hid (HW4.out.trans (hb5.mono HW4.out.size))
        have HI5 := Lib.hid (show IntsAt w5 w5.heap.size A1 (n + n2) c1 (l ++ d) from RowAt.mono (RowAt.below HI4.out hb5) hb5.size)
        clear hb5
        go_wp2_with fail
        refine (decided_any kind w5 (RowAt.mono (RowAt.below HT.out HW5.out) HW5.out.size) (RowAt.mono (RowAt.below HB.out HW5.out) HW5.out.size) (by have := HS.out; omega) (by have := HS.out; omega)).mono ?_
        rintro e w6 ⟨rfl, hb6⟩
        have HW6 := Lib.hid (HW5.out.trans (hb6.mono HW5.out.size))
        have HI6 := Lib.hid (show IntsAt w6 w6.heap.size A1 (n + n2) c1 (l ++ d) from RowAt.mono (RowAt.below HI5.out hb6) hb6.size)
        clear hb6
        go_wp2_with fail
        refine (decided_any kind w6 (RowAt.mono (RowAt.below HT.out HW6.out) HW6.out.size) HI6.out (by have := HS.out; omega) (by have := HS.out; omega)).mono ?_
        rintro e w7 ⟨rfl, hb7⟩
        have HW7 := Lib.hid (HW6.out.trans (hb7.mono HW6.out.size))
        clear hb7
        have hle : decide (decL (splitL kind t l false) ≤ decL (splitL kind t (l ++ d) false)) = true := decide_eq_true HDC.out
        have hle2 : decide ((decL (splitL kind t l false) : Int) ≤ (decL (splitL kind t (l ++ d) false) : Int)) = true := decide_eq_true (by have := HDC.out; omega)
        go_wp2_with fail
        go_ret
        first
          | exact ⟨rfl, HW7.out⟩
          | exact ⟨by simp, HW7.out⟩
end Go.Proofs.YtkiggpbmlkfdpaaDoor
