/- The walk of MergeParts: true for every input. -/
import Derived.Test.YtefhifmilmedhaaDoorMergeFixed
import Derived.Test.YtefhifmilmedhaaDoorMergeWrite
import Derived.Test.YtefhifmilmedhaaDoorMergeGreat
import Derived.Test.YtefhifmilmedhaaDoorMergePartsLaw
import Derived.Deep.RegionHeld3
import Derived.IntWalk
namespace Go.Proofs.YtefhifmilmedhaaDoor
open Go.RowKit
set_option linter.unusedVariables false

theorem back_rowsP {R : RowsI} (h : R.all mayW = true) : (R.map natW).map intRow = R := nats_back h
/-- The bytes ahead of the last of k + 1 feeds hold k feeds at most. -/
theorem count_early : ∀ (L : List (List UInt8)) (k a : Nat), (∀ s ∈ L, ∀ y ∈ s, y ≠ 10) → a < (feeds (L.take (k + 1))).length → ((feeds L).take a).count 10 ≤ k
  | [], k, a, _, h => by simp [feeds] at h
  | s :: r, k, a, hp, h => by
    have hs : s.count 10 = 0 := List.count_eq_zero.2 fun hm => hp s (by simp) 10 hm rfl
    rw [List.take_succ_cons, feeds] at h
    rw [feeds]
    by_cases h1 : a ≤ s.length
    · rw [List.take_append_of_le_length h1]
      have h2 : (s.take a).count 10 ≤ s.count 10 := List.Sublist.count_le _ (List.take_sublist _ _)
      omega
    · obtain ⟨b, rfl⟩ : ∃ b, a = s.length + (b + 1) := ⟨a - s.length - 1, by omega⟩
      rw [List.take_length_add_append, List.take_succ_cons, List.count_append, List.count_cons, hs]
      simp only [List.length_append, List.length_cons] at h
      cases k with
      | zero => simp [feeds] at h
      | succ k =>
        have := count_early r k b (fun t ht => hp t (by simp [ht])) (by omega)
        simp only [beq_self_eq_true, if_true]
        omega
theorem count_late (L : List (List UInt8)) (k : Nat) (hp : ∀ s ∈ L, ∀ y ∈ s, y ≠ 10) (hk : k < L.length) : ((feeds L).take (feeds (L.take (k + 1))).length).count 10 = k + 1 := by
  rw [← feeds_take, feeds_count _ fun s hs => hp s (List.mem_of_mem_take hs), List.length_take]
  omega
theorem place_le (L : List (List UInt8)) (k : Nat) : (feeds (L.take k)).length ≤ (feeds L).length := by
  have e : feeds L = feeds (L.take k) ++ feeds (L.drop k) := by rw [← feeds_app, List.take_append_drop]
  rw [e, List.length_append]; omega
theorem count_next {F : List UInt8} {a : Nat} (h : a < F.length) : (F.take (a + 1)).count 10 = (F.take a).count 10 + if F[a] = 10 then 1 else 0 := by
  rw [List.take_succ_eq_append_getElem h, List.count_append, List.count_singleton]
  simp
theorem tmod_p (cut n : Nat) : Int.tmod (cut : Int) ((n : Int) + 2) = ((cut % (n + 2) : Nat) : Int) := by
  rw [show ((n : Int) + 2) = ((n + 2 : Nat) : Int) by omega, Int.tmod_eq_emod_of_nonneg (by omega)]
  rfl
theorem pairsV_take (l : PairsL) (k : Nat) : (pairsV l).take (k * 2) = pairsV (l.take k) := by
  induction l generalizing k with
  | nil => simp [pairsV]
  | cons x l ih =>
    cases k with
    | zero => simp [pairsV]
    | succ k =>
      have e : pairsV (x :: l) = .string (strOf x.1) :: .string (strOf x.2) :: pairsV l := rfl
      have e2 : pairsV (x :: l.take k) = .string (strOf x.1) :: .string (strOf x.2) :: pairsV (l.take k) := rfl
      rw [List.take_succ_cons, e, e2, ← ih, show (k + 1) * 2 = k * 2 + 1 + 1 by omega]
      rfl
set_option maxRecDepth 100000 in
set_option maxHeartbeats 4000000 in
theorem walkMergeParts (w : World) (ht : Tab10 w) {A A2 : Option Addr} {n c m d : Nat} {R : List (List UInt8 × Int)} {Q : PairsL} (h : RowAt w w.heap.size 2 A n c (rowsI R)) (g : RowAt w w.heap.size 2 A2 m d (pairsV Q)) (cut : Int) (hc0 : 0 ≤ cut) (hc1 : cut ≤ 255) :
    Calls Tryd.prog 11 #[.agg #[.slice A n c, .slice A2 m d], .int .u8 cut] w fun e w' => e = .returned (.bool true) ∧ Below w.heap.size w w' := by
  have hcn := h.2.1
  have hcap := h.2.2.1
  unfold maxLen at hcap
  have hcn2 := g.2.1
  have hcap2 := g.2.2.1
  unfold maxLen at hcap2
  have HH := Lib.hid h
  have HL := Lib.hid (rows_len h)
  have HG := Lib.hid g
  have HM := Lib.hid (pairs_len g)
  have HT := Lib.hid ht
  clear h g ht
  obtain ⟨w0, hw0⟩ : ∃ w0, w.alloc (.cells #[.slice A n c, .slice A2 m d] 59) = w0 := ⟨_, rfl⟩
  have HB0 := Lib.hid (show Below w.heap.size w w0 from by rw [← hw0]; exact (Below.refl _ w).alloc (Nat.le_refl _) _)
  have HT0 := Lib.hid (show w0.heap[w.heap.size]? = some (.cells #[.slice A n c, .slice A2 m d] 59 (0, 0)) from by rw [← hw0]; exact heap_alloc_new w _)
  have HQ0 := Lib.hid hw0
  have HTB := Lib.hid (show ∀ W, Below w0.heap.size w0 W → W.heap[w.heap.size]? = some (.cells #[.slice A n c, .slice A2 m d] 59 (0, 0)) from fun W h => (h.block _ (Array.getElem?_eq_some_iff.1 HT0.out).1).trans HT0.out)
  have HR0 := Lib.hid (show ∀ W, Below w0.heap.size w0 W → RowAt W W.heap.size 2 A n c (rowsI R) from fun W h => RowAt.mono (RowAt.below HH.out (HB0.out.trans (h.mono HB0.out.size))) (HB0.out.trans (h.mono HB0.out.size)).size)
  have HP0 := Lib.hid (show ∀ W, Below w0.heap.size w0 W → RowAt W W.heap.size 2 A2 m d (pairsV Q) from fun W h => RowAt.mono (RowAt.below HG.out (HB0.out.trans (h.mono HB0.out.size))) (HB0.out.trans (h.mono HB0.out.size)).size)
  have HTT := Lib.hid (show ∀ W, Below w0.heap.size w0 W → Tab10 W from fun W h => tab_later HT.out (HB0.out.trans (h.mono HB0.out.size)))
  have HEND := Lib.hid (show ∀ W, Below w0.heap.size w0 W → Below w.heap.size w W from fun W h => HB0.out.trans (h.mono HB0.out.size))
  have HWW0 := Lib.hid (Below.refl w0.heap.size w0)
  clear hw0
  cases ho : okM R Q with
  | false =>
    have HO := Lib.hid ho
    clear ho
    go_enter Tryd.func11, Tryd.ntmps11
    go_wp2_with fail
    rw [HQ0.out]
    refine (mwrite_no w0 (HTT.out _ HWW0.out) (HR0.out _ HWW0.out) (HP0.out _ HWW0.out) HO).mono ?_
    rintro e w1 ⟨rfl, hb1⟩
    have HW1 := Lib.hid hb1
    obtain ⟨x0, x1, -, -⟩ := pair_reads (HTB.out _ hb1)
    clear hb1
    go_wp2_with fail
    refine (rgreat_any 20 64 w1 (HR0.out _ HW1.out) (HP0.out _ HW1.out)).mono ?_
    rintro e w2 ⟨o, rfl, hf, hb2⟩
    have HW2 := Lib.hid (HW1.out.trans (hb2.mono HW1.out.size))
    clear hf hb2
    cases o with
    | true =>
      go_wp2_with fail
      refine (fixed08 w2).mono ?_
      rintro e w3 ⟨rfl, hb3⟩
      have HW3 := Lib.hid (HW2.out.trans (hb3.mono HW2.out.size))
      clear hb3
      go_wp2_with fail
      go_ret
      exact ⟨rfl, HEND.out _ HW3.out⟩
    | false =>
      go_wp2_with fail
      refine (fixed08 w2).mono ?_
      rintro e w3 ⟨rfl, hb3⟩
      have HW3 := Lib.hid (HW2.out.trans (hb3.mono HW2.out.size))
      clear hb3
      go_wp2_with fail
      go_ret
      exact ⟨rfl, HEND.out _ HW3.out⟩
  | true =>
    have HO := Lib.hid ho
    have HOY := Lib.hid (okM_yes ho)
    obtain ⟨F, hF⟩ : ∃ F, fileM R Q = F := ⟨_, rfl⟩
    obtain ⟨z, hz⟩ : ∃ z, F.length = z := ⟨_, rfl⟩
    have HF := Lib.hid hF
    have HZ := Lib.hid hz
    clear ho hF hz
    go_enter Tryd.func11, Tryd.ntmps11
    go_wp2_with fail
    rw [HQ0.out]
    refine (mwrite_yes w0 (HTT.out _ HWW0.out) (HR0.out _ HWW0.out) (HP0.out _ HWW0.out) HO HF HZ).mono ?_
    rintro e w1 ⟨A3, c3, rfl, hbt, hb1⟩
    have HBT := Lib.hid hbt
    have HW1 := Lib.hid hb1
    obtain ⟨x0, x1, -, -⟩ := pair_reads (HTB.out _ hb1)
    clear hbt hb1
    go_wp2_with fail
    refine (rgreat_any 20 64 w1 (HR0.out _ HW1.out) (HP0.out _ HW1.out)).mono ?_
    rintro e w2 ⟨o, rfl, hf, hb2⟩
    have HW2 := Lib.hid (HW1.out.trans (hb2.mono HW1.out.size))
    have HBT2 := Lib.hid (show BytesAt w2 w2.heap.size A3 z c3 F from RowAt.mono (RowAt.below HBT.out hb2) hb2.size)
    have HFF := Lib.hid hf
    obtain ⟨y0, y1, -, -⟩ := pair_reads (HTB.out _ HW2.out)
    clear hf hb2 x0 x1
    cases o with
    | true =>
      go_wp2_with fail
      refine (fixed08 w2).mono ?_
      rintro e w3 ⟨rfl, hb3⟩
      have HW3 := Lib.hid (HW2.out.trans (hb3.mono HW2.out.size))
      clear hb3
      go_wp2_with fail
      go_ret
      exact ⟨rfl, HEND.out _ HW3.out⟩
    | false =>
      have HFEW := Lib.hid (HFF.out rfl)
      obtain ⟨cu, rfl⟩ := Int.eq_ofNat_of_zero_le hc0
      obtain ⟨k, hk⟩ : ∃ k, cu % (n + m + 2) = k := ⟨_, rfl⟩
      have HK := Lib.hid (show k < n + m + 2 from by rw [← hk]; exact Nat.mod_lt _ (by omega))
      have ht1 := tmod_p cu (n + m)
      rw [hk] at ht1
      have hnm : n ≤ 20 ∧ m ≤ 20 := by have := HFEW.out.1; have := HFEW.out.2.1; have := HL.out; have := HM.out; omega
      have hzl : z ≤ 99999 := by
        have := fileM_len HOY.out.2.2.1 HOY.out.2.2.2
        rw [HF.out, HZ.out, ← HL.out, ← HM.out] at this; omega
      have he1 : (cu : Int) % ((n : Int) + (m : Int) + 2) = (k : Int) := by
        have := ht1
        rw [Int.tmod_eq_emod_of_nonneg (by omega)] at this
        rw [← this, Int.natCast_add]
      have hk41 : k ≤ 41 := by have := HK.out; omega
      obtain ⟨G, hG⟩ : ∃ G, feeds ((tabLines R Q).take (k + 1)) = G := ⟨_, rfl⟩
      obtain ⟨P, hP⟩ : ∃ P, G.length = P := ⟨_, rfl⟩
      have HFT := Lib.hid (show F = feeds (tabLines R Q) from HF.out.symm)
      have hPz : P ≤ z := by rw [← hP, ← hG, ← HZ.out, HFT.out]; exact place_le _ _
      have HGF := Lib.hid (show F.take P = G from by
        have := feeds_take (tabLines R Q) (k + 1)
        rw [hG, hP, ← HFT.out] at this
        exact this.symm)
      have HGP := Lib.hid hP
      have HCE := Lib.hid (show ∀ a, a < P → (F.take a).count 10 ≤ k from fun a ha => by
        rw [HFT.out]; exact count_early _ k a (tab_plain R Q) (by rw [hG, hP]; exact ha))
      have HCL := Lib.hid (show (F.take P).count 10 = k + 1 from by
        have := count_late (tabLines R Q) k (tab_plain R Q) (by rw [tab_len, ← HL.out, ← HM.out]; exact HK.out)
        rw [hG, hP, ← HFT.out] at this
        exact this)
      have HGE := Lib.hid (show k ≤ n → mergeL G = ([], [], k + 2, 2) from fun h => by rw [← hG]; exact parts_early HO.out (by rw [← HL.out]; exact h))
      have HGL := Lib.hid (show n < k → mergeL G = (R.map natW, Q.take (k - n - 1), 0, 0) from fun h => by rw [← hG, HL.out]; exact parts_late HO.out (by rw [← HL.out]; exact h))
      have hcz := HBT2.out.2.1
      have hcz' := HBT2.out.2.2.1
      unfold maxLen at hcz'
      clear HFF hk ht1 hG hP
      go_wp2_with fail
      go_loop [8, 9] (fun a l => ∃ p q : Nat, a = .int .i64 p ∧ l = .int .i64 q ∧ p ≤ P ∧ q ≤ 42 ∧ Hid (q = (F.take p).count 10)) (fun a _ => P - (intOf a).toNat)
      case atStart => exact ⟨0, 0, rfl, rfl, Nat.zero_le _, Nat.zero_le _, Lib.hid rfl⟩
      case round =>
        obtain ⟨p, q, rfl, rfl, hp, hq, HQ⟩ := hrel
        by_cases hlt : p < P
        · have hqk0 : q ≤ k := by have := HCE.out p hlt; rw [← HQ.out] at this; exact this
          have hqk : (q : Int) ≤ (k : Int) := by omega
          have hq41 : q ≤ 41 := by have := HCE.out p hlt; rw [← HQ.out] at this; omega
          have hpz0 : p < z := by omega
          have hpz : (p : Int) < (z : Int) := by omega
          obtain ⟨b, off, rfl, hb, hc⟩ := HBT2.out.cells (by omega)
          have hpF : p < F.length := by rw [HZ.out]; omega
          obtain ⟨v, hv⟩ : ∃ v, F[p] = v := ⟨_, rfl⟩
          have c1 : w2.cell? ⟨b, off + p, none⟩ = some (.int .u8 (v.toNat : Int)) := by rw [← hv]; exact hc p hpF
          have HNX := Lib.hid (show (F.take (p + 1)).count 10 = q + if v = 10 then 1 else 0 from by rw [count_next hpF, HQ.out, hv])
          clear hc hv hpF hb
          by_cases h10 : v = 10
          · have h10' : ((v.toNat : Int) == 10) = true := beq_yes (by rw [h10]; rfl)
            have HN2 := Lib.hid (show q + 1 = (F.take (p + 1)).count 10 from by rw [HNX.out, if_pos h10])
            clear h10
            go_wp2_with fail
            go_round
            case rel => exact ⟨p + 1, q + 1, by go_num, by go_num, by omega, by omega, HN2⟩
            case measure => show P - ((p : Int) + 1).toNat < P - ((p : Int)).toNat; omega
          · have h10' : ((v.toNat : Int) == 10) = false := beq_no (fun e => h10 (UInt8.toNat_inj.1 (by show v.toNat = 10; omega)))
            have HN2 := Lib.hid (show q = (F.take (p + 1)).count 10 from by rw [HNX.out, if_neg h10, Nat.add_zero])
            clear h10
            go_wp2_with fail
            go_round
            case rel => exact ⟨p + 1, q, by go_num, rfl, by omega, by omega, HN2⟩
            case measure => show P - ((p : Int) + 1).toNat < P - ((p : Int)).toNat; omega
        · have hpe : p = P := by omega
          have hqk0 : ¬ q ≤ k := by have := HCL.out; rw [← hpe, ← HQ.out] at this; omega
          have hqk : ¬ (q : Int) ≤ (k : Int) := by omega
          have hqk2 : decide ((q : Int) ≤ (k : Int)) = false := decide_eq_false hqk
          subst hpe
          have HBG := Lib.hid (show BytesAt w2 w2.heap.size A3 p c3 G from by have h := HBT2.out.to_ hPz; rw [HGF.out] at h; exact h)
          have hpc : (p : Int) ≤ (c3 : Int) := by omega
          have hp9 : p ≤ 99999 := by omega
          by_cases hkn : k ≤ n
          · have HX := Lib.hid (HGE.out hkn)
            have hkn' : decide ((k : Int) ≤ (n : Int)) = true := decide_eq_true (by omega)
            go_wp2_with fail
            refine (mread_as w2 HBG.out hp9 HX.out rfl rfl).mono ?_
            rintro e w3 ⟨A4, c4, A5, c5, rfl, hr3, hp3, hb3⟩
            have HW3 := Lib.hid (HW2.out.trans (hb3.mono HW2.out.size))
            obtain ⟨X1, hX1⟩ : ∃ X1, X1 = (w3.alloc (.cells #[.slice A4 0 c4, .slice A5 0 c5] 59)).alloc (.cells #[.int .i64 ((k : Int) + 2), .int .i64 2] 47) := ⟨_, rfl⟩
            have C1 : Below w3.heap.size w3 X1 := by rw [hX1]; exact ((Below.refl _ w3).alloc (Nat.le_refl _) _).alloc (by simp) _
            have HW4 := Lib.hid (HW3.out.trans (C1.mono HW3.out.size))
            have G1 := Lib.hid (laid2 (w := w3) (w' := X1) (a := .slice A4 0 c4) (b := .slice A5 0 c5) (c := .int .i64 ((k : Int) + 2)) (d := .int .i64 2) (ta := 59) (tb := 47) (by rw [hX1]; exact Below.refl _ _))
            obtain ⟨u0, u1, -, -⟩ := pair_reads (HTB.out _ HW4.out)
            have HX1 := Lib.hid hX1
            rw [hX1] at u0 u1
            clear hr3 hp3 hb3 C1 hX1 y0 y1
            go_wp2_with fail
            rw [← HX1.out]
            refine (fixed08 X1).mono ?_
            rintro e w5 ⟨rfl, hb5⟩
            have HW5 := Lib.hid (HW4.out.trans (hb5.mono HW4.out.size))
            obtain ⟨a0, a1, -, -⟩ := pair_reads ((hb5.block _ (Array.getElem?_eq_some_iff.1 G1.out.1).1).trans G1.out.1)
            obtain ⟨b0, b1, -, -⟩ := pair_reads ((hb5.block _ (Array.getElem?_eq_some_iff.1 G1.out.2).1).trans G1.out.2)
            have q1 := fun w => eql_fault (a := (k : Int) + 2) (b := (k : Int) + 2) (c := 2) (d := 2) (o := true) (by simp) w
            clear hb5
            go_wp2_with fail
            go_ret
            exact ⟨rfl, HEND.out _ HW5.out⟩
          · have HX := Lib.hid (HGL.out (by omega))
            have hkn' : decide ((k : Int) ≤ (n : Int)) = false := decide_eq_false (by omega)
            go_wp2_with fail
            obtain ⟨j, hj⟩ : ∃ j, k - n - 1 = j := ⟨_, rfl⟩
            have hjm : j ≤ m := by have := HK.out; omega
            have hji : (k : Int) - (n : Int) - 1 = (j : Int) := by omega
            have hjd : (j : Int) ≤ (d : Int) := by omega
            have hjd0 : j ≤ d := by omega
            have HXJ := Lib.hid (show mergeL G = (R.map natW, Q.take j, 0, 0) from by rw [← hj]; exact HX.out)
            have HQJ := Lib.hid (show (Q.take j).length = j from by rw [List.length_take]; have := HM.out; omega)
            have HNL := Lib.hid (show (R.map natW).length = n from by rw [List.length_map, ← HL.out])
            have HBK := Lib.hid (back_rowsP HOY.out.2.2.1)
            clear hj
            refine (mread_as w2 HBG.out hp9 HXJ.out HNL.out HQJ.out).mono ?_
            rintro e w3 ⟨A4, c4, A5, c5, rfl, hr3, hp3, hb3⟩
            rw [HBK.out] at hr3
            have HW3 := Lib.hid (HW2.out.trans (hb3.mono HW2.out.size))
            obtain ⟨X1, hX1⟩ : ∃ X1, X1 = (w3.alloc (.cells #[.slice A4 n c4, .slice A5 j c5] 59)).alloc (.cells #[.int .i64 0, .int .i64 0] 47) := ⟨_, rfl⟩
            have C1 : Below w3.heap.size w3 X1 := by rw [hX1]; exact ((Below.refl _ w3).alloc (Nat.le_refl _) _).alloc (by simp) _
            have HW4 := Lib.hid (HW3.out.trans (C1.mono HW3.out.size))
            have G1 := Lib.hid (laid2 (w := w3) (w' := X1) (a := .slice A4 n c4) (b := .slice A5 j c5) (c := .int .i64 0) (d := .int .i64 0) (ta := 59) (tb := 47) (by rw [hX1]; exact Below.refl _ _))
            have S1 := Lib.hid (show RowAt X1 X1.heap.size 2 A4 n c4 (rowsI R) from RowAt.mono (RowAt.below hr3 C1) C1.size)
            have P1 := Lib.hid (show RowAt X1 X1.heap.size 2 A5 j c5 (pairsV (Q.take j)) from RowAt.mono (RowAt.below hp3 C1) C1.size)
            obtain ⟨u0, u1, -, -⟩ := pair_reads (HTB.out _ HW4.out)
            have HX1 := Lib.hid hX1
            rw [hX1] at u0 u1
            clear hr3 hp3 hb3 C1 hX1 y0 y1
            go_wp2_with fail
            rw [← HX1.out] at u0 u1 ⊢
            have t0 : X1.drew.cell? ⟨w.heap.size, 0, none⟩ = some (.slice A n c) := u0
            have t1 : X1.drew.cell? ⟨w.heap.size, 1, none⟩ = some (.slice A2 m d) := u1
            have n0 := World.new_ne X1.drew ⟨w.heap.size, 0, none⟩ t0
            have n1 := World.new_ne X1.drew ⟨w.heap.size, 1, none⟩ t1
            have s1 : IntKind.i64.wrap ((k : Int) - (n : Int)) = (k : Int) - (n : Int) := IntWalk.i64_in _ (by omega)
            have s2 : IntKind.i64.wrap (j : Int) = (j : Int) := IntWalk.i64_in _ (by omega)
            go_region_held3 (fun w' => w'.cell? ⟨w.heap.size, 0, none⟩ = some (.slice A n c) ∧ w'.cell? ⟨w.heap.size, 1, none⟩ = some (.slice A2 m d)) (go_keep) (fail)
            obtain ⟨X2, hX2⟩ : ∃ X2, (X1.alloc (.cells #[.slice A n c, .slice A2 j d] 59)).drew = X2 := ⟨_, rfl⟩
            have C2 : Below X1.heap.size X1 X2 := by rw [← hX2]; exact Below.drew ((Below.refl _ X1).alloc (Nat.le_refl _) _)
            have HW6 := Lib.hid (HW4.out.trans (C2.mono HW4.out.size))
            have G2 := Lib.hid (show X2.heap[X1.heap.size]? = some (.cells #[.slice A n c, .slice A2 j d] 59 (0, 0)) from by rw [← hX2]; exact heap_alloc_new X1 _)
            have S2 := Lib.hid (show RowAt X2 X2.heap.size 2 A4 n c4 (rowsI R) from RowAt.mono (RowAt.below S1.out C2) C2.size)
            have P2 := Lib.hid (show RowAt X2 X2.heap.size 2 A5 j c5 (pairsV (Q.take j)) from RowAt.mono (RowAt.below P1.out C2) C2.size)
            have GA := Lib.hid ((C2.block _ (Array.getElem?_eq_some_iff.1 G1.out.1).1).trans G1.out.1)
            have GB := Lib.hid ((C2.block _ (Array.getElem?_eq_some_iff.1 G1.out.2).1).trans G1.out.2)
            rw [hX2]
            clear hX2 C2 u0 u1 t0 t1 n0 n1 s1 s2
            go_wp2_with fail
            refine (fixed08 X2).mono ?_
            rintro e w5 ⟨rfl, hb5⟩
            have HW5 := Lib.hid (HW6.out.trans (hb5.mono HW6.out.size))
            have S5 := Lib.hid (show RowAt w5 w5.heap.size 2 A4 n c4 (rowsI R) from RowAt.mono (RowAt.below S2.out hb5) hb5.size)
            have P5 := Lib.hid (show RowAt w5 w5.heap.size 2 A5 j c5 (pairsV (Q.take j)) from RowAt.mono (RowAt.below P2.out hb5) hb5.size)
            have Q5 := Lib.hid (show RowAt w5 w5.heap.size 2 A2 j d (pairsV (Q.take j)) from by have h := (HP0.out _ HW5.out).to_ hjm; rw [pairsV_take] at h; exact h)
            obtain ⟨a0, a1, -, -⟩ := pair_reads ((hb5.block _ (Array.getElem?_eq_some_iff.1 GA.out).1).trans GA.out)
            obtain ⟨b0, b1, -, -⟩ := pair_reads ((hb5.block _ (Array.getElem?_eq_some_iff.1 GB.out).1).trans GB.out)
            obtain ⟨d0, d1, -, -⟩ := pair_reads ((hb5.block _ (Array.getElem?_eq_some_iff.1 G2.out).1).trans G2.out)
            have q1 := fun w => eql_fault (a := 0) (b := 0) (c := 0) (d := 0) (o := true) (by simp) w
            clear hb5
            go_wp2_with fail
            refine (sameTabs_any w5 (Nat.le_refl _) S5.out (HR0.out _ HW5.out) P5.out Q5.out).mono ?_
            rintro e w7 ⟨rfl, hb7⟩
            have HW7 := Lib.hid (HW5.out.trans (hb7.mono HW5.out.size))
            rw [decide_eq_true ⟨rfl, rfl⟩]
            clear hb7
            go_wp2_with fail
            go_ret
            exact ⟨rfl, HEND.out _ HW7.out⟩
end Go.Proofs.YtefhifmilmedhaaDoor
