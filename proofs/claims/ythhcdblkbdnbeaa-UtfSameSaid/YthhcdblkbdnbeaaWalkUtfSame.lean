/- The walk of UtfSame: true for every input. -/
import Derived.Test.YthhcdblkbdnbeaaWalkUtfMore
import Derived.Test.YthhcdblkbdnbeaaUtfEncode
import Derived.Test.YthhcdblkbdnbeaaUtfLaw4
import Derived.Deep.QuietTactic
import Derived.BigQuiet
import Derived.Deep.RegionHeld3
namespace Go.Proofs.Ythhcdblkbdnbeaa
open Go.RowKit

theorem str_apart_le {s t : ByteArray} (h : s.size ≤ t.size) (hne : s.data.toList.take (min s.size t.size) ≠ t.data.toList.take (min s.size t.size)) : (!(s.toList == (t.extract 0 s.size).toList)) = true := by
  rw [Nat.min_eq_left h, ← str_len s, List.take_length] at hne
  rw [ByteArray.toList_eq, ByteArray.toList_eq, Lib.extract_data, List.drop_zero, Nat.sub_zero, ← str_len s]
  simpa using hne
theorem str_apart_ge {s t : ByteArray} (h : t.size ≤ s.size) (hne : s.data.toList.take (min s.size t.size) ≠ t.data.toList.take (min s.size t.size)) : (!((s.extract 0 t.size).toList == t.toList)) = true := by
  rw [Nat.min_eq_right h, ← str_len t, List.take_length] at hne
  rw [ByteArray.toList_eq, ByteArray.toList_eq, Lib.extract_data, List.drop_zero, Nat.sub_zero, ← str_len t]
  simpa using hne
theorem below_drewN {B : Nat} {a w : World} (h : Below B a w) (n : Nat) : Below B a (w.drewN n) := ⟨h.os, h.tape, h.output, h.size, h.block⟩
theorem fixed01_at {w0 : World} (w : World) (h : Below w0.heap.size w0 w) : Calls Try.prog 8 #[] w fun e w' => e = .returned (.bool true) ∧ Below w0.heap.size w0 w' :=
  (fixed01 w).mono fun _ _ ⟨he, hb⟩ => ⟨he, h.trans (hb.mono h.size)⟩

set_option maxRecDepth 100000 in
set_option maxHeartbeats 1000000 in
theorem walkUtfSame (w : World) (p : Int) (_hp0 : -9223372036854775808 ≤ p) (_hp1 : p ≤ 9223372036854775807) (q : Int) (_hq0 : -9223372036854775808 ≤ q) (_hq1 : q ≤ 9223372036854775807) :
    Calls Try.prog 6 #[.int .i64 p, .int .i64 q] w fun e w' => e = .returned (.bool true) ∧ Below w.heap.size w w' := by
  obtain ⟨x, hx⟩ : ∃ x, isPoint p = x := ⟨_, rfl⟩
  obtain ⟨y, hy⟩ : ∃ y, isPoint q = y := ⟨_, rfl⟩
  obtain ⟨m, hm⟩ : ∃ m, encOf p = m := ⟨_, rfl⟩
  obtain ⟨m', hm'⟩ : ∃ m', encOf q = m' := ⟨_, rfl⟩
  obtain ⟨L, hL⟩ : ∃ L, m.length = L := ⟨_, rfl⟩
  obtain ⟨L', hL'⟩ : ∃ L', m'.length = L' := ⟨_, rfl⟩
  have HX := Lib.hid hx
  have HY := Lib.hid hy
  have HM := Lib.hid hm
  have HM' := Lib.hid hm'
  have HL := Lib.hid hL
  have HL' := Lib.hid hL'
  clear hx hy hm hm' hL hL'
  by_cases hpq : p = q
  · subst hpq
    have e1 : y = x := by rw [← HX.out, HY.out]
    have e2 : m' = m := by rw [← HM.out, HM'.out]
    subst e1 e2
    have e3 : L' = L := by rw [← HL.out, HL'.out]
    subst e3
    have HZ : Hid (y = false → L' = 0) := fun h => by rw [← HL.out, ← HM.out, encOf_no (HX.out.trans h)]; rfl
    go_enter Try.func6, Try.ntmps6
    go_wp2_with fail
    refine (encode_as _ HM HL HX).mono ?_
    rintro e w1 ⟨A1, rfl, hbe1, hb1⟩
    go_wp2_with fail
    refine (encode_as _ HM' HL' HY).mono ?_
    rintro e w2 ⟨A2, rfl, hbe2, hb2⟩
    have HB := Lib.hid (hb1.trans (hb2.mono hb1.size))
    have h1 := (hbe1.below hb2).mono hb2.size
    clear hb1 hb2 hbe1
    rcases y with _ | _
    · obtain rfl := HZ.out rfl
      go_wp2_with fail
      refine (fixed01 _).mono ?_
      rintro e w3 ⟨rfl, hb3⟩
      have hcv1 := run_string_bytes 22 9 5 Try.underlying22 Try.underlying5 Try.underlying9 (RowAt.below h1 hb3)
      have hcv2 := run_string_bytes 22 9 5 Try.underlying22 Try.underlying5 Try.underlying9 (RowAt.below hbe2 hb3)
      have HB2 := Lib.hid (HB.out.trans (hb3.mono HB.out.size))
      clear hb3
      go_wp2_with fail
      go_ret
      exact ⟨by simp, HB2.out⟩
    · go_wp2_with fail
      refine (fixed01 _).mono ?_
      rintro e w3 ⟨rfl, hb3⟩
      have hcv1 := run_string_bytes 22 9 5 Try.underlying22 Try.underlying5 Try.underlying9 (RowAt.below h1 hb3)
      have hcv2 := run_string_bytes 22 9 5 Try.underlying22 Try.underlying5 Try.underlying9 (RowAt.below hbe2 hb3)
      have HB2 := Lib.hid (HB.out.trans (hb3.mono HB.out.size))
      clear hb3
      go_wp2_with fail
      go_ret
      exact ⟨by simp, HB2.out⟩
  · have hne1 : (p == q) = false := beq_no hpq
    have hne2 : (p != q) = true := bne_yes hpq
    have HZ1 : Hid (x = false → L = 0) := fun h => by rw [← HL.out, ← HM.out, encOf_no (HX.out.trans h)]; rfl
    have HZ2 : Hid (y = false → L' = 0) := fun h => by rw [← HL'.out, ← HM'.out, encOf_no (HY.out.trans h)]; rfl
    by_cases hxy : x = true ∧ y = true
    · obtain ⟨rfl, rfl⟩ := hxy
      clear HZ1 HZ2
      go_enter Try.func6, Try.ntmps6
      go_wp2_with fail
      refine (encode_as _ HM HL HX).mono ?_
      rintro e w1 ⟨A1, rfl, hbe1, hb1⟩
      go_wp2_with fail
      refine (encode_as _ HM' HL' HY).mono ?_
      rintro e w2 ⟨A2, rfl, hbe2, hb2⟩
      have HB := Lib.hid (hb1.trans (hb2.mono hb1.size))
      have h1 := (hbe1.below hb2).mono hb2.size
      clear hb1 hb2 hbe1
      have hcv1 := fun k => run_string_bytes 22 9 5 Try.underlying22 Try.underlying5 Try.underlying9 (RowAt.drewN h1 k)
      have hcv2 := fun k => run_string_bytes 22 9 5 Try.underlying22 Try.underlying5 Try.underlying9 (RowAt.drewN hbe2 k)
      go_wp2_with fail
      go_quiet (fail)
      go_wp2_with fail
      have hz := HB.out.size
      obtain ⟨s, hs⟩ : ∃ s, strOf m = s := ⟨_, rfl⟩
      obtain ⟨t, ht⟩ : ∃ t, strOf m' = t := ⟨_, rfl⟩
      have HS : Hid (s.data.toList = encOf p) := by rw [← hs, strOf_list]; exact HM.out.symm
      have HT : Hid (t.data.toList = encOf q) := by rw [← ht, strOf_list]; exact HM'.out.symm
      rw [hs, ht]
      clear hs ht
      have HLess := Lib.hid (show Op.bytesLess s.toList t.toList = decide (p < q) from by rw [ByteArray.toList_eq, ByteArray.toList_eq, HS.out, HT.out]; exact enc_less HX.out HY.out)
      have HAp := Lib.hid (show s.data.toList.take (min s.size t.size) ≠ t.data.toList.take (min s.size t.size) from by
        rw [← str_len s, ← str_len t, HS.out, HT.out]; exact enc_apart HX.out HY.out hpq)
      clear hcv1 hcv2 HS HT
      have hS0 : Below w.heap.size w (w2.drewN nq) := below_drewN HB.out nq
      rcases Int.lt_or_gt_of_ne hpq with hlt | hlt
      · have hless : Op.bytesLess s.toList t.toList = true := by rw [HLess.out, decide_eq_true hlt]
        clear HLess
        by_cases hst : s.size ≤ t.size
        · have HE := Lib.hid (show ((!(s.toList == (t.extract 0 s.size).toList)) = true) from str_apart_le hst HAp.out)
          have hst1 : (s.size : Int) ≤ t.size := by omega
          have hst2 : ¬ t.size < s.size := by omega
          have hst3 : ¬ (t.size : Int) < s.size := by omega
          have hst4 : (0 : Int) ≤ s.size := by omega
          have hst5 : (s.size : Int) ≤ s.size := by omega
          go_region_held3 (fun W => Below w.heap.size w W) (first | assumption | exact Below.drew (by assumption)) (first | (go_at_call 8; refine (fixed01_at (w0 := w) _ (by assumption)).mono ?_; rintro e w3 ⟨rfl, hb3⟩))
          all_goals go_wp2_with fail
          all_goals go_ret
          all_goals exact ⟨ret_bool HE.out, by assumption⟩
        · have HE := Lib.hid (show ((!((s.extract 0 t.size).toList == t.toList)) = true) from str_apart_ge (by omega) HAp.out)
          have hst1 : (t.size : Int) ≤ s.size := by omega
          have hst2 : t.size < s.size := by omega
          have hst3 : (t.size : Int) < s.size := by omega
          have hst4 : (0 : Int) ≤ t.size := by omega
          have hst5 : (t.size : Int) ≤ t.size := by omega
          go_region_held3 (fun W => Below w.heap.size w W) (first | assumption | exact Below.drew (by assumption)) (first | (go_at_call 8; refine (fixed01_at (w0 := w) _ (by assumption)).mono ?_; rintro e w3 ⟨rfl, hb3⟩))
          all_goals go_wp2_with fail
          all_goals go_ret
          all_goals exact ⟨ret_bool HE.out, by assumption⟩
      · have hless : Op.bytesLess s.toList t.toList = false := by rw [HLess.out, decide_eq_false (by omega)]
        have hlt2 : decide (p < q) = false := decide_eq_false (by omega)
        clear HLess
        by_cases hst : s.size ≤ t.size
        · have HE := Lib.hid (show ((!(s.toList == (t.extract 0 s.size).toList)) = true) from str_apart_le hst HAp.out)
          have hst1 : (s.size : Int) ≤ t.size := by omega
          have hst2 : ¬ t.size < s.size := by omega
          have hst3 : ¬ (t.size : Int) < s.size := by omega
          have hst4 : (0 : Int) ≤ s.size := by omega
          have hst5 : (s.size : Int) ≤ s.size := by omega
          go_region_held3 (fun W => Below w.heap.size w W) (first | assumption | exact Below.drew (by assumption)) (first | (go_at_call 8; refine (fixed01_at (w0 := w) _ (by assumption)).mono ?_; rintro e w3 ⟨rfl, hb3⟩))
          all_goals go_wp2_with fail
          all_goals go_ret
          all_goals exact ⟨ret_bool HE.out, by assumption⟩
        · have HE := Lib.hid (show ((!((s.extract 0 t.size).toList == t.toList)) = true) from str_apart_ge (by omega) HAp.out)
          have hst1 : (t.size : Int) ≤ s.size := by omega
          have hst2 : t.size < s.size := by omega
          have hst3 : (t.size : Int) < s.size := by omega
          have hst4 : (0 : Int) ≤ t.size := by omega
          have hst5 : (t.size : Int) ≤ t.size := by omega
          go_region_held3 (fun W => Below w.heap.size w W) (first | assumption | exact Below.drew (by assumption)) (first | (go_at_call 8; refine (fixed01_at (w0 := w) _ (by assumption)).mono ?_; rintro e w3 ⟨rfl, hb3⟩))
          all_goals go_wp2_with fail
          all_goals go_ret
          all_goals exact ⟨ret_bool HE.out, by assumption⟩
    · go_enter Try.func6, Try.ntmps6
      go_wp2_with fail
      refine (encode_as _ HM HL HX).mono ?_
      rintro e w1 ⟨A1, rfl, hbe1, hb1⟩
      go_wp2_with fail
      refine (encode_as _ HM' HL' HY).mono ?_
      rintro e w2 ⟨A2, rfl, hbe2, hb2⟩
      have HB := Lib.hid (hb1.trans (hb2.mono hb1.size))
      clear hb1 hb2 hbe1 hbe2
      have hz := HB.out.size
      rcases x with _ | _ <;> rcases y with _ | _
      · obtain rfl := HZ1.out rfl
        obtain rfl := HZ2.out rfl
        go_wp2_with fail
        refine (fixed01 _).mono ?_
        rintro e w3 ⟨rfl, hb3⟩
        have HB2 := Lib.hid (HB.out.trans (hb3.mono hz))
        clear hb3
        go_wp2_with fail
        go_ret
        exact ⟨by simp, HB2.out⟩
      · obtain rfl := HZ1.out rfl
        go_wp2_with fail
        refine (fixed01 _).mono ?_
        rintro e w3 ⟨rfl, hb3⟩
        have HB2 := Lib.hid (HB.out.trans (hb3.mono hz))
        clear hb3
        go_wp2_with fail
        go_ret
        exact ⟨by simp, HB2.out⟩
      · obtain rfl := HZ2.out rfl
        go_wp2_with fail
        refine (fixed01 _).mono ?_
        rintro e w3 ⟨rfl, hb3⟩
        have HB2 := Lib.hid (HB.out.trans (hb3.mono hz))
        clear hb3
        go_wp2_with fail
        go_ret
        exact ⟨by simp, HB2.out⟩
      · exact absurd ⟨rfl, rfl⟩ hxy
end Go.Proofs.Ythhcdblkbdnbeaa
