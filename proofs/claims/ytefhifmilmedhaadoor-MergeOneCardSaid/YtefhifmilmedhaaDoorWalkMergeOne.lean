/- The walk of MergeOne: true for every input. -/
import Derived.Test.YtefhifmilmedhaaDoorMergeFixed
import Derived.Test.YtefhifmilmedhaaDoorMergeWrite
import Derived.Test.YtefhifmilmedhaaDoorMergeOneLaw
namespace Go.Proofs.YtefhifmilmedhaaDoor
open Go.RowKit
set_option linter.unusedVariables false

theorem mergeG_fault : ∀ (L : List (List UInt8)) (ph : Nat) (R : RowsL) (Q : PairsL) (i : Nat) (X : RowsL) (Y : PairsL) (fl fe : Nat), mergeG ph R Q i L = (X, Y, fl, fe) → (fl = 0 ∧ fe = 0) ∨ (X = [] ∧ Y = [] ∧ 1 ≤ fl)
  | [], ph, R, Q, i, X, Y, fl, fe, h => by
    rw [mergeG] at h
    split at h
    · simp only [Prod.mk.injEq] at h; exact .inl ⟨h.2.2.1.symm, h.2.2.2.symm⟩
    · simp only [Prod.mk.injEq] at h; exact .inr ⟨h.1.symm, h.2.1.symm, by omega⟩
  | s :: r, ph, R, Q, i, X, Y, fl, fe, h => by
    rw [mergeG] at h
    split at h
    · simp only [Prod.mk.injEq] at h; exact .inr ⟨h.1.symm, h.2.1.symm, by omega⟩
    · exact mergeG_fault r _ _ _ _ X Y fl fe h
theorem merge_fault {l : List UInt8} {X : RowsL} {Y : PairsL} {fl fe : Nat} (h : mergeL l = (X, Y, fl, fe)) : (fl = 0 ∧ fe = 0) ∨ (X = [] ∧ Y = [] ∧ 1 ≤ fl) := mergeG_fault _ _ _ _ _ X Y fl fe h
theorem neq_fault {a b c d : Int} {o : Bool} (h : decide ((a, c) = (b, d)) = o) (w : World) : (binOp .neq 47 (.agg #[.int .i64 a, .int .i64 c]) (.agg #[.int .i64 b, .int .i64 d])).run Tryd.prog w = .ok (.bool (!o)) w := by
  subst h
  rw [run_neq_struct, eq_fault, Result.andThen_ok]
  by_cases h1 : a = b <;> by_cases h2 : c = d <;> simp [h1, h2]
theorem str_eqM {a b : List UInt8} (h : a = b) : ((strOf a).toList == (strOf b).toList) = true := by subst h; exact beq_self_eq_true _
theorem str_neM {a b : List UInt8} (h : a ≠ b) : ((strOf a).toList == (strOf b).toList) = false := by
  rw [ByteArray.toList_eq, ByteArray.toList_eq, strOf_list, strOf_list]
  exact beq_eq_false_iff_ne.2 h
set_option maxRecDepth 100000 in
set_option maxHeartbeats 4000000 in
theorem walkMergeOne (w : World) (ht : Tab10 w) {A : Option Addr} {n c : Nat} {l : List UInt8} (hl : BytesAt w w.heap.size A n c l) :
    Calls Tryd.prog 12 #[.slice A n c] w fun e w' => e = .returned (.bool true) ∧ Below w.heap.size w w' := by
  have hn := hl.len
  by_cases h2 : 2000 < n
  · have h2' : (2000 : Int) < (n : Int) := by omega
    clear hn
    go_enter Tryd.func12, Tryd.ntmps12
    go_wp2_with fail
    refine (fixed08 w).mono ?_
    rintro e w' ⟨rfl, hb⟩
    go_wp2_with fail
    go_ret
    exact ⟨rfl, hb⟩
  · have h2' : ¬ (2000 : Int) < (n : Int) := by omega
    obtain ⟨x, y, fl, fe, hx⟩ : ∃ x y fl fe, mergeL l = (x, y, fl, fe) := ⟨_, _, _, _, rfl⟩
    obtain ⟨m1, hm1⟩ : ∃ m, x.length = m := ⟨_, rfl⟩
    obtain ⟨m2, hm2⟩ : ∃ m, y.length = m := ⟨_, rfl⟩
    have HN := Lib.hid hn
    have HX := Lib.hid hx
    have HM1 := Lib.hid hm1
    have HM2 := Lib.hid hm2
    have HL := Lib.hid hl
    have HT := Lib.hid ht
    have HFT := Lib.hid (merge_fault hx)
    clear hn hx hm1 hm2 hl ht
    go_enter Tryd.func12, Tryd.ntmps12
    go_wp2_with fail
    refine (mread_as w HL.out (by omega) HX.out HM1.out HM2.out).mono ?_
    rintro e w1 ⟨A1, c1, A2, c2, rfl, hr1, hp1, hb1⟩
    obtain ⟨X1, hX1⟩ : ∃ X1, X1 = (w1.alloc (.cells #[.slice A1 m1 c1, .slice A2 m2 c2] 59)).alloc (.cells #[.int .i64 (fl : Int), .int .i64 (fe : Int)] 47) := ⟨_, rfl⟩
    have C1 : Below w1.heap.size w1 X1 := by rw [hX1]; exact ((Below.refl _ w1).alloc (Nat.le_refl _) _).alloc (by simp) _
    have B1 := Lib.hid (hb1.trans (C1.mono hb1.size))
    have S1 := Lib.hid (show RowAt X1 X1.heap.size 2 A1 m1 c1 (rowsI (x.map intRow)) from RowAt.mono (RowAt.below hr1 C1) C1.size)
    have P1 := Lib.hid (show RowAt X1 X1.heap.size 2 A2 m2 c2 (pairsV y) from RowAt.mono (RowAt.below hp1 C1) C1.size)
    have G1 := Lib.hid (laid2 (w := w1) (w' := X1) (a := .slice A1 m1 c1) (b := .slice A2 m2 c2) (c := .int .i64 (fl : Int)) (d := .int .i64 (fe : Int)) (ta := 59) (tb := 47) (by rw [hX1]; exact Below.refl _ _))
    have L1 := Lib.hid (show BytesAt X1 X1.heap.size A n c l from RowAt.mono (RowAt.below HL.out B1.out) B1.out.size)
    have HX1 := Lib.hid hX1
    clear hr1 hp1 hb1 C1 hX1
    by_cases hg : fl = 0
    · have hfe : fe = 0 := by rcases HFT.out with ⟨_, h⟩ | ⟨_, _, h⟩ <;> omega
      subst hg hfe
      have q1 := fun w => neq_fault (a := ((0 : Nat) : Int)) (b := 0) (c := ((0 : Nat) : Int)) (d := 0) (o := true) (by simp) w
      have HONE := Lib.hid (merge_one HX.out)
      obtain ⟨F, hF⟩ : ∃ F, fileM (x.map intRow) y = F := ⟨_, rfl⟩
      obtain ⟨z, hz⟩ : ∃ z, F.length = z := ⟨_, rfl⟩
      have HF := Lib.hid hF
      have HZ := Lib.hid hz
      have HEQ := Lib.hid (show F = l ∨ F = l ++ [10] from by rw [← hF]; exact HONE.out.2)
      have HOK := Lib.hid (show okM (x.map intRow) y = true from HONE.out.1)
      clear hF hz
      go_wp2_with fail
      have HX2 := Lib.hid (show X1 = (w1.alloc (.cells #[.slice A1 m1 c1, .slice A2 m2 c2] 59)).alloc (.cells #[.int .i64 0, .int .i64 0] 47) from HX1.out)
      rw [← HX2.out]
      refine (mwrite_yes X1 (tab_later HT.out B1.out) S1.out P1.out HOK HF HZ).mono ?_
      rintro e w2 ⟨A3, c3, rfl, hbt, hb2⟩
      have HBT := Lib.hid hbt
      have B2 := Lib.hid (B1.out.trans (hb2.mono B1.out.size))
      clear hbt hb2 q1
      go_wp2_with fail
      refine (fixed08 w2).mono ?_
      rintro e w3 ⟨rfl, hb3⟩
      have B3 := Lib.hid (B2.out.trans (hb3.mono B2.out.size))
      have HBT3 := Lib.hid (show BytesAt w3 w3.heap.size A3 z c3 F from RowAt.mono (RowAt.below HBT.out hb3) hb3.size)
      have HL3 := Lib.hid (show BytesAt w3 w3.heap.size A n c l from RowAt.mono (RowAt.below HL.out B3.out) B3.out.size)
      have hv1 := run_string_bytes (P := Tryd.prog) 22 9 5 Tryd.underlying22 Tryd.underlying5 Tryd.underlying9 HBT3.out
      have hv2 := run_string_bytes (P := Tryd.prog) 22 9 5 Tryd.underlying22 Tryd.underlying5 Tryd.underlying9 HL3.out
      clear hb3
      by_cases he : F = l
      · have heq := str_eqM he
        clear he
        go_wp2_with fail
        go_ret
        exact ⟨rfl, B3.out⟩
      · have hne := str_neM he
        have he2 : F = l ++ [10] := by rcases HEQ.out with h | h; exact absurd h he; exact h
        have hst : strOf l ++ ⟨#[10]⟩ = strOf (l ++ [10]) := by apply ByteArray.ext; simp [strOf]
        have heq : ((strOf F).toList == (strOf l ++ ⟨#[10]⟩).toList) = true := by rw [hst]; exact str_eqM he2
        have b1 : ¬ 9223372036854775807 < (strOf l).size + 1 := by rw [strOf_size]; have := HN.out; omega
        clear he he2 hst
        go_wp2_with fail
        go_ret
        exact ⟨rfl, B3.out⟩
    · have HBAD := Lib.hid (show x = [] ∧ y = [] from by rcases HFT.out with ⟨h, _⟩ | ⟨h1, h2, _⟩; exact absurd h hg; exact ⟨h1, h2⟩)
      have hm1 : m1 = 0 := by rw [← HM1.out, HBAD.out.1]; rfl
      have hm2 : m2 = 0 := by rw [← HM2.out, HBAD.out.2]; rfl
      have q1 := fun w => neq_fault (a := (fl : Int)) (b := 0) (c := (fe : Int)) (d := 0) (o := false) (decide_eq_false (fun h => hg (by have := congrArg Prod.fst h; simp only at this; omega))) w
      have HGG := Lib.hid hg
      subst hm1 hm2
      clear hg
      go_wp2_with fail
      rw [← HX1.out]
      refine (fixed08 X1).mono ?_
      rintro e w2 ⟨rfl, hb2⟩
      have B2 := Lib.hid (B1.out.trans (hb2.mono B1.out.size))
      obtain ⟨a0, a1, -, -⟩ := pair_reads ((hb2.block _ (Array.getElem?_eq_some_iff.1 G1.out.1).1).trans G1.out.1)
      clear hb2
      go_wp2_with fail
      go_ret
      exact ⟨rfl, B2.out⟩
end Go.Proofs.YtefhifmilmedhaaDoor
