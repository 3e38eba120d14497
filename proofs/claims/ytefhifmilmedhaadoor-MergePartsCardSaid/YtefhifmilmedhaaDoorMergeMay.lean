/- The walks of merge.may and of the document's part. -/
import Derived.Test.YtefhifmilmedhaaDoorMergeWLaw
import Derived.Lib.ItoaLen
import Derived.Test.YtefhifmilmedhaaDoorBuf
/- The plain law of a file of tables that grows line by line. -/
namespace Go.Proofs.YtefhifmilmedhaaDoor
set_option linter.unusedVariables false

theorem allG_take {α : Type} {p : α → Bool} {l : List α} {k : Nat} (h : k < l.length) : (l.take (k + 1)).all p = ((l.take k).all p && p l[k]) := by
  rw [List.take_add_one, List.getElem?_eq_getElem h, List.all_append]
  simp
theorem allG_false {α : Type} {p : α → Bool} {l : List α} {k : Nat} (h : (l.take k).all p = false) : l.all p = false := by
  cases hx : l.all p with
  | false => rfl
  | true =>
    exfalso
    have : (l.take k).all p = true := by
      rw [List.all_eq_true] at hx ⊢
      exact fun s hs => hx s (List.mem_of_mem_take hs)
    rw [this] at h; cases h
/-- The file up to the merges line. -/
def fileA (R : RowsI) : List UInt8 := feeds (vocabL :: R.map rowT)
theorem fileA_nil : fileA [] = vocabL ++ [10] := rfl
theorem fileA_snoc (l : RowsI) (x : List UInt8 × Int) : fileA (l ++ [x]) = fileA l ++ (rowT x ++ [10]) := by
  unfold fileA
  rw [List.map_append, ← List.cons_append, feeds_app]
  rfl
theorem fileM_nil (R : RowsI) : fileM R [] = fileA R ++ (mergesL ++ [10]) := by
  unfold fileM fileA tabLines
  rw [← List.cons_append, feeds_app]
  rfl
theorem fileM_snoc (R : RowsI) (Q : PairsL) (x : List UInt8 × List UInt8) : fileM R (Q ++ [x]) = fileM R Q ++ (pairT x ++ [10]) := by
  unfold fileM tabLines
  rw [List.map_append, ← List.cons_append, ← List.cons_append, ← List.cons_append, ← List.append_assoc, feeds_app]
  rfl
theorem rowT_len {x : List UInt8 × Int} (h : mayW x = true) : (wr x.1).length ≤ 256 ∧ (Lib.itoa x.2).length ≤ 21 := by
  have hm := mayW_yes h
  have := wr_len x.1
  exact ⟨by omega, Lib.itoa_length_le _ (by omega) (by omega)⟩
theorem pairT_len {x : List UInt8 × List UInt8} (h : mayP x = true) : (wr x.1).length ≤ 256 ∧ (wr x.2).length ≤ 256 := by
  unfold mayP at h
  rw [Bool.and_eq_true] at h
  have h1 := mayT1_yes h.1
  have h2 := mayT1_yes h.2
  have := wr_len x.1
  have := wr_len x.2
  exact ⟨by omega, by omega⟩
theorem rows_len_le : ∀ {l : RowsI}, l.all mayW = true → (feeds (l.map rowT)).length ≤ 300 * l.length
  | [], _ => Nat.le_refl _
  | x :: r, h => by
    rw [List.all_cons, Bool.and_eq_true] at h
    have h1 := rowT_len h.1
    have h2 := rows_len_le h.2
    rw [List.map_cons, feeds, rowT]
    simp only [List.length_append, List.length_cons] at *
    omega
theorem pairs_len_le : ∀ {l : PairsL}, l.all mayP = true → (feeds (l.map pairT)).length ≤ 600 * l.length
  | [], _ => Nat.le_refl _
  | x :: r, h => by
    rw [List.all_cons, Bool.and_eq_true] at h
    have h1 := pairT_len h.1
    have h2 := pairs_len_le h.2
    rw [List.map_cons, feeds, pairT]
    simp only [List.length_append, List.length_cons] at *
    omega
theorem fileA_len {R : RowsI} (h : R.all mayW = true) : (fileA R).length ≤ 6 + 300 * R.length := by
  have := rows_len_le h
  unfold fileA
  rw [feeds]
  simp only [List.length_append, List.length_cons]
  have e : vocabL.length = 5 := rfl
  omega
theorem fileM_len {R : RowsI} {Q : PairsL} (h : R.all mayW = true) (g : Q.all mayP = true) : (fileM R Q).length ≤ 13 + 300 * R.length + 600 * Q.length := by
  have h1 := rows_len_le h
  have h2 := pairs_len_le g
  unfold fileM tabLines
  rw [feeds, feeds_app, feeds]
  simp only [List.length_append, List.length_cons]
  have e : vocabL.length = 5 := rfl
  have e' : mergesL.length = 6 := rfl
  omega
theorem okM_rows {R : RowsI} {Q : PairsL} (h : R.all mayW = false) : okM R Q = false := by
  unfold okM; rw [h]; simp
theorem okM_pairs {R : RowsI} {Q : PairsL} (h : Q.all mayP = false) : okM R Q = false := by
  unfold okM; rw [h]; simp
theorem mayP_left {a b : List UInt8} (h : mayT1 a = false) : mayP (a, b) = false := by unfold mayP; rw [h]; rfl
theorem mayP_right {a b : List UInt8} (h : mayT1 b = false) : mayP (a, b) = false := by unfold mayP; rw [h]; simp
theorem mayP_yes {a b : List UInt8} (h : mayT1 a = true) (g : mayT1 b = true) : mayP (a, b) = true := by unfold mayP; rw [h, g]; rfl
end Go.Proofs.YtefhifmilmedhaaDoor
namespace Go.Proofs.YtefhifmilmedhaaDoor
open Go.RowKit
set_option linter.unusedVariables false

set_option maxHeartbeats 1000000 in
theorem mmay_any (s : List UInt8) (w : World) : Calls Tryd.prog 49 #[.string (strOf s)] w fun e w' => e = .returned (.bool (mayT1 s)) ∧ w' = w := by
  have hsz : (strOf s).size = s.length := rfl
  by_cases h0 : s = []
  · have h1 := str_yes h0
    have HM := Lib.hid (show mayT1 s = false from by unfold mayT1; exact decide_eq_false (by rw [h0]; simp))
    clear h0
    go_enter Tryd.func49, Tryd.ntmps49
    go_wp2_with fail
    go_ret
    exact ⟨by rw [HM.out]; rfl, rfl⟩
  · have h1 := str_no h0
    have h1' := str_no' h0
    have hp : 1 ≤ s.length := by have := List.length_pos_iff.2 h0; omega
    clear h0
    have HM := Lib.hid (show mayT1 s = decide ((s.length : Int) ≤ 64) from by
      unfold mayT1
      by_cases h : s.length ≤ 64
      · rw [decide_eq_true ⟨hp, h⟩, decide_eq_true (by omega)]
      · rw [decide_eq_false (by omega), decide_eq_false (by omega)])
    go_enter Tryd.func49, Tryd.ntmps49
    go_wp2_with fail
    go_ret
    exact ⟨by rw [HM.out]; rfl, rfl⟩
set_option maxHeartbeats 1000000 in
theorem rpart_any (s : List UInt8) (w : World) : Calls Tryd.prog 52 #[.string (strOf s)] w fun e w' => e = .returned (.bool (mayT1 s)) ∧ w' = w := by
  have hsz : (strOf s).size = s.length := rfl
  have HM1 := Lib.hid (show (1 : Int) ≤ s.length → mayT1 s = decide ((s.length : Int) ≤ 64) from fun hp => by
    unfold mayT1
    by_cases h : s.length ≤ 64
    · rw [decide_eq_true ⟨by omega, h⟩, decide_eq_true (by omega)]
    · rw [decide_eq_false (by omega), decide_eq_false (by omega)])
  have HM0 := Lib.hid (show ¬ (1 : Int) ≤ s.length → mayT1 s = false from fun hp => by unfold mayT1; exact decide_eq_false (by omega))
  by_cases hp : (1 : Int) ≤ s.length
  · have HM := Lib.hid (HM1.out hp)
    clear HM0 HM1
    go_enter Tryd.func52, Tryd.ntmps52
    go_wp2_with fail
    go_ret
    exact ⟨by rw [HM.out]; rfl, rfl⟩
  · have HM := Lib.hid (HM0.out hp)
    clear HM0 HM1
    go_enter Tryd.func52, Tryd.ntmps52
    go_wp2_with fail
    go_ret
    exact ⟨by rw [HM.out]; rfl, rfl⟩
end Go.Proofs.YtefhifmilmedhaaDoor
