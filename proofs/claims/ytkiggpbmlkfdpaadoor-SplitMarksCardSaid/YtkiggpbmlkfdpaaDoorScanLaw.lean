/- The plain law of scan: the points of bytes, and how pieces are cut. -/
import Derived.Test.YtkiggpbmlkfdpaaDoorUtfLaw5
import Derived.Test.YtkiggpbmlkfdpaaDoorClsLaw
namespace Go.Proofs.YtkiggpbmlkfdpaaDoor
set_option linter.unusedVariables false

/-- A point: its code, its class, how many bytes it has, whether it is sure. -/
structure Pt where
  code : Int
  cls : Int
  n : Nat
  sure : Bool
def openPt : Pt := ⟨-1, 0, 1, false⟩
def zeroPt : Pt := ⟨0, 0, 0, false⟩
/-- The points of bytes; those of bytes that need more aren't sure. -/
def ptsF (t : List Rg) : Nat → List UInt8 → List Pt
  | 0, _ => []
  | _ + 1, [] => []
  | k + 1, c :: r => if (dec (c :: r) false).2.2 = true then (c :: r).map fun _ => openPt
    else ⟨(dec (c :: r) false).1, clsT t (dec (c :: r) false).1, (dec (c :: r) false).2.1.toNat, true⟩ :: ptsF t k ((c :: r).drop (dec (c :: r) false).2.1.toNat)
def ptsOf (t : List Rg) (l : List UInt8) : List Pt := ptsF t l.length l
theorem dec_nat {l : List UInt8} (h0 : l ≠ []) (h : (dec l false).2.2 = false) : 1 ≤ (dec l false).2.1.toNat ∧ (dec l false).2.1.toNat ≤ l.length ∧ (dec l false).2.1.toNat ≤ 4 ∧ ((dec l false).2.1.toNat : Int) = (dec l false).2.1 ∧ -1 ≤ (dec l false).1 := by
  rcases dec_facts l false (List.length_pos_iff.2 h0) with hf | hf
  · rw [hf.1] at h; cases h
  · omega
theorem ptsF_fuel (t : List Rg) : ∀ (k m : Nat) (l : List UInt8), l.length ≤ k → l.length ≤ m → ptsF t k l = ptsF t m l
  | 0, m, l, h, _ => by
    obtain rfl : l = [] := List.eq_nil_of_length_eq_zero (by omega)
    cases m <;> rfl
  | k + 1, 0, l, _, h => by
    obtain rfl : l = [] := List.eq_nil_of_length_eq_zero (by omega)
    rfl
  | k + 1, m + 1, [], _, _ => rfl
  | k + 1, m + 1, c :: r, h1, h2 => by
    rw [ptsF, ptsF]
    split
    · rfl
    · rename_i hm
      have hf := dec_nat (l := c :: r) (by simp) (by simpa using hm)
      simp only [List.length_cons] at h1 h2 hf
      rw [ptsF_fuel t k m _ (by rw [List.length_drop]; simp only [List.length_cons]; omega) (by rw [List.length_drop]; simp only [List.length_cons]; omega)]
theorem pts_nil (t : List Rg) : ptsOf t [] = [] := rfl
theorem pts_more {t : List Rg} {l : List UInt8} (h0 : l ≠ []) (h : (dec l false).2.2 = true) : ptsOf t l = l.map fun _ => openPt := by
  unfold ptsOf
  cases l with
  | nil => exact absurd rfl h0
  | cons c r => rw [List.length_cons, ptsF, if_pos h]
theorem pts_one {t : List Rg} {l : List UInt8} (h0 : l ≠ []) (h : (dec l false).2.2 = false) : ptsOf t l = ⟨(dec l false).1, clsT t (dec l false).1, (dec l false).2.1.toNat, true⟩ :: ptsOf t (l.drop (dec l false).2.1.toNat) := by
  unfold ptsOf
  cases l with
  | nil => exact absurd rfl h0
  | cons c r =>
    rw [List.length_cons, ptsF, if_neg (by rw [h]; decide)]
    refine congrArg (List.cons _) ?_
    have hf := dec_nat h0 h
    simp only [List.length_cons] at hf
    exact ptsF_fuel t _ _ _ (by rw [List.length_drop]; simp only [List.length_cons]; omega) (Nat.le_refl _)
theorem pts_pos {t : List Rg} {l : List UInt8} (h0 : l ≠ []) : 0 < (ptsOf t l).length := by
  cases h : (dec l false).2.2 with
  | true => rw [pts_more h0 h, List.length_map]; exact List.length_pos_iff.2 h0
  | false => rw [pts_one h0 h]; simp
/-- An induction over the points of bytes. -/
theorem pts_ind {P : List UInt8 → Prop} (h0 : P []) (h1 : ∀ l, l ≠ [] → (dec l false).2.2 = true → P l)
    (h2 : ∀ l, l ≠ [] → (dec l false).2.2 = false → 1 ≤ (dec l false).2.1.toNat → (dec l false).2.1.toNat ≤ l.length → P (l.drop (dec l false).2.1.toNat) → P l) : ∀ l, P l := by
  have key : ∀ n (l : List UInt8), l.length ≤ n → P l := by
    intro n
    induction n with
    | zero =>
      intro l hl
      obtain rfl : l = [] := List.eq_nil_of_length_eq_zero (by omega)
      exact h0
    | succ n ih =>
      intro l hl
      by_cases hn : l = []
      · rw [hn]; exact h0
      · cases h : (dec l false).2.2 with
        | true => exact h1 l hn h
        | false =>
          have hf := dec_nat hn h
          exact h2 l hn h hf.1 hf.2.1 (ih _ (by rw [List.length_drop]; omega))
  exact fun l => key l.length l (Nat.le_refl _)

/-! The reader's questions. -/
def isP (ps : List Pt) (i : Nat) (c : Int) : Bool := match ps[i]? with | some p => p.cls == c | none => false
def spP (ps : List Pt) (i : Nat) : Bool := match ps[i]? with | some p => isSp p.cls | none => false
def sureP (ps : List Pt) (n : Nat) : Bool := match ps[n - 1]? with | some p => p.sure | none => false
/-- The end of the points, from the i-th on, of which a test is true. -/
def whileP (f : Pt → Bool) (ps : List Pt) (i : Nat) : Nat := i + ((ps.drop i).takeWhile f).length
theorem while_yes {f : Pt → Bool} {ps : List Pt} {i : Nat} {p : Pt} (h : ps[i]? = some p) (hf : f p = true) : whileP f ps i = whileP f ps (i + 1) := by
  obtain ⟨hi, rfl⟩ := List.getElem?_eq_some_iff.1 h
  unfold whileP
  rw [List.drop_eq_getElem_cons hi, List.takeWhile_cons, if_pos hf, List.length_cons]
  omega
theorem while_no {f : Pt → Bool} {ps : List Pt} {i : Nat} {p : Pt} (h : ps[i]? = some p) (hf : f p = false) : whileP f ps i = i := by
  obtain ⟨hi, rfl⟩ := List.getElem?_eq_some_iff.1 h
  unfold whileP
  rw [List.drop_eq_getElem_cons hi, List.takeWhile_cons, if_neg (by rw [hf]; decide)]
  rfl
theorem while_end {f : Pt → Bool} {ps : List Pt} {i : Nat} (h : ps[i]? = none) : whileP f ps i = i := by
  unfold whileP
  rw [List.drop_eq_nil_of_le (by simpa using h)]
  rfl
theorem while_le (f : Pt → Bool) (ps : List Pt) (i : Nat) : i ≤ whileP f ps i ∧ (i ≤ ps.length → whileP f ps i ≤ ps.length) := by
  unfold whileP
  have := (List.takeWhile_sublist f (l := ps.drop i)).length_le
  rw [List.length_drop] at this
  omega
def runP (ps : List Pt) (i : Nat) (c : Int) : Nat := whileP (fun p => p.cls == c) ps i
def blanksP (ps : List Pt) : Nat := whileP (fun p => isSp p.cls) ps 0
def clsAt (ps : List Pt) (i : Nat) : Int := match ps[i]? with | some p => p.cls | none => 0
def codeAt (ps : List Pt) (i : Nat) : Int := match ps[i]? with | some p => p.code | none => 0
/-- The end of the points up to the last line, of so many. -/
def lineF (ps : List Pt) : Nat → Nat
  | 0 => 0
  | k + 1 => if clsAt ps k = 4 then k + 1 else lineF ps k
def lineP (ps : List Pt) : Nat := lineF ps (blanksP ps)
def lowP (wide : Bool) (c : Int) : Int := if wide = true ∧ 65 ≤ c ∧ c ≤ 90 then c - 65 + 97 else c
def smallP (ps : List Pt) (wide : Bool) (i : Nat) : Int := match ps[i]? with | some p => lowP wide p.code | none => -1
def endP (ps : List Pt) (wide : Bool) : Nat :=
  if smallP ps wide 0 = 39 then
    (if smallP ps wide 1 = 115 ∨ smallP ps wide 1 = 116 ∨ smallP ps wide 1 = 109 ∨ smallP ps wide 1 = 100 then 2
     else if (smallP ps wide 1 = 114 ∧ smallP ps wide 2 = 101) ∨ (smallP ps wide 1 = 118 ∧ smallP ps wide 2 = 101) ∨ (smallP ps wide 1 = 108 ∧ smallP ps wide 2 = 108) then 3 else 0)
  else 0
def pendP (ps : List Pt) (wide : Bool) : Bool :=
  decide (smallP ps wide 0 = 39) && !sureP ps 3 && (!sureP ps 2 || decide (smallP ps wide 1 = 114 ∨ smallP ps wide 1 = 118 ∨ smallP ps wide 1 = 108))
def ledP (ps : List Pt) (c : Int) : Nat := if codeAt ps 0 = 32 ∧ isP ps 1 c = true then runP ps 1 c else runP ps 0 c
def spacesP (ps : List Pt) : Nat × Nat := if blanksP ps < ps.length ∧ 1 < blanksP ps then (blanksP ps - 1, blanksP ps + 1) else (blanksP ps, blanksP ps + 1)
def plainP (ps : List Pt) : Nat × Nat :=
  if 0 < endP ps false then (endP ps false, endP ps false)
  else if 0 < ledP ps 1 then (ledP ps 1, ledP ps 1 + 1)
  else if 0 < ledP ps 2 then (ledP ps 2, ledP ps 2 + 1)
  else if 0 < ledP ps 0 then (ledP ps 0, ledP ps 0 + 1)
  else spacesP ps
def leadsP (ps : List Pt) : Bool := clsAt ps 0 == 0 || clsAt ps 0 == 3
def numsP (ps : List Pt) : Nat := min 3 (runP ps 0 2)
def broadP (ps : List Pt) : Nat × Nat :=
  if 0 < endP ps true then (endP ps true, endP ps true)
  else if 0 < runP ps 0 1 then (runP ps 0 1, runP ps 0 1 + 1)
  else if leadsP ps = true ∧ isP ps 1 1 = true then (runP ps 1 1, runP ps 1 1 + 1)
  else if 0 < numsP ps then (numsP ps, min (numsP ps + 1) 3)
  else if 0 < ledP ps 0 then (runP ps (ledP ps 0) 4, runP ps (ledP ps 0) 4 + 1)
  else if 0 < lineP ps then (lineP ps, blanksP ps + 1)
  else spacesP ps
def wordP (ps : List Pt) : Nat × Nat := (whileP (fun p => !isSp p.cls) ps (blanksP ps), whileP (fun p => !isSp p.cls) ps (blanksP ps) + 1)
/-- How many bytes the first points have. -/
def sumN (ps : List Pt) (k : Nat) : Nat := ((ps.take k).map Pt.n).sum
def cutP (kind : Int) (ps : List Pt) : Nat × Nat := if kind = 1 then wordP ps else if kind = 2 then plainP ps else broadP ps
/-- The first piece of bytes. -/
def nextP (kind : Int) (t : List Rg) (l : List UInt8) (final : Bool) : Nat × Bool :=
  if l = [] ∨ mayT t = false ∨ kind < 0 ∨ 3 < kind then (0, false)
  else if kind = 0 then (l.length, final)
  else (sumN (ptsOf t l) (cutP kind (ptsOf t l)).1, final || (sureP (ptsOf t l) (cutP kind (ptsOf t l)).2 && (decide (kind = 1) || !pendP (ptsOf t l) (decide (kind = 3)))))
end Go.Proofs.YtkiggpbmlkfdpaaDoor
