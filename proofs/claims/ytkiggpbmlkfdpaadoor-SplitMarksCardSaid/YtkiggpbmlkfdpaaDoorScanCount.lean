/- The plain law of scan: how many bytes pieces have; what is left behind one. -/
import Derived.Test.YtkiggpbmlkfdpaaDoorScanNext
namespace Go.Proofs.YtkiggpbmlkfdpaaDoor
set_option linter.unusedVariables false

theorem sumN_cons (p : Pt) (ps : List Pt) (k : Nat) : sumN (p :: ps) (k + 1) = p.n + sumN ps k := by
  unfold sumN; rw [List.take_succ_cons, List.map_cons, List.sum_cons]
theorem sumN_zero (ps : List Pt) : sumN ps 0 = 0 := by simp [sumN]
theorem sumN_total (t : List Rg) : ∀ l : List UInt8, sumN (ptsOf t l) (ptsOf t l).length = l.length := by
  refine pts_ind rfl (fun l h0 h => ?_) (fun l h0 h h1 h2 ih => ?_)
  · rw [pts_more h0 h]
    unfold sumN
    rw [List.take_length, List.map_map]
    clear h0 h
    induction l with
    | nil => rfl
    | cons x r ih => rw [List.map_cons, List.sum_cons, ih, List.length_cons]; simp [openPt]; omega
  · rw [pts_one h0 h, List.length_cons, sumN_cons, ih, List.length_drop]
    simp only
    omega
theorem sumN_mono {ps : List Pt} {S : Nat} (h : Shape ps S) {i j : Nat} (hij : i ≤ j) (hj : j ≤ ps.length) : sumN ps i + (j - i) ≤ sumN ps j := by
  induction j with
  | zero =>
    have hi0 : i = 0 := by omega
    rw [hi0]
    exact Nat.le_refl _
  | succ j ih =>
    rcases Nat.lt_or_ge i (j + 1) with h1 | h1
    · have hp : ps[j]? = some ps[j] := List.getElem?_eq_getElem (by omega)
      have := ih (by omega) (by omega)
      have := (h.one hp).1
      rw [sumN_succ hp]
      omega
    · obtain rfl : i = j + 1 := by omega
      omega
theorem cut_pos {kind : Int} {ps : List Pt} {S : Nat} (h : Shape ps S) (h0 : 0 < ps.length) (h1 : 1 ≤ kind) (h3 : kind ≤ 3) : 1 ≤ (cutP kind ps).1 := by
  have hc := h.cls 0
  have sp : clsAt ps 0 = 3 ∨ clsAt ps 0 = 4 → 1 ≤ (spacesP ps).1 := fun e => by
    have hb := blanks_cls e h0
    unfold spacesP
    split <;> (try simp only) <;> omega
  unfold cutP
  rcases (by omega : kind = 1 ∨ kind = 2 ∨ kind = 3) with rfl | rfl | rfl
  · rw [if_pos rfl]
    unfold wordP
    simp only
    have hw := (while_le (fun p => !isSp p.cls) ps (blanksP ps)).1
    rcases Nat.eq_zero_or_pos (blanksP ps) with hb | hb
    · rw [hb]
      have hp : ps[0]? = some ps[0] := List.getElem?_eq_getElem h0
      have hns : isSp ps[0].cls = false := by
        cases hs : isSp ps[0].cls with
        | false => rfl
        | true =>
          have : clsAt ps 0 = 3 ∨ clsAt ps 0 = 4 := by
            unfold clsAt; rw [hp]; unfold isSp at hs; simpa using hs
          have := blanks_cls this h0
          omega
      rw [while_yes hp (by show (!isSp ps[0].cls) = true; rw [hns]; rfl)]
      exact (while_le (fun p => !isSp p.cls) ps (0 + 1)).1
    · omega
  · rw [if_neg (by decide), if_pos rfl]
    unfold plainP
    by_cases g : 0 < endP ps false
    · rw [if_pos g]; exact g
    · rw [if_neg g]
      by_cases g1 : 0 < ledP ps 1
      · rw [if_pos g1]; exact g1
      · rw [if_neg g1]
        by_cases g2 : 0 < ledP ps 2
        · rw [if_pos g2]; exact g2
        · rw [if_neg g2]
          by_cases g3 : 0 < ledP ps 0
          · rw [if_pos g3]; exact g3
          · rw [if_neg g3]
            have c1 : clsAt ps 0 ≠ 1 := fun e => g1 (led_cls e h0)
            have c2 : clsAt ps 0 ≠ 2 := fun e => g2 (led_cls e h0)
            have c3 : clsAt ps 0 ≠ 0 := fun e => g3 (led_cls e h0)
            exact sp (by omega)
  · rw [if_neg (by decide), if_neg (by decide)]
    unfold broadP
    by_cases g : 0 < endP ps true
    · rw [if_pos g]; exact g
    · rw [if_neg g]
      by_cases g1 : 0 < runP ps 0 1
      · rw [if_pos g1]; exact g1
      · rw [if_neg g1]
        by_cases g2 : leadsP ps = true ∧ isP ps 1 1 = true
        · rw [if_pos g2]; exact (while_le (fun p => p.cls == 1) ps 1).1
        · rw [if_neg g2]
          by_cases g3 : 0 < numsP ps
          · rw [if_pos g3]; exact g3
          · rw [if_neg g3]
            by_cases g4 : 0 < ledP ps 0
            · rw [if_pos g4]; exact Nat.le_trans g4 (while_le (fun p => p.cls == 4) ps (ledP ps 0)).1
            · rw [if_neg g4]
              by_cases g5 : 0 < lineP ps
              · rw [if_pos g5]; exact g5
              · rw [if_neg g5]
                have c1 : clsAt ps 0 ≠ 1 := fun e => g1 (run_cls e h0)
                have c2 : clsAt ps 0 ≠ 2 := fun e => g3 (by have := run_cls e h0; unfold numsP; omega)
                have c3 : clsAt ps 0 ≠ 0 := fun e => g4 (led_cls e h0)
                exact sp (by omega)
theorem next_some {kind : Int} {t : List Rg} {l : List UInt8} {final : Bool} (h0 : l ≠ []) (hv : mayT t = true) (h1 : 1 ≤ kind) (h3 : kind ≤ 3) : nextP kind t l final = (sumN (ptsOf t l) (cutP kind (ptsOf t l)).1, final || (sureP (ptsOf t l) (cutP kind (ptsOf t l)).2 && (decide (kind = 1) || !pendP (ptsOf t l) (decide (kind = 3))))) := by
  unfold nextP
  rw [if_neg (by rintro (h | h | h | h); exact h0 h; rw [hv] at h; cases h; omega; omega), if_neg (by omega)]
/-- A piece has a byte at least, and no more than there are. -/
theorem next_bounds {kind : Int} {t : List Rg} {l : List UInt8} (final : Bool) (h0 : l ≠ []) (hv : mayT t = true) (h1 : 0 ≤ kind) (h3 : kind ≤ 3) : 1 ≤ (nextP kind t l final).1 ∧ (nextP kind t l final).1 ≤ l.length := by
  rcases Int.lt_or_le 0 kind with hk | hk
  · rw [next_some h0 hv (by omega) h3]
    obtain ⟨S, hsh, -⟩ := pts_shape t l
    have hp := pts_pos (t := t) h0
    have hc := cut_pos hsh hp (show 1 ≤ kind by omega) h3
    have hl := cut_le (kind := kind) hp
    have h4 := sumN_mono hsh (Nat.zero_le _) hl
    have h5 := sumN_mono hsh hl (Nat.le_refl _)
    rw [sumN_total] at h5
    simp only
    omega
  · obtain rfl : kind = 0 := by omega
    unfold nextP
    rw [if_neg (by rintro (h | h | h | h); exact h0 h; rw [hv] at h; cases h; omega; omega), if_pos rfl]
    exact ⟨List.length_pos_iff.2 h0, Nat.le_refl _⟩
/-- Behind sure points lie the others. -/
theorem pts_drop (t : List Rg) : ∀ l : List UInt8, ∀ S, Shape (ptsOf t l) S → ∀ k, k ≤ S → ptsOf t (l.drop (sumN (ptsOf t l) k)) = (ptsOf t l).drop k ∧ restOf (l.drop (sumN (ptsOf t l) k)) = restOf l := by
  refine pts_ind ?_ ?_ ?_
  · intro S hs k hk
    simp [pts_nil, sumN]
  · intro l h0 h S hs k hk
    have hS : S = 0 := by
      rcases Nat.eq_zero_or_pos S with e | e
      · exact e
      · exfalso
        have hp : (ptsOf t l)[0]? = some ((ptsOf t l)[0]'(pts_pos h0)) := List.getElem?_eq_getElem _
        have h1 := (hs.yes 0 _ hp e).1
        have hl : (ptsOf t l)[0]'(pts_pos h0) = openPt := by simp [pts_more h0 h]
        rw [hl] at h1
        cases h1
    obtain rfl : k = 0 := by omega
    rw [sumN_zero]; exact ⟨rfl, rfl⟩
  · intro l h0 h h1 h2 ih S hs k hk
    rcases Nat.eq_zero_or_pos k with e | e
    · subst e; rw [sumN_zero]; exact ⟨rfl, rfl⟩
    · obtain ⟨k, rfl⟩ : ∃ k', k = k' + 1 := ⟨k - 1, by omega⟩
      have hr := restOf_step (List.length_pos_iff.2 h0) (dec_trip h)
      have hs2 := hs
      rw [pts_one h0 h] at hs2 ⊢
      have hsh : Shape (ptsOf t (l.drop (dec l false).2.1.toNat)) (S - 1) := by
        refine ⟨by have := hs2.le; simp only [List.length_cons] at this; omega, fun i p hp hi => hs2.yes (i + 1) p (by rw [List.getElem?_cons_succ]; exact hp) (by omega), fun i p hp hi => hs2.no (i + 1) p (by rw [List.getElem?_cons_succ]; exact hp) (by omega)⟩
      obtain ⟨i1, i2⟩ := ih (S - 1) hsh k (by omega)
      rw [sumN_cons, List.drop_succ_cons, hr]
      simp only
      rw [← List.drop_drop]
      exact ⟨i1, i2⟩
/-- The pieces of bytes. -/
def cutsF (kind : Int) (t : List Rg) : Nat → List UInt8 → List (List UInt8)
  | 0, _ => []
  | _ + 1, [] => []
  | k + 1, c :: r => (c :: r).take (nextP kind t (c :: r) true).1 :: cutsF kind t k ((c :: r).drop (nextP kind t (c :: r) true).1)
def cutsL (kind : Int) (t : List Rg) (l : List UInt8) : List (List UInt8) := cutsF kind t l.length l
theorem cutsF_fuel {kind : Int} {t : List Rg} (hv : mayT t = true) (h1 : 0 ≤ kind) (h3 : kind ≤ 3) : ∀ (k m : Nat) (l : List UInt8), l.length ≤ k → l.length ≤ m → cutsF kind t k l = cutsF kind t m l
  | 0, m, l, h, _ => by
    obtain rfl : l = [] := List.eq_nil_of_length_eq_zero (by omega)
    cases m <;> rfl
  | k + 1, 0, l, _, h => by
    obtain rfl : l = [] := List.eq_nil_of_length_eq_zero (by omega)
    rfl
  | k + 1, m + 1, [], _, _ => rfl
  | k + 1, m + 1, c :: r, ha, hb => by
    rw [cutsF, cutsF]
    have hn := next_bounds (l := c :: r) true (by simp) hv h1 h3
    simp only [List.length_cons] at ha hb
    rw [cutsF_fuel hv h1 h3 k m _ (by rw [List.length_drop]; simp only [List.length_cons]; omega) (by rw [List.length_drop]; simp only [List.length_cons]; omega)]
theorem cuts_step {kind : Int} {t : List Rg} {l : List UInt8} (hv : mayT t = true) (h1 : 0 ≤ kind) (h3 : kind ≤ 3) (h0 : l ≠ []) : cutsL kind t l = l.take (nextP kind t l true).1 :: cutsL kind t (l.drop (nextP kind t l true).1) := by
  unfold cutsL
  cases l with
  | nil => exact absurd rfl h0
  | cons c r =>
    rw [List.length_cons, cutsF]
    refine congrArg (List.cons _) ?_
    have hn := next_bounds (l := c :: r) true (by simp) hv h1 h3
    exact cutsF_fuel hv h1 h3 _ _ _ (by rw [List.length_drop]; simp only [List.length_cons]; omega) (Nat.le_refl _)
end Go.Proofs.YtkiggpbmlkfdpaaDoor
