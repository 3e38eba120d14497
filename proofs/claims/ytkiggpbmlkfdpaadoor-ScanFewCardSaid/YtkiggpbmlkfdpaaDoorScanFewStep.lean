/- The plain law of ScanFew: one round of the count. -/
import Derived.Test.YtkiggpbmlkfdpaaDoorScanFewLaw
namespace Go.Proofs.YtkiggpbmlkfdpaaDoor
set_option linter.unusedVariables false

theorem pts_cls (t : List Rg) : ∀ l : List UInt8, ∀ (i : Nat) (p : Pt), (ptsOf t l)[i]? = some p → p.sure = true → p.cls = clsT t p.code := by
  refine pts_ind ?_ ?_ ?_
  · intro i p hp; rw [pts_nil] at hp; cases hp
  · intro l h0 h i p hp hs
    rw [pts_more h0 h, List.getElem?_map] at hp
    cases hx : l[i]? with
    | none => rw [hx] at hp; cases hp
    | some x => rw [hx] at hp; simp at hp; rw [← hp] at hs; cases hs
  · intro l h0 h h1 h2 ih i p hp hs
    rw [pts_one h0 h] at hp
    cases i with
    | zero => simp at hp; rw [← hp]
    | succ i => rw [List.getElem?_cons_succ] at hp; exact ih i p hp hs
theorem quote_other : clsT usualT 39 ≠ 3 := by decide +kernel
theorem space_quote (l : List UInt8) (i : Nat) (h : clsAt (ptsOf usualT l) i = 3) (wide : Bool) : smallP (ptsOf usualT l) wide i ≠ 39 := by
  intro hs
  obtain ⟨S, hsh, -⟩ := pts_shape usualT l
  have hi := cls_sure hsh (i := i) (by rw [h]; decide)
  unfold clsAt at h
  unfold smallP at hs
  cases hp : (ptsOf usualT l)[i]? with
  | none => rw [hp] at h; cases h
  | some p =>
    rw [hp] at h hs
    simp only at h hs
    have hc := pts_cls usualT l i p hp (hsh.yes i p hp hi).1
    have h39 : p.code = 39 := by
      unfold lowP at hs
      split at hs <;> omega
    rw [h39] at hc
    exact quote_other (hc ▸ h)
def mostF (R : Nat) : Nat := if R = 0 then 2 else 4
def FewI (kind : Int) (R u : Nat) (l : List UInt8) : Prop := (u = 0 ∧ (l = [] ∨ restOf l = R)) ∨ (0 < u ∧ u + (cutsL kind usualT l).length ≤ mostF R)
theorem next_one {kind : Int} {l : List UInt8} {n : Nat} {ok : Bool} (h : nextP kind usualT l false = (n, ok)) : (nextP kind usualT l true).1 = n := by
  have : (nextP kind usualT l true).1 = (nextP kind usualT l false).1 := by unfold nextP; split; rfl; split <;> rfl
  rw [this, h]
theorem few_sure {kind : Int} {R n : Nat} {l : List UInt8} (h0 : l ≠ []) (h1 : 0 ≤ kind) (h3 : kind ≤ 3) (h : nextP kind usualT l false = (n, true)) (hI : FewI kind R 0 l) : FewI kind R 0 (l.drop n) := by
  refine .inl ⟨rfl, .inr ?_⟩
  have hr : restOf l = R := by
    rcases hI with ⟨_, h2⟩ | ⟨h2, _⟩
    · rcases h2 with h2 | h2
      · exact absurd h2 h0
      · exact h2
    · omega
  have hk0 : ¬ kind = 0 := fun e => by
    unfold nextP at h; rw [if_neg (by rintro (h4 | h4 | h4 | h4); exact h0 h4; rw [usual_may12] at h4; cases h4; omega; omega), if_pos e] at h; injection h with _ h2; cases h2
  rw [next_some h0 usual_may12 (by omega) h3, Prod.mk.injEq, Bool.false_or, Bool.and_eq_true] at h
  obtain ⟨S, hsh, -⟩ := pts_shape usualT l
  have hle := Nat.le_trans (cut_reach.2 (pts_pos (t := usualT) h0)) (sure_le hsh h.2.1).1
  have := (pts_drop usualT l S hsh _ hle).2
  rw [h.1] at this
  rw [this, hr]
theorem few_more {kind : Int} {R n u : Nat} {ok : Bool} {l : List UInt8} (h0 : l ≠ []) (h1 : 0 ≤ kind) (h3 : kind ≤ 3) (h : nextP kind usualT l false = (n, ok)) (hI : FewI kind R u l) (ho : ok = false ∨ 0 < u) : FewI kind R (u + 1) (l.drop n) := by
  refine .inr ⟨by omega, ?_⟩
  have hst := cuts_step (kind := kind) (t := usualT) usual_may12 h1 h3 h0
  rw [next_one h] at hst
  have hlen := congrArg List.length hst
  rw [List.length_cons] at hlen
  rcases hI with ⟨rfl, h2⟩ | ⟨h2, h4⟩
  · have hof : ok = false := by
      rcases ho with ho | ho
      · exact ho
      · omega
    subst hof
    have hr : restOf l = R := by
      rcases h2 with h2 | h2
      · exact absurd h2 h0
      · exact h2
    rcases Int.lt_or_le 0 kind with hk | hk
    · obtain ⟨S, hsh, hSl⟩ := pts_shape usualT l
      have hno := h
      rw [next_some h0 usual_may12 (by omega) h3, Prod.mk.injEq, Bool.false_or] at hno
      have hf := CL.few (by omega) h3 hsh (pts_pos h0) (fun i hi wide => space_quote l i hi wide) hno.2
      have hb : (cutsL kind usualT l).length ≤ mostF R := by
        unfold mostF
        by_cases hR : R = 0
        · rw [if_pos hR]; exact hf.2 (by omega) l rfl
        · rw [if_neg hR]; exact hf.1 l rfl
      omega
    · obtain rfl : kind = 0 := by omega
      have hn : n = l.length := by
        unfold nextP at h; rw [if_neg (by rintro (h4 | h4 | h4 | h4); exact h0 h4; rw [usual_may12] at h4; cases h4; omega; omega), if_pos rfl] at h; injection h with h _; exact h.symm
      rw [hn, List.drop_length]
      simp [cutsL, cutsF]
      unfold mostF; split <;> omega
  · omega
theorem few_end {kind : Int} {R u : Nat} (hI : FewI kind R u []) : u ≤ mostF R := by
  rcases hI with ⟨rfl, _⟩ | ⟨_, h⟩ <;> omega
end Go.Proofs.YtkiggpbmlkfdpaaDoor
