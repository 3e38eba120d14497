/- The plain law of ScanStays: a decided piece stays whatever follows. -/
import Derived.Test.YtkiggpbmlkfdpaaDoorScanCount
import Derived.Test.YtkiggpbmlkfdpaaDoorScanStay
namespace Go.Proofs.YtkiggpbmlkfdpaaDoor
set_option linter.unusedVariables false

/-- The sure points of bytes are points of the bytes with more behind. -/
theorem pts_agree (t : List Rg) (d : List UInt8) : ∀ l : List UInt8, ∀ S, Shape (ptsOf t l) S → Agree S (ptsOf t l) (ptsOf t (l ++ d)) := by
  have zero : ∀ (ps qs : List Pt), (∀ (i : Nat) (p : Pt), ps[i]? = some p → p = openPt) → ∀ (S : Nat), Shape ps S → Agree S ps qs := by
    intro ps qs ho S hs i hi
    have hlt : i < ps.length := by have := hs.le; omega
    have hp : ps[i]? = some ps[i] := List.getElem?_eq_getElem hlt
    have h1 := ho i _ hp
    have h2 := (hs.yes i _ hp hi).1
    rw [h1] at h2
    cases h2
  refine pts_ind ?_ ?_ ?_
  · intro S hs
    exact zero _ _ (by intro i p hp; rw [pts_nil] at hp; cases hp) S hs
  · intro l h0 h S hs
    refine zero _ _ (fun i p hp => ?_) S hs
    rw [pts_more h0 h, List.getElem?_map] at hp
    cases hx : l[i]? with
    | none => rw [hx] at hp; cases hp
    | some x => rw [hx] at hp; simp at hp; exact hp.symm
  · intro l h0 h h1 h2 ih S hs i hi
    have hm := dec_more l d h
    have h' : (dec (l ++ d) false).2.2 = false := by rw [hm]; exact h
    have h0' : l ++ d ≠ [] := by simp [h0]
    rw [pts_one h0' h', hm, List.drop_append_of_le_length h2]
    have hs2 := hs
    rw [pts_one h0 h] at hs2 ⊢
    have hsh : Shape (ptsOf t (l.drop (dec l false).2.1.toNat)) (S - 1) := by
      refine ⟨by have := hs2.le; simp only [List.length_cons] at this; omega, fun i p hp hi => hs2.yes (i + 1) p (by rw [List.getElem?_cons_succ]; exact hp) (by omega), fun i p hp hi => hs2.no (i + 1) p (by rw [List.getElem?_cons_succ]; exact hp) (by omega)⟩
    cases i with
    | zero => rfl
    | succ j => rw [List.getElem?_cons_succ, List.getElem?_cons_succ]; exact ih (S - 1) hsh j (by omega)
theorem Agree.sum {S : Nat} {ps qs : List Pt} (h : Agree S ps qs) {k : Nat} (hk : k ≤ S) : sumN qs k = sumN ps k := by
  unfold sumN
  have : qs.take k = ps.take k := by
    apply List.ext_getElem?
    intro i
    rcases Nat.lt_or_ge i k with hi | hi
    · rw [List.getElem?_take_of_lt hi, List.getElem?_take_of_lt hi, h i (by omega)]
    · rw [List.getElem?_take, List.getElem?_take, if_neg (by omega), if_neg (by omega)]
  rw [this]
theorem sure_le {S : Nat} {ps : List Pt} (hs : Shape ps S) {n : Nat} (h : sureP ps n = true) : n ≤ S ∧ n - 1 < S := by
  unfold sureP at h
  cases hx : ps[n - 1]? with
  | none => rw [hx] at h; cases h
  | some p =>
    rw [hx] at h
    have : n - 1 < S := by
      rcases Nat.lt_or_ge (n - 1) S with h1 | h1
      · exact h1
      · have := hs.no _ _ hx h1
        rw [this] at h; cases h
    omega
theorem Agree.sureP_yes {S : Nat} {ps qs : List Pt} (h : Agree S ps qs) (hs : Shape ps S) {n : Nat} (hn : sureP ps n = true) : sureP qs n = true := by
  have := sure_le hs hn
  unfold sureP at hn ⊢
  rw [← h (n - 1) this.2]; exact hn
theorem Agree.pend_no {S : Nat} {ps qs : List Pt} (h : Agree S ps qs) (hs : Shape ps S) (h0 : 0 < S) {wide : Bool} (hp : pendP ps wide = false) : pendP qs wide = false := by
  unfold pendP at hp ⊢
  rw [h.small h0]
  by_cases h1 : smallP ps wide 0 = 39
  · rw [decide_eq_true h1, Bool.true_and] at hp ⊢
    cases h3 : sureP ps 3 with
    | true => rw [h.sureP_yes hs h3]; rfl
    | false =>
      rw [h3] at hp
      cases h2 : sureP ps 2 with
      | false => rw [h2] at hp; simp at hp
      | true =>
        have hlt := (sure_le hs h2).2
        rw [h2] at hp
        rw [h.sureP_yes hs h2, h.small (i := 1) (by omega)]
        simp only [Bool.not_false, Bool.true_and, Bool.not_true, Bool.false_or] at hp ⊢
        rw [hp]; simp
  · rw [decide_eq_false h1, Bool.false_and, Bool.false_and]
/-- A decided piece: it has bytes, and it is the same with more bytes behind, and with none to come. -/
theorem next_stays {kind : Int} {t : List Rg} {b : List UInt8} {n : Nat} (d : List UInt8) (final : Bool) (h : nextP kind t b false = (n, true)) :
    0 < n ∧ nextP kind t (b ++ d) final = (n, true) ∧ nextP kind t b true = (n, true) := by
  have hne : ¬ (b = [] ∨ mayT t = false ∨ kind < 0 ∨ 3 < kind) := fun e => by
    unfold nextP at h; rw [if_pos e] at h; injection h with h1 h2; cases h2
  have hk0 : ¬ kind = 0 := fun e => by
    unfold nextP at h; rw [if_neg hne, if_pos e] at h; injection h with h1 h2; cases h2
  have hb : b ≠ [] := fun e => hne (.inl e)
  have hv : mayT t = true := by cases hm : mayT t with | true => rfl | false => exact absurd (.inr (.inl hm)) hne
  have k0 : ¬ kind < 0 := fun e => hne (.inr (.inr (.inl e)))
  have k3 : ¬ 3 < kind := fun e => hne (.inr (.inr (.inr e)))
  have hbd := next_bounds (kind := kind) (t := t) false hb hv (by omega) (by omega)
  rw [h] at hbd
  have hbd' := h
  rw [next_some hb hv (by omega) (by omega), Prod.mk.injEq, Bool.false_or, Bool.and_eq_true] at hbd'
  obtain ⟨hn, hs, hp⟩ := hbd'
  obtain ⟨S, hsh, -⟩ := pts_shape t b
  have hag := pts_agree t d b S hsh
  have hr := sure_le hsh hs
  have hpp : kind = 1 ∨ pendP (ptsOf t b) (decide (kind = 3)) = false := by
    simpa using hp
  have hcut := hag.cut hsh (pts_pos hb) (by omega) (by omega) hr.1 hpp
  have hle : (cutP kind (ptsOf t b)).1 ≤ S := Nat.le_trans (cut_reach.2 (pts_pos hb)) hr.1
  refine ⟨hbd.1, ?_, ?_⟩
  · rw [next_some (by simp [hb]) hv (by omega) (by omega), hcut, hag.sum hle, hn, hag.sureP_yes hsh hs]
    refine Prod.ext rfl ?_
    show (final || (true && (decide (kind = 1) || !pendP (ptsOf t (b ++ d)) (decide (kind = 3))))) = true
    rcases hpp with hpp | hpp
    · rw [decide_eq_true hpp]; simp
    · rw [hag.pend_no hsh (by omega) hpp]; simp
  · rw [next_some hb hv (by omega) (by omega), hn]; rfl
end Go.Proofs.YtkiggpbmlkfdpaaDoor
