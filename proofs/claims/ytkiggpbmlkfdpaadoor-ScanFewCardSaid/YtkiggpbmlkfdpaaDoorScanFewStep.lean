/- The plain law of ScanFew: one round of the count. -/
import Derived.Test.YtkiggpbmlkfdpaaDoorScanCount
import Derived.Test.YtkiggpbmlkfdpaaDoorScanStay
/- The plain law of ScanStays: a decided piece stays whatever follows. -/
namespace Go.Proofs.YtkiggpbmlkfdpaaDoor
set_option linter.unusedVariables false

/-- The sure points of bytes are points of the bytes with more behind. -/
theorem pts_agree (t : List Rg) (d : List UInt8) : ∀ l : List UInt8, ∀ S, Shape (ptsOf t l) S → Agree S (ptsOf t l) (ptsOf t (l ++ d)) := by
  have zero : ∀ (ps qs : List Pt), (∀ (i : Nat) (p : Pt), ps[i]? = some p → p = openPt) → ∀ (S : Nat), Shape ps S → Agree S ps qs := by
    intro ps qs ho S hs i hi
    have hlt : i < ps.length := by have := hs.le; omega
    have hp : ps[i]? = some ps[i] := List.getElem?_eq_getElem hlt
    have h1 := ho i _ hp
    have h2 := (hs.yes i _ hp hi).1
    rw [h1] at h2
    cases h2
  refine pts_ind ?_ ?_ ?_
  · intro S hs
    exact zero _ _ (by intro i p hp; rw [pts_nil] at hp; cases hp) S hs
  · intro l h0 h S hs
    refine zero _ _ (fun i p hp => ?_) S hs
    rw [pts_more h0 h, List.getElem?_map] at hp
    cases hx : l[i]? with
    | none => rw [hx] at hp; cases hp
    | some x => rw [hx] at hp; simp at hp; exact hp.symm
  · intro l h0 h h1 h2 ih S hs i hi
    have hm := dec_more l d h
    have h' : (dec (l ++ d) false).2.2 = false := by rw [hm]; exact h
    have h0' : l ++ d ≠ [] := by simp [h0]
    rw [pts_one h0' h', hm, List.drop_append_of_le_length h2]
    have hs2 := hs
    rw [pts_one h0 h] at hs2 ⊢
    have hsh : Shape (ptsOf t (l.drop (dec l false).2.1.toNat)) (S - 1) := by
      refine ⟨by have := hs2.le; simp only [List.length_cons] at this; omega, fun i p hp hi => hs2.yes (i + 1) p (by rw [List.getElem?_cons_succ]; exact hp) (by omega), fun i p hp hi => hs2.no (i + 1) p (by rw [List.getElem?_cons_succ]; exact hp) (by omega)⟩
    cases i with
    | zero => rfl
    | succ j => rw [List.getElem?_cons_succ, List.getElem?_cons_succ]; exact ih (S - 1) hsh j (by omega)
theorem Agree.sum {S : Nat} {ps qs : List Pt} (h : Agree S ps qs) {k : Nat} (hk : k ≤ S) : sumN qs k = sumN ps k := by
  unfold sumN
  have : qs.take k = ps.take k := by
    apply List.ext_getElem?
    intro i
    rcases Nat.lt_or_ge i k with hi | hi
    · rw [List.getElem?_take_of_lt hi, List.getElem?_take_of_lt hi, h i (by omega)]
    · rw [List.getElem?_take, List.getElem?_take, if_neg (by omega), if_neg (by omega)]
  rw [this]
theorem sure_le {S : Nat} {ps : List Pt} (hs : Shape ps S) {n : Nat} (h : sureP ps n = true) : n ≤ S ∧ n - 1 < S := by
  unfold sureP at h
  cases hx : ps[n - 1]? with
  | none => rw [hx] at h; cases h
  | some p =>
    rw [hx] at h
    have : n - 1 < S := by
      rcases Nat.lt_or_ge (n - 1) S with h1 | h1
      · exact h1
      · have := hs.no _ _ hx h1
        rw [this] at h; cases h
    omega
theorem Agree.sureP_yes {S : Nat} {ps qs : List Pt} (h : Agree S ps qs) (hs : Shape ps S) {n : Nat} (hn : sureP ps n = true) : sureP qs n = true := by
  have := sure_le hs hn
  unfold sureP at hn ⊢
  rw [← h (n - 1) this.2]; exact hn
theorem Agree.pend_no {S : Nat} {ps qs : List Pt} (h : Agree S ps qs) (hs : Shape ps S) (h0 : 0 < S) {wide : Bool} (hp : pendP ps wide = false) : pendP qs wide = false := by
  unfold pendP at hp ⊢
  rw [h.small h0]
  by_cases h1 : smallP ps wide 0 = 39
  · rw [decide_eq_true h1, Bool.true_and] at hp ⊢
    cases h3 : sureP ps 3 with
    | true => rw [h.sureP_yes hs h3]; rfl
    | false =>
      rw [h3] at hp
      cases h2 : sureP ps 2 with
      | false => rw [h2] at hp; simp at hp
      | true =>
        have hlt := (sure_le hs h2).2
        rw [h2] at hp
        rw [h.sureP_yes hs h2, h.small (i := 1) (by omega)]
        simp only [Bool.not_false, Bool.true_and, Bool.not_true, Bool.false_or] at hp ⊢
        rw [hp]; simp
  · rw [decide_eq_false h1, Bool.false_and, Bool.false_and]
/-- A decided piece: it has bytes, and it is the same with more bytes behind, and with none to come. -/
theorem next_stays {kind : Int} {t : List Rg} {b : List UInt8} {n : Nat} (d : List UInt8) (final : Bool) (h : nextP kind t b false = (n, true)) :
    0 < n ∧ nextP kind t (b ++ d) final = (n, true) ∧ nextP kind t b true = (n, true) := by
  have hne : ¬ (b = [] ∨ mayT t = false ∨ kind < 0 ∨ 3 < kind) := fun e => by
    unfold nextP at h; rw [if_pos e] at h; injection h with h1 h2; cases h2
  have hk0 : ¬ kind = 0 := fun e => by
    unfold nextP at h; rw [if_neg hne, if_pos e] at h; injection h with h1 h2; cases h2
  have hb : b ≠ [] := fun e => hne (.inl e)
  have hv : mayT t = true := by cases hm : mayT t with | true => rfl | false => exact absurd (.inr (.inl hm)) hne
  have k0 : ¬ kind < 0 := fun e => hne (.inr (.inr (.inl e)))
  have k3 : ¬ 3 < kind := fun e => hne (.inr (.inr (.inr e)))
  have hbd := next_bounds (kind := kind) (t := t) false hb hv (by omega) (by omega)
  rw [h] at hbd
  have hbd' := h
  rw [next_some hb hv (by omega) (by omega), Prod.mk.injEq, Bool.false_or, Bool.and_eq_true] at hbd'
  obtain ⟨hn, hs, hp⟩ := hbd'
  obtain ⟨S, hsh, -⟩ := pts_shape t b
  have hag := pts_agree t d b S hsh
  have hr := sure_le hsh hs
  have hpp : kind = 1 ∨ pendP (ptsOf t b) (decide (kind = 3)) = false := by
    simpa using hp
  have hcut := hag.cut hsh (pts_pos hb) (by omega) (by omega) hr.1 hpp
  have hle : (cutP kind (ptsOf t b)).1 ≤ S := Nat.le_trans (cut_reach.2 (pts_pos hb)) hr.1
  refine ⟨hbd.1, ?_, ?_⟩
  · rw [next_some (by simp [hb]) hv (by omega) (by omega), hcut, hag.sum hle, hn, hag.sureP_yes hsh hs]
    refine Prod.ext rfl ?_
    show (final || (true && (decide (kind = 1) || !pendP (ptsOf t (b ++ d)) (decide (kind = 3))))) = true
    rcases hpp with hpp | hpp
    · rw [decide_eq_true hpp]; simp
    · rw [hag.pend_no hsh (by omega) hpp]; simp
  · rw [next_some hb hv (by omega) (by omega), hn]; rfl
end Go.Proofs.YtkiggpbmlkfdpaaDoor
/- The plain law of ScanFew: how many pieces are left from the first one that isn't decided. -/
namespace Go.Proofs.YtkiggpbmlkfdpaaDoor
set_option linter.unusedVariables false

section
variable {ps : List Pt} {S : Nat} {f : Pt → Bool}
theorem while_in {x : Nat} : ∀ (n i : Nat), x = i + n → x < whileP f ps i → ∃ p, ps[x]? = some p ∧ f p = true
  | n, i, hx, h => by
    cases hp : ps[i]? with
    | none => rw [while_end hp] at h; omega
    | some p =>
      cases hf : f p with
      | false => rw [while_no hp hf] at h; omega
      | true =>
        cases n with
        | zero => obtain rfl : x = i := by omega
                  exact ⟨p, hp, hf⟩
        | succ n => rw [while_yes hp hf] at h; exact while_in n (i + 1) (by omega) h
theorem while_stop : ∀ (n i : Nat), ps.length ≤ i + n → whileP f ps i < ps.length → ∃ p, ps[whileP f ps i]? = some p ∧ f p = false
  | n, i, hn, h => by
    cases hp : ps[i]? with
    | none => rw [while_end hp] at h; have := List.getElem?_eq_none_iff.1 hp; omega
    | some p =>
      cases hf : f p with
      | false => rw [while_no hp hf]; exact ⟨p, hp, hf⟩
      | true =>
        rw [while_yes hp hf] at h ⊢
        have hi : i < ps.length := (List.getElem?_eq_some_iff.1 hp).1
        cases n with
        | zero => omega
        | succ n => exact while_stop n (i + 1) (by omega) h
theorem while_sure (hs : Shape ps S) (hf : f openPt = false) {i : Nat} (hi : i ≤ S) : whileP f ps i ≤ S := by
  rcases Nat.lt_or_ge S (whileP f ps i) with h | h
  · obtain ⟨p, hp, hfp⟩ := while_in (S - i) i (show S = i + (S - i) by omega) h
    rw [hs.no S p hp (Nat.le_refl _), hf] at hfp; cases hfp
  · exact h
theorem while_open (hs : Shape ps S) {i : Nat} (hi : i ≤ S) : whileP f ps i ≤ S ∨ whileP f ps i = ps.length := by
  rcases Nat.lt_or_ge S (whileP f ps i) with h | h
  · right
    have hle := (while_le f ps i).2 (Nat.le_trans hi hs.le)
    rcases Nat.lt_or_ge (whileP f ps i) ps.length with h2 | h2
    · exfalso
      obtain ⟨p, hp, hfp⟩ := while_in (S - i) i (show S = i + (S - i) by omega) h
      obtain ⟨q, hq, hfq⟩ := while_stop (ps.length) i (by omega) h2
      rw [hs.no S p hp (Nat.le_refl _)] at hfp
      rw [hs.no _ q hq (by omega), hfp] at hfq
      cases hfq
    · omega
  · exact .inl h
theorem blanks_sure (hs : Shape ps S) : blanksP ps ≤ S := while_sure hs rfl (Nat.zero_le _)
theorem small_sure (hs : Shape ps S) {wide : Bool} {i : Nat} {x : Int} (h : smallP ps wide i = x) (hx : x ≠ -1) : i < S := by
  rcases Nat.lt_or_ge i S with h1 | h1
  · exact h1
  · rw [small_open hs h1] at h; exact absurd h.symm hx
theorem end_sure (hs : Shape ps S) (wide : Bool) : endP ps wide ≤ S := by
  unfold endP
  split
  · rename_i h0
    split
    · rename_i h1
      have : 1 < S := by rcases h1 with h | h | h | h <;> exact small_sure hs h (by decide)
      omega
    · split
      · rename_i h1
        have : 2 < S := by rcases h1 with h | h | h <;> exact small_sure hs h.2 (by decide)
        omega
      · omega
  · omega
theorem cls_sure (hs : Shape ps S) {i : Nat} (h : clsAt ps i ≠ 0) : i < S := by
  rcases Nat.lt_or_ge i S with h1 | h1
  · exact h1
  · exfalso
    apply h
    unfold clsAt
    cases hp : ps[i]? with
    | none => rfl
    | some p => rw [hs.no i p hp h1]; rfl
theorem is_cls {i : Nat} {c : Int} (hc : c ≠ 0) : isP ps i c = true ↔ clsAt ps i = c := by
  unfold isP clsAt
  cases hp : ps[i]? with
  | none => simp; exact fun e => hc e.symm
  | some p => simp
theorem led_open (hs : Shape ps S) (c : Int) : ledP ps c ≤ S ∨ ledP ps c = ps.length := by
  unfold ledP
  split
  · rename_i h
    have : 0 < S := by
      rcases Nat.eq_zero_or_pos S with h1 | h1
      · exfalso
        have h2 := h.1
        unfold codeAt at h2
        cases hp : ps[0]? with
        | none => rw [hp] at h2; cases h2
        | some p => rw [hp, hs.no 0 p hp (by omega)] at h2; cases h2
      · exact h1
    exact while_open hs (by omega)
  · exact while_open hs (Nat.zero_le _)
theorem spaces_sure (hs : Shape ps S) : (spacesP ps).1 ≤ S := by
  have := blanks_sure hs
  unfold spacesP
  split <;> simp only <;> omega
/-- No piece is cut inside the open points. -/
theorem cut_open {kind : Int} (hs : Shape ps S) (h0 : 0 < ps.length) (h : S < (cutP kind ps).1) : (cutP kind ps).1 = ps.length := by
  have key : (cutP kind ps).1 ≤ S ∨ (cutP kind ps).1 = ps.length := by
    unfold cutP
    split
    · exact while_open hs (blanks_sure hs)
    · split
      · unfold plainP
        split
        · exact .inl (end_sure hs _)
        · split
          · exact led_open hs _
          · split
            · exact led_open hs _
            · split
              · exact led_open hs _
              · exact .inl (spaces_sure hs)
      · unfold broadP
        split
        · exact .inl (end_sure hs _)
        · split
          · exact .inl (while_sure hs rfl (Nat.zero_le _))
          · split
            · rename_i h1
              have := cls_sure hs (i := 1) (by rw [(is_cls (by decide)).1 h1.2]; decide)
              exact .inl (while_sure hs rfl (by omega))
            · split
              · have : runP ps 0 2 ≤ S := while_sure hs rfl (Nat.zero_le _)
                exact .inl (by show numsP ps ≤ S; unfold numsP; omega)
              · split
                · rcases led_open hs 0 with h1 | h1
                  · exact .inl (while_sure hs rfl h1)
                  · refine .inr ?_
                    show runP ps (ledP ps 0) 4 = _
                    rw [h1]
                    exact while_end (List.getElem?_eq_none (Nat.le_refl _))
                · split
                  · have := blanks_sure hs
                    have := lineF_le ps (blanksP ps)
                    exact .inl (by show lineP ps ≤ S; unfold lineP; omega)
                  · exact .inl (spaces_sure hs)
  omega
end
/-- All bytes of these points are at most so many pieces. -/
def CL (kind : Int) (ps : List Pt) (n : Nat) : Prop := ∀ l, ptsOf usualT l = ps → (cutsL kind usualT l).length ≤ n
theorem usual_may12 : mayT usualT = true := by decide +kernel
section
variable {kind : Int} {ps : List Pt} {S k n m : Nat}
theorem CL.mono (h : CL kind ps n) (hm : n ≤ m) : CL kind ps m := fun l hl => Nat.le_trans (h l hl) hm
theorem CL.nil : CL kind [] 0 := fun l hl => by
  cases l with
  | nil => exact Nat.le_refl _
  | cons c r => have := pts_pos (t := usualT) (l := c :: r) (by simp); rw [hl] at this; cases this
theorem CL.step (h1 : 1 ≤ kind) (h3 : kind ≤ 3) (hs : Shape ps S) (hk : (cutP kind ps).1 = k) (hkS : k ≤ S) (h : CL kind (ps.drop k) n) : CL kind ps (n + 1) := fun l hl => by
  by_cases h0 : l = []
  · rw [h0]; simp [cutsL, cutsF]
  · rw [cuts_step usual_may12 (by omega) h3 h0, List.length_cons, next_some h0 usual_may12 h1 h3]
    subst hl
    have hd := pts_drop usualT l S hs k hkS
    simp only
    rw [hk]
    have := h _ hd.1
    omega
theorem CL.all (h1 : 1 ≤ kind) (h3 : kind ≤ 3) (hk : (cutP kind ps).1 = ps.length) : CL kind ps 1 := fun l hl => by
  by_cases h0 : l = []
  · rw [h0]; simp [cutsL, cutsF]
  · rw [cuts_step usual_may12 (by omega) h3 h0, List.length_cons, next_some h0 usual_may12 h1 h3]
    subst hl
    simp only
    rw [hk, sumN_total, List.drop_length]
    simp [cutsL, cutsF]
theorem Shape.drop (hs : Shape ps S) (k : Nat) (hk : k ≤ S) : Shape (ps.drop k) (S - k) := by
  refine ⟨by rw [List.length_drop]; have := hs.le; omega, fun i p hp hi => ?_, fun i p hp hi => ?_⟩
  · rw [List.getElem?_drop] at hp; exact hs.yes _ p hp (by omega)
  · rw [List.getElem?_drop] at hp; exact hs.no _ p hp (by omega)
/-- A piece that ends behind the sure points. -/
theorem CL.behind (h1 : 1 ≤ kind) (h3 : kind ≤ 3) (hs : Shape ps S) (hk : S ≤ (cutP kind ps).1) : CL kind ps 2 ∧ (ps.length = S → CL kind ps 1) := by
  by_cases h0 : 0 < ps.length
  · rcases Nat.lt_or_ge S (cutP kind ps).1 with h | h
    · have := CL.all h1 h3 (cut_open hs h0 h)
      exact ⟨this.mono (by omega), fun _ => this⟩
    · have he : (cutP kind ps).1 = S := by omega
      have hd := hs.drop S (Nat.le_refl _)
      rw [Nat.sub_self] at hd
      refine ⟨CL.step h1 h3 hs he (Nat.le_refl _) ?_, fun hl => CL.all h1 h3 (by omega)⟩
      by_cases hz : 0 < (ps.drop S).length
      · have hp := cut_pos hd hz h1 h3
        exact CL.all h1 h3 (cut_open hd hz (by omega))
      · have : ps.drop S = [] := List.eq_nil_of_length_eq_zero (by omega)
        rw [this]; exact CL.nil.mono (by omega)
  · have : ps = [] := List.eq_nil_of_length_eq_zero (by omega)
    rw [this]
    exact ⟨CL.nil.mono (by omega), fun _ => CL.nil.mono (by omega)⟩
/-- One sure point, and open ones. -/
theorem CL.one (h1 : 1 ≤ kind) (h3 : kind ≤ 3) (hs : Shape ps 1) : CL kind ps 2 ∧ (ps.length = 1 → CL kind ps 1) := by
  have h0 : 0 < ps.length := by have := hs.le; omega
  exact CL.behind h1 h3 hs (cut_pos hs h0 h1 h3)
end
section
variable {kind : Int} {ps : List Pt} {S k n m : Nat}
theorem lineF_none {ps : List Pt} : ∀ m, (∀ i, i < m → clsAt ps i ≠ 4) → lineF ps m = 0
  | 0, _ => rfl
  | m + 1, h => by rw [lineF, if_neg (h m (by omega))]; exact lineF_none m (fun i hi => h i (by omega))
theorem run_none {i : Nat} {c : Int} (hc : c ≠ 0) (h : clsAt ps i ≠ c) : runP ps i c = i := by
  unfold runP
  cases hp : ps[i]? with
  | none => exact while_end hp
  | some p =>
    refine while_no hp ?_
    rw [beq_eq_false_iff_ne]
    unfold clsAt at h
    rw [hp] at h
    exact h
/-- Spaces alone, none of them a line, and open points. -/
theorem CL.spaces (hs : Shape ps S) (h3 : ∀ i, i < S → clsAt ps i = 3) (hq : smallP ps true 0 ≠ 39) : CL 3 ps 3 ∧ (ps.length = S → CL 3 ps 1) := by
  rcases Nat.lt_or_ge (cutP 3 ps).1 S with hk | hk
  · have hz : 0 < S := by omega
    have hle := hs.le
    by_cases h1S : S = 1
    · subst h1S
      have := CL.one (kind := 3) (by decide) (by decide) hs
      exact ⟨this.1.mono (by omega), this.2⟩
    · have hb : blanksP ps = S := by
        have hbs := blanks_sure hs
        rcases Nat.lt_or_ge (blanksP ps) S with hlt | hge
        · exfalso
          obtain ⟨q, hq1, hq2⟩ := while_stop ps.length 0 (by omega) (show whileP (fun p => isSp p.cls) ps 0 < ps.length by show blanksP ps < _; omega)
          have hc := h3 (blanksP ps) hlt
          unfold clsAt at hc
          rw [show ps[blanksP ps]? = some q from hq1] at hc
          simp only at hc hq2
          rw [hc] at hq2
          cases hq2
        · omega
      have hcut : (cutP 3 ps).1 = (spacesP ps).1 := by
        rw [cut_3]
        unfold broadP
        have e0 : endP ps true = 0 := by unfold endP; rw [if_neg hq]
        have e1 : runP ps 0 1 = 0 := run_none (by decide) (by rw [h3 0 hz]; decide)
        have e2 : isP ps 1 1 ≠ true := fun e => by
          have := (is_cls (by decide)).1 e
          rw [h3 1 (by omega)] at this; cases this
        have e3 : numsP ps = 0 := by unfold numsP; rw [run_none (by decide) (by rw [h3 0 hz]; decide)]; rfl
        have e4 : ledP ps 0 = 0 := by
          have r0 : ∀ i, i < S → isP ps i 0 = false := fun i hi => by
            have := h3 i hi
            unfold isP; unfold clsAt at this
            cases hp : ps[i]? with
            | none => rfl
            | some p => rw [hp] at this; simp only at this ⊢; rw [this]; rfl
          unfold ledP
          rw [if_neg (fun e => by rw [r0 1 (by omega)] at e; exact absurd e.2 (by decide))]
          have hp : ps[0]? = some ps[0] := List.getElem?_eq_getElem (by omega)
          refine while_no hp ?_
          have := r0 0 hz
          unfold isP at this
          rw [hp] at this
          exact this
        have e5 : lineP ps = 0 := by
          unfold lineP
          exact lineF_none _ (fun i hi => by rw [h3 i (by omega)]; decide)
        rw [if_neg (by omega), if_neg (by omega), if_neg (fun e => e2 e.2), if_neg (by omega), if_neg (by omega), if_neg (by omega)]
      have hcut2 := hcut
      unfold spacesP at hcut2
      rw [hb] at hcut2
      by_cases hlen : S < ps.length
      · rw [if_pos ⟨hlen, by omega⟩] at hcut2
        simp only at hcut2
        have hd := hs.drop (S - 1) (by omega)
        rw [show S - (S - 1) = 1 by omega] at hd
        refine ⟨CL.step (n := 2) (by decide) (by decide) hs hcut2 (by omega) (CL.one (by decide) (by decide) hd).1, fun e => by omega⟩
      · rw [if_neg (fun e => hlen e.1)] at hcut2
        simp only at hcut2
        omega
  · have := CL.behind (kind := 3) (by decide) (by decide) hs hk
    exact ⟨this.1.mono (by omega), this.2⟩
/-- From a piece that isn't decided: at most four pieces; at most two, where no point is open. -/
theorem CL.few (h1 : 1 ≤ kind) (h3 : kind ≤ 3) (hs : Shape ps S) (h0 : 0 < ps.length) (hu : ∀ i, clsAt ps i = 3 → ∀ wide, smallP ps wide i ≠ 39)
    (hno : (sureP ps (cutP kind ps).2 && (decide (kind = 1) || !pendP ps (decide (kind = 3)))) = false) : CL kind ps 4 ∧ (ps.length = S → CL kind ps 2) := by
  have hle := hs.le
  rcases Nat.lt_or_ge (cutP kind ps).1 S with hk | hk
  · by_cases hr : (cutP kind ps).2 ≤ S
    · -- pending
      rw [hs.sure cut_reach.1, decide_eq_true hr, Bool.true_and, Bool.or_eq_false_iff] at hno
      have hp : pendP ps (decide (kind = 3)) = true := by
        have := hno.2
        cases hx : pendP ps (decide (kind = 3)) with
        | true => rfl
        | false => rw [hx] at this; cases this
      unfold pendP at hp
      rw [Bool.and_eq_true, Bool.and_eq_true, hs.sure (n := 3) (by omega)] at hp
      have hS3 : S < 3 := by have := hp.1.2; simpa using this
      have hkp := cut_pos hs h0 h1 h3
      obtain rfl : S = 2 := by omega
      have hd := hs.drop 1 (by omega)
      have hone := CL.one h1 h3 hd
      have hk1 : (cutP kind ps).1 = 1 := by omega
      refine ⟨(CL.step h1 h3 hs hk1 (by omega) hone.1).mono (by omega), fun e => CL.step h1 h3 hs hk1 (by omega) (hone.2 (by rw [List.length_drop]; omega))⟩
    · have hkp := cut_pos hs h0 h1 h3
      have spc : (cutP kind ps) = spacesP ps → CL kind ps 4 ∧ (ps.length = S → CL kind ps 2) := fun e => by
        rw [e] at hk hr
        have hb := blanks_sure hs
        unfold spacesP at hk hr
        by_cases hc : blanksP ps < ps.length ∧ 1 < blanksP ps
        · rw [if_pos hc] at hk hr
          simp only at hk hr
          have hbS : blanksP ps = S := by omega
          have hd := hs.drop (S - 1) (by omega)
          rw [show S - (S - 1) = 1 by omega] at hd
          have hk1 : (cutP kind ps).1 = S - 1 := by rw [e]; unfold spacesP; rw [if_pos hc, hbS]
          refine ⟨(CL.step h1 h3 hs hk1 (by omega) (CL.one h1 h3 hd).1).mono (by omega), fun e => by omega⟩
        · rw [if_neg hc] at hk hr
          simp only at hk hr
          omega
      rcases (by omega : kind = 1 ∨ kind = 2 ∨ kind = 3) with rfl | rfl | rfl
      · rw [cut_1] at hk hr
        unfold wordP at hk hr
        simp only at hk hr
        omega
      · rw [cut_2] at hk hr
        have hc := cut_2 ps
        unfold plainP at hk hr hc
        split at hk
        · rename_i g; rw [if_pos g] at hr; simp only at hk hr; omega
        · rename_i g
          rw [if_neg g] at hr hc
          split at hk
          · rename_i g; rw [if_pos g] at hr; simp only at hk hr; omega
          · rename_i g
            rw [if_neg g] at hr hc
            split at hk
            · rename_i g; rw [if_pos g] at hr; simp only at hk hr; omega
            · rename_i g
              rw [if_neg g] at hr hc
              split at hk
              · rename_i g; rw [if_pos g] at hr; simp only at hk hr; omega
              · rename_i g
                rw [if_neg g] at hr hc
                exact spc hc
      · rw [cut_3] at hk hr
        have hc := cut_3 ps
        unfold broadP at hk hr hc
        split at hk
        · rename_i g; rw [if_pos g] at hr; simp only at hk hr; omega
        · rename_i g
          rw [if_neg g] at hr hc
          split at hk
          · rename_i g; rw [if_pos g] at hr; simp only at hk hr; omega
          · rename_i g
            rw [if_neg g] at hr hc
            split at hk
            · rename_i g; rw [if_pos g] at hr; simp only at hk hr; omega
            · rename_i g
              rw [if_neg g] at hr hc
              split at hk
              · rename_i g; rw [if_pos g] at hr; simp only at hk hr; omega
              · rename_i g
                rw [if_neg g] at hr hc
                split at hk
                · rename_i g; rw [if_pos g] at hr; simp only at hk hr; omega
                · rename_i g
                  rw [if_neg g] at hr hc
                  split at hk
                  · rename_i g
                    rw [if_pos g] at hr hc
                    simp only at hk hr
                    have hb := blanks_sure hs
                    have hbS : blanksP ps = S := by omega
                    have hk1 : (cutP 3 ps).1 = lineP ps := by rw [hc]
                    have hcls : ∀ i, lineP ps ≤ i → i < S → clsAt ps i = 3 := fun i hi1 hi2 => by
                      obtain ⟨p, hp, hf⟩ := while_in (f := fun p => isSp p.cls) (ps := ps) (x := i) i 0 (by omega) (by show i < blanksP ps; omega)
                      have h4 : clsAt ps i ≠ 4 := by
                        have : ∀ m, lineF ps m ≤ i → i < m → clsAt ps i ≠ 4 := by
                          intro m
                          induction m with
                          | zero => intro _ h; omega
                          | succ m ih =>
                            intro hm1 hm2
                            rw [lineF] at hm1
                            by_cases hx : clsAt ps m = 4
                            · rw [if_pos hx] at hm1; omega
                            · rw [if_neg hx] at hm1
                              rcases Nat.lt_or_ge i m with hlt | hge
                              · exact ih hm1 hlt
                              · obtain rfl : i = m := by omega
                                exact hx
                        exact this (blanksP ps) hi1 (by omega)
                      unfold clsAt at h4 ⊢
                      rw [hp] at h4 ⊢
                      simp only at h4 hf ⊢
                      unfold isSp at hf
                      rw [Bool.or_eq_true, beq_iff_eq, beq_iff_eq] at hf
                      omega
                    have hd := hs.drop (lineP ps) (by omega)
                    have hcd : ∀ i, clsAt (ps.drop (lineP ps)) i = clsAt ps (lineP ps + i) := fun i => by unfold clsAt; rw [List.getElem?_drop]
                    have hsd : smallP (ps.drop (lineP ps)) true 0 = smallP ps true (lineP ps) := by unfold smallP; rw [List.getElem?_drop]; rfl
                    have hsp := CL.spaces hd (fun i hi => by rw [hcd]; exact hcls _ (by omega) (by omega)) (by rw [hsd]; exact hu _ (hcls _ (Nat.le_refl _) (by omega)) true)
                    refine ⟨CL.step (by decide) (by decide) hs hk1 (by omega) hsp.1, fun e => CL.step (by decide) (by decide) hs hk1 (by omega) (hsp.2 (by rw [List.length_drop]; omega))⟩
                  · rename_i g
                    rw [if_neg g] at hr hc
                    exact spc hc
  · have := CL.behind h1 h3 hs hk
    exact ⟨this.1.mono (by omega), fun e => (this.2 e).mono (by omega)⟩
end
end Go.Proofs.YtkiggpbmlkfdpaaDoor
namespace Go.Proofs.YtkiggpbmlkfdpaaDoor
set_option linter.unusedVariables false

theorem pts_cls (t : List Rg) : ∀ l : List UInt8, ∀ (i : Nat) (p : Pt), (ptsOf t l)[i]? = some p → p.sure = true → p.cls = clsT t p.code := by
  refine pts_ind ?_ ?_ ?_
  · intro i p hp; rw [pts_nil] at hp; cases hp
  · intro l h0 h i p hp hs
    rw [pts_more h0 h, List.getElem?_map] at hp
    cases hx : l[i]? with
    | none => rw [hx] at hp; cases hp
    | some x => rw [hx] at hp; simp at hp; rw [← hp] at hs; cases hs
  · intro l h0 h h1 h2 ih i p hp hs
    rw [pts_one h0 h] at hp
    cases i with
    | zero => simp at hp; rw [← hp]
    | succ i => rw [List.getElem?_cons_succ] at hp; exact ih i p hp hs
theorem quote_other : clsT usualT 39 ≠ 3 := by decide +kernel
theorem space_quote (l : List UInt8) (i : Nat) (h : clsAt (ptsOf usualT l) i = 3) (wide : Bool) : smallP (ptsOf usualT l) wide i ≠ 39 := by
  intro hs
  obtain ⟨S, hsh, -⟩ := pts_shape usualT l
  have hi := cls_sure hsh (i := i) (by rw [h]; decide)
  unfold clsAt at h
  unfold smallP at hs
  cases hp : (ptsOf usualT l)[i]? with
  | none => rw [hp] at h; cases h
  | some p =>
    rw [hp] at h hs
    simp only at h hs
    have hc := pts_cls usualT l i p hp (hsh.yes i p hp hi).1
    have h39 : p.code = 39 := by
      unfold lowP at hs
      split at hs <;> omega
    rw [h39] at hc
    exact quote_other (hc ▸ h)
def mostF (R : Nat) : Nat := if R = 0 then 2 else 4
def FewI (kind : Int) (R u : Nat) (l : List UInt8) : Prop := (u = 0 ∧ (l = [] ∨ restOf l = R)) ∨ (0 < u ∧ u + (cutsL kind usualT l).length ≤ mostF R)
theorem next_one {kind : Int} {l : List UInt8} {n : Nat} {ok : Bool} (h : nextP kind usualT l false = (n, ok)) : (nextP kind usualT l true).1 = n := by
  have : (nextP kind usualT l true).1 = (nextP kind usualT l false).1 := by unfold nextP; split; rfl; split <;> rfl
  rw [this, h]
theorem few_sure {kind : Int} {R n : Nat} {l : List UInt8} (h0 : l ≠ []) (h1 : 0 ≤ kind) (h3 : kind ≤ 3) (h : nextP kind usualT l false = (n, true)) (hI : FewI kind R 0 l) : FewI kind R 0 (l.drop n) := by
  refine .inl ⟨rfl, .inr ?_⟩
  have hr : restOf l = R := by
    rcases hI with ⟨_, h2⟩ | ⟨h2, _⟩
    · rcases h2 with h2 | h2
      · exact absurd h2 h0
      · exact h2
    · omega
  have hk0 : ¬ kind = 0 := fun e => by
    unfold nextP at h; rw [if_neg (by rintro (h4 | h4 | h4 | h4); exact h0 h4; rw [usual_may12] at h4; cases h4; omega; omega), if_pos e] at h; injection h with _ h2; cases h2
  rw [next_some h0 usual_may12 (by omega) h3, Prod.mk.injEq, Bool.false_or, Bool.and_eq_true] at h
  obtain ⟨S, hsh, -⟩ := pts_shape usualT l
  have hle := Nat.le_trans (cut_reach.2 (pts_pos (t := usualT) h0)) (sure_le hsh h.2.1).1
  have := (pts_drop usualT l S hsh _ hle).2
  rw [h.1] at this
  rw [this, hr]
theorem few_more {kind : Int} {R n u : Nat} {ok : Bool} {l : List UInt8} (h0 : l ≠ []) (h1 : 0 ≤ kind) (h3 : kind ≤ 3) (h : nextP kind usualT l false = (n, ok)) (hI : FewI kind R u l) (ho : ok = false ∨ 0 < u) : FewI kind R (u + 1) (l.drop n) := by
  refine .inr ⟨by omega, ?_⟩
  have hst := cuts_step (kind := kind) (t := usualT) usual_may12 h1 h3 h0
  rw [next_one h] at hst
  have hlen := congrArg List.length hst
  rw [List.length_cons] at hlen
  rcases hI with ⟨rfl, h2⟩ | ⟨h2, h4⟩
  · have hof : ok = false := by
      rcases ho with ho | ho
      · exact ho
      · omega
    subst hof
    have hr : restOf l = R := by
      rcases h2 with h2 | h2
      · exact absurd h2 h0
      · exact h2
    rcases Int.lt_or_le 0 kind with hk | hk
    · obtain ⟨S, hsh, hSl⟩ := pts_shape usualT l
      have hno := h
      rw [next_some h0 usual_may12 (by omega) h3, Prod.mk.injEq, Bool.false_or] at hno
      have hf := CL.few (by omega) h3 hsh (pts_pos h0) (fun i hi wide => space_quote l i hi wide) hno.2
      have hb : (cutsL kind usualT l).length ≤ mostF R := by
        unfold mostF
        by_cases hR : R = 0
        · rw [if_pos hR]; exact hf.2 (by omega) l rfl
        · rw [if_neg hR]; exact hf.1 l rfl
      omega
    · obtain rfl : kind = 0 := by omega
      have hn : n = l.length := by
        unfold nextP at h; rw [if_neg (by rintro (h4 | h4 | h4 | h4); exact h0 h4; rw [usual_may12] at h4; cases h4; omega; omega), if_pos rfl] at h; injection h with h _; exact h.symm
      rw [hn, List.drop_length]
      simp [cutsL, cutsF]
      unfold mostF; split <;> omega
  · omega
theorem few_end {kind : Int} {R u : Nat} (hI : FewI kind R u []) : u ≤ mostF R := by
  rcases hI with ⟨rfl, _⟩ | ⟨_, h⟩ <;> omega
end Go.Proofs.YtkiggpbmlkfdpaaDoor
