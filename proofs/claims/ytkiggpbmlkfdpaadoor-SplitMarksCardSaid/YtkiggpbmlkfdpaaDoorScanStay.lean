/- The plain law of scan: a piece that is decided stays. -/
import Derived.Test.YtkiggpbmlkfdpaaDoorScanRefLaw
namespace Go.Proofs.YtkiggpbmlkfdpaaDoor
set_option linter.unusedVariables false

/-- Two rows of points that are the same up to a place. -/
def Agree (S : Nat) (ps qs : List Pt) : Prop := ∀ i, i < S → ps[i]? = qs[i]?
section
variable {S : Nat} {ps qs : List Pt}
theorem Agree.while (h : Agree S ps qs) (f : Pt → Bool) : ∀ (n i : Nat), S ≤ i + n → whileP f ps i < S → whileP f qs i = whileP f ps i
  | 0, i, hn, hw => absurd hw (by have := (while_le f ps i).1; omega)
  | n + 1, i, hn, hw => by
    have hi : i < S := by have := (while_le f ps i).1; omega
    have he := h i hi
    cases hp : ps[i]? with
    | none =>
      rw [while_end hp, while_end (by rw [← he, hp])]
    | some p =>
      rw [hp] at he
      cases hf : f p with
      | false => rw [while_no hp hf, while_no he.symm hf]
      | true =>
        rw [while_yes hp hf] at hw ⊢
        rw [while_yes he.symm hf]
        exact Agree.while h f n (i + 1) (by omega) hw
theorem Agree.run (h : Agree S ps qs) {i : Nat} {c : Int} (hw : runP ps i c < S) : runP qs i c = runP ps i c := h.while _ S i (by omega) hw
theorem Agree.isP (h : Agree S ps qs) {i : Nat} (hi : i < S) (c : Int) : isP qs i c = isP ps i c := by unfold Go.Proofs.YtkiggpbmlkfdpaaDoor.isP; rw [h i hi]
theorem Agree.small (h : Agree S ps qs) {i : Nat} (hi : i < S) (wide : Bool) : smallP qs wide i = smallP ps wide i := by unfold smallP; rw [h i hi]
theorem Agree.cls (h : Agree S ps qs) {i : Nat} (hi : i < S) : clsAt qs i = clsAt ps i := by unfold clsAt; rw [h i hi]
theorem Agree.code (h : Agree S ps qs) {i : Nat} (hi : i < S) : codeAt qs i = codeAt ps i := by unfold codeAt; rw [h i hi]
theorem Agree.line (h : Agree S ps qs) : ∀ k, k ≤ S → lineF qs k = lineF ps k
  | 0, _ => rfl
  | k + 1, hk => by rw [lineF, lineF, h.cls (by omega), h.line k (by omega)]
theorem Agree.led (h : Agree S ps qs) {c : Int} (h2 : 2 ≤ S) (hw : ledP ps c < S) : ledP qs c = ledP ps c := by
  unfold ledP at hw ⊢
  rw [h.code (by omega), h.isP (by omega)]
  by_cases hc : codeAt ps 0 = 32 ∧ Go.Proofs.YtkiggpbmlkfdpaaDoor.isP ps 1 c = true
  · rw [if_pos hc] at hw ⊢; rw [if_pos hc]; exact h.run hw
  · rw [if_neg hc] at hw ⊢; rw [if_neg hc]; exact h.run hw
theorem Agree.end_yes (h : Agree S ps qs) {wide : Bool} (h0 : 0 < endP ps wide) (hs : endP ps wide ≤ S) : endP qs wide = endP ps wide := by
  unfold endP at h0 hs ⊢
  by_cases a : smallP ps wide 0 = 39
  · rw [if_pos a] at h0 hs ⊢
    by_cases b : smallP ps wide 1 = 115 ∨ smallP ps wide 1 = 116 ∨ smallP ps wide 1 = 109 ∨ smallP ps wide 1 = 100
    · rw [if_pos b] at hs ⊢
      rw [h.small (by omega), h.small (by omega), if_pos a, if_pos b]
    · rw [if_neg b] at h0 hs ⊢
      by_cases c : (smallP ps wide 1 = 114 ∧ smallP ps wide 2 = 101) ∨ (smallP ps wide 1 = 118 ∧ smallP ps wide 2 = 101) ∨ (smallP ps wide 1 = 108 ∧ smallP ps wide 2 = 108)
      · rw [if_pos c] at hs ⊢
        rw [h.small (by omega), h.small (by omega), h.small (by omega), if_pos a, if_neg b, if_pos c]
      · rw [if_neg c] at h0; omega
  · rw [if_neg a] at h0; omega
theorem Agree.end_no (h : Agree S ps qs) {wide : Bool} (hs : Shape ps S) (h2 : 2 ≤ S) (hp : pendP ps wide = false) (he : ¬ 0 < endP ps wide) : ¬ 0 < endP qs wide := by
  have e0 := h.small (i := 0) (by omega) wide
  have e1 := h.small (i := 1) (by omega) wide
  have e2 : 3 ≤ S → smallP qs wide 2 = smallP ps wide 2 := fun h3 => h.small (by omega) wide
  unfold pendP at hp
  rw [hs.sure (by decide), hs.sure (by decide)] at hp
  have hp2 : ¬ (smallP ps wide 0 = 39 ∧ ¬ 3 ≤ S ∧ (smallP ps wide 1 = 114 ∨ smallP ps wide 1 = 118 ∨ smallP ps wide 1 = 108)) := by
    rintro ⟨a, b, c⟩
    rw [decide_eq_true a, decide_eq_false b, decide_eq_true c] at hp
    simp at hp
  unfold endP at he ⊢
  rw [e0, e1]
  revert e2 hp2 he
  generalize smallP ps wide 0 = a
  generalize smallP ps wide 1 = b
  generalize smallP ps wide 2 = c
  generalize smallP qs wide 2 = d
  intro he e2 hp2
  (repeat' split at he) <;> (repeat' split) <;> omega
theorem while_lt {f : Pt → Bool} {i j : Nat} (h : whileP f ps i < j) : i < j := Nat.lt_of_le_of_lt (while_le f ps i).1 h
theorem led_cls {c : Int} (h : clsAt ps 0 = c) (h0 : 0 < ps.length) : 0 < ledP ps c := by
  have hp : ps[0]? = some ps[0] := List.getElem?_eq_getElem h0
  unfold clsAt at h
  rw [hp] at h
  simp only at h
  unfold ledP
  split
  · have := (while_le (fun p => p.cls == c) ps 1).1
    unfold runP; omega
  · unfold runP
    rw [while_yes hp (by rw [h]; simp)]
    have := (while_le (fun p => p.cls == c) ps (0 + 1)).1
    omega
theorem run_cls {c : Int} (h : clsAt ps 0 = c) (h0 : 0 < ps.length) : 0 < runP ps 0 c := by
  have hp : ps[0]? = some ps[0] := List.getElem?_eq_getElem h0
  unfold clsAt at h
  rw [hp] at h
  simp only at h
  unfold runP
  rw [while_yes hp (by rw [h]; simp)]
  have := (while_le (fun p => p.cls == c) ps (0 + 1)).1
  omega
theorem blanks_cls (h : clsAt ps 0 = 3 ∨ clsAt ps 0 = 4) (h0 : 0 < ps.length) : 0 < blanksP ps := by
  have hp : ps[0]? = some ps[0] := List.getElem?_eq_getElem h0
  unfold clsAt at h
  rw [hp] at h
  simp only at h
  unfold blanksP
  rw [while_yes hp (by unfold isSp; rcases h with h | h <;> rw [h] <;> rfl)]
  have := (while_le (fun p => isSp p.cls) ps (0 + 1)).1
  omega
theorem Agree.spaces (h : Agree S ps qs) (hs : S ≤ ps.length) (hw : (spacesP ps).2 ≤ S) : spacesP qs = spacesP ps := by
  have h1 : blanksP ps < S := by
    unfold spacesP at hw
    split at hw <;> simp only at hw <;> omega
  have h2 : blanksP qs = blanksP ps := h.while _ S 0 (by omega) h1
  have h3 : blanksP qs < qs.length := by
    have := h _ h1
    rw [List.getElem?_eq_getElem (by omega)] at this
    have := (List.getElem?_eq_some_iff.1 this.symm).1
    omega
  unfold spacesP
  rw [h2]
  rw [h2] at h3
  by_cases hb : 1 < blanksP ps
  · rw [if_pos ⟨h3, hb⟩, if_pos ⟨by omega, hb⟩]
  · rw [if_neg (fun e => hb e.2), if_neg (fun e => hb e.2)]
theorem plain_two (hs : Shape ps S) (h0 : 0 < ps.length) (he : ¬ 0 < endP ps false) : 2 ≤ (plainP ps).2 := by
  have hc := hs.cls 0
  unfold plainP
  rw [if_neg he]
  by_cases a1 : 0 < ledP ps 1
  · rw [if_pos a1]; simp only; omega
  · rw [if_neg a1]
    by_cases a2 : 0 < ledP ps 2
    · rw [if_pos a2]; simp only; omega
    · rw [if_neg a2]
      by_cases a3 : 0 < ledP ps 0
      · rw [if_pos a3]; simp only; omega
      · rw [if_neg a3]
        have c1 : clsAt ps 0 ≠ 1 := fun e => a1 (led_cls e h0)
        have c2 : clsAt ps 0 ≠ 2 := fun e => a2 (led_cls e h0)
        have c3 : clsAt ps 0 ≠ 0 := fun e => a3 (led_cls e h0)
        have := blanks_cls (ps := ps) (by omega) h0
        unfold spacesP
        split <;> simp only <;> omega
theorem Agree.plain (h : Agree S ps qs) (hs : Shape ps S) (h0 : 0 < ps.length) (hr : (plainP ps).2 ≤ S) (hp : pendP ps false = false) : plainP qs = plainP ps := by
  by_cases he : 0 < endP ps false
  · have hl : endP ps false ≤ S := by unfold plainP at hr; rw [if_pos he] at hr; exact hr
    have e := h.end_yes he hl
    unfold plainP
    rw [e, if_pos he, if_pos he]
  · have h2 := Nat.le_trans (plain_two hs h0 he) hr
    have hq := h.end_no hs h2 hp he
    unfold plainP at hr ⊢
    rw [if_neg he] at hr ⊢
    rw [if_neg hq]
    by_cases a1 : 0 < ledP ps 1
    · rw [if_pos a1] at hr ⊢
      rw [h.led h2 (by simp only at hr; omega), if_pos a1]
    · rw [if_neg a1] at hr ⊢
      rw [h.led (c := 1) h2 (by omega), if_neg a1]
      by_cases a2 : 0 < ledP ps 2
      · rw [if_pos a2] at hr ⊢
        rw [h.led (c := 2) h2 (by simp only at hr; omega), if_pos a2]
      · rw [if_neg a2] at hr ⊢
        rw [h.led (c := 2) h2 (by omega), if_neg a2]
        by_cases a3 : 0 < ledP ps 0
        · rw [if_pos a3] at hr ⊢
          rw [h.led (c := 0) h2 (by simp only at hr; omega), if_pos a3]
        · rw [if_neg a3] at hr ⊢
          rw [h.led (c := 0) h2 (by omega), if_neg a3]
          exact h.spaces hs.le hr
theorem broad_two (hs : Shape ps S) (h0 : 0 < ps.length) (he : ¬ 0 < endP ps true) : 2 ≤ (broadP ps).2 := by
  have hc := hs.cls 0
  have hl := (while_le (fun p => p.cls == 1) ps 1).1
  have hl4 := fun k => (while_le (fun p => p.cls == 4) ps k).1
  unfold broadP
  rw [if_neg he]
  by_cases a1 : 0 < runP ps 0 1
  · rw [if_pos a1]; simp only; omega
  · rw [if_neg a1]
    by_cases a2 : leadsP ps = true ∧ Go.Proofs.YtkiggpbmlkfdpaaDoor.isP ps 1 1 = true
    · rw [if_pos a2]; simp only; unfold runP; omega
    · rw [if_neg a2]
      by_cases a3 : 0 < numsP ps
      · rw [if_pos a3]; simp only; omega
      · rw [if_neg a3]
        by_cases a4 : 0 < ledP ps 0
        · rw [if_pos a4]; simp only; have := hl4 (ledP ps 0); unfold runP; omega
        · rw [if_neg a4]
          have c1 : clsAt ps 0 ≠ 1 := fun e => a1 (run_cls e h0)
          have c2 : clsAt ps 0 ≠ 2 := fun e => a3 (by have := run_cls e h0; unfold numsP; omega)
          have c3 : clsAt ps 0 ≠ 0 := fun e => a4 (led_cls e h0)
          have := blanks_cls (ps := ps) (by omega) h0
          by_cases a5 : 0 < lineP ps
          · rw [if_pos a5]; simp only; omega
          · rw [if_neg a5]
            unfold spacesP
            split <;> simp only <;> omega
theorem nums_agree (h : Agree S ps qs) (h2 : 2 ≤ S) (hw : min (numsP ps + 1) 3 ≤ S) : numsP qs = numsP ps := by
  have key : ∀ (n i : Nat), i + n = 3 → i ≤ S → (runP ps i 2 < 3 → runP ps i 2 < S) → (3 ≤ S ∨ runP ps i 2 < S) → min 3 (runP qs i 2) = min 3 (runP ps i 2) := by
    intro n
    induction n with
    | zero =>
      intro i hi hiS _ _
      have a := (while_le (fun p => p.cls == 2) ps i).1
      have b := (while_le (fun p => p.cls == 2) qs i).1
      unfold runP
      omega
    | succ n ih =>
      intro i hi hiS h3 h4
      have a := (while_le (fun p => p.cls == 2) ps i).1
      have hiS' : i < S := by rcases h4 with h4 | h4 <;> (try unfold runP at h4) <;> omega
      have he := h i hiS'
      unfold runP at h3 h4 ⊢
      cases hp : ps[i]? with
      | none =>
        rw [while_end hp, while_end (by rw [← he, hp])]
      | some p =>
        rw [hp] at he
        cases hf : (p.cls == 2) with
        | false => rw [while_no hp hf, while_no he.symm hf]
        | true =>
          rw [while_yes hp hf] at h3 h4 ⊢
          rw [while_yes he.symm hf]
          exact ih (i + 1) (by omega) (by omega) h3 h4
  unfold numsP at hw ⊢
  exact key 3 0 rfl (by omega) (by omega) (by omega)
theorem Agree.broad (h : Agree S ps qs) (hs : Shape ps S) (h0 : 0 < ps.length) (hr : (broadP ps).2 ≤ S) (hp : pendP ps true = false) : broadP qs = broadP ps := by
  by_cases he : 0 < endP ps true
  · have hl : endP ps true ≤ S := by unfold broadP at hr; rw [if_pos he] at hr; exact hr
    have e := h.end_yes he hl
    unfold broadP
    rw [e, if_pos he, if_pos he]
  · have h2 := Nat.le_trans (broad_two hs h0 he) hr
    have hq := h.end_no hs h2 hp he
    have hlead : leadsP qs = leadsP ps := by unfold leadsP; rw [h.cls (by omega)]
    unfold broadP at hr ⊢
    rw [if_neg he] at hr ⊢
    rw [if_neg hq]
    by_cases a1 : 0 < runP ps 0 1
    · rw [if_pos a1] at hr ⊢
      rw [h.run (i := 0) (c := 1) (by simp only at hr; omega), if_pos a1]
    · rw [if_neg a1] at hr ⊢
      rw [h.run (i := 0) (c := 1) (by omega), if_neg a1, hlead, h.isP (i := 1) (by omega)]
      by_cases a2 : leadsP ps = true ∧ Go.Proofs.YtkiggpbmlkfdpaaDoor.isP ps 1 1 = true
      · rw [if_pos a2] at hr ⊢
        rw [if_pos a2, h.run (i := 1) (c := 1) (by simp only at hr; omega)]
      · rw [if_neg a2] at hr ⊢
        rw [if_neg a2]
        by_cases a3 : 0 < numsP ps
        · rw [if_pos a3] at hr ⊢
          rw [nums_agree h h2 hr, if_pos a3]
        · rw [if_neg a3] at hr ⊢
          rw [nums_agree h h2 (by omega), if_neg a3]
          by_cases a4 : 0 < ledP ps 0
          · rw [if_pos a4] at hr ⊢
            simp only at hr
            have hw := while_lt (f := fun p => p.cls == 4) (show whileP (fun p => p.cls == 4) ps (ledP ps 0) < S by unfold runP at hr; omega)
            rw [h.led (c := 0) h2 hw, if_pos a4, h.run (c := 4) (by omega)]
          · rw [if_neg a4] at hr ⊢
            rw [h.led (c := 0) h2 (by omega), if_neg a4]
            have hb : blanksP ps < S := by
              by_cases a5 : 0 < lineP ps
              · rw [if_pos a5] at hr; simp only at hr; omega
              · rw [if_neg a5] at hr
                unfold spacesP at hr
                split at hr <;> simp only at hr <;> omega
            have hb2 : blanksP qs = blanksP ps := h.while _ S 0 (by omega) hb
            have hl2 : lineP qs = lineP ps := by unfold lineP; rw [hb2, h.line _ (by omega)]
            rw [hl2, hb2]
            by_cases a5 : 0 < lineP ps
            · rw [if_pos a5, if_pos a5]
            · rw [if_neg a5] at hr
              rw [if_neg a5, if_neg a5]
              exact h.spaces hs.le hr
theorem Agree.word (h : Agree S ps qs) (hr : (wordP ps).2 ≤ S) : wordP qs = wordP ps := by
  unfold wordP at hr ⊢
  simp only at hr
  have hw := while_lt (f := fun p => !isSp p.cls) (ps := ps) (i := blanksP ps) (j := S) (by omega)
  have hb : blanksP qs = blanksP ps := h.while _ S 0 (by omega) hw
  rw [hb, h.while _ S (blanksP ps) (by omega) (by omega)]
theorem Agree.cut {kind : Int} (h : Agree S ps qs) (hs : Shape ps S) (h0 : 0 < ps.length) (h1 : 1 ≤ kind) (h3 : kind ≤ 3) (hr : (cutP kind ps).2 ≤ S) (hp : kind = 1 ∨ pendP ps (decide (kind = 3)) = false) : cutP kind qs = cutP kind ps := by
  unfold cutP at hr ⊢
  rcases (by omega : kind = 1 ∨ kind = 2 ∨ kind = 3) with rfl | rfl | rfl
  · exact h.word hr
  · refine h.plain hs h0 hr ?_
    rcases hp with hp | hp
    · exact absurd hp (by decide)
    · exact hp
  · refine h.broad hs h0 hr ?_
    rcases hp with hp | hp
    · exact absurd hp (by decide)
    · exact hp
end
end Go.Proofs.YtkiggpbmlkfdpaaDoor
