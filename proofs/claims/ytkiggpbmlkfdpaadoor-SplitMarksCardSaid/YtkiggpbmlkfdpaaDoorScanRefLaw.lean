/- The plain law of scan: the document's answer is the program's. -/
import Derived.Test.YtkiggpbmlkfdpaaDoorScanLaw
namespace Go.Proofs.YtkiggpbmlkfdpaaDoor
set_option linter.unusedVariables false

/-- Points of which the first S are sure, all others open. -/
structure Shape (ps : List Pt) (S : Nat) : Prop where
  le : S ≤ ps.length
  yes : ∀ i p, ps[i]? = some p → i < S → p.sure = true ∧ 1 ≤ p.n ∧ p.n ≤ 4 ∧ 0 ≤ p.cls ∧ p.cls ≤ 4 ∧ -1 ≤ p.code
  no : ∀ i p, ps[i]? = some p → S ≤ i → p = openPt
theorem clsT_bd (t : List Rg) (p : Int) : 0 ≤ clsT t p ∧ clsT t p ≤ 4 := by
  unfold clsT
  by_cases h : mayT t = true
  · rw [if_pos h]
    unfold mayT at h
    rw [Bool.and_eq_true] at h
    rcases ofT_mem (t := t) (p := p) with ⟨x, hx, _, h2⟩ | ⟨_, h2⟩
    · obtain ⟨i, hi, rfl⟩ := List.mem_iff_getElem.1 hx
      have := rOk_at h.2 hi
      rw [rg_get hi] at this
      omega
    · omega
  · rw [if_neg h]; omega
theorem shape_cons {ps : List Pt} {S : Nat} {p : Pt} (h : Shape ps S) (hp : p.sure = true ∧ 1 ≤ p.n ∧ p.n ≤ 4 ∧ 0 ≤ p.cls ∧ p.cls ≤ 4 ∧ -1 ≤ p.code) : Shape (p :: ps) (S + 1) := by
  refine ⟨by simp only [List.length_cons]; have := h.le; omega, fun i q hq hi => ?_, fun i q hq hi => ?_⟩
  · cases i with
    | zero => rw [List.getElem?_cons_zero] at hq; injection hq with hq; rw [← hq]; exact hp
    | succ i => rw [List.getElem?_cons_succ] at hq; exact h.yes i q hq (by omega)
  · cases i with
    | zero => omega
    | succ i => rw [List.getElem?_cons_succ] at hq; exact h.no i q hq (by omega)
theorem shape_open (l : List UInt8) : Shape (l.map fun _ => openPt) 0 := by
  refine ⟨Nat.zero_le _, fun i p _ h => absurd h (by omega), fun i p h _ => ?_⟩
  rw [List.getElem?_map] at h
  cases hc : l[i]? with
  | none => rw [hc] at h; cases h
  | some c => rw [hc] at h; injection h with h; exact h.symm
theorem dec_trip {l : List UInt8} {b : Bool} (h : (dec l false).2.2 = b) : dec l false = ((dec l false).1, (dec l false).2.1, b) := by subst h; rfl
theorem pts_shape (t : List Rg) : ∀ l : List UInt8, ∃ S, Shape (ptsOf t l) S ∧ (ptsOf t l).length = S + restOf l := by
  refine pts_ind ?_ ?_ ?_
  · exact ⟨0, ⟨Nat.zero_le _, fun i p h => by simp [pts_nil] at h, fun i p h => by simp [pts_nil] at h⟩, by rw [restOf_nil]; rfl⟩
  · intro l h0 h
    have hr : restOf l = l.length := restOf_more (List.length_pos_iff.2 h0) (dec_trip h)
    rw [pts_more h0 h]
    exact ⟨0, shape_open l, by rw [List.length_map, hr]; omega⟩
  · intro l h0 h h1 h2 ⟨S, hs, hl⟩
    have hr : restOf l = restOf (l.drop (dec l false).2.1.toNat) := restOf_step (List.length_pos_iff.2 h0) (dec_trip h)
    have hd := dec_nat h0 h
    have hc := clsT_bd t (dec l false).1
    rw [pts_one h0 h]
    exact ⟨S + 1, shape_cons hs ⟨rfl, hd.1, hd.2.2.1, hc.1, hc.2, hd.2.2.2.2⟩, by rw [List.length_cons, hl, ← hr]; omega⟩
section
variable {ps : List Pt} {S : Nat}
theorem Shape.sure (h : Shape ps S) {n : Nat} (hn : 1 ≤ n) : sureP ps n = decide (n ≤ S) := by
  unfold sureP
  cases hp : ps[n - 1]? with
  | none =>
    have := h.le
    rw [List.getElem?_eq_none_iff] at hp
    exact (decide_eq_false (by omega)).symm
  | some p =>
    simp only
    rcases Nat.lt_or_ge (n - 1) S with h1 | h1
    · rw [(h.yes _ _ hp h1).1]; exact (decide_eq_true (by omega)).symm
    · rw [h.no _ _ hp h1]; exact (decide_eq_false (by omega)).symm
theorem Shape.one (h : Shape ps S) {i : Nat} {p : Pt} (hp : ps[i]? = some p) : 1 ≤ p.n ∧ p.n ≤ 4 ∧ 0 ≤ p.cls ∧ p.cls ≤ 4 ∧ -1 ≤ p.code := by
  rcases Nat.lt_or_ge i S with h1 | h1
  · have := h.yes _ _ hp h1; exact this.2
  · rw [h.no _ _ hp h1]; simp [openPt]
theorem Shape.cls (h : Shape ps S) (i : Nat) : 0 ≤ clsAt ps i ∧ clsAt ps i ≤ 4 := by
  unfold clsAt
  cases hp : ps[i]? with
  | none => simp
  | some p => have := h.one hp; exact ⟨this.2.2.1, this.2.2.2.1⟩
end

/-! The document's questions. -/
/-- How many points of a class stand in a row from a place on; how many spaces. -/
def rRow (ps : List Pt) (i : Nat) (c : Int) : Nat := ((ps.drop i).takeWhile fun p => p.cls == c).length
def okC (wide : Bool) (p x : Int) : Bool := decide (p = x) || (wide && decide (97 ≤ x) && decide (p = x - 32))
def areR : List Pt → List Int → Bool → Bool
  | _, [], _ => true
  | [], _ :: _, _ => false
  | p :: ps, x :: s, wide => okC wide p.code x && areR ps s wide
def endsW : List (List Int) := [[39, 115], [39, 116], [39, 109], [39, 100], [39, 114, 101], [39, 118, 101], [39, 108, 108]]
def startsW : List (List Int) := [[39], [39, 114], [39, 118], [39, 108]]
def endG (ps : List Pt) (wide : Bool) : List (List Int) → Nat
  | [] => 0
  | s :: r => if areR ps s wide = true then s.length else endG ps wide r
def endR (ps : List Pt) (wide : Bool) : Nat := endG ps wide endsW
def begunG (ps : List Pt) (S : Nat) (wide : Bool) : List (List Int) → Bool
  | [] => false
  | s :: r => (decide (S = s.length) && areR ps s wide) || begunG ps S wide r
def begunR (ps : List Pt) (S : Nat) (wide : Bool) : Bool := begunG ps S wide startsW
def ledR (ps : List Pt) (c : Int) : Nat := if codeAt ps 0 = 32 ∧ 0 < rRow ps 1 c then 1 + rRow ps 1 c else rRow ps 0 c
def plainR (ps : List Pt) : Nat × Nat :=
  if 0 < endR ps false then (endR ps false, endR ps false)
  else if 0 < ledR ps 1 then (ledR ps 1, ledR ps 1 + 1)
  else if 0 < ledR ps 2 then (ledR ps 2, ledR ps 2 + 1)
  else if 0 < ledR ps 0 then (ledR ps 0, ledR ps 0 + 1)
  else spacesP ps
def wideR (ps : List Pt) : Nat × Nat :=
  if 0 < endR ps true then (endR ps true, endR ps true)
  else if clsAt ps 0 = 1 then (rRow ps 0 1, rRow ps 0 1 + 1)
  else if clsAt ps 0 ≠ 2 ∧ clsAt ps 0 ≠ 4 ∧ 0 < rRow ps 1 1 then (1 + rRow ps 1 1, 1 + rRow ps 1 1 + 1)
  else if 3 ≤ rRow ps 0 2 then (3, 3)
  else if 0 < rRow ps 0 2 then (rRow ps 0 2, rRow ps 0 2 + 1)
  else if 0 < ledR ps 0 then (ledR ps 0 + rRow ps (ledR ps 0) 4, ledR ps 0 + rRow ps (ledR ps 0) 4 + 1)
  else if 0 < lineP ps then (lineP ps, blanksP ps + 1)
  else spacesP ps
def cutR (kind : Int) (ps : List Pt) : Nat × Nat := if kind = 3 then wideR ps else if kind = 2 then plainR ps else wordP ps

theorem low_small {wide : Bool} {c x : Int} (h1 : 97 ≤ x) (h2 : x ≤ 122) : okC wide c x = decide (lowP wide c = x) := by
  unfold okC lowP
  cases wide with
  | false => simp
  | true =>
    by_cases hc : 65 ≤ c ∧ c ≤ 90
    · rw [if_pos ⟨rfl, hc⟩]
      by_cases he : c - 65 + 97 = x
      · rw [decide_eq_true he, decide_eq_true h1, decide_eq_true (show c = x - 32 by omega)]; simp
      · rw [decide_eq_false he, decide_eq_false (show ¬ c = x by omega), decide_eq_false (show ¬ c = x - 32 by omega)]; simp
    · rw [if_neg (fun h => hc h.2)]
      by_cases he : c = x
      · rw [decide_eq_true he]; rfl
      · rw [decide_eq_false he, decide_eq_false (show ¬ c = x - 32 by omega)]; simp
theorem low_quote {wide : Bool} {c : Int} : okC wide c 39 = decide (lowP wide c = 39) := by
  unfold okC lowP
  by_cases hc : wide = true ∧ 65 ≤ c ∧ c ≤ 90
  · rw [if_pos hc, decide_eq_false (show ¬ c = 39 by omega), decide_eq_false (show ¬ c - 65 + 97 = 39 by omega)]; simp
  · rw [if_neg hc]; simp
theorem are_1 (ps : List Pt) (wide : Bool) : areR ps [39] wide = decide (smallP ps wide 0 = 39) := by
  cases ps with
  | nil => rfl
  | cons a ps => simp only [areR, low_quote, Bool.and_true]; rfl
theorem are_2 (ps : List Pt) (wide : Bool) {x : Int} (h1 : 97 ≤ x) (h2 : x ≤ 122) : areR ps [39, x] wide = decide (smallP ps wide 0 = 39 ∧ smallP ps wide 1 = x) := by
  rcases ps with _ | ⟨a, _ | ⟨b, ps⟩⟩
  · simp [areR, smallP]
  · simp [areR, smallP]; omega
  · simp only [areR, low_quote, low_small h1 h2, Bool.and_true, Bool.decide_and]; rfl
theorem are_3 (ps : List Pt) (wide : Bool) {x y : Int} (h1 : 97 ≤ x) (h2 : x ≤ 122) (h3 : 97 ≤ y) (h4 : y ≤ 122) : areR ps [39, x, y] wide = decide (smallP ps wide 0 = 39 ∧ smallP ps wide 1 = x ∧ smallP ps wide 2 = y) := by
  rcases ps with _ | ⟨a, _ | ⟨b, _ | ⟨c, ps⟩⟩⟩
  · simp [areR, smallP]
  · simp [areR, smallP]; omega
  · simp [areR, smallP]; omega
  · simp only [areR, low_quote, low_small h1 h2, low_small h3 h4, Bool.and_true, Bool.decide_and]; rfl
theorem end_eq (ps : List Pt) (wide : Bool) : endR ps wide = endP ps wide := by
  unfold endR endP endsW
  simp only [endG, are_2 ps wide (show (97 : Int) ≤ 115 by decide) (by decide), are_2 ps wide (show (97 : Int) ≤ 116 by decide) (by decide), are_2 ps wide (show (97 : Int) ≤ 109 by decide) (by decide), are_2 ps wide (show (97 : Int) ≤ 100 by decide) (by decide),
    are_3 ps wide (show (97 : Int) ≤ 114 by decide) (by decide) (show (97 : Int) ≤ 101 by decide) (by decide), are_3 ps wide (show (97 : Int) ≤ 118 by decide) (by decide) (show (97 : Int) ≤ 101 by decide) (by decide),
    are_3 ps wide (show (97 : Int) ≤ 108 by decide) (by decide) (show (97 : Int) ≤ 108 by decide) (by decide), decide_eq_true_eq, List.length_cons, List.length_nil]
  generalize smallP ps wide 0 = a
  generalize smallP ps wide 1 = b
  generalize smallP ps wide 2 = c
  by_cases ha : a = 39
  · rw [if_pos ha]
    by_cases h1 : b = 115 ∨ b = 116 ∨ b = 109 ∨ b = 100
    · rw [if_pos h1]
      rcases h1 with h | h | h | h <;> simp [ha, h]
    · rw [if_neg h1, if_neg (by omega), if_neg (by omega), if_neg (by omega), if_neg (by omega)]
      by_cases h2 : (b = 114 ∧ c = 101) ∨ (b = 118 ∧ c = 101) ∨ (b = 108 ∧ c = 108)
      · rw [if_pos h2]
        rcases h2 with ⟨h, h'⟩ | ⟨h, h'⟩ | ⟨h, h'⟩ <;> simp [ha, h, h']
      · rw [if_neg h2, if_neg (by omega), if_neg (by omega), if_neg (by omega)]
  · rw [if_neg ha, if_neg (by omega), if_neg (by omega), if_neg (by omega), if_neg (by omega), if_neg (by omega), if_neg (by omega), if_neg (by omega)]
theorem small_open {ps : List Pt} {S : Nat} (h : Shape ps S) {wide : Bool} {i : Nat} (hi : S ≤ i) : smallP ps wide i = -1 := by
  unfold smallP
  cases hp : ps[i]? with
  | none => rfl
  | some p =>
    rw [h.no _ _ hp hi]
    show lowP wide (-1) = -1
    unfold lowP
    rw [if_neg (by omega)]
theorem begun_eq {ps : List Pt} {S : Nat} (h : Shape ps S) (wide : Bool) : begunR ps S wide = pendP ps wide := by
  unfold begunR pendP startsW
  rw [h.sure (by decide), h.sure (by decide)]
  simp only [begunG, are_1, are_2 ps wide (show (97 : Int) ≤ 114 by decide) (by decide), are_2 ps wide (show (97 : Int) ≤ 118 by decide) (by decide), are_2 ps wide (show (97 : Int) ≤ 108 by decide) (by decide), List.length_cons, List.length_nil]
  have h0 := fun hS : S ≤ 0 => small_open h (wide := wide) hS
  have h1 := fun hS : S ≤ 1 => small_open h (wide := wide) hS
  revert h0 h1
  generalize smallP ps wide 0 = a
  generalize smallP ps wide 1 = b
  intro h0 h1
  rw [Bool.eq_iff_iff]
  simp only [Bool.or_eq_true, Bool.and_eq_true, decide_eq_true_eq, Bool.not_eq_true', decide_eq_false_iff_not, Bool.or_false]
  omega
theorem run_row (ps : List Pt) (i : Nat) (c : Int) : runP ps i c = i + rRow ps i c := rfl
theorem is_row (ps : List Pt) (i : Nat) (c : Int) : isP ps i c = decide (0 < rRow ps i c) := by
  unfold isP rRow
  cases hp : ps[i]? with
  | none =>
    rw [List.getElem?_eq_none_iff] at hp
    rw [List.drop_eq_nil_of_le hp]; rfl
  | some p =>
    obtain ⟨hi, rfl⟩ := List.getElem?_eq_some_iff.1 hp
    rw [List.drop_eq_getElem_cons hi, List.takeWhile_cons]
    by_cases hc : (ps[i].cls == c) = true
    · rw [if_pos hc]; simp [hc]
    · rw [if_neg hc]; simp at hc; simp [hc]
theorem led_eq (ps : List Pt) (c : Int) : ledR ps c = ledP ps c := by
  unfold ledR ledP
  rw [is_row, run_row, run_row]
  simp only [decide_eq_true_eq, Nat.zero_add]
theorem plain_eq (ps : List Pt) : plainR ps = plainP ps := by
  unfold plainR plainP
  rw [end_eq, led_eq, led_eq, led_eq]
theorem cls_row (ps : List Pt) {c : Int} (hc : c ≠ 0) : 0 < rRow ps 0 c ↔ clsAt ps 0 = c := by
  have h := is_row ps 0 c
  rw [← decide_eq_true_eq (p := 0 < rRow ps 0 c), ← h]
  unfold isP clsAt
  cases ps[0]? with
  | none => simp; exact fun e => hc e.symm
  | some p => simp
theorem wide_eq {ps : List Pt} {S : Nat} (h : Shape ps S) : wideR ps = broadP ps := by
  have hc := h.cls 0
  have h1 := cls_row ps (c := 1) (by decide)
  have h2 := cls_row ps (c := 2) (by decide)
  have hl : (leadsP ps = true) ↔ clsAt ps 0 = 0 ∨ clsAt ps 0 = 3 := by unfold leadsP; simp
  unfold wideR broadP numsP
  rw [end_eq, led_eq, is_row, run_row, run_row, run_row, run_row]
  simp only [Nat.zero_add, decide_eq_true_eq, hl]
  by_cases he : 0 < endP ps true
  · rw [if_pos he, if_pos he]
  · rw [if_neg he, if_neg he]
    by_cases g1 : clsAt ps 0 = 1
    · rw [if_pos g1, if_pos (h1.2 g1)]
    · have k1 : ¬ 0 < rRow ps 0 1 := fun e => g1 (h1.1 e)
      rw [if_neg g1, if_neg k1]
      by_cases g2 : clsAt ps 0 ≠ 2 ∧ clsAt ps 0 ≠ 4 ∧ 0 < rRow ps 1 1
      · have k2 : (clsAt ps 0 = 0 ∨ clsAt ps 0 = 3) ∧ 0 < rRow ps 1 1 := ⟨by omega, g2.2.2⟩
        rw [if_pos g2, if_pos k2]
      · have k2 : ¬ ((clsAt ps 0 = 0 ∨ clsAt ps 0 = 3) ∧ 0 < rRow ps 1 1) := fun e => g2 ⟨by omega, by omega, e.2⟩
        rw [if_neg g2, if_neg k2]
        by_cases g3 : 3 ≤ rRow ps 0 2
        · rw [if_pos g3, Nat.min_eq_left g3]
          rfl
        · rw [if_neg g3, Nat.min_eq_right (by omega)]
          by_cases g4 : 0 < rRow ps 0 2
          · rw [if_pos g4, if_pos g4, Nat.min_eq_left (by omega)]
          · rw [if_neg g4, if_neg g4]
/-- The document's answer over the points. -/
def nextR (kind : Int) (t : List Rg) (l : List UInt8) (final : Bool) (S : Nat) : Nat × Bool :=
  if l = [] ∨ kind < 0 ∨ 3 < kind ∨ mayT t = false then (0, false)
  else if kind = 0 then (l.length, final)
  else if final = true then (sumN (ptsOf t l) (cutR kind (ptsOf t l)).1, true)
  else (sumN (ptsOf t l) (cutR kind (ptsOf t l)).1, decide ((cutR kind (ptsOf t l)).2 ≤ S) && (decide (kind = 1) || !begunR (ptsOf t l) S (decide (kind = 3))))
theorem cut_eq {kind : Int} {ps : List Pt} {S : Nat} (h : Shape ps S) (h1 : 1 ≤ kind) (h2 : kind ≤ 3) : cutR kind ps = cutP kind ps := by
  unfold cutR cutP
  rcases (by omega : kind = 1 ∨ kind = 2 ∨ kind = 3) with rfl | rfl | rfl
  · rfl
  · simp only [plain_eq]; rfl
  · simp only [wide_eq h]; rfl
theorem cut_reach {kind : Int} {ps : List Pt} : 1 ≤ (cutP kind ps).2 ∧ (0 < ps.length → (cutP kind ps).1 ≤ (cutP kind ps).2) := by
  unfold cutP
  split
  · unfold wordP; simp only; omega
  · split
    · unfold plainP spacesP
      (repeat' split) <;> simp only <;> omega
    · unfold broadP spacesP numsP
      (repeat' split) <;> simp only <;> (try omega)
      have h3 : ∀ k, lineF ps k ≤ k := by
        intro k
        induction k with
        | zero => exact Nat.le_refl _
        | succ k ih => rw [lineF]; split <;> omega
      have := h3 (blanksP ps)
      unfold lineP
      omega
theorem next_eq {kind : Int} {t : List Rg} {l : List UInt8} {final : Bool} {S : Nat} (h : Shape (ptsOf t l) S) : nextR kind t l final S = nextP kind t l final := by
  unfold nextR nextP
  by_cases h0 : l = [] ∨ kind < 0 ∨ 3 < kind ∨ mayT t = false
  · have h1 : l = [] ∨ mayT t = false ∨ kind < 0 ∨ 3 < kind := by
      rcases h0 with h | h | h | h
      · exact .inl h
      · exact .inr (.inr (.inl h))
      · exact .inr (.inr (.inr h))
      · exact .inr (.inl h)
    rw [if_pos h0, if_pos h1]
  · have h1 : ¬ (l = [] ∨ mayT t = false ∨ kind < 0 ∨ 3 < kind) := by
      intro e
      rcases e with h | h | h | h
      · exact h0 (.inl h)
      · exact h0 (.inr (.inr (.inr h)))
      · exact h0 (.inr (.inl h))
      · exact h0 (.inr (.inr (.inl h)))
    have k1 : ¬ kind < 0 := fun e => h0 (.inr (.inl e))
    have k2 : ¬ 3 < kind := fun e => h0 (.inr (.inr (.inl e)))
    rw [if_neg h0, if_neg h1]
    by_cases hk : kind = 0
    · rw [if_pos hk, if_pos hk]
    · rw [if_neg hk, if_neg hk, cut_eq h (by omega) (by omega), begun_eq h, h.sure cut_reach.1]
      cases final <;> simp
end Go.Proofs.YtkiggpbmlkfdpaaDoor
