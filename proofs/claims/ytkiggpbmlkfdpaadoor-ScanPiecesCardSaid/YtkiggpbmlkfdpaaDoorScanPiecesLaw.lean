/- The plain law of ScanPieces: what the points of a piece are. -/
import Derived.Test.YtkiggpbmlkfdpaaDoorScanFewStep
namespace Go.Proofs.YtkiggpbmlkfdpaaDoor
set_option linter.unusedVariables false

theorem scan_sound {l : List UInt8} {p k : Int} {more : Bool} (hl : 0 < l.length) (h : dec l true = (p, k, more)) (hp : 0 ≤ p) : encOf p = l.take k.toNat := by
  rw [dec_eq] at h
  obtain ⟨c, r, rfl⟩ := cons_of hl
  simp only [rDec] at h
  generalize rLong (c.toNat : Int) = q at *
  by_cases h1 : 0 < q ∧ q ≤ ((c :: r).length : Int)
  · rw [if_pos h1] at h
    by_cases h2 : 0 ≤ wholeOf (c :: r) q.toNat
    · rw [if_pos h2] at h
      obtain ⟨h3, h4⟩ := Prod.mk.inj h
      obtain ⟨h4, h5⟩ := Prod.mk.inj h4
      subst h4
      rw [← h3]
      unfold wholeOf at h2 ⊢
      by_cases h6 : isPoint (rBits (c :: r) q.toNat) = true ∧ encOf (rBits (c :: r) q.toNat) = (c :: r).take q.toNat
      · rw [if_pos h6]; exact h6.2
      · rw [if_neg h6] at h2; omega
    · rw [if_neg h2] at h
      have := (Prod.mk.inj h).1; omega
  · rw [if_neg h1] at h
    simp at h
    omega
/-- A point below 128 is one byte: that number. -/
theorem dec_low {l : List UInt8} {p k : Int} (hl : 0 < l.length) (h : dec l false = (p, k, false)) (h0 : 0 ≤ p) (h1 : p < 128) : k = 1 ∧ (l[0]'hl).toNat = p := by
  have ht := dec_true hl h
  have hs := scan_sound hl ht h0
  have hf := dec_step hl h
  have he := encOf_1 h0 h1
  obtain ⟨c, r, rfl⟩ := cons_of hl
  rw [hs] at he
  have hlen := congrArg List.length he
  rw [length_bytesV, List.length_take] at hlen
  simp only [List.length_cons, List.length_nil] at hlen hf
  have hk : k = 1 := by omega
  subst hk
  refine ⟨rfl, ?_⟩
  have : bytesV ((c :: r).take (1 : Int).toNat) = [.int .u8 (c.toNat : Int)] := rfl
  rw [this] at he
  simpa using he
theorem points_open {l : List UInt8} (h0 : l ≠ []) (h : (dec l false).2.2 = true) : pointsOf l = List.replicate l.length (-1) := by
  obtain ⟨c, r, rfl⟩ := cons_of (List.length_pos_iff.2 h0)
  obtain ⟨h3, h4, h5⟩ := more_shape (c := c) (r := r) h
  rw [pointsOf_step (by simp) h5, show ((1 : Int).toNat) = 1 from rfl, List.drop_succ_cons, List.drop_zero, points_tail r h4]
  rfl
/-- The points of a piece are its points. -/
theorem points_piece (t : List Rg) : ∀ l : List UInt8, ∀ S, Shape (ptsOf t l) S → ∀ k, (k ≤ S ∨ k = (ptsOf t l).length) → pointsOf (l.take (sumN (ptsOf t l) k)) = ((ptsOf t l).take k).map Pt.code := by
  refine pts_ind ?_ ?_ ?_
  · intro S hs k hk
    simp [pts_nil, pointsOf_nil]
  · intro l h0 h S hs k hk
    have hS : S = 0 := by
      rcases Nat.eq_zero_or_pos S with e | e
      · exact e
      · exfalso
        have hp : (ptsOf t l)[0]? = some ((ptsOf t l)[0]'(pts_pos h0)) := List.getElem?_eq_getElem _
        have h1 := (hs.yes 0 _ hp e).1
        have hl : (ptsOf t l)[0]'(pts_pos h0) = openPt := by simp [pts_more h0 h]
        rw [hl] at h1
        cases h1
    rcases hk with hk | hk
    · obtain rfl : k = 0 := by omega
      rw [sumN_zero]; simp [pointsOf_nil]
    · rw [hk, sumN_total, List.take_length, List.take_length, points_open h0 h, pts_more h0 h, List.map_map]
      have : (Pt.code ∘ fun (_ : UInt8) => openPt) = fun _ => -1 := rfl
      rw [this, List.map_const']
  · intro l h0 h h1 h2 ih S hs k hk
    rcases Nat.eq_zero_or_pos k with e | e
    · subst e; rw [sumN_zero]; simp [pointsOf_nil]
    · obtain ⟨k, rfl⟩ : ∃ k', k = k' + 1 := ⟨k - 1, by omega⟩
      have hs2 := hs
      have ht := dec_true (List.length_pos_iff.2 h0) (dec_trip h)
      rw [pts_one h0 h] at hs2 hk ⊢
      have hsh : Shape (ptsOf t (l.drop (dec l false).2.1.toNat)) (S - 1) := by
        refine ⟨by have := hs2.le; simp only [List.length_cons] at this; omega, fun i p hp hi => hs2.yes (i + 1) p (by rw [List.getElem?_cons_succ]; exact hp) (by omega), fun i p hp hi => hs2.no (i + 1) p (by rw [List.getElem?_cons_succ]; exact hp) (by omega)⟩
      have hi := ih (S - 1) hsh k (by simp only [List.length_cons] at hk; omega)
      rw [sumN_cons]
      simp only
      have hn := dec_nat h0 h
      have hm : 0 < (l.take ((dec l false).2.1.toNat + sumN (ptsOf t (l.drop (dec l false).2.1.toNat)) k)).length := by
        rw [List.length_take]; have := List.length_pos_iff.2 h0; omega
      rw [pointsOf_step hm (dec_take (List.length_pos_iff.2 h0) ht _ (by omega)), List.drop_take, show (dec l false).2.1.toNat + sumN (ptsOf t (l.drop (dec l false).2.1.toNat)) k - (dec l false).2.1.toNat = sumN (ptsOf t (l.drop (dec l false).2.1.toNat)) k from by omega, hi, List.take_succ_cons, List.map_cons]
theorem open_cls : clsT usualT (-1) = 0 := by decide +kernel
theorem pts_cls_all (l : List UInt8) (i : Nat) (p : Pt) (hp : (ptsOf usualT l)[i]? = some p) : clsT usualT p.code = p.cls := by
  obtain ⟨S, hsh, -⟩ := pts_shape usualT l
  rcases Nat.lt_or_ge i S with h | h
  · exact (pts_cls usualT l i p hp (hsh.yes i p hp h).1).symm
  · rw [hsh.no i p hp h]; exact open_cls
def mapC (c : Int) : Int := if c = 4 then 3 else c
def cl3 (q : List Int) (i : Nat) : Int := mapC (clsT usualT (q.getD i 0))
def lastC (q : List Int) : Nat → Int
  | 0 => -1
  | i + 1 => cl3 q i
def numF (q : List Int) : Nat → Nat
  | 0 => 0
  | i + 1 => numF q i + (if cl3 q i = 2 then 1 else 0)
def newC (sp : Bool) (q : List Int) (i : Nat) : Prop := cl3 q i ≠ lastC q i ∧ ¬ (i = 1 ∧ sp = true ∧ cl3 q i ≠ 3)
instance (sp : Bool) (q : List Int) (i : Nat) : Decidable (newC sp q i) := by unfold newC; infer_instance
def kinF (sp : Bool) (q : List Int) : Nat → Nat
  | 0 => 0
  | i + 1 => kinF sp q i + (if newC sp q i then 1 else 0)
theorem cl3_bd (q : List Int) (i : Nat) : 0 ≤ cl3 q i ∧ cl3 q i ≤ 3 := by
  have := clsT_bd usualT (q.getD i 0)
  unfold cl3 mapC
  split <;> omega
theorem numF_le (q : List Int) : ∀ i, numF q i ≤ i
  | 0 => Nat.le_refl _
  | i + 1 => by have := numF_le q i; rw [numF]; split <;> omega
theorem numF_one {q : List Int} {m : Nat} (h : ∀ i, 1 ≤ i → i < m → cl3 q i ≠ 2) : ∀ i, i ≤ m → numF q i ≤ 1
  | 0, _ => by rw [numF]; omega
  | 1, _ => by have := numF_le q 1; exact this
  | i + 2, hi => by
    have := numF_one h (i + 1) (by omega)
    rw [numF, if_neg (h (i + 1) (by omega) (by omega))]; omega
theorem kinF_le (sp : Bool) (q : List Int) : ∀ i, kinF sp q i ≤ i
  | 0 => Nat.le_refl _
  | i + 1 => by have := kinF_le sp q i; rw [kinF]; split <;> omega
theorem kinF_one {sp : Bool} {q : List Int} {m : Nat} (h : ∀ i, 1 ≤ i → i < m → ¬ newC sp q i) : ∀ i, i ≤ m → kinF sp q i ≤ 1
  | 0, _ => by rw [kinF]; omega
  | 1, _ => kinF_le sp q 1
  | i + 2, hi => by
    have := kinF_one h (i + 1) (by omega)
    rw [kinF, if_neg (h (i + 1) (by omega) (by omega))]; omega
def PieceOk (kind : Int) (l : List UInt8) (n : Nat) (q : List Int) : Prop :=
  (kind = 1 → ∀ i, i < q.length → cl3 q i = 3 → 0 ≤ lastC q i → lastC q i = 3) ∧
  (kind = 3 → numF q q.length ≤ 3) ∧
  (kind = 2 → kinF (decide (l[0]? = some 32)) q q.length ≤ 1 ∨ (l[0]? = some 39 ∧ n ≤ 3))
section
variable {ps : List Pt} {S : Nat}
theorem cls_of {i : Nat} {p : Pt} (h : ps[i]? = some p) : clsAt ps i = p.cls := by unfold clsAt; rw [h]
theorem run_cls_in {i x : Nat} {c : Int} (h1 : i ≤ x) (h2 : x < runP ps i c) : clsAt ps x = c := by
  obtain ⟨p, hp, hf⟩ := while_in (x - i) i (by omega) h2
  rw [cls_of hp]; simpa using hf
theorem blanks_cls_in {x : Nat} (h2 : x < blanksP ps) : mapC (clsAt ps x) = 3 := by
  obtain ⟨p, hp, hf⟩ := while_in (f := fun p => isSp p.cls) x 0 (by omega) h2
  rw [cls_of hp]
  unfold isSp at hf
  rw [Bool.or_eq_true, beq_iff_eq, beq_iff_eq] at hf
  unfold mapC
  split <;> omega
theorem led_cls_in {x : Nat} {c : Int} (h1 : 1 ≤ x) (h2 : x < ledP ps c) : clsAt ps x = c := by
  unfold ledP at h2
  split at h2
  · exact run_cls_in h1 h2
  · exact run_cls_in (Nat.zero_le _) h2
theorem broad_nums (ps : List Pt) : (broadP ps).1 ≤ 3 ∨ ∀ i, 1 ≤ i → i < (broadP ps).1 → clsAt ps i ≠ 2 := by
  unfold broadP
  split
  · left; simp only; unfold endP; (repeat' split) <;> omega
  · split
    · right; intro i h1 h2; rw [run_cls_in (Nat.zero_le _) h2]; decide
    · split
      · right; intro i h1 h2; rw [run_cls_in h1 h2]; decide
      · split
        · left; show numsP ps ≤ 3; unfold numsP; omega
        · split
          · right
            intro i h1 h2
            rcases Nat.lt_or_ge i (ledP ps 0) with h | h
            · rw [led_cls_in h1 h]; decide
            · rw [run_cls_in h h2]; decide
          · have sp : ∀ i, i < blanksP ps → clsAt ps i ≠ 2 := fun i hi e => by
              have := blanks_cls_in hi
              rw [e] at this; cases this
            split
            · right
              intro i h1 h2
              refine sp i (Nat.lt_of_lt_of_le h2 ?_)
              exact lineF_le ps _
            · right
              intro i h1 h2
              refine sp i ?_
              unfold spacesP at h2
              split at h2 <;> simp only at h2 <;> omega
theorem word_spaces (ps : List Pt) (i : Nat) (h2 : i + 1 < (wordP ps).1) (h3 : mapC (clsAt ps (i + 1)) = 3) : mapC (clsAt ps i) = 3 := by
  rcases Nat.lt_or_ge (i + 1) (blanksP ps) with h | h
  · exact blanks_cls_in (by omega)
  · exfalso
    obtain ⟨p, hp, hf⟩ := while_in (f := fun p => !isSp p.cls) (i + 1 - blanksP ps) (blanksP ps) (show i + 1 = _ by omega) h2
    rw [cls_of hp] at h3
    unfold mapC at h3
    unfold isSp at hf
    rw [Bool.not_eq_true', Bool.or_eq_false_iff, beq_eq_false_iff_ne, beq_eq_false_iff_ne] at hf
    split at h3 <;> omega
theorem plain_kinds (ps : List Pt) : 0 < endP ps false ∧ (plainP ps).1 = endP ps false ∨ ∀ i, 1 ≤ i → i < (plainP ps).1 → mapC (clsAt ps i) = mapC (clsAt ps (i - 1)) ∨ (i = 1 ∧ codeAt ps 0 = 32 ∧ mapC (clsAt ps i) ≠ 3) := by
  have led : ∀ c : Int, (c = 0 ∨ c = 1 ∨ c = 2) → ∀ i, 1 ≤ i → i < ledP ps c → mapC (clsAt ps i) = mapC (clsAt ps (i - 1)) ∨ (i = 1 ∧ codeAt ps 0 = 32 ∧ mapC (clsAt ps i) ≠ 3) := by
    intro c hc i h1 h2
    have hi := led_cls_in h1 h2
    by_cases hi1 : i = 1
    · subst hi1
      unfold ledP at h2
      split at h2
      · rename_i g
        right
        refine ⟨rfl, g.1, ?_⟩
        rw [hi]; unfold mapC; split <;> omega
      · left
        rw [hi, run_cls_in (i := 0) (x := 1 - 1) (Nat.zero_le _) (Nat.lt_of_le_of_lt (by omega) h2)]
    · left
      rw [hi, led_cls_in (c := c) (show 1 ≤ i - 1 by omega) (by omega)]
  unfold plainP
  split
  · rename_i g; exact .inl ⟨g, rfl⟩
  · right
    split
    · exact led 1 (by omega)
    · split
      · exact led 2 (by omega)
      · split
        · exact led 0 (by omega)
        · intro i h1 h2
          have hb : i < blanksP ps := by
            unfold spacesP at h2
            split at h2 <;> simp only at h2 <;> omega
          left
          rw [blanks_cls_in hb, blanks_cls_in (show i - 1 < blanksP ps by omega)]
end
/-- A point of a low code is one byte. -/
theorem pt_low (t : List Rg) : ∀ l : List UInt8, ∀ (i : Nat) (p : Pt), (ptsOf t l)[i]? = some p → 0 ≤ p.code → p.code < 128 → p.n = 1 := by
  refine pts_ind ?_ ?_ ?_
  · intro i p hp; rw [pts_nil] at hp; cases hp
  · intro l h0 h i p hp hs
    rw [pts_more h0 h, List.getElem?_map] at hp
    cases hx : l[i]? with
    | none => rw [hx] at hp; cases hp
    | some x => rw [hx] at hp; simp at hp; rw [← hp] at hs; exact absurd hs (by decide)
  · intro l h0 h h1 h2 ih i p hp h3 h4
    rw [pts_one h0 h] at hp
    cases i with
    | zero =>
      simp at hp
      rw [← hp] at h3 h4 ⊢
      have := (dec_low (List.length_pos_iff.2 h0) (dec_trip h) h3 h4).1
      simp only [this]
      rfl
    | succ i => rw [List.getElem?_cons_succ] at hp; exact ih i p hp h3 h4
theorem first_byte (t : List Rg) (l : List UInt8) (x : UInt8) (hx : x.toNat < 128) (h : codeAt (ptsOf t l) 0 = (x.toNat : Int)) (h0 : l ≠ []) : l[0]? = some x := by
  have hl := List.length_pos_iff.2 h0
  unfold codeAt at h
  cases hm : (dec l false).2.2 with
  | true =>
    rw [pts_more h0 hm, List.getElem?_map, List.getElem?_eq_getElem hl] at h
    simp only [Option.map_some] at h
    exact absurd h (by show (-1 : Int) ≠ _; omega)
  | false =>
    rw [pts_one h0 hm] at h
    simp only [List.getElem?_cons_zero] at h
    have := (dec_low hl (dec_trip hm) (by omega) (by omega)).2
    rw [List.getElem?_eq_getElem hl]
    congr 1
    apply UInt8.toNat_inj.1
    omega
theorem end_bytes (l : List UInt8) (h0 : l ≠ []) (h : 0 < endP (ptsOf usualT l) false) : l[0]? = some 39 ∧ sumN (ptsOf usualT l) (endP (ptsOf usualT l) false) ≤ 3 := by
  obtain ⟨S, hsh, -⟩ := pts_shape usualT l
  have hle := end_le (ptsOf usualT l) false
  have hcode : ∀ i, (x : Int) → x ≠ -1 → smallP (ptsOf usualT l) false i = x → ∃ p, (ptsOf usualT l)[i]? = some p ∧ p.code = x := by
    intro i x hx hs
    unfold smallP at hs
    cases hp : (ptsOf usualT l)[i]? with
    | none => rw [hp] at hs; exact absurd hs.symm hx
    | some p =>
      rw [hp] at hs
      refine ⟨p, rfl, ?_⟩
      unfold lowP at hs
      simpa using hs
  have hone : ∀ i, (x : Int) → 0 ≤ x → x < 128 → smallP (ptsOf usualT l) false i = x → ∃ p, (ptsOf usualT l)[i]? = some p ∧ p.n = 1 := by
    intro i x h1 h2 hs
    obtain ⟨p, hp, hc⟩ := hcode i x (by omega) hs
    exact ⟨p, hp, pt_low usualT l i p hp (by omega) (by omega)⟩
  by_cases g0 : smallP (ptsOf usualT l) false 0 = 39
  · obtain ⟨p0, hp0, hc0⟩ := hcode 0 39 (by decide) g0
    obtain ⟨_, hq0, hn0⟩ := hone 0 39 (by decide) (by decide) g0
    refine ⟨first_byte usualT l 39 (by decide) (by unfold codeAt; rw [hp0]; exact hc0) h0, ?_⟩
    have s1 : sumN (ptsOf usualT l) 1 = 1 := by rw [sumN_succ hq0, sumN_zero, hn0]
    unfold endP
    rw [if_pos g0]
    split
    · rename_i g1
      have : ∃ p, (ptsOf usualT l)[1]? = some p ∧ p.n = 1 := by
        rcases g1 with g | g | g | g <;> exact hone 1 _ (by decide) (by decide) g
      obtain ⟨p1, hp1, hn1⟩ := this
      rw [sumN_succ hp1, s1, hn1]; omega
    · split
      · rename_i g1
        have t1 : ∃ p, (ptsOf usualT l)[1]? = some p ∧ p.n = 1 := by
          rcases g1 with g | g | g <;> exact hone 1 _ (by decide) (by decide) g.1
        have t2 : ∃ p, (ptsOf usualT l)[2]? = some p ∧ p.n = 1 := by
          rcases g1 with g | g | g <;> exact hone 2 _ (by decide) (by decide) g.2
        obtain ⟨p1, hp1, hn1⟩ := t1
        obtain ⟨p2, hp2, hn2⟩ := t2
        rw [sumN_succ hp2, sumN_succ hp1, s1, hn1, hn2]; omega
      · rw [sumN_zero]; omega
  · unfold endP at h; rw [if_neg g0] at h; omega
theorem pieces_ok {kind : Int} {l : List UInt8} {n : Nat} (h0 : l ≠ []) (h1 : 1 ≤ kind) (h3 : kind ≤ 3) (hn : (nextP kind usualT l true).1 = n) : PieceOk kind l n (pointsOf (l.take n)) := by
  obtain ⟨S, hsh, -⟩ := pts_shape usualT l
  have hpos := pts_pos (t := usualT) h0
  rw [next_some h0 usual_may12 h1 h3] at hn
  simp only at hn
  have hcl := cut_le (kind := kind) hpos
  obtain ⟨k, hk⟩ : ∃ k, (cutP kind (ptsOf usualT l)).1 = k := ⟨_, rfl⟩
  rw [hk] at hn hcl
  have hkS : k ≤ S ∨ k = (ptsOf usualT l).length := by
    rcases Nat.lt_or_ge S k with h | h
    · right; rw [← hk]; exact cut_open hsh hpos (by omega)
    · exact .inl h
  have hq := points_piece usualT l S hsh k hkS
  rw [hn] at hq
  have hlen : (pointsOf (l.take n)).length = k := by rw [hq, List.length_map, List.length_take]; omega
  have hcls : ∀ i, i < k → cl3 (pointsOf (l.take n)) i = mapC (clsAt (ptsOf usualT l) i) := by
    intro i hi
    have hp : (ptsOf usualT l)[i]? = some ((ptsOf usualT l)[i]'(by omega)) := List.getElem?_eq_getElem _
    unfold cl3
    rw [hq, List.getD_eq_getElem?_getD, List.getElem?_map, List.getElem?_take_of_lt hi, hp]
    simp only [Option.map_some, Option.getD_some]
    rw [pts_cls_all l i _ hp, cls_of hp]
  refine ⟨fun hkd => ?_, fun hkd => ?_, fun hkd => ?_⟩
  · subst hkd
    rw [hlen]
    intro i hi hc hl
    cases i with
    | zero => exact absurd hl (by show ¬ (0 : Int) ≤ -1; decide)
    | succ i =>
      show cl3 _ i = 3
      rw [hcls _ hi] at hc
      rw [hcls i (by omega)]
      exact word_spaces _ i (by rw [cut_1] at hk; omega) hc
  · subst hkd
    rw [hlen]
    rw [cut_3] at hk
    rcases broad_nums (ptsOf usualT l) with h | h
    · have := numF_le (pointsOf (l.take n)) k; omega
    · have := numF_one (q := pointsOf (l.take n)) (m := k) (fun i hi1 hi2 => by
        rw [hcls i hi2]
        have := h i hi1 (by omega)
        unfold mapC
        split <;> omega) k (Nat.le_refl _)
      omega
  · subst hkd
    rw [hlen]
    rw [cut_2] at hk
    rcases plain_kinds (ptsOf usualT l) with ⟨h, he⟩ | h
    · right
      have := end_bytes l h0 h
      rw [← he, hk, hn] at this
      exact this
    · left
      refine kinF_one (m := k) (fun i hi1 hi2 => ?_) k (Nat.le_refl _)
      obtain ⟨j, rfl⟩ : ∃ j, i = j + 1 := ⟨i - 1, by omega⟩
      unfold newC
      show ¬ (cl3 _ (j + 1) ≠ cl3 _ j ∧ _)
      rw [hcls _ hi2, hcls j (by omega)]
      rcases h (j + 1) hi1 (by omega) with e | ⟨e1, e2, e3⟩
      · exact fun x => x.1 e
      · refine fun x => x.2 ⟨e1, ?_, e3⟩
        rw [decide_eq_true_iff]
        exact first_byte usualT l 32 (by decide) e2 h0
end Go.Proofs.YtkiggpbmlkfdpaaDoor
