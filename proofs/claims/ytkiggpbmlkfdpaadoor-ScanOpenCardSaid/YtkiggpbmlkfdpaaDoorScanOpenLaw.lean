/- The plain law of ScanOpen: a piece that isn't decided is another one with one of a few signs behind. -/
import Derived.Test.YtkiggpbmlkfdpaaDoorScanFewStep
namespace Go.Proofs.YtkiggpbmlkfdpaaDoor
set_option linter.unusedVariables false

def signPt (x : UInt8) : Pt := ⟨(x.toNat : Int), clsT usualT (x.toNat : Int), 1, true⟩
theorem pts_snoc (x : UInt8) (hx : x.toNat < 128) : ∀ l : List UInt8, restOf l = 0 → ptsOf usualT (l ++ [x]) = ptsOf usualT l ++ [signPt x] := by
  refine pts_ind ?_ ?_ ?_
  · intro _
    have hd : dec [x] false = ((x.toNat : Int), 1, false) := by
      rw [dec_some (n := 1) (kind_1 (by omega)) (by decide), decGo_zero]; rfl
    rw [List.nil_append, pts_one (by simp) (by rw [hd]), hd]
    rfl
  · intro l h0 h hr
    rw [restOf_more (List.length_pos_iff.2 h0) (dec_trip h)] at hr
    exact absurd (List.eq_nil_of_length_eq_zero hr) h0
  · intro l h0 h h1 h2 ih hr
    rw [restOf_step (List.length_pos_iff.2 h0) (dec_trip h)] at hr
    have hm := dec_more l [x] h
    rw [pts_one (by simp [h0]) (by rw [hm]; exact h), hm, List.drop_append_of_le_length h2, ih hr, pts_one h0 h]
    rfl
section
variable {ps : List Pt} {q : Pt}
theorem agree_snoc (ps : List Pt) (q : Pt) : Agree ps.length ps (ps ++ [q]) := fun i hi => (List.getElem?_append_left hi).symm
theorem snoc_last (ps : List Pt) (q : Pt) : (ps ++ [q])[ps.length]? = some q := by simp
theorem while_snoc {f : Pt → Bool} {i : Nat} (h : whileP f ps i = ps.length) (hi : i ≤ ps.length) (hf : f q = true) : whileP f (ps ++ [q]) i = ps.length + 1 := by
  unfold whileP at h ⊢
  have h1 : ((ps.drop i).takeWhile f).length = (ps.drop i).length := by rw [List.length_drop]; omega
  have h2 : (ps.drop i).takeWhile f = ps.drop i := (List.takeWhile_sublist f).eq_of_length h1
  have h3 : ∀ a ∈ ps.drop i, f a = true := fun a ha => by
    rw [← h2] at ha
    have := List.all_takeWhile (p := f) (l := ps.drop i)
    rw [List.all_eq_true] at this
    exact this a ha
  rw [List.drop_append_of_le_length hi, List.takeWhile_append_of_pos h3, List.takeWhile_cons, if_pos hf, List.length_append]
  simp only [List.takeWhile_nil, List.length_cons, List.length_nil, List.length_drop]
  omega
theorem while_snoc_no {f : Pt → Bool} {i : Nat} (h : whileP f ps i = ps.length) (hi : i ≤ ps.length) (hf : f q = false) : whileP f (ps ++ [q]) i = ps.length := by
  unfold whileP at h ⊢
  have h1 : ((ps.drop i).takeWhile f).length = (ps.drop i).length := by rw [List.length_drop]; omega
  have h2 : (ps.drop i).takeWhile f = ps.drop i := (List.takeWhile_sublist f).eq_of_length h1
  have h3 : ∀ a ∈ ps.drop i, f a = true := fun a ha => by
    rw [← h2] at ha
    have := List.all_takeWhile (p := f) (l := ps.drop i)
    rw [List.all_eq_true] at this
    exact this a ha
  rw [List.drop_append_of_le_length hi, List.takeWhile_append_of_pos h3, List.takeWhile_cons, if_neg (by rw [hf]; decide), List.length_append]
  simp only [List.length_nil, List.length_drop]
  omega
theorem while_snoc_eq {f : Pt → Bool} {i : Nat} (hi : i ≤ ps.length) (hf : f q = false) : whileP f (ps ++ [q]) i = whileP f ps i := by
  have := (while_le f ps i).2 hi
  rcases Nat.lt_or_ge (whileP f ps i) ps.length with h | h
  · exact (agree_snoc ps q).while f ps.length i (by omega) h
  · have he : whileP f ps i = ps.length := by omega
    rw [he]; exact while_snoc_no he hi hf
theorem is_snoc {c : Int} (h0 : 0 < ps.length) : isP (ps ++ [q]) 1 c = if ps.length = 1 then q.cls == c else isP ps 1 c := by
  by_cases h : ps.length = 1
  · rw [if_pos h]
    unfold isP
    have := snoc_last ps q
    rw [h] at this
    rw [this]
  · rw [if_neg h]; exact (agree_snoc ps q).isP (by omega) c
theorem is_out {c : Int} (h : ps.length = 1) : isP ps 1 c = false := by
  unfold isP
  rw [List.getElem?_eq_none (by omega)]
theorem led_snoc {c : Int} (h0 : 0 < ps.length) (h : ledP ps c = ps.length) (hc : q.cls = c) : ledP (ps ++ [q]) c = ps.length + 1 := by
  have hq : (q.cls == c) = true := by rw [hc]; exact beq_self_eq_true c
  unfold ledP at h ⊢
  rw [(agree_snoc ps q).code h0, is_snoc h0]
  by_cases h1 : ps.length = 1
  · rw [if_pos h1, is_out h1] at *
    have h2 : runP ps 0 c = ps.length := by simpa using h
    by_cases h3 : codeAt ps 0 = 32
    · rw [if_pos ⟨h3, hq⟩]
      exact while_snoc (by rw [← h1]; exact while_end (List.getElem?_eq_none (Nat.le_refl _))) (by omega) hq
    · rw [if_neg (fun e => h3 e.1)]
      exact while_snoc h2 (Nat.zero_le _) hq
  · rw [if_neg h1]
    split at h
    · rename_i g
      rw [if_pos g]
      exact while_snoc h (by omega) hq
    · rename_i g
      rw [if_neg g]
      exact while_snoc h (Nat.zero_le _) hq
theorem led_same {c : Int} (h0 : 0 < ps.length) (hc : q.cls ≠ c) : ledP (ps ++ [q]) c = ledP ps c := by
  have hq : (q.cls == c) = false := by rw [beq_eq_false_iff_ne]; exact hc
  unfold ledP
  rw [(agree_snoc ps q).code h0, is_snoc h0]
  by_cases h1 : ps.length = 1
  · rw [if_pos h1, is_out h1, hq]
    simp only [Bool.false_eq_true, and_false, if_false]
    exact while_snoc_eq (Nat.zero_le _) hq
  · rw [if_neg h1]
    split
    · exact while_snoc_eq (by omega) hq
    · exact while_snoc_eq (Nat.zero_le _) hq
theorem low_same {wide : Bool} {x : Int} (h : x < 65 ∨ 90 < x) : lowP wide x = x := by
  unfold lowP; rw [if_neg (by omega)]
theorem end_snoc {wide : Bool} (h0 : 0 < ps.length) (he : ¬ 0 < endP ps wide)
    (hx : q.code = 97 ∨ q.code = 49 ∨ q.code = 33 ∨ q.code = 32 ∨ q.code = 10) : ¬ 0 < endP (ps ++ [q]) wide := by
  have ha := agree_snoc ps q
  have hlow : lowP wide q.code = q.code := low_same (by omega)
  have hlast : smallP (ps ++ [q]) wide ps.length = q.code := by unfold smallP; rw [snoc_last]; exact hlow
  unfold endP at he ⊢
  rw [ha.small h0]
  by_cases g0 : smallP ps wide 0 = 39
  · rw [if_pos g0] at he ⊢
    rcases (by omega : ps.length = 1 ∨ ps.length = 2 ∨ 3 ≤ ps.length) with h | h | h
    · rw [h] at hlast
      rw [hlast, if_neg (by omega), if_neg (by omega)]; omega
    · rw [h] at hlast
      rw [ha.small (i := 1) (by omega), hlast]
      split at he
      · omega
      · rename_i g1
        rw [if_neg g1, if_neg (by omega)]; omega
    · rw [ha.small (i := 1) (by omega), ha.small (i := 2) (by omega)]
      exact he
  · rw [if_neg g0] at he ⊢; exact he
end
section
variable {ps : List Pt}
theorem sgn_a : clsT usualT 97 = 1 := by decide +kernel
theorem sgn_e : clsT usualT 101 = 1 := by decide +kernel
theorem sgn_l : clsT usualT 108 = 1 := by decide +kernel
theorem sgn_1 : clsT usualT 49 = 2 := by decide +kernel
theorem sgn_x : clsT usualT 33 = 0 := by decide +kernel
theorem sgn_b : clsT usualT 32 = 3 := by decide +kernel
theorem sgn_n : clsT usualT 10 = 4 := by decide +kernel
def signs : List UInt8 := [97, 101, 108, 49, 33, 32, 10]
/-- With the sign behind, the piece is all. -/
def Opens (kind : Int) (ps : List Pt) : Prop := ∃ x ∈ signs, (cutP kind (ps ++ [signPt x])).1 = ps.length + 1
theorem word_opens (h0 : 0 < ps.length) (h : ps.length < (wordP ps).2) : Opens 1 ps := by
  refine ⟨97, by decide, ?_⟩
  rw [cut_1]
  have hc : (signPt 97).cls = 1 := sgn_a
  have hb := (while_le (fun p => isSp p.cls) ps 0).2 (Nat.zero_le _)
  have he : blanksP (ps ++ [signPt 97]) = blanksP ps := while_snoc_eq (Nat.zero_le _) (by rw [hc]; rfl)
  have hw := (while_le (fun p => !isSp p.cls) ps (blanksP ps)).2 hb
  unfold wordP at h ⊢
  simp only at h ⊢
  rw [he]
  exact while_snoc (by omega) hb (by rw [hc]; rfl)
/-- A quote, and a first letter of an ending. -/
theorem end_opens {wide : Bool} (hN : ps.length = 2) (h0 : smallP ps wide 0 = 39) (h1 : smallP ps wide 1 = 114 ∨ smallP ps wide 1 = 118 ∨ smallP ps wide 1 = 108) : ∃ x ∈ signs, endP (ps ++ [signPt x]) wide = ps.length + 1 := by
  have key : ∀ x : UInt8, lowP wide (x.toNat : Int) = (x.toNat : Int) → (smallP ps wide 1 = 114 ∧ (x.toNat : Int) = 101 ∨ smallP ps wide 1 = 118 ∧ (x.toNat : Int) = 101 ∨ smallP ps wide 1 = 108 ∧ (x.toNat : Int) = 108) → endP (ps ++ [signPt x]) wide = ps.length + 1 := by
    intro x hx hc
    have ha := agree_snoc ps (signPt x)
    have hlast : smallP (ps ++ [signPt x]) wide 2 = (x.toNat : Int) := by
      have := snoc_last ps (signPt x)
      rw [hN] at this
      unfold smallP; rw [this]; exact hx
    unfold endP
    rw [ha.small (by omega), ha.small (i := 1) (by omega), hlast, if_pos h0, if_neg (by omega), if_pos (by omega)]
    omega
  rcases h1 with h | h | h
  · exact ⟨101, by decide, key 101 (low_same (by decide)) (.inl ⟨h, rfl⟩)⟩
  · exact ⟨101, by decide, key 101 (low_same (by decide)) (.inr (.inl ⟨h, rfl⟩))⟩
  · exact ⟨108, by decide, key 108 (low_same (by decide)) (.inr (.inr ⟨h, rfl⟩))⟩
theorem led_le2 (ps : List Pt) (c : Int) (h0 : 0 < ps.length) : ledP ps c ≤ ps.length := by
  unfold ledP
  split
  · exact (while_le _ ps 1).2 (by omega)
  · exact (while_le _ ps 0).2 (Nat.zero_le _)
theorem plain_opens (h0 : 0 < ps.length) (hs : Shape ps ps.length) (h : ps.length < (plainP ps).2) : ∃ x ∈ signs, (plainP (ps ++ [signPt x])).1 = ps.length + 1 := by
  have he := end_sure hs false
  unfold plainP at h
  split at h
  · simp only at h; omega
  · rename_i g0
    have l1 := led_le2 ps 1 h0
    have l2 := led_le2 ps 2 h0
    have l3 := led_le2 ps 0 h0
    split at h
    · simp only at h
      refine ⟨97, by decide, ?_⟩
      unfold plainP
      rw [if_neg (end_snoc h0 g0 (.inl rfl)), led_snoc h0 (by omega) sgn_a, if_pos (by omega)]
    · rename_i g1
      split at h
      · simp only at h
        refine ⟨49, by decide, ?_⟩
        unfold plainP
        rw [if_neg (end_snoc h0 g0 (.inr (.inl rfl))), led_same h0 (c := 1) (by rw [show (signPt 49).cls = 2 from sgn_1]; decide), if_neg g1, led_snoc h0 (by omega) sgn_1, if_pos (by omega)]
      · rename_i g2
        split at h
        · simp only at h
          refine ⟨33, by decide, ?_⟩
          unfold plainP
          rw [if_neg (end_snoc h0 g0 (.inr (.inr (.inl rfl)))), led_same h0 (c := 1) (by rw [show (signPt 33).cls = 0 from sgn_x]; decide), if_neg g1, led_same h0 (c := 2) (by rw [show (signPt 33).cls = 0 from sgn_x]; decide), if_neg g2, led_snoc h0 (by omega) sgn_x, if_pos (by omega)]
        · rename_i g3
          refine ⟨32, by decide, ?_⟩
          have hb := (while_le (fun p => isSp p.cls) ps 0).2 (Nat.zero_le _)
          have hbn : blanksP ps = ps.length := by
            unfold spacesP at h
            have hb' : blanksP ps ≤ ps.length := hb
            split at h <;> simp only at h <;> omega
          have hc : (signPt 32).cls = 3 := sgn_b
          have hb2 : blanksP (ps ++ [signPt 32]) = ps.length + 1 := while_snoc hbn (Nat.zero_le _) (by rw [hc]; rfl)
          unfold plainP
          rw [if_neg (end_snoc h0 g0 (.inr (.inr (.inr (.inl rfl))))), led_same h0 (c := 1) (by rw [hc]; decide), if_neg g1, led_same h0 (c := 2) (by rw [hc]; decide), if_neg g2, led_same h0 (c := 0) (by rw [hc]; decide), if_neg g3]
          unfold spacesP
          rw [hb2, if_neg (by rw [List.length_append, List.length_singleton]; omega)]
theorem run_le2 (ps : List Pt) (c : Int) : runP ps 0 c ≤ ps.length := (while_le _ ps 0).2 (Nat.zero_le _)
theorem run_same {q : Pt} {i : Nat} {c : Int} (hi : i ≤ ps.length) (hc : q.cls ≠ c) : runP (ps ++ [q]) i c = runP ps i c :=
  while_snoc_eq hi (by rw [beq_eq_false_iff_ne]; exact hc)
theorem run_snoc {q : Pt} {i : Nat} {c : Int} (hi : i ≤ ps.length) (h : runP ps i c = ps.length) (hc : q.cls = c) : runP (ps ++ [q]) i c = ps.length + 1 :=
  while_snoc h hi (by rw [hc]; exact beq_self_eq_true c)
theorem leads_same {q : Pt} (h0 : 0 < ps.length) : leadsP (ps ++ [q]) = leadsP ps := by
  unfold leadsP; rw [(agree_snoc ps q).cls h0]
theorem lead_no {q : Pt} (h0 : 0 < ps.length) (hc : q.cls ≠ 1) (h : ¬ (leadsP ps = true ∧ isP ps 1 1 = true)) : ¬ (leadsP (ps ++ [q]) = true ∧ isP (ps ++ [q]) 1 1 = true) := by
  rw [leads_same h0, is_snoc h0]
  by_cases h1 : ps.length = 1
  · rw [if_pos h1]; intro e; exact hc (by simpa using e.2)
  · rw [if_neg h1]; exact h
theorem broad_opens (h0 : 0 < ps.length) (hs : Shape ps ps.length) (h : ps.length < (broadP ps).2) : ∃ x ∈ signs, (broadP (ps ++ [signPt x])).1 = ps.length + 1 := by
  have he := end_sure hs true
  have ca : (signPt 97).cls = 1 := sgn_a
  have c1 : (signPt 49).cls = 2 := sgn_1
  have cn : (signPt 10).cls = 4 := sgn_n
  unfold broadP at h
  split at h
  · simp only at h; omega
  · rename_i g0
    split at h
    · rename_i g1
      simp only at h
      have := run_le2 ps 1
      refine ⟨97, by decide, ?_⟩
      unfold broadP
      rw [if_neg (end_snoc h0 g0 (.inl rfl)), run_snoc (Nat.zero_le _) (by omega) ca, if_pos (by omega)]
    · rename_i g1
      have r1 : ∀ {q : Pt}, ¬ 0 < runP (ps ++ [q]) 0 1 := by
        intro q
        rw [(agree_snoc ps q).run (i := 0) (c := 1) (by omega)]; exact g1
      split at h
      · rename_i g2
        simp only at h
        have hi1 : 1 < ps.length := by
          have := g2.2
          unfold isP at this
          rcases Nat.lt_or_ge 1 ps.length with hlt | hge
          · exact hlt
          · rw [List.getElem?_eq_none hge] at this; cases this
        have hle := (while_le (fun p => p.cls == 1) ps 1).2 (by omega)
        have hle' : runP ps 1 1 ≤ ps.length := hle
        refine ⟨97, by decide, ?_⟩
        unfold broadP
        rw [if_neg (end_snoc h0 g0 (.inl rfl)), if_neg r1, if_pos ⟨by rw [leads_same h0]; exact g2.1, by rw [(agree_snoc ps _).isP hi1]; exact g2.2⟩, run_snoc (by omega) (by omega) ca]
      · rename_i g2
        split at h
        · rename_i g3
          simp only at h
          have hle := run_le2 ps 2
          refine ⟨49, by decide, ?_⟩
          have hn : numsP ps = ps.length ∧ ps.length < 3 ∧ runP ps 0 2 = ps.length := by
            unfold numsP at h g3 ⊢; omega
          have hn2 : numsP (ps ++ [signPt 49]) = ps.length + 1 := by
            unfold numsP
            rw [run_snoc (Nat.zero_le _) hn.2.2 c1]; omega
          unfold broadP
          rw [if_neg (end_snoc h0 g0 (.inr (.inl rfl))), if_neg r1, if_neg (lead_no h0 (by rw [c1]; decide) g2), hn2, if_pos (by omega)]
        · rename_i g3
          have n3 : numsP (ps ++ [signPt 10]) = numsP ps := by
            unfold numsP
            rw [run_same (Nat.zero_le _) (by rw [cn]; decide)]
          refine ⟨10, by decide, ?_⟩
          unfold broadP
          rw [if_neg (end_snoc h0 g0 (.inr (.inr (.inr (.inr rfl))))), if_neg r1, if_neg (lead_no h0 (by rw [cn]; decide) g2), n3, if_neg g3, led_same h0 (c := 0) (by rw [cn]; decide)]
          split at h
          · rename_i g4
            simp only at h
            have hl := led_le2 ps 0 h0
            have hle := (while_le (fun p => p.cls == 4) ps (ledP ps 0)).2 hl
            have hle' : runP ps (ledP ps 0) 4 ≤ ps.length := hle
            rw [if_pos g4, run_snoc hl (by omega) cn]
          · rename_i g4
            rw [if_neg g4]
            have hb := (while_le (fun p => isSp p.cls) ps 0).2 (Nat.zero_le _)
            have hbn : blanksP ps = ps.length := by
              have hb' : blanksP ps ≤ ps.length := hb
              unfold spacesP at h
              split at h
              · simp only at h; omega
              · split at h <;> simp only at h <;> omega
            have hb2 : blanksP (ps ++ [signPt 10]) = ps.length + 1 := while_snoc hbn (Nat.zero_le _) (by rw [cn]; rfl)
            have hl2 : lineP (ps ++ [signPt 10]) = ps.length + 1 := by
              unfold lineP
              rw [hb2, lineF, if_pos]
              unfold clsAt
              rw [snoc_last]; exact cn
            rw [hl2, if_pos (by omega)]
/-- A piece that isn't decided, of sure points alone, is another one with a sign behind. -/
theorem cut_opens {kind : Int} (h1 : 1 ≤ kind) (h3 : kind ≤ 3) (h0 : 0 < ps.length) (hs : Shape ps ps.length)
    (hno : (sureP ps (cutP kind ps).2 && (decide (kind = 1) || !pendP ps (decide (kind = 3)))) = false) : ∃ x ∈ signs, (cutP kind (ps ++ [signPt x])).1 = ps.length + 1 := by
  rcases Nat.lt_or_ge ps.length (cutP kind ps).2 with hr | hr
  · rcases (by omega : kind = 1 ∨ kind = 2 ∨ kind = 3) with rfl | rfl | rfl
    · exact word_opens h0 hr
    · obtain ⟨x, hx, h⟩ := plain_opens h0 hs hr; exact ⟨x, hx, h⟩
    · obtain ⟨x, hx, h⟩ := broad_opens h0 hs hr; exact ⟨x, hx, h⟩
  · rw [hs.sure cut_reach.1, decide_eq_true hr, Bool.true_and, Bool.or_eq_false_iff, decide_eq_false_iff_not] at hno
    have hp : pendP ps (decide (kind = 3)) = true := by
      have := hno.2
      cases hx : pendP ps (decide (kind = 3)) with
      | true => rfl
      | false => rw [hx] at this; cases this
    unfold pendP at hp
    rw [Bool.and_eq_true, Bool.and_eq_true, hs.sure (n := 3) (by omega), hs.sure (n := 2) (by omega), decide_eq_true_iff] at hp
    obtain ⟨⟨p0, p1⟩, p2⟩ := hp
    have hN3 : ps.length < 3 := by simpa using p1
    have hk1 : ¬ kind = 1 := hno.1
    have he3 : ∀ wide, endP ps wide ≤ ps.length := fun wide => end_sure hs wide
    have hev : ∀ wide, endP ps wide = 0 ∨ 2 ≤ endP ps wide := fun wide => by unfold endP; (repeat' split) <;> omega
    have hN : ps.length = 2 := by
      rcases (by omega : kind = 2 ∨ kind = 3) with rfl | rfl
      · have := he3 false
        have := hev false
        by_cases g : 0 < endP ps false
        · omega
        · have := plain_two hs h0 g
          rw [cut_2] at hr; omega
      · have := he3 true
        have := hev true
        by_cases g : 0 < endP ps true
        · omega
        · have := broad_two hs h0 g
          rw [cut_3] at hr; omega
    rw [decide_eq_true (by omega : 2 ≤ ps.length), Bool.not_true, Bool.false_or, decide_eq_true_iff] at p2
    obtain ⟨x, hx, h⟩ := end_opens hN p0 p2
    refine ⟨x, hx, ?_⟩
    rcases (by omega : kind = 2 ∨ kind = 3) with rfl | rfl
    · rw [cut_2]; unfold plainP; rw [show endP (ps ++ [signPt x]) false = ps.length + 1 from h, if_pos (by omega)]
    · rw [cut_3]; unfold broadP; rw [show endP (ps ++ [signPt x]) true = ps.length + 1 from h, if_pos (by omega)]
end
theorem signs_low {x : UInt8} (h : x ∈ signs) : x.toNat < 128 := by
  simp only [signs, List.mem_cons, List.mem_nil_iff, or_false] at h
  rcases h with rfl | rfl | rfl | rfl | rfl | rfl | rfl <;> decide
/-- Of bytes of whole points: a piece that isn't decided is another one with one of the signs behind. -/
theorem next_opens {kind : Int} {l : List UInt8} {n : Nat} (h0 : l ≠ []) (h1 : 0 ≤ kind) (h3 : kind ≤ 3) (hr : restOf l = 0) (h : nextP kind usualT l false = (n, false)) : ∃ (i : Nat) (x : UInt8), signs[i]? = some x ∧ (nextP kind usualT (l ++ [x]) true).1 ≠ n := by
  by_cases hk : kind = 0
  · subst hk
    refine ⟨0, 97, rfl, ?_⟩
    have e1 : nextP 0 usualT l false = (l.length, false) := by
      unfold nextP; rw [if_neg (by rintro (h4 | h4 | h4 | h4); exact h0 h4; rw [usual_may12] at h4; cases h4; omega; omega), if_pos rfl]
    have e2 : nextP 0 usualT (l ++ [97]) true = ((l ++ [97]).length, true) := by
      unfold nextP; rw [if_neg (by rintro (h4 | h4 | h4 | h4); simp at h4; rw [usual_may12] at h4; cases h4; omega; omega), if_pos rfl]
    rw [e1] at h
    injection h with h _
    rw [e2, ← h]; simp
  · have hpos := pts_pos (t := usualT) h0
    obtain ⟨S, hsh, hSl⟩ := pts_shape usualT l
    have hS : S = (ptsOf usualT l).length := by omega
    subst hS
    rw [next_some h0 usual_may12 (by omega) h3, Prod.mk.injEq, Bool.false_or] at h
    obtain ⟨hn, hno⟩ := h
    obtain ⟨x, hx, hc⟩ := cut_opens (by omega) h3 hpos hsh hno
    obtain ⟨i, hi⟩ := List.mem_iff_getElem?.1 hx
    refine ⟨i, x, hi, ?_⟩
    have hne : l ++ [x] ≠ [] := by simp
    rw [next_some hne usual_may12 (by omega) h3, pts_snoc x (signs_low hx) l hr]
    simp only
    rw [hc]
    have hb := next_bounds (kind := kind) (t := usualT) (l := l) true h0 usual_may12 (by omega) h3
    rw [next_some h0 usual_may12 (by omega) h3] at hb
    simp only at hb
    have ht := sumN_total usualT (l ++ [x])
    rw [pts_snoc x (signs_low hx) l hr, List.length_append, List.length_singleton] at ht
    rw [ht, List.length_append, List.length_singleton]
    omega
end Go.Proofs.YtkiggpbmlkfdpaaDoor
