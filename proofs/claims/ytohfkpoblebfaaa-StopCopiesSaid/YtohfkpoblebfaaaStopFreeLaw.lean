/- The plain law of stop: what is free; where stops stand. -/
import Derived.Test.YtohfkpoblebfaaaStopLaw
import Derived.Test.YtohfkpoblebfaaaAhoPats
namespace Go.Proofs.Ytohfkpoblebfaaa
set_option linter.unusedVariables false

theorem endsGo_all {u : Wd} : ∀ {l : List Wd} {k : Nat} {acc : Int × Nat}, acc.2 ≤ (endsGo u l k acc).2 ∧ ∀ p ∈ l, p <:+ u → p.length ≤ (endsGo u l k acc).2
  | [], _, _ => ⟨Nat.le_refl _, by simp⟩
  | q :: r, k, acc => by
    rw [endsGo]
    have ih := endsGo_all (u := u) (l := r) (k := k + 1) (acc := if acc.2 < q.length ∧ q <:+ u then ((k : Int), q.length) else acc)
    refine ⟨Nat.le_trans ?_ ih.1, fun p hp hs => ?_⟩
    · split
      · rename_i h; exact Nat.le_of_lt h.1
      · exact Nat.le_refl _
    · rcases List.mem_cons.1 hp with rfl | hp
      · refine Nat.le_trans ?_ ih.1
        split
        · exact Nat.le_refl _
        · rename_i h
          rcases Nat.lt_or_ge acc.2 p.length with h1 | h1
          · exact absurd ⟨h1, hs⟩ h
          · exact h1
      · exact ih.2 p hp hs
theorem endsGo_at {u : Wd} : ∀ {l : List Wd} {k : Nat} {acc : Int × Nat}, endsGo u l k acc = acc ∨ ∃ j, j < l.length ∧ endsGo u l k acc = (((k + j : Nat) : Int), (wd l j).length) ∧ wd l j <:+ u
  | [], _, _ => .inl rfl
  | q :: r, k, acc => by
    rw [endsGo]
    rcases endsGo_at (u := u) (l := r) (k := k + 1) (acc := if acc.2 < q.length ∧ q <:+ u then ((k : Int), q.length) else acc) with h | ⟨j, hj, h, hs⟩
    · rw [h]
      by_cases hc : acc.2 < q.length ∧ q <:+ u
      · rw [if_pos hc]
        exact .inr ⟨0, by simp, rfl, hc.2⟩
      · rw [if_neg hc]; exact .inl rfl
    · refine .inr ⟨j + 1, by simp; omega, ?_, hs⟩
      rw [h, show k + 1 + j = k + (j + 1) by omega]
      rfl
theorem okP_pos {l : List Wd} (hm : mayP l) {p : Wd} (hp : p ∈ l) : 0 < p.length := by
  obtain ⟨i, hi, rfl⟩ := mem_wd hp
  have := okAll_iff.1 hm.2 i hi
  unfold okP at this
  have := of_decide_eq_true this
  omega
theorem okP_le {l : List Wd} (hm : mayP l) {p : Wd} (hp : p ∈ l) : p.length ≤ 64 := by
  obtain ⟨i, hi, rfl⟩ := mem_wd hp
  have := okAll_iff.1 hm.2 i hi
  unfold okP at this
  have := of_decide_eq_true this
  omega
theorem hit_at {l : List Wd} {s : Wd} (h : hitB l s = true) : ∃ j, j < l.length ∧ (endsOf l s).1 = (j : Int) ∧ (endsOf l s).2 = (wd l j).length ∧ wd l j <:+ s := by
  rw [hitB_iff] at h
  unfold endsOf at h ⊢
  rcases endsGo_at (u := s) (l := l) (k := 0) (acc := (-1, 0)) with h1 | ⟨j, hj, h1, hs⟩
  · rw [h1] at h; exact absurd rfl h
  · rw [h1]; exact ⟨j, hj, by simp, rfl, hs⟩
theorem hit_of {l : List Wd} (hm : mayP l) {s p : Wd} (hp : p ∈ l) (hs : p <:+ s) : hitB l s = true := by
  cases h : hitB l s with
  | true => rfl
  | false =>
    exfalso
    have h0 := okP_pos hm hp
    have h1 := (endsGo_all (u := s) (l := l) (k := 0) (acc := (-1, 0))).2 p hp hs
    rcases endsGo_at (u := s) (l := l) (k := 0) (acc := (-1, 0)) with h2 | ⟨j, hj, h2, _⟩
    · rw [h2] at h1
      have h1' : p.length ≤ 0 := h1
      omega
    · rw [hitB_no] at h
      unfold endsOf at h
      rw [h2] at h
      have h' : (((0 + j : Nat) : Int)) = -1 := h
      omega
theorem hit_long {l : List Wd} {s p : Wd} (hp : p ∈ l) (hs : p <:+ s) : p.length ≤ (endsOf l s).2 := (endsGo_all (u := s) (l := l) (k := 0) (acc := (-1, 0))).2 p hp hs
/-- What a watch can have seen: no part ahead of its end hits. -/
def Reach (l : List Wd) (s : Wd) : Prop := ∀ k, k < s.length → hitB l (s.take k) = false
theorem reach_step {l : List Wd} {s : Wd} (h : Reach l s) (x : Int) : Reach l (stepS l s x) := by
  unfold stepS
  split
  · exact h
  · rename_i hn
    intro k hk
    rw [List.length_append] at hk
    simp at hk
    rcases Nat.lt_or_ge k s.length with h1 | h1
    · rw [List.take_append_of_le_length (by omega)]; exact h k h1
    · obtain rfl : k = s.length := by omega
      rw [List.take_left]
      cases hh : hitB l s with
      | true => exact absurd hh hn
      | false => rfl
theorem reach_feed {l : List Wd} : ∀ {t s : Wd}, Reach l s → Reach l (feedS l s t)
  | [], _, h => h
  | x :: t, s, h => reach_feed (t := t) (s := stepS l s x) (reach_step h x)
theorem reach_nil (l : List Wd) : Reach l [] := fun k hk => absurd hk (by simp)
/-- What is seen of a row is a part of it. -/
theorem feed_take (l : List Wd) : ∀ (t s : Wd), ∃ n, n ≤ t.length ∧ feedS l s t = s ++ t.take n
  | [], s => ⟨0, Nat.le_refl _, by simp [feedS]⟩
  | x :: t, s => by
    have h3 : feedS l s (x :: t) = feedS l (stepS l s x) t := rfl
    by_cases hh : hitB l s = true
    · exact ⟨0, by simp, by rw [feedS_hit hh]; simp⟩
    · obtain ⟨n, hn, h⟩ := feed_take l t (s ++ [x])
      have h4 : stepS l s x = s ++ [x] := by unfold stepS; rw [if_neg hh]
      exact ⟨n + 1, by simp; omega, by rw [h3, h4, h]; simp⟩
theorem feed_len2 (l : List Wd) (s t : Wd) : s.length ≤ (feedS l s t).length ∧ (feedS l s t).length ≤ s.length + t.length ∧ feedS l s t = s ++ t.take ((feedS l s t).length - s.length) := by
  obtain ⟨n, hn, h⟩ := feed_take l t s
  have hl : (feedS l s t).length = s.length + n := by rw [h, List.length_append, List.length_take]; omega
  refine ⟨by omega, by omega, ?_⟩
  rw [hl, h]
  congr 2
  omega
/-- Does a stop stand at a place? -/
def thereB (l : List Wd) (t : Wd) (i : Nat) : Bool := l.any fun p => decide (p <+: t.drop i)
theorem there_iff {l : List Wd} {t : Wd} {i : Nat} : thereB l t i = true ↔ ∃ p ∈ l, p <+: t.drop i := by unfold thereB; rw [List.any_eq_true]; simp
theorem suffix_of_there {p t : Wd} {i : Nat} (hi : i ≤ t.length) (h : p <+: t.drop i) : i + p.length ≤ t.length ∧ p <:+ t.take (i + p.length) := by
  have h1 := h.length_le
  rw [List.length_drop] at h1
  refine ⟨by omega, ?_⟩
  have h2 := List.prefix_iff_eq_take.1 h
  refine ⟨t.take i, ?_⟩
  rw [List.take_add, ← h2]
theorem free_nat (l : List Wd) (s : Wd) : ∃ n : Nat, freeW l s = (n : Int) ∧ n ≤ s.length := by
  unfold freeW
  have h1 := (heldL_le l s).1
  split
  · rename_i h
    obtain ⟨j, hj, _, h2, h3⟩ := hit_at h
    have := h3.length_le
    exact ⟨s.length - (endsOf l s).2, by omega, by omega⟩
  · exact ⟨s.length - heldL l s, by omega, by omega⟩
theorem there_free {l : List Wd} (hm : mayP l) {s : Wd} (hr : Reach l s) {i : Nat} (hi : (i : Int) < freeW l s) : thereB l s i = false := by
  cases ht : thereB l s i with
  | false => rfl
  | true =>
    exfalso
    obtain ⟨n, hn, hn2⟩ := free_nat l s
    obtain ⟨p, hp, hpre⟩ := there_iff.1 ht
    obtain ⟨h1, h2⟩ := suffix_of_there (by omega) hpre
    rcases Nat.lt_or_ge (i + p.length) s.length with h3 | h3
    · have h4 := hr _ h3
      rw [hit_of hm hp h2] at h4
      cases h4
    · have h4 : i + p.length = s.length := by omega
      rw [h4, List.take_length] at h2
      have h5 := hit_of hm hp h2
      have h6 := hit_long hp h2
      unfold freeW at hi
      rw [if_pos h5] at hi
      omega
theorem held_max {l : List Wd} {t : Wd} {n : Nat} (hn : n ≤ t.length) (h64 : n ≤ 64) (h : anyB l (t.drop (t.length - n)) = true) : n ≤ heldL l t := by
  have key : ∀ m, n ≤ m → n ≤ heldF l t m := by
    intro m
    induction m with
    | zero => intro h; omega
    | succ m ih =>
      intro hm
      rw [heldF]
      split
      · exact hm
      · rename_i hf
        rcases Nat.lt_or_ge n (m + 1) with h1 | h1
        · exact ih (by omega)
        · obtain rfl : n = m + 1 := by omega
          exact absurd h hf
  exact key _ (by omega)
theorem held_any (l : List Wd) (t : Wd) : heldL l t = 0 ∨ anyB l (t.drop (t.length - heldL l t)) = true := by
  have key : ∀ m, heldF l t m = 0 ∨ anyB l (t.drop (t.length - heldF l t m)) = true := by
    intro m
    induction m with
    | zero => exact .inl rfl
    | succ m ih =>
      rw [heldF]
      split
      · rename_i hf; exact .inr hf
      · exact ih
  exact key _
/-- What begins with a pattern's first part, one symbol less. -/
theorem held_back {l : List Wd} {s : Wd} {x : Int} {n : Nat} (hn : n ≤ s.length + 1) (h64 : n ≤ 64) (h : anyB l ((s ++ [x]).drop (s.length + 1 - n)) = true) : n ≤ heldL l s + 1 := by
  rcases Nat.eq_zero_or_pos n with h0 | h0
  · omega
  · obtain ⟨p, hp, hpre⟩ := anyB_iff.1 h
    have h1 : n - 1 ≤ heldL l s := by
      refine held_max (by omega) (by omega) (anyB_iff.2 ⟨p, hp, ?_⟩)
      refine List.IsPrefix.trans ?_ hpre
      rw [show s.length - (n - 1) = s.length + 1 - n by omega, List.drop_append_of_le_length (by omega)]
      exact List.prefix_append _ _
    omega
theorem free_step {l : List Wd} (hm : mayP l) (s : Wd) (x : Int) : freeW l s ≤ freeW l (stepS l s x) := by
  unfold stepS
  split
  · exact Int.le_refl _
  · rename_i hn
    have h1 : freeW l s = (s.length : Int) - (heldL l s : Int) := by unfold freeW; rw [if_neg hn]
    have hl := (heldL_le l s).1
    rw [h1]
    unfold freeW
    have hlen : (s ++ [x]).length = s.length + 1 := by simp
    split
    · rename_i hh
      obtain ⟨j, hj, _, h2, h3⟩ := hit_at hh
      have h4 := h3.length_le
      rw [hlen] at h4
      have h5 : (wd l j).length ≤ heldL l s + 1 := by
        refine held_back (x := x) h4 (okP_le hm (wd_mem hj)) (anyB_iff.2 ⟨wd l j, wd_mem hj, ?_⟩)
        have h6 := List.suffix_iff_eq_drop.1 h3
        rw [hlen] at h6
        rw [← h6]
        exact List.prefix_refl _
      rw [h2, hlen]
      omega
    · have h5 : heldL l (s ++ [x]) ≤ heldL l s + 1 := by
        rcases held_any l (s ++ [x]) with h | h
        · omega
        · have h6 := heldL_le l (s ++ [x])
          rw [hlen] at h h6
          exact held_back (x := x) h6.1 h6.2 h
      rw [hlen]
      omega
theorem free_feed {l : List Wd} (hm : mayP l) : ∀ (t s : Wd), freeW l s ≤ freeW l (feedS l s t)
  | [], _ => Int.le_refl _
  | x :: t, s => Int.le_trans (free_step hm s x) (free_feed hm t (stepS l s x))
/-- The longest pattern. -/
def longW (l : List Wd) : Nat := l.foldl (fun m p => max m p.length) 0
theorem longW_le (l : List Wd) : ∀ p ∈ l, p.length ≤ longW l := by
  have key : ∀ (l : List Wd) (m : Nat), m ≤ l.foldl (fun m p => max m p.length) m ∧ ∀ p ∈ l, p.length ≤ l.foldl (fun m p => max m p.length) m := by
    intro l
    induction l with
    | nil => intro m; exact ⟨Nat.le_refl _, by simp⟩
    | cons q r ih =>
      intro m
      rw [List.foldl_cons]
      have h := ih (max m q.length)
      refine ⟨by omega, fun p hp => ?_⟩
      rcases List.mem_cons.1 hp with rfl | hp
      · omega
      · exact h.2 p hp
  exact (key l 0).2
theorem longW_snoc (l : List Wd) (p : Wd) : longW (l ++ [p]) = max (longW l) p.length := by unfold longW; rw [List.foldl_append]; rfl
theorem held_less {l : List Wd} (hm : mayP l) {s : Wd} (hn : hitB l s = false) : heldW l s < max (longW l) 1 := by
  unfold heldW
  rw [if_neg (by rw [hn]; decide)]
  rcases held_any l s with h | h
  · omega
  · obtain ⟨p, hp, hpre⟩ := anyB_iff.1 h
    have h1 := hpre.length_le
    rw [List.length_drop] at h1
    have h2 := (heldL_le l s).1
    have h3 := longW_le l p hp
    rcases Nat.lt_or_ge (heldL l s) p.length with h4 | h4
    · omega
    · exfalso
      have h5 := hpre.eq_of_length (by rw [List.length_drop]; omega)
      have h6 : p <:+ s := by rw [← h5]; exact List.drop_suffix _ _
      rw [hit_of hm hp h6] at hn
      cases hn
/-- A text that hits nowhere bears no stop. -/
theorem there_none {l : List Wd} (hm : mayP l) {t : Wd} (hr : Reach l t) (hn : hitB l t = false) {i : Nat} (hi : i < t.length) : thereB l t i = false := by
  cases ht : thereB l t i with
  | false => rfl
  | true =>
    exfalso
    obtain ⟨p, hp, hpre⟩ := there_iff.1 ht
    obtain ⟨h1, h2⟩ := suffix_of_there (by omega) hpre
    rcases Nat.lt_or_ge (i + p.length) t.length with h3 | h3
    · have h4 := hr _ h3
      rw [hit_of hm hp h2] at h4
      cases h4
    · have h4 : i + p.length = t.length := by omega
      rw [h4, List.take_length] at h2
      rw [hit_of hm hp h2] at hn
      cases hn
theorem feed_whole {l : List Wd} {t : Wd} (h : hitB l (feedS l [] t) = false) : feedS l [] t = t := by
  obtain ⟨n, hn, he⟩ := feed_take l t []
  rw [List.nil_append] at he
  have : ∀ k, k < t.length → hitB l ([] ++ t.take k) = false := by
    intro k hk
    rw [List.nil_append]
    cases hh : hitB l (t.take k) with
    | false => rfl
    | true =>
      exfalso
      have h1 := feedS_app l [] (t.take k) (t.drop k)
      rw [List.take_append_drop] at h1
      obtain ⟨m, hm, he2⟩ := feed_take l (t.take k) []
      rw [List.nil_append] at he2
      have hr := reach_feed (t := t) (reach_nil l)
      rcases Nat.lt_or_ge k n with h2 | h2
      · have h3 := hr k (by rw [he, List.length_take]; omega)
        rw [he, List.take_take, Nat.min_eq_left (by omega), hh] at h3
        cases h3
      · rw [he] at h
        have h4 : n < k ∨ n = k := by omega
        rcases h4 with h4 | h4
        · have h5 := feedS_app l [] (t.take (n + 1)) (t.drop (n + 1))
          rw [List.take_append_drop] at h5
          obtain ⟨c, hc⟩ : ∃ c, t[n]? = some c := ⟨_, List.getElem?_eq_getElem (by omega)⟩
          have h6 : t.take (n + 1) = t.take n ++ [c] := by rw [List.take_add_one, hc]; rfl
          have h7 : feedS l [] (t.take n) = t.take n := by
            refine (feedS_all (l := l) (s := []) (t := t.take n) (fun j hj => ?_)).trans (List.nil_append _)
            rw [List.nil_append]
            have h8 := hr j (by rw [he]; exact hj)
            rw [he] at h8
            exact h8
          rw [h6, feedS_snoc, h7] at h5
          unfold stepS at h5
          rw [if_neg (by rw [h]; decide)] at h5
          have h9 := (feed_len2 l (t.take n ++ [c]) (t.drop (n + 1))).1
          rw [← h5, he] at h9
          simp at h9
          omega
        · rw [h4, hh] at h; cases h
  rw [feedS_all this, List.nil_append]
end Go.Proofs.Ytohfkpoblebfaaa
