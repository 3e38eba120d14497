/- The plain law of the document's Held, Ends, States. -/
import Derived.Test.YtohfkpoblebfaaaAhoLaw2
namespace Go.Proofs.Ytohfkpoblebfaaa
set_option linter.unusedVariables false

/-- Does a pattern begin with a word? -/
def anyB (l : List Wd) (u : Wd) : Bool := l.any fun p => decide (u <+: p)
/-- The longest end, not above n symbols, that begins a pattern. -/
def heldF (l : List Wd) (t : Wd) : Nat → Nat
  | 0 => 0
  | n + 1 => if anyB l (t.drop (t.length - (n + 1))) = true then n + 1 else heldF l t n
def heldL (l : List Wd) (t : Wd) : Nat := heldF l t (min 64 t.length)
theorem anyB_iff {l : List Wd} {u : Wd} : anyB l u = true ↔ ∃ p ∈ l, u <+: p := by
  unfold anyB; rw [List.any_eq_true]; simp
theorem heldF_lsuf {l W : List Wd} {t : Wd} (h : Holds l W) : ∀ n, n ≤ t.length → (lsuf W t).length ≤ n → heldF l t n = (lsuf W t).length
  | 0, _, hm => by rw [heldF]; omega
  | n + 1, hn, hm => by
    rw [heldF]
    have hl : (t.drop (t.length - (n + 1))).length = n + 1 := by rw [List.length_drop]; omega
    by_cases hb : anyB l (t.drop (t.length - (n + 1))) = true
    · rw [if_pos hb]
      have hW : t.drop (t.length - (n + 1)) ∈ W := (h _).2 (.inr (anyB_iff.1 hb))
      have := lsuf_max hW (List.drop_suffix _ t)
      omega
    · rw [if_neg hb]
      refine heldF_lsuf h n (by omega) ?_
      rcases Nat.lt_or_ge (lsuf W t).length (n + 1) with h1 | h1
      · omega
      · exfalso
        have he : lsuf W t = t.drop (t.length - (n + 1)) := suffix_eq (lsuf_suffix t) (List.drop_suffix _ t) (by rw [hl]; omega)
        have h0 : ([] : Wd) ∈ W := (h []).2 (.inl rfl)
        have hm := lsuf_mem h0 t
        rw [he] at hm
        rcases (h _).1 hm with h2 | h2
        · rw [h2] at hl; simp at hl
        · exact hb (anyB_iff.2 h2)
theorem heldL_lsuf {l W : List Wd} {t : Wd} (h : Holds l W) (hp : ∀ p ∈ l, p.length ≤ 64) : heldL l t = (lsuf W t).length := by
  refine heldF_lsuf h _ (Nat.min_le_right _ _) ?_
  have h0 : ([] : Wd) ∈ W := (h []).2 (.inl rfl)
  have h1 := lsuf_le (W := W) t
  have h2 : (lsuf W t).length ≤ 64 := by
    rcases (h _).1 (lsuf_mem h0 t) with h2 | ⟨p, hpl, h2⟩
    · rw [h2]; simp
    · have := h2.length_le; have := hp p hpl; omega
  omega
theorem heldL_le (l : List Wd) (t : Wd) : heldL l t ≤ t.length ∧ heldL l t ≤ 64 := by
  have key : ∀ n, heldF l t n ≤ n := by
    intro n
    induction n with
    | zero => exact Nat.le_refl _
    | succ n ih => rw [heldF]; split <;> omega
  have := key (min 64 t.length)
  unfold heldL
  omega

/-! How many states. -/
/-- Is a first part of the i-th pattern fresh? -/
def freshB (l : List Wd) (i k : Nat) : Bool := (List.range i).all fun o => !decide ((wd l i).take k <+: wd l o)
def freshK (l : List Wd) (i : Nat) : Nat → Nat
  | 0 => 0
  | k + 1 => freshK l i k + if freshB l i (k + 1) then 1 else 0
def statesF (l : List Wd) : Nat → Nat
  | 0 => 1
  | i + 1 => statesF l i + freshK l i (wd l i).length
def statesL (l : List Wd) : Nat := statesF l l.length
/-- The words in the order of the count. -/
def wordsK (l : List Wd) (i : Nat) : Nat → List Wd
  | 0 => []
  | k + 1 => wordsK l i k ++ if freshB l i (k + 1) then [(wd l i).take (k + 1)] else []
def wordsF (l : List Wd) : Nat → List Wd
  | 0 => [[]]
  | i + 1 => wordsF l i ++ wordsK l i (wd l i).length
theorem wordsK_len (l : List Wd) (i : Nat) : ∀ k, (wordsK l i k).length = freshK l i k
  | 0 => rfl
  | k + 1 => by
    rw [wordsK, freshK, List.length_append, wordsK_len l i k]
    split <;> rfl
theorem wordsF_len (l : List Wd) : ∀ i, (wordsF l i).length = statesF l i
  | 0 => rfl
  | i + 1 => by rw [wordsF, statesF, List.length_append, wordsF_len l i, wordsK_len]
theorem wordsK_mem (l : List Wd) (i : Nat) : ∀ k u, u ∈ wordsK l i k ↔ ∃ j, 1 ≤ j ∧ j ≤ k ∧ freshB l i j = true ∧ u = (wd l i).take j
  | 0, u => by simp only [wordsK, List.not_mem_nil, false_iff]; rintro ⟨j, h1, h2, _⟩; omega
  | k + 1, u => by
    rw [wordsK, List.mem_append, wordsK_mem l i k u]
    constructor
    · rintro (⟨j, h1, h2, h3⟩ | h)
      · exact ⟨j, h1, by omega, h3⟩
      · split at h
        · rename_i hf; rw [List.mem_singleton] at h; exact ⟨k + 1, by omega, Nat.le_refl _, hf, h⟩
        · simp at h
    · rintro ⟨j, h1, h2, h3, h4⟩
      by_cases hj : j ≤ k
      · exact .inl ⟨j, h1, hj, h3, h4⟩
      · obtain rfl : j = k + 1 := by omega
        right; rw [if_pos h3, h4]; simp
theorem freshB_iff {l : List Wd} {i k : Nat} : freshB l i k = true ↔ ∀ o, o < i → ¬ (wd l i).take k <+: wd l o := by
  unfold freshB; rw [List.all_eq_true]; simp
theorem wordsF_mem (l : List Wd) : ∀ i, i ≤ l.length → ∀ u, u ∈ wordsF l i ↔ (u = [] ∨ ∃ o, o < i ∧ u <+: wd l o)
  | 0, _, u => by simp [wordsF]
  | i + 1, hi, u => by
    rw [wordsF, List.mem_append, wordsF_mem l i (by omega) u, wordsK_mem]
    constructor
    · rintro ((h | ⟨o, ho, h⟩) | ⟨j, _, _, _, h⟩)
      · exact .inl h
      · exact .inr ⟨o, by omega, h⟩
      · exact .inr ⟨i, by omega, by rw [h]; exact List.take_prefix _ _⟩
    · rintro (h | ⟨o, ho, h⟩)
      · exact .inl (.inl h)
      · by_cases hoi : o < i
        · exact .inl (.inr ⟨o, hoi, h⟩)
        · obtain rfl : o = i := by omega
          by_cases hu : u = []
          · exact .inl (.inl hu)
          · by_cases hf : freshB l o u.length = true
            · right
              refine ⟨u.length, ?_, h.length_le, hf, List.prefix_iff_eq_take.1 h⟩
              exact List.length_pos_iff.2 hu
            · left; right
              rw [freshB_iff] at hf
              simp only [Classical.not_forall, Classical.not_not] at hf
              obtain ⟨q, hq, h2⟩ := hf
              refine ⟨q, hq, ?_⟩
              rw [← List.prefix_iff_eq_take.1 h] at h2
              exact h2
theorem wordsK_nodup (l : List Wd) (i : Nat) : ∀ k, k ≤ (wd l i).length → (wordsK l i k).Nodup
  | 0, _ => List.nodup_nil
  | k + 1, hk => by
    rw [wordsK, List.nodup_append]
    refine ⟨wordsK_nodup l i k (by omega), by split <;> simp, ?_⟩
    intro a ha b hb e
    subst e
    split at hb
    · rw [List.mem_singleton] at hb
      obtain ⟨j, h1, h2, _, h3⟩ := (wordsK_mem l i k a).1 ha
      rw [h3] at hb
      have := congrArg List.length hb
      rw [List.length_take, List.length_take] at this
      omega
    · simp at hb
theorem wordsF_nodup (l : List Wd) : ∀ i, i ≤ l.length → (wordsF l i).Nodup
  | 0, _ => by simp [wordsF]
  | i + 1, hi => by
    rw [wordsF, List.nodup_append]
    refine ⟨wordsF_nodup l i (by omega), wordsK_nodup l i _ (Nat.le_refl _), ?_⟩
    intro a ha b hb e
    subst e
    obtain ⟨j, h1, h2, h3, h4⟩ := (wordsK_mem l i _ a).1 hb
    rcases (wordsF_mem l i (by omega) a).1 ha with h5 | ⟨o, ho, h5⟩
    · rw [h5] at h4
      have := congrArg List.length h4
      rw [List.length_take] at this
      simp at this
      omega
    · rw [h4] at h5
      exact freshB_iff.1 h3 o ho h5
theorem nodup_len_le : ∀ {a b : List Wd}, a.Nodup → (∀ u ∈ a, u ∈ b) → a.length ≤ b.length
  | [], b, _, _ => Nat.zero_le _
  | x :: a, b, hd, hs => by
    have hx := hs x (by simp)
    have hn := List.nodup_cons.1 hd
    have := nodup_len_le (a := a) (b := b.erase x) hn.2 (fun u hu => (List.mem_erase_of_ne (fun e => hn.1 (by rw [← e]; exact hu))).2 (hs u (List.mem_cons_of_mem _ hu)))
    rw [List.length_erase_of_mem hx] at this
    have := List.length_pos_of_mem hx
    simp only [List.length_cons]
    omega
theorem Trie.nodup {ns : List Nd} {W : List Wd} (h : Trie ns W) : W.Nodup := by
  refine List.pairwise_iff_getElem.2 fun i j hi hj hij e => ?_
  have := h.inj i j hi hj (by rw [wd_get hi, wd_get hj]; exact e)
  omega
/-- The document's count is the number of states. -/
theorem states_eq {l W : List Wd} {ns : List Nd} (ht : Trie ns W) (h : Holds l W) : statesL l = W.length := by
  have hm : ∀ u, u ∈ wordsF l l.length ↔ u ∈ W := by
    intro u
    rw [wordsF_mem l _ (Nat.le_refl _), h u]
    constructor
    · rintro (h1 | ⟨o, ho, h1⟩)
      · exact .inl h1
      · exact .inr ⟨_, wd_mem ho, h1⟩
    · rintro (h1 | ⟨p, hp, h1⟩)
      · exact .inl h1
      · obtain ⟨o, ho, he⟩ := mem_wd hp
        exact .inr ⟨o, ho, by rw [he]; exact h1⟩
  have h1 := nodup_len_le (wordsF_nodup l _ (Nat.le_refl _)) (fun u hu => (hm u).1 hu)
  have h2 := nodup_len_le ht.nodup (fun u hu => (hm u).2 hu)
  unfold statesL
  rw [← wordsF_len]
  omega
end Go.Proofs.Ytohfkpoblebfaaa
