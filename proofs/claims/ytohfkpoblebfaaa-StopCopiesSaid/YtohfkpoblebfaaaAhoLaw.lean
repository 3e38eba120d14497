/- The plain law of aho: words of a trie, the longest end of a word that is in it, the longest pattern that ends. -/
import Derived.Test.YtohfkpoblebfaaaWords
namespace Go.Proofs.Ytohfkpoblebfaaa
set_option linter.unusedVariables false

abbrev Wd := List Int
/-- The longest end of a word that is among words. -/
def lsuf (W : List Wd) : Wd → Wd
  | [] => []
  | x :: u => if (x :: u) ∈ W then x :: u else lsuf W u
def Closed (W : List Wd) : Prop := [] ∈ W ∧ ∀ u s, u ++ [s] ∈ W → u ∈ W
section
variable {W : List Wd}
theorem lsuf_of_mem {u : Wd} (h : u ∈ W) : lsuf W u = u := by
  cases u with
  | nil => rfl
  | cons x u => rw [lsuf, if_pos h]
theorem lsuf_cons_no {x : Int} {u : Wd} (h : (x :: u) ∉ W) : lsuf W (x :: u) = lsuf W u := by rw [lsuf, if_neg h]
theorem lsuf_mem (h0 : [] ∈ W) : ∀ u, lsuf W u ∈ W
  | [] => h0
  | x :: u => by
    by_cases h : (x :: u) ∈ W
    · rw [lsuf_of_mem h]; exact h
    · rw [lsuf_cons_no h]; exact lsuf_mem h0 u
theorem lsuf_suffix : ∀ u : Wd, lsuf W u <:+ u
  | [] => List.suffix_refl _
  | x :: u => by
    by_cases h : (x :: u) ∈ W
    · rw [lsuf_of_mem h]; exact List.suffix_refl _
    · rw [lsuf_cons_no h]; exact (lsuf_suffix u).trans (List.suffix_cons _ _)
theorem lsuf_le (u : Wd) : (lsuf W u).length ≤ u.length := (lsuf_suffix u).length_le
theorem lsuf_max : ∀ {u v : Wd}, v ∈ W → v <:+ u → v.length ≤ (lsuf W u).length
  | [], v, _, hs => by have := hs.length_le; simpa [lsuf] using this
  | x :: u, v, hv, hs => by
    by_cases h : (x :: u) ∈ W
    · rw [lsuf_of_mem h]; exact hs.length_le
    · rw [lsuf_cons_no h]
      rcases List.suffix_cons_iff.1 hs with h1 | h1
      · exact absurd (h1 ▸ hv) h
      · exact lsuf_max hv h1
theorem suffix_eq {a b u : Wd} (ha : a <:+ u) (hb : b <:+ u) (hl : a.length = b.length) : a = b := by
  obtain ⟨x, rfl⟩ := ha
  obtain ⟨y, hy⟩ := hb
  have h1 : y.length = x.length := by have := congrArg List.length hy; simp only [List.length_append] at this; omega
  exact (List.append_inj_right hy (by omega)).symm
theorem suffix_of_le {a b u : Wd} (ha : a <:+ u) (hb : b <:+ u) (hl : a.length ≤ b.length) : a <:+ b := List.suffix_of_suffix_length_le ha hb hl
theorem lsuf_uniq {u v : Wd} (hv : v ∈ W) (hs : v <:+ u) (h0 : [] ∈ W) (hm : (lsuf W u).length ≤ v.length) : v = lsuf W u :=
  suffix_eq hs (lsuf_suffix u) (Nat.le_antisymm (lsuf_max hv hs) hm)
theorem suffix_snoc {a b : Wd} {s : Int} (h : a <:+ b) : a ++ [s] <:+ b ++ [s] := by
  obtain ⟨t, rfl⟩ := h
  exact ⟨t, by rw [List.append_assoc]⟩
/-- A step more: the longest end of the longest end, and the symbol. -/
theorem lsuf_snoc (hc : Closed W) (u : Wd) (s : Int) : lsuf W (u ++ [s]) = lsuf W (lsuf W u ++ [s]) := by
  have h1 : lsuf W (lsuf W u ++ [s]) <:+ u ++ [s] := (lsuf_suffix _).trans (suffix_snoc (lsuf_suffix u))
  have h2 := lsuf_mem hc.1 (lsuf W u ++ [s])
  refine (lsuf_uniq h2 h1 hc.1 ?_).symm
  rcases List.eq_nil_or_concat (lsuf W (u ++ [s])) with h0 | ⟨a', t, h0⟩
  · rw [h0]; simp
  · have hm := lsuf_mem hc.1 (u ++ [s])
    have hs := lsuf_suffix (W := W) (u ++ [s])
    rw [List.concat_eq_append] at h0
    rw [h0] at hm hs
    obtain ⟨x, hx⟩ := hs
    rw [← List.append_assoc] at hx
    have h3 := List.append_inj' hx rfl
    obtain ⟨h3, h4⟩ := h3
    have ha : a' ∈ W := hc.2 a' t hm
    have hsa : a' <:+ u := ⟨x, h3⟩
    have hl := lsuf_max ha hsa
    have h5 := suffix_of_le hsa (lsuf_suffix u) hl
    rw [h4] at hm h0
    rw [h0]
    exact lsuf_max hm (suffix_snoc h5)
/-- Where no symbol leads on, the longest end of the rest does. -/
theorem lsuf_fall (hc : Closed W) {v : Wd} {s : Int} (hv : v ≠ []) (hn : v ++ [s] ∉ W) : lsuf W (v ++ [s]) = lsuf W (lsuf W v.tail ++ [s]) := by
  cases v with
  | nil => exact absurd rfl hv
  | cons x v =>
    rw [List.cons_append, lsuf_cons_no (by rw [← List.cons_append]; exact hn), List.tail_cons]
    exact lsuf_snoc hc v s
theorem lsuf_root (hc : Closed W) {s : Int} (hn : [s] ∉ W) : lsuf W [s] = [] := by rw [lsuf_cons_no hn]; rfl
end

/-- The longest pattern that a text ends with: its place, its length; -1 and 0. -/
def endsGo (u : Wd) : List Wd → Nat → Int × Nat → Int × Nat
  | [], _, acc => acc
  | p :: r, k, acc => endsGo u r (k + 1) (if acc.2 < p.length ∧ p <:+ u then ((k : Int), p.length) else acc)
def endsOf (l : List Wd) (u : Wd) : Int × Nat := endsGo u l 0 (-1, 0)
theorem endsGo_congr {u v : Wd} : ∀ {l : List Wd} {k : Nat} {acc : Int × Nat}, (∀ p ∈ l, (p <:+ u ↔ p <:+ v)) → endsGo u l k acc = endsGo v l k acc
  | [], _, _, _ => rfl
  | p :: r, k, acc, h => by
    rw [endsGo, endsGo]
    have hp := h p (by simp)
    by_cases h1 : acc.2 < p.length ∧ p <:+ u
    · rw [if_pos h1, if_pos ⟨h1.1, hp.1 h1.2⟩]
      exact endsGo_congr fun q hq => h q (by simp [hq])
    · rw [if_neg h1, if_neg (fun h2 => h1 ⟨h2.1, hp.2 h2.2⟩)]
      exact endsGo_congr fun q hq => h q (by simp [hq])
/-- A first place where a word stands among patterns. -/
def firstAt (u : Wd) : List Wd → Nat → Option Nat
  | [], _ => none
  | p :: r, k => if p = u then some k else firstAt u r (k + 1)
theorem endsGo_full {u : Wd} : ∀ {l : List Wd} {k : Nat} {a : Int}, endsGo u l k (a, u.length) = (a, u.length)
  | [], _, _ => rfl
  | p :: r, k, a => by
    rw [endsGo, if_neg (fun h => by have := h.2.length_le; simp only at h; omega)]
    exact endsGo_full
theorem endsGo_first {u : Wd} : ∀ {l : List Wd} {k j : Nat} {acc : Int × Nat}, acc.2 < u.length → firstAt u l k = some j → endsGo u l k acc = ((j : Int), u.length)
  | [], k, j, acc, _, h => by simp [firstAt] at h
  | p :: r, k, j, acc, ha, h => by
    rw [firstAt] at h
    rw [endsGo]
    by_cases hp : p = u
    · rw [if_pos hp] at h
      obtain rfl := Option.some.inj h
      subst hp
      rw [if_pos ⟨ha, List.suffix_refl _⟩]
      exact endsGo_full
    · rw [if_neg hp] at h
      by_cases h1 : acc.2 < p.length ∧ p <:+ u
      · rw [if_pos h1]
        refine endsGo_first ?_ h
        have := h1.2.length_le
        have : p.length ≠ u.length := fun e => hp (suffix_eq h1.2 (List.suffix_refl _) e)
        simp only; omega
      · rw [if_neg h1]; exact endsGo_first ha h
theorem firstAt_none {u : Wd} : ∀ {l : List Wd} {k : Nat}, firstAt u l k = none ↔ u ∉ l
  | [], k => by simp [firstAt]
  | p :: r, k => by
    rw [firstAt]
    by_cases hp : p = u
    · rw [if_pos hp]; simp [hp]
    · rw [if_neg hp, firstAt_none]; simp [Ne.symm hp]
theorem firstAt_snoc {u p : Wd} : ∀ {l : List Wd} {k : Nat}, firstAt u (l ++ [p]) k = match firstAt u l k with | some j => some j | none => if p = u then some (k + l.length) else none
  | [], k => by simp [firstAt]
  | q :: r, k => by
    rw [List.cons_append, firstAt, firstAt]
    by_cases hq : q = u
    · rw [if_pos hq, if_pos hq]
    · rw [if_neg hq, if_neg hq, firstAt_snoc, List.length_cons, show k + 1 + r.length = k + (r.length + 1) from by omega]
/-- The pattern that a word is: its place, its length; -1 and 0. -/
def own (l : List Wd) (u : Wd) : Int × Nat := match firstAt u l 0 with | some j => ((j : Int), u.length) | none => (-1, 0)
theorem own_nil (u : Wd) : own [] u = (-1, 0) := rfl
theorem own_some {l : List Wd} {u : Wd} (h : u ∈ l) : ∃ j : Nat, own l u = ((j : Int), u.length) := by
  unfold own
  rcases hf : firstAt u l 0 with _ | j
  · exact absurd h (firstAt_none.1 hf)
  · exact ⟨j, rfl⟩
theorem own_none {l : List Wd} {u : Wd} (h : u ∉ l) : own l u = (-1, 0) := by unfold own; rw [firstAt_none.2 h]
theorem own_snoc (l : List Wd) (p u : Wd) : own (l ++ [p]) u = if (own l u).1 = -1 then (if p = u then ((l.length : Int), u.length) else (-1, 0)) else own l u := by
  unfold own
  rw [firstAt_snoc]
  rcases hf : firstAt u l 0 with _ | j
  · simp only [if_true]
    by_cases hp : p = u
    · rw [if_pos hp, if_pos hp]; simp
    · rw [if_neg hp, if_neg hp]
  · simp only
    rw [if_neg (by omega)]
/-- Patterns that may be: none is empty, each is among the words. -/
def Pats (l W : List Wd) : Prop := ∀ p ∈ l, p ≠ [] ∧ p ∈ W
theorem endsOf_nil {l W : List Wd} (hp : Pats l W) : endsOf l [] = (-1, 0) := by
  unfold endsOf
  have : ∀ (r : List Wd) (k : Nat), (∀ p ∈ r, p ≠ []) → endsGo [] r k (-1, 0) = (-1, 0) := by
    intro r
    induction r with
    | nil => intro k _; rfl
    | cons p r ih =>
      intro k h
      rw [endsGo, if_neg (fun h1 => by have := h1.2.length_le; simp at this; exact h p (by simp) this)]
      exact ih _ fun q hq => h q (by simp [hq])
  exact this l 0 fun p h => (hp p h).1
theorem endsOf_own {l W : List Wd} (hp : Pats l W) {u : Wd} (h : (own l u).1 ≠ -1) : endsOf l u = own l u := by
  unfold own at h ⊢
  rcases hf : firstAt u l 0 with _ | j
  · rw [hf] at h; exact absurd rfl h
  · have hu : u ∈ l := by
      by_cases hu : u ∈ l
      · exact hu
      · rw [firstAt_none.2 hu] at hf; cases hf
    have hne := (hp u hu).1
    exact endsGo_first (by simp only; exact List.length_pos_iff.2 hne) hf
theorem endsOf_fall {l W : List Wd} (hp : Pats l W) {u : Wd} (hu : u ≠ []) (h : (own l u).1 = -1) : endsOf l u = endsOf l (lsuf W u.tail) := by
  have hn : u ∉ l := fun hm => by obtain ⟨j, hj⟩ := own_some hm; rw [hj] at h; simp only at h; omega
  refine endsGo_congr fun p hpl => ⟨fun hs => ?_, fun hs => ?_⟩
  · cases u with
    | nil => exact absurd rfl hu
    | cons x u =>
      rcases List.suffix_cons_iff.1 hs with h1 | h1
      · exact absurd (h1 ▸ hpl) hn
      · exact suffix_of_le h1 (lsuf_suffix u) (lsuf_max (hp p hpl).2 h1)
  · exact (hs.trans (lsuf_suffix _)).trans (List.tail_suffix u)
theorem endsOf_lsuf {l W : List Wd} (hp : Pats l W) (u : Wd) : endsOf l u = endsOf l (lsuf W u) :=
  endsGo_congr fun p hpl => ⟨fun hs => suffix_of_le hs (lsuf_suffix u) (lsuf_max (hp p hpl).2 hs), fun hs => hs.trans (lsuf_suffix u)⟩
theorem endsGo_bound {u : Wd} : ∀ {l : List Wd} {k : Nat} {acc : Int × Nat}, (acc.1 = -1 ∧ acc.2 = 0 ∨ (0 ≤ acc.1 ∧ 0 < acc.2 ∧ acc.2 ≤ u.length)) → (∀ p ∈ l, p ≠ []) →
    ((endsGo u l k acc).1 = -1 ∧ (endsGo u l k acc).2 = 0 ∨ (0 ≤ (endsGo u l k acc).1 ∧ 0 < (endsGo u l k acc).2 ∧ (endsGo u l k acc).2 ≤ u.length))
  | [], _, _, h, _ => h
  | p :: r, k, acc, h, hp => by
    rw [endsGo]
    by_cases h1 : acc.2 < p.length ∧ p <:+ u
    · rw [if_pos h1]
      refine endsGo_bound (Or.inr ⟨by simp only; omega, by simp only; omega, h1.2.length_le⟩) fun q hq => hp q (by simp [hq])
    · rw [if_neg h1]; exact endsGo_bound h fun q hq => hp q (by simp [hq])

/-! The trie. -/
/-- A state. -/
structure Nd where
  ways : List (Int × Nat)
  fall : Nat
  depth : Nat
  place : Int
  long : Nat
def Nd.new (d : Nat) : Nd := ⟨[], 0, d, -1, 0⟩
def nd (ns : List Nd) (i : Nat) : Nd := ns.getD i (Nd.new 0)
def wd (W : List Wd) (i : Nat) : Wd := W.getD i []
/-- Rising by symbols. -/
def Rising : List (Int × Nat) → Prop
  | [] => True
  | [_] => True
  | a :: b :: r => a.1 < b.1 ∧ Rising (b :: r)
/-- How many ways lead on by lesser symbols; where a symbol leads. -/
def posOf (ws : List (Int × Nat)) (s : Int) : Nat := (ws.takeWhile fun w => decide (w.1 < s)).length
def wayOf : List (Int × Nat) → Int → Option Nat
  | [], _ => none
  | w :: r, s => if w.1 = s then some w.2 else wayOf r s
def insWay (ws : List (Int × Nat)) (s : Int) (t : Nat) : List (Int × Nat) := ws.take (posOf ws s) ++ (s, t) :: ws.drop (posOf ws s)
/-- The words W are the states' ns. -/
structure Trie (ns : List Nd) (W : List Wd) : Prop where
  len : ns.length = W.length
  zero : 0 < W.length ∧ wd W 0 = []
  inj : ∀ i j, i < W.length → j < W.length → wd W i = wd W j → i = j
  rising : ∀ i, i < W.length → Rising (nd ns i).ways
  ways : ∀ i, i < W.length → ∀ s t, (s, t) ∈ (nd ns i).ways ↔ (t < W.length ∧ wd W t = wd W i ++ [s])
  pre : ∀ t, t < W.length → ∀ u s, wd W t = u ++ [s] → ∃ i, i < W.length ∧ wd W i = u
  depth : ∀ i, i < W.length → (nd ns i).depth = (wd W i).length
theorem wd_get {W : List Wd} {i : Nat} (h : i < W.length) : wd W i = W[i] := by
  unfold wd; rw [List.getD_eq_getElem?_getD, List.getElem?_eq_getElem h]; rfl
theorem wd_mem {W : List Wd} {i : Nat} (h : i < W.length) : wd W i ∈ W := by rw [wd_get h]; exact List.getElem_mem h
theorem mem_wd {W : List Wd} {u : Wd} (h : u ∈ W) : ∃ i, i < W.length ∧ wd W i = u := by
  obtain ⟨i, hi, he⟩ := List.mem_iff_getElem.1 h
  exact ⟨i, hi, by rw [wd_get hi]; exact he⟩
theorem Trie.closed {ns : List Nd} {W : List Wd} (h : Trie ns W) : Closed W := by
  refine ⟨by rw [← h.zero.2]; exact wd_mem h.zero.1, fun u s hu => ?_⟩
  obtain ⟨t, ht, he⟩ := mem_wd hu
  obtain ⟨i, hi, he2⟩ := h.pre t ht u s he
  rw [← he2]; exact wd_mem hi
theorem wayOf_some : ∀ {ws : List (Int × Nat)} {s : Int} {t : Nat}, wayOf ws s = some t → (s, t) ∈ ws
  | [], s, t, h => by simp [wayOf] at h
  | w :: r, s, t, h => by
    rw [wayOf] at h
    by_cases hw : w.1 = s
    · rw [if_pos hw] at h
      obtain rfl := Option.some.inj h
      rw [← hw]; simp
    · rw [if_neg hw] at h
      exact List.mem_cons_of_mem _ (wayOf_some h)
theorem wayOf_none : ∀ {ws : List (Int × Nat)} {s : Int}, wayOf ws s = none → ∀ t, (s, t) ∉ ws
  | [], s, _, t, h => by simp at h
  | w :: r, s, h, t, hm => by
    rw [wayOf] at h
    by_cases hw : w.1 = s
    · rw [if_pos hw] at h; cases h
    · rw [if_neg hw] at h
      rcases List.mem_cons.1 hm with h1 | h1
      · exact hw (by rw [← h1])
      · exact wayOf_none h t h1
theorem nd_set {ns : List Nd} {i j : Nat} {x : Nd} (h : i < ns.length) : nd (ns.set i x) j = if i = j then x else nd ns j := by
  unfold nd
  rw [List.getD_eq_getElem?_getD, List.getD_eq_getElem?_getD, List.getElem?_set]
  by_cases hij : i = j
  · rw [if_pos hij, if_pos hij, if_pos h]; rfl
  · rw [if_neg hij, if_neg hij]
theorem nd_app {ns : List Nd} {x : Nd} {j : Nat} : nd (ns ++ [x]) j = if j < ns.length then nd ns j else if j = ns.length then x else Nd.new 0 := by
  unfold nd
  rw [List.getD_eq_getElem?_getD, List.getD_eq_getElem?_getD, List.getElem?_append]
  by_cases h : j < ns.length
  · rw [if_pos h, if_pos h]
  · rw [if_neg h, if_neg h]
    by_cases h1 : j = ns.length
    · rw [if_pos h1, h1, Nat.sub_self]; rfl
    · rw [if_neg h1, List.getElem?_eq_none (by simp; omega)]; rfl
theorem wd_app {W : List Wd} {x : Wd} {j : Nat} : wd (W ++ [x]) j = if j < W.length then wd W j else if j = W.length then x else [] := by
  unfold wd
  rw [List.getD_eq_getElem?_getD, List.getD_eq_getElem?_getD, List.getElem?_append]
  by_cases h : j < W.length
  · rw [if_pos h, if_pos h]
  · rw [if_neg h, if_neg h]
    by_cases h1 : j = W.length
    · rw [if_pos h1, h1, Nat.sub_self]; rfl
    · rw [if_neg h1, List.getElem?_eq_none (by simp; omega)]; rfl
/-- Where the ways are rising, all ahead of the place are lesser, all from there on are not. -/
theorem rising_tail {a : Int × Nat} {r : List (Int × Nat)} (h : Rising (a :: r)) : Rising r := by
  cases r with
  | nil => trivial
  | cons b r => exact h.2
theorem rising_head : ∀ {a : Int × Nat} {r : List (Int × Nat)}, Rising (a :: r) → ∀ x ∈ r, a.1 < x.1
  | a, [], _, x, hx => by simp at hx
  | a, b :: r, h, x, hx => by
    rcases List.mem_cons.1 hx with rfl | h1
    · exact h.1
    · have := rising_head h.2 x h1
      have := h.1
      omega
theorem posOf_le : ∀ (ws : List (Int × Nat)) (s : Int), posOf ws s ≤ ws.length := fun ws s => by
  unfold posOf
  exact (List.takeWhile_sublist _).length_le
theorem posOf_cons_lt {a : Int × Nat} {r : List (Int × Nat)} {s : Int} (h : a.1 < s) : posOf (a :: r) s = posOf r s + 1 := by simp [posOf, h]
theorem posOf_cons_ge {a : Int × Nat} {r : List (Int × Nat)} {s : Int} (h : ¬ a.1 < s) : posOf (a :: r) s = 0 := by simp [posOf, h]
def wy (ws : List (Int × Nat)) (i : Nat) : Int × Nat := ws.getD i (0, 0)
theorem posOf_below : ∀ {ws : List (Int × Nat)} {s : Int} {i : Nat}, i < posOf ws s → (wy ws i).1 < s
  | [], s, i, h => by simp [posOf] at h
  | a :: r, s, i, h => by
    by_cases ha : a.1 < s
    · rw [posOf_cons_lt ha] at h
      cases i with
      | zero => exact ha
      | succ i => exact posOf_below (ws := r) (by omega)
    · rw [posOf_cons_ge ha] at h; omega
theorem posOf_above : ∀ {ws : List (Int × Nat)} {s : Int} {i : Nat}, Rising ws → posOf ws s ≤ i → i < ws.length → s ≤ (wy ws i).1
  | [], s, i, _, _, h => by simp at h
  | a :: r, s, i, hr, hp, h => by
    by_cases ha : a.1 < s
    · rw [posOf_cons_lt ha] at hp
      cases i with
      | zero => omega
      | succ i => exact posOf_above (ws := r) (rising_tail hr) (by omega) (by simp only [List.length_cons] at h; omega)
    · cases i with
      | zero => show s ≤ a.1; omega
      | succ i =>
        have hi : i < r.length := by simp only [List.length_cons] at h; omega
        have := rising_head hr (wy r i) (by unfold wy; rw [List.getD_eq_getElem?_getD, List.getElem?_eq_getElem hi]; exact List.getElem_mem hi)
        show s ≤ (wy r i).1
        omega
/-- The search's place is this one. -/
theorem posOf_uniq {ws : List (Int × Nat)} {s : Int} {i : Nat} (hr : Rising ws) (hi : i ≤ ws.length) (h1 : ∀ k, k < i → (wy ws k).1 < s) (h2 : ∀ k, i ≤ k → k < ws.length → s ≤ (wy ws k).1) : i = posOf ws s := by
  have hp := posOf_le ws s
  rcases Nat.lt_trichotomy i (posOf ws s) with h | h | h
  · have a := posOf_below h; have b := h2 i (Nat.le_refl _) (by omega); omega
  · exact h
  · have a := h1 _ h; have b := posOf_above hr (Nat.le_refl _) (by omega : posOf ws s < ws.length); omega
theorem wayOf_pos : ∀ {ws : List (Int × Nat)} {s : Int}, Rising ws → wayOf ws s = if posOf ws s < ws.length ∧ (wy ws (posOf ws s)).1 = s then some (wy ws (posOf ws s)).2 else none
  | [], s, _ => by simp [wayOf, posOf]
  | a :: r, s, hr => by
    rw [wayOf]
    by_cases ha : a.1 < s
    · rw [if_neg (by omega), wayOf_pos (rising_tail hr), posOf_cons_lt ha]
      have e : wy (a :: r) (posOf r s + 1) = wy r (posOf r s) := rfl
      rw [e]
      by_cases h : posOf r s < r.length ∧ (wy r (posOf r s)).1 = s
      · rw [if_pos h, if_pos ⟨by simp only [List.length_cons]; omega, h.2⟩]
      · rw [if_neg h, if_neg (fun h1 => h ⟨by have := h1.1; simp only [List.length_cons] at this; omega, h1.2⟩)]
    · rw [posOf_cons_ge ha]
      have e : wy (a :: r) 0 = a := rfl
      rw [e]
      by_cases h : a.1 = s
      · rw [if_pos h, if_pos ⟨by simp, h⟩]
      · rw [if_neg h, if_neg (fun h1 => h h1.2)]
        rcases hw : wayOf r s with _ | t
        · rfl
        · have := rising_head hr _ (wayOf_some hw); simp only at this; omega
theorem insWay_mem {ws : List (Int × Nat)} {s : Int} {t : Nat} {x : Int × Nat} : x ∈ insWay ws s t ↔ x = (s, t) ∨ x ∈ ws := by
  unfold insWay
  rw [List.mem_append, List.mem_cons]
  constructor
  · rintro (h | h | h)
    · exact Or.inr (List.mem_of_mem_take h)
    · exact Or.inl h
    · exact Or.inr (List.mem_of_mem_drop h)
  · rintro (h | h)
    · exact Or.inr (Or.inl h)
    · rw [← List.take_append_drop (posOf ws s) ws, List.mem_append] at h
      rcases h with h | h
      · exact Or.inl h
      · exact Or.inr (Or.inr h)
theorem insWay_rising : ∀ {ws : List (Int × Nat)} {s : Int} {t : Nat}, Rising ws → (∀ x ∈ ws, x.1 ≠ s) → Rising (insWay ws s t)
  | [], s, t, _, _ => by simp [insWay, posOf, Rising]
  | a :: r, s, t, hr, hn => by
    by_cases ha : a.1 < s
    · have ih := insWay_rising (t := t) (rising_tail hr) (fun x hx => hn x (by simp [hx]))
      have e : insWay (a :: r) s t = a :: insWay r s t := by
        unfold insWay; rw [posOf_cons_lt ha]; rfl
      rw [e]
      have hm : ∀ x ∈ insWay r s t, a.1 < x.1 := by
        intro x hx
        rcases insWay_mem.1 hx with rfl | h
        · exact ha
        · exact rising_head hr x h
      rcases hz : insWay r s t with _ | ⟨b, r'⟩
      · trivial
      · rw [hz] at ih hm
        exact ⟨hm b (by simp), ih⟩
    · have e : insWay (a :: r) s t = (s, t) :: a :: r := by
        unfold insWay; rw [posOf_cons_ge ha]; rfl
      rw [e]
      have := hn a (by simp)
      exact ⟨by simp only; omega, hr⟩
end Go.Proofs.Ytohfkpoblebfaaa
