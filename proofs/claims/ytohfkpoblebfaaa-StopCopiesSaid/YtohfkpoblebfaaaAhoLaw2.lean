/- The plain law of aho: states put in, and the falls found, the short words first. -/
import Derived.Test.YtohfkpoblebfaaaAhoLaw
namespace Go.Proofs.Ytohfkpoblebfaaa
set_option linter.unusedVariables false

section
variable {ns : List Nd} {W : List Wd} {i : Nat} {s : Int} {t : Nat}
theorem Trie.way_some (h : Trie ns W) (hi : i < W.length) (hw : wayOf (nd ns i).ways s = some t) : t < W.length ∧ wd W t = wd W i ++ [s] := (h.ways i hi s t).1 (wayOf_some hw)
theorem Trie.way_none (h : Trie ns W) (hi : i < W.length) (hw : wayOf (nd ns i).ways s = none) : wd W i ++ [s] ∉ W := fun hm => by
  obtain ⟨t, ht, he⟩ := mem_wd hm
  exact wayOf_none hw t ((h.ways i hi s t).2 ⟨ht, he⟩)
/-- A new state. -/
def grow (ns : List Nd) (i : Nat) (s : Int) : List Nd := (ns.set i { nd ns i with ways := insWay (nd ns i).ways s ns.length }) ++ [Nd.new ((nd ns i).depth + 1)]
theorem grow_len : (grow ns i s).length = ns.length + 1 := by simp [grow]
theorem nd_grow (hi : i < ns.length) (j : Nat) : nd (grow ns i s) j = if j < ns.length then (if i = j then { nd ns i with ways := insWay (nd ns i).ways s ns.length } else nd ns j) else if j = ns.length then Nd.new ((nd ns i).depth + 1) else Nd.new 0 := by
  unfold grow
  rw [nd_app, List.length_set]
  by_cases h : j < ns.length
  · rw [if_pos h, if_pos h, nd_set hi]
  · rw [if_neg h, if_neg h]
theorem wd_old {x : Wd} {j : Nat} (h : j < W.length) : wd (W ++ [x]) j = wd W j := by rw [wd_app, if_pos h]
theorem wd_new {x : Wd} {j : Nat} (h : j = W.length) : wd (W ++ [x]) j = x := by rw [wd_app, if_neg (by omega), if_pos h]
theorem nd_grow_old {j : Nat} (hi : i < ns.length) (h : j < ns.length) (hij : i ≠ j) : nd (grow ns i s) j = nd ns j := by rw [nd_grow hi, if_pos h, if_neg hij]
theorem nd_grow_at (hi : i < ns.length) : nd (grow ns i s) i = { nd ns i with ways := insWay (nd ns i).ways s ns.length } := by rw [nd_grow hi, if_pos hi, if_pos rfl]
theorem nd_grow_new {j : Nat} (hi : i < ns.length) (h : j = ns.length) : nd (grow ns i s) j = Nd.new ((nd ns i).depth + 1) := by rw [nd_grow hi, if_neg (by omega), if_pos h]
theorem Trie.grow (h : Trie ns W) (hi : i < W.length) (hw : wayOf (nd ns i).ways s = none) : Trie (grow ns i s) (W ++ [wd W i ++ [s]]) := by
  have hn := h.way_none hi hw
  have hl := h.len
  have hil : i < ns.length := by omega
  have hi0 := h.zero.1
  refine ⟨by rw [grow_len, List.length_append, List.length_singleton]; omega, ⟨by rw [List.length_append]; simp, by rw [wd_app, if_pos hi0]; exact h.zero.2⟩, ?_, ?_, ?_, ?_, ?_⟩
  · intro a b ha hb he
    rw [List.length_append, List.length_singleton] at ha hb
    rw [wd_app, wd_app] at he
    by_cases ha1 : a < W.length
    · rw [if_pos ha1] at he
      by_cases hb1 : b < W.length
      · rw [if_pos hb1] at he; exact h.inj a b ha1 hb1 he
      · rw [if_neg hb1, if_pos (by omega)] at he
        exact absurd (he ▸ wd_mem ha1) hn
    · rw [if_neg ha1, if_pos (by omega)] at he
      by_cases hb1 : b < W.length
      · rw [if_pos hb1] at he
        exact absurd (he ▸ wd_mem hb1) hn
      · omega
  · intro j hj
    rw [List.length_append, List.length_singleton] at hj
    by_cases h1 : j < ns.length
    · by_cases hij : i = j
      · subst hij
        rw [nd_grow_at hil]
        refine insWay_rising (h.rising i hi) fun x hx e => ?_
        obtain ⟨x1, x2⟩ := x
        simp only at e
        subst e
        exact wayOf_none hw x2 hx
      · rw [nd_grow_old hil h1 hij]; exact h.rising j (by omega)
    · rw [nd_grow_new hil (by omega)]; trivial
  · intro j hj s' t'
    rw [List.length_append, List.length_singleton] at hj ⊢
    have et1 : t' < W.length → wd (W ++ [wd W i ++ [s]]) t' = wd W t' := fun h1 => by rw [wd_app, if_pos h1]
    have et2 : t' = W.length → wd (W ++ [wd W i ++ [s]]) t' = wd W i ++ [s] := fun h1 => by rw [wd_app, if_neg (by omega), if_pos h1]
    have hold := h.ways
    by_cases h1 : j < ns.length
    · rw [wd_old (j := j) (by omega)]
      by_cases hij : i = j
      · subst hij
        rw [nd_grow_at hil]
        simp only [insWay_mem]
        rw [hold i hi]
        constructor
        · rintro (he | ⟨h2, h3⟩)
          · obtain ⟨rfl, rfl⟩ := Prod.mk.inj he
            exact ⟨by omega, et2 hl⟩
          · exact ⟨by omega, by rw [et1 h2]; exact h3⟩
        · rintro ⟨h2, h3⟩
          by_cases h4 : t' < W.length
          · rw [et1 h4] at h3; exact Or.inr ⟨h4, h3⟩
          · rw [et2 (by omega)] at h3
            have := List.append_cancel_left h3
            injection this with this _
            exact Or.inl (by rw [this]; exact Prod.ext rfl (by simp only; omega))
      · rw [nd_grow_old hil h1 hij, hold j (by omega)]
        constructor
        · rintro ⟨h2, h3⟩; exact ⟨by omega, by rw [et1 h2]; exact h3⟩
        · rintro ⟨h2, h3⟩
          by_cases h4 : t' < W.length
          · rw [et1 h4] at h3; exact ⟨h4, h3⟩
          · rw [et2 (by omega)] at h3
            exact absurd (h.inj i j hi (by omega) (List.append_inj' h3 rfl).1) hij
    · rw [nd_grow_new hil (by omega), wd_new (j := j) (by omega)]
      constructor
      · intro h2; simp [Nd.new] at h2
      · rintro ⟨h2, h3⟩
        exfalso
        by_cases h4 : t' < W.length
        · rw [et1 h4] at h3
          exact hn (h.closed.2 _ s' (h3 ▸ wd_mem h4))
        · rw [et2 (by omega)] at h3
          have := congrArg List.length h3
          simp only [List.length_append, List.length_singleton] at this
          omega
  · intro t' ht' u s' he
    rw [List.length_append, List.length_singleton] at ht' ⊢
    rw [wd_app] at he
    by_cases h4 : t' < W.length
    · rw [if_pos h4] at he
      obtain ⟨k, hk, hke⟩ := h.pre t' h4 u s' he
      exact ⟨k, by omega, by rw [wd_app, if_pos hk]; exact hke⟩
    · rw [if_neg h4, if_pos (by omega)] at he
      exact ⟨i, by omega, by rw [wd_app, if_pos hi]; exact (List.append_inj' he rfl).1⟩
  · intro j hj
    rw [List.length_append, List.length_singleton] at hj
    by_cases h1 : j < ns.length
    · rw [wd_old (by omega)]
      by_cases hij : i = j
      · subst hij; rw [nd_grow_at hil]; exact h.depth i hi
      · rw [nd_grow_old hil h1 hij]; exact h.depth j (by omega)
    · rw [nd_grow_new hil (by omega), wd_new (by omega), List.length_append, List.length_singleton, ← h.depth i hi]; rfl
end

/-- What the states tell of patterns while they are put in. -/
def Owns (l : List Wd) (ns : List Nd) (W : List Wd) : Prop := ∀ j, j < W.length → (nd ns j).place = (own l (wd W j)).1 ∧ (nd ns j).long = (own l (wd W j)).2 ∧ (nd ns j).fall = 0
theorem Owns.grow {l : List Wd} {ns : List Nd} {W : List Wd} {i : Nat} {s : Int} (h : Owns l ns W) (ht : Trie ns W) (hp : Pats l W) (hi : i < W.length) (hw : wayOf (nd ns i).ways s = none) : Owns l (grow ns i s) (W ++ [wd W i ++ [s]]) := by
  intro j hj
  have hl := ht.len
  have hn := ht.way_none hi hw
  rw [List.length_append, List.length_singleton] at hj
  by_cases h1 : j < ns.length
  · rw [wd_old (by omega)]
    by_cases hij : i = j
    · subst hij; rw [nd_grow_at (by omega)]; exact h i hi
    · rw [nd_grow_old (by omega) h1 hij]; exact h j (by omega)
  · rw [nd_grow_new (by omega) (by omega), wd_new (by omega), own_none (fun hm => hn (hp _ hm).2)]
    exact ⟨rfl, rfl, rfl⟩
theorem Pats.mono {l W W' : List Wd} (h : Pats l W) (hs : ∀ u ∈ W, u ∈ W') : Pats l W' := fun p hp => ⟨(h p hp).1, hs p (h p hp).2⟩
theorem own_neg {l : List Wd} {u : Wd} (h : (own l u).1 = -1) : own l u = (-1, 0) := by
  unfold own at h ⊢
  rcases hf : firstAt u l 0 with _ | j
  · rfl
  · rw [hf] at h; simp only at h; omega
/-- The pattern's own state is marked, if no earlier one did. -/
theorem Owns.mark {l : List Wd} {ns : List Nd} {W : List Wd} {p : Wd} {a : Nat} (h : Owns l ns W) (ht : Trie ns W) (ha : a < W.length) (hp : wd W a = p) (hm : (nd ns a).place = -1) :
    Owns (l ++ [p]) (ns.set a { nd ns a with place := (l.length : Int), long := p.length }) W := by
  intro j hj
  have hl := ht.len
  rw [nd_set (by omega), own_snoc]
  by_cases haj : a = j
  · subst haj
    rw [if_pos rfl, hp]
    have h1 := (h a ha).1
    rw [hm, hp] at h1
    rw [if_pos h1.symm, if_pos rfl]
    exact ⟨rfl, rfl, (h a ha).2.2⟩
  · rw [if_neg haj]
    have hne : ¬ p = wd W j := fun e => haj (ht.inj a j ha hj (hp.trans e))
    by_cases h1 : (own l (wd W j)).1 = -1
    · rw [if_pos h1, if_neg hne, ← own_neg h1]; exact h j hj
    · rw [if_neg h1]; exact h j hj
theorem Owns.again {l : List Wd} {ns : List Nd} {W : List Wd} {p : Wd} {a : Nat} (h : Owns l ns W) (ht : Trie ns W) (ha : a < W.length) (hp : wd W a = p) (hm : (nd ns a).place ≠ -1) : Owns (l ++ [p]) ns W := by
  intro j hj
  rw [own_snoc]
  by_cases haj : a = j
  · subst haj
    have h1 := (h a ha).1
    rw [if_neg (by rw [← h1]; exact hm)]; exact h a ha
  · have hne : ¬ p = wd W j := fun e => haj (ht.inj a j ha hj (hp.trans e))
    by_cases h1 : (own l (wd W j)).1 = -1
    · rw [if_pos h1, if_neg hne, ← own_neg h1]; exact h j hj
    · rw [if_neg h1]; exact h j hj
/-- A change of the marks, or of a fall, leaves the trie. -/
theorem Trie.set {ns : List Nd} {W : List Wd} {a : Nat} {x : Nd} (h : Trie ns W) (ha : a < W.length) (hw : x.ways = (nd ns a).ways) (hd : x.depth = (nd ns a).depth) : Trie (ns.set a x) W := by
  have hl := h.len
  have key : ∀ j, (nd (ns.set a x) j).ways = (nd ns j).ways ∧ (nd (ns.set a x) j).depth = (nd ns j).depth := by
    intro j
    rw [nd_set (by omega)]
    by_cases haj : a = j
    · subst haj; rw [if_pos rfl]; exact ⟨hw, hd⟩
    · rw [if_neg haj]; exact ⟨rfl, rfl⟩
  exact ⟨by rw [List.length_set]; exact hl, h.zero, h.inj, fun j hj => by rw [(key j).1]; exact h.rising j hj, fun j hj s t => by rw [(key j).1]; exact h.ways j hj s t, h.pre, fun j hj => by rw [(key j).2]; exact h.depth j hj⟩

/-- Which words there are: the first parts of the patterns. -/
def Holds (l W : List Wd) : Prop := ∀ u, u ∈ W ↔ (u = [] ∨ ∃ p ∈ l, u <+: p)
theorem Holds.pats {l W : List Wd} (h : Holds l W) (hne : ∀ p ∈ l, p ≠ []) : Pats l W := fun p hp => ⟨hne p hp, (h p).2 (Or.inr ⟨p, hp, List.prefix_refl _⟩)⟩

/-! The falls. -/
/-- A state whose fall and marks are found. -/
def Done (l : List Wd) (W : List Wd) (x : Nat) (n : Nd) : Prop := n.fall < W.length ∧ wd W n.fall = lsuf W (wd W x).tail ∧ n.place = (endsOf l (wd W x)).1 ∧ n.long = (endsOf l (wd W x)).2
def Fresh (l : List Wd) (W : List Wd) (x : Nat) (n : Nd) : Prop := n.fall = 0 ∧ n.place = (own l (wd W x)).1 ∧ n.long = (own l (wd W x)).2
/-- The states in a row are done; behind the i-th one's first j ways. -/
structure Bfs (l : List Wd) (W : List Wd) (ns : List Nd) (row : List Nat) (i j : Nat) : Prop where
  trie : Trie ns W
  pats : Pats l W
  lt : ∀ x ∈ row, x < W.length
  nodup : row.Nodup
  root : 0 ∈ row.take (i + 1)
  rise : ∀ a b (ha : a < row.length) (hb : b < row.length), a ≤ b → (wd W row[a]).length ≤ (wd W row[b]).length
  near : ∀ (hi : i < row.length), ∀ x ∈ row, (wd W x).length ≤ (wd W row[i]).length + 1
  done : ∀ x ∈ row, Done l W x (nd ns x)
  fresh : ∀ x, x < W.length → x ∉ row → Fresh l W x (nd ns x)
  kids : ∀ p s x, p < W.length → (s, x) ∈ (nd ns p).ways → (x ∈ row ↔ (p ∈ row.take i ∨ (∃ hi : i < row.length, p = row[i] ∧ (s, x) ∈ (nd ns p).ways.take j)))
theorem fresh_of_owns {l : List Wd} {ns : List Nd} {W : List Wd} (h : Owns l ns W) {x : Nat} (hx : x < W.length) : Fresh l W x (nd ns x) := ⟨(h x hx).2.2, (h x hx).1, (h x hx).2.1⟩
theorem Bfs.start {l : List Wd} {ns : List Nd} {W : List Wd} (ht : Trie ns W) (hp : Pats l W) (ho : Owns l ns W) : Bfs l W ns [0] 0 0 := by
  have h0 := ht.zero
  refine ⟨ht, hp, by simp [h0.1], by simp, by simp, ?_, by simp, ?_, ?_, ?_⟩
  · intro a b ha hb hab
    simp only [List.length_singleton] at ha hb
    obtain rfl : a = 0 := by omega
    obtain rfl : b = 0 := by omega
    exact Nat.le_refl _
  · intro x hx
    obtain rfl : x = 0 := by simpa using hx
    have hf := ho 0 h0.1
    refine ⟨by rw [hf.2.2]; exact h0.1, by rw [hf.2.2, h0.2]; rfl, ?_, ?_⟩
    · rw [hf.1, h0.2, endsOf_nil hp, own_none (fun hm => (hp _ hm).1 rfl)]
    · rw [hf.2.1, h0.2, endsOf_nil hp, own_none (fun hm => (hp _ hm).1 rfl)]
  · intro x hx _; exact fresh_of_owns ho hx
  · intro p s x hpl hm
    simp only [List.take_zero, List.not_mem_nil, and_false, exists_false, or_false, iff_false, List.mem_singleton]
    intro hx
    subst hx
    have := ((ht.ways p hpl s 0).1 hm).2
    rw [h0.2] at this
    simp at this
/-- All states no longer than the one at hand are in the row. -/
theorem Bfs.short {l : List Wd} {ns : List Nd} {W : List Wd} {row : List Nat} {i j : Nat} (h : Bfs l W ns row i j) (hi : i < row.length) : ∀ (d x : Nat), x < W.length → (wd W x).length = d → d ≤ (wd W row[i]).length → x ∈ row := by
  intro d
  induction d using Nat.strongRecOn with
  | _ d ih =>
    intro x hx hd hle
    rcases List.eq_nil_or_concat (wd W x) with h0 | ⟨u, s, hu⟩
    · have : x = 0 := h.trie.inj x 0 hx h.trie.zero.1 (by rw [h0, h.trie.zero.2])
      rw [this]; exact List.mem_of_mem_take h.root
    · rw [List.concat_eq_append] at hu
      obtain ⟨p, hp, hpe⟩ := h.trie.pre x hx u s hu
      have hm : (s, x) ∈ (nd ns p).ways := (h.trie.ways p hp s x).2 ⟨hx, by rw [hpe]; exact hu⟩
      have hlen : (wd W x).length = u.length + 1 := by rw [hu, List.length_append, List.length_singleton]
      have hpr := ih u.length (by omega) p hp (by rw [hpe]) (by omega)
      rw [h.kids p s x hp hm]
      obtain ⟨k, hk, hke⟩ := List.mem_iff_getElem.1 hpr
      left
      have hki : k < i := by
        rcases Nat.lt_or_ge k i with h1 | h1
        · exact h1
        · have := h.rise i k hi hk h1
          rw [hke, hpe] at this
          omega
      rw [List.mem_take_iff_getElem]
      exact ⟨k, by omega, hke⟩
theorem Bfs.falls {l : List Wd} {ns : List Nd} {W : List Wd} {row : List Nat} {i j : Nat} (h : Bfs l W ns row i j) (hi : i < row.length) {x : Nat} (hx : x < W.length) (hd : (wd W x).length ≤ (wd W row[i]).length) : Done l W x (nd ns x) :=
  h.done x (h.short hi _ x hx rfl hd)

theorem rising_get : ∀ {ws : List (Int × Nat)} {a b : Nat} (ha : a < ws.length) (hb : b < ws.length), Rising ws → a < b → (ws[a]).1 < (ws[b]).1
  | x :: r, 0, b + 1, ha, hb, h, _ => rising_head h _ (by simp)
  | x :: r, a + 1, b + 1, ha, hb, h, hab => rising_get (ws := r) (by simp only [List.length_cons] at ha; omega) (by simp only [List.length_cons] at hb; omega) (rising_tail h) (by omega)
theorem rising_not_take {ws : List (Int × Nat)} {j : Nat} (hj : j < ws.length) (h : Rising ws) : ws[j] ∉ ws.take j := fun hm => by
  obtain ⟨k, hk, he⟩ := List.mem_iff_getElem.1 hm
  rw [List.length_take] at hk
  rw [List.getElem_take] at he
  have := rising_get (by omega : k < ws.length) hj h (by omega)
  rw [he] at this
  omega
theorem nodup_inj : ∀ {l : List Nat} {a b : Nat}, l.Nodup → ∀ (ha : a < l.length) (hb : b < l.length), l[a] = l[b] → a = b
  | x :: r, 0, 0, _, _, _, _ => rfl
  | x :: r, 0, b + 1, h, _, hb, e => by
    have := (List.nodup_cons.1 h).1
    simp only [List.getElem_cons_zero, List.getElem_cons_succ] at e
    exact absurd (e ▸ List.getElem_mem (by simp only [List.length_cons] at hb; omega)) this
  | x :: r, a + 1, 0, h, ha, _, e => by
    have := (List.nodup_cons.1 h).1
    simp only [List.getElem_cons_zero, List.getElem_cons_succ] at e
    exact absurd (e ▸ List.getElem_mem (by simp only [List.length_cons] at ha; omega)) this
  | x :: r, a + 1, b + 1, h, ha, hb, e => by
    simp only [List.getElem_cons_succ] at e
    rw [nodup_inj (List.nodup_cons.1 h).2 (by simp only [List.length_cons] at ha; omega) (by simp only [List.length_cons] at hb; omega) e]
/-- The state behind a way, its fall found. -/
def fell (ns : List Nd) (x f : Nat) : Nd := { nd ns x with fall := f, place := if (nd ns x).place = -1 then (nd ns f).place else (nd ns x).place, long := if (nd ns x).place = -1 then (nd ns f).long else (nd ns x).long }
theorem Bfs.step {l : List Wd} {ns : List Nd} {W : List Wd} {row : List Nat} {i j : Nat} (h : Bfs l W ns row i j) (hi : i < row.length) (hj : j < (nd ns row[i]).ways.length) {f : Nat} (hf : f < W.length)
    (hfe : wd W f = lsuf W (wd W ((nd ns row[i]).ways[j]).2).tail) :
    Bfs l W (ns.set ((nd ns row[i]).ways[j]).2 (fell ns ((nd ns row[i]).ways[j]).2 f)) (row ++ [((nd ns row[i]).ways[j]).2]) i (j + 1) ∧ ((nd ns row[i]).ways[j]).2 < W.length ∧ ((nd ns row[i]).ways[j]).2 ∉ row := by
  obtain ⟨at_, hat⟩ : ∃ a, row[i] = a := ⟨_, rfl⟩
  have hrow : row[i] = at_ := hat
  have hatr : at_ ∈ row := by rw [← hat]; exact List.getElem_mem hi
  have hatl := h.lt _ hatr
  simp only [hat] at hj hfe ⊢
  obtain ⟨s, to, hst⟩ : ∃ s t, (nd ns at_).ways[j] = (s, t) := ⟨_, _, rfl⟩
  simp only [hst] at hfe ⊢
  have hmem : (s, to) ∈ (nd ns at_).ways := by rw [← hst]; exact List.getElem_mem hj
  obtain ⟨htl, hte⟩ := (h.trie.ways at_ hatl s to).1 hmem
  have hlen := h.trie.len
  have hris := h.trie.rising at_ hatl
  have hnt : (s, to) ∉ (nd ns at_).ways.take j := by rw [← hst]; exact rising_not_take hj hris
  have hni : at_ ∉ row.take i := fun hm => by
    obtain ⟨k, hk, hke⟩ := List.mem_take_iff_getElem.1 hm
    have h1 : k < i := by omega
    have h2 := nodup_inj h.nodup (by omega : k < row.length) hi (by rw [hke, hat])
    omega
  have hnew : to ∉ row := fun hm => by
    rcases (h.kids at_ s to hatl hmem).1 hm with h1 | ⟨_, _, h1⟩
    · exact hni h1
    · exact hnt h1
  have htl2 : (wd W to).length = (wd W at_).length + 1 := by rw [hte, List.length_append, List.length_singleton]
  have hfl : (wd W f).length ≤ (wd W at_).length := by
    rw [hfe]
    have := lsuf_le (W := W) (wd W to).tail
    rw [List.length_tail] at this
    omega
  have hfr : f ∈ row := h.short hi _ f hf rfl (by rw [hat]; exact hfl)
  have hfd := h.done f hfr
  have hft : f ≠ to := fun e => hnew (e ▸ hfr)
  have hfresh := h.fresh to htl hnew
  have hne : wd W to ≠ [] := by intro e; rw [e] at htl2; simp at htl2
  have hdone : Done l W to (fell ns to f) := by
    refine ⟨hf, hfe, ?_, ?_⟩
    · show (if (nd ns to).place = -1 then (nd ns f).place else (nd ns to).place) = _
      by_cases h1 : (nd ns to).place = -1
      · rw [if_pos h1, endsOf_fall h.pats hne (by rw [← hfresh.2.1]; exact h1), ← hfe]; exact hfd.2.2.1
      · rw [if_neg h1, endsOf_own h.pats (by rw [← hfresh.2.1]; exact h1)]; exact hfresh.2.1
    · show (if (nd ns to).place = -1 then (nd ns f).long else (nd ns to).long) = _
      by_cases h1 : (nd ns to).place = -1
      · rw [if_pos h1, endsOf_fall h.pats hne (by rw [← hfresh.2.1]; exact h1), ← hfe]; exact hfd.2.2.2
      · rw [if_neg h1, endsOf_own h.pats (by rw [← hfresh.2.1]; exact h1)]; exact hfresh.2.2
  have hways : ∀ p, (nd (ns.set to (fell ns to f)) p).ways = (nd ns p).ways := by
    intro p
    rw [nd_set (by omega)]
    by_cases hp : to = p
    · subst hp; rw [if_pos rfl]; rfl
    · rw [if_neg hp]
  have hgi : (row ++ [to])[i]'(by rw [List.length_append]; omega) = at_ := by rw [List.getElem_append_left hi]; exact hat
  refine ⟨⟨h.trie.set htl rfl rfl, h.pats, ?_, ?_, ?_, ?_, ?_, ?_, ?_, ?_⟩, htl, hnew⟩
  · intro x hx
    rcases List.mem_append.1 hx with h1 | h1
    · exact h.lt x h1
    · rw [List.mem_singleton.1 h1]; exact htl
  · rw [List.nodup_append]
    exact ⟨h.nodup, by simp, fun a ha b hb e => hnew (by rw [← List.mem_singleton.1 hb, ← e]; exact ha)⟩
  · rw [List.take_append_of_le_length (by omega)]; exact h.root
  · intro a b ha hb hab
    rw [List.length_append, List.length_singleton] at ha hb
    rcases Nat.lt_or_ge b row.length with h1 | h1
    · rw [List.getElem_append_left (by omega), List.getElem_append_left h1]; exact h.rise a b (by omega) h1 hab
    · have e2 : (row ++ [to])[b]'(by rw [List.length_append]; simp; omega) = to := by rw [List.getElem_append_right h1]; simp
      rw [e2]
      rcases Nat.lt_or_ge a row.length with h2 | h2
      · rw [List.getElem_append_left h2, htl2]
        have := h.near hi row[a] (List.getElem_mem h2)
        rw [hrow] at this
        exact this
      · have e1 : (row ++ [to])[a]'(by rw [List.length_append]; simp; omega) = to := by rw [List.getElem_append_right h2]; simp
        rw [e1]; exact Nat.le_refl _
  · intro _ x hx
    rw [hgi]
    rcases List.mem_append.1 hx with h1 | h1
    · have := h.near hi x h1; rw [hrow] at this; exact this
    · rw [List.mem_singleton.1 h1, htl2]; exact Nat.le_refl _
  · intro x hx
    rw [nd_set (by omega)]
    rcases List.mem_append.1 hx with h1 | h1
    · rw [if_neg (fun e : to = x => hnew (by rw [e]; exact h1))]; exact h.done x h1
    · rw [List.mem_singleton.1 h1, if_pos rfl]; exact hdone
  · intro x hx hnx
    have h1 : x ∉ row := fun hm => hnx (List.mem_append.2 (Or.inl hm))
    have h2 : to ≠ x := fun e => hnx (List.mem_append.2 (Or.inr (by rw [e]; simp)))
    rw [nd_set (by omega), if_neg h2]
    exact h.fresh x hx h1
  · intro p s' x hp hm
    rw [hways] at hm ⊢
    rw [List.take_append_of_le_length (by omega : i ≤ row.length), List.mem_append, List.mem_singleton]
    have hk := h.kids p s' x hp hm
    constructor
    · rintro (h1 | rfl)
      · rcases hk.1 h1 with h2 | ⟨_, h2, h3⟩
        · exact Or.inl h2
        · exact Or.inr ⟨by rw [List.length_append]; omega, by rw [hgi, ← hat]; exact h2, (List.take_subset_take_left _ (by omega)) h3⟩
      · obtain ⟨_, hx2⟩ := (h.trie.ways p hp s' x).1 hm
        rw [hte] at hx2
        have h3 := List.append_inj' hx2 rfl
        have hpa : at_ = p := h.trie.inj at_ p hatl hp h3.1
        obtain rfl : s = s' := by have := h3.2; injection this
        subst hpa
        refine Or.inr ⟨by rw [List.length_append]; omega, hgi.symm, ?_⟩
        rw [List.mem_take_iff_getElem]
        exact ⟨j, by omega, hst⟩
    · rintro (h1 | ⟨_, h1, h2⟩)
      · exact Or.inl (hk.2 (Or.inl h1))
      · rw [hgi] at h1
        subst h1
        rw [List.take_succ_eq_append_getElem hj, List.mem_append, List.mem_singleton, hst] at h2
        rcases h2 with h2 | h2
        · exact Or.inl (hk.2 (Or.inr ⟨hi, hat.symm, h2⟩))
        · exact Or.inr (Prod.mk.inj h2).2
theorem Bfs.next {l : List Wd} {ns : List Nd} {W : List Wd} {row : List Nat} {i j : Nat} (h : Bfs l W ns row i j) (hi : i < row.length) (hj : (nd ns row[i]).ways.length ≤ j) : Bfs l W ns row (i + 1) 0 := by
  refine ⟨h.trie, h.pats, h.lt, h.nodup, ?_, h.rise, ?_, h.done, h.fresh, ?_⟩
  · exact (List.take_subset_take_left row (by omega : i + 1 ≤ i + 1 + 1)) h.root
  · intro hi2 x hx
    have h1 := h.near hi x hx
    have h2 := h.rise i (i + 1) hi hi2 (by omega)
    omega
  · intro p s x hp hm
    rw [h.kids p s x hp hm, List.take_succ_eq_append_getElem hi, List.mem_append, List.mem_singleton]
    simp only [List.take_zero, List.not_mem_nil, and_false, exists_false, or_false]
    constructor
    · rintro (h1 | ⟨_, h1, _⟩)
      · exact Or.inl h1
      · exact Or.inr h1
    · rintro (h1 | h1)
      · exact Or.inl h1
      · refine Or.inr ⟨hi, h1, ?_⟩
        subst h1
        rw [List.take_of_length_le hj]
        exact hm
/-- A machine that is ready. -/
structure Ready (l : List Wd) (W : List Wd) (ns : List Nd) : Prop where
  trie : Trie ns W
  pats : Pats l W
  done : ∀ x, x < W.length → Done l W x (nd ns x)
theorem Bfs.ready {l : List Wd} {ns : List Nd} {W : List Wd} {row : List Nat} {i j : Nat} (h : Bfs l W ns row i j) (hi : row.length ≤ i) : Ready l W ns := by
  refine ⟨h.trie, h.pats, fun x hx => h.done x ?_⟩
  have key : ∀ (d x : Nat), x < W.length → (wd W x).length = d → x ∈ row := by
    intro d
    induction d using Nat.strongRecOn with
    | _ d ih =>
      intro x hx hd
      rcases List.eq_nil_or_concat (wd W x) with h0 | ⟨u, s, hu⟩
      · have : x = 0 := h.trie.inj x 0 hx h.trie.zero.1 (by rw [h0, h.trie.zero.2])
        rw [this]; exact List.mem_of_mem_take h.root
      · rw [List.concat_eq_append] at hu
        obtain ⟨p, hp, hpe⟩ := h.trie.pre x hx u s hu
        have hm : (s, x) ∈ (nd ns p).ways := (h.trie.ways p hp s x).2 ⟨hx, by rw [hpe]; exact hu⟩
        have hlen : (wd W x).length = u.length + 1 := by rw [hu, List.length_append, List.length_singleton]
        have hpr := ih u.length (by omega) p hp (by rw [hpe])
        rw [h.kids p s x hp hm, List.take_of_length_le hi]
        exact Or.inl hpr
  exact key _ x hx rfl
theorem nodup_le : ∀ {n : Nat} {l : List Nat}, l.Nodup → (∀ x ∈ l, x < n) → l.length ≤ n
  | 0, [], _, _ => Nat.le_refl _
  | 0, x :: r, _, h => by have := h x (by simp); omega
  | n + 1, l, hd, h => by
    by_cases hm : n ∈ l
    · have h1 := nodup_le (n := n) (hd.erase n) (fun x hx => by
        have h2 := (List.Nodup.mem_erase_iff hd).1 hx
        have := h x h2.2
        have := h2.1
        omega)
      rw [List.length_erase_of_mem hm] at h1
      omega
    · have := nodup_le (n := n) hd (fun x hx => by
        have h2 := h x hx
        have : x ≠ n := fun e => hm (e ▸ hx)
        omega)
      omega
/-- A step, state by state: what the loop keeps. -/
def StepAt (W : List Wd) (a : Wd) (s : Int) (x : Nat) : Prop := x < W.length ∧ lsuf W (wd W x ++ [s]) = lsuf W (a ++ [s]) ∧ (wd W x).length ≤ a.length
section
variable {ns : List Nd} {W : List Wd} {a : Wd} {s : Int} {x : Nat}
theorem StepAt.found (h : StepAt W a s x) (ht : Trie ns W) {t : Nat} (hw : wayOf (nd ns x).ways s = some t) : t < W.length ∧ wd W t = lsuf W (a ++ [s]) := by
  obtain ⟨h1, h2⟩ := ht.way_some h.1 hw
  exact ⟨h1, by rw [← h.2.1, ← h2, lsuf_of_mem (wd_mem h1)]⟩
theorem StepAt.none (h : StepAt W a s 0) (ht : Trie ns W) (hw : wayOf (nd ns 0).ways s = none) : wd W 0 = lsuf W (a ++ [s]) := by
  have hn := ht.way_none h.1 hw
  have h2 := h.2.1
  rw [ht.zero.2] at hn h2 ⊢
  rw [← h2]
  exact (lsuf_root ht.closed hn).symm
theorem StepAt.fall (h : StepAt W a s x) (ht : Trie ns W) (hw : wayOf (nd ns x).ways s = Option.none) (hx : x ≠ 0) (hf : (nd ns x).fall < W.length) (hfe : wd W (nd ns x).fall = lsuf W (wd W x).tail) :
    StepAt W a s (nd ns x).fall ∧ (wd W (nd ns x).fall).length < (wd W x).length := by
  have hn := ht.way_none h.1 hw
  have hne : wd W x ≠ [] := fun e => hx (ht.inj x 0 h.1 ht.zero.1 (by rw [e, ht.zero.2]))
  have h3 := lsuf_fall ht.closed hne hn
  have h4 : (wd W (nd ns x).fall).length < (wd W x).length := by
    rw [hfe]
    have := lsuf_le (W := W) (wd W x).tail
    rw [List.length_tail] at this
    have := List.length_pos_iff.2 hne
    omega
  exact ⟨⟨hf, by rw [hfe, ← h3]; exact h.2.1, by have := h.2.2; omega⟩, h4⟩
end
end Go.Proofs.Ytohfkpoblebfaaa
