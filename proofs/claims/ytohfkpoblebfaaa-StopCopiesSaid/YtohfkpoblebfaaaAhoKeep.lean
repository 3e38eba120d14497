/- A machine's memory kept: a way inserted, a state added, a state's numbers changed. -/
import Derived.Test.YtohfkpoblebfaaaAhoInsert
import Derived.Test.YtohfkpoblebfaaaAhoMem
namespace Go.Proofs.Ytohfkpoblebfaaa
open Go.RowKit
set_option linter.unusedVariables false

theorem heap_set_at {w : World} {g j : Nat} {t : TypeId} {u : Value} {cs : Array Value} (hg : w.heap[g]? = some (.cells cs t (0, 0))) : (w.setCell ⟨g, j, none⟩ u).heap[g]? = some (.cells (cs.setIfInBounds j u) t (0, 0)) := by
  simp [World.setCell, Array.getElem?_modify, hg]
theorem own_set_other {w : World} {b0 g j : Nat} {e t : TypeId} {s n : Nat} {v u : Value} {xs : List Value} {cs : Array Value} (ho : w.ownsRow b0 e s v n xs) (hg : w.heap[g]? = some (.cells cs t (0, 0))) (he : e ≠ t) : (w.setCell ⟨g, j, none⟩ u).ownsRow b0 e s v n xs := by
  refine ⟨ho.1, ?_⟩
  rcases ho.2 with h | ⟨q, cap, cur, rfl, hb, hh, rest⟩
  · exact .inl h
  · refine .inr ⟨q, cap, cur, rfl, hb, ?_, rest⟩
    have hne : q ≠ g := by
      rintro rfl
      rw [hh] at hg
      injection hg with hg
      injection hg with _ ht
      exact he ht
    exact (Below.heap_setCell w ⟨g, j, none⟩ u q hne).trans hh
/-- The block that an owned row lies in. -/
theorem own_heap {w : World} {b0 g : Nat} {e : TypeId} {s n c : Nat} {xs : List Value} (ho : w.ownsRow b0 e s (.slice (some ⟨g, 0, none⟩) n c) n xs) : ∃ cur, w.heap[g]? = some (.cells cur e (0, 0)) := by
  rcases ho.2 with ⟨h, _⟩ | ⟨q, cap, cur, h, hb, hh, _⟩
  · cases h
  · injection h with a
    injection a with a
    injection a with a
    subst a
    exact ⟨cur, hh⟩
/-- A block of another type is not the row appended to. -/
theorem grown_block {w w' : World} {b0 b : Nat} {e t : TypeId} {s n : Nat} {v : Value} {xs : List Value} {cs : Array Value} (ho : w.ownsRow b0 e s v n xs) (hg : w.grownBy w' v.ownBlock) (hb : w.heap[b]? = some (.cells cs t (0, 0))) (he : e ≠ t) : w'.heap[b]? = some (.cells cs t (0, 0)) := by
  rw [hg.block b (Array.getElem?_eq_some_iff.1 hb).1 (fun h => ?_)]
  · exact hb
  · rcases ho.2 with ⟨rfl, _⟩ | ⟨q, cap, cur, rfl, _, hh, _⟩
    · cases h
    · simp only [Value.ownBlock, Option.some.injEq] at h
      subst h
      rw [hh] at hb
      injection hb with hb
      injection hb with _ ht
      exact he ht

theorem waysV_ins {ws : List (Int × Nat)} {s : Int} {t : Nat} : waysV (insWay ws s t) = (waysV ws).take (posOf ws s * 2) ++ [.int .i64 s, .int .i64 (t : Int)] ++ (waysV ws).drop (posOf ws s * 2) := by
  have hp := posOf_le ws s
  have key : ∀ (ws : List (Int × Nat)) (k : Nat), (waysV ws).take (k * 2) = waysV (ws.take k) ∧ (waysV ws).drop (k * 2) = waysV (ws.drop k) := by
    intro ws
    induction ws with
    | nil => intro k; simp [waysV]
    | cons a r ih =>
      intro k
      cases k with
      | zero => simp [waysV]
      | succ k =>
        obtain ⟨h1, h2⟩ := ih k
        rw [waysV_cons, show (k + 1) * 2 = k * 2 + 1 + 1 from by omega]
        simp only [List.take_succ_cons, List.drop_succ_cons, waysV_cons, h1, h2]
        exact ⟨trivial, trivial⟩
  unfold insWay
  rw [waysV_app, waysV_cons, (key ws _).1, (key ws _).2]
  simp

/-- The state behind whose ways one was inserted. -/
def insNd (ns : List Nd) (i : Nat) (s : Int) : Nd := { nd ns i with ways := insWay (nd ns i).ways s ns.length }
theorem insWay_len (ws : List (Int × Nat)) (s : Int) (t : Nat) : (insWay ws s t).length = ws.length + 1 := by
  have := posOf_le ws s
  unfold insWay
  simp only [List.length_append, List.length_cons, List.length_take, List.length_drop]
  omega
def Vs.at_ (f : Vs) (i : Nat) (v : Option Addr × Nat) : Vs := fun k => if k = i then v else f k
theorem Vs.at_self (f : Vs) (i : Nat) (v : Option Addr × Nat) : f.at_ i v i = v := by unfold Vs.at_; rw [if_pos rfl]
theorem Vs.at_other (f : Vs) {i k : Nat} (v : Option Addr × Nat) (h : k ≠ i) : f.at_ i v k = f k := by unfold Vs.at_; rw [if_neg h]

theorem ins_mach {w w3 w5 : World} {B g a c c' i : Nat} {ns : List Nd} {f : Vs} {A' : Option Addr} {s : Int} (h : Mach w B g ns f (some ⟨a, 0, none⟩) c) (hi : i < ns.length) (hb3 : Below w.heap.size w w3)
    (ho : w5.ownsRow B 68 2 (.slice A' ((nd ns i).ways.length + 1) c') ((nd ns i).ways.length + 1) ((waysV (nd ns i).ways).take (posOf (nd ns i).ways s * 2) ++ [.int .i64 s, .int .i64 (ns.length : Int)] ++ (waysV (nd ns i).ways).drop (posOf (nd ns i).ways s * 2)))
    (hg : w3.grownBy w5 (Value.ownBlock (.slice (f i).1 (nd ns i).ways.length (f i).2))) (hl : A' = (f i).1 ∨ A' = some ⟨w3.heap.size, 0, none⟩) :
    Mach (w5.setCell ⟨a, i * 5, none⟩ (.slice A' ((nd ns i).ways.length + 1) c')) B g (ns.set i (insNd ns i s)) (f.at_ i (A', c')) (some ⟨a, 0, none⟩) c := by
  have h3 := h.below hb3
  obtain ⟨cur, hcur⟩ := own_heap (h3.nodes.kept hg (own_apart h3.nodes (h3.ways i hi) (by decide)))
  have hn5 := h3.nodes.kept hg (own_apart h3.nodes (h3.ways i hi) (by decide))
  have hlen : (ns.set i (insNd ns i s)).length = ns.length := List.length_set
  have hws : (insNd ns i s).ways.length = (nd ns i).ways.length + 1 := insWay_len _ _ _
  refine ⟨?_, ?_, ?_, ?_⟩
  · rw [hlen]
    have hgb := grown_block (h3.ways i hi) hg h3.blk (by decide)
    refine (Below.heap_setCell w5 ⟨a, i * 5, none⟩ _ g ?_).trans hgb
    rintro rfl
    rw [hcur] at hgb
    injection hgb with hgb
    injection hgb with _ ht
    exact absurd ht (by decide)
  · rw [hlen]
    have := (hn5.stored (i * 5) (.slice A' ((nd ns i).ways.length + 1) c')).1
    rw [show i * 5 = i * 5 + 0 from rfl, nodesV_set (x := insNd ns i s) (f' := f.at_ i (A', c')) hi (by omega) (by rw [Vs.at_self]; simp only [ndV, hws]; rfl) (fun k hk => Vs.at_other f _ hk)] at this
    exact this
  · intro k hk
    rw [hlen] at hk
    refine own_set_other ?_ hcur (by decide)
    rw [nd_set hi]
    by_cases hki : i = k
    · subst hki
      rw [if_pos rfl, Vs.at_self, hws]
      have : waysV (insNd ns i s).ways = _ := waysV_ins (ws := (nd ns i).ways) (s := s) (t := ns.length)
      rw [this]
      exact ho
    · rw [if_neg hki, Vs.at_other f _ (fun e => hki e.symm)]
      refine (h3.ways k hk).kept hg ?_
      rcases h.apart k i hk hi (fun e => hki e.symm) with h0 | h0
      · left; rw [h0]; rfl
      · right
        intro e
        rcases hA : (f k).1 with _ | p
        · rw [hA] at e
          rcases hB : (f i).1 with _ | q
          · exact h0 (by rw [hA, hB])
          · rw [hB] at e; cases e
        · rw [hA] at e
          rcases hB : (f i).1 with _ | q
          · rw [hB] at e; cases e
          · rw [hB] at e
            have hp := h.ways k hk
            have hq := h.ways i hi
            rw [hA] at hp
            rw [hB] at hq
            rcases hp.2 with ⟨hp, _⟩ | ⟨gp, _, _, hp, _⟩
            · cases hp
            · rcases hq.2 with ⟨hq, _⟩ | ⟨gq, _, _, hq, _⟩
              · cases hq
              · injection hp with hp; injection hp with hp
                injection hq with hq; injection hq with hq
                subst hp hq
                simp only [Value.ownBlock, Option.some.injEq] at e
                exact h0 (by rw [hA, hB, e])
  · intro k j hk hj hkj
    rw [hlen] at hk hj
    have hfar : ∀ q, q < ns.length → (f q).1 ≠ some ⟨w3.heap.size, 0, none⟩ := by
      intro q hq e
      have := (h.ways q hq).lt w3.heap.size (by rw [e]; rfl)
      have := hb3.size
      omega
    by_cases hki : k = i
    · subst hki
      rw [Vs.at_self, Vs.at_other f _ (fun e => hkj e.symm)]
      rcases hl with rfl | rfl
      · exact h.apart k j hk hj hkj
      · right; exact fun e => hfar j hj e.symm
    · rw [Vs.at_other f _ hki]
      by_cases hji : j = i
      · subst hji
        rw [Vs.at_self]
        rcases hl with rfl | rfl
        · exact h.apart k j hk hj hkj
        · right; exact hfar k hk
      · rw [Vs.at_other f _ hji]; exact h.apart k j hk hj hkj

theorem one_node (n : Nd) (v : Option Addr × Nat) : ∀ u ∈ ndV n v, u.oneCell' = true := by
  intro u hu
  simp only [ndV, List.mem_cons, List.not_mem_nil, or_false] at hu
  rcases hu with rfl | rfl | rfl | rfl | rfl <;> rfl
/-- A state added. -/
theorem app_mach {w w1 w2 : World} {B g c c' : Nat} {ns : List Nd} {f : Vs} {A A' : Option Addr} {x : Nd} (h : Mach w B g ns f A c) (hb : Below w.heap.size w w1) (hx : x.ways = [])
    (ho : w2.ownsRow B 60 5 (.slice A' (ns.length + 1) c') (ns.length + 1) (nodesV ns f ++ ndV x (none, 0))) (hg : w1.grownBy w2 (Value.ownBlock (.slice A ns.length c))) :
    Mach (w2.setCell ⟨g, 0, none⟩ (.slice A' (ns.length + 1) c')) B g (ns ++ [x]) (f.at_ ns.length (none, 0)) A' c' := by
  have h1 := h.below hb
  have hblk := grown_block h1.nodes hg h1.blk (by decide)
  have hlen : (ns ++ [x]).length = ns.length + 1 := by rw [List.length_append]; rfl
  refine ⟨?_, ?_, ?_, ?_⟩
  · rw [hlen]; exact (heap_set_at hblk).trans rfl
  · rw [hlen, nodesV_app, Vs.at_self, nodesV_congr (f' := f) (fun k hk => Vs.at_other f _ (by omega))]
    exact own_set_other ho hblk (by decide)
  · intro k hk
    rw [hlen] at hk
    rw [nd_app]
    by_cases h2 : k < ns.length
    · rw [if_pos h2, Vs.at_other f _ (by omega)]
      exact own_set_other ((h1.ways k h2).kept hg (own_apart (h1.ways k h2) h1.nodes (by decide))) hblk (by decide)
    · obtain rfl : k = ns.length := by omega
      rw [if_neg h2, if_pos rfl, Vs.at_self, hx]
      exact World.ownsRow_nil _ _ _ _
  · intro k j hk hj hkj
    rw [hlen] at hk hj
    by_cases h2 : k < ns.length
    · rw [Vs.at_other f _ (by omega)]
      by_cases h3 : j < ns.length
      · rw [Vs.at_other f _ (by omega)]; exact h.apart k j h2 h3 hkj
      · obtain rfl : j = ns.length := by omega
        rw [Vs.at_self]
        rcases hA : (f k).1 with _ | p
        · left; rfl
        · right; intro e; cases e
    · obtain rfl : k = ns.length := by omega
      rw [Vs.at_self]; left; rfl
/-- A number of a state changed. -/
theorem set_mach {w : World} {B g a c i j : Nat} {ns : List Nd} {f : Vs} {x : Nd} {u : Value} (h : Mach w B g ns f (some ⟨a, 0, none⟩) c) (hi : i < ns.length) (hj : j < 5) (hx : ndV x (f i) = (ndV (nd ns i) (f i)).set j u) (hw : x.ways = (nd ns i).ways) :
    Mach (w.setCell ⟨a, i * 5 + j, none⟩ u) B g (ns.set i x) f (some ⟨a, 0, none⟩) c := by
  obtain ⟨cur, hcur⟩ := own_heap h.nodes
  have hlen : (ns.set i x).length = ns.length := List.length_set
  refine ⟨?_, ?_, ?_, ?_⟩
  · rw [hlen]
    refine (Below.heap_setCell w ⟨a, i * 5 + j, none⟩ _ g ?_).trans h.blk
    rintro rfl
    have hb := h.blk
    rw [hcur] at hb
    injection hb with hb
    injection hb with _ ht
    exact absurd ht (by decide)
  · rw [hlen, ← nodesV_set hi hj hx (fun k hk => rfl)]
    exact (h.nodes.stored (i * 5 + j) u).1
  · intro k hk
    rw [hlen] at hk
    have he : (nd (ns.set i x) k).ways = (nd ns k).ways := by
      rw [nd_set hi]
      by_cases hik : i = k
      · subst hik; rw [if_pos rfl]; exact hw
      · rw [if_neg hik]
    rw [he]
    exact own_set_other (h.ways k hk) hcur (by decide)
  · intro k j' hk hj' hkj
    rw [hlen] at hk hj'
    exact h.apart k j' hk hj' hkj
end Go.Proofs.Ytohfkpoblebfaaa
