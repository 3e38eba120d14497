/- The walk of put. -/
import Derived.Test.YtohfkpoblebfaaaAhoAdd
import Derived.BigRegion
namespace Go.Proofs.Ytohfkpoblebfaaa
open Go.RowKit
set_option linter.unusedVariables false

/-- What putting a pattern in leaves. -/
def PutTo (w : World) (B g : Nat) (l W : List Wd) (p : Wd) (e : Ending) (w' : World) : Prop := ∃ (ns' : List Nd) (W' : List Wd) (f' : Vs) (A' : Option Addr) (c' : Nat), e = .returned (.tuple #[]) ∧ Mach w' B g ns' f' A' c' ∧ Trie ns' W' ∧ Owns (l ++ [p]) ns' W' ∧ Pats (l ++ [p]) W' ∧
  (∀ u, u ∈ W' ↔ (u ∈ W ∨ u <+: p)) ∧ W'.length ≤ W.length + p.length ∧ Below B w w'
/-- The states while a pattern's first k symbols are in. -/
structure Putting (w0 wr : World) (B g : Nat) (l W : List Wd) (p : Wd) (k x : Nat) (ns : List Nd) (W' : List Wd) (f : Vs) (A : Option Addr) (c : Nat) : Prop where
  mach : Mach wr B g ns f A c
  trie : Trie ns W'
  owns : Owns l ns W'
  pats : Pats l W'
  words : ∀ u, u ∈ W' ↔ (u ∈ W ∨ ∃ j, j ≤ k ∧ u = p.take j)
  len : W'.length ≤ W.length + k
  lt : x < W'.length
  at_ : wd W' x = p.take k
  below : Below B w0 wr
theorem take_prefix {p : Wd} {k : Nat} (hk : p.length ≤ k) (u : Wd) : (∃ j, j ≤ k ∧ u = p.take j) ↔ u <+: p := by
  constructor
  · rintro ⟨j, _, rfl⟩; exact List.take_prefix _ _
  · intro h
    refine ⟨u.length, ?_, List.prefix_iff_eq_take.1 h⟩
    have := h.length_le; omega
theorem Putting.yes {w0 wr w' : World} {B g k x t c : Nat} {l W W' : List Wd} {p : Wd} {ns : List Nd} {f : Vs} {A : Option Addr} {s : Int} (h : Putting w0 wr B g l W p k x ns W' f A c) (hB : B ≤ wr.heap.size) (hp : p.take (k + 1) = p.take k ++ [s]) (hw : wayOf (nd ns x).ways s = some t) (hb : Below wr.heap.size wr w') :
    Putting w0 w' B g l W p (k + 1) t ns W' f A c := by
  obtain ⟨h1, h2⟩ := h.trie.way_some h.lt hw
  refine ⟨h.mach.below hb, h.trie, h.owns, h.pats, fun u => ?_, by have := h.len; omega, h1, by rw [h2, h.at_, hp], h.below.trans (hb.mono hB)⟩
  rw [h.words u]
  constructor
  · rintro (h3 | ⟨j, hj, e⟩)
    · exact .inl h3
    · exact .inr ⟨j, by omega, e⟩
  · rintro (h3 | ⟨j, hj, e⟩)
    · exact .inl h3
    · by_cases hjk : j ≤ k
      · exact .inr ⟨j, hjk, e⟩
      · obtain rfl : j = k + 1 := by omega
        rw [e, hp, ← h.at_, ← h2]
        exact (h.words _).1 (wd_mem h1)
theorem Putting.no {w0 wr w' : World} {B g k x c c' : Nat} {l W W' : List Wd} {p : Wd} {ns : List Nd} {f f' : Vs} {A A' : Option Addr} {s : Int} (h : Putting w0 wr B g l W p k x ns W' f A c) (hp : p.take (k + 1) = p.take k ++ [s]) (hw : wayOf (nd ns x).ways s = none) (hm : Mach w' B g (grow ns x s) f' A' c') (hb : Below B wr w') :
    Putting w0 w' B g l W p (k + 1) ns.length (grow ns x s) (W' ++ [wd W' x ++ [s]]) f' A' c' := by
  have hl := h.trie.len
  refine ⟨hm, h.trie.grow h.lt hw, h.owns.grow h.trie h.pats h.lt hw, h.pats.mono (fun u hu => List.mem_append.2 (.inl hu)), fun u => ?_, by rw [List.length_append]; have := h.len; simp; omega, by rw [List.length_append]; simp; omega, by rw [wd_new hl, h.at_, hp], h.below.trans hb⟩
  rw [List.mem_append, List.mem_singleton, h.words u, h.at_, ← hp]
  constructor
  · rintro ((h3 | ⟨j, hj, e⟩) | e)
    · exact .inl h3
    · exact .inr ⟨j, by omega, e⟩
    · exact .inr ⟨k + 1, Nat.le_refl _, e⟩
  · rintro (h3 | ⟨j, hj, e⟩)
    · exact .inl (.inl h3)
    · by_cases hjk : j ≤ k
      · exact .inl (.inr ⟨j, hjk, e⟩)
      · obtain rfl : j = k + 1 := by omega
        exact .inr e

set_option maxRecDepth 100000 in
set_option maxHeartbeats 2000000 in
theorem put_any {B g c n1 c1 : Nat} {ns : List Nd} {l W : List Wd} {f : Vs} {A A1 : Option Addr} {p : Wd} (w : World) (hBg : B ≤ g) (h : Mach w B g ns f A c) (ht : Trie ns W) (ho : Owns l ns W) (hpa : Pats l W) (hm : W.length ≤ 80000) (hp : IntsAt w B A1 n1 c1 p) (hp1 : p ≠ []) (hpl : p.length ≤ 1000) :
    Calls Try.prog 39 #[.pointer (some ⟨g, 0, none⟩), .int .i64 (l.length : Int), .slice A1 n1 c1] w (PutTo w B g l W p) := by
  have hn := hp.len
  have hcap := hp.2.2.1
  have hcn := hp.2.1
  unfold maxLen at hcap
  have hn1 : n1 ≤ 1000 := by omega
  have P0 := Lib.hid (show Putting w w B g l W p 0 0 ns W f A c from ⟨h, ht, ho, hpa, fun u => ⟨fun h => .inl h, by
      rintro (h | ⟨j, hj, e⟩)
      · exact h
      · obtain rfl : j = 0 := by omega
        rw [e, List.take_zero, ← ht.zero.2]; exact wd_mem ht.zero.1⟩, by omega, ht.zero.1, ht.zero.2, Below.refl _ _⟩)
  have HN := Lib.hid hn
  have HP := Lib.hid hp
  have HP1 := Lib.hid hp1
  clear h ht ho hpa hn hp hp1
  go_enter Try.func39, Try.ntmps39
  go_wp2_with fail
  go_loopw [6, 11] (fun a i wr => ∃ (k x : Nat) (ns' : List Nd) (W' : List Wd) (f' : Vs) (A' : Option Addr) (c' : Nat), a = .int .i64 x ∧ i = .int .i64 k ∧ k ≤ n1 ∧ Putting w wr B g l W p k x ns' W' f' A' c') (fun _ i _ => n1 - (intOf i).toNat)
  case atStart => exact ⟨0, 0, ns, W, f, A, c, rfl, rfl, Nat.zero_le _, P0.out⟩
  case round =>
    obtain ⟨k, x, ns', W', f', A', c', rfl, rfl, hk, hpt⟩ := hrel
    have PT := Lib.hid hpt
    have hBw : B ≤ wr.heap.size := by have := hpt.mach.lt; omega
    have hWl : W'.length ≤ 81000 := by have := hpt.len; omega
    have hlen := hpt.trie.len
    have hxl := hpt.lt
    have hgl := hpt.mach.lt
    have HL := Lib.hid hlen
    clear hpt hlen
    by_cases hlt : k < n1
    · have hku : k < p.length := by have := HN.out; omega
      obtain ⟨b, off, rfl, hbl, hc⟩ := HP.out.cells (by omega)
      obtain ⟨s, hs⟩ : ∃ s, p[k]'hku = s := ⟨_, rfl⟩
      have e0 : wr.cell? ⟨b, off + k, none⟩ = some (.int .i64 s) := by rw [PT.out.below.cell (p := ⟨b, off + k, none⟩) hbl, hc k hku, hs]
      have HT := Lib.hid (show p.take (k + 1) = p.take k ++ [s] from by rw [List.take_add_one, List.getElem?_eq_getElem hku, hs]; rfl)
      have hdp : (nd ns' x).depth ≤ 100000 := by rw [PT.out.trie.depth x hxl, PT.out.at_, List.length_take]; omega
      clear hc hs
      cases hw : wayOf (nd ns' x).ways s with
      | some t =>
        have HW := Lib.hid hw
        clear hw
        go_wp2_with fail
        refine (add_yes s wr PT.out.mach PT.out.trie (by omega) hxl HW.out).mono ?_
        rintro e w2 ⟨rfl, hb2⟩
        have P2 := Lib.hid (PT.out.yes hBw HT.out HW.out hb2)
        clear hb2 e0
        go_wp2_with fail
        go_roundw
        case rel => exact ⟨k + 1, t, ns', W', f', A', c', rfl, by go_num, by omega, P2.out⟩
        case measure => simp [intOf]; omega
      | none =>
        have HW := Lib.hid hw
        clear hw
        go_wp2_with fail
        refine (add_no s wr hBg PT.out.mach PT.out.trie (by omega) hxl hdp HW.out).mono ?_
        rintro e w2 ⟨f2, A2, c2, rfl, hm2, hb2⟩
        have P2 := Lib.hid (PT.out.no HT.out HW.out hm2 hb2)
        clear hm2 hb2 e0
        go_wp2_with fail
        go_roundw
        case rel => exact ⟨k + 1, ns'.length, _, _, f2, A2, c2, rfl, by go_num, by omega, P2.out⟩
        case measure => simp [intOf]; omega
    · obtain rfl : k = n1 := by omega
      have hxn : x < ns'.length := by have := HL.out; omega
      have m0 := PT.out.mach.cell
      have hcap' := PT.out.mach.cap
      unfold maxLen at hcap'
      obtain ⟨hcp1, hcp2⟩ := hcap'
      obtain ⟨a, hA, hal, hBa, n0, n1', n2, n3, n4⟩ := PT.out.mach.node hxn
      subst hA
      have hwp : wd W' x = p := by rw [PT.out.at_, List.take_of_length_le (by have := HN.out; omega)]
      have HWP := Lib.hid hwp
      have HWD := Lib.hid (show ∀ u, u ∈ W' ↔ (u ∈ W ∨ u <+: p) from fun u => by rw [PT.out.words u, take_prefix (by have := HN.out; omega)])
      have HPA := Lib.hid (show Pats (l ++ [p]) W' from fun q hq => by
        rcases List.mem_append.1 hq with h1 | h1
        · exact PT.out.pats q h1
        · rw [List.mem_singleton.1 h1]; exact ⟨HP1.out, by rw [← HWP.out]; exact wd_mem hxl⟩)
      have hns : ns'.length ≤ 81000 := by have := HL.out; omega
      clear hwp n0 n1' n2
      by_cases hpl0 : (nd ns' x).place = -1
      · have hb0 := beq_yes hpl0
        have f3 := PT.out.mach.nodes.frozenAt (x * 5 + 3)
        have f4 := PT.out.mach.nodes.frozenAt (x * 5 + 4)
        have hag : a ≠ g := by
          intro e
          subst e
          obtain ⟨cur, hcur⟩ := own_heap PT.out.mach.nodes
          have := PT.out.mach.blk
          rw [hcur] at this
          injection this with this
          injection this with _ ht
          exact absurd ht (by decide)
        have hga : g ≠ a := fun e => hag e.symm
        have HPL := Lib.hid hpl0
        have hx0 : (0 : Int) ≤ (x : Int) := by omega
        have hx1 : (x : Int) < (ns'.length : Int) := by omega
        have MK := Lib.hid (show Mach (((wr.setCell ⟨a, x * 5 + 3, none⟩ (.int .i64 (l.length : Int))).setCell ⟨a, x * 5 + 4, none⟩ (.int .i64 (k : Int))).drew) B g (ns'.set x { nd ns' x with place := (l.length : Int), long := p.length }) f' (some ⟨a, 0, none⟩) c' from by
          have h1 := set_mach (x := { nd ns' x with place := (l.length : Int) }) (u := .int .i64 (l.length : Int)) PT.out.mach hxn (show 3 < 5 by omega) rfl rfl
          have h2 := set_mach (i := x) (x := { nd ns' x with place := (l.length : Int), long := p.length }) (u := .int .i64 (k : Int)) h1 (by rw [List.length_set]; exact hxn) (show 4 < 5 by omega) (by rw [nd_set hxn, if_pos rfl]; simp only [ndV]; rw [HN.out]; rfl) (by rw [nd_set hxn, if_pos rfl])
          rw [List.set_set] at h2
          exact h2.below (Below.refl _ _).drew)
        have HO := Lib.hid (PT.out.owns.mark PT.out.trie hxl HWP.out hpl0)
        have HTR := Lib.hid (show Trie (ns'.set x { nd ns' x with place := (l.length : Int), long := p.length }) W' from PT.out.trie.set hxl rfl rfl)
        clear hpl0
        go_wp2_with fail
        go_region
        refine bodyPost_ret (results_none rfl _ _ _) rfl ?_
        exact ⟨_, W', f', _, c', rfl, MK.out, HTR.out, HO.out, HPA.out, HWD.out, by have := PT.out.len; have := HN.out; omega, ((PT.out.below.setCell (p := ⟨a, x * 5 + 3, none⟩) hBa _).setCell (p := ⟨a, x * 5 + 4, none⟩) hBa _).drew⟩
      · have hb0 := beq_no hpl0
        have HO := Lib.hid (PT.out.owns.again PT.out.trie hxl HWP.out hpl0)
        clear hpl0
        go_wp2_with fail
        refine bodyPost_ret (results_none rfl _ _ _) rfl ?_
        exact ⟨ns', W', f', _, c', rfl, PT.out.mach, PT.out.trie, HO.out, HPA.out, HWD.out, by have := PT.out.len; have := HN.out; omega, PT.out.below⟩
end Go.Proofs.Ytohfkpoblebfaaa
