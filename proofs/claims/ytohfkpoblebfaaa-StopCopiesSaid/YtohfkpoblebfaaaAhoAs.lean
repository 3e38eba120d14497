/- The machine of patterns, its contracts in words of texts. -/
import Derived.Test.YtohfkpoblebfaaaAhoNew
import Derived.Test.YtohfkpoblebfaaaAhoRefLaw
namespace Go.Proofs.Ytohfkpoblebfaaa
open Go.RowKit
set_option linter.unusedVariables false

structure MkL (w : World) (l : List Wd) (B g : Nat) (ns : List Nd) (W : List Wd) (f : Vs) (A : Option Addr) (c : Nat) : Prop where
  mach : Mach w B g ns f A c
  ready : Ready l W ns
  holds : Holds l W
  small : W.length ≤ 3000
  may : mayP l
section
variable {w w' : World} {l W : List Wd} {B g c : Nat} {ns : List Nd} {f : Vs} {A : Option Addr}
theorem MkL.below (h : MkL w l B g ns W f A c) (hb : Below w.heap.size w w') : MkL w' l B g ns W f A c := ⟨h.mach.below hb, h.ready, h.holds, h.small, h.may⟩
theorem MkL.keep (h : MkL w l B g ns W f A c) (hm : Mach w' B g ns f A c) : MkL w' l B g ns W f A c := ⟨hm, h.ready, h.holds, h.small, h.may⟩
theorem MkL.lens (h : MkL w l B g ns W f A c) : ∀ p ∈ l, p.length ≤ 64 := fun p hp => by
  obtain ⟨i, hi, rfl⟩ := mem_wd hp
  have := okAll_iff.1 h.may.2 i hi
  unfold okP at this
  exact (of_decide_eq_true this).2
theorem MkL.ns0 (h : MkL w l B g ns W f A c) : 0 < ns.length := by have := h.ready.trie.len; have := h.ready.trie.zero.1; omega
theorem MkL.nsl (h : MkL w l B g ns W f A c) : ns.length = W.length := h.ready.trie.len
theorem MkL.states (h : MkL w l B g ns W f A c) : ns.length = statesL l := by rw [h.nsl]; exact (states_eq h.ready.trie h.holds).symm
/-- A number stands for a text. -/
def Stands (ns : List Nd) (W : List Wd) (n : Int) (u : Wd) : Prop := wd W (stOf ns n) = lsuf W u
theorem MkL.nil_in (h : MkL w l B g ns W f A c) : ([] : Wd) ∈ W := (h.holds []).2 (.inl rfl)
theorem MkL.st (h : MkL w l B g ns W f A c) (n : Int) : stOf ns n < W.length := by rw [← h.nsl]; exact stOf_lt h.ns0
theorem MkL.depth (h : MkL w l B g ns W f A c) {n : Int} {u : Wd} (hs : Stands ns W n u) : (nd ns (stOf ns n)).depth = heldL l u := by
  rw [h.ready.trie.depth _ (h.st n), hs, heldL_lsuf h.holds h.lens]
theorem MkL.ends (h : MkL w l B g ns W f A c) {n : Int} {u : Wd} (hs : Stands ns W n u) : (nd ns (stOf ns n)).place = (endsOf l u).1 ∧ (nd ns (stOf ns n)).long = (endsOf l u).2 := by
  have hd := (h.ready.done _ (h.st n)).2.2
  rw [hs, ← endsOf_lsuf h.ready.pats] at hd
  exact hd
theorem MkL.stands_nat (h : MkL w l B g ns W f A c) {t : Nat} {u : Wd} (ht : t < W.length) (hw : wd W t = lsuf W u) : Stands ns W (t : Int) u := by
  unfold Stands; rw [stOf_nat (by rw [h.nsl]; exact ht)]; exact hw
theorem MkL.stands_zero (h : MkL w l B g ns W f A c) {n : Int} (hn : stOf ns n = 0) : Stands ns W n [] := by
  unfold Stands; rw [hn, h.ready.trie.zero.2]; rfl
theorem MkL.zero (h : MkL w l B g ns W f A c) : Stands ns W 0 [] := h.stands_zero (by have := h.ns0; unfold stOf; rw [if_neg (by omega)]; rfl)
theorem MkL.uniq (h : MkL w l B g ns W f A c) {t t' : Nat} (ht : t < W.length) (ht' : t' < W.length) : t = t' ↔ wd W t = wd W t' := ⟨fun e => by rw [e], fun e => h.ready.trie.inj _ _ ht ht' e⟩
end
def NewL (l : List Wd) (w : World) (e : Ending) (w' : World) : Prop := ∃ (B g : Nat) (ns : List Nd) (W : List Wd) (f : Vs) (A : Option Addr) (c : Nat), e = .returned (.tuple #[.pointer (some ⟨g, 0, none⟩), .int .i64 0]) ∧ MkL w' l B g ns W f A c ∧ Below w.heap.size w w'
theorem new_as {n c : Nat} {A : Option Addr} {l : List Wd} {v : Vs} (w : World) (h : PatsAt w w.heap.size A n c l v) (hm : mayP l) :
    Calls Try.prog 15 #[.slice A n c] w (NewL l w) := by
  refine (new_yes w h hm).mono ?_
  rintro e w' ⟨B, g, ns, W, f, A, c, rfl, h1, h2, h3, h4, h5, h6, h7⟩
  exact ⟨B, g, ns, W, f, A, c, rfl, ⟨h1, h2, h3, h4, hm⟩, h7⟩
theorem step_as {B g c : Nat} {ns : List Nd} {l W : List Wd} {f : Vs} {A : Option Addr} {u : Wd} (n s : Int) (w : World) (h : MkL w l B g ns W f A c) (hs : Stands ns W n u) :
    Calls Try.prog 19 #[.pointer (some ⟨g, 0, none⟩), .int .i64 n, .int .i64 s] w (WalkTo W (u ++ [s]) w) := by
  refine (step_any n s w h.mach h.ready.trie (by have := h.small; omega) (h.ready.falls _) (Nat.le_refl _)).mono ?_
  rintro e w' ⟨t, rfl, ht, hw, hb⟩
  exact ⟨t, rfl, ht, by rw [hw, hs, ← lsuf_snoc h.ready.trie.closed], hb⟩
theorem walk_as {B g c : Nat} {ns : List Nd} {l W : List Wd} {f : Vs} {A A1 : Option Addr} {n1 c1 : Nat} {u : Wd} (w : World) (h : MkL w l B g ns W f A c) (hu : IntsAt w w.heap.size A1 n1 c1 u) :
    Calls Try.prog 22 #[.pointer (some ⟨g, 0, none⟩), .slice A1 n1 c1] w (WalkTo W u w) := walk_any w h.mach h.ready (by have := h.small; omega) hu
theorem depth_as {B g c : Nat} {ns : List Nd} {l W : List Wd} {f : Vs} {A : Option Addr} {u : Wd} (n : Int) (w : World) (h : MkL w l B g ns W f A c) (hs : Stands ns W n u) :
    Calls Try.prog 23 #[.pointer (some ⟨g, 0, none⟩), .int .i64 n] w fun e w' => e = .returned (.int .i64 (heldL l u : Int)) ∧ Below w.heap.size w w' := by
  refine (depth_any n w h.mach h.ns0 (by have := h.nsl; have := h.small; omega)).mono ?_
  rintro e w' ⟨rfl, hb⟩
  exact ⟨by rw [h.depth hs], hb⟩
theorem ends_as {B g c : Nat} {ns : List Nd} {l W : List Wd} {f : Vs} {A : Option Addr} {u : Wd} (n : Int) (w : World) (h : MkL w l B g ns W f A c) (hs : Stands ns W n u) :
    Calls Try.prog 20 #[.pointer (some ⟨g, 0, none⟩), .int .i64 n] w fun e w' => e = .returned (.tuple #[.int .i64 (endsOf l u).1, .int .i64 ((endsOf l u).2 : Int)]) ∧ Below w.heap.size w w' := by
  refine (ends_any n w h.mach h.ns0 (by have := h.nsl; have := h.small; omega)).mono ?_
  rintro e w' ⟨rfl, hb⟩
  exact ⟨by rw [(h.ends hs).1, (h.ends hs).2], hb⟩
theorem states_as {B g c : Nat} {ns : List Nd} {l W : List Wd} {f : Vs} {A : Option Addr} (w : World) (h : MkL w l B g ns W f A c) :
    Calls Try.prog 17 #[.pointer (some ⟨g, 0, none⟩)] w fun e w' => e = .returned (.int .i64 (statesL l : Int)) ∧ w = w' := by
  rw [← h.states]
  exact states_any w h.mach
end Go.Proofs.Ytohfkpoblebfaaa
