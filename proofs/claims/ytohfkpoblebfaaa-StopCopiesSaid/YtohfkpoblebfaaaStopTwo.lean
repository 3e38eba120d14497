/- Two watches beside each other; rows told one by one. -/
import Derived.Test.YtohfkpoblebfaaaStopThere
import Derived.Test.YtohfkpoblebfaaaStopRows
namespace Go.Proofs.Ytohfkpoblebfaaa
open Go.RowKit
set_option linter.unusedVariables false

theorem WAt.aside {w0 w w' : World} {l W : List Wd} {B g c q q2 : Nat} {ns : List Nd} {f : Vs} {A : Option Addr} {s : Wd} (h : WAt w0 w l q s B g ns W f A c) (ha : Aside q2 w w') (hq : q ≠ q2) (h2 : w0.heap.size ≤ q2) : WAt w0 w' l q s B g ns W f A c :=
  ⟨h.mac, h.bel.trans (ha.below h2 h.bel.size), h.far, by obtain ⟨st, h1, h3⟩ := h.blk; exact ⟨st, (ha.block q h1.lt hq).trans h1, h3⟩⟩
theorem pats_one (w : World) {A : Option Addr} {n c : Nat} {t : Wd} (h : IntsAt w w.heap.size A n c t) : PatsAt (w.alloc (.cells #[.slice A n c] 31)) (w.heap.size + 1) (some ⟨w.heap.size, 0, none⟩) 1 1 [t] (fun _ => (A, c)) := by
  have hn := h.len
  have m2 : (1 : Nat) ≤ maxLen := by unfold maxLen; omega
  have r3 := new_vals_at (w := w) [.slice A n c] 31 (cs := #[.slice A n c]) rfl (g := w.heap.size) rfl rfl m2
  have q1 := RowAt.mono (RowAt.alloc h (Nat.le_refl _) (.cells #[.slice A n c] 31)) (show w.heap.size ≤ w.heap.size + 1 by omega)
  refine ⟨rfl, ⟨Nat.le_refl _, m2⟩, fun _ => ⟨_, 0, rfl, by omega, fun i hi => ?_⟩, fun i hi => ?_⟩
  · obtain ⟨b, off, e, _, hc⟩ := r3.2.2.2 (by omega)
    injection e with e
    injection e with e1 e2
    subst e1 e2
    obtain rfl : i = 0 := by omega
    exact hc 0 _ (by show some (Value.slice A n c) = some (.slice A t.length c); rw [← hn])
  · obtain rfl : i = 0 := by omega
    show IntsAt _ _ A t.length c t
    rw [← hn]
    exact q1
theorem pats_three (w : World) {A1 A2 A3 : Option Addr} {n1 n2 n3 c1 c2 c3 : Nat} {a b c : Wd} (h1 : IntsAt w w.heap.size A1 n1 c1 a) (h2 : IntsAt w w.heap.size A2 n2 c2 b) (h3 : IntsAt w w.heap.size A3 n3 c3 c) :
    PatsAt (w.alloc (.cells #[.slice A1 n1 c1, .slice A2 n2 c2, .slice A3 n3 c3] 31)) (w.heap.size + 1) (some ⟨w.heap.size, 0, none⟩) 3 3 [a, b, c] (fun i => if i = 0 then (A1, c1) else if i = 1 then (A2, c2) else (A3, c3)) := by
  have hn1 := h1.len
  have hn2 := h2.len
  have hn3 := h3.len
  have m2 : (3 : Nat) ≤ maxLen := by unfold maxLen; omega
  have r3 := new_vals_at (w := w) [.slice A1 n1 c1, .slice A2 n2 c2, .slice A3 n3 c3] 31 (cs := #[.slice A1 n1 c1, .slice A2 n2 c2, .slice A3 n3 c3]) rfl (g := w.heap.size) rfl rfl m2
  have q1 := RowAt.mono (RowAt.alloc h1 (Nat.le_refl _) (.cells #[.slice A1 n1 c1, .slice A2 n2 c2, .slice A3 n3 c3] 31)) (show w.heap.size ≤ w.heap.size + 1 by omega)
  have q2 := RowAt.mono (RowAt.alloc h2 (Nat.le_refl _) (.cells #[.slice A1 n1 c1, .slice A2 n2 c2, .slice A3 n3 c3] 31)) (show w.heap.size ≤ w.heap.size + 1 by omega)
  have q3 := RowAt.mono (RowAt.alloc h3 (Nat.le_refl _) (.cells #[.slice A1 n1 c1, .slice A2 n2 c2, .slice A3 n3 c3] 31)) (show w.heap.size ≤ w.heap.size + 1 by omega)
  refine ⟨rfl, ⟨Nat.le_refl _, m2⟩, fun _ => ⟨_, 0, rfl, by omega, fun i hi => ?_⟩, fun i hi => ?_⟩
  · obtain ⟨b, off, e, _, hc⟩ := r3.2.2.2 (by omega)
    injection e with e
    injection e with e1 e2
    subst e1 e2
    rcases (by omega : i = 0 ∨ i = 1 ∨ i = 2) with rfl | rfl | rfl
    · exact hc 0 _ (by show some (Value.slice A1 n1 c1) = some (.slice A1 a.length c1); rw [← hn1])
    · exact hc 1 _ (by show some (Value.slice A2 n2 c2) = some (.slice A2 _ c2); rw [hn2]; rfl)
    · exact hc 2 _ (by show some (Value.slice A3 n3 c3) = some (.slice A3 c.length c3); rw [← hn3])
  · rcases (by omega : i = 0 ∨ i = 1 ∨ i = 2) with rfl | rfl | rfl
    · show IntsAt _ _ A1 a.length c1 a
      rw [← hn1]; exact q1
    · show IntsAt _ _ A2 b.length c2 b
      rw [← hn2]; exact q2
    · show IntsAt _ _ A3 c.length c3 c
      rw [← hn3]; exact q3
theorem hit_none {l : List Wd} (hm : mayP l) : hitB l [] = false := by
  cases h : hitB l [] with
  | false => rfl
  | true =>
    obtain ⟨j, hj, _, _, hs⟩ := hit_at h
    have h1 := hs.length_le
    have h2 := okP_pos hm (wd_mem hj)
    rw [List.length_nil] at h1
    omega
/-- Ahead of the last symbol a watch isn't hit. -/
theorem feed_ahead {l : List Wd} {t : Wd} {n : Nat} (hr : Reach l (t.take n)) (hn : 0 < n) (hl : n ≤ t.length) : hitB l (feedS l [] (t.take (n - 1))) = false := by
  have h1 : feedS l [] (t.take (n - 1)) = t.take (n - 1) := by
    refine (feedS_all (l := l) (s := []) (t := t.take (n - 1)) (fun k hk => ?_)).trans (List.nil_append _)
    rw [List.length_take] at hk
    have := hr k (by rw [List.length_take]; omega)
    rw [List.take_take, Nat.min_eq_left (by omega)] at this
    rw [List.nil_append, List.take_take, Nat.min_eq_left (by omega)]
    exact this
  rw [h1]
  have := hr (n - 1) (by rw [List.length_take]; omega)
  rw [List.take_take, Nat.min_eq_left (by omega)] at this
  exact this
/-- The stop that hit stands at its place. -/
theorem stop_at {l : List Wd} {t : Wd} {n j i : Nat} (h : wd l j <:+ t.take n) (hn : n ≤ t.length) (hi : i < (wd l j).length) (hx : n - (wd l j).length + i < t.length) : t[n - (wd l j).length + i] = (wd l j)[i] := by
  have hl := h.length_le
  rw [List.length_take] at hl
  have h1 := List.suffix_iff_eq_drop.1 h
  rw [List.length_take, Nat.min_eq_left hn] at h1
  have h2 : (wd l j)[i]? = ((t.take n).drop (n - (wd l j).length))[i]? := by rw [← h1]
  rw [List.getElem?_drop, List.getElem?_take, if_pos (by omega), List.getElem?_eq_getElem hi, List.getElem?_eq_getElem hx] at h2
  injection h2 with h2
  exact h2.symm
end Go.Proofs.Ytohfkpoblebfaaa
