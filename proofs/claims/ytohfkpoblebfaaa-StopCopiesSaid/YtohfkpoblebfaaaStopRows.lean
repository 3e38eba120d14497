/- Rows kept beside a watch. -/
import Derived.Test.YtohfkpoblebfaaaStopFixed
import Derived.Test.YtohfkpoblebfaaaStopIs
import Derived.Test.YtohfkpoblebfaaaMem
namespace Go.Proofs.Ytohfkpoblebfaaa
open Go.RowKit
set_option linter.unusedVariables false

theorem own_aside {q b k n : Nat} {e : TypeId} {v : Value} {xs : List Value} {w w' : World} (h : w.ownsRow b e k v n xs) (ha : Aside q w w') (hq : q < b) : w'.ownsRow b e k v n xs := by
  refine h.kept (row := some q) ⟨ha.os, ha.tape, ha.output, ha.size, fun i hi hne => ha.block i hi (fun e => hne (by rw [e]))⟩ ?_
  rcases h.2 with ⟨rfl, _⟩ | ⟨g1, cap1, cur1, rfl, hg, hh1, _⟩
  · left; rfl
  · right
    simp only [Value.ownBlock]
    intro e
    injection e with e
    omega
theorem WAt.under {w0 w w' : World} {l W : List Wd} {B g c q K : Nat} {ns : List Nd} {f : Vs} {A : Option Addr} {s : Wd} (h : WAt w0 w l q s B g ns W f A c) (hb : Below K w w') (hK : q < K) : WAt w0 w' l q s B g ns W f A c :=
  ⟨h.mac, h.bel.trans (hb.mono (by have := h.far; omega)), h.far, by obtain ⟨st, h1, h2⟩ := h.blk; exact ⟨st, (hb.block q hK).trans h1, h2⟩⟩
theorem off_low {q B : Nat} {w : World} {size n c : Nat} {A : Option Addr} {xs : List Value} (h : RowAt w B size A n c xs) (hq : B ≤ q) : 0 < n → Off q A := by
  intro hn
  obtain ⟨b, off, rfl, hb, _⟩ := h.2.2.2 hn
  rintro b' off' s e
  injection e with e
  injection e with e1 e2
  omega
/-- All rows, one behind the other. -/
def flatR (rows : List Wd) : Wd := rows.flatten
theorem flat_next {rows : List Wd} {k : Nat} (h : k < rows.length) : flatR (rows.take (k + 1)) = flatR (rows.take k) ++ wd rows k := by
  unfold flatR
  rw [take_wd h, List.flatten_append]
  simp
theorem flat_le {rows : List Wd} (h : ∀ j, j < rows.length → (wd rows j).length ≤ 30) : ∀ k, k ≤ rows.length → (flatR (rows.take k)).length ≤ 30 * k
  | 0, _ => by simp [flatR]
  | k + 1, hk => by
    rw [flat_next (by omega), List.length_append]
    have := flat_le h k (by omega)
    have := h k (by omega)
    omega
theorem great_no {n m : Nat} {rows : List Wd} (h : greatB n m rows = false) : n ≤ 40 ∧ m ≤ 20 ∧ ∀ j, j < rows.length → (wd rows j).length ≤ 30 := by
  unfold greatB at h
  rw [Bool.or_eq_false_iff, Bool.or_eq_false_iff] at h
  obtain ⟨⟨h1, h2⟩, h3⟩ := h
  refine ⟨by have := of_decide_eq_false h1; omega, by have := of_decide_eq_false h2; omega, fun j hj => ?_⟩
  rw [List.any_eq_false] at h3
  have := h3 _ (wd_mem hj)
  simpa using this
end Go.Proofs.Ytohfkpoblebfaaa
