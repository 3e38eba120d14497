/- The plain law of stop: what a watch saw. -/
import Derived.Test.YtohfkpoblebfaaaAhoRefLaw
namespace Go.Proofs.Ytohfkpoblebfaaa
set_option linter.unusedVariables false

/-- Is a watch hit that saw these symbols? -/
def hitB (l : List Wd) (s : Wd) : Bool := decide ((endsOf l s).1 ≠ -1)
def stepS (l : List Wd) (s : Wd) (x : Int) : Wd := if hitB l s = true then s else s ++ [x]
/-- What is seen behind a row. -/
def feedS (l : List Wd) (s t : Wd) : Wd := t.foldl (stepS l) s
/-- What is seen of a text. -/
def sawS (l : List Wd) (t : Wd) : Wd := feedS l [] t
theorem feedS_app (l : List Wd) (s a b : Wd) : feedS l s (a ++ b) = feedS l (feedS l s a) b := List.foldl_append
theorem sawS_app (l : List Wd) (a b : Wd) : sawS l (a ++ b) = feedS l (sawS l a) b := feedS_app l [] a b
theorem feedS_hit {l : List Wd} {s : Wd} (h : hitB l s = true) : ∀ t, feedS l s t = s
  | [] => rfl
  | x :: t => by
    unfold feedS
    rw [List.foldl_cons]
    have : stepS l s x = s := by unfold stepS; rw [if_pos h]
    rw [this]
    exact feedS_hit h t
theorem feedS_snoc (l : List Wd) (s t : Wd) (x : Int) : feedS l s (t ++ [x]) = stepS l (feedS l s t) x := by
  rw [feedS_app]; rfl
/-- A row that hits nowhere ahead of its end is seen. -/
theorem feedS_all {l : List Wd} {s : Wd} : ∀ {t : Wd}, (∀ k, k < t.length → hitB l (s ++ t.take k) = false) → feedS l s t = s ++ t
  | [], _ => by simp [feedS]
  | x :: t, h => by
    have h0 := h 0 (by simp)
    simp at h0
    unfold feedS
    rw [List.foldl_cons]
    have : stepS l s x = s ++ [x] := by unfold stepS; rw [if_neg (by rw [h0]; decide)]
    rw [this]
    have := feedS_all (l := l) (s := s ++ [x]) (t := t) (fun k hk => by
      have := h (k + 1) (by simp; omega)
      simpa using this)
    unfold feedS at this
    rw [this]
    simp
/-- .. and if it hits behind a part, that part is seen. -/
theorem feedS_cut {l : List Wd} {s t : Wd} {k : Nat} (h : ∀ j, j < k → hitB l (s ++ t.take j) = false) (hk : k ≤ t.length) (hh : hitB l (s ++ t.take k) = true) : feedS l s t = s ++ t.take k := by
  have h1 := feedS_app l s (t.take k) (t.drop k)
  rw [List.take_append_drop] at h1
  have h2 : feedS l s (t.take k) = s ++ t.take k := feedS_all (fun j hj => by
    rw [List.length_take, Nat.min_eq_left hk] at hj
    rw [List.take_take, Nat.min_eq_left (by omega)]
    exact h j hj)
  rw [h1, h2]
  exact feedS_hit hh _
theorem hitB_nil {l W : List Wd} (hp : Pats l W) : hitB l [] = false := by unfold hitB; rw [endsOf_nil hp]; rfl
theorem hitB_iff {l : List Wd} {s : Wd} : hitB l s = true ↔ (endsOf l s).1 ≠ -1 := by unfold hitB; simp
theorem hitB_no {l : List Wd} {s : Wd} : hitB l s = false ↔ (endsOf l s).1 = -1 := by unfold hitB; simp
/-- What a watch holds; how many are free; the stop that counts. -/
def heldW (l : List Wd) (s : Wd) : Nat := if hitB l s = true then 0 else heldL l s
def fromW (l : List Wd) (s : Wd) : Int := if hitB l s = true then (s.length : Int) - ((endsOf l s).2 : Int) else 0
def freeW (l : List Wd) (s : Wd) : Int := if hitB l s = true then (s.length : Int) - ((endsOf l s).2 : Int) else (s.length : Int) - (heldL l s : Int)
end Go.Proofs.Ytohfkpoblebfaaa
