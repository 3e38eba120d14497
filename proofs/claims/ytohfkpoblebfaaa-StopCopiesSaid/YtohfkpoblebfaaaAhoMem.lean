/- What a machine is in memory. -/
import Derived.Test.YtohfkpoblebfaaaAhoFind
import Derived.Test.YtohfkpoblebfaaaAhoLaw2
namespace Go.Proofs.Ytohfkpoblebfaaa
open Go.RowKit
set_option linter.unusedVariables false

/-- Where each state's ways lie. -/
abbrev Vs := Nat → Option Addr × Nat
def ndV (n : Nd) (v : Option Addr × Nat) : List Value := [.slice v.1 n.ways.length v.2, .int .i64 (n.fall : Int), .int .i64 (n.depth : Int), .int .i64 n.place, .int .i64 (n.long : Int)]
def nodesF (f : Vs) : Nat → List Nd → List Value
  | _, [] => []
  | k, n :: r => ndV n (f k) ++ nodesF f (k + 1) r
def nodesV (ns : List Nd) (f : Vs) : List Value := nodesF f 0 ns
theorem nodesF_len (f : Vs) : ∀ (ns : List Nd) (k : Nat), (nodesF f k ns).length = ns.length * 5
  | [], _ => rfl
  | n :: r, k => by rw [nodesF, List.length_append, nodesF_len f r, List.length_cons]; simp only [ndV, List.length_cons, List.length_nil]; omega
theorem nodesV_len (ns : List Nd) (f : Vs) : (nodesV ns f).length = ns.length * 5 := nodesF_len f ns 0
theorem nodesF_get (f : Vs) : ∀ (ns : List Nd) (k i j : Nat), i < ns.length → j < 5 → (nodesF f k ns)[i * 5 + j]? = (ndV (nd ns i) (f (k + i)))[j]?
  | [], _, i, _, h, _ => by simp at h
  | n :: r, k, 0, j, _, hj => by
    rw [nodesF, Nat.zero_mul, Nat.zero_add, List.getElem?_append_left (by simp [ndV]; omega)]; rfl
  | n :: r, k, i + 1, j, h, hj => by
    rw [nodesF, List.getElem?_append_right (by simp only [ndV, List.length_cons, List.length_nil]; omega)]
    have e : (i + 1) * 5 + j - (ndV n (f k)).length = i * 5 + j := by simp only [ndV, List.length_cons, List.length_nil]; omega
    rw [e, nodesF_get f r (k + 1) i j (by simpa using h) hj, show k + 1 + i = k + (i + 1) from by omega]
    rfl
theorem nodesV_get {ns : List Nd} {f : Vs} {i j : Nat} (h : i < ns.length) (hj : j < 5) : (nodesV ns f)[i * 5 + j]? = (ndV (nd ns i) (f i))[j]? := by
  have := nodesF_get f ns 0 i j h hj
  rw [Nat.zero_add] at this
  exact this
theorem nodesF_congr {f f' : Vs} : ∀ (ns : List Nd) (k : Nat), (∀ i, i < ns.length → f (k + i) = f' (k + i)) → nodesF f k ns = nodesF f' k ns
  | [], _, _ => rfl
  | n :: r, k, h => by
    have h0 : f k = f' k := h 0 (by simp)
    have h1 := nodesF_congr (f := f) (f' := f') r (k + 1) fun i hi => by have := h (i + 1) (by simp; omega); rw [show k + 1 + i = k + (i + 1) from by omega]; exact this
    rw [nodesF, nodesF, h0, h1]
theorem nodesV_congr {f f' : Vs} {ns : List Nd} (h : ∀ i, i < ns.length → f i = f' i) : nodesV ns f = nodesV ns f' := nodesF_congr ns 0 fun i hi => by rw [Nat.zero_add]; exact h i hi
theorem nodesF_app (f : Vs) (x : Nd) : ∀ (ns : List Nd) (k : Nat), nodesF f k (ns ++ [x]) = nodesF f k ns ++ ndV x (f (k + ns.length))
  | [], k => by simp [nodesF]
  | n :: r, k => by
    rw [List.cons_append, nodesF, nodesF, nodesF_app f x r (k + 1), List.length_cons, List.append_assoc, show k + 1 + r.length = k + (r.length + 1) from by omega]
theorem nodesV_app (ns : List Nd) (f : Vs) (x : Nd) : nodesV (ns ++ [x]) f = nodesV ns f ++ ndV x (f ns.length) := by
  have := nodesF_app f x ns 0
  rw [Nat.zero_add] at this
  exact this
/-- A cell of a state changed. -/
theorem nodesV_set {ns : List Nd} {f f' : Vs} {i j : Nat} {x : Nd} {u : Value} (h : i < ns.length) (hj : j < 5) (hx : ndV x (f' i) = (ndV (nd ns i) (f i)).set j u) (hf : ∀ k, k ≠ i → f' k = f k) : (nodesV ns f).set (i * 5 + j) u = nodesV (ns.set i x) f' := by
  apply List.ext_getElem?
  intro q
  obtain ⟨a, b, hb, rfl⟩ : ∃ a b, b < 5 ∧ q = a * 5 + b := ⟨q / 5, q % 5, Nat.mod_lt _ (by omega), by omega⟩
  by_cases ha : a < ns.length
  · have hR : (nodesV (ns.set i x) f')[a * 5 + b]? = (ndV (nd (ns.set i x) a) (f' a))[b]? := nodesV_get (by rw [List.length_set]; exact ha) hb
    rw [hR, nd_set h, List.getElem?_set, nodesV_len]
    by_cases hia : i = a
    · subst hia
      rw [if_pos rfl, hx, List.getElem?_set]
      have hl : (ndV (nd ns i) (f i)).length = 5 := rfl
      by_cases hjb : j = b
      · subst hjb
        rw [if_pos rfl, if_pos (by omega), if_pos rfl, if_pos (by omega)]
      · rw [if_neg (by omega), if_neg hjb, nodesV_get ha hb]
    · rw [if_neg (by omega), if_neg hia, nodesV_get ha hb, hf a (fun e => hia e.symm)]
  · rw [List.getElem?_eq_none (by rw [List.length_set, nodesV_len]; omega), List.getElem?_eq_none (by rw [nodesV_len, List.length_set]; omega)]

structure Mach (w : World) (B g : Nat) (ns : List Nd) (f : Vs) (A : Option Addr) (c : Nat) : Prop where
  blk : w.heap[g]? = some (.cells #[.slice A ns.length c] 63 (0, 0))
  nodes : w.ownsRow B 60 5 (.slice A ns.length c) ns.length (nodesV ns f)
  ways : ∀ i, i < ns.length → w.ownsRow B 68 2 (.slice (f i).1 (nd ns i).ways.length (f i).2) (nd ns i).ways.length (waysV (nd ns i).ways)
  apart : ∀ i j, i < ns.length → j < ns.length → i ≠ j → (f i).1 = none ∨ (f i).1 ≠ (f j).1
section
variable {w w' : World} {B g c : Nat} {ns : List Nd} {f : Vs} {A : Option Addr}
theorem Mach.lt (h : Mach w B g ns f A c) : g < w.heap.size := (Array.getElem?_eq_some_iff.1 h.blk).1
theorem Mach.below (h : Mach w B g ns f A c) (hb : Below w.heap.size w w') : Mach w' B g ns f A c :=
  ⟨(hb.block _ h.lt).trans h.blk, own_kept h.nodes hb (Nat.le_refl _), fun i hi => own_kept (h.ways i hi) hb (Nat.le_refl _), h.apart⟩
theorem Mach.cell (h : Mach w B g ns f A c) : w.cell? ⟨g, 0, none⟩ = some (.slice A ns.length c) := Lib.cell_of_heap h.blk 0
theorem Mach.cap (h : Mach w B g ns f A c) : ns.length ≤ c ∧ c ≤ maxLen := by
  have := RowAt.of_own h.nodes
  exact ⟨this.2.1, this.2.2.1⟩
/-- The cells of one state. -/
theorem Mach.node (h : Mach w B g ns f A c) {i : Nat} (hi : i < ns.length) : ∃ a, A = some ⟨a, 0, none⟩ ∧ a < w.heap.size ∧ B ≤ a ∧
    w.cell? ⟨a, i * 5, none⟩ = some (.slice (f i).1 (nd ns i).ways.length (f i).2) ∧ w.cell? ⟨a, i * 5 + 1, none⟩ = some (.int .i64 ((nd ns i).fall : Int)) ∧ w.cell? ⟨a, i * 5 + 2, none⟩ = some (.int .i64 ((nd ns i).depth : Int)) ∧
    w.cell? ⟨a, i * 5 + 3, none⟩ = some (.int .i64 (nd ns i).place) ∧ w.cell? ⟨a, i * 5 + 4, none⟩ = some (.int .i64 ((nd ns i).long : Int)) := by
  have hn : 0 < ns.length := by omega
  obtain ⟨a, cap, hv, hB, hlt⟩ := h.nodes.form hn
  have hA : A = some ⟨a, 0, none⟩ := by injection hv
  subst hA
  have hc : ∀ j, j < 5 → w.cell? ⟨a, i * 5 + j, none⟩ = (ndV (nd ns i) (f i))[j]? := fun j hj => by
    rw [h.nodes.cellAt (i * 5 + j) (by omega), nodesV_get hi hj]
  exact ⟨a, rfl, hlt, hB, hc 0 (by omega), hc 1 (by omega), hc 2 (by omega), hc 3 (by omega), hc 4 (by omega)⟩
theorem Mach.waysAt (h : Mach w B g ns f A c) {i : Nat} (hi : i < ns.length) : WaysAt w w.heap.size (f i).1 (nd ns i).ways.length (f i).2 (nd ns i).ways := RowAt.of_own (h.ways i hi)
end
/-- A number's state. -/
def stOf (ns : List Nd) (n : Int) : Nat := if n < 0 ∨ (ns.length : Int) ≤ n then 0 else n.toNat
theorem stOf_lt {ns : List Nd} {n : Int} (h : 0 < ns.length) : stOf ns n < ns.length := by unfold stOf; split <;> omega
theorem stOf_nat {ns : List Nd} {k : Nat} (h : k < ns.length) : stOf ns (k : Int) = k := by unfold stOf; rw [if_neg (by omega)]; omega

set_option maxHeartbeats 400000 in
theorem states_any {B g c : Nat} {ns : List Nd} {f : Vs} {A : Option Addr} (w : World) (h : Mach w B g ns f A c) :
    Calls Try.prog 17 #[.pointer (some ⟨g, 0, none⟩)] w fun e w' => e = .returned (.int .i64 (ns.length : Int)) ∧ w = w' := by
  have hc := h.cell
  clear h
  go_enter Try.func17, Try.ntmps17
  go_wp2_with fail
  go_ret
  exact ⟨rfl, rfl⟩
set_option maxHeartbeats 400000 in
theorem states_nil (w : World) : Calls Try.prog 17 #[.pointer none] w fun e w' => e = .returned (.int .i64 1) ∧ w = w' := by
  go_enter Try.func17, Try.ntmps17
  go_wp2_with fail
  go_ret
  exact ⟨rfl, rfl⟩
set_option maxHeartbeats 400000 in
theorem state_any {B g c : Nat} {ns : List Nd} {f : Vs} {A : Option Addr} (n : Int) (w : World) (h : Mach w B g ns f A c) :
    Calls Try.prog 42 #[.pointer (some ⟨g, 0, none⟩), .int .i64 n] w fun e w' => e = .returned (.int .i64 (stOf ns n : Int)) ∧ w = w' := by
  have HM := Lib.hid h
  clear h
  by_cases h1 : n < 0
  · go_enter Try.func42, Try.ntmps42
    go_wp2_with fail
    go_ret
    exact ⟨ret_int (by unfold stOf; rw [if_pos (.inl h1)]; rfl), rfl⟩
  · have h1' : 0 ≤ n := by omega
    by_cases h2 : (ns.length : Int) ≤ n
    all_goals
      go_enter Try.func42, Try.ntmps42
      go_wp2_with fail
      refine (states_any _ HM.out).mono ?_
      rintro e w' ⟨rfl, rfl⟩
      go_wp2_with fail
      go_ret
    · exact ⟨ret_int (by unfold stOf; rw [if_pos (.inr h2)]; rfl), rfl⟩
    · exact ⟨ret_int (by unfold stOf; rw [if_neg (by omega)]; omega), rfl⟩
end Go.Proofs.Ytohfkpoblebfaaa
