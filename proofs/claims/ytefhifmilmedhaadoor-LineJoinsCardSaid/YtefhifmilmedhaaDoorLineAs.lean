/- The contracts of Lines, Words and Number with their values named. -/
import Derived.Test.YtefhifmilmedhaaDoorLineRef
import Derived.Test.YtefhifmilmedhaaDoorLineWords
namespace Go.Proofs.YtefhifmilmedhaaDoor
open Go.RowKit

theorem StrsAt.of_own {w : World} {base : Nat} {A : Option Addr} {n c : Nat} {l : List (List UInt8)} (h : w.ownsRow base 9 1 (.slice A n c) n (strsV l)) : StrsAt w w.heap.size A n c l := RowAt.of_own h
theorem lines_as {A : Option Addr} {m c : Nat} {l : List UInt8} {x : List (List UInt8)} {n : Nat} (w : World) (hl : BytesAt w w.heap.size A m c l) (hm : m ≤ 1099511627776) (hx : linesL l = x) (hn : x.length = n) :
    Calls Tryd.prog 15 #[.slice A m c] w fun e w' => ∃ A' c', e = .returned (.slice A' n c') ∧ StrsAt w' w'.heap.size A' n c' x ∧ Below w.heap.size w w' := by
  subst hx hn
  refine (lines_any w hl hm).mono ?_
  rintro e w' ⟨v, rfl, ho, hb⟩
  obtain ⟨A', c', rfl⟩ := own_form ho
  exact ⟨A', c', rfl, StrsAt.of_own ho, hb⟩
theorem rlines_as {s : ByteArray} {x : List (List UInt8)} {n : Nat} (hm : s.size ≤ 1099511627776) (w : World) (hx : linesL s.data.toList = x) (hn : x.length = n) :
    Calls Tryd.prog 16 #[.string s] w fun e w' => ∃ A' c', e = .returned (.slice A' n c') ∧ StrsAt w' w'.heap.size A' n c' x ∧ Below w.heap.size w w' := by
  subst hx hn
  refine (rlines_any s hm w).mono ?_
  rintro e w' ⟨v, rfl, ho, hb⟩
  obtain ⟨A', c', rfl⟩ := own_form ho
  exact ⟨A', c', rfl, StrsAt.of_own ho, hb⟩
theorem words_as {s : ByteArray} {x : List (List UInt8)} {o : Bool} {n : Nat} (hm : s.size ≤ 1099511627776) (w : World) (ho : (wordsL s.data.toList).isSome = o) (hx : (wordsL s.data.toList).getD [] = x) (hn : x.length = n) :
    Calls Tryd.prog 17 #[.string s] w fun e w' => ∃ A' c', e = .returned (.tuple #[.slice A' n c', .bool o]) ∧ StrsAt w' w'.heap.size A' n c' x ∧ Below w.heap.size w w' := by
  subst ho hx hn
  refine (words_any s hm w).mono ?_
  rintro e w' ⟨v, rfl, ho, hb⟩
  obtain ⟨A', c', rfl⟩ := own_form ho
  exact ⟨A', c', rfl, StrsAt.of_own ho, hb⟩
theorem rwords_as {s : ByteArray} {x : List (List UInt8)} {n : Nat} (hm : s.size ≤ 1099511627776) (w : World) (hx : (wordsL s.data.toList).getD [] = x) (hn : x.length = n) :
    Calls Tryd.prog 18 #[.string s] w fun e w' => ∃ A' c', e = .returned (.slice A' n c') ∧ StrsAt w' w'.heap.size A' n c' x ∧ Below w.heap.size w w' := by
  subst hx hn
  refine (rwords_any s hm w).mono ?_
  rintro e w' ⟨v, rfl, ho, hb⟩
  obtain ⟨A', c', rfl⟩ := own_form ho
  exact ⟨A', c', rfl, StrsAt.of_own ho, hb⟩
theorem number_as {s : ByteArray} {n : Int} {o : Bool} (w : World) (h1 : (((numL s.data.toList).getD 0 : Nat) : Int) = n) (h2 : (numL s.data.toList).isSome = o) :
    Calls Tryd.prog 19 #[.string s] w fun e w' => e = .returned (.tuple #[.int .i64 n, .bool o]) ∧ ∃ k, w' = w.drewN k := by
  subst h1 h2
  exact number_any s w
end Go.Proofs.YtefhifmilmedhaaDoor
