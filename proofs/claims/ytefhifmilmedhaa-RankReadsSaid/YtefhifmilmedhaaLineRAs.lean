/- The contracts of the document's Lines and Number, their values named. -/
import Derived.Test.YtefhifmilmedhaaLineAs
import Derived.Test.YtefhifmilmedhaaLineRDig
namespace Go.Proofs.Ytefhifmilmedhaa
open Go.RowKit

theorem rnum_as {s : ByteArray} {n : Int} (w : World) (h : refN s.data.toList = n) :
    Calls Try.prog 18 #[.string s] w fun e w' => e = .returned (.int .i64 n) ∧ Below w.heap.size w w' := by
  subst h
  refine (rnumber_any s w).mono ?_
  rintro e w' ⟨rfl, k, rfl⟩
  exact ⟨rfl, below_drewN (Below.refl _ _) k⟩

theorem rlines_own {s : ByteArray} {x : List (List UInt8)} {n : Nat} (hm : s.size ≤ 1099511627776) (w : World) (hx : linesL s.data.toList = x) (hn : x.length = n) :
    Calls Try.prog 15 #[.string s] w fun e w' => ∃ A' c', e = .returned (.slice A' n c') ∧ w'.ownsRow w.heap.size 9 1 (.slice A' n c') n (strsV x) ∧ Below w.heap.size w w' := by
  subst hx hn
  refine (rlines_any s hm w).mono ?_
  rintro e w' ⟨v, rfl, ho, hb⟩
  obtain ⟨A', c', rfl⟩ := own_form ho
  exact ⟨A', c', rfl, ho, hb⟩

end Go.Proofs.Ytefhifmilmedhaa
