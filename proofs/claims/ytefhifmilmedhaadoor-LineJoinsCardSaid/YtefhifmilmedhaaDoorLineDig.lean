/- The walk of line.Digits: the library's Itoa reads a table. -/
import Derived.Test.YtefhifmilmedhaaDoorLineRDig
import Derived.Test.YtefhifmilmedhaaDoorShelf
import Derived.Lib.AppendIntMem
namespace Go.Proofs.YtefhifmilmedhaaDoor
open Go.RowKit

/-- The table of powers that Itoa reads. -/
def Tab10 (w : World) : Prop := Lib.TabIs Tryd.prog w "internal/strconv.uint64pow10" .u64 Lib.pow10Tab

theorem below_grow (w : World) (k : Nat) (os : Array Obj) : Below w.heap.size w (Sort.grow (w.drewN k) os) :=
  ⟨rfl, rfl, rfl, by simp [Sort.grow], fun i hi => by
    show ((w.drewN k).heap ++ os)[i]? = _
    rw [Array.getElem?_append_left (by show i < w.heap.size; omega)]
    rfl⟩
set_option maxRecDepth 100000 in
theorem digits_any (n : Int) (h0 : -9223372036854775808 ≤ n) (h1 : n ≤ 9223372036854775807) (w : World) (ht : Tab10 w) : Calls Tryd.prog 21 #[.int .i64 n] w fun e w' => e = .returned (.string (strOf (Lib.itoa n))) ∧ Below w.heap.size w w' := by
  go_enter Tryd.func21, Tryd.ntmps21
  go_wp2_with (go_at_call 37; refine (Tryd.strconv_Itoa n h0 h1 _ ht).mono ?_; rintro e w' ⟨rfl, k, os, rfl⟩)
  go_ret
  exact ⟨rfl, below_grow _ _ _⟩
end Go.Proofs.YtefhifmilmedhaaDoor
