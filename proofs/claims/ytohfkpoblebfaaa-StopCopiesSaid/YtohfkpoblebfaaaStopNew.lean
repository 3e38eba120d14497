/- A new watch; the law's fixed, great. -/
import Derived.Test.YtohfkpoblebfaaaStopFeed
import Derived.Test.YtohfkpoblebfaaaAhoFixed
namespace Go.Proofs.Ytohfkpoblebfaaa
open Go.RowKit
set_option linter.unusedVariables false

theorem snew_no {n c : Nat} {A : Option Addr} {l : List Wd} {v : Vs} (w : World) (h : PatsAt w w.heap.size A n c l v) (hm : ¬ mayP l) :
    Calls Try.prog 27 #[.slice A n c] w fun e w' => e = .returned (.tuple #[.pointer none, .int .i64 1]) ∧ Below w.heap.size w w' := by
  have H := Lib.hid h
  have HM := Lib.hid hm
  clear h hm
  go_enter Try.func27, Try.ntmps27
  go_wp2_with fail
  refine (new_no w H.out HM.out).mono ?_
  rintro e w1 ⟨rfl, hb⟩
  go_wp2_with fail
  go_ret2
  exact ⟨rfl, hb⟩
def SNewTo (l : List Wd) (w : World) (e : Ending) (w' : World) : Prop := ∃ (w0 : World) (q B g : Nat) (ns : List Nd) (W : List Wd) (f : Vs) (A : Option Addr) (c : Nat), e = .returned (.tuple #[.pointer (some ⟨q, 0, none⟩), .int .i64 0]) ∧ WAt w0 w' l q [] B g ns W f A c ∧ w.heap.size ≤ w0.heap.size ∧ Below w.heap.size w w'
theorem snew_yes {n c : Nat} {A : Option Addr} {l : List Wd} {v : Vs} (w : World) (h : PatsAt w w.heap.size A n c l v) (hm : mayP l) :
    Calls Try.prog 27 #[.slice A n c] w (SNewTo l w) := by
  have H := Lib.hid h
  have HM := Lib.hid hm
  clear h hm
  go_enter Try.func27, Try.ntmps27
  go_wp2_with fail
  refine (new_as w H.out HM.out).mono ?_
  rintro e w1 ⟨B, g, ns, W, f, A, c, rfl, hm, hb⟩
  have M := Lib.hid hm
  have HB := Lib.hid hb
  clear hm hb
  go_wp2_with fail
  go_ret2
  refine ⟨w1, w1.heap.size, B, g, ns, W, f, A, c, rfl, ⟨M.out, (Below.refl _ _).alloc (Nat.le_refl _) _, Nat.le_refl _, 0, ?_, M.out.zero⟩, HB.out.size, HB.out.alloc HB.out.size _⟩
  have h1 := endsOf_nil M.out.ready.pats
  have h2 : fromW l [] = 0 := by unfold fromW; rw [if_neg (by rw [hitB_nil M.out.ready.pats]; decide)]
  rw [h1, h2]
  exact heap_alloc_new w1 _
end Go.Proofs.Ytohfkpoblebfaaa
