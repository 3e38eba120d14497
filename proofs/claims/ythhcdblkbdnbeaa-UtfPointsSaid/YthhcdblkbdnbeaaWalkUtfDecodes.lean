/- The walk of footbridgelaw01.fixed and of UtfDecodes: true for every input. -/
import Derived.Test.YthhcdblkbdnbeaaUtfDecode
import Derived.Test.YthhcdblkbdnbeaaUtfRefG
import Derived.Test.YthhcdblkbdnbeaaUtfLaw2
namespace Go.Proofs.Ythhcdblkbdnbeaa
open Go.RowKit

set_option maxRecDepth 100000 in
set_option maxHeartbeats 1000000 in
theorem fixed01 (w : World) : Calls Try.prog 8 #[] w fun e w' => e = .returned (.bool true) ∧ Below w.heap.size w w' := by
  have d1 := Lib.hid (show dec [226, 130] false = (-1, 0, true) from by decide)
  have d2 := Lib.hid (show dec [226, 130, 172] false = (8364, 3, false) from by decide)
  have b1 : ∀ w : World, BytesAt (w.alloc (.cells #[.int .u8 226, .int .u8 130] 5)) (w.heap.size + 1) (some ⟨w.heap.size, 0, none⟩) 2 2 [226, 130] := fun w => new_bytes_at w [226, 130] 5 (by unfold maxLen; simp)
  have b2 : BytesAt ((w.alloc (.cells #[.int .u8 226, .int .u8 130] 5)).alloc (.cells #[.int .u8 226, .int .u8 130, .int .u8 172] 5)) (w.heap.size + 2) (some ⟨w.heap.size + 1, 0, none⟩) 3 3 [226, 130, 172] := by
    have := new_bytes_at (w.alloc (.cells #[.int .u8 226, .int .u8 130] 5)) [226, 130, 172] 5 (by unfold maxLen; simp)
    rw [World.size_alloc] at this
    exact this
  have B1 := Lib.hid b1
  have B2 := Lib.hid b2
  clear b1 b2
  go_enter Try.func8, Try.ntmps8
  go_wp2_with fail
  refine (decode_as _ _ (B1.out _) d1).mono ?_
  rintro e w' ⟨rfl, rfl⟩
  go_wp2_with fail
  refine (decode_as _ _ B2.out d2).mono ?_
  rintro e w' ⟨rfl, rfl⟩
  go_wp2_with fail
  go_ret
  exact ⟨rfl, ((Below.refl _ _).alloc (Nat.le_refl _) _).alloc (by simp) _⟩

set_option maxRecDepth 100000 in
set_option maxHeartbeats 1000000 in
theorem walkUtfDecodes {A : Option Addr} {n c : Nat} {l : List UInt8} (w : World) (h : BytesAt w w.heap.size A n c l) (final : Bool) :
    Calls Try.prog 3 #[.slice A n c, .bool final] w fun e w' => e = .returned (.bool true) ∧ Below w.heap.size w w' := by
  have hn := h.len
  by_cases hl : 2000 < n
  · have hl1 : (2000 : Int) < n := by omega
    clear hn
    go_enter Try.func3, Try.ntmps3
    go_wp2_with fail
    refine (fixed01 _).mono ?_
    rintro e w' ⟨rfl, hb⟩
    go_wp2_with fail
    go_ret
    exact ⟨rfl, hb⟩
  · have hl1 : ¬ (2000 : Int) < n := by omega
    have hcv := run_string_bytes 22 9 5 Try.underlying22 Try.underlying5 Try.underlying9 h
    obtain ⟨p, k, more, hd⟩ := dec_ex l final
    have HD := Lib.hid hd
    have HR := Lib.hid (rDecV_of (show rDec l final = (p, k, more) from by rw [← dec_eq]; exact hd))
    have HN := Lib.hid hn
    clear hd hn
    go_enter Try.func3, Try.ntmps3
    go_wp2_with fail
    refine (decode_as _ _ h HD).mono ?_
    rintro e w' ⟨rfl, rfl⟩
    go_wp2_with fail
    refine (rdecode_any _ _ _ (by rw [strOf_size, ← HN.out]; unfold maxLen; omega)).mono ?_
    rintro e w1 ⟨he, hb⟩
    rw [strOf_list, ← HR.out] at he
    subst he
    go_wp2_with fail
    refine (fixed01 _).mono ?_
    rintro e w2 ⟨rfl, hb2⟩
    have hcl : ∀ j, w2.cell? ⟨w1.heap.size, j, none⟩ = (#[Value.int .i64 p, .int .i64 k, .bool more] : Array Value)[j]? := fun j => by
      rw [hb2.cell (by simp), World.cell?_alloc_at _ _ _ _ rfl]
    have c0 : w2.cell? ⟨w1.heap.size, 0, none⟩ = some (.int .i64 p) := hcl 0
    have c1 : w2.cell? ⟨w1.heap.size, 1, none⟩ = some (.int .i64 k) := hcl 1
    have c2 : w2.cell? ⟨w1.heap.size, 2, none⟩ = some (.bool more) := hcl 2
    clear hcl
    have HB := Lib.hid ((hb.alloc hb.size _).trans (hb2.mono (by have := hb.size; simp; omega)))
    clear hb hb2
    go_wp2_with fail
    go_ret
    exact ⟨by simp, HB.out⟩
end Go.Proofs.Ythhcdblkbdnbeaa
