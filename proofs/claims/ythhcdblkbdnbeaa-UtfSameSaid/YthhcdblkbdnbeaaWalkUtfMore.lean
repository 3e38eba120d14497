/- The walk of UtfMore: true for every input. -/
import Derived.Test.YthhcdblkbdnbeaaWalkUtfDecodes
namespace Go.Proofs.Ythhcdblkbdnbeaa
open Go.RowKit

theorem info_u8 : (Try.prog.info? 5).map (fun i => (i.zero, i.size, i.bytes)) = some (some (.int .u8 0), 1, 1) := by kernel_rfl

set_option maxRecDepth 100000 in
set_option maxHeartbeats 1000000 in
theorem walkUtfMore {A : Option Addr} {n c : Nat} {l : List UInt8} {A2 : Option Addr} {n2 c2 : Nat} {l2 : List UInt8} (w : World) (h : BytesAt w w.heap.size A n c l) (h2 : BytesAt w w.heap.size A2 n2 c2 l2) :
    Calls Try.prog 4 #[.slice A n c, .slice A2 n2 c2] w fun e w' => e = .returned (.bool true) ∧ Below w.heap.size w w' := by
  have hn := h.len
  have hn2 := h2.len
  by_cases hl : 500 < n
  · have hl1 : (500 : Int) < n := by omega
    clear hn hn2
    go_enter Try.func4, Try.ntmps4
    go_wp2_with fail
    refine (fixed01 _).mono ?_
    rintro e w' ⟨rfl, hb⟩
    go_wp2_with fail
    go_ret
    exact ⟨rfl, hb⟩
  have hl1 : ¬ (500 : Int) < n := by omega
  by_cases hl2 : 500 < n2
  · have hl2 : (500 : Int) < n2 := by omega
    clear hn hn2
    go_enter Try.func4, Try.ntmps4
    go_wp2_with fail
    refine (fixed01 _).mono ?_
    rintro e w' ⟨rfl, hb⟩
    go_wp2_with fail
    go_ret
    exact ⟨rfl, hb⟩
  have hl2 : ¬ (500 : Int) < n2 := by omega
  obtain ⟨p, k, more, hd⟩ := dec_ex l false
  obtain ⟨q, m, late, hd2⟩ := dec_ex (l ++ l2) false
  have HM : Hid (more = false → q = p ∧ m = k ∧ late = false) := fun hm => by
    have := dec_more l l2 (by rw [hd]; exact hm)
    rw [hd, hd2, hm] at this
    simp only [Prod.mk.injEq] at this
    exact this
  have HD := Lib.hid hd
  have HD2 := Lib.hid hd2
  clear hd hd2 hn hn2
  go_enter Try.func4, Try.ntmps4
  go_wp2_with fail
  refine (decode_as _ _ h HD).mono ?_
  rintro e w' ⟨rfl, rfl⟩
  have tok1 : True := trivial
  go_wp2_with (first
    | (at_builtin; have _t := tok1; refine wpList_append_row rfl (.tmp 27) (.tmp 28) _ rfl w.heap.size 5 _ 1 1 Try.underlying22 info_u8 rfl (by omega) _ _ _ rfl (own_empty _ _ _) w.heap.size A n c (bytesV l) rfl (h.alloc (Nat.le_refl _) _) one_bytes n (by omega) (bytesV l) (by simp) (by unfold maxLen; omega) (by omega) (by simp) ?_; intro A3 c3 w3 hown3 hb3 hg3; clear tok1)
    | (at_builtin; refine wpList_append_row rfl (.tmp 29) (.tmp 30) _ rfl w.heap.size 5 _ 1 1 Try.underlying22 info_u8 rfl (by omega) _ _ _ rfl hown3 w.heap.size A2 n2 c2 (bytesV l2) rfl ((h2.alloc (Nat.le_refl _) _).below hb3) one_bytes (n + n2) rfl (bytesV (l ++ l2)) (by simp [bytesV]) (by unfold maxLen; omega) (by omega) (by have := hb3.size; simp at this; omega) ?_; intro A4 c4 w4 hown4 hb4 hg4))
  have h4 : BytesAt w4 w4.heap.size A4 (n + n2) c4 (l ++ l2) := RowAt.of_own hown4
  refine (decode_as _ _ h4 HD2).mono ?_
  rintro e w' ⟨rfl, rfl⟩
  have HB := Lib.hid ((((Below.refl _ _).alloc (Nat.le_refl _) _).trans hb3).trans hb4)
  clear hb3 hb4 hg3 hg4 hown3 hown4
  have hz := HB.out.size
  rcases more with _ | _
  · obtain ⟨rfl, rfl, rfl⟩ := HM rfl
    go_wp2_with fail
    refine (fixed01 _).mono ?_
    rintro e w' ⟨rfl, hb⟩
    have HB2 := Lib.hid (HB.out.trans (hb.mono hz))
    clear hb
    go_wp2_with fail
    go_ret
    exact ⟨by simp, HB2.out⟩
  · clear HM
    go_wp2_with fail
    refine (fixed01 _).mono ?_
    rintro e w' ⟨rfl, hb⟩
    have HB2 := Lib.hid (HB.out.trans (hb.mono hz))
    clear hb
    go_wp2_with fail
    go_ret
    exact ⟨rfl, HB2.out⟩
end Go.Proofs.Ythhcdblkbdnbeaa
