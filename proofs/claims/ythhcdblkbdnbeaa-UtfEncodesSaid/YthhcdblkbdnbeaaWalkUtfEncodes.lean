/- The walk of UtfEncodes: true for every input. -/
import Derived.Test.YthhcdblkbdnbeaaWalkUtfMore
import Derived.Test.YthhcdblkbdnbeaaUtfEncode
import Derived.Test.YthhcdblkbdnbeaaUtfLaw5
namespace Go.Proofs.Ythhcdblkbdnbeaa
open Go.RowKit

set_option maxRecDepth 100000 in
set_option maxHeartbeats 1000000 in
theorem walkUtfEncodes (w : World) (p : Int) (_hp0 : -9223372036854775808 ≤ p) (_hp1 : p ≤ 9223372036854775807) {A2 : Option Addr} {n2 c2 : Nat} {l2 : List UInt8} (h2 : BytesAt w w.heap.size A2 n2 c2 l2) (cut : Int) (hc0 : 0 ≤ cut) (hc1 : cut ≤ 255) :
    Calls Try.prog 5 #[.int .i64 p, .slice A2 n2 c2, .int .u8 cut] w fun e w' => e = .returned (.bool true) ∧ Below w.heap.size w w' := by
  by_cases hl : 500 < n2
  · have hl1 : (500 : Int) < n2 := by omega
    go_enter Try.func5, Try.ntmps5
    go_wp2_with fail
    refine (fixed01 _).mono ?_
    rintro e w' ⟨rfl, hb⟩
    go_wp2_with fail
    go_ret
    exact ⟨rfl, hb⟩
  have hl2 : ¬ (500 : Int) < n2 := by omega
  rcases hp : isPoint p with _ | _
  · have HE := Lib.hid (encOf_no hp)
    have HK := Lib.hid (show ([] : List UInt8).length = 0 from rfl)
    have HP := Lib.hid hp
    clear hp
    go_enter Try.func5, Try.ntmps5
    go_wp2_with fail
    refine (encode_as _ HE HK HP).mono ?_
    rintro e w1 ⟨A, rfl, hbe, hb1⟩
    go_wp2_with fail
    refine (rencode_as _ HE HP).mono ?_
    rintro e w2 ⟨rfl, hb2⟩
    have hcv := run_string_bytes 22 9 5 Try.underlying22 Try.underlying5 Try.underlying9 (hbe.below hb2)
    have HB := Lib.hid (hb1.trans (hb2.mono hb1.size))
    clear hb1 hb2 hbe
    go_wp2_with fail
    refine (fixed01 _).mono ?_
    rintro e w3 ⟨rfl, hb3⟩
    have HB2 := Lib.hid (HB.out.trans (hb3.mono HB.out.size))
    clear hb3
    go_wp2_with fail
    go_ret
    exact ⟨rfl, HB2.out⟩
  · have hlen := encOf_len hp
    have hE : ∃ m L, encOf p = m ∧ m.length = L ∧ 1 ≤ L ∧ L ≤ 4 := ⟨_, _, rfl, rfl, hlen.1, hlen.2⟩
    clear hlen
    obtain ⟨m, L, hm, hL, hL1, hL4⟩ := hE
    have HD1 := Lib.hid (show dec (m ++ l2) true = (p, (L : Int), false) from by rw [← hm, enc_dec hp, hm, hL])
    have HD2 : Hid (∀ k, k < L → dec (m.take k) false = (-1, 0, true)) := fun k hk => by rw [← hm]; exact enc_part hp k (by rw [hm, hL]; exact hk)
    have HE := Lib.hid hm
    have HK := Lib.hid hL
    have HP := Lib.hid hp
    have hL1' : (1 : Int) ≤ L := by omega
    have hr0 : 0 ≤ cut % (L : Int) := Int.emod_nonneg _ (by omega)
    have hr1 : cut % (L : Int) < (L : Int) := Int.emod_lt_of_pos _ (by omega)
    clear hm hL hp
    go_enter Try.func5, Try.ntmps5
    go_wp2_with fail
    refine (encode_as _ HE HK HP).mono ?_
    rintro e w1 ⟨A, rfl, hbe, hb1⟩
    go_wp2_with fail
    refine (rencode_as _ HE HP).mono ?_
    rintro e w2 ⟨rfl, hb2⟩
    have hbe2 := (hbe.below hb2).mono hb2.size
    have hcv := run_string_bytes 22 9 5 Try.underlying22 Try.underlying5 Try.underlying9 (hbe.below hb2)
    have HB := Lib.hid (hb1.trans (hb2.mono hb1.size))
    have h2' := (h2.below HB.out).mono HB.out.size
    clear hb1 hb2 hbe
    have tok1 : True := trivial
    go_wp2_with (first
      | (at_builtin; have _t := tok1; refine wpList_append_row rfl (.tmp 49) (.tmp 50) _ rfl w2.heap.size 5 _ 1 1 Try.underlying22 info_u8 rfl (by omega) _ _ _ rfl (own_empty _ _ _) w2.heap.size A L L (bytesV m) rfl (RowAt.alloc hbe2 (Nat.le_refl _) _) one_bytes L (by omega) (bytesV m) (by simp) (by unfold maxLen; omega) (by omega) (by simp) ?_; intro A3 c3 w3 hown3 hb3 hg3; clear tok1)
      | (at_builtin; refine wpList_append_row rfl (.tmp 51) (.tmp 52) _ rfl w2.heap.size 5 _ 1 1 Try.underlying22 info_u8 rfl (by omega) _ _ _ rfl hown3 w2.heap.size A2 n2 c2 (bytesV l2) rfl ((RowAt.alloc h2' (Nat.le_refl _) _).below hb3) one_bytes (L + n2) rfl (bytesV (m ++ l2)) (by simp [bytesV]) (by unfold maxLen; omega) (by omega) (by have := hb3.size; simp at this; omega) ?_; intro A4 c4 w4 hown4 hb4 hg4))
    have h4 : BytesAt w4 w4.heap.size A4 (L + n2) c4 (m ++ l2) := RowAt.of_own hown4
    refine (decode_as _ _ h4 HD1).mono ?_
    rintro e w' ⟨rfl, rfl⟩
    have HB4 := Lib.hid ((((Below.refl w2.heap.size w2).alloc (Nat.le_refl _) _).trans hb3).trans hb4)
    clear hb3 hb4 hg3 hg4 hown3 hown4 h4
    have hbe4 := hbe2.below HB4.out
    have ht := BytesAt.to_ hbe4 (k := (cut % (L : Int)).toNat) (by omega)
    have HDk := Lib.hid (HD2.out (cut % (L : Int)).toNat (by omega))
    have HT := Lib.hid ht
    have hLz : ((L : Int) == 0) = false := beq_no (by omega)
    clear ht hbe4 hbe2
    go_wp2_with fail
    refine (decode_as _ _ HT.out HDk).mono ?_
    rintro e w' ⟨rfl, rfl⟩
    have HB5 := Lib.hid (HB.out.trans (HB4.out.mono HB.out.size))
    go_wp2_with fail
    refine (fixed01 _).mono ?_
    rintro e w5 ⟨rfl, hb5⟩
    have HB6 := Lib.hid (HB5.out.trans (hb5.mono HB5.out.size))
    clear hb5
    go_wp2_with fail
    go_ret
    exact ⟨by simp, HB6.out⟩
end Go.Proofs.Ythhcdblkbdnbeaa
