/- The walk of utf.Decode: what it answers of any bytes. -/
import Derived.Test.YtkiggpbmlkfdpaaDoorProg
import Derived.Test.YtkiggpbmlkfdpaaDoorUtfSpec
/- The walk of utf.kind: what it answers of each byte. -/
namespace Go.Proofs.YtkiggpbmlkfdpaaDoor
open Go.RowKit

set_option maxHeartbeats 400000 in
theorem kind_any (c : Int) (w : World) (h0 : 0 ≤ c) (h1 : c ≤ 255) :
    Calls Tryd.prog 82 #[.int .u8 c] w fun e w' => e = .returned (.tuple #[.int .i64 (utfKind c).1, .int .i64 (utfKind c).2.1, .int .u8 (utfKind c).2.2.1, .int .u8 (utfKind c).2.2.2]) ∧ w = w' := by
  go_enter Tryd.func82, Tryd.ntmps82
  go_wp2
  all_goals (refine bodyPost_ret (results_tmp4 rfl _ _ _) rfl ?_)
  all_goals (refine ⟨ret4 _ _ _ _ ?_, rfl⟩)
  all_goals (try simp only [beq_iff_eq, beq_eq_false_iff_ne, ne_eq] at *)
  all_goals (unfold utfKind; (repeat' split) <;> first | omega | rfl | (simp only [Prod.mk.injEq, and_true, true_and]; omega))

theorem kind_as {c n b lo hi : Int} (w : World) (h0 : 0 ≤ c) (h1 : c ≤ 255) (h : Hid (utfKind c = (n, b, lo, hi))) :
    Calls Tryd.prog 82 #[.int .u8 c] w fun e w' => e = .returned (.tuple #[.int .i64 n, .int .i64 b, .int .u8 lo, .int .u8 hi]) ∧ w = w' :=
  (kind_any c w h0 h1).mono fun e w' ⟨he, hw⟩ => ⟨by rw [he, h.out], hw⟩
end Go.Proofs.YtkiggpbmlkfdpaaDoor
namespace Go.Proofs.YtkiggpbmlkfdpaaDoor
open Go.RowKit

set_option maxHeartbeats 400000 in
theorem decode_nil (A : Option Addr) (c : Nat) (final : Bool) (w : World) :
    Calls Tryd.prog 79 #[.slice A 0 c, .bool final] w fun e w' => e = .returned (.tuple #[.int .i64 (-1), .int .i64 0, .bool true]) ∧ w = w' := by
  go_enter Tryd.func79, Tryd.ntmps79
  go_wp2
  go_ret3
  exact ⟨rfl, rfl⟩

set_option maxRecDepth 100000 in
set_option maxHeartbeats 1000000 in
theorem decode_cons (b off : Nat) (l : List UInt8) (c : Nat) (final : Bool) (w : World) (hl : 0 < l.length) (hm : l.length ≤ maxLen)
    (hc : ∀ i (h : i < l.length), w.cell? ⟨b, off + i, none⟩ = some (.int .u8 (l[i].toNat : Int))) :
    Calls Tryd.prog 79 #[.slice (some ⟨b, off, none⟩) l.length c, .bool final] w fun e w' => e = .returned (.tuple #[.int .i64 (dec l final).1, .int .i64 (dec l final).2.1, .bool (dec l final).2.2]) ∧ w = w' := by
  unfold maxLen at hm
  have h0 : w.cell? ⟨b, off, none⟩ = some (.int .u8 (l[0].toNat : Int)) := by simpa using hc 0 hl
  have HC := Lib.hid hc
  clear hc
  have hlen : ((l.length : Int) == 0) = false := beq_no (by omega)
  have hlen2 : (0 : Int) < (l.length : Int) := by omega
  have hbd := utfKind_bd (l[0].toNat : Int) (u8_ge _) (u8_le _)
  obtain ⟨n, bits, lo, hi, hk⟩ := utfKind_ex (l[0].toNat : Int)
  rw [hk] at hbd
  simp only at hbd
  have HK := Lib.hid hk
  clear hk
  obtain ⟨b1, b2, b3, b4, b5, b6, b7, b8⟩ := hbd
  have hb0 : (l[0].toNat : Int) ≤ 255 := u8_le _
  go_enter Tryd.func79, Tryd.ntmps79
  go_wp2_with (go_at_call 82; refine (kind_as _ (by omega) hb0 HK).mono ?_; rintro e w' ⟨rfl, rfl⟩)
  go_loop [8, 9, 10, 11] (fun p lo' hi' i => ∃ (j : Nat) (P L H : Int), 1 ≤ j ∧ j ≤ 4 ∧ j ≤ l.length ∧ p = .int .i64 P ∧ lo' = .int .u8 L ∧ hi' = .int .u8 H ∧ i = .int .i64 j ∧ 0 ≤ P ∧ PBound j P ∧ 0 ≤ L ∧ L ≤ 255 ∧ 0 ≤ H ∧ H ≤ 255 ∧ DecAt l final n j P L H)
    (fun _ _ _ i => 4 - (intOf i).toNat)
  case atStart => exact ⟨1, bits, lo, hi, by omega, by omega, by omega, rfl, rfl, rfl, rfl, b3, PBound.one b4, b5, b6, b7, b8, DecAt.start hl rfl HK.out b1⟩
  case round =>
    obtain ⟨j, P, L, H, j1, j2, j3, rfl, rfl, rfl, rfl, p1, p2, l1, l2, g1, g2, HD⟩ := hrel
    have HD' := Lib.hid HD
    have HP' := Lib.hid p2
    have p3 := p2.le j1 j2
    clear HD p2
    by_cases hjn : (j : Int) < n
    · by_cases hjl : j = l.length
      · have HR := Lib.hid (HD'.out.short hjn hjl)
        subst hjl
        have hjn' : ((l.length : Int) == (l.length : Int)) = true := beq_yes rfl
        cases final
        all_goals
          go_wp2
          go_ret3
          exact ⟨ret3 _ _ HR.out, rfl⟩
      · have hjl2 : ((j : Int) == (l.length : Int)) = false := beq_no (by omega)
        have hjl4 : (j : Int) < (l.length : Int) := by omega
        have hj5 : j < l.length := by omega
        have hcj := HC.out j hj5
        have hx1 := u8_ge l[j]
        have hx2 := u8_le l[j]
        have HG := Lib.hid (fun a b => HD'.out.good hjn hj5 a b)
        have HB := Lib.hid (fun a => HD'.out.bad hjn hj5 a)
        generalize (l[j].toNat : Int) = x at *
        by_cases hx3 : x < L
        · have HR := Lib.hid (HB.out (.inl hx3))
          go_wp2
          go_ret3
          exact ⟨ret3 _ _ HR.out, rfl⟩
        · by_cases hx4 : H < x
          · have HR := Lib.hid (HB.out (.inr hx4))
            go_wp2
            go_ret3
            exact ⟨ret3 _ _ HR.out, rfl⟩
          · have HR := Lib.hid (HG.out (by omega) (by omega))
            have ho := or_six P (x % 64) p1 (by omega) (by omega) (by omega)
            go_wp2
            go_round
            case rel => exact ⟨j + 1, P * 64 + x % 64, 128, 191, by omega, by omega, by omega, rfl, rfl, rfl, by go_num, by omega, HP'.out.step j1 (by omega), by omega, by omega, by omega, by omega, HR.out⟩
            case measure => simp [intOf]; omega
    · by_cases hn0 : n = 0
      · subst hn0
        have HR := Lib.hid (HD'.out.1 rfl)
        go_wp2
        go_ret3
        exact ⟨ret3 _ _ HR.out, rfl⟩
      · have hn1 : (n == 0) = false := beq_no hn0
        have HR := Lib.hid (HD'.out.over hjn hn0)
        go_wp2
        go_ret3
        exact ⟨ret3 _ _ HR.out, rfl⟩

theorem decode_any {B : Nat} {A : Option Addr} {n c : Nat} {l : List UInt8} (final : Bool) (w : World) (h : BytesAt w B A n c l) :
    Calls Tryd.prog 79 #[.slice A n c, .bool final] w fun e w' => e = .returned (.tuple #[.int .i64 (dec l final).1, .int .i64 (dec l final).2.1, .bool (dec l final).2.2]) ∧ w = w' := by
  have hm := h.2.2.1
  have hn := h.2.1
  obtain rfl := h.len
  by_cases h0 : 0 < l.length
  · obtain ⟨b, off, rfl, _, hc⟩ := h.cells h0
    exact decode_cons b off l c final w h0 (by omega) hc
  · obtain rfl : l = [] := List.eq_nil_of_length_eq_zero (by omega)
    exact decode_nil A c final w
theorem decode_as {B : Nat} {A : Option Addr} {n c : Nat} {l : List UInt8} (final : Bool) (w : World) (h : BytesAt w B A n c l) {p k : Int} {more : Bool} (hd : Hid (dec l final = (p, k, more))) :
    Calls Tryd.prog 79 #[.slice A n c, .bool final] w fun e w' => e = .returned (.tuple #[.int .i64 p, .int .i64 k, .bool more]) ∧ w = w' :=
  (decode_any final w h).mono fun e w' ⟨he, hw⟩ => ⟨by rw [he, hd.out], hw⟩
end Go.Proofs.YtkiggpbmlkfdpaaDoor
