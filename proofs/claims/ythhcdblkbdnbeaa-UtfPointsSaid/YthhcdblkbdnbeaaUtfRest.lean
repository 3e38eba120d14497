/- The walks of utf.Rest and utf.Points. -/
import Derived.Test.YthhcdblkbdnbeaaUtfDecode
namespace Go.Proofs.Ythhcdblkbdnbeaa
open Go.RowKit

set_option maxRecDepth 100000 in
set_option maxHeartbeats 1000000 in
theorem rest_any {B : Nat} {A : Option Addr} {n c : Nat} {l : List UInt8} (w : World) (h : BytesAt w B A n c l) :
    Calls Try.prog 15 #[.slice A n c] w fun e w' => e = .returned (.int .i64 (restOf l)) ∧ w = w' := by
  have hn := h.2.1
  have hm := h.2.2.1
  unfold maxLen at hm
  go_enter Try.func15, Try.ntmps15
  go_wp2_with fail
  go_loop [0] (fun v => ∃ (A' : Option Addr) (n' c' : Nat) (l' : List UInt8), v = .slice A' n' c' ∧ BytesAt w B A' n' c' l' ∧ restOf l' = restOf l ∧ c' ≤ c ∧ n' ≤ c') (fun v => lenOf v)
  case atStart => exact ⟨A, n, c, l, rfl, h, rfl, Nat.le_refl _, hn⟩
  case round =>
    obtain ⟨A', n', c', l', rfl, h', hr, hc1, hc2⟩ := hrel
    have HR := Lib.hid hr
    clear hr
    have hlen := h'.len
    by_cases hl : n' = 0
    · subst hl
      have hz := Lib.hid (show restOf l = 0 from by rw [← HR.out, List.eq_nil_of_length_eq_zero hlen.symm]; rfl)
      clear hlen
      go_wp2_with fail
      go_ret
      exact ⟨ret_int (by rw [hz.out]; rfl), rfl⟩
    · have hl1 : 0 < (n' : Int) := by omega
      obtain ⟨p, k, more, hd⟩ := dec_ex l' false
      have HD := Lib.hid hd
      have HL := Lib.hid hlen
      clear hd hlen
      rcases dec_step (by rw [← HL.out]; omega) HD.out with ⟨rfl, _, rfl, _⟩ | ⟨rfl, hk1, hk2, _, _⟩
      · have hz := Lib.hid (show restOf l = n' from by rw [← HR.out, restOf_more (by rw [← HL.out]; omega) HD.out, HL.out])
        go_wp2_with (go_at_call 9; refine (decode_as _ _ h' HD).mono ?_; rintro e w' ⟨rfl, rfl⟩)
        go_ret
        exact ⟨ret_int (by rw [hz.out]), rfl⟩
      · have hz := Lib.hid (show restOf (l'.drop k.toNat) = restOf l from by rw [← HR.out, restOf_step (by rw [← HL.out]; omega) HD.out])
        have hk3 : k ≤ (n' : Int) := by rw [HL.out]; exact hk2
        have hk4 : 0 ≤ k := by omega
        have hf := h'.from_ (k := k.toNat) (by omega)
        have HF := Lib.hid hf
        clear hf hk2
        go_wp2_with (go_at_call 9; refine (decode_as _ _ h' HD).mono ?_; rintro e w' ⟨rfl, rfl⟩)
        go_round
        case rel => exact ⟨_, _, _, _, rfl, HF.out, hz.out, by omega, by omega⟩
        case measure => simp only [lenOf]; omega

theorem info_int : (Try.prog.info? 3).map (fun i => (i.zero, i.size, i.bytes)) = some (some (.int .i64 0), 1, 8) := by kernel_rfl

set_option maxRecDepth 100000 in
set_option maxHeartbeats 1000000 in
theorem points_any {A : Option Addr} {n c : Nat} {l : List UInt8} (w : World) (h : BytesAt w w.heap.size A n c l) (hs : l.length ≤ 1048576) :
    Calls Try.prog 13 #[.slice A n c] w fun e w' => ∃ v, e = .returned v ∧ w'.ownsRow w.heap.size 3 1 v (pointsOf l).length (intsV (pointsOf l)) ∧ Below w.heap.size w w' := by
  have hn := h.2.1
  have hm := h.2.2.1
  unfold maxLen at hm
  go_enter Try.func13, Try.ntmps13
  go_wp2_with fail
  go_loopw [0, 3] (fun v out wr => ∃ (A' : Option Addr) (n' c' : Nat) (l' : List UInt8) (d : List Int), v = .slice A' n' c' ∧ BytesAt wr w.heap.size A' n' c' l' ∧ d ++ pointsOf l' = pointsOf l ∧ c' ≤ c ∧ n' ≤ c' ∧ d.length + l'.length ≤ l.length ∧
    wr.ownsRow w.heap.size 3 1 out d.length (intsV d) ∧ Below w.heap.size w wr) (fun v _ _ => lenOf v)
  case atStart => exact ⟨A, n, c, l, [], rfl, h, rfl, Nat.le_refl _, hn, by simp, World.ownsRow_nil _ _ _ _, Below.refl _ _⟩
  case round =>
    obtain ⟨A', n', c', l', d, rfl, h', hr, hc1, hc2, hd1, hown, hbel⟩ := hrel
    have HR := Lib.hid hr
    clear hr
    have hlen := h'.len
    by_cases hl : n' = 0
    · subst hl
      have hz := Lib.hid (show d = pointsOf l from by rw [← HR.out, List.eq_nil_of_length_eq_zero hlen.symm, pointsOf_nil, List.append_nil])
      clear hlen
      go_wp2_with fail
      go_ret
      exact ⟨_, rfl, by rw [← hz.out]; exact hown, hbel⟩
    · have hl1 : 0 < (n' : Int) := by omega
      obtain ⟨p, k, more, hd⟩ := dec_ex l' true
      have HD := Lib.hid hd
      have HL := Lib.hid hlen
      clear hd hlen
      rcases dec_step (by rw [← HL.out]; omega) HD.out with ⟨_, h2, _⟩ | ⟨rfl, hk1, hk2, _, _⟩
      · cases h2
      · have hz := Lib.hid (show (d ++ [p]) ++ pointsOf (l'.drop k.toNat) = pointsOf l from by rw [← HR.out, pointsOf_step (by rw [← HL.out]; omega) HD.out, List.append_assoc]; rfl)
        have hk3 : k ≤ (n' : Int) := by rw [HL.out]; exact hk2
        have hk4 : 0 ≤ k := by omega
        have hf := h'.from_ (k := k.toNat) (by omega)
        have HF := Lib.hid hf
        have hd2 : d.length + 1 + (l'.drop k.toNat).length ≤ l.length := by rw [List.length_drop]; omega
        clear hf hk2
        have hsz := hbel.size
        go_wp2_with (first
          | (go_at_call 9; refine (decode_as _ _ h' HD).mono ?_; rintro e w' ⟨rfl, rfl⟩)
          | (at_builtin; refine wpList_append_one rfl (.tmp 16) (.tmp 18) _ rfl w.heap.size 3 _ 8 Try.underlying37 info_int rfl _ _ _ rfl wr (.int .i64 p) rfl hown rfl hsz (by omega) (by unfold maxLen; omega) ?_; intro v1 w1 hown1 hb1 hg1))
        go_roundw
        case rel => exact ⟨_, _, _, _, d ++ [p], rfl, RowAt.below HF.out hb1, hz.out, by omega, by omega, by simp only [List.length_append, List.length_singleton]; omega, by simpa [intsV] using hown1, hbel.trans hb1⟩
        case measure => simp only [lenOf]; omega
end Go.Proofs.Ythhcdblkbdnbeaa
