/- The walk of letter's Read. -/
import Derived.Test.YtdapcilhbclcnaaLetWalk
import Derived.Test.YtdapcilhbclcnaaConv
import Derived.Test.YtdapcilhbclcnaaUtfDecode
namespace Go.Proofs.Ytdapcilhbclcnaa
open Go.RowKit
set_option linter.unusedVariables false

theorem lown_below {B k n : Nat} {e : TypeId} {v : Value} {xs : List Value} {w w' : World} (h : w.ownsRow B e k v n xs) (hb : Below w.heap.size w w') : w'.ownsRow B e k v n xs :=
  h.kept (row := none) ⟨hb.os, hb.tape, hb.output, hb.size, fun i hi _ => hb.block i hi⟩ (by cases v.ownBlock <;> simp)
theorem linfoByte : (Try.prog.info? 5).map (fun i => (i.zero, i.size, i.bytes)) = some (some (.int .u8 0), 1, 1) := by kernel_rfl
theorem lown_put {w : World} {B0 : Nat} {v : Value} {d : List UInt8} {b : Int} (h0 : 0 ≤ b) (h1 : b ≤ 255) (h : w.ownsRow B0 5 1 v (d.length + 1) (bytesV d ++ [.int .u8 b])) :
    w.ownsRow B0 5 1 v (d ++ [byteOf b]).length (bytesV (d ++ [byteOf b])) := by
  rw [List.length_append, List.length_singleton]
  unfold bytesV at h ⊢
  rw [List.map_append, List.map_singleton, byteOf_toNat h0 h1]
  exact h
theorem glue_val {d : List UInt8} {x y : List UInt8 × Nat × Bool} {n : Nat} (h : glue d ([], n, false) = x) : x = ([], n, false) := by rw [← h]; rfl

set_option maxHeartbeats 1000000 in
set_option maxRecDepth 100000 in
theorem lread_any (s : ByteArray) (w : World) (hm : s.size ≤ 100000) :
    Calls Try.prog 24 #[.string s] w fun e w' => ∃ v, e = .returned (.tuple #[v, .int .i64 ((rdAt s.data.toList 0).2.1 : Int), .bool (rdAt s.data.toList 0).2.2]) ∧
      w'.ownsRow w.heap.size 5 1 v (rdAt s.data.toList 0).1.length (bytesV (rdAt s.data.toList 0).1) ∧ Below w.heap.size w w' := by
  obtain ⟨c, w1, hcv, hbt, hz1, hb1⟩ := run_bytes_new (P := Try.prog) w 9 22 5 s Try.underlying9 Try.underlying22 Try.underlying5 (by unfold maxLen; omega)
  have hcc := hbt.2.1
  have hmm := hbt.2.2.1
  unfold maxLen at hmm
  have HT := Lib.hid hbt
  have HZ := Lib.hid hz1
  have HB1 := Lib.hid hb1
  clear hbt hz1 hb1
  go_enter Try.func24, Try.ntmps24
  go_wp2_with fail
  go_loopw [5, 6] (fun v r wr => ∃ (A' : Option Addr) (n' c' : Nat) (l' d : List UInt8), r = .slice A' n' c' ∧ BytesAt wr (w.heap.size + 1) A' n' c' l' ∧ n' + d.length ≤ s.size ∧ c' ≤ c ∧ n' ≤ c' ∧ Hid (glue d (rdAt l' (s.size - n')) = rdAt s.data.toList 0) ∧ wr.ownsRow (w.heap.size + 1) 5 1 v d.length (bytesV d) ∧ Below (w.heap.size + 1) w1 wr) (fun _ r _ => lenOf r)
  case atStart =>
    refine ⟨_, _, _, _, [], rfl, HT.out, Nat.le_refl _, Nat.le_refl _, hcc, ?_, World.ownsRow_nil _ _ _ _, Below.refl _ _⟩
    show glue _ _ = _
    rw [Nat.sub_self, glue_nil]
  case round =>
    obtain ⟨A', n', c', l', d, rfl, hbt, hnd, hc1, hc2, HG, hown, hbel⟩ := hrel
    have HBT := Lib.hid hbt
    have hlen := hbt.len
    have HL := Lib.hid hlen
    have HO := Lib.hid hown
    have HBB := Lib.hid hbel
    have hsz := Lib.hid hbel.size
    have HW := Lib.hid (show Below w.heap.size w wr from HB1.out.trans (hbel.mono (by omega)))
    clear hbt hown hbel
    by_cases hl : n' = 0
    · subst hl
      have HF := Lib.hid (show rdAt s.data.toList 0 = (d, 0, true) from by rw [← HG.out, List.eq_nil_of_length_eq_zero hlen.symm, rdAt_nil]; simp [glue])
      clear hlen hcv
      go_wp2_with fail
      rw [HF.out]
      obtain ⟨A9, c9, rfl⟩ := own_form HO.out
      go_ret3
      refine ⟨_, rfl, ?_, HW.out⟩
      exact ⟨HO.out.1, HO.out.2.imp id fun ⟨g, cap, cur, h1, h2, h3⟩ => ⟨g, cap, cur, h1, by omega, h3⟩⟩
    · have hl1 : 0 < (n' : Int) := by omega
      obtain ⟨p, k, more, hd⟩ := dec_ex l' true
      have HD := Lib.hid hd
      have hl0 : 0 < l'.length := by omega
      clear hd hlen hcv
      rcases dec_step hl0 HD.out with ⟨_, h2, _⟩ | ⟨rfl, hk1, hk2, _, _⟩
      · cases h2
      rcases Int.lt_or_le (lByte p) 0 with hp | hp
      · have HF := Lib.hid (show rdAt s.data.toList 0 = ([], s.size - n', false) from by rw [← HG.out, rdAt_bad hl0 HD.out hp]; rfl)
        have HP := Lib.hid hp
        clear hp
        go_wp2_with fail
        refine (decode_as _ _ HBT.out HD).mono ?_
        rintro e w' ⟨rfl, rfl⟩
        go_wp2_with fail
        refine (lbyte_no _ HP).mono ?_
        rintro e w' ⟨rfl, rfl⟩
        go_wp2_with fail
        rw [HF.out]
        go_ret3
        refine ⟨.slice none 0 0, ?_, World.ownsRow_nil _ _ _ _, HW.out⟩
        rw [show (((s.size - n' : Nat) : Int)) = (s.size : Int) - n' from by omega]
        rfl
      · obtain ⟨b, hb⟩ : ∃ b, lByte p = b := ⟨_, rfl⟩
        have HBY := Lib.hid hb
        have hr := lByte_range p
        rw [hb] at hr hp
        have hb255 := hr.2
        have hk3 : k ≤ (n' : Int) := by rw [HL.out]; exact hk2
        have hk4 : 0 ≤ k := by omega
        have HF := Lib.hid (show glue (d ++ [byteOf b]) (rdAt (l'.drop k.toNat) (s.size - (n' - k.toNat))) = rdAt s.data.toList 0 from by
          rw [← HG.out, rdAt_good hl0 HD.out (by rw [hb]; exact hp), glue_glue, hb, show s.size - (n' - k.toNat) = s.size - n' + k.toNat from by omega])
        have HFR := Lib.hid (HBT.out.from_ (k := k.toNat) (by omega))
        have hz0 : w.heap.size + 1 ≤ wr.heap.size := by rw [← HZ.out]; exact hsz.out
        clear hb hr hk2
        go_wp2_with fail
        refine (decode_as _ _ HBT.out HD).mono ?_
        rintro e w' ⟨rfl, rfl⟩
        go_wp2_with fail
        refine (lbyte_yes _ HBY hp).mono ?_
        rintro e w' ⟨rfl, rfl⟩
        go_wp2_with (at_builtin; refine wpList_push rfl (.tmp 35) (.tmp 37) _ rfl (w.heap.size + 1) 5 _ 1 Try.underlying22 linfoByte rfl _ d.length (bytesV d) rfl wr wr.heap.size rfl _ rfl HO.out rfl hz0 (by omega) (by unfold maxLen; omega) ?_; intro A9 c9 w2 hown' hb2 hgrow; have HO' := Lib.hid hown'; have HB2 := Lib.hid (HBB.out.trans hb2); have HFR2 := Lib.hid (RowAt.below HFR.out hb2); clear hown' hb2 hgrow)
        go_roundw
        case rel => exact ⟨_, _, _, _, d ++ [byteOf b], rfl, HFR2.out, by rw [List.length_append, List.length_singleton]; omega, by omega, by omega, HF.out, lown_put hp hb255 HO'.out, HB2.out⟩
        case measure => simp only [lenOf]; omega
theorem lread_as {s : ByteArray} {b : List UInt8} {n : Nat} {ok : Bool} (w : World) (hm : s.size ≤ 100000) (hd : rdAt s.data.toList 0 = (b, n, ok)) :
    Calls Try.prog 24 #[.string s] w fun e w' => ∃ A c, e = .returned (.tuple #[.slice A b.length c, .int .i64 (n : Int), .bool ok]) ∧ BytesAt w' w'.heap.size A b.length c b ∧ Below w.heap.size w w' := by
  refine (lread_any s w hm).mono ?_
  rintro e w' ⟨v, rfl, hown, hb⟩
  rw [hd] at hown ⊢
  obtain ⟨A, c, rfl⟩ := own_form hown
  exact ⟨A, c, rfl, RowAt.of_own hown, hb⟩
end Go.Proofs.Ytdapcilhbclcnaa
