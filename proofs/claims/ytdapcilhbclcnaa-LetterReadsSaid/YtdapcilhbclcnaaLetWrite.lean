/- The walks of letter's Write and Read. -/
import Derived.Test.YtdapcilhbclcnaaLetWalk
import Derived.Test.YtdapcilhbclcnaaConv
import Derived.Test.YtdapcilhbclcnaaBuilder
import Derived.Test.YtdapcilhbclcnaaShelf
import Derived.Test.YtdapcilhbclcnaaUtfEncode
import Derived.Test.YtdapcilhbclcnaaUtfDecode
namespace Go.Proofs.Ytdapcilhbclcnaa
open Go.RowKit
set_option linter.unusedVariables false

theorem lencode_any (p : Int) (w : World) (h0 : 33 ≤ p) (h1 : p ≤ 323) :
    Calls Try.prog 34 #[.int .i64 p] w fun e w' => e = .returned (.tuple #[.slice (some ⟨w.heap.size, 0, none⟩) (encOf p).length (encOf p).length, .bool true]) ∧ BytesAt w' w'.heap.size (some ⟨w.heap.size, 0, none⟩) (encOf p).length (encOf p).length (encOf p) ∧ Below w.heap.size w w' := by
  have hp : isPoint p = true := by rw [isPoint_iff]; omega
  have fin : ∀ (cs : List Value), bytesV (encOf p) = cs → (Calls Try.prog 34 #[.int .i64 p] w fun e w' => e = .returned (.tuple #[.slice (some ⟨w.heap.size, 0, none⟩) cs.length cs.length, .bool true]) ∧ w.alloc (.cells cs.toArray 5) = w') →
      Calls Try.prog 34 #[.int .i64 p] w fun e w' => e = .returned (.tuple #[.slice (some ⟨w.heap.size, 0, none⟩) (encOf p).length (encOf p).length, .bool true]) ∧ BytesAt w' w'.heap.size (some ⟨w.heap.size, 0, none⟩) (encOf p).length (encOf p).length (encOf p) ∧ Below w.heap.size w w' := by
    intro cs hcs hcall
    subst hcs
    refine hcall.mono ?_
    rintro e w' ⟨rfl, rfl⟩
    rw [length_bytesV]
    refine ⟨rfl, ?_, (Below.refl _ _).alloc (Nat.le_refl _) _⟩
    have := new_bytes w (encOf p) (by have := encOf_len hp; omega)
    simpa using this
  by_cases h2 : p < 128
  · exact fin [.int .u8 p] (encOf_1 (by omega) h2) (encode_1 p w (by omega) h2)
  · exact fin [.int .u8 (192 + p / 64), .int .u8 (128 + p % 64)] (encOf_2 (by omega) (by omega)) (encode_2 p w (by omega) (by omega))
theorem lencode_as {p : Int} {m : List UInt8} {k : Nat} (w : World) (h0 : 33 ≤ p) (h1 : p ≤ 323) (hm : Hid (encOf p = m)) (hk : Hid (m.length = k)) :
    Calls Try.prog 34 #[.int .i64 p] w fun e w' => e = .returned (.tuple #[.slice (some ⟨w.heap.size, 0, none⟩) k k, .bool true]) ∧ BytesAt w' w'.heap.size (some ⟨w.heap.size, 0, none⟩) k k m ∧ Below w.heap.size w w' := by
  have := lencode_any p w h0 h1; rw [hm.out, hk.out] at this; exact this
theorem lown_below {B k n : Nat} {e : TypeId} {v : Value} {xs : List Value} {w w' : World} (h : w.ownsRow B e k v n xs) (hb : Below w.heap.size w w') : w'.ownsRow B e k v n xs :=
  h.kept (row := none) ⟨hb.os, hb.tape, hb.output, hb.size, fun i hi _ => hb.block i hi⟩ (by cases v.ownBlock <;> simp)
theorem Bld.below {B b : Nat} {l : List UInt8} {w w' : World} (h : Bld B b l w) (hb : Below w.heap.size w w') : Bld B b l w' := by
  rcases h with h | h
  · have hlt := h.lt
    obtain ⟨hB, v, hk, ho, hne⟩ := h
    exact .inl ⟨hB, v, (hb.block b hlt).trans hk, lown_below ho hb, hne⟩
  · have hlt := h.lt
    obtain ⟨hB, v, hk, ho, hne⟩ := h
    exact .inr ⟨hB, v, (hb.block b hlt).trans hk, lown_below ho hb, hne⟩
theorem Bld.lt {B b : Nat} {l : List UInt8} {w : World} (h : Bld B b l w) : b < w.heap.size := by
  rcases h with h | h <;> exact h.lt
theorem take_one {l : List UInt8} {k : Nat} (h : k < l.length) : l.take (k + 1) = l.take k ++ [l[k]] := List.take_succ_eq_append_getElem h

set_option maxHeartbeats 1000000 in
set_option maxRecDepth 100000 in
theorem lwrite_pos {c b off : Nat} {l : List UInt8} (w : World) (h : BytesAt w w.heap.size (some ⟨b, off, none⟩) l.length c l) (hb0 : b < w.heap.size) (hc : ∀ i (hi : i < l.length), w.cell? ⟨b, off + i, none⟩ = some (.int .u8 (l[i].toNat : Int))) (hm : l.length ≤ 100000) :
    Calls Try.prog 23 #[.slice (some ⟨b, off, none⟩) l.length c] w fun e w' => e = .returned (.string (strOf (wr l))) ∧ Below w.heap.size w w' := by
  have HC := Lib.hid hc
  clear hc
  have hn := h.2.1
  have hm2 := h.2.2.1
  unfold maxLen at hm2
  clear h
  go_enter Try.func23, Try.ntmps23
  go_wp2_with fail
  go_loopw [10] (fun i wr => ∃ k : Nat, k ≤ l.length ∧ i = .int .i64 k ∧ Bld w.heap.size w.heap.size (Go.Proofs.Ytdapcilhbclcnaa.wr (l.take k)) wr ∧ Below w.heap.size w wr) (fun i _ => l.length - (intOf i).toNat)
  case atStart => exact ⟨0, Nat.zero_le _, rfl, Bld.new _ _ (Nat.le_refl _), (Below.refl _ _).alloc (Nat.le_refl _) _⟩
  case round =>
    obtain ⟨k, hk, rfl, hbl, hbel⟩ := hrel
    have hsz := hbel.size
    have HBL := Lib.hid hbl
    have HBB := Lib.hid hbel
    clear hbl hbel
    by_cases hkx : k < l.length
    · have hk1 : (k : Int) < l.length := by omega
      have hcell : wr.cell? ⟨b, off + k, none⟩ = some (.int .u8 (l[k].toNat : Int)) := (HBB.out.cell (p := ⟨b, off + k, none⟩) hb0).trans (HC.out k hkx)
      have hx0 := u8_ge l[k]
      have hx1 := u8_le l[k]
      have hr := lOf_range hx0 hx1
      have HT := Lib.hid (show Go.Proofs.Ytdapcilhbclcnaa.wr (l.take (k + 1)) = Go.Proofs.Ytdapcilhbclcnaa.wr (l.take k) ++ encOf (lOf l[k].toNat) from by rw [take_one hkx, wr_app, wr_one])
      obtain ⟨p, hp⟩ : ∃ p, lOf (l[k].toNat : Int) = p := ⟨_, rfl⟩
      rw [hp] at hr HT
      have HP := Lib.hid hp
      have hp0 := hr.1
      have hp1 := hr.2.1
      obtain ⟨m, hmm⟩ : ∃ m, encOf p = m := ⟨_, rfl⟩
      rw [hmm] at HT
      have HM := Lib.hid hmm
      obtain ⟨q, hq⟩ : ∃ q, m.length = q := ⟨_, rfl⟩
      have HQ := Lib.hid hq
      have hq4 : q ≤ 4 := by rw [← hq, ← hmm]; exact (encOf_len (by rw [isPoint_iff]; omega)).2
      have hwl := wr_len (l.take k)
      have htl : (l.take k).length ≤ k := List.length_take_le _ _
      clear hp hr hmm hq
      go_wp2_with fail
      refine (lof_as _ hx0 hx1 HP).mono ?_
      rintro e w' ⟨rfl, rfl⟩
      go_wp2_with fail
      refine (lencode_as _ hp0 hp1 HM HQ).mono ?_
      rintro e w2 ⟨rfl, hby, hb2⟩
      have HB2 := Lib.hid (HBB.out.trans (hb2.mono hsz))
      have HBL2 := Lib.hid (HBL.out.below hb2)
      have HBY := Lib.hid hby
      have hz2 : w.heap.size ≤ w2.heap.size := HB2.out.size
      have HLT := Lib.hid HBL.out.lt
      clear hb2 hby
      go_wp2_with fail
      refine (write_any _ HBL2.out HBY.out (fun g off e => by injection e with e; injection e with e _; have := HLT.out; omega) (by rw [HQ.out]; omega) hz2).mono ?_
      rintro e w3 ⟨rfl, hbl3, hb3⟩
      rw [← HT.out] at hbl3
      have HBL3 := Lib.hid hbl3
      have HB3 := Lib.hid (HB2.out.trans hb3)
      clear hbl3 hb3
      go_wp2_with fail
      go_roundw
      case rel => exact ⟨k + 1, by omega, by go_num, HBL3.out, HB3.out⟩
      case measure => simp [intOf]; omega
    · obtain rfl : k = l.length := by omega
      have hk1 : ¬ (l.length : Int) < l.length := by omega
      have HT := Lib.hid (show l.take l.length = l from List.take_length)
      go_wp2_with fail
      refine (Try.Builder_String_any _ _ (Go.Proofs.Ytdapcilhbclcnaa.wr (l.take l.length)) _ HBL.out hsz).mono ?_
      rintro e w' ⟨rfl, hb⟩
      go_wp2_with fail
      go_ret
      exact ⟨by first | rfl | (rw [HT.out]; rfl), HBB.out.trans hb⟩
set_option maxHeartbeats 1000000 in
set_option maxRecDepth 100000 in
theorem lwrite_nil {c : Nat} {A : Option Addr} (w : World) :
    Calls Try.prog 23 #[.slice A 0 c] w fun e w' => e = .returned (.string (strOf (wr []))) ∧ Below w.heap.size w w' := by
  go_enter Try.func23, Try.ntmps23
  go_wp2_with fail
  go_loopw [10] (fun i wr => i = .int .i64 0 ∧ Bld w.heap.size w.heap.size [] wr ∧ Below w.heap.size w wr) (fun i _ => 0)
  case atStart => exact ⟨rfl, Bld.new _ _ (Nat.le_refl _), (Below.refl _ _).alloc (Nat.le_refl _) _⟩
  case round =>
    obtain ⟨rfl, hbl, hbel⟩ := hrel
    have hsz := hbel.size
    have HBL := Lib.hid hbl
    have HBB := Lib.hid hbel
    clear hbl hbel
    go_wp2_with fail
    refine (Try.Builder_String_any _ _ [] _ HBL.out hsz).mono ?_
    rintro e w' ⟨rfl, hb⟩
    go_wp2_with fail
    go_ret
    exact ⟨rfl, HBB.out.trans hb⟩
theorem lwrite_any {n c : Nat} {A : Option Addr} {l : List UInt8} (w : World) (h : BytesAt w w.heap.size A n c l) (hm : n ≤ 100000) :
    Calls Try.prog 23 #[.slice A n c] w fun e w' => e = .returned (.string (strOf (wr l))) ∧ Below w.heap.size w w' := by
  obtain rfl := h.len
  by_cases h0 : 0 < l.length
  · obtain ⟨b, off, rfl, hb, hc⟩ := h.cells h0
    exact lwrite_pos w h hb hc hm
  · obtain rfl : l = [] := List.eq_nil_of_length_eq_zero (by omega)
    exact lwrite_nil w
theorem lwrite_as {n c : Nat} {A : Option Addr} {l : List UInt8} {S : ByteArray} (w : World) (h : BytesAt w w.heap.size A n c l) (hm : n ≤ 100000) (hs : Hid (strOf (wr l) = S)) :
    Calls Try.prog 23 #[.slice A n c] w fun e w' => e = .returned (.string S) ∧ Below w.heap.size w w' := by
  have := lwrite_any w h hm; rw [hs.out] at this; exact this

theorem linfoByte : (Try.prog.info? 5).map (fun i => (i.zero, i.size, i.bytes)) = some (some (.int .u8 0), 1, 1) := by kernel_rfl
theorem lown_put {w : World} {B0 : Nat} {v : Value} {d : List UInt8} {b : Int} (h0 : 0 ≤ b) (h1 : b ≤ 255) (h : w.ownsRow B0 5 1 v (d.length + 1) (bytesV d ++ [.int .u8 b])) :
    w.ownsRow B0 5 1 v (d ++ [byteOf b]).length (bytesV (d ++ [byteOf b])) := by
  rw [List.length_append, List.length_singleton]
  unfold bytesV at h ⊢
  rw [List.map_append, List.map_singleton, byteOf_toNat h0 h1]
  exact h
theorem glue_val {d : List UInt8} {x y : List UInt8 × Nat × Bool} {n : Nat} (h : glue d ([], n, false) = x) : x = ([], n, false) := by rw [← h]; rfl

set_option maxHeartbeats 1000000 in
set_option maxRecDepth 100000 in
theorem lread_any (s : ByteArray) (w : World) (hm : s.size ≤ 100000) :
    Calls Try.prog 24 #[.string s] w fun e w' => ∃ v, e = .returned (.tuple #[v, .int .i64 ((rdAt s.data.toList 0).2.1 : Int), .bool (rdAt s.data.toList 0).2.2]) ∧
      w'.ownsRow w.heap.size 5 1 v (rdAt s.data.toList 0).1.length (bytesV (rdAt s.data.toList 0).1) ∧ Below w.heap.size w w' := by
  obtain ⟨c, w1, hcv, hbt, hz1, hb1⟩ := run_bytes_new (P := Try.prog) w 9 22 5 s Try.underlying9 Try.underlying22 Try.underlying5 (by unfold maxLen; omega)
  have hcc := hbt.2.1
  have hmm := hbt.2.2.1
  unfold maxLen at hmm
  have HT := Lib.hid hbt
  have HZ := Lib.hid hz1
  have HB1 := Lib.hid hb1
  clear hbt hz1 hb1
  go_enter Try.func24, Try.ntmps24
  go_wp2_with fail
  go_loopw [5, 6] (fun v r wr => ∃ (A' : Option Addr) (n' c' : Nat) (l' d : List UInt8), r = .slice A' n' c' ∧ BytesAt wr (w.heap.size + 1) A' n' c' l' ∧ n' + d.length ≤ s.size ∧ c' ≤ c ∧ n' ≤ c' ∧ Hid (glue d (rdAt l' (s.size - n')) = rdAt s.data.toList 0) ∧ wr.ownsRow (w.heap.size + 1) 5 1 v d.length (bytesV d) ∧ Below (w.heap.size + 1) w1 wr) (fun _ r _ => lenOf r)
  case atStart =>
    refine ⟨_, _, _, _, [], rfl, HT.out, Nat.le_refl _, Nat.le_refl _, hcc, ?_, World.ownsRow_nil _ _ _ _, Below.refl _ _⟩
    show glue _ _ = _
    rw [Nat.sub_self, glue_nil]
  case round =>
    obtain ⟨A', n', c', l', d, rfl, hbt, hnd, hc1, hc2, HG, hown, hbel⟩ := hrel
    have HBT := Lib.hid hbt
    have hlen := hbt.len
    have HL := Lib.hid hlen
    have HO := Lib.hid hown
    have HBB := Lib.hid hbel
    have hsz := Lib.hid hbel.size
    have HW := Lib.hid (show Below w.heap.size w wr from HB1.out.trans (hbel.mono (by omega)))
    clear hbt hown hbel
    by_cases hl : n' = 0
    · subst hl
      have HF := Lib.hid (show rdAt s.data.toList 0 = (d, 0, true) from by rw [← HG.out, List.eq_nil_of_length_eq_zero hlen.symm, rdAt_nil]; simp [glue])
      clear hlen hcv
      go_wp2_with fail
      rw [HF.out]
      obtain ⟨A9, c9, rfl⟩ := own_form HO.out
      go_ret3
      refine ⟨_, rfl, ?_, HW.out⟩
      exact ⟨HO.out.1, HO.out.2.imp id fun ⟨g, cap, cur, h1, h2, h3⟩ => ⟨g, cap, cur, h1, by omega, h3⟩⟩
    · have hl1 : 0 < (n' : Int) := by omega
      obtain ⟨p, k, more, hd⟩ := dec_ex l' true
      have HD := Lib.hid hd
      have hl0 : 0 < l'.length := by omega
      clear hd hlen hcv
      rcases dec_step hl0 HD.out with ⟨_, h2, _⟩ | ⟨rfl, hk1, hk2, _, _⟩
      · cases h2
      rcases Int.lt_or_le (lByte p) 0 with hp | hp
      · have HF := Lib.hid (show rdAt s.data.toList 0 = ([], s.size - n', false) from by rw [← HG.out, rdAt_bad hl0 HD.out hp]; rfl)
        have HP := Lib.hid hp
        clear hp
        go_wp2_with fail
        refine (decode_as _ _ HBT.out HD).mono ?_
        rintro e w' ⟨rfl, rfl⟩
        go_wp2_with fail
        refine (lbyte_no _ HP).mono ?_
        rintro e w' ⟨rfl, rfl⟩
        go_wp2_with fail
        rw [HF.out]
        go_ret3
        refine ⟨.slice none 0 0, ?_, World.ownsRow_nil _ _ _ _, HW.out⟩
        rw [show (((s.size - n' : Nat) : Int)) = (s.size : Int) - n' from by omega]
        rfl
      · obtain ⟨b, hb⟩ : ∃ b, lByte p = b := ⟨_, rfl⟩
        have HBY := Lib.hid hb
        have hr := lByte_range p
        rw [hb] at hr hp
        have hb255 := hr.2
        have hk3 : k ≤ (n' : Int) := by rw [HL.out]; exact hk2
        have hk4 : 0 ≤ k := by omega
        have HF := Lib.hid (show glue (d ++ [byteOf b]) (rdAt (l'.drop k.toNat) (s.size - (n' - k.toNat))) = rdAt s.data.toList 0 from by
          rw [← HG.out, rdAt_good hl0 HD.out (by rw [hb]; exact hp), glue_glue, hb, show s.size - (n' - k.toNat) = s.size - n' + k.toNat from by omega])
        have HFR := Lib.hid (HBT.out.from_ (k := k.toNat) (by omega))
        have hz0 : w.heap.size + 1 ≤ wr.heap.size := by rw [← HZ.out]; exact hsz.out
        clear hb hr hk2
        go_wp2_with fail
        refine (decode_as _ _ HBT.out HD).mono ?_
        rintro e w' ⟨rfl, rfl⟩
        go_wp2_with fail
        refine (lbyte_yes _ HBY hp).mono ?_
        rintro e w' ⟨rfl, rfl⟩
        go_wp2_with (at_builtin; refine wpList_push rfl (.tmp 35) (.tmp 37) _ rfl (w.heap.size + 1) 5 _ 1 Try.underlying22 linfoByte rfl _ d.length (bytesV d) rfl wr wr.heap.size rfl _ rfl HO.out rfl hz0 (by omega) (by unfold maxLen; omega) ?_; intro A9 c9 w2 hown' hb2 hgrow; have HO' := Lib.hid hown'; have HB2 := Lib.hid (HBB.out.trans hb2); have HFR2 := Lib.hid (RowAt.below HFR.out hb2); clear hown' hb2 hgrow)
        go_roundw
        case rel => exact ⟨_, _, _, _, d ++ [byteOf b], rfl, HFR2.out, by rw [List.length_append, List.length_singleton]; omega, by omega, by omega, HF.out, lown_put hp hb255 HO'.out, HB2.out⟩
        case measure => simp only [lenOf]; omega
theorem lread_as {s : ByteArray} {b : List UInt8} {n : Nat} {ok : Bool} (w : World) (hm : s.size ≤ 100000) (hd : rdAt s.data.toList 0 = (b, n, ok)) :
    Calls Try.prog 24 #[.string s] w fun e w' => ∃ A c, e = .returned (.tuple #[.slice A b.length c, .int .i64 (n : Int), .bool ok]) ∧ BytesAt w' w'.heap.size A b.length c b ∧ Below w.heap.size w w' := by
  refine (lread_any s w hm).mono ?_
  rintro e w' ⟨v, rfl, hown, hb⟩
  rw [hd] at hown ⊢
  obtain ⟨A, c, rfl⟩ := own_form hown
  exact ⟨A, c, rfl, RowAt.of_own hown, hb⟩
end Go.Proofs.Ytdapcilhbclcnaa
