/- The walk of letter's Write. -/
import Derived.Test.YtdapcilhbclcnaaLetLaw
import Derived.Test.YtdapcilhbclcnaaProg
import Derived.Deep.QuietTactic
import Derived.BigQuiet
import Derived.Test.YtdapcilhbclcnaaLetRead
import Derived.Test.YtdapcilhbclcnaaBuilder
import Derived.Test.YtdapcilhbclcnaaShelf
import Derived.Test.YtdapcilhbclcnaaUtfEncode
/- The walk of letter.Of. -/
namespace Go.Proofs.Ytdapcilhbclcnaa
open Go.RowKit
set_option linter.unusedVariables false

set_option maxHeartbeats 400000 in
theorem lof_any (b : Int) (w : World) (h0 : 0 ≤ b) (h1 : b ≤ 255) : Calls Try.prog 19 #[.int .u8 b] w fun e w' => e = .returned (.int .i64 (lOf b)) ∧ w = w' := by
  have hd : b < 33 ∨ (33 ≤ b ∧ b < 127) ∨ (127 ≤ b ∧ b < 161) ∨ (161 ≤ b ∧ b < 173) ∨ b = 173 ∨ 173 < b := by omega
  rcases hd with h | ⟨h, h'⟩ | ⟨h, h'⟩ | ⟨h, h'⟩ | rfl | h
  rotate_left 4
  · go_enter Try.func19, Try.ntmps19
    go_wp2
    go_ret
    exact ⟨rfl, rfl⟩
  all_goals
    have e1 : (b == 173) = false := beq_no (by omega)
    go_enter Try.func19, Try.ntmps19
    go_wp2
    go_ret
    refine ⟨ret_int ?_, rfl⟩
    unfold lOf
    (repeat' split) <;> omega
theorem lof_as {b p : Int} (w : World) (h0 : 0 ≤ b) (h1 : b ≤ 255) (h : Hid (lOf b = p)) : Calls Try.prog 19 #[.int .u8 b] w fun e w' => e = .returned (.int .i64 p) ∧ w = w' := by
  have := lof_any b w h0 h1; rw [h.out] at this; exact this

end Go.Proofs.Ytdapcilhbclcnaa
namespace Go.Proofs.Ytdapcilhbclcnaa
open Go.RowKit
set_option linter.unusedVariables false

theorem lencode_any (p : Int) (w : World) (h0 : 33 ≤ p) (h1 : p ≤ 323) :
    Calls Try.prog 34 #[.int .i64 p] w fun e w' => e = .returned (.tuple #[.slice (some ⟨w.heap.size, 0, none⟩) (encOf p).length (encOf p).length, .bool true]) ∧ BytesAt w' w'.heap.size (some ⟨w.heap.size, 0, none⟩) (encOf p).length (encOf p).length (encOf p) ∧ Below w.heap.size w w' := by
  have hp : isPoint p = true := by rw [isPoint_iff]; omega
  have fin : ∀ (cs : List Value), bytesV (encOf p) = cs → (Calls Try.prog 34 #[.int .i64 p] w fun e w' => e = .returned (.tuple #[.slice (some ⟨w.heap.size, 0, none⟩) cs.length cs.length, .bool true]) ∧ w.alloc (.cells cs.toArray 5) = w') →
      Calls Try.prog 34 #[.int .i64 p] w fun e w' => e = .returned (.tuple #[.slice (some ⟨w.heap.size, 0, none⟩) (encOf p).length (encOf p).length, .bool true]) ∧ BytesAt w' w'.heap.size (some ⟨w.heap.size, 0, none⟩) (encOf p).length (encOf p).length (encOf p) ∧ Below w.heap.size w w' := by
    intro cs hcs hcall
    subst hcs
    refine hcall.mono ?_
    rintro e w' ⟨rfl, rfl⟩
    rw [length_bytesV]
    refine ⟨rfl, ?_, (Below.refl _ _).alloc (Nat.le_refl _) _⟩
    have := new_bytes w (encOf p) (by have := encOf_len hp; omega)
    simpa using this
  by_cases h2 : p < 128
  · exact fin [.int .u8 p] (encOf_1 (by omega) h2) (encode_1 p w (by omega) h2)
  · exact fin [.int .u8 (192 + p / 64), .int .u8 (128 + p % 64)] (encOf_2 (by omega) (by omega)) (encode_2 p w (by omega) (by omega))
theorem lencode_as {p : Int} {m : List UInt8} {k : Nat} (w : World) (h0 : 33 ≤ p) (h1 : p ≤ 323) (hm : Hid (encOf p = m)) (hk : Hid (m.length = k)) :
    Calls Try.prog 34 #[.int .i64 p] w fun e w' => e = .returned (.tuple #[.slice (some ⟨w.heap.size, 0, none⟩) k k, .bool true]) ∧ BytesAt w' w'.heap.size (some ⟨w.heap.size, 0, none⟩) k k m ∧ Below w.heap.size w w' := by
  have := lencode_any p w h0 h1; rw [hm.out, hk.out] at this; exact this
theorem Bld.below {B b : Nat} {l : List UInt8} {w w' : World} (h : Bld B b l w) (hb : Below w.heap.size w w') : Bld B b l w' := by
  rcases h with h | h
  · have hlt := h.lt
    obtain ⟨hB, v, hk, ho, hne⟩ := h
    exact .inl ⟨hB, v, (hb.block b hlt).trans hk, lown_below ho hb, hne⟩
  · have hlt := h.lt
    obtain ⟨hB, v, hk, ho, hne⟩ := h
    exact .inr ⟨hB, v, (hb.block b hlt).trans hk, lown_below ho hb, hne⟩
theorem Bld.lt {B b : Nat} {l : List UInt8} {w : World} (h : Bld B b l w) : b < w.heap.size := by
  rcases h with h | h <;> exact h.lt
theorem take_one {l : List UInt8} {k : Nat} (h : k < l.length) : l.take (k + 1) = l.take k ++ [l[k]] := List.take_succ_eq_append_getElem h

set_option maxHeartbeats 1000000 in
set_option maxRecDepth 100000 in
theorem lwrite_pos {c b off : Nat} {l : List UInt8} (w : World) (h : BytesAt w w.heap.size (some ⟨b, off, none⟩) l.length c l) (hb0 : b < w.heap.size) (hc : ∀ i (hi : i < l.length), w.cell? ⟨b, off + i, none⟩ = some (.int .u8 (l[i].toNat : Int))) (hm : l.length ≤ 100000) :
    Calls Try.prog 23 #[.slice (some ⟨b, off, none⟩) l.length c] w fun e w' => e = .returned (.string (strOf (wr l))) ∧ Below w.heap.size w w' := by
  have HC := Lib.hid hc
  clear hc
  have hn := h.2.1
  have hm2 := h.2.2.1
  unfold maxLen at hm2
  clear h
  go_enter Try.func23, Try.ntmps23
  go_wp2_with fail
  go_loopw [10] (fun i wr => ∃ k : Nat, k ≤ l.length ∧ i = .int .i64 k ∧ Bld w.heap.size w.heap.size (Go.Proofs.Ytdapcilhbclcnaa.wr (l.take k)) wr ∧ Below w.heap.size w wr) (fun i _ => l.length - (intOf i).toNat)
  case atStart => exact ⟨0, Nat.zero_le _, rfl, Bld.new _ _ (Nat.le_refl _), (Below.refl _ _).alloc (Nat.le_refl _) _⟩
  case round =>
    obtain ⟨k, hk, rfl, hbl, hbel⟩ := hrel
    have hsz := hbel.size
    have HBL := Lib.hid hbl
    have HBB := Lib.hid hbel
    clear hbl hbel
    by_cases hkx : k < l.length
    · have hk1 : (k : Int) < l.length := by omega
      have hcell : wr.cell? ⟨b, off + k, none⟩ = some (.int .u8 (l[k].toNat : Int)) := (HBB.out.cell (p := ⟨b, off + k, none⟩) hb0).trans (HC.out k hkx)
      have hx0 := u8_ge l[k]
      have hx1 := u8_le l[k]
      have hr := lOf_range hx0 hx1
      have HT := Lib.hid (show Go.Proofs.Ytdapcilhbclcnaa.wr (l.take (k + 1)) = Go.Proofs.Ytdapcilhbclcnaa.wr (l.take k) ++ encOf (lOf l[k].toNat) from by rw [take_one hkx, wr_app, wr_one])
      obtain ⟨p, hp⟩ : ∃ p, lOf (l[k].toNat : Int) = p := ⟨_, rfl⟩
      rw [hp] at hr HT
      have HP := Lib.hid hp
      have hp0 := hr.1
      have hp1 := hr.2.1
      obtain ⟨m, hmm⟩ : ∃ m, encOf p = m := ⟨_, rfl⟩
      rw [hmm] at HT
      have HM := Lib.hid hmm
      obtain ⟨q, hq⟩ : ∃ q, m.length = q := ⟨_, rfl⟩
      have HQ := Lib.hid hq
      have hq4 : q ≤ 4 := by rw [← hq, ← hmm]; exact (encOf_len (by rw [isPoint_iff]; omega)).2
      have hwl := wr_len (l.take k)
      have htl : (l.take k).length ≤ k := List.length_take_le _ _
      clear hp hr hmm hq
      go_wp2_with fail
      refine (lof_as _ hx0 hx1 HP).mono ?_
      rintro e w' ⟨rfl, rfl⟩
      go_wp2_with fail
      refine (lencode_as _ hp0 hp1 HM HQ).mono ?_
      rintro e w2 ⟨rfl, hby, hb2⟩
      have HB2 := Lib.hid (HBB.out.trans (hb2.mono hsz))
      have HBL2 := Lib.hid (HBL.out.below hb2)
      have HBY := Lib.hid hby
      have hz2 : w.heap.size ≤ w2.heap.size := HB2.out.size
      have HLT := Lib.hid HBL.out.lt
      clear hb2 hby
      go_wp2_with fail
      refine (write_any _ HBL2.out HBY.out (fun g off e => by injection e with e; injection e with e _; have := HLT.out; omega) (by rw [HQ.out]; omega) hz2).mono ?_
      rintro e w3 ⟨rfl, hbl3, hb3⟩
      rw [← HT.out] at hbl3
      have HBL3 := Lib.hid hbl3
      have HB3 := Lib.hid (HB2.out.trans hb3)
      clear hbl3 hb3
      go_wp2_with fail
      go_roundw
      case rel => exact ⟨k + 1, by omega, by go_num, HBL3.out, HB3.out⟩
      case measure => simp [intOf]; omega
    · obtain rfl : k = l.length := by omega
      have hk1 : ¬ (l.length : Int) < l.length := by omega
      have HT := Lib.hid (show l.take l.length = l from List.take_length)
      go_wp2_with fail
      refine (Try.Builder_String_any _ _ (Go.Proofs.Ytdapcilhbclcnaa.wr (l.take l.length)) _ HBL.out hsz).mono ?_
      rintro e w' ⟨rfl, hb⟩
      go_wp2_with fail
      go_ret
      exact ⟨by first | rfl | (rw [HT.out]; rfl), HBB.out.trans hb⟩
set_option maxHeartbeats 1000000 in
set_option maxRecDepth 100000 in
theorem lwrite_nil {c : Nat} {A : Option Addr} (w : World) :
    Calls Try.prog 23 #[.slice A 0 c] w fun e w' => e = .returned (.string (strOf (wr []))) ∧ Below w.heap.size w w' := by
  go_enter Try.func23, Try.ntmps23
  go_wp2_with fail
  go_loopw [10] (fun i wr => i = .int .i64 0 ∧ Bld w.heap.size w.heap.size [] wr ∧ Below w.heap.size w wr) (fun i _ => 0)
  case atStart => exact ⟨rfl, Bld.new _ _ (Nat.le_refl _), (Below.refl _ _).alloc (Nat.le_refl _) _⟩
  case round =>
    obtain ⟨rfl, hbl, hbel⟩ := hrel
    have hsz := hbel.size
    have HBL := Lib.hid hbl
    have HBB := Lib.hid hbel
    clear hbl hbel
    go_wp2_with fail
    refine (Try.Builder_String_any _ _ [] _ HBL.out hsz).mono ?_
    rintro e w' ⟨rfl, hb⟩
    go_wp2_with fail
    go_ret
    exact ⟨rfl, HBB.out.trans hb⟩
theorem lwrite_any {n c : Nat} {A : Option Addr} {l : List UInt8} (w : World) (h : BytesAt w w.heap.size A n c l) (hm : n ≤ 100000) :
    Calls Try.prog 23 #[.slice A n c] w fun e w' => e = .returned (.string (strOf (wr l))) ∧ Below w.heap.size w w' := by
  obtain rfl := h.len
  by_cases h0 : 0 < l.length
  · obtain ⟨b, off, rfl, hb, hc⟩ := h.cells h0
    exact lwrite_pos w h hb hc hm
  · obtain rfl : l = [] := List.eq_nil_of_length_eq_zero (by omega)
    exact lwrite_nil w
theorem lwrite_as {n c : Nat} {A : Option Addr} {l : List UInt8} {S : ByteArray} (w : World) (h : BytesAt w w.heap.size A n c l) (hm : n ≤ 100000) (hs : Hid (strOf (wr l) = S)) :
    Calls Try.prog 23 #[.slice A n c] w fun e w' => e = .returned (.string S) ∧ Below w.heap.size w w' := by
  have := lwrite_any w h hm; rw [hs.out] at this; exact this
end Go.Proofs.Ytdapcilhbclcnaa
