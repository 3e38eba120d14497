/- The walks of utf.tail and utf.Encode. -/
import Derived.Test.YtefhifmilmedhaaDoorUtfSpec
import Derived.Test.YtefhifmilmedhaaDoorProg
namespace Go.Proofs.YtefhifmilmedhaaDoor
open Go.RowKit

set_option maxHeartbeats 400000 in
theorem tail_any (n : Int) (w : World) (h0 : 0 ≤ n) (h1 : n ≤ 9223372036854775807) :
    Calls Tryd.prog 78 #[.int .i64 n] w fun e w' => e = .returned (.int .u8 (128 + n % 64)) ∧ w = w' := by
  have ho := or_128 (n % 64) (by omega) (by omega)
  have ha := and_63 n h0 h1
  go_enter Tryd.func78, Tryd.ntmps78
  go_wp2
  go_ret
  exact ⟨rfl, rfl⟩

set_option maxHeartbeats 400000 in
theorem encode_1 (p : Int) (w : World) (h0 : 0 ≤ p) (h1 : p < 128) :
    Calls Tryd.prog 64 #[.int .i64 p] w fun e w' => e = .returned (.tuple #[.slice (some ⟨w.heap.size, 0, none⟩) 1 1, .bool true]) ∧ w.alloc (.cells #[.int .u8 (p)] 5) = w' := by
  have hc : ¬ 55296 ≤ p := by omega
  go_enter Tryd.func64, Tryd.ntmps64
  go_wp2_with (go_at_call 78; refine (tail_any _ _ (by omega) (by omega)).mono ?_; rintro e w' ⟨rfl, rfl⟩)
  go_ret2
  exact ⟨rfl, rfl⟩

set_option maxHeartbeats 400000 in
theorem encode_2 (p : Int) (w : World) (h0 : 128 ≤ p) (h1 : p < 2048) :
    Calls Tryd.prog 64 #[.int .i64 p] w fun e w' => e = .returned (.tuple #[.slice (some ⟨w.heap.size, 0, none⟩) 2 2, .bool true]) ∧ w.alloc (.cells #[.int .u8 (192 + p / 64), .int .u8 (128 + p % 64)] 5) = w' := by
  have ho := or_192 (p / 64) (by omega) (by omega)
  go_enter Tryd.func64, Tryd.ntmps64
  go_wp2_with (go_at_call 78; refine (tail_any _ _ (by omega) (by omega)).mono ?_; rintro e w' ⟨rfl, rfl⟩)
  go_ret2
  exact ⟨rfl, rfl⟩

set_option maxHeartbeats 400000 in
theorem encode_3a (p : Int) (w : World) (h0 : 2048 ≤ p) (h1 : p < 55296) :
    Calls Tryd.prog 64 #[.int .i64 p] w fun e w' => e = .returned (.tuple #[.slice (some ⟨w.heap.size, 0, none⟩) 3 3, .bool true]) ∧ w.alloc (.cells #[.int .u8 (224 + p / 4096), .int .u8 (128 + p / 64 % 64), .int .u8 (128 + p % 64)] 5) = w' := by
  have ho := or_224 (p / 4096) (by omega) (by omega)
  go_enter Tryd.func64, Tryd.ntmps64
  go_wp2_with (go_at_call 78; refine (tail_any _ _ (by omega) (by omega)).mono ?_; rintro e w' ⟨rfl, rfl⟩)
  go_ret2
  exact ⟨rfl, rfl⟩

set_option maxHeartbeats 400000 in
theorem encode_3b (p : Int) (w : World) (h0 : 57343 < p) (h1 : p < 65536) :
    Calls Tryd.prog 64 #[.int .i64 p] w fun e w' => e = .returned (.tuple #[.slice (some ⟨w.heap.size, 0, none⟩) 3 3, .bool true]) ∧ w.alloc (.cells #[.int .u8 (224 + p / 4096), .int .u8 (128 + p / 64 % 64), .int .u8 (128 + p % 64)] 5) = w' := by
  have ho := or_224 (p / 4096) (by omega) (by omega)
  go_enter Tryd.func64, Tryd.ntmps64
  go_wp2_with (go_at_call 78; refine (tail_any _ _ (by omega) (by omega)).mono ?_; rintro e w' ⟨rfl, rfl⟩)
  go_ret2
  exact ⟨rfl, rfl⟩

set_option maxHeartbeats 400000 in
theorem encode_4 (p : Int) (w : World) (h0 : 65536 ≤ p) (h1 : p ≤ 1114111) :
    Calls Tryd.prog 64 #[.int .i64 p] w fun e w' => e = .returned (.tuple #[.slice (some ⟨w.heap.size, 0, none⟩) 4 4, .bool true]) ∧ w.alloc (.cells #[.int .u8 (240 + p / 262144), .int .u8 (128 + p / 4096 % 64), .int .u8 (128 + p / 64 % 64), .int .u8 (128 + p % 64)] 5) = w' := by
  have ho := or_240 (p / 262144) (by omega) (by omega)
  go_enter Tryd.func64, Tryd.ntmps64
  go_wp2_with (go_at_call 78; refine (tail_any _ _ (by omega) (by omega)).mono ?_; rintro e w' ⟨rfl, rfl⟩)
  go_ret2
  exact ⟨rfl, rfl⟩

set_option maxHeartbeats 400000 in
theorem encode_no (p : Int) (w : World) (h : isPoint p = false) :
    Calls Tryd.prog 64 #[.int .i64 p] w fun e w' => e = .returned (.tuple #[.slice none 0 0, .bool false]) ∧ w = w' := by
  rw [isPoint_no] at h
  rcases h with h | h | ⟨h1, h2⟩
  all_goals
    go_enter Tryd.func64, Tryd.ntmps64
    go_wp2_with fail
    go_ret2
    exact ⟨rfl, rfl⟩

theorem new_bytes (w : World) (l : List UInt8) (hl : l.length ≤ 2000) : BytesAt (w.alloc (.cells (bytesV l).toArray 5)) (w.heap.size + 1) (some ⟨w.heap.size, 0, none⟩) l.length l.length l := by
  refine ⟨by rw [length_bytesV, Nat.mul_one], Nat.le_refl _, by unfold maxLen; omega, fun _ => ⟨_, _, rfl, by omega, fun j u hu => ?_⟩⟩
  rw [Nat.zero_add, World.cell?_alloc_at _ _ _ _ rfl]
  simpa using hu
/-- What Encode answers of any number: its bytes in a new block, or none. -/
theorem encode_any (p : Int) (w : World) :
    Calls Tryd.prog 64 #[.int .i64 p] w fun e w' => ∃ A, e = .returned (.tuple #[.slice A (encOf p).length (encOf p).length, .bool (isPoint p)]) ∧ BytesAt w' w'.heap.size A (encOf p).length (encOf p).length (encOf p) ∧ Below w.heap.size w w' := by
  rcases hp : isPoint p with _ | _
  · refine (encode_no p w hp).mono ?_
    rintro e w' ⟨rfl, rfl⟩
    have : encOf p = [] := by simp [encOf, hp]
    rw [this]
    exact ⟨none, rfl, RowAt.nil, Below.refl _ _⟩
  · have hq := isPoint_iff.1 hp
    have fin : ∀ (cs : List Value), bytesV (encOf p) = cs → (Calls Tryd.prog 64 #[.int .i64 p] w fun e w' => e = .returned (.tuple #[.slice (some ⟨w.heap.size, 0, none⟩) cs.length cs.length, .bool true]) ∧ w.alloc (.cells cs.toArray 5) = w') →
        Calls Tryd.prog 64 #[.int .i64 p] w fun e w' => ∃ A, e = .returned (.tuple #[.slice A (encOf p).length (encOf p).length, .bool true]) ∧ BytesAt w' w'.heap.size A (encOf p).length (encOf p).length (encOf p) ∧ Below w.heap.size w w' := by
      intro cs hcs hcall
      subst hcs
      refine hcall.mono ?_
      rintro e w' ⟨rfl, rfl⟩
      rw [length_bytesV]
      refine ⟨_, rfl, ?_, (Below.refl _ _).alloc (Nat.le_refl _) _⟩
      have := new_bytes w (encOf p) (by unfold encOf; (repeat' split) <;> simp)
      simpa using this
    by_cases h1 : p < 128
    · refine fin [.int .u8 p] ?_ (encode_1 p w hq.1 h1)
      simp [encOf, hp, h1, bytesV, byteOf_toNat hq.1 (by omega)]
    by_cases h2 : p < 2048
    · refine fin [.int .u8 (192 + p / 64), .int .u8 (128 + p % 64)] ?_ (encode_2 p w (by omega) h2)
      simp [encOf, hp, h1, h2, bytesV]
      exact ⟨byteOf_toNat (by omega) (by omega), byteOf_toNat (by omega) (by omega)⟩
    by_cases h3 : p < 65536
    · have e : bytesV (encOf p) = [.int .u8 (224 + p / 4096), .int .u8 (128 + p / 64 % 64), .int .u8 (128 + p % 64)] := by
        simp [encOf, hp, h1, h2, h3, bytesV]
        exact ⟨byteOf_toNat (by omega) (by omega), byteOf_toNat (by omega) (by omega), byteOf_toNat (by omega) (by omega)⟩
      rcases hq.2.2 with h4 | h4
      · exact fin _ e (encode_3a p w (by omega) h4)
      · exact fin _ e (encode_3b p w h4 h3)
    · refine fin [.int .u8 (240 + p / 262144), .int .u8 (128 + p / 4096 % 64), .int .u8 (128 + p / 64 % 64), .int .u8 (128 + p % 64)] ?_ (encode_4 p w (by omega) hq.2.1)
      simp [encOf, hp, h1, h2, h3, bytesV]
      exact ⟨byteOf_toNat (by omega) (by omega), byteOf_toNat (by omega) (by omega), byteOf_toNat (by omega) (by omega), byteOf_toNat (by omega) (by omega)⟩
theorem encode_as {p : Int} {m : List UInt8} {k : Nat} {ok : Bool} (w : World) (hm : Hid (encOf p = m)) (hk : Hid (m.length = k)) (ho : Hid (isPoint p = ok)) :
    Calls Tryd.prog 64 #[.int .i64 p] w fun e w' => ∃ A, e = .returned (.tuple #[.slice A k k, .bool ok]) ∧ BytesAt w' w'.heap.size A k k m ∧ Below w.heap.size w w' := by
  refine (encode_any p w).mono ?_
  rintro e w' ⟨A, he, hb, hw⟩
  rw [hm.out, hk.out, ho.out] at he
  rw [hm.out, hk.out] at hb
  exact ⟨A, he, hb, hw⟩
end Go.Proofs.YtefhifmilmedhaaDoor
