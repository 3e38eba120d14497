/- The walk of base64's Encode. -/
import Derived.Test.YtefhifmilmedhaaDoorB64Read
import Derived.Test.YtefhifmilmedhaaDoorBuilder
import Derived.Laws.CopyOwn
namespace Go.Proofs.YtefhifmilmedhaaDoor
open Go.RowKit

/-- The k-th sign of a group of n bytes. -/
def chunkAt (n x y z k : Nat) : UInt8 := if n < k then 61 else if k = 0 then sgn (x / 4) else if k = 1 then sgn (x % 4 * 16 + y / 16) else if k = 2 then sgn (y % 16 * 4 + z / 64) else sgn (z % 64)
def chunk (n x y z : Nat) : List UInt8 := [chunkAt n x y z 0, chunkAt n x y z 1, chunkAt n x y z 2, chunkAt n x y z 3]
theorem chunk_succ {n x y z k : Nat} (hk : k < 4) : (chunk n x y z).take (k + 1) = (chunk n x y z).take k ++ [chunkAt n x y z k] := by
  have h : k = 0 ∨ k = 1 ∨ k = 2 ∨ k = 3 := by omega
  rcases h with rfl | rfl | rfl | rfl <;> rfl
theorem enc_chunk {l : List UInt8} (h : 0 < l.length) : ∃ x y z : UInt8, splice [.int .u8 0, .int .u8 0, .int .u8 0] 0 (bytesV (l.take 3)) = [.int .u8 (x.toNat : Int), .int .u8 (y.toNat : Int), .int .u8 (z.toNat : Int)] ∧
    enc64 l = chunk (min l.length 3) x.toNat y.toNat z.toNat ++ enc64 (l.drop 3) ∧ (chunk (min l.length 3) x.toNat y.toNat z.toNat).length = 4 := by
  rcases l with _ | ⟨a, l⟩
  · simp at h
  rcases l with _ | ⟨b, l⟩
  · exact ⟨a, 0, 0, by simp [splice, bytesV], by simp [enc64, chunk, chunkAt], rfl⟩
  rcases l with _ | ⟨c, l⟩
  · exact ⟨a, b, 0, by simp [splice, bytesV], by simp [enc64, chunk, chunkAt], rfl⟩
  · exact ⟨a, b, c, by simp [splice, bytesV], by simp [enc64, chunk, chunkAt], rfl⟩

abbrev sgBytes : ByteArray := ⟨#[65,66,67,68,69,70,71,72,73,74,75,76,77,78,79,80,81,82,83,84,85,86,87,88,89,90,97,98,99,100,101,102,103,104,105,106,107,108,109,110,111,112,113,114,115,116,117,118,119,120,121,122,48,49,50,51,52,53,54,55,56,57,43,47]⟩
theorem sgn_lit (j : Nat) (h : j < sgBytes.size) : sgBytes[j] = sgn j := by
  unfold sgn
  rw [List.getD_eq_getElem?_getD, List.getElem?_eq_getElem (show j < sgs.length from h)]
  rfl
theorem writeByte_sgn {B b : Nat} {l : List UInt8} (j : Nat) (hj : j < sgBytes.size) (w : World) (h : Bld B b l w) (hlen : l.length ≤ 1073741824) (hBw : B ≤ w.heap.size) :
    Calls Tryd.prog 59 #[.pointer (some ⟨b, 0, none⟩), .int .u8 (sgBytes[j].toNat : Int)] w fun e w' => e = .returned .nilIface ∧ Bld B b (l ++ [sgn j]) w' ∧ Below B w w' := by
  rw [sgn_lit j hj]; exact writeByte_any _ w h hlen hBw

theorem own_below {B k n : Nat} {e : TypeId} {v : Value} {xs : List Value} {w w' : World} (h : w.ownsRow B e k v n xs) (hb : Below w.heap.size w w') : w'.ownsRow B e k v n xs :=
  h.kept (row := none) ⟨hb.os, hb.tape, hb.output, hb.size, fun i hi _ => hb.block i hi⟩ (by cases v.ownBlock <;> simp)
theorem Bld.keep {B b : Nat} {l : List UInt8} {w w' : World} (h : Bld B b l w) (hb : Below w.heap.size w w') : Bld B b l w' := by
  rcases h with h | h
  · have hlt := h.lt
    obtain ⟨hB, v, hk, ho, hne⟩ := h
    exact .inl ⟨hB, v, (hb.block b hlt).trans hk, own_below ho hb, hne⟩
  · have hlt := h.lt
    obtain ⟨hB, v, hk, ho, hne⟩ := h
    exact .inr ⟨hB, v, (hb.block b hlt).trans hk, own_below ho hb, hne⟩

set_option maxHeartbeats 1000000 in
set_option maxRecDepth 100000 in
theorem encode64_any {n c : Nat} {A : Option Addr} {l : List UInt8} (w : World) (h : BytesAt w w.heap.size A n c l) (hm : n ≤ 100000) :
    Calls Tryd.prog 42 #[.slice A n c] w fun e w' => e = .returned (.string ⟨(enc64 l).toArray⟩) ∧ Below w.heap.size w w' := by
  have hn := h.2.1
  have hm2 := h.2.2.1
  unfold maxLen at hm2
  go_enter Tryd.func42, Tryd.ntmps42
  go_wp2_with fail
  go_loopw [0] (fun v wr => ∃ (A' : Option Addr) (n' c' : Nat) (l' d : List UInt8), v = .slice A' n' c' ∧ BytesAt wr w.heap.size A' n' c' l' ∧ Bld w.heap.size w.heap.size d wr ∧ d ++ enc64 l' = enc64 l ∧ c' ≤ c ∧ n' ≤ c' ∧ n' ≤ n ∧ d.length + 4 * n' ≤ 4 * n ∧ Below w.heap.size w wr) (fun v _ => lenOf v)
  case atStart => exact ⟨A, n, c, l, [], rfl, RowAt.alloc h (Nat.le_refl _) _, Bld.new _ _ (Nat.le_refl _), rfl, Nat.le_refl _, hn, Nat.le_refl _, by simp, (Below.refl _ _).alloc (Nat.le_refl _) _⟩
  case round =>
    obtain ⟨A', n', c', l', d, rfl, h', hbl, hr, hc1, hc2, hn1, hd1, hbel⟩ := hrel
    have HR := Lib.hid hr
    have HBL := Lib.hid hbl
    have hlen := h'.len
    have hsz := hbel.size
    have HBB := Lib.hid hbel
    clear hr hbl hbel
    by_cases hl : n' = 0
    · subst hl
      have hz := Lib.hid (show d = enc64 l from by rw [← HR.out, List.eq_nil_of_length_eq_zero hlen.symm, enc64, List.append_nil])
      clear hlen
      go_wp2_with fail
      refine (Tryd.Builder_String_any _ _ d _ HBL.out hsz).mono ?_
      rintro e w' ⟨rfl, hb⟩
      go_wp2_with fail
      go_ret
      rw [hz.out]
      exact ⟨rfl, HBB.out.trans hb⟩
    · have hl1 : 0 < (n' : Int) := by omega
      obtain ⟨x, y, z, hsp, henc, hch⟩ := enc_chunk (l := l') (by omega)
      have HSP := Lib.hid hsp
      have HEN := Lib.hid henc
      clear hsp henc
      have ha := RowAt.alloc h' hsz (.cells #[.int .u8 0, .int .u8 0, .int .u8 0] 103)
      have HA := Lib.hid ha
      have hx := x.toNat_lt
      have hy := y.toNat_lt
      have hz := z.toNat_lt
      have o1 := or_parts 16 ((x.toNat : Int) * 65536) (x.toNat : Int) ((y.toNat : Int) * 256) (by omega) (by omega) (by omega) (by omega) (by omega)
      have o2 := or_parts 8 ((x.toNat : Int) * 65536 + (y.toNat : Int) * 256) ((x.toNat : Int) * 256 + y.toNat) (z.toNat : Int) (by omega) (by omega) (by omega) (by omega) (by omega)
      have hl3 : l'.length = n' := hlen.symm
      rw [hl3] at hch HEN
      obtain ⟨m, hmm⟩ : ∃ m, min n' 3 = m := ⟨_, rfl⟩
      have hn3 : (bytesV (l'.take 3)).length = m := by rw [length_bytesV, List.length_take, hl3, ← hmm]; exact Nat.min_comm _ _
      have hm3 : m ≤ 3 ∧ m ≤ n' ∧ 0 < m := by omega
      rw [hmm] at hch HEN
      have HMM := Lib.hid (show (bytesV (l'.take 3)).length = Nat.min n' 3 from hn3.trans hmm.symm)
      have HN3 := Lib.hid hn3
      have HL := Lib.hid hlen
      have hsr : 0 < (bytesV (l'.take 3)).length → ∃ ad, A' = some ad ∧ ∀ j v, (bytesV (l'.take 3))[j]? = some v → (wr.alloc (.cells #[.int .u8 0, .int .u8 0, .int .u8 0] 103)).cell? (ad.add j) = some v := by
        intro _
        obtain ⟨b, off, e, _, hc⟩ := ha.2.2.2 (by omega)
        refine ⟨_, e, fun j u hu => ?_⟩
        rw [addr_plus]
        refine hc j u ?_
        simp only [bytesV, List.map_take, List.getElem?_take] at hu
        split at hu
        · exact hu
        · cases hu
      have HSR := Lib.hid hsr
      have HFT := Lib.hid (show 0 + (bytesV (l'.take 3)).length ≤ [Value.int .u8 0, .int .u8 0, .int .u8 0].length from by rw [hn3]; simp; omega)
      have hal := (Below.refl wr.heap.size wr).alloc (Nat.le_refl _) (.cells #[.int .u8 0, .int .u8 0, .int .u8 0] 103)
      have HAL := Lib.hid hal
      have hm31 := hm3.1
      have hm32 := hm3.2.1
      have hm33 := hm3.2.2
      have HDR := Lib.hid (show l'.drop 3 = l'.drop m from by
        by_cases h3 : 3 ≤ n'
        · rw [show m = 3 from by omega]
        · rw [List.drop_of_length_le (by omega), List.drop_of_length_le (by omega)])
      clear hn3 hlen hsr ha hal hl3 hmm hm3
      go_wp2_with ((with_reducible show wpList _ _ _ (⟨some 13, _, _, _, _, _⟩ :: _) _ _); refine wpList_copy_splice rfl (.tmp 11) (.tmp 12) _ _ rfl 5 Tryd.underlying22 (by kernel_rfl) _ A' _ _ n' c' rfl rfl wr.heap.size 0 [.int .u8 0, .int .u8 0, .int .u8 0] 103 (heap_alloc_new _ _) (bytesV (l'.take 3)) HMM.out (fun h0 => ⟨rfl, HSR.out h0⟩) HFT.out one_bytes wr.heap.size wr HAL.out (Nat.le_refl _) ?_; rw [HSP.out, HN3.out]; intro w2 hk2 hb2; have cx : w2.cell? ⟨wr.heap.size, 0, none⟩ = some (.int .u8 (x.toNat : Int)) := Lib.cell_of_heap hk2.out 0; have cy : w2.cell? ⟨wr.heap.size, 1, none⟩ = some (.int .u8 (y.toNat : Int)) := Lib.cell_of_heap hk2.out 1; have cz : w2.cell? ⟨wr.heap.size, 2, none⟩ = some (.int .u8 (z.toNat : Int)) := Lib.cell_of_heap hk2.out 2)
      have HBL2 := Lib.hid (HBL.out.keep hb2)
      have HB2 := Lib.hid (hb2.mono hsz)
      have hsz2 : w.heap.size ≤ w2.heap.size := Nat.le_trans hsz hb2.size
      clear hb2 cx cy cz hk2 o1 o2
      go_loopw [27] (fun i w3 => ∃ (k : Nat), k ≤ 4 ∧ i = .int .i64 k ∧ Bld w.heap.size w.heap.size (d ++ (chunk m x.toNat y.toNat z.toNat).take k) w3 ∧ Below w.heap.size wr w3) (fun i _ => 4 - (intOf i).toNat)
      case atStart => exact ⟨0, Nat.zero_le _, rfl, by simpa using HBL2.out, HB2.out⟩
      case round =>
        obtain ⟨k, hk, rfl, hbl3, hb3⟩ := hrel
        have HB3 := Lib.hid hb3
        have hsz3 := Nat.le_trans hsz hb3.size
        have HBL3 := Lib.hid hbl3
        clear hb3 hbl3
        by_cases hk4 : k < 4
        · by_cases hmk : m < k
          · have hk5 : (k : Int) < 4 := by omega
            have hmk2 : (m : Int) < k := by omega
            have HC := Lib.hid (show chunkAt m x.toNat y.toNat z.toNat k = 61 from by unfold chunkAt; rw [if_pos hmk])
            go_wp2_with fail
            refine (writeByte_any 61 _ HBL3.out (by simp only [List.length_append, List.length_take]; omega) hsz3).mono ?_
            rintro e w4 ⟨rfl, hbl4, hb4⟩
            rw [← HC.out, List.append_assoc, ← chunk_succ hk4] at hbl4
            have HBL4 := Lib.hid hbl4
            have HB4 := Lib.hid (HB3.out.trans hb4)
            clear hbl4 hb4
            go_wp2_with fail
            go_roundw
            case rel => exact ⟨k + 1, by omega, by go_num, HBL4.out, HB4.out⟩
            case measure => simp [intOf]; omega
          · have hkk : k = 0 ∨ k = 1 ∨ k = 2 ∨ k = 3 := by omega
            rcases hkk with rfl | rfl | rfl | rfl
            · have hmk2 : ¬ (m : Int) < 0 := by omega
              obtain ⟨j, hj⟩ : ∃ j : Nat, x.toNat / 4 = j := ⟨_, rfl⟩
              have hj1 : bits .and .i64 (((x.toNat : Int) * 65536 + (y.toNat : Int) * 256 + (z.toNat : Int)) / 262144) 63 = (j : Int) := by rw [and_63 _ (by omega) (by omega)]; omega
              have hj2 : (j : Int) < 64 := by omega
              have HJ := Lib.hid (show chunkAt m x.toNat y.toNat z.toNat 0 = sgn j from by rw [← hj]; unfold chunkAt; rw [if_neg (by omega)]; rfl)
              clear hj
              go_wp2_with fail
              refine (writeByte_sgn j (by show j < 64; omega) _ HBL3.out (by simp only [List.length_append, List.length_take]; omega) hsz3).mono ?_
              rintro e w4 ⟨rfl, hbl4, hb4⟩
              rw [← HJ.out, List.append_assoc, ← chunk_succ hk4] at hbl4
              have HBL4 := Lib.hid hbl4
              have HB4 := Lib.hid (HB3.out.trans hb4)
              clear hbl4 hb4
              go_wp2_with fail
              go_roundw
              case rel => exact ⟨0 + 1, by omega, by go_num, HBL4.out, HB4.out⟩
              case measure => simp [intOf]
            · have hmk2 : ¬ (m : Int) < 1 := by omega
              obtain ⟨j, hj⟩ : ∃ j : Nat, x.toNat % 4 * 16 + y.toNat / 16 = j := ⟨_, rfl⟩
              have hj1 : bits .and .i64 (((x.toNat : Int) * 65536 + (y.toNat : Int) * 256 + (z.toNat : Int)) / 4096) 63 = (j : Int) := by rw [and_63 _ (by omega) (by omega)]; omega
              have hj2 : (j : Int) < 64 := by omega
              have HJ := Lib.hid (show chunkAt m x.toNat y.toNat z.toNat 1 = sgn j from by rw [← hj]; unfold chunkAt; rw [if_neg (by omega)]; rfl)
              clear hj
              go_wp2_with fail
              refine (writeByte_sgn j (by show j < 64; omega) _ HBL3.out (by simp only [List.length_append, List.length_take]; omega) hsz3).mono ?_
              rintro e w4 ⟨rfl, hbl4, hb4⟩
              rw [← HJ.out, List.append_assoc, ← chunk_succ hk4] at hbl4
              have HBL4 := Lib.hid hbl4
              have HB4 := Lib.hid (HB3.out.trans hb4)
              clear hbl4 hb4
              go_wp2_with fail
              go_roundw
              case rel => exact ⟨1 + 1, by omega, by go_num, HBL4.out, HB4.out⟩
              case measure => simp [intOf]
            · have hmk2 : ¬ (m : Int) < 2 := by omega
              obtain ⟨j, hj⟩ : ∃ j : Nat, y.toNat % 16 * 4 + z.toNat / 64 = j := ⟨_, rfl⟩
              have hj1 : bits .and .i64 (((x.toNat : Int) * 65536 + (y.toNat : Int) * 256 + (z.toNat : Int)) / 64) 63 = (j : Int) := by rw [and_63 _ (by omega) (by omega)]; omega
              have hj2 : (j : Int) < 64 := by omega
              have HJ := Lib.hid (show chunkAt m x.toNat y.toNat z.toNat 2 = sgn j from by rw [← hj]; unfold chunkAt; rw [if_neg (by omega)]; rfl)
              clear hj
              go_wp2_with fail
              refine (writeByte_sgn j (by show j < 64; omega) _ HBL3.out (by simp only [List.length_append, List.length_take]; omega) hsz3).mono ?_
              rintro e w4 ⟨rfl, hbl4, hb4⟩
              rw [← HJ.out, List.append_assoc, ← chunk_succ hk4] at hbl4
              have HBL4 := Lib.hid hbl4
              have HB4 := Lib.hid (HB3.out.trans hb4)
              clear hbl4 hb4
              go_wp2_with fail
              go_roundw
              case rel => exact ⟨2 + 1, by omega, by go_num, HBL4.out, HB4.out⟩
              case measure => simp [intOf]
            · have hmk2 : ¬ (m : Int) < 3 := by omega
              obtain ⟨j, hj⟩ : ∃ j : Nat, z.toNat % 64 = j := ⟨_, rfl⟩
              have hj1 : bits .and .i64 ((x.toNat : Int) * 65536 + (y.toNat : Int) * 256 + (z.toNat : Int)) 63 = (j : Int) := by rw [and_63 _ (by omega) (by omega)]; omega
              have hj2 : (j : Int) < 64 := by omega
              have HJ := Lib.hid (show chunkAt m x.toNat y.toNat z.toNat 3 = sgn j from by rw [← hj]; unfold chunkAt; rw [if_neg (by omega)]; rfl)
              clear hj
              go_wp2_with fail
              refine (writeByte_sgn j (by show j < 64; omega) _ HBL3.out (by simp only [List.length_append, List.length_take]; omega) hsz3).mono ?_
              rintro e w4 ⟨rfl, hbl4, hb4⟩
              rw [← HJ.out, List.append_assoc, ← chunk_succ hk4] at hbl4
              have HBL4 := Lib.hid hbl4
              have HB4 := Lib.hid (HB3.out.trans hb4)
              clear hbl4 hb4
              go_wp2_with fail
              go_roundw
              case rel => exact ⟨3 + 1, by omega, by go_num, HBL4.out, HB4.out⟩
              case measure => simp [intOf]
        · obtain rfl : k = 4 := by omega
          have hf := BytesAt.from_ (RowAt.below h' HB3.out) (k := m) hm32
          have HF := Lib.hid hf
          have hck : (chunk m x.toNat y.toNat z.toNat).take 4 = chunk m x.toNat y.toNat z.toNat := rfl
          have hbl5 := HBL3.out
          rw [hck] at hbl5
          have HBL5 := Lib.hid hbl5
          have HR5 := Lib.hid (show (d ++ chunk m x.toNat y.toNat z.toNat) ++ enc64 (l'.drop m) = enc64 l from by rw [← HR.out, HEN.out, HDR.out, List.append_assoc])
          have hd5 : (d ++ chunk m x.toNat y.toNat z.toNat).length + 4 * (n' - m) ≤ 4 * n := by rw [List.length_append, hch]; omega
          clear hf hbl5 hck
          go_wp2_with fail
          go_roundw
          case rel => exact ⟨_, _, _, _, _, rfl, HF.out, HBL5.out, HR5.out, by omega, by omega, by omega, hd5, HBB.out.trans HB3.out⟩
          case measure => simp only [lenOf]; omega
end Go.Proofs.YtefhifmilmedhaaDoor
