/- The walk of RankLong: true for every input. -/
import Derived.Test.YtefhifmilmedhaaDoorRankFixed
import Derived.Test.YtefhifmilmedhaaDoorRankWrite
import Derived.Test.YtefhifmilmedhaaDoorB64RefE
import Derived.Test.YtefhifmilmedhaaDoorRankLongLaw
import Derived.Laws.MakeOwn
import Derived.BigQuiet
import Derived.IntWalk
import Derived.Deep.RegionHeld3
namespace Go.Proofs.YtefhifmilmedhaaDoor
open Go.RowKit
set_option linter.unusedVariables false
theorem infoU8 : (Tryd.prog.info? 5).map (fun i => (i.zero, i.size, i.bytes)) = some (some (.int .u8 0), 1, 1) := by kernel_rfl
def byteU (n : Int) : UInt8 := UInt8.ofNat n.toNat
theorem byteU_val {n : Int} (h : 0 ≤ n ∧ n ≤ 255) : ((byteU n).toNat : Int) = n := by unfold byteU; rw [UInt8.toNat_ofNat']; omega
theorem set_take {cs : Array Value} {k n : Nat} {v : Value} (hs : cs.size = n) (hk : k < n) (h : cs.toList.take k = List.replicate k v) : (cs.setIfInBounds k v).toList.take (k + 1) = List.replicate (k + 1) v := by
  have hl : cs.toList.length = n := by simpa using hs
  rw [Array.toList_setIfInBounds, List.take_add_one, List.getElem?_set_self (by omega), List.take_set_of_le (Nat.le_refl _), h, List.replicate_succ']
  rfl
theorem rep_bytes {w : World} {g n : Nat} {cs : Array Value} {b : Int} (hb : 0 ≤ b ∧ b ≤ 255) (hg : w.heap[g]? = some (.cells cs 5 (0, 0))) (hs : cs.size = n) (hn : n ≤ 255) (h : cs.toList.take n = List.replicate n (.int .u8 b)) :
    BytesAt w w.heap.size (some ⟨g, 0, none⟩) n n (List.replicate n (byteU b)) := by
  have hlt := (Array.getElem?_eq_some_iff.1 hg).1
  have hbb : ((byteU b).toNat : Int) = b := byteU_val hb
  refine ⟨by rw [length_bytesV, List.length_replicate, Nat.mul_one], Nat.le_refl _, by unfold maxLen; omega, fun _ => ⟨g, 0, rfl, hlt, fun j u hu => ?_⟩⟩
  rw [Nat.zero_add, Lib.cell_of_heap hg j]
  have hv : bytesV (List.replicate n (byteU b)) = List.replicate n (.int .u8 b) := by unfold bytesV; rw [List.map_replicate, hbb]
  rw [hv, ← h, List.getElem?_take] at hu
  split at hu
  · simpa using hu
  · cases hu
set_option maxRecDepth 100000 in
set_option maxHeartbeats 4000000 in
theorem walkRankLong (w : World) (ht : Tab10 w) (b : Int) (hb0 : 0 ≤ b) (hb1 : b ≤ 255) (nz : Int) (hn0 : 0 ≤ nz) (hn1 : nz ≤ 255) (r : Int) (hr0 : 0 ≤ r) (hr1 : r ≤ 65535) :
    Calls Tryd.prog 9 #[.int .u8 b, .int .u8 nz, .int .u16 r] w fun e w' => e = .returned (.bool true) ∧ Below w.heap.size w w' := by
  obtain ⟨n, rfl⟩ := Int.eq_ofNat_of_zero_le hn0
  have hn : n ≤ 255 := by omega
  have HT := Lib.hid ht
  clear ht
  obtain ⟨i0, hi, hz0, hz1, hz2⟩ := info_parts infoU8
  obtain ⟨M, hM⟩ : ∃ M, M = madeCells (Value.int .u8 0).cells ((n : Int).toNat * i0.size) := ⟨_, rfl⟩
  have hMs : M.size = n := by rw [hM, size_madeCells, hz1]; omega
  have hmk : ∀ W : World, (Instr.makeSlice 22 (.int .i64 (n : Int)) (.int .i64 (n : Int))).run Tryd.prog W = .ok (.slice (some ⟨W.heap.size, 0, none⟩) n n) (W.alloc (.cells M 5)) := fun W => by
    have h := run_makeSlice (P := Tryd.prog) W 22 5 i0 (.int .u8 0) Tryd.underlying22 hi hz0 .i64 .i64 (n : Int) (n : Int) (by omega) (by omega) (by rw [hz1]; omega) (by rw [hz2]; omega) (by omega)
    rw [← hM] at h
    simpa using h
  obtain ⟨g, hg⟩ : ∃ g, w.heap.size = g := ⟨_, rfl⟩
  have HGZ := Lib.hid hg
  have HGM := Lib.hid (show (w.alloc (.cells M 5)).heap[g]? = some (.cells M 5 (0, 0)) from by rw [← hg]; exact World.alloc_heap_new w _)
  have HWA := Lib.hid (show Below w.heap.size w (w.alloc (.cells M 5)) from (Below.refl _ w).alloc (Nat.le_refl _) _)
  have HMS := Lib.hid hMs
  clear hM hMs hi hz0 hz1 hz2
  go_enter Tryd.func9, Tryd.ntmps9
  go_wp2_with fail
  go_loopw [18] (fun i wr => ∃ (k : Nat) (cs : Array Value), i = .int .i64 k ∧ k ≤ n ∧ Hid (wr.heap[g]? = some (.cells cs 5 (0, 0))) ∧ Hid (cs.size = n) ∧ Hid (cs.toList.take k = List.replicate k (.int .u8 b)) ∧ Hid (Below w.heap.size w wr)) (fun i _ => n - (intOf i).toNat)
  case atStart => exact ⟨0, M, rfl, Nat.zero_le _, HGM, HMS, Lib.hid rfl, HWA⟩
  case round =>
    obtain ⟨k, cs, rfl, hk, HG, HCS, HTK, HW⟩ := hrel
    by_cases hlt : k < n
    · have hfz : wr.frozen? ⟨g, k, none⟩ = false := Lib.frozen_of_heap HG.out k
      have hcl : wr.cell? ⟨g, k, none⟩ = some (cs[k]'(by rw [HCS.out]; exact hlt)) := by rw [Lib.cell_of_heap HG.out k]; exact Array.getElem?_eq_getElem _
      obtain ⟨v0, hv0⟩ : ∃ v0, cs[k]'(by rw [HCS.out]; exact hlt) = v0 := ⟨_, rfl⟩
      rw [hv0] at hcl
      clear hv0
      go_wp2_with fail
      go_roundw
      case rel => exact ⟨k + 1, cs.setIfInBounds k (.int .u8 b), by go_num, by omega, Lib.hid (Lib.heap_setCell_same HG.out _), Lib.hid (by rw [Array.size_setIfInBounds, HCS.out]), Lib.hid (set_take HCS.out hlt HTK.out), Lib.hid (HW.out.setCell (by show w.heap.size ≤ g; rw [HGZ.out]; exact Nat.le_refl _) _)⟩
      case measure => show n - ((k : Int) + 1).toNat < n - ((k : Int)).toNat; omega
    · have hke : k = n := by omega
      have HBT := Lib.hid (show BytesAt wr wr.heap.size (some ⟨g, 0, none⟩) n n (List.replicate n (byteU b)) from rep_bytes ⟨hb0, hb1⟩ HG.out HCS.out hn (by rw [← hke]; exact HTK.out))
      obtain ⟨T, hT⟩ : ∃ T, List.replicate n (byteU b) = T := ⟨_, rfl⟩
      rw [hT] at HBT
      have hTl : T.length = n := by rw [← hT, List.length_replicate]
      have HTL := Lib.hid hTl
      have hsz : (strOf T).size ≤ 255 := by rw [strOf_size, hTl]; omega
      have hes : (strOf (enc64 T)).size ≤ 1000 := by rw [strOf_size, enc64_len, hTl]; omega
      have b1 : ¬ 9223372036854775807 < 7 + (strOf (enc64 T)).size := by omega
      have b2 : ¬ 9223372036854775807 < 7 + (strOf (enc64 T)).size + 2 := by omega
      have hcv := run_string_bytes (P := Tryd.prog) 22 9 5 Tryd.underlying22 Tryd.underlying5 Tryd.underlying9 HBT.out
      have HKE := Lib.hid hke
      clear hT hTl hke
      go_wp2_with fail
      refine (rencode64_any (strOf T) wr (by omega)).mono ?_
      rintro e w1 ⟨rfl, rfl⟩
      rw [strOf_list]
      have h7 : (⟨#[73, 81, 61, 61, 32, 48, 10]⟩ : ByteArray).size = 7 := rfl
      have h2 : (⟨#[32, 49]⟩ : ByteArray).size = 2 := rfl
      have hzz : (⟨#[73, 81, 61, 61, 32, 48, 10]⟩ ++ strOf (enc64 T) ++ ⟨#[32, 49]⟩ : ByteArray).size = 7 + (strOf (enc64 T)).size + 2 := by rw [ByteArray.size_append, ByteArray.size_append, h7, h2]
      have hzl : (⟨#[73, 81, 61, 61, 32, 48, 10]⟩ ++ strOf (enc64 T) ++ ⟨#[32, 49]⟩ : ByteArray).data.toList = longZ T := by simp [strOf, longZ]
      obtain ⟨cz, w2, hcz, hbz, hz2, hb2⟩ := run_bytes_new (P := Tryd.prog) wr 9 22 5 (⟨#[73, 81, 61, 61, 32, 48, 10]⟩ ++ strOf (enc64 T) ++ ⟨#[32, 49]⟩) Tryd.underlying9 Tryd.underlying22 Tryd.underlying5 (by rw [hzz]; unfold maxLen; omega)
      rw [hzl] at hbz
      rw [hzz] at hcz hbz
      have HBZ := Lib.hid (show BytesAt w2 w2.heap.size (some ⟨wr.heap.size, 0, none⟩) (7 + (strOf (enc64 T)).size + 2) cz (longZ T) from by rw [hz2]; exact hbz)
      have HW2 := Lib.hid (HW.out.trans (hb2.mono HW.out.size))
      have HBT2 := Lib.hid (show BytesAt w2 w2.heap.size (some ⟨g, 0, none⟩) n n T from RowAt.mono (RowAt.below HBT.out hb2) hb2.size)
      clear hbz hz2 hb2 hzz hzl h7 h2
      go_wp2_with fail
      by_cases hz : n = 0
      · have hnz : ((n : Int) == 0) = true := beq_yes (by omega)
        have HZR := Lib.hid (show readL (longZ T) = ([], 2, 2) from by
          have : T = [] := List.eq_nil_of_length_eq_zero (by rw [HTL.out]; exact hz)
          rw [this]; exact long_none)
        clear hz
        refine (read_as w2 HBZ.out (by omega) HZR.out rfl).mono ?_
        rintro e w3 ⟨A3, c3, rfl, hr3, hb3⟩
        have HR3 := Lib.hid hr3
        have HW3 := Lib.hid (HW2.out.trans (hb3.mono HW2.out.size))
        obtain ⟨w4, hw4⟩ : ∃ w4, w4 = w3.alloc (.cells #[.int .i64 2, .int .i64 2] 47) := ⟨_, rfl⟩
        have hb4 : Below w3.heap.size w3 w4 := by rw [hw4]; exact (Below.refl _ w3).alloc (Nat.le_refl _) _
        have HG4 := Lib.hid (show w4.heap[w3.heap.size]? = some (.cells #[.int .i64 2, .int .i64 2] 47 (0, 0)) from by rw [hw4]; exact heap_alloc_new w3 _)
        have HW4 := Lib.hid (HW3.out.trans (hb4.mono HW3.out.size))
        have HBT4 := Lib.hid (show BytesAt w4 w4.heap.size (some ⟨g, 0, none⟩) n n T from RowAt.mono (RowAt.below (RowAt.mono (RowAt.below HBT2.out hb3) hb3.size) hb4) hb4.size)
        have HR4 := Lib.hid (RowAt.mono (RowAt.below hr3 hb4) hb4.size)
        have HQ4 := Lib.hid hw4
        clear hr3 hb3 hb4 hw4 hcz hcv
        go_wp2_with fail
        rw [← HQ4.out]
        refine (fixed07 w4).mono ?_
        rintro e w5 ⟨rfl, hb5⟩
        have HW5 := Lib.hid (HW4.out.trans (hb5.mono HW4.out.size))
        obtain ⟨x0, x1, -, -⟩ := pair_reads ((hb5.block _ (Array.getElem?_eq_some_iff.1 HG4.out).1).trans HG4.out)
        clear hb5
        go_wp2_with fail
        go_ret
        exact ⟨rfl, HW5.out⟩
      · have hnz : ((n : Int) == 0) = false := beq_no (by omega)
        have HT0 := Lib.hid (show T ≠ [] from fun e => hz (by rw [← HTL.out, e]; rfl))
        clear hz
        by_cases h64 : 64 < n
        · have h64' : (64 : Int) < (n : Int) := by omega
          have HZR := Lib.hid (show readL (longZ T) = ([], 2, 7) from long_big (by rw [HTL.out]; exact h64))
          have HOK := Lib.hid (show okW [(T, r)] = false from by rw [long_may T r hr0 hr1 HT0.out]; exact decide_eq_false (by rw [HTL.out]; omega))
          refine (read_as w2 HBZ.out (by omega) HZR.out rfl).mono ?_
          rintro e w3 ⟨A3, c3, rfl, hr3, hb3⟩
          have HR3 := Lib.hid hr3
          have HW3 := Lib.hid (HW2.out.trans (hb3.mono HW2.out.size))
          obtain ⟨w4, hw4⟩ : ∃ w4, w4 = w3.alloc (.cells #[.int .i64 2, .int .i64 7] 47) := ⟨_, rfl⟩
          have hb4 : Below w3.heap.size w3 w4 := by rw [hw4]; exact (Below.refl _ w3).alloc (Nat.le_refl _) _
          have HG4 := Lib.hid (show w4.heap[w3.heap.size]? = some (.cells #[.int .i64 2, .int .i64 7] 47 (0, 0)) from by rw [hw4]; exact heap_alloc_new w3 _)
          have HW4 := Lib.hid (HW3.out.trans (hb4.mono HW3.out.size))
          have HBT4 := Lib.hid (show BytesAt w4 w4.heap.size (some ⟨g, 0, none⟩) n n T from RowAt.mono (RowAt.below (RowAt.mono (RowAt.below HBT2.out hb3) hb3.size) hb4) hb4.size)
          have HR4 := Lib.hid (RowAt.mono (RowAt.below hr3 hb4) hb4.size)
          have HQ4 := Lib.hid hw4
          clear hr3 hb3 hb4 hw4 hcz hcv
          have hcv4 := run_string_bytes (P := Tryd.prog) 22 9 5 Tryd.underlying22 Tryd.underlying5 Tryd.underlying9 HBT4.out
          obtain ⟨w5, hw5⟩ : ∃ w5, w5 = w4.alloc (.cells #[.string (strOf T), .int .i64 r] 40) := ⟨_, rfl⟩
          have hb5 : Below w4.heap.size w4 w5 := by rw [hw5]; exact (Below.refl _ w4).alloc (Nat.le_refl _) _
          have HR5 := Lib.hid (show RowAt w5 w5.heap.size 2 (some ⟨w4.heap.size, 0, none⟩) 1 1 (rowsI [(T, r)]) from by
            rw [hw5, World.size_alloc]; exact new_row_at (rowsI [(T, r)]) _ rfl rfl rfl)
          have HW5 := Lib.hid (HW4.out.trans (hb5.mono HW4.out.size))
          have HG5 := Lib.hid ((hb5.block _ (Array.getElem?_eq_some_iff.1 HG4.out).1).trans HG4.out)
          have hz4 : w4.heap.size = w3.heap.size + 1 := by rw [HQ4.out, World.size_alloc]
          rw [hz4] at HR5
          rw [HQ4.out] at hcv4 hw5
          have HQ5 := Lib.hid hw5
          clear hb5 hw5 hz4
          go_wp2_with fail
          rw [← HQ5.out]
          refine (rankWrite_no w5 (tab_later HT.out HW5.out) HR5.out HOK).mono ?_
          rintro e w6 ⟨rfl, hb6⟩
          have HW6 := Lib.hid (HW5.out.trans (hb6.mono HW5.out.size))
          have HG6 := Lib.hid ((hb6.block _ (Array.getElem?_eq_some_iff.1 HG5.out).1).trans HG5.out)
          clear hb6 hcv4
          go_wp2_with fail
          refine (fixed07 w6).mono ?_
          rintro e w7 ⟨rfl, hb7⟩
          have HW7 := Lib.hid (HW6.out.trans (hb7.mono HW6.out.size))
          obtain ⟨x0, x1, -, -⟩ := pair_reads ((hb7.block _ (Array.getElem?_eq_some_iff.1 HG6.out).1).trans HG6.out)
          have q1 := fun w => eql_fault (a := 2) (b := 2) (c := 7) (d := 7) (o := true) (by simp) w
          clear hb7
          go_wp2_with fail
          go_ret
          exact ⟨rfl, HW7.out⟩
        · have h64' : ¬ (64 : Int) < (n : Int) := by omega
          have HZR := Lib.hid (show readL (longZ T) = ([([33], 0), (T, 1)], 0, 0) from long_ok HT0.out (by rw [HTL.out]; exact h64))
          have HOK := Lib.hid (show okW [(T, r)] = true from by rw [long_may T r hr0 hr1 HT0.out]; exact decide_eq_true (by rw [HTL.out]; omega))
          refine (read_as w2 HBZ.out (by omega) HZR.out rfl).mono ?_
          rintro e w3 ⟨A3, c3, rfl, hr3, hb3⟩
          have HR3 := Lib.hid hr3
          have HW3 := Lib.hid (HW2.out.trans (hb3.mono HW2.out.size))
          obtain ⟨w4, hw4⟩ : ∃ w4, w4 = w3.alloc (.cells #[.int .i64 0, .int .i64 0] 47) := ⟨_, rfl⟩
          have hb4 : Below w3.heap.size w3 w4 := by rw [hw4]; exact (Below.refl _ w3).alloc (Nat.le_refl _) _
          have HG4 := Lib.hid (show w4.heap[w3.heap.size]? = some (.cells #[.int .i64 0, .int .i64 0] 47 (0, 0)) from by rw [hw4]; exact heap_alloc_new w3 _)
          have HW4 := Lib.hid (HW3.out.trans (hb4.mono HW3.out.size))
          have HBT4 := Lib.hid (show BytesAt w4 w4.heap.size (some ⟨g, 0, none⟩) n n T from RowAt.mono (RowAt.below (RowAt.mono (RowAt.below HBT2.out hb3) hb3.size) hb4) hb4.size)
          have HR4 := Lib.hid (RowAt.mono (RowAt.below hr3 hb4) hb4.size)
          have HQ4 := Lib.hid hw4
          clear hr3 hb3 hb4 hw4 hcz hcv
          have hcv4 := run_string_bytes (P := Tryd.prog) 22 9 5 Tryd.underlying22 Tryd.underlying5 Tryd.underlying9 HBT4.out
          obtain ⟨w5, hw5⟩ : ∃ w5, w5 = w4.alloc (.cells #[.string (strOf T), .int .i64 r] 40) := ⟨_, rfl⟩
          have hb5 : Below w4.heap.size w4 w5 := by rw [hw5]; exact (Below.refl _ w4).alloc (Nat.le_refl _) _
          have HR5 := Lib.hid (show RowAt w5 w5.heap.size 2 (some ⟨w4.heap.size, 0, none⟩) 1 1 (rowsI [(T, r)]) from by
            rw [hw5, World.size_alloc]; exact new_row_at (rowsI [(T, r)]) _ rfl rfl rfl)
          have HW5 := Lib.hid (HW4.out.trans (hb5.mono HW4.out.size))
          have HG5 := Lib.hid ((hb5.block _ (Array.getElem?_eq_some_iff.1 HG4.out).1).trans HG4.out)
          have HB5 := Lib.hid (show BytesAt w5 w5.heap.size (some ⟨g, 0, none⟩) n n T from RowAt.mono (RowAt.below HBT4.out hb5) hb5.size)
          have HL5 := Lib.hid (RowAt.mono (RowAt.below HR4.out hb5) hb5.size)
          have hz4 : w4.heap.size = w3.heap.size + 1 := by rw [HQ4.out, World.size_alloc]
          rw [hz4] at HR5
          rw [HQ4.out] at hcv4 hw5
          have HQ5 := Lib.hid hw5
          clear hb5 hw5 hz4
          go_wp2_with fail
          rw [← HQ5.out]
          refine (rankWrite_yes w5 (tab_later HT.out HW5.out) HR5.out HOK (Lib.hid rfl) (Lib.hid rfl)).mono ?_
          rintro e w6 ⟨A6, c6, rfl, hbt6, hb6⟩
          have HW6 := Lib.hid (HW5.out.trans (hb6.mono HW5.out.size))
          have HG6 := Lib.hid ((hb6.block _ (Array.getElem?_eq_some_iff.1 HG5.out).1).trans HG5.out)
          have HB6 := Lib.hid (show BytesAt w6 w6.heap.size (some ⟨g, 0, none⟩) n n T from RowAt.mono (RowAt.below HB5.out hb6) hb6.size)
          have HL6 := Lib.hid (RowAt.mono (RowAt.below HL5.out hb6) hb6.size)
          clear hb6 hcv4 hbt6
          go_wp2_with fail
          have hl0 : (0 : Nat) < [(([33] : List UInt8), 0), (T, 1)].length := by simp
          have q1 := fun w => eql_fault (a := 0) (b := 0) (c := 0) (d := 0) (o := true) (by simp) w
          have q2 := fun w => eql_row (s1 := T) (s2 := T) (c := 1) (d := 1) (o := true) (by simp) w
          obtain ⟨B, off, hA, hB, hrd⟩ := rows_cells HL6.out hl0
          subst hA
          have c10 := (hrd 1 (by simp)).1
          have c11 := (hrd 1 (by simp)).2
          simp [intRow] at c10 c11
          have HB := Lib.hid hB
          have hgl := Lib.hid (Array.getElem?_eq_some_iff.1 HG6.out).1
          have HB6d := Lib.hid (show BytesAt w6.drew w6.drew.heap.size (some ⟨g, 0, none⟩) n n T from HB6.out)
          obtain ⟨f0, f1, -, -⟩ := pair_reads (w := w6.drew) HG6.out
          have hcv6 := run_string_bytes (P := Tryd.prog) 22 9 5 Tryd.underlying22 Tryd.underlying5 Tryd.underlying9 HB6d.out
          clear hrd hB
          go_region_held3 (fun w' => w'.cell? ⟨w3.heap.size, 0, none⟩ = some (.int .i64 0) ∧ w'.cell? ⟨w3.heap.size, 1, none⟩ = some (.int .i64 0) ∧ w'.cell? ⟨B, off + 2, none⟩ = some (.string (strOf T)) ∧ w'.cell? ⟨B, off + 3, none⟩ = some (.int .i64 1) ∧ (convert 22 9 (.slice (some ⟨g, 0, none⟩) n n)).run Tryd.prog w' = .ok (.string (strOf T)) w') (first | assumption | go_keep) (first | (go_at_call 23; refine (fixed07 _).mono ?_; rintro e w7 ⟨rfl, hb7⟩; have HW7 := Lib.hid ((Below.drew HW6.out).trans (hb7.mono HW6.out.size)); obtain ⟨x0, x1, -, -⟩ := pair_reads ((hb7.block _ hgl.out).trans HG6.out); have y0 := (hb7.cell (p := ⟨B, off + 2, none⟩) HB.out).trans c10; have y1 := (hb7.cell (p := ⟨B, off + 3, none⟩) HB.out).trans c11; have hcv7 := run_string_bytes (P := Tryd.prog) 22 9 5 Tryd.underlying22 Tryd.underlying5 Tryd.underlying9 (RowAt.mono (RowAt.below HB6d.out hb7) hb7.size); clear hb7))
          go_wp2_with fail
          go_ret
          exact ⟨rfl, HW7.out⟩
end Go.Proofs.YtefhifmilmedhaaDoor
