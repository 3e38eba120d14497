/- The walk of the law's cut. -/
import Derived.Test.YtkiggpbmlkfdpaaDoorScanFixed
namespace Go.Proofs.YtkiggpbmlkfdpaaDoor
open Go.RowKit
set_option linter.unusedVariables false

theorem infoStr12 : (Tryd.prog.info? 9).map (fun i => (i.zero, i.size, i.bytes)) = some (some (.string ⟨#[]⟩), 1, 16) := by kernel_rfl
theorem txtV_snoc (l : List (List UInt8)) (x : List UInt8) : txtV (l ++ [x]) = txtV l ++ [.string (strOf x)] := by simp [txtV]
theorem usualT_len : usualT.length = 51 := by decide
theorem usualT_may : mayT usualT = true := by decide +kernel
theorem cut_front (s : ByteArray) (n : Nat) : s.extract 0 n = strOf (s.data.toList.take n) := by
  rw [← strOf_data (s.extract 0 n), Lib.extract_data, List.drop_zero, Nat.sub_zero]
theorem cut_rest (s : ByteArray) (n : Nat) : (s.extract n s.size).data.toList = s.data.toList.drop n := by
  rw [Lib.extract_data, List.take_of_length_le (by rw [List.length_drop, str_len]; omega)]
def CutTo (kind : Int) (l : List UInt8) (w : World) (e : Ending) (w' : World) : Prop :=
  ∃ A c, e = .returned (.slice A (cutsL kind usualT l).length c) ∧ w'.ownsRow w.heap.size 9 1 (.slice A (cutsL kind usualT l).length c) (cutsL kind usualT l).length (txtV (cutsL kind usualT l)) ∧ Below w.heap.size w w'
set_option maxRecDepth 100000 in
set_option maxHeartbeats 2000000 in
theorem cut12_any {kind : Int} (s : ByteArray) (w : World) (hU : UsualAt w) (h1 : 1 ≤ kind) (h3 : kind ≤ 3) (hs : s.size ≤ 200) : Calls Tryd.prog 35 #[.int .i64 kind, .string s] w (CutTo kind s.data.toList w) := by
  have HU := Lib.hid hU
  have HK := Lib.hid (show 1 ≤ kind ∧ kind ≤ 3 from ⟨h1, h3⟩)
  clear hU h1 h3
  go_enter Tryd.func35, Tryd.ntmps35
  go_wp2_with fail
  go_loopw [1, 5] (fun z v wr => ∃ (tt : ByteArray) (d : List (List UInt8)) (A : Option Addr) (c : Nat), z = .string tt ∧ v = .slice A d.length c ∧ tt.size + d.length ≤ s.size ∧ Hid (d ++ cutsL kind usualT tt.data.toList = cutsL kind usualT s.data.toList) ∧ Hid (wr.ownsRow w.heap.size 9 1 (.slice A d.length c) d.length (txtV d)) ∧ Hid (Below w.heap.size w wr)) (fun z _ _ => lenOf z)
  case atStart => exact ⟨s, [], _, _, rfl, rfl, Nat.le_refl _, Lib.hid rfl, Lib.hid (own_empty w _ _), Lib.hid ((Below.refl _ w).alloc (Nat.le_refl _) _)⟩
  case round =>
    obtain ⟨tt, d, A, c, rfl, rfl, hlen, HD, HO, HB⟩ := hrel
    by_cases h0 : tt.size = 0
    · have hs0 : tt.data.toList = [] := List.eq_nil_of_length_eq_zero (by rw [str_len]; exact h0)
      have hs1 : tt.toList = [] := by rw [ByteArray.toList_eq]; exact hs0
      have HE := Lib.hid (show d = cutsL kind usualT s.data.toList from by have := HD.out; rw [hs0] at this; simpa [cutsL, cutsF] using this)
      go_wp2_with fail
      go_ret
      exact ⟨A, c, by rw [← HE.out]; rfl, by rw [← HE.out]; exact HO.out, HB.out⟩
    · have hs1 : tt.toList.isEmpty = false := str_nonempty h0
      have hne : tt.data.toList ≠ [] := fun e => h0 (by rw [← str_len, e]; rfl)
      obtain ⟨n, hn⟩ : ∃ n, (nextP kind usualT tt.data.toList true).1 = n := ⟨_, rfl⟩
      have hr : nextP kind usualT tt.data.toList true = (n, true) := by
        rw [← hn, next_some hne usualT_may HK.out.1 HK.out.2]; rfl
      have hbd := next_bounds (kind := kind) (t := usualT) true hne usualT_may (by have := HK.out; omega) HK.out.2
      rw [hn, str_len] at hbd
      have hst := cuts_step (kind := kind) (t := usualT) usualT_may (by have := HK.out; omega) HK.out.2 hne
      rw [hn] at hst
      obtain ⟨hbd1, hbd2⟩ := hbd
      have hbd3 : ¬ (n : Int) < 1 := by omega
      have hbd4 : ¬ (n : Int) > (tt.size : Int) := by omega
      have hbd5 : (n : Int) ≤ (tt.size : Int) := by omega
      have HD2 := Lib.hid (show (d ++ [tt.data.toList.take n]) ++ cutsL kind usualT (tt.extract n tt.size).data.toList = cutsL kind usualT s.data.toList from by
        rw [← HD.out, hst, cut_rest, List.append_assoc]; rfl)
      have HX := Lib.hid (show (tt.extract n tt.size).size = tt.size - n from by rw [ByteArray.size_extract, Nat.min_self])
      have HP := Lib.hid (show tt.extract 0 n = strOf (tt.data.toList.take n) from cut_front tt n)
      have HR := Lib.hid hr
      have hwz := HB.out.size
      have HU1 := Lib.hid (show UsualAt wr from HU.out.later HB.out)
      clear hr hst hn hne HD
      go_wp2_with fail
      refine (susual_any wr HU1.out).mono ?_
      rintro e w1 ⟨At, ct, rfl, ht1, hb1⟩
      obtain ⟨c2, w2, hcv, hbt, hz2, hb2⟩ := run_bytes_new (P := Tryd.prog) w1 9 23 5 tt Tryd.underlying9 Tryd.underlying23 Tryd.underlying5 (by unfold maxLen; omega)
      have HT2 := Lib.hid (show RangesAt w2 w2.heap.size At 51 ct usualT from RowAt.mono (RowAt.below ht1 hb2) hb2.size)
      have HBT := Lib.hid (show BytesAt w2 w2.heap.size (some ⟨w1.heap.size, 0, none⟩) tt.size c2 tt.data.toList from by rw [hz2]; exact hbt)
      have HB12 := Lib.hid (hb1.trans (hb2.mono hb1.size))
      clear ht1 hbt hb1 hb2 hz2
      go_wp2_with fail
      refine (next_any kind true w2 HBT.out HT2.out (by omega) (by rw [str_len]; omega) HR.out).mono ?_
      rintro e w3 ⟨rfl, hb3⟩
      have HB3 := Lib.hid (HB12.out.trans (hb3.mono HB12.out.size))
      have HB4 := Lib.hid (HB.out.trans (HB3.out.mono hwz))
      have hz3 := HB4.out.size
      have HO3 := Lib.hid (own_kept HO.out HB3.out (Nat.le_refl _))
      clear hb3 hcv HB12 HBT HT2
      go_wp2_with (at_builtin; refine wpList_push rfl (.tmp 31) (.tmp 35) _ rfl w.heap.size 9 _ 16 Tryd.underlying35 infoStr12 rfl (.slice A d.length c) d.length (txtV d) rfl w3 w3.heap.size rfl (.string (tt.extract 0 n)) rfl HO3.out rfl hz3 (by omega) (by unfold maxLen; omega) ?_; intro A' c' w' hown' hb' _; have HO' := Lib.hid hown'; have HB' := Lib.hid (HB4.out.trans hb'); clear hown' hb')
      go_roundw
      case rel => exact ⟨tt.extract n tt.size, d ++ [tt.data.toList.take n], A', c', by simp, by simp, by rw [HX.out]; simp; omega, HD2, Lib.hid (by rw [txtV_snoc, ← HP.out]; simpa using HO'.out), HB'⟩
      case measure => simp only [lenOf]; rw [HX.out]; omega
end Go.Proofs.YtkiggpbmlkfdpaaDoor
