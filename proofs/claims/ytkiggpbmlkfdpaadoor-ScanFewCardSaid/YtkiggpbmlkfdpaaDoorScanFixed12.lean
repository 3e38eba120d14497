/- The walk of the law's fixed. -/
import Derived.Test.YtkiggpbmlkfdpaaDoorScanCount
import Derived.Test.YtkiggpbmlkfdpaaDoorScanRNext
import Derived.Test.YtkiggpbmlkfdpaaDoorClsUse
import Derived.Test.YtkiggpbmlkfdpaaDoorConv
/- The walks of the law's usual, great, same, cut, fixed. -/
namespace Go.Proofs.YtkiggpbmlkfdpaaDoor
open Go.RowKit
set_option linter.unusedVariables false

/-- The cells of texts; a slice value that reads as texts. -/
def txtV (l : List (List UInt8)) : List Value := l.map fun x => .string (strOf x)
theorem length_txtV (l : List (List UInt8)) : (txtV l).length = l.length := by simp [txtV]
def TxtAt (w : World) (B : Nat) (A : Option Addr) (n c : Nat) (l : List (List UInt8)) : Prop := RowAt w B 1 A n c (txtV l)
section
variable {w w' : World} {B B' n c : Nat} {A : Option Addr} {l : List (List UInt8)}
theorem TxtAt.len (h : TxtAt w B A n c l) : n = l.length := by have := h.1; rw [length_txtV] at this; omega
theorem TxtAt.cells (h : TxtAt w B A n c l) (h0 : 0 < n) : ∃ b off, A = some ⟨b, off, none⟩ ∧ b < B ∧ ∀ i (hi : i < l.length), w.cell? ⟨b, off + i, none⟩ = some (.string (strOf l[i])) := by
  obtain ⟨b, off, e, hb, hc⟩ := h.2.2.2 h0
  refine ⟨b, off, e, hb, fun i hi => hc i _ ?_⟩
  simp [txtV, List.getElem?_eq_getElem hi]
end
theorem txt_eq {a b : List UInt8} (h : a = b) : ((strOf a).toList == (strOf b).toList) = true := by rw [h]; simp
theorem txt_ne {a b : List UInt8} (h : a ≠ b) : ((strOf a).toList == (strOf b).toList) = false := by
  rw [ByteArray.toList_eq, ByteArray.toList_eq, strOf_list, strOf_list, beq_eq_false_iff_ne]; exact h
theorem susual_any (w : World) (h : UsualAt w) : Calls Tryd.prog 18 #[] w fun e w' => ∃ A c, e = .returned (.slice A 51 c) ∧ RangesAt w' w'.heap.size A 51 c usualT ∧ Below w.heap.size w w' := by
  go_enter Tryd.func18, Tryd.ntmps18
  go_wp2_with fail
  refine (usual_any w h).mono ?_
  rintro e w' ⟨A, c, rfl, hr, hb⟩
  go_wp2_with fail
  go_ret
  exact ⟨A, c, rfl, hr, hb⟩
theorem great12 {A A2 : Option Addr} {n c n2 c2 : Nat} (w : World) {o : Bool} (ho : (decide (80 < n) || decide (200 < n2)) = o) (hn : n ≤ 9223372036854775807) (hn2 : n2 ≤ 9223372036854775807) : Calls Tryd.prog 14 #[.slice A n c, .slice A2 n2 c2] w fun e w' => e = .returned (.bool o) ∧ w = w' := by
  have HO := Lib.hid ho
  clear ho
  by_cases h1 : 80 < n
  · have h1' : (80 : Int) < (n : Int) := by omega
    have HT := Lib.hid (show o = true from by rw [← HO.out, decide_eq_true h1]; rfl)
    go_enter Tryd.func14, Tryd.ntmps14
    go_wp2_with fail
    go_ret
    exact ⟨by rw [HT.out]; rfl, rfl⟩
  · have h1' : ¬ (80 : Int) < (n : Int) := by omega
    have HT := Lib.hid (show o = decide (200 < n2) from by rw [← HO.out, decide_eq_false h1]; rfl)
    go_enter Tryd.func14, Tryd.ntmps14
    go_wp2_with fail
    go_ret
    refine ⟨?_, rfl⟩
    rw [HT.out]
    by_cases h2 : 200 < n2
    · rw [decide_eq_true h2, decide_eq_true (show (200 : Int) < (n2 : Int) by omega)]; rfl
    · rw [decide_eq_false h2, decide_eq_false (show ¬ (200 : Int) < (n2 : Int) by omega)]; rfl
set_option maxRecDepth 100000 in
set_option maxHeartbeats 1000000 in
theorem same12 {A A' : Option Addr} {n n' c c' B B' : Nat} {l l' : List (List UInt8)} (w : World) (h : TxtAt w B A n c l) (h' : TxtAt w B' A' n' c' l') (he : l = l') :
    Calls Tryd.prog 34 #[.slice A n c, .slice A' n' c'] w fun e w' => e = .returned (.bool true) ∧ ∃ k, w' = w.drewN k := by
  subst he
  have e1 := h.len
  have e2 := h'.len
  obtain rfl : n = n' := by omega
  have hcap := h.2.2.1
  have hcn := h.2.1
  unfold maxLen at hcap
  have hnn : ((n : Int) != (n : Int)) = false := bne_no rfl
  have E1 := Lib.hid e1
  have HH := Lib.hid h
  have HH' := Lib.hid h'
  clear e1 e2 h h'
  go_enter Tryd.func34, Tryd.ntmps34
  go_wp2_with fail
  go_loopw [13] (fun i wr => ∃ k q : Nat, k ≤ n ∧ i = .int .i64 k ∧ wr = w.drewN q) (fun i _ => n - (intOf i).toNat)
  case atStart => exact ⟨0, 0, Nat.zero_le _, rfl, rfl⟩
  case round =>
    obtain ⟨k, q, hk, rfl, rfl⟩ := hrel
    by_cases hlt : k < n
    · have hkl : k < l.length := by have := E1.out; omega
      obtain ⟨b, off, rfl, hb, hc⟩ := HH.out.cells (by omega)
      obtain ⟨b', off', rfl, hb', hc'⟩ := HH'.out.cells (by omega)
      obtain ⟨x, hx⟩ : ∃ x, l[k]'hkl = x := ⟨_, rfl⟩
      have c1 : w.cell? ⟨b, off + k, none⟩ = some (.string (strOf x)) := by rw [hc k hkl, hx]
      have c2 : w.cell? ⟨b', off' + k, none⟩ = some (.string (strOf x)) := by rw [hc' k hkl, hx]
      have hq := txt_eq (a := x) rfl
      clear hc hc' hx
      go_wp2_with fail
      go_quiet (fail)
      go_wp2_with fail
      go_roundw
      case rel => exact ⟨k + 1, q + nq, by omega, by go_num, by first | rfl | rw [World.drewN_drewN]⟩
      case measure => simp [intOf]; omega
    · obtain rfl : k = n := by omega
      go_wp2_with fail
      go_ret
      exact ⟨rfl, q, rfl⟩
end Go.Proofs.YtkiggpbmlkfdpaaDoor
/- The walk of the law's cut. -/
namespace Go.Proofs.YtkiggpbmlkfdpaaDoor
open Go.RowKit
set_option linter.unusedVariables false

theorem infoStr12 : (Tryd.prog.info? 9).map (fun i => (i.zero, i.size, i.bytes)) = some (some (.string ⟨#[]⟩), 1, 16) := by kernel_rfl
theorem txtV_snoc (l : List (List UInt8)) (x : List UInt8) : txtV (l ++ [x]) = txtV l ++ [.string (strOf x)] := by simp [txtV]
theorem usualT_len : usualT.length = 51 := by decide
theorem usualT_may : mayT usualT = true := by decide +kernel
theorem cut_front (s : ByteArray) (n : Nat) : s.extract 0 n = strOf (s.data.toList.take n) := by
  rw [← strOf_data (s.extract 0 n), Lib.extract_data, List.drop_zero, Nat.sub_zero]
theorem cut_rest (s : ByteArray) (n : Nat) : (s.extract n s.size).data.toList = s.data.toList.drop n := by
  rw [Lib.extract_data, List.take_of_length_le (by rw [List.length_drop, str_len]; omega)]
def CutTo (kind : Int) (l : List UInt8) (w : World) (e : Ending) (w' : World) : Prop :=
  ∃ A c, e = .returned (.slice A (cutsL kind usualT l).length c) ∧ w'.ownsRow w.heap.size 9 1 (.slice A (cutsL kind usualT l).length c) (cutsL kind usualT l).length (txtV (cutsL kind usualT l)) ∧ Below w.heap.size w w'
set_option maxRecDepth 100000 in
set_option maxHeartbeats 2000000 in
theorem cut12_any {kind : Int} (s : ByteArray) (w : World) (hU : UsualAt w) (h1 : 1 ≤ kind) (h3 : kind ≤ 3) (hs : s.size ≤ 200) : Calls Tryd.prog 35 #[.int .i64 kind, .string s] w (CutTo kind s.data.toList w) := by
  have HU := Lib.hid hU
  have HK := Lib.hid (show 1 ≤ kind ∧ kind ≤ 3 from ⟨h1, h3⟩)
  clear hU h1 h3
  go_enter Tryd.func35, Tryd.ntmps35
  go_wp2_with fail
  go_loopw [1, 5] (fun z v wr => ∃ (tt : ByteArray) (d : List (List UInt8)) (A : Option Addr) (c : Nat), z = .string tt ∧ v = .slice A d.length c ∧ tt.size + d.length ≤ s.size ∧ Hid (d ++ cutsL kind usualT tt.data.toList = cutsL kind usualT s.data.toList) ∧ Hid (wr.ownsRow w.heap.size 9 1 (.slice A d.length c) d.length (txtV d)) ∧ Hid (Below w.heap.size w wr)) (fun z _ _ => lenOf z)
  case atStart => exact ⟨s, [], _, _, rfl, rfl, Nat.le_refl _, Lib.hid rfl, Lib.hid (own_empty w _ _), Lib.hid ((Below.refl _ w).alloc (Nat.le_refl _) _)⟩
  case round =>
    obtain ⟨tt, d, A, c, rfl, rfl, hlen, HD, HO, HB⟩ := hrel
    by_cases h0 : tt.size = 0
    · have hs0 : tt.data.toList = [] := List.eq_nil_of_length_eq_zero (by rw [str_len]; exact h0)
      have hs1 : tt.toList = [] := by rw [ByteArray.toList_eq]; exact hs0
      have HE := Lib.hid (show d = cutsL kind usualT s.data.toList from by have := HD.out; rw [hs0] at this; simpa [cutsL, cutsF] using this)
      go_wp2_with fail
      go_ret
      exact ⟨A, c, by rw [← HE.out]; rfl, by rw [← HE.out]; exact HO.out, HB.out⟩
    · have hs1 : tt.toList.isEmpty = false := str_nonempty h0
      have hne : tt.data.toList ≠ [] := fun e => h0 (by rw [← str_len, e]; rfl)
      obtain ⟨n, hn⟩ : ∃ n, (nextP kind usualT tt.data.toList true).1 = n := ⟨_, rfl⟩
      have hr : nextP kind usualT tt.data.toList true = (n, true) := by
        rw [← hn, next_some hne usualT_may HK.out.1 HK.out.2]; rfl
      have hbd := next_bounds (kind := kind) (t := usualT) true hne usualT_may (by have := HK.out; omega) HK.out.2
      rw [hn, str_len] at hbd
      have hst := cuts_step (kind := kind) (t := usualT) usualT_may (by have := HK.out; omega) HK.out.2 hne
      rw [hn] at hst
      obtain ⟨hbd1, hbd2⟩ := hbd
      have hbd3 : ¬ (n : Int) < 1 := by omega
      have hbd4 : ¬ (n : Int) > (tt.size : Int) := by omega
      have hbd5 : (n : Int) ≤ (tt.size : Int) := by omega
      have HD2 := Lib.hid (show (d ++ [tt.data.toList.take n]) ++ cutsL kind usualT (tt.extract n tt.size).data.toList = cutsL kind usualT s.data.toList from by
        rw [← HD.out, hst, cut_rest, List.append_assoc]; rfl)
      have HX := Lib.hid (show (tt.extract n tt.size).size = tt.size - n from by rw [ByteArray.size_extract, Nat.min_self])
      have HP := Lib.hid (show tt.extract 0 n = strOf (tt.data.toList.take n) from cut_front tt n)
      have HR := Lib.hid hr
      have hwz := HB.out.size
      have HU1 := Lib.hid (show UsualAt wr from HU.out.later HB.out)
      clear hr hst hn hne HD
      go_wp2_with fail
      refine (susual_any wr HU1.out).mono ?_
      rintro e w1 ⟨At, ct, rfl, ht1, hb1⟩
      obtain ⟨c2, w2, hcv, hbt, hz2, hb2⟩ := run_bytes_new (P := Tryd.prog) w1 9 23 5 tt Tryd.underlying9 Tryd.underlying23 Tryd.underlying5 (by unfold maxLen; omega)
      have HT2 := Lib.hid (show RangesAt w2 w2.heap.size At 51 ct usualT from RowAt.mono (RowAt.below ht1 hb2) hb2.size)
      have HBT := Lib.hid (show BytesAt w2 w2.heap.size (some ⟨w1.heap.size, 0, none⟩) tt.size c2 tt.data.toList from by rw [hz2]; exact hbt)
      have HB12 := Lib.hid (hb1.trans (hb2.mono hb1.size))
      clear ht1 hbt hb1 hb2 hz2
      go_wp2_with fail
      refine (next_any kind true w2 HBT.out HT2.out (by omega) (by rw [str_len]; omega) HR.out).mono ?_
      rintro e w3 ⟨rfl, hb3⟩
      have HB3 := Lib.hid (HB12.out.trans (hb3.mono HB12.out.size))
      have HB4 := Lib.hid (HB.out.trans (HB3.out.mono hwz))
      have hz3 := HB4.out.size
      have HO3 := Lib.hid (own_kept HO.out HB3.out (Nat.le_refl _))
      clear hb3 hcv HB12 HBT HT2
      go_wp2_with (at_builtin; refine wpList_push rfl (.tmp 31) (.tmp 35) _ rfl w.heap.size 9 _ 16 Tryd.underlying35 infoStr12 rfl (.slice A d.length c) d.length (txtV d) rfl w3 w3.heap.size rfl (.string (tt.extract 0 n)) rfl HO3.out rfl hz3 (by omega) (by unfold maxLen; omega) ?_; intro A' c' w' hown' hb' _; have HO' := Lib.hid hown'; have HB' := Lib.hid (HB4.out.trans hb'); clear hown' hb')
      go_roundw
      case rel => exact ⟨tt.extract n tt.size, d ++ [tt.data.toList.take n], A', c', by simp, by simp, by rw [HX.out]; simp; omega, HD2, Lib.hid (by rw [txtV_snoc, ← HP.out]; simpa using HO'.out), HB'⟩
      case measure => simp only [lenOf]; rw [HX.out]; omega
end Go.Proofs.YtkiggpbmlkfdpaaDoor
namespace Go.Proofs.YtkiggpbmlkfdpaaDoor
open Go.RowKit
set_option linter.unusedVariables false

theorem fx_next : nextP 2 usualT [39, 114] false = (1, false) := by decide +kernel
theorem fx_1 : cutsL 2 usualT [73, 39, 108, 108, 32, 103, 111] = [[73], [39, 108, 108], [32, 103, 111]] := by decide +kernel
theorem fx_2 : cutsL 2 usualT [97, 32, 32, 98] = [[97], [32], [32, 98]] := by decide +kernel
theorem fx_3 : cutsL 3 usualT [97, 32, 49, 50, 51, 52, 53, 10, 10, 32, 98] = [[97], [32], [49, 50, 51], [52, 53], [10, 10], [32, 98]] := by decide +kernel
theorem txt_const {w : World} {g : Nat} (l : List (List UInt8)) (cs : Array Value) (n : Nat) (hg : w.heap.size = g) (hl : (txtV l).toArray = cs) (hn : l.length = n) (hm : n ≤ maxLen) : TxtAt (w.alloc (.cells cs 9)) (w.alloc (.cells cs 9)).heap.size (some ⟨g, 0, none⟩) n n l := by
  subst hl hn hg
  refine ⟨by rw [length_txtV, Nat.mul_one], Nat.le_refl _, hm, fun _ => ⟨_, _, rfl, by rw [World.size_alloc]; omega, fun j u hu => ?_⟩⟩
  rw [Nat.zero_add]
  have hc : (w.alloc (.cells (txtV l).toArray 9)).heap[w.heap.size]? = some (.cells (txtV l).toArray 9 (0, 0)) := heap_alloc_new _ _
  unfold World.cell?
  rw [hc]
  simpa using hu
theorem CutTo.as {kind : Int} {l : List UInt8} {w w' : World} {e : Ending} (r : List (List UInt8)) (n : Nat) (hr : cutsL kind usualT l = r) (hn : r.length = n) (h : CutTo kind l w e w') : ∃ A c, e = .returned (.slice A n c) ∧ TxtAt w' w'.heap.size A n c r ∧ Below w.heap.size w w' := by
  subst hr hn
  obtain ⟨A, c, h1, h2, h3⟩ := h
  exact ⟨A, c, h1, RowAt.of_own h2, h3⟩
set_option maxRecDepth 100000 in
set_option maxHeartbeats 2000000 in
theorem fixed12 (w : World) (hU : UsualAt w) : Calls Tryd.prog 15 #[] w fun e w' => e = .returned (.bool true) ∧ Below w.heap.size w w' := by
  have HU := Lib.hid hU
  clear hU
  go_enter Tryd.func15, Tryd.ntmps15
  go_wp2_with fail
  refine (susual_any w HU.out).mono ?_
  rintro e w1 ⟨At, ct, rfl, ht1, hb1⟩
  have kc := fun (w : World) (C : Array Value) (n c : Nat) => Lib.run_convert_bytes_const (P := Tryd.prog) w 23 5 C n c Tryd.underlying23 Tryd.underlying5
  obtain ⟨w2, hw2⟩ : ∃ w2, w2 = w1.alloc (.cells #[.int .u8 39, .int .u8 114] 5 (2, 3)) := ⟨_, rfl⟩
  have hbt : BytesAt w2 w2.heap.size (some ⟨w1.heap.size, 0, none⟩) 2 2 [39, 114] := by
    rw [hw2]; exact const_bytes_at w1 [39, 114] _ 2 _ _ rfl rfl (by decide)
  have hb2 : Below w1.heap.size w1 w2 := by rw [hw2]; exact (Below.refl _ w1).alloc (Nat.le_refl _) _
  have HT2 := Lib.hid (show RangesAt w2 w2.heap.size At 51 ct usualT from RowAt.mono (RowAt.below ht1 hb2) hb2.size)
  have HBT := Lib.hid hbt
  have HB2 := Lib.hid (hb1.trans (hb2.mono hb1.size))
  have HW2 := Lib.hid hw2
  clear ht1 hbt hb1 hb2 hw2
  go_wp2_with fail
  try rw [show (#[Value.int .u8 39, .int .u8 114] : Array Value).size = 2 from rfl]
  rw [← HW2.out]
  refine (next_any 2 false w2 HBT.out HT2.out (by omega) (by decide) fx_next).mono ?_
  rintro e w3 ⟨rfl, hb3⟩
  have HB3 := Lib.hid (HB2.out.trans (hb3.mono HB2.out.size))
  have HU3 := Lib.hid (show UsualAt w3 from HU.out.later HB3.out)
  clear hb3 HBT HT2 HB2 HW2
  go_wp2_with fail
  refine (cut12_any (kind := 2) (strOf [73, 39, 108, 108, 32, 103, 111]) w3 HU3.out (by decide) (by decide) (by decide)).mono ?_
  intro e w4 hc
  obtain ⟨A4, c4, rfl, htx, hbb⟩ := CutTo.as (w := w3) [[73], [39, 108, 108], [32, 103, 111]] 3 fx_1 rfl hc
  obtain ⟨w5, hw5⟩ : ∃ w5, w5 = w4.alloc (.cells #[.string ⟨#[73]⟩, .string ⟨#[39, 108, 108]⟩, .string ⟨#[32, 103, 111]⟩] 9) := ⟨_, rfl⟩
  have hb5 : Below w4.heap.size w4 w5 := by rw [hw5]; exact (Below.refl _ w4).alloc (Nat.le_refl _) _
  have HTX4 := Lib.hid (show TxtAt w5 w5.heap.size (some ⟨w4.heap.size, 0, none⟩) 3 3 [[73], [39, 108, 108], [32, 103, 111]] from by rw [hw5]; exact txt_const [[73], [39, 108, 108], [32, 103, 111]] _ 3 rfl rfl rfl (by decide))
  have HTY4 := Lib.hid (show TxtAt w5 w5.heap.size A4 3 c4 [[73], [39, 108, 108], [32, 103, 111]] from RowAt.mono (RowAt.below htx hb5) hb5.size)
  have HB4 := Lib.hid (HB3.out.trans (hbb.mono HB3.out.size))
  have HB5 := Lib.hid (HB4.out.trans (hb5.mono HB4.out.size))
  have HW5 := Lib.hid (hw5)
  clear hc htx hbb hw5 hb5 HB3 HU3
  go_wp2_with fail
  rw [← HW5.out]
  refine (same12 w5 HTY4.out HTX4.out rfl).mono ?_
  rintro e w6 ⟨rfl, k4, rfl⟩
  have HB6 := Lib.hid (below_drewN' (n := k4) HB5.out)
  have HU6 := Lib.hid (show UsualAt (w5.drewN k4) from HU.out.later HB6.out)
  clear HTX4 HTY4 HB4 HB5 HW5
  go_wp2_with fail
  refine (cut12_any (kind := 2) (strOf [97, 32, 32, 98]) (w5.drewN k4) HU6.out (by decide) (by decide) (by decide)).mono ?_
  intro e w7 hc
  obtain ⟨A7, c7, rfl, htx, hbb⟩ := CutTo.as (w := (w5.drewN k4)) [[97], [32], [32, 98]] 3 fx_2 rfl hc
  obtain ⟨w8, hw8⟩ : ∃ w8, w8 = w7.alloc (.cells #[.string ⟨#[97]⟩, .string ⟨#[32]⟩, .string ⟨#[32, 98]⟩] 9) := ⟨_, rfl⟩
  have hb8 : Below w7.heap.size w7 w8 := by rw [hw8]; exact (Below.refl _ w7).alloc (Nat.le_refl _) _
  have HTX7 := Lib.hid (show TxtAt w8 w8.heap.size (some ⟨w7.heap.size, 0, none⟩) 3 3 [[97], [32], [32, 98]] from by rw [hw8]; exact txt_const [[97], [32], [32, 98]] _ 3 rfl rfl rfl (by decide))
  have HTY7 := Lib.hid (show TxtAt w8 w8.heap.size A7 3 c7 [[97], [32], [32, 98]] from RowAt.mono (RowAt.below htx hb8) hb8.size)
  have HB7 := Lib.hid (HB6.out.trans (hbb.mono HB6.out.size))
  have HB8 := Lib.hid (HB7.out.trans (hb8.mono HB7.out.size))
  have HW8 := Lib.hid (hw8)
  clear hc htx hbb hw8 hb8 HB6 HU6
  go_wp2_with fail
  rw [← HW8.out]
  refine (same12 w8 HTY7.out HTX7.out rfl).mono ?_
  rintro e w9 ⟨rfl, k7, rfl⟩
  have HB9 := Lib.hid (below_drewN' (n := k7) HB8.out)
  have HU9 := Lib.hid (show UsualAt (w8.drewN k7) from HU.out.later HB9.out)
  clear HTX7 HTY7 HB7 HB8 HW8
  go_wp2_with fail
  refine (cut12_any (kind := 3) (strOf [97, 32, 49, 50, 51, 52, 53, 10, 10, 32, 98]) (w8.drewN k7) HU9.out (by decide) (by decide) (by decide)).mono ?_
  intro e w10 hc
  obtain ⟨A10, c10, rfl, htx, hbb⟩ := CutTo.as (w := (w8.drewN k7)) [[97], [32], [49, 50, 51], [52, 53], [10, 10], [32, 98]] 6 fx_3 rfl hc
  obtain ⟨w11, hw11⟩ : ∃ w11, w11 = w10.alloc (.cells #[.string ⟨#[97]⟩, .string ⟨#[32]⟩, .string ⟨#[49, 50, 51]⟩, .string ⟨#[52, 53]⟩, .string ⟨#[10, 10]⟩, .string ⟨#[32, 98]⟩] 9) := ⟨_, rfl⟩
  have hb11 : Below w10.heap.size w10 w11 := by rw [hw11]; exact (Below.refl _ w10).alloc (Nat.le_refl _) _
  have HTX10 := Lib.hid (show TxtAt w11 w11.heap.size (some ⟨w10.heap.size, 0, none⟩) 6 6 [[97], [32], [49, 50, 51], [52, 53], [10, 10], [32, 98]] from by rw [hw11]; exact txt_const [[97], [32], [49, 50, 51], [52, 53], [10, 10], [32, 98]] _ 6 rfl rfl rfl (by decide))
  have HTY10 := Lib.hid (show TxtAt w11 w11.heap.size A10 6 c10 [[97], [32], [49, 50, 51], [52, 53], [10, 10], [32, 98]] from RowAt.mono (RowAt.below htx hb11) hb11.size)
  have HB10 := Lib.hid (HB9.out.trans (hbb.mono HB9.out.size))
  have HB11 := Lib.hid (HB10.out.trans (hb11.mono HB10.out.size))
  have HW11 := Lib.hid (hw11)
  clear hc htx hbb hw11 hb11 HB9 HU9
  go_wp2_with fail
  rw [← HW11.out]
  refine (same12 w11 HTY10.out HTX10.out rfl).mono ?_
  rintro e w12 ⟨rfl, k10, rfl⟩
  have HB12 := Lib.hid (below_drewN' (n := k10) HB11.out)
  have HU12 := Lib.hid (show UsualAt (w11.drewN k10) from HU.out.later HB12.out)
  clear HTX10 HTY10 HB10 HB11 HW11
  go_wp2_with fail
  go_ret
  exact ⟨rfl, HB12.out⟩
end Go.Proofs.YtkiggpbmlkfdpaaDoor
