/- The walk of line.parts and of the iterator that it hands back. -/
import Derived.RangeFuncBox
import Derived.RangeFuncLeaves
import Derived.RangeFuncBound
import Derived.RangeFuncCalls
import Derived.Shelf.Abstract
import Derived.Shelf.RegionOpen
import Derived.WalkKit
import Derived.OwnWalkIn
import Derived.TacticsInMore
import Derived.LoopNIn
import Derived.LoopIn
import Derived.Maps.AppendAt
import Derived.BigRegionIn
import Derived.Sort.QuietIn
import Derived.Test.YtefhifmilmedhaaDoorWords
import Derived.Test.YtefhifmilmedhaaDoorLineLaw
import Derived.Test.YtefhifmilmedhaaDoorProg
namespace Go.Proofs.YtefhifmilmedhaaDoor
open Go.RowKit Go.Shelf
attribute [local go_sem] Oper.semAt_some

abbrev encS (x : List UInt8) : Array Value := #[.string (strOf x)]

theorem below_drewN {B : Nat} {a w : World} (h : Below B a w) (k : Nat) : Below B a (w.drewN k) := ⟨h.os, h.tape, h.output, h.size, h.block⟩
/-- What a round keeps for the iterator: what lies below n₀, and its two boxes. -/
def KeepP (n₀ B : Nat) (W W' : World) : Prop := Below n₀ W W' ∧ W'.heap[B]? = W.heap[B]? ∧ W'.heap[B + 1]? = W.heap[B + 1]?
theorem KeepP.refl (n₀ B : Nat) (W : World) : KeepP n₀ B W W := ⟨Below.refl _ _, rfl, rfl⟩
theorem KeepP.trans {n₀ B : Nat} {U V W : World} (h : KeepP n₀ B U V) (h' : KeepP n₀ B V W) : KeepP n₀ B U W := ⟨h.1.trans h'.1, h'.2.1.trans h.2.1, h'.2.2.trans h.2.2⟩
theorem KeepP.drewN {n₀ B : Nat} {U V : World} (h : KeepP n₀ B U V) (k : Nat) : KeepP n₀ B U (V.drewN k) := ⟨below_drewN h.1 k, h.2.1, h.2.2⟩
theorem strOf_extract (s : ByteArray) (a b : Nat) : s.extract a b = strOf ((s.data.toList.drop a).take (b - a)) := by
  have h := Lib.extract_data s a b
  rw [← h]
  exact (strOf_data _).symm
theorem strOf_from (s : ByteArray) (a : Nat) : s.extract a s.size = strOf (s.data.toList.drop a) := by
  rw [strOf_extract]
  congr 1
  exact List.take_of_length_le (by rw [List.length_drop, str_len]; exact Nat.le_refl _)

set_option maxRecDepth 100000 in
set_option maxHeartbeats 1000000 in
theorem parts1_in (F : Fence) (n : Nat) (hf : F.fn 54) (hro : F.round = none) (hn : 1 ≤ n) (lb Bs n₀ : Nat) (s : ByteArray) (c : UInt8) (hs : s.size ≤ maxLen) (J Jx : List (List UInt8) → World → Prop) (hJd : ∀ pre w k, J pre w → J pre (w.drewN k))
    (hY : ∀ pre x W, J pre W → pre.length < s.size + 1 → YieldAt F (n - 1) Tryd.prog lb (encS x) W fun e W' =>
      (e = .returned (.bool true) ∧ J (pre ++ [x]) W' ∧ KeepP n₀ Bs W W') ∨ (e = .returned (.bool false) ∧ Jx (pre ++ [x]) W'))
    (W : World) (hBs : W.cell? ⟨Bs, 0, none⟩ = some (.string s)) (hBc : W.cell? ⟨Bs + 1, 0, none⟩ = some (.int .u8 (c.toNat : Int))) (h0 : J [] W) :
    CallsIn F n Tryd.prog 54 #[.func (.yield lb) #[] #[], .pointer (some ⟨Bs, 0, none⟩), .pointer (some ⟨Bs + 1, 0, none⟩)] W fun e W' => (∃ v, e = .returned v) ∧
      ((∃ ys, ys = partsF c [] s.data.toList ∧ J ys W') ∨ (∃ pre, pre <+: partsF c [] s.data.toList ∧ Jx pre W')) := by
  obtain ⟨Ff, Fd, Fa, Fr⟩ := F
  obtain rfl : Fr = none := hro
  refine callsIn_of_wp Tryd.func54 rfl hf ?_ rfl
  simp only [Tryd.ntmps54, List.size_toArray, List.length_cons, List.length_nil, Nat.reduceAdd, Nat.reduceSub, Array.replicate_succ, Array.replicate_zero, List.push_toArray, List.append_toArray, List.nil_append, List.cons_append]
  gi_wp2
  gi_loopw [4, 8] (fun f i wr => ∃ (a k : Nat) (pre : List (List UInt8)), a ≤ k ∧ k ≤ s.size ∧ f = .int .i64 a ∧ i = .int .i64 k ∧ pre ++ partsF c ((s.data.toList.drop a).take (k - a)) (s.data.toList.drop k) = partsF c [] s.data.toList ∧ J pre wr ∧ KeepP n₀ Bs W wr)
    (fun _ i _ => s.size - (intOf i).toNat)
  case atStart => exact ⟨0, 0, [], Nat.le_refl _, Nat.zero_le _, rfl, rfl, by simp, h0, KeepP.refl _ _ _⟩
  case round =>
    obtain ⟨a, k, pre, hak, hk, rfl, rfl, hall, hJ, hb⟩ := hrel
    have c1 := (World.cell?_of_block (a := ⟨Bs, 0, none⟩) hb.2.1).trans hBs
    have c2 := (World.cell?_of_block (a := ⟨Bs + 1, 0, none⟩) hb.2.2).trans hBc
    by_cases hlt : k < s.size
    · have hw1 : wrap64 ((k : Int) + 1) = ((k + 1 : Nat) : Int) := by unfold maxLen at hs; unfold wrap64; omega
      have hdr : s.data.toList.drop k = s[k] :: s.data.toList.drop (k + 1) := List.drop_eq_getElem_cons (by rw [str_len]; exact hlt)
      have hpl : pre.length < s.size + 1 := by
        have h1 := congrArg List.length hall
        rw [List.length_append] at h1
        have h2 := partsF_length c s.data.toList []
        rw [str_len] at h2
        have h3 := List.length_pos_iff.2 (partsF_ne c (s.data.toList.drop k) ((s.data.toList.drop a).take (k - a)))
        omega
      have hJ' := fun q => hJd _ _ q hJ
      by_cases hx : s[k] = c
      · have hx' := bne_no (a := (s[k].toNat : Int)) (b := (c.toNat : Int)) (by rw [hx])
        have hall' : (pre ++ [(s.data.toList.drop a).take (k - a)]) ++ partsF c [] (s.data.toList.drop (k + 1)) = partsF c [] s.data.toList := by
          rw [← hall, hdr, partsF, if_pos hx]; simp
        have HX := Lib.hid hx
        have HA := Lib.hid hall'
        have HL := Lib.hid hall
        clear hx hall hall' hdr
        gi_wp2
        gi_quiet (fail)
        obtain ⟨fn, tmps, assign, body, hy, hR⟩ := hY pre ((s.data.toList.drop a).take (k - a)) (wr.drewN nq) (hJ' nq) hpl
        rw [show encS ((s.data.toList.drop a).take (k - a)) = #[Value.string (s.extract a k)] from by rw [strOf_extract]] at hy
        gi_wp2
        refine hR.mono ?_
        rintro e W3 (⟨rfl, hJ3, hk3⟩ | ⟨rfl, hJx3⟩)
        · gi_wp2
          go_roundw
          case rel => exact ⟨k + 1, k + 1, _, Nat.le_refl _, by omega, by rw [hw1], by rw [hw1], by rw [Nat.sub_self, List.take_zero]; exact HA.out, hJ3, (hb.drewN _).trans hk3⟩
          case measure => rw [hw1]; show s.size - (((k + 1 : Nat) : Int)).toNat < s.size - ((k : Int)).toNat; omega
        · gi_wp2
          refine bodyPost_ret (results_none rfl _ _ _) rfl ?_
          exact ⟨⟨_, rfl⟩, .inr ⟨_, ⟨_, HA.out⟩, hJx3⟩⟩
      · have hx' := bne_yes (a := (s[k].toNat : Int)) (b := (c.toNat : Int)) (fun e => hx (UInt8.toNat_inj.1 (by omega)))
        have hall' : pre ++ partsF c ((s.data.toList.drop a).take (k + 1 - a)) (s.data.toList.drop (k + 1)) = partsF c [] s.data.toList := by
          rw [← hall, hdr, partsF, if_neg hx]
          congr 2
          rw [show k + 1 - a = (k - a) + 1 from by omega, List.take_add_one, List.getElem?_drop, show a + (k - a) = k from by omega, List.getElem?_eq_getElem (by rw [str_len]; exact hlt)]
          rfl
        have HA := Lib.hid hall'
        clear hall hall' hdr hx
        gi_wp2
        gi_quiet (fail)
        gi_wp2
        go_roundw
        case rel => exact ⟨a, k + 1, pre, by omega, by omega, rfl, by rw [hw1], HA.out, hJ' _, hb.drewN _⟩
        case measure => rw [hw1]; show s.size - (((k + 1 : Nat) : Int)).toNat < s.size - ((k : Int)).toNat; omega
    · obtain rfl : k = s.size := by omega
      have hpl : pre.length < s.size + 1 := by
        have h1 := congrArg List.length hall
        rw [List.length_append] at h1
        have h2 := partsF_length c s.data.toList []
        rw [str_len] at h2
        have h3 := List.length_pos_iff.2 (partsF_ne c (s.data.toList.drop s.size) ((s.data.toList.drop a).take (s.size - a)))
        omega
      have hd0 : s.data.toList.drop s.size = [] := List.drop_of_length_le (by rw [str_len]; exact Nat.le_refl _)
      have ht0 : (s.data.toList.drop a).take (s.size - a) = s.data.toList.drop a := List.take_of_length_le (by rw [List.length_drop, str_len]; exact Nat.le_refl _)
      rw [hd0, ht0] at hall
      simp only [partsF] at hall
      obtain ⟨fn, tmps, assign, body, hy, hR⟩ := hY pre (s.data.toList.drop a) wr hJ hpl
      rw [show encS (s.data.toList.drop a) = #[Value.string (s.extract a s.size)] from by rw [strOf_from]] at hy
      have HA := Lib.hid hall
      clear hall hd0 ht0
      gi_wp2
      refine hR.mono ?_
      rintro e W3 (⟨rfl, hJ3, hk3⟩ | ⟨rfl, hJx3⟩)
      · gi_wp2
        go_end0
        exact ⟨⟨_, rfl⟩, .inl ⟨_, HA.out, hJ3⟩⟩
      · gi_wp2
        go_end0
        exact ⟨⟨_, rfl⟩, .inr ⟨_, ⟨[], by rw [List.append_nil]; exact HA.out⟩, hJx3⟩⟩

set_option maxHeartbeats 1000000 in
/-- parts hands back the iterator over two boxes. -/
theorem parts_in (F : Fence) (n : Nat) (hf : F.fn 36) (hro : F.round = none) (s : ByteArray) (z : Int) (w : World) :
    CallsIn F n Tryd.prog 36 #[.string s, .int .u8 z] w fun e w' => e = .returned (.func (.func 54) #[] #[.pointer (some ⟨w.heap.size, 0, none⟩), .pointer (some ⟨w.heap.size + 1, 0, none⟩)]) ∧
      w' = (w.alloc (.cells #[.string s] 9)).alloc (.cells #[.int .u8 z] 5) := by
  refine callsIn_of_wp Tryd.func36 rfl hf ?_ hro
  simp only [Tryd.ntmps36, List.size_toArray, List.length_cons, List.length_nil, Nat.reduceAdd, Nat.reduceSub, Array.replicate_succ, Array.replicate_zero, List.push_toArray, List.append_toArray, List.nil_append, List.cons_append]
  gi_wp2
  go_ret
  exact ⟨rfl, rfl⟩

/-- The iterator: all parts, or first ones, where a round says 'no more'. -/
theorem parts_stops (F : Fence) (n : Nat) (hf : F.fn 54) (hro : F.round = none) (hn : 1 ≤ n) (Bs n₀ : Nat) (s : ByteArray) (c : UInt8) (hs : s.size ≤ maxLen) (w : World) (hB : Bs + 1 < w.heap.size)
    (hBs : w.cell? ⟨Bs, 0, none⟩ = some (.string s)) (hBc : w.cell? ⟨Bs + 1, 0, none⟩ = some (.int .u8 (c.toNat : Int))) :
    SeqStopsK F n Tryd.prog 54 #[.pointer (some ⟨Bs, 0, none⟩), .pointer (some ⟨Bs + 1, 0, none⟩)] encS (KeepP n₀ Bs) (fun ys => ys = partsF c [] s.data.toList) (fun pre => pre <+: partsF c [] s.data.toList) (s.size + 1) w := fun lb J Jx W hW hJ _ hY h0 =>
  parts1_in F n hf hro hn lb Bs n₀ s c hs J Jx (fun pre W k h => hJ pre W _ none h ⟨rfl, rfl, rfl, Nat.le_refl _, fun _ _ _ => rfl⟩ (fun r e => by cases e)) hY W ((hW.cell (p := ⟨Bs, 0, none⟩) (by show Bs < _; omega)).trans hBs) ((hW.cell (p := ⟨Bs + 1, 0, none⟩) hB).trans hBc) h0
/-- What turns of no cells beyond a world's blocks keeps. -/
theorem keepP_b {n₀ Bs : Nat} {w : World} (h0 : n₀ ≤ w.heap.size) (hB : Bs + 1 < w.heap.size) (W : World) (l : Nat) (o o' : Obj) (hl : w.heap.size ≤ l) (ho : W.heap[l]? = some o) (hc : o.isCells = false) (hw : o.isWalk = false) : KeepP n₀ Bs W (W.putObj l o') := by
  refine ⟨belowK_b h0 W l o o' hl ho hc hw, ?_, ?_⟩
  · exact (belowK_b (n₀ := Bs + 1) (by omega) W l o o' hl ho hc hw).block Bs (by omega)
  · exact (belowK_b (n₀ := Bs + 2) (by omega) W l o o' hl ho hc hw).block (Bs + 1) (by omega)
end Go.Proofs.YtefhifmilmedhaaDoor
