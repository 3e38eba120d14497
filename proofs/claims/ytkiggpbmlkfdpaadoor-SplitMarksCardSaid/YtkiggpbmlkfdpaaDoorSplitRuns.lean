/- The walks of split.mark, of split.runs and of the iterator that it hands back. -/
import Derived.Shelf.Abstract
import Derived.Shelf.RegionOpen
import Derived.OwnWalkIn
import Derived.TacticsInMore
import Derived.LoopNIn
import Derived.LoopIn
import Derived.BigRegionIn
import Derived.Sort.QuietIn
import Derived.Test.YtkiggpbmlkfdpaaDoorRange
import Derived.Test.YtkiggpbmlkfdpaaDoorSplitLaw
namespace Go.Proofs.YtkiggpbmlkfdpaaDoor
open Go.RowKit Go.Shelf
attribute [local go_sem] Oper.semAt_some
set_option linter.unusedVariables false

theorem mark_any (s : Int) (w : World) : Calls Tryd.prog 51 #[.int .i64 s] w fun e w' => e = .returned (.bool (markS s)) ∧ w = w' := by
  by_cases h1 : s < 0
  · have h : markS s = true := decide_eq_true (.inl h1)
    rw [h]
    clear h
    go_enter Tryd.func51, Tryd.ntmps51
    go_wp2
    go_ret
    exact ⟨rfl, rfl⟩
  · by_cases h2 : 256 ≤ s
    · have h : markS s = true := decide_eq_true (.inr h2)
      rw [h]
      clear h
      go_enter Tryd.func51, Tryd.ntmps51
      go_wp2
      go_ret
      exact ⟨rfl, rfl⟩
    · have h : markS s = false := decide_eq_false (fun e => by omega)
      rw [h]
      clear h
      go_enter Tryd.func51, Tryd.ntmps51
      go_wp2
      go_ret
      exact ⟨rfl, rfl⟩
theorem info8 : (Tryd.prog.info? 5).map (fun i => (i.zero, i.size, i.bytes)) = some (some (.int .u8 0), 1, 1) := by kernel_rfl
theorem bytes_snoc (l : List UInt8) (s : Int) (h : 0 ≤ s ∧ s ≤ 255) : bytesV l ++ [.int .u8 s] = bytesV (l ++ [byteOf s]) := by
  have : ((byteOf s).toNat : Int) = s := ((byteOf_eq h.1 h.2).1 rfl).symm
  simp [bytesV, this]
/-- What rows of bytes of an iterator's own, at or beyond a block, may turn. -/
def ByteTurn (B : Nat) (J : List (List UInt8 × Bool) → World → Prop) : Prop :=
  ∀ pre W W' row, J pre W → W.grownBy W' row → (∀ r, row = some r → B ≤ r ∧ ∃ cs f, W.heap[r]? = some (.cells cs 5 f)) → J pre W'
theorem own_row8 {W : World} {B : Nat} {v : Value} {n : Nat} {xs : List Value} (h : W.ownsRow B 5 1 v n xs) : ∀ r, v.ownBlock = some r → B ≤ r ∧ ∃ cs f, W.heap[r]? = some (.cells cs 5 f) := by
  intro r hr
  rcases h.2 with ⟨rfl, _⟩ | ⟨g, cap, cur, rfl, hb, hgb, _⟩
  · simp [Value.ownBlock] at hr
  · obtain rfl : g = r := by simpa [Value.ownBlock] using hr
    exact ⟨hb, _, _, hgb⟩
theorem meas1 {m k : Nat} (h : k < m) : m - ((k : Int) + 1).toNat < m - ((k : Int)).toNat := by omega
theorem len_ok {a k m : Nat} (h1 : a ≤ k) (h2 : k ≤ m) (hm : m ≤ 100000) : a + 1 ≤ maxLen := by unfold maxLen; omega
theorem bytes_ok {a k m : Nat} (h1 : a ≤ k) (h2 : k ≤ m) (hm : m ≤ 100000) : (a + 1) * 1 ≤ 140737488355328 := by omega
theorem wrap_u8 {s : Int} (h : 0 ≤ s ∧ s ≤ 255) : IntKind.u8.wrap s = s := by unfold IntKind.wrap; simp [IntKind.bits, IntKind.signed]; omega
theorem in_wide {F : Fence} {n : Nat} {P : Program} {f : FuncId} {args : Array Value} {w : World} {R : Ending → World → Prop} (h : Hid (F = Fence.wide)) (c : Calls P f args w R) : CallsIn F n P f args w R := by rw [h.out]; exact callsIn_wide.2 c
set_option maxRecDepth 100000 in
set_option maxHeartbeats 2000000 in
theorem runs1_in (F : Fence) (HFW : Hid (F = Fence.wide)) (hro : F.round = none) (hf1 : F.fn 73) (hf2 : F.fn 51) (n : Nat) (hn : 1 ≤ n) (lb Bs n₀ B : Nat) (text : List Int) (A : Option Addr) (m c : Nat) (W0 : World) (hT : IntsAt W0 n₀ A m c text) (hm : m ≤ 100000) (hnB : n₀ ≤ B)
    (J : List (List UInt8 × Bool) → World → Prop) (hJ : ByteTurn B J) (hJB : ∀ pre W, J pre W → Below n₀ W0 W)
    (hY : ∀ pre A n' c l b W, J pre W → W.ownsRow B 5 1 (.slice A n' c) n' (bytesV l) → B ≤ W.heap.size → (∃ z, pre ++ (l, b) :: z = runsF [] text) → YieldAt F (n - 1) Tryd.prog lb #[.slice A n' c, .bool b] W fun e W' => e = .returned (.bool true) ∧ J (pre ++ [(l, b)]) W' ∧ B ≤ W'.heap.size)
    (W : World) (hBs : W.cell? ⟨Bs, 0, none⟩ = some (.slice A m c)) (h0 : J [] W) (hz : B ≤ W.heap.size) :
    CallsIn F n Tryd.prog 73 #[.func (.yield lb) #[] #[], .pointer (some ⟨Bs, 0, none⟩)] W fun e W' => (∃ v, e = .returned v) ∧ J (runsF [] text) W' := by
  obtain ⟨i0, hi, hz0, hz1, hz2⟩ := info_parts info8
  have hml := hT.len
  have hmc := hT.2.2.1
  have hmc' := hT.2.1
  unfold maxLen at hmc
  have HT := Lib.hid hT
  clear hT
  refine callsIn_of_wp Tryd.func73 rfl hf1 ?_ hro
  simp only [Tryd.ntmps73, List.size_toArray, List.length_cons, List.length_nil, Nat.reduceAdd, Nat.reduceSub, Array.replicate_succ, Array.replicate_zero, List.push_toArray, List.append_toArray, List.nil_append, List.cons_append]
  have HM := Lib.hid hml
  clear hml
  gi_wp2
  gi_loopw [3, 8] (fun v i wr => ∃ (pre : List (List UInt8 × Bool)) (k : Nat) (Ar : Option Addr) (nr cr : Nat) (acc : List UInt8), v = .slice Ar nr cr ∧ i = .int .i64 k ∧ k ≤ m ∧ nr ≤ k ∧ Hid (pre ++ runsF acc (text.drop k) = runsF [] text) ∧ Hid (J pre wr) ∧ Hid (wr.ownsRow B 5 1 (.slice Ar nr cr) nr (bytesV acc)) ∧ B ≤ wr.heap.size)
    (fun _ i _ => m - (intOf i).toNat)
  case atStart => exact ⟨[], 0, none, 0, 0, [], rfl, rfl, Nat.zero_le _, Nat.zero_le _, Lib.hid rfl, Lib.hid h0, Lib.hid (World.ownsRow_nil _ _ _ _), hz⟩
  case round =>
    obtain ⟨pre, k, Ar, nr, cr, acc, rfl, rfl, hk, hnr, HP, HJ, HO, hzr⟩ := hrel
    by_cases hlt : k < m
    · obtain ⟨b, off, rfl, hb, hc⟩ := HT.out.cells (Nat.lt_of_le_of_lt (Nat.zero_le _) hlt)
      have hkl : k < text.length := by rw [← HM.out]; exact hlt
      have hcell := ((hJB _ _ HJ.out).cell (p := ⟨b, off + k, none⟩) hb).trans (hc k hkl)
      obtain ⟨s, hs⟩ : ∃ s, text[k] = s := ⟨_, rfl⟩
      rw [hs] at hcell
      have hdr : text.drop k = s :: text.drop (k + 1) := by rw [List.drop_eq_getElem_cons hkl, hs]
      have HDR := Lib.hid hdr
      clear hc hs hdr
      cases hmk : markS s with
      | true =>
        have HP2 := Lib.hid (show ∃ z, pre ++ (acc, true) :: z = runsF [] text from ⟨runsF [] (text.drop (k + 1)), by
          rw [← HP.out, HDR.out, runsF, if_pos hmk]⟩)
        have HP3 := Lib.hid (show (pre ++ [(acc, true)]) ++ runsF [] (text.drop (k + 1)) = runsF [] text from by
          rw [← HP.out, HDR.out, runsF, if_pos hmk]; simp)
        have HMK := Lib.hid hmk
        clear hmk
        gi_wp2_with (gi_at_call 51; refine (in_wide HFW (mark_any s _)).mono ?_; rw [HMK.out]; rintro e w' ⟨rfl, rfl⟩; obtain ⟨fn, tmps, assign, body, hy, hR⟩ := hY pre Ar nr cr acc true wr HJ.out HO.out hzr HP2.out)
        refine hR.mono ?_
        rintro e W3 ⟨rfl, hJ3, hz3⟩
        gi_wp2
        go_roundw
        case rel => exact ⟨pre ++ [(acc, true)], k + 1, none, 0, 0, [], rfl, by go_num, hlt, Nat.zero_le _, HP3, Lib.hid hJ3, Lib.hid (World.ownsRow_nil _ _ _ _), hz3⟩
        case measure => exact meas1 hlt
      | false =>
        have hbd := mark_no hmk
        have HP3 := Lib.hid (show pre ++ runsF (acc ++ [byteOf s]) (text.drop (k + 1)) = runsF [] text from by
          rw [← HP.out, HDR.out, runsF, if_neg (by rw [hmk]; decide)])
        have HMK := Lib.hid hmk
        have hw8 : IntKind.u8.wrap s = s := wrap_u8 hbd
        clear hmk
        gi_wp2_with (first
          | (gi_at_call 51; refine (in_wide HFW (mark_any s _)).mono ?_; rw [HMK.out]; rintro e w' ⟨rfl, rfl⟩)
          | (gi_at_builtin; refine wpListIn_append_own _ rfl _ _ 23 rfl B 5 i0 (.int .u8 0) 1 1 Tryd.underlying23 hi hz0 hz1 hz2 rfl (by decide) _ _ _ rfl (HO.out.alloc _) ⟨wr.heap.size, 0, none⟩ 1 1 [.int .u8 s] rfl rfl (cell_one_new _ _ _) (by simp [Value.oneCell']) (len_ok hnr hk hm) (bytes_ok hnr hk hm) (by rw [World.size_alloc]; exact Nat.le_succ_of_le hzr) ?_; intro v' w1 hown' hgrow _; obtain ⟨g', cap', rfl⟩ := ownsRow_succ hown'))
        have hg0 := World.grownBy_alloc wr (.cells #[.int .u8 s] 5) none
        have hJ1 := hJ pre _ _ none HJ.out hg0 (fun r e => by cases e)
        have hJ2 := hJ pre _ _ _ hJ1 hgrow (own_row8 (HO.out.alloc _))
        have hz2' := hgrow.size
        rw [World.size_alloc] at hz2'
        go_roundw
        case rel => exact ⟨pre, k + 1, _, nr + 1, cap', acc ++ [byteOf s], rfl, by go_num, hlt, Nat.succ_le_succ hnr, HP3, Lib.hid hJ2, Lib.hid (by rw [← bytes_snoc acc s hbd]; exact hown'), Nat.le_trans hzr (Nat.le_trans (Nat.le_succ _) hz2')⟩
        case measure => exact meas1 hlt
    · obtain rfl : k = m := Nat.le_antisymm hk (Nat.le_of_not_lt hlt)
      have hd0 : text.drop k = [] := List.drop_of_length_le (by rw [← HM.out]; exact Nat.le_refl _)
      have HP2 := Lib.hid (show ∃ z, pre ++ (acc, false) :: z = runsF [] text from ⟨[], by rw [← HP.out, hd0, runsF]⟩)
      have HP3 := Lib.hid (show pre ++ [(acc, false)] = runsF [] text from by rw [← HP.out, hd0, runsF])
      clear hd0
      obtain ⟨fn, tmps, assign, body, hy, hR⟩ := hY pre Ar nr cr acc false wr HJ.out HO.out hzr HP2.out
      gi_wp2
      refine hR.mono ?_
      rintro e W3 ⟨rfl, hJ3, hz3⟩
      gi_wp2
      go_end0
      exact ⟨⟨_, rfl⟩, by rw [← HP3.out]; exact hJ3⟩
end Go.Proofs.YtkiggpbmlkfdpaaDoor
