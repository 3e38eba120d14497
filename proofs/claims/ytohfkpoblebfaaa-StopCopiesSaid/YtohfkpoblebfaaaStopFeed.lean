/- A watch sees a row. -/
import Derived.Test.YtohfkpoblebfaaaStopMem
import Derived.Test.YtohfkpoblebfaaaAhoKeep
namespace Go.Proofs.Ytohfkpoblebfaaa
open Go.RowKit
set_option linter.unusedVariables false

/-- Nothing but one block is unlike. -/
structure Aside (q : Nat) (w w' : World) : Prop where
  os : w'.os = w.os
  tape : w'.tape = w.tape
  output : w'.output = w.output
  size : w.heap.size ≤ w'.heap.size
  block : ∀ k, k < w.heap.size → k ≠ q → w'.heap[k]? = w.heap[k]?
section
variable {q : Nat} {w w' w'' : World}
theorem Aside.refl (q : Nat) (w : World) : Aside q w w := ⟨rfl, rfl, rfl, Nat.le_refl _, fun _ _ _ => rfl⟩
theorem Aside.trans (h : Aside q w w') (k : Aside q w' w'') : Aside q w w'' :=
  ⟨k.os.trans h.os, k.tape.trans h.tape, k.output.trans h.output, Nat.le_trans h.size k.size, fun i hi hq => (k.block i (Nat.lt_of_lt_of_le hi h.size) hq).trans (h.block i hi hq)⟩
theorem Aside.of_below (h : Below w.heap.size w w') : Aside q w w' := ⟨h.os, h.tape, h.output, h.size, fun k hk _ => h.block k hk⟩
theorem Aside.set (h : Aside q w w') (i : Nat) (v : Value) : Aside q w (w'.setCell ⟨q, i, none⟩ v) :=
  ⟨h.os, h.tape, h.output, by simpa using h.size, fun k hk hq => (Below.heap_setCell w' ⟨q, i, none⟩ v k hq).trans (h.block k hk hq)⟩
theorem Aside.below (h : Aside q w w') {B : Nat} (hB : B ≤ q) (hw : B ≤ w.heap.size) : Below B w w' := ⟨h.os, h.tape, h.output, h.size, fun k hk => h.block k (by omega) (by omega)⟩
end
theorem WBlk.set1 {w : World} {q g : Nat} {st sn pl fr v : Int} (h : WBlk w q g st sn pl fr) : WBlk (w.setCell ⟨q, 1, none⟩ (.int .i64 v)) q g v sn pl fr := heap_set_at h
theorem WBlk.set2 {w : World} {q g : Nat} {st sn pl fr v : Int} (h : WBlk w q g st sn pl fr) : WBlk (w.setCell ⟨q, 2, none⟩ (.int .i64 v)) q g st v pl fr := heap_set_at h
theorem WBlk.set3 {w : World} {q g : Nat} {st sn pl fr v : Int} (h : WBlk w q g st sn pl fr) : WBlk (w.setCell ⟨q, 3, none⟩ (.int .i64 v)) q g st sn v fr := heap_set_at h
theorem WBlk.set4 {w : World} {q g : Nat} {st sn pl fr v : Int} (h : WBlk w q g st sn pl fr) : WBlk (w.setCell ⟨q, 4, none⟩ (.int .i64 v)) q g st sn pl v := heap_set_at h
/-- A row that does not lie in a block. -/
def Off (q : Nat) (A : Option Addr) : Prop := ∀ b off s, A = some ⟨b, off, s⟩ → b ≠ q
theorem RowAt.aside {q B size n c : Nat} {w w' : World} {A : Option Addr} {xs : List Value} (h : RowAt w B size A n c xs) (hB : B ≤ w.heap.size) (ho : 0 < n → Off q A) (ha : Aside q w w') : RowAt w' B size A n c xs := by
  refine ⟨h.1, h.2.1, h.2.2.1, fun hn => ?_⟩
  obtain ⟨b, off, e, hb, hc⟩ := h.2.2.2 hn
  refine ⟨b, off, e, hb, fun j u hu => ?_⟩
  rw [World.cell?_of_block (w := w) (ha.block b (by omega) (ho hn _ _ _ e))]
  exact hc j u hu
theorem ends_le (l : List Wd) (u : Wd) : (endsOf l u).2 ≤ u.length := by
  have key : ∀ (l : List Wd) (k : Nat) (acc : Int × Nat), acc.2 ≤ u.length → (endsGo u l k acc).2 ≤ u.length := by
    intro l
    induction l with
    | nil => intro k acc h; exact h
    | cons p r ih =>
      intro k acc h
      rw [endsGo]
      refine ih _ _ ?_
      split
      · rename_i hc; exact hc.2.length_le
      · exact h
  exact key l 0 (-1, 0) (Nat.zero_le _)
def FeedTo (l : List Wd) (s t : Wd) (w0 : World) (q B g : Nat) (ns : List Nd) (W : List Wd) (f : Vs) (A : Option Addr) (c : Nat) (w : World) (e : Ending) (w' : World) : Prop :=
  e = .returned (.tuple #[.int .i64 ((((feedS l s t).length - s.length : Nat) : Nat) : Int), .bool (hitB l (feedS l s t))]) ∧ WAt w0 w' l q (feedS l s t) B g ns W f A c ∧ Aside q w w'

set_option maxRecDepth 100000 in
set_option maxHeartbeats 4000000 in
theorem feed_as {w0 : World} {l W : List Wd} {B g c q n1 c1 : Nat} {ns : List Nd} {f : Vs} {A A1 : Option Addr} {s t : Wd} (w : World) (h : WAt w0 w l q s B g ns W f A c) (hu : IntsAt w w.heap.size A1 n1 c1 t) (ho : 0 < n1 → Off q A1) (hl : s.length + t.length ≤ 1000000) :
    Calls Try.prog 29 #[.pointer (some ⟨q, 0, none⟩), .slice A1 n1 c1] w (FeedTo l s t w0 q B g ns W f A c w) := by
  have hn := hu.len
  have hcap := hu.2.2.1
  have hcn := hu.2.1
  unfold maxLen at hcap
  have HN := Lib.hid hn
  have HU := Lib.hid hu
  have HOF := Lib.hid ho
  have HLL := Lib.hid hl
  have HW := Lib.hid h
  clear hn hu ho hl h
  go_enter Try.func29, Try.ntmps29
  go_wp2_with fail
  go_loopw [14] (fun i wr => ∃ (k : Nat) (cur : Wd), k ≤ n1 ∧ i = .int .i64 (k : Int) ∧ Hid (feedS l s (t.take k) = cur ∧ cur.length = s.length + k) ∧ WAt w0 wr l q cur B g ns W f A c ∧ Aside q w wr) (fun i _ => n1 - (intOf i).toNat)
  case atStart => exact ⟨0, s, Nat.zero_le _, rfl, Lib.hid ⟨rfl, rfl⟩, HW.out, Aside.refl _ _⟩
  case round =>
    clear HW
    obtain ⟨k, cur, hk, rfl, HC, hw, ha⟩ := hrel
    have HW := Lib.hid hw
    have HA := Lib.hid ha
    obtain ⟨st, hb, hs⟩ := hw.blk
    have hhn := hitB_ne l cur
    obtain ⟨o, ho⟩ : ∃ o, hitB l cur = o := ⟨_, rfl⟩
    rw [ho] at hhn
    have HHN := Lib.hid hhn
    have HO := Lib.hid ho
    have HB := Lib.hid hb
    have HS := Lib.hid hs
    clear hw ha hhn ho hs
    by_cases hlt : k < n1
    · have hku : k < t.length := by have := HN.out; omega
      have HUr := Lib.hid (RowAt.aside HU.out (Nat.le_refl _) HOF.out HA.out)
      obtain ⟨b, off, rfl, hbl, hc⟩ := IntsAt.cells HUr.out (by omega)
      obtain ⟨x, hx⟩ : ∃ x, t[k]'hku = x := ⟨_, rfl⟩
      have e0 := hc k hku
      rw [hx] at e0
      have HTK := Lib.hid (show t.take (k + 1) = t.take k ++ [x] from by rw [List.take_add_one, List.getElem?_eq_getElem hku, hx]; rfl)
      clear hc hx
      obtain ⟨c0, c1', c2, c3, c4⟩ := hb.cells
      clear hb
      cases o with
      | true =>
        have HE := Lib.hid (show feedS l s t = cur from by
          have h1 := feedS_app l s (t.take k) (t.drop k)
          rw [List.take_append_drop, HC.out.1] at h1
          rw [h1]; exact feedS_hit HO.out _)
        go_wp2_with fail
        refine (hit_any wr HB.out HHN.out).mono ?_
        rintro e w' ⟨rfl, rfl⟩
        go_wp2_with fail
        go_ret2
        refine ⟨?_, by rw [HE.out]; exact HW.out, HA.out⟩
        rw [HE.out, HO.out, show cur.length - s.length = k by have := HC.out.2; omega]
        rfl
      | false =>
        have hq := HW.out.lt
        have CS := Lib.hid (show ∀ w, Below wr.heap.size wr w → Calls Try.prog 19 #[.pointer (some ⟨g, 0, none⟩), .int .i64 st, .int .i64 x] w fun e w' => ∃ t2 : Nat, e = .returned (.int .i64 (t2 : Int)) ∧ Hid (t2 < W.length ∧ wd W t2 = lsuf W (cur ++ [x])) ∧ Hid (WBlk w' q g st (cur.length : Int) (endsOf l cur).1 (fromW l cur)) ∧ Hid (Below wr.heap.size wr w') ∧ w'.cell? ⟨q, 1, none⟩ = some (.int .i64 st) ∧ w'.frozen? ⟨q, 1, none⟩ = false from fun w hw => by
          refine (step_as st x w (HW.out.mkl.below hw) HS.out).mono ?_
          rintro e w' ⟨t2, rfl, h1, h2, h3⟩
          have h4 := hw.trans (h3.mono hw.size)
          exact ⟨t2, rfl, ⟨h1, h2⟩, HB.out.below h4, h4, (HB.out.below h4).cells.2.1, Lib.frozen_of_heap (HB.out.below h4) 1⟩)
        go_wp2_with fail
        refine (hit_any wr HB.out HHN.out).mono ?_
        rintro e w' ⟨rfl, rfl⟩
        go_wp2_with fail
        go_region_with (go_at_call 19; refine (CS.out _ (by first | exact Below.refl _ _ | exact Below.drew (Below.refl _ _))).mono ?_; rintro e w2 ⟨t2, rfl, HT2, HB2, HL2, k1, f1⟩)
        all_goals
          obtain ⟨wA, hwA⟩ : ∃ wA, wA = w2.setCell ⟨q, 1, none⟩ (.int .i64 (t2 : Int)) := ⟨_, rfl⟩
          have BA := Lib.hid (show WBlk wA q g (t2 : Int) (cur.length : Int) (endsOf l cur).1 (fromW l cur) from by rw [hwA]; exact WBlk.set1 HB2.out)
          have AA := Lib.hid (show Aside q wr wA from by rw [hwA]; exact (Aside.of_below HL2.out).set 1 _)
          have hqA : q < wA.heap.size := BA.out.lt
          rw [← hwA]
          obtain ⟨-, -, a2, -, -⟩ := BA.out.cells
          have fa2 := Lib.frozen_of_heap BA.out 2
          have hwl : IntKind.i64.wrap ((cur.length : Int) + 1) = (cur.length : Int) + 1 := by have := HC.out.2; have := HLL.out; rw [IntKind.wrap_i64]; omega
          clear hwA HB2 HL2 k1 f1 c0 c1' c2 c3 c4 CS
          go_wp2_with fail
          obtain ⟨wB, hwB⟩ : ∃ wB, wB = wA.setCell ⟨q, 2, none⟩ (.int .i64 ((cur.length : Int) + 1)) := ⟨_, rfl⟩
          have BB := Lib.hid (show WBlk wB q g (t2 : Int) ((cur.length : Int) + 1) (endsOf l cur).1 (fromW l cur) from by rw [hwB]; exact WBlk.set2 BA.out)
          have AB := Lib.hid (show Aside q wr wB from by rw [hwB]; exact AA.out.set 2 _)
          rw [← hwB]
          have LB := Lib.hid (show Below w0.heap.size w0 wB from HW.out.bel.trans (AB.out.below HW.out.far HW.out.bel.size))
          have SN := Lib.hid (HW.out.mac.stands_nat HT2.out.1 HT2.out.2)
          obtain ⟨pl, hpl⟩ : ∃ pl, (endsOf l (cur ++ [x])).1 = pl := ⟨_, rfl⟩
          obtain ⟨lg, hlg⟩ : ∃ lg, (endsOf l (cur ++ [x])).2 = lg := ⟨_, rfl⟩
          have HPL := Lib.hid hpl
          have HLG := Lib.hid hlg
          have CE := Lib.hid (show ∀ w, Below wB.heap.size wB w → Calls Try.prog 20 #[.pointer (some ⟨g, 0, none⟩), .int .i64 (t2 : Int)] w fun e w' => e = .returned (.tuple #[.int .i64 pl, .int .i64 (lg : Int)]) ∧ Below wB.heap.size wB w' ∧ w'.cell? ⟨q, 0, none⟩ = some (.pointer (some ⟨g, 0, none⟩)) ∧ w'.cell? ⟨q, 1, none⟩ = some (.int .i64 (t2 : Int)) from fun w hw => by
            refine (ends_as (t2 : Int) w ((HW.out.mac.below LB.out).below hw) SN.out).mono ?_
            rintro e w' ⟨rfl, h1⟩
            have h2 := hw.trans (h1.mono hw.size)
            exact ⟨by rw [HPL.out, HLG.out], h2, (BB.out.below h2).cells.1, (BB.out.below h2).cells.2.1⟩)
          obtain ⟨b0, b1, -, -, -⟩ := BB.out.cells
          have HBB := BB
          clear hwB hpl hlg BA AA a2 fa2 hqA
          have hS0 : Below wB.heap.size wB wB := Below.refl _ _
          go_region_held3 (fun w' => Below wB.heap.size wB w' ∧ w'.cell? ⟨q, 0, none⟩ = some (.pointer (some ⟨g, 0, none⟩)) ∧ w'.cell? ⟨q, 1, none⟩ = some (.int .i64 (t2 : Int))) (first | (refine ⟨?_, ?_, ?_⟩ <;> (first | assumption | exact Below.drew (by assumption))) | go_keep) (first | (go_at_call 20; refine (CE.out _ (by first | assumption | exact Below.drew (by assumption) | exact Below.refl _ _ | exact Below.drew (Below.refl _ _))).mono ?_; rintro e wC ⟨rfl, LC, k0, k1⟩))
          all_goals
            have BC := Lib.hid (BB.out.below LC)
            have AC := Lib.hid (AB.out.trans (Aside.of_below LC))
            have LWC := Lib.hid (LB.out.trans (LC.mono LB.out.size))
            have HFD := Lib.hid (show feedS l s (t.take (k + 1)) = cur ++ [x] ∧ (cur ++ [x]).length = s.length + (k + 1) from by
              refine ⟨?_, by have := HC.out.2; simp; omega⟩
              rw [HTK.out, feedS_snoc, HC.out.1]
              unfold stepS
              rw [if_neg (by rw [HO.out]; decide)])
            obtain ⟨-, -, d2, d3, d4⟩ := BC.out.cells
            have f3 := Lib.frozen_of_heap BC.out 3
            have f4 := Lib.frozen_of_heap BC.out 4
            have hk1' : k + 1 ≤ n1 := by omega
            clear LC k0 k1 hS0
            by_cases hpm : pl = -1
            · have hb0 := bne_no hpm
              have HWA := Lib.hid (show WAt w0 wC l q (cur ++ [x]) B g ns W f A c from ⟨HW.out.mac, LWC.out, HW.out.far, (t2 : Int), by
                have h1 := BC.out
                have h2 : fromW l (cur ++ [x]) = fromW l cur := by
                  unfold fromW
                  rw [if_neg (by rw [hitB_iff, HPL.out]; simpa using hpm), if_neg (by rw [HO.out]; decide)]
                rw [hitB_no.1 HO.out] at h1
                rw [HPL.out, hpm, h2, List.length_append]
                exact h1, SN.out⟩)
              clear hpm
              go_wp2_with fail
              go_roundw
              case rel => exact ⟨k + 1, cur ++ [x], hk1', by go_num, HFD, HWA.out, HA.out.trans AC.out⟩
              case measure => simp [intOf]; omega
            · have hb0 := bne_yes hpm
              have hlg : lg ≤ cur.length + 1 := by
                have := ends_le l (cur ++ [x])
                rw [HLG.out, List.length_append] at this
                exact this
              have hwl2 : IntKind.i64.wrap ((cur.length : Int) + 1 - (lg : Int)) = (cur.length : Int) + 1 - (lg : Int) := by have := HC.out.2; have := HLL.out; rw [IntKind.wrap_i64]; omega
              have HWA := Lib.hid (show WAt w0 ((wC.setCell ⟨q, 3, none⟩ (.int .i64 pl)).setCell ⟨q, 4, none⟩ (.int .i64 ((cur.length : Int) + 1 - (lg : Int)))) l q (cur ++ [x]) B g ns W f A c from ⟨HW.out.mac, (LWC.out.setCell (p := ⟨q, 3, none⟩) HW.out.far _).setCell (p := ⟨q, 4, none⟩) HW.out.far _, HW.out.far, (t2 : Int), by
                have h1 := (WBlk.set3 (v := pl) BC.out).set4 (v := (cur.length : Int) + 1 - (lg : Int))
                have h2 : fromW l (cur ++ [x]) = (cur.length : Int) + 1 - (lg : Int) := by
                  unfold fromW
                  rw [if_pos (by rw [hitB_iff, HPL.out]; exact hpm), HLG.out, List.length_append]
                  rfl
                rw [HPL.out, h2, List.length_append]
                exact h1, SN.out⟩)
              clear hpm
              go_wp2_with fail
              go_roundw
              case rel => exact ⟨k + 1, cur ++ [x], hk1', by go_num, HFD, HWA.out, HA.out.trans ((AC.out.set 3 _).set 4 _)⟩
              case measure => simp [intOf]; omega
    · obtain rfl : k = n1 := by omega
      have HE := Lib.hid (show feedS l s t = cur from by have := HC.out.1; rw [List.take_of_length_le (by have := HN.out; omega)] at this; exact this)
      have hcl : cur.length - s.length = k := by have := HC.out.2; omega
      have HCL := Lib.hid hcl
      clear hcl hb
      go_wp2_with fail
      refine (hit_any wr HB.out HHN.out).mono ?_
      rintro e w' ⟨rfl, rfl⟩
      go_wp2_with fail
      go_ret2
      refine ⟨?_, by rw [HE.out]; exact HW.out, HA.out⟩
      rw [HE.out, HO.out, HCL.out]
      rfl
end Go.Proofs.Ytohfkpoblebfaaa
