/- The walk of the document's Watch. -/
import Derived.Test.YtohfkpoblebfaaaStopLaw
import Derived.Test.YtohfkpoblebfaaaAhoRefStates
import Derived.Test.YtohfkpoblebfaaaAhoKeep
namespace Go.Proofs.Ytohfkpoblebfaaa
open Go.RowKit
set_option linter.unusedVariables false

theorem ends_sign {l : List Wd} (hm : mayP l) (u : Wd) : ((endsOf l u).1 = -1 ∧ (endsOf l u).2 = 0) ∨ (0 ≤ (endsOf l u).1 ∧ 0 < (endsOf l u).2 ∧ (endsOf l u).2 ≤ u.length) :=
  endsGo_bound (.inl ⟨rfl, rfl⟩) fun p hp => by
    obtain ⟨i, hi, rfl⟩ := mem_wd hp
    have := okAll_iff.1 hm.2 i hi
    unfold okP at this
    have := of_decide_eq_true this
    intro e
    rw [e] at this
    simp at this
theorem saw_all {l : List Wd} {t : Wd} (h : ∀ j, j < t.length → hitB l (t.take j) = false) : sawS l t = t := by
  have := feedS_all (l := l) (s := []) (t := t) (fun k hk => by simpa using h k hk)
  simpa [sawS] using this
theorem saw_cut {l : List Wd} {t : Wd} {k : Nat} (h : ∀ j, j < k → hitB l (t.take j) = false) (hk : k ≤ t.length) (hh : hitB l (t.take k) = true) : sawS l t = t.take k := by
  have := feedS_cut (l := l) (s := []) (t := t) (k := k) (fun j hj => by simpa using h j hj) hk (by simpa using hh)
  simpa [sawS] using this
theorem five_heap {w : World} {g : Nat} {T : TypeId} {x0 x1 x2 x3 x4 a b c d e : Value} (h : w.heap[g]? = some (.cells #[x0, x1, x2, x3, x4] T (0, 0))) :
    (((((w.setCell ⟨g, 0, none⟩ a).setCell ⟨g, 1, none⟩ b).setCell ⟨g, 2, none⟩ c).setCell ⟨g, 3, none⟩ d).setCell ⟨g, 4, none⟩ e).heap[g]? = some (.cells #[a, b, c, d, e] T (0, 0)) :=
  heap_set_at (heap_set_at (heap_set_at (heap_set_at (heap_set_at h))))
theorem five_cells {w : World} {g : Nat} {T : TypeId} {a b c d e : Value} (h : w.heap[g]? = some (.cells #[a, b, c, d, e] T (0, 0))) :
    w.cell? ⟨g, 0, none⟩ = some a ∧ w.cell? ⟨g, 1, none⟩ = some b ∧ w.cell? ⟨g, 2, none⟩ = some c ∧ w.cell? ⟨g, 3, none⟩ = some d ∧ w.cell? ⟨g, 4, none⟩ = some e :=
  ⟨Lib.cell_of_heap h 0, Lib.cell_of_heap h 1, Lib.cell_of_heap h 2, Lib.cell_of_heap h 3, Lib.cell_of_heap h 4⟩
theorem five_below {w0 w : World} {g : Nat} {a b c d e : Value} (h : Below g w0 w) : Below g w0 (((((w.setCell ⟨g, 0, none⟩ a).setCell ⟨g, 1, none⟩ b).setCell ⟨g, 2, none⟩ c).setCell ⟨g, 3, none⟩ d).setCell ⟨g, 4, none⟩ e) :=
  ((((h.setCell (p := ⟨g, 0, none⟩) (Nat.le_refl _) _).setCell (p := ⟨g, 1, none⟩) (Nat.le_refl _) _).setCell (p := ⟨g, 2, none⟩) (Nat.le_refl _) _).setCell (p := ⟨g, 3, none⟩) (Nat.le_refl _) _).setCell (p := ⟨g, 4, none⟩) (Nat.le_refl _) _
/-- What the document says of a text that a watch saw as s. -/
def wV (l : List Wd) (s : Wd) : Array Value := #[.int .i64 (s.length : Int), .int .i64 (heldW l s : Int), .int .i64 (freeW l s), .int .i64 (endsOf l s).1, .int .i64 (fromW l s)]
set_option maxRecDepth 100000 in
set_option maxHeartbeats 2000000 in
theorem rwatch_any {A A' : Option Addr} {n n' c c' : Nat} {l : List Wd} {v : Vs} {t : Wd} (w : World) (h : PatsAt w w.heap.size A n c l v) (h' : IntsAt w w.heap.size A' n' c' t) (hm : mayP l) (hl : t.length ≤ 1000000) :
    Calls Try.prog 28 #[.slice A n c, .slice A' n' c'] w fun e w' => e = .returned (.agg (wV l (sawS l t))) ∧ Below w.heap.size w w' := by
  have hcap' := h'.2.2.1
  have hcn' := h'.2.1
  unfold maxLen at hcap'
  have e2 := h'.len
  have HH := Lib.hid h
  have HU := Lib.hid h'
  have HM := Lib.hid hm
  have HLU := Lib.hid e2
  have hn1 : n' ≤ 1000000 := by omega
  clear h h' e2 hm hl
  go_enter Try.func28, Try.ntmps28
  go_wp2_with fail
  obtain ⟨w2, hw2⟩ : ∃ w2, w2 = w.alloc (.cells #[.int .i64 0, .int .i64 0, .int .i64 0, .int .i64 0, .int .i64 0] 48) := ⟨_, rfl⟩
  rw [← hw2]
  have HB2 := Lib.hid (show Below w.heap.size w w2 from by rw [hw2]; exact (Below.refl _ w).alloc (Nat.le_refl _) _)
  have HK2 := Lib.hid (show w2.heap[w.heap.size]? = some (.cells #[.int .i64 0, .int .i64 0, .int .i64 0, .int .i64 0, .int .i64 0] 48 (0, 0)) from by rw [hw2]; exact heap_alloc_new w _)
  clear hw2
  go_loopw [5] (fun i wr => ∃ (k q : Nat), k ≤ n' ∧ i = .int .i64 ((k : Int) + 1) ∧ Hid (∀ j, j ≤ k → hitB l (t.take j) = false) ∧ wr = w2.drewN q) (fun i _ => n' + 1 - (intOf i).toNat)
  case atStart => exact ⟨0, 0, Nat.zero_le _, rfl, Lib.hid (fun j hj => by
    obtain rfl : j = 0 := by omega
    rw [List.take_zero, hitB_no]
    rcases ends_sign HM.out [] with h | h
    · exact h.1
    · have := h.2; simp at this; omega), rfl⟩
  case round =>
    obtain ⟨k, q, hk, rfl, HN, rfl⟩ := hrel
    obtain ⟨wr, hwr⟩ : ∃ wr, wr = w2.drewN q := ⟨_, rfl⟩
    have HBr := Lib.hid (show Below w.heap.size w wr from by rw [hwr]; exact below_drewN HB2.out q)
    have HKr := Lib.hid (show wr.heap[w.heap.size]? = some (.cells #[.int .i64 0, .int .i64 0, .int .i64 0, .int .i64 0, .int .i64 0] 48 (0, 0)) from by rw [hwr]; exact HK2.out)
    have HWR := Lib.hid hwr
    rw [← hwr]
    clear hwr
    by_cases hlt : k < n'
    · obtain ⟨k1, hk1⟩ : ∃ k1, k + 1 = k1 := ⟨_, rfl⟩
      have hki : ((k : Int) + 1) = (k1 : Int) := by omega
      rw [hki]
      have HK1 := Lib.hid hk1
      have hk1n : k1 ≤ n' := by omega
      have hk1a : (0 : Int) ≤ (k1 : Int) := by omega
      have hk1b : (k1 : Int) ≤ (n' : Int) := by omega
      have hk1c : (k1 : Int) ≤ (c' : Int) := by omega
      clear hk1 hki
      obtain ⟨pl, hpl⟩ : ∃ pl, (endsOf l (t.take k1)).1 = pl := ⟨_, rfl⟩
      obtain ⟨lg, hlg⟩ : ∃ lg, (endsOf l (t.take k1)).2 = lg := ⟨_, rfl⟩
      have hsg := ends_sign HM.out (t.take k1)
      rw [hpl, hlg] at hsg
      have HPL := Lib.hid hpl
      have HLG := Lib.hid hlg
      clear hpl hlg
      go_wp2_with fail
      refine (rends_any wr (HH.out.below HBr.out) (IntsAt.to_ (RowAt.below HU.out HBr.out) hk1n)).mono ?_
      rw [HPL.out, HLG.out]
      rintro e w' ⟨rfl, q2, rfl⟩
      obtain ⟨wy, hwy⟩ : ∃ wy, wy = wr.drewN q2 := ⟨_, rfl⟩
      have HBy := Lib.hid (show Below w.heap.size w wy from by rw [hwy]; exact below_drewN HBr.out q2)
      have HKy := Lib.hid (show wy.heap[w.heap.size]? = some (.cells #[.int .i64 0, .int .i64 0, .int .i64 0, .int .i64 0, .int .i64 0] 48 (0, 0)) from by rw [hwy]; exact HKr.out)
      have HWY := Lib.hid hwy
      rw [← hwy]
      clear hwy
      have d0 : wy.cell? ⟨w.heap.size, 0, none⟩ = some (.int .i64 0) := Lib.cell_of_heap HKy.out 0
      have d1 : wy.cell? ⟨w.heap.size, 1, none⟩ = some (.int .i64 0) := Lib.cell_of_heap HKy.out 1
      have d2 : wy.cell? ⟨w.heap.size, 2, none⟩ = some (.int .i64 0) := Lib.cell_of_heap HKy.out 2
      have d3 : wy.cell? ⟨w.heap.size, 3, none⟩ = some (.int .i64 0) := Lib.cell_of_heap HKy.out 3
      have d4 : wy.cell? ⟨w.heap.size, 4, none⟩ = some (.int .i64 0) := Lib.cell_of_heap HKy.out 4
      have f0 := Lib.frozen_of_heap HKy.out 0
      have f1 := Lib.frozen_of_heap HKy.out 1
      have f2 := Lib.frozen_of_heap HKy.out 2
      have f3 := Lib.frozen_of_heap HKy.out 3
      have f4 := Lib.frozen_of_heap HKy.out 4
      by_cases hp : 0 ≤ pl
      · have hwl : IntKind.i64.wrap ((k1 : Int) - (lg : Int)) = (k1 : Int) - (lg : Int) := by rw [IntKind.wrap_i64]; rw [List.length_take] at hsg; rcases hsg with h | h <;> omega
        have HSW := Lib.hid (show sawS l t = t.take k1 from saw_cut (fun j hj => HN.out j (by have := HK1.out; omega)) (by have := HLU.out; omega) (by rw [hitB_iff, HPL.out]; omega))
        have HHT := Lib.hid (show hitB l (t.take k1) = true from by rw [hitB_iff, HPL.out]; omega)
        go_wp2_with fail
        obtain ⟨r0, r1, r2, r3, r4⟩ := five_cells (five_heap (a := .int .i64 (k1 : Int)) (b := .int .i64 0) (c := .int .i64 ((k1 : Int) - (lg : Int))) (d := .int .i64 pl) (e := .int .i64 ((k1 : Int) - (lg : Int))) HKy.out)
        refine bodyPost_ret (v := .agg #[.int .i64 (k1 : Int), .int .i64 0, .int .i64 ((k1 : Int) - (lg : Int)), .int .i64 pl, .int .i64 ((k1 : Int) - (lg : Int))]) (by simp [results, Try.f28, go_sem, r0, r1, r2, r3, r4]) rfl ?_
        refine ⟨?_, five_below HBy.out⟩
        rw [HSW.out]
        have hl : (t.take k1).length = k1 := by rw [List.length_take]; have := HLU.out; omega
        unfold wV heldW freeW fromW
        rw [if_pos HHT.out, if_pos HHT.out, if_pos HHT.out, HPL.out, HLG.out, hl]
        rfl
      · have HN' := Lib.hid (show ∀ j, j ≤ k1 → hitB l (t.take j) = false from fun j hj => by
          rcases Nat.lt_or_ge k j with h | h
          · obtain rfl : j = k1 := by have := HK1.out; omega
            rw [hitB_no, HPL.out]; rcases hsg with h | h <;> omega
          · exact HN.out j h)
        go_wp2_with fail
        go_roundw
        case rel => exact ⟨k1, q + q2, hk1n, by go_num, HN', by rw [HWY.out, HWR.out]; simp [World.drewN_drewN]⟩
        case measure => simp [intOf]; have := HK1.out; omega
    · obtain rfl : k = n' := by omega
      have hkz : ¬ ((k : Int) + 1) ≤ (k : Int) := by omega
      have HSW := Lib.hid (show sawS l t = t from saw_all (fun j hj => HN.out j (by have := HLU.out; omega)))
      have HT0 := Lib.hid (show hitB l t = false from by have := HN.out k (Nat.le_refl _); rw [List.take_of_length_le (by have := HLU.out; omega)] at this; exact this)
      obtain ⟨hd, hhd⟩ : ∃ x, heldL l t = x := ⟨_, rfl⟩
      have hd64 : hd ≤ 64 := by have := (heldL_le l t).2; omega
      have HHD := Lib.hid hhd
      clear hhd
      go_wp2_with fail
      refine (rheld_any wr (HH.out.below HBr.out) (RowAt.below HU.out HBr.out)).mono ?_
      rw [HHD.out]
      rintro e w' ⟨rfl, q2, rfl⟩
      obtain ⟨wy, hwy⟩ : ∃ wy, wy = wr.drewN q2 := ⟨_, rfl⟩
      have HBy := Lib.hid (show Below w.heap.size w wy from by rw [hwy]; exact below_drewN HBr.out q2)
      have HKy := Lib.hid (show wy.heap[w.heap.size]? = some (.cells #[.int .i64 0, .int .i64 0, .int .i64 0, .int .i64 0, .int .i64 0] 48 (0, 0)) from by rw [hwy]; exact HKr.out)
      rw [← hwy]
      clear hwy
      obtain ⟨d0, d1, d2, d3, d4⟩ := five_cells HKy.out
      have f0 := Lib.frozen_of_heap HKy.out 0
      have f1 := Lib.frozen_of_heap HKy.out 1
      have f2 := Lib.frozen_of_heap HKy.out 2
      have f3 := Lib.frozen_of_heap HKy.out 3
      have f4 := Lib.frozen_of_heap HKy.out 4
      have hwl : IntKind.i64.wrap ((k : Int) - (hd : Int)) = (k : Int) - (hd : Int) := by rw [IntKind.wrap_i64]; omega
      go_wp2_with fail
      obtain ⟨r0, r1, r2, r3, r4⟩ := five_cells (five_heap (a := .int .i64 (k : Int)) (b := .int .i64 (hd : Int)) (c := .int .i64 ((k : Int) - (hd : Int))) (d := .int .i64 (-1)) (e := .int .i64 0) HKy.out)
      refine bodyPost_ret (v := .agg #[.int .i64 (k : Int), .int .i64 (hd : Int), .int .i64 ((k : Int) - (hd : Int)), .int .i64 (-1), .int .i64 0]) (by simp [results, Try.f28, go_sem, r0, r1, r2, r3, r4]) rfl ?_
      refine ⟨?_, five_below HBy.out⟩
      rw [HSW.out]
      unfold wV heldW freeW fromW
      have hf : ¬ hitB l t = true := by rw [HT0.out]; decide
      rw [if_neg hf, if_neg hf, if_neg hf, hitB_no.1 HT0.out, HHD.out, ← HLU.out]
end Go.Proofs.Ytohfkpoblebfaaa
