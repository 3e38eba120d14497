/- The walk of scan's Next. -/
import Derived.Test.YtkiggpbmlkfdpaaDoorScanCut2
import Derived.Test.YtkiggpbmlkfdpaaDoorClsMay
namespace Go.Proofs.YtkiggpbmlkfdpaaDoor
open Go.RowKit
set_option linter.unusedVariables false

theorem pts_len (t : List Rg) : ∀ l : List UInt8, (ptsOf t l).length ≤ l.length := by
  refine pts_ind (Nat.le_refl _) (fun l h0 h => ?_) (fun l h0 h h1 h2 ih => ?_)
  · rw [pts_more h0 h, List.length_map]; exact Nat.le_refl _
  · rw [pts_one h0 h, List.length_cons]
    rw [List.length_drop] at ih
    omega
theorem sumN_succ {ps : List Pt} {k : Nat} {p : Pt} (h : ps[k]? = some p) : sumN ps (k + 1) = sumN ps k + p.n := by
  unfold sumN
  rw [List.take_add_one, h]
  simp
theorem sumN_le {ps : List Pt} {S : Nat} (h : Shape ps S) : ∀ k, k ≤ ps.length → sumN ps k ≤ 4 * k
  | 0, _ => by simp [sumN]
  | k + 1, hk => by
    have hp : ps[k]? = some ps[k] := List.getElem?_eq_getElem (by omega)
    rw [sumN_succ hp]
    have := sumN_le h k (by omega)
    have := (h.one hp).2.1
    omega
theorem small_lt {ps : List Pt} {wide : Bool} {i : Nat} (h : smallP ps wide i ≠ -1) : i < ps.length := by
  unfold smallP at h
  cases hp : ps[i]? with
  | none => rw [hp] at h; exact absurd rfl h
  | some p => exact (List.getElem?_eq_some_iff.1 hp).1
theorem end_le (ps : List Pt) (wide : Bool) : endP ps wide ≤ ps.length := by
  unfold endP
  split
  · split
    · rename_i h
      exact small_lt (wide := wide) (i := 1) (by omega)
    · split
      · rename_i h
        exact small_lt (wide := wide) (i := 2) (by omega)
      · exact Nat.zero_le _
  · exact Nat.zero_le _
theorem lineF_le (ps : List Pt) : ∀ m, lineF ps m ≤ m
  | 0 => Nat.le_refl _
  | m + 1 => by rw [lineF]; have := lineF_le ps m; split <;> omega
theorem run_len {ps : List Pt} {i : Nat} {c : Int} (hi : i ≤ ps.length) : runP ps i c ≤ ps.length := (while_le (fun p => p.cls == c) ps i).2 hi
theorem spaces_le (ps : List Pt) : (spacesP ps).1 ≤ ps.length := by
  have := blanks_le (ps := ps)
  unfold spacesP
  split <;> simp only <;> omega
theorem cut_le {kind : Int} {ps : List Pt} (h0 : 0 < ps.length) : (cutP kind ps).1 ≤ ps.length := by
  have hs := spaces_le ps
  unfold cutP
  split
  · exact (while_le (fun p => !isSp p.cls) ps (blanksP ps)).2 blanks_le
  · split
    · unfold plainP
      split
      · exact end_le _ _
      · split
        · exact led_le h0
        · split
          · exact led_le h0
          · split
            · exact led_le h0
            · exact hs
    · unfold broadP
      split
      · exact end_le _ _
      · split
        · exact run_len (Nat.zero_le _)
        · split
          · exact run_len h0
          · split
            · unfold numsP; have := run_len (ps := ps) (c := 2) (Nat.zero_le _); simp only; omega
            · split
              · exact run_len (led_le h0)
              · split
                · have := lineF_le ps (blanksP ps); have := blanks_le (ps := ps); unfold lineP; simp only; omega
                · exact hs
theorem cut_1 (ps : List Pt) : cutP 1 ps = wordP ps := rfl
theorem cut_2 (ps : List Pt) : cutP 2 ps = plainP ps := rfl
theorem cut_3 (ps : List Pt) : cutP 3 ps = broadP ps := rfl
theorem cut_few {kind : Int} {ps : List Pt} (h0 : 0 < ps.length) (hl : ps.length ≤ 1000) : (cutP kind ps).2 ≤ 1001 := by
  have hb := blanks_le (ps := ps)
  have hw := cut_le (kind := kind) h0
  have hs : (spacesP ps).2 ≤ 1001 := by unfold spacesP; split <;> simp only <;> omega
  unfold cutP at hw ⊢
  split
  · rename_i hk; rw [if_pos hk] at hw; unfold wordP at hw ⊢; simp only at hw ⊢; omega
  · rename_i hk
    rw [if_neg hk] at hw
    split
    · have e := end_le ps false
      have l1 := led_le (c := 1) h0
      have l2 := led_le (c := 2) h0
      have l0 := led_le (c := 0) h0
      unfold plainP
      (repeat' split) <;> (try simp only) <;> omega
    · have e := end_le ps true
      have r1 := run_len (ps := ps) (c := 1) (Nat.zero_le _)
      have r2 := run_len (ps := ps) (c := 1) (i := 1) h0
      have l0 := led_le (c := 0) h0
      have r4 := run_len (ps := ps) (c := 4) l0
      unfold broadP
      (repeat' split) <;> (try simp only) <;> omega
theorem next_none {A At : Option Addr} {n c nt ct : Nat} {t : List Rg} {l : List UInt8} (kind : Int) (final : Bool) (w : World) (h : BytesAt w w.heap.size A n c l) (ht : RangesAt w w.heap.size At nt ct t) (hm : nt ≤ 1000) (hx : l = [] ∨ mayT t = false) :
    Calls Tryd.prog 16 #[.int .i64 kind, .slice At nt ct, .slice A n c, .bool final] w fun e w' => e = .returned (.tuple #[.int .i64 0, .bool false]) ∧ Below w.heap.size w w' := by
  have hn := h.len
  by_cases hl : l = []
  · subst hl
    obtain rfl : n = 0 := by simpa using hn
    clear h hn
    go_enter Tryd.func16, Tryd.ntmps16
    go_wp2_with fail
    go_ret2
    exact ⟨rfl, Below.refl _ _⟩
  · have hn0 : 0 < n := by rw [hn]; exact List.length_pos_iff.2 hl
    have HV := Lib.hid (show mayT t = false from by rcases hx with h | h; exact absurd h hl; exact h)
    have hb0 := beq_no (show (n : Int) ≠ 0 by omega)
    have HT := Lib.hid ht
    clear h hn hl hx ht
    go_enter Tryd.func16, Tryd.ntmps16
    go_wp2_with fail
    refine (may_as w HT.out hm HV).mono ?_
    rintro e w' ⟨rfl, hb⟩
    go_wp2_with fail
    go_ret2
    exact ⟨rfl, hb⟩
/-- Behind May: the reader is made. -/
theorem rd_new {A At : Option Addr} {n c nt ct : Nat} {t : List Rg} {l : List UInt8} {wide : Bool} (w : World) (h : BytesAt w w.heap.size A n c l) (ht : RangesAt w w.heap.size At nt ct t) (hm : nt ≤ 1000) (hl : l.length ≤ 1000) :
    RdAt (w.alloc (.cells #[.slice A n c, .slice At nt ct, .slice none 0 0, .bool false, .bool wide] 61)) w.heap.size w.heap.size t (ptsOf t l) wide 0 := by
  refine ⟨A, n, c, At, nt, ct, none, 0, false, l, heap_alloc_new w _, RowAt.alloc h (Nat.le_refl _) _, RowAt.alloc ht (Nat.le_refl _) _, World.ownsRow_nil _ _ _ _, ?_, Nat.le_refl _, Nat.zero_le _, ?_, hm⟩
  · rw [if_neg (by decide)]; simp
  · have := pts_len t l; omega
set_option maxRecDepth 100000 in
set_option maxHeartbeats 4000000 in
theorem next_1 {A At : Option Addr} {n c nt ct : Nat} {t : List Rg} {l : List UInt8} (final : Bool) (w : World) (h : BytesAt w w.heap.size A n c l) (ht : RangesAt w w.heap.size At nt ct t) (hm : nt ≤ 1000) (hl : l.length ≤ 1000) (h0 : l ≠ []) (hv : mayT t = true) {r : Nat × Bool} (hr : nextP 1 t l final = r) :
    Calls Tryd.prog 16 #[.int .i64 1, .slice At nt ct, .slice A n c, .bool final] w fun e w' => e = .returned (.tuple #[.int .i64 (r.1 : Int), .bool r.2]) ∧ Below w.heap.size w w' := by
  have hn := h.len
  have hn0 : 0 < n := by rw [hn]; exact List.length_pos_iff.2 h0
  have hb0 := beq_no (show (n : Int) ≠ 0 by omega)
  obtain ⟨S, hsh, -⟩ := pts_shape t l
  have hp0 := pts_pos (t := t) h0
  have hpl : (ptsOf t l).length ≤ 1000 := Nat.le_trans (pts_len t l) hl
  unfold nextP at hr
  rw [if_neg (by rintro (h | h | h | h); exact h0 h; rw [hv] at h; cases h; omega; omega), if_neg (by decide)] at hr
  have HNEW := Lib.hid (fun (w1 : World) (hb : Below w.heap.size w w1) => rd_new (wide := false) w1 (RowAt.mono (RowAt.below h hb) hb.size) (RowAt.mono (RowAt.below ht hb) hb.size) hm hl)
  obtain ⟨ps, hps⟩ : ∃ ps, ptsOf t l = ps := ⟨_, rfl⟩
  rw [hps] at hsh hp0 hpl hr HNEW
  obtain ⟨cn, cr, hcut⟩ : ∃ a b, cutP 1 ps = (a, b) := ⟨_, _, rfl⟩
  have hcn := cut_le (kind := 1) hp0
  have hcr := cut_few (kind := 1) hp0 hpl
  rw [hcut] at hr hcn hcr
  simp only at hr hcn hcr
  have HCUT := Lib.hid (show wordP ps = (cn, cr) from hcut)
  have HSH := Lib.hid hsh
  have HR := Lib.hid hr
  have HV := Lib.hid hv
  have HT := Lib.hid ht
  clear h hn h0 hv hr hps hcut hsh ht hl
  go_enter Tryd.func16, Tryd.ntmps16
  go_wp2_with fail
  refine (may_as w HT.out hm HV).mono ?_
  rintro e w1 ⟨rfl, hb1⟩
  have HB1 := Lib.hid hb1
  clear hb1
  go_wp2_with fail
  have HX0 := HNEW.out w1 HB1.out
  have HB2 := Lib.hid (show Below w.heap.size w (w1.alloc (.cells #[.slice A n c, .slice At nt ct, .slice none 0 0, .bool false, .bool false] 61)) from HB1.out.alloc HB1.out.size _)
  refine (blank_any _ HX0 HCUT.out).mono ?_
  rintro e aw ⟨rfl, hb, ak, hr, hk⟩
  have aB := Lib.hid hb
  have aR := Lib.hid hr
  have aK := Lib.hid hk
  clear hb hr hk
  have HKN := Lib.hid (show cn ≤ ak from by have := aK.out; simp only at this; omega)
  have BA := Lib.hid (HB2.out.trans (aB.out.mono HB1.out.size))
  clear aK HX0 aB HB2 HNEW
  cases final with
  | true =>
    have HRR := Lib.hid (show (sumN ps cn, true) = r from by rw [← HR.out]; rfl)
    go_wp2_with fail
    obtain ⟨SA, Sn, Sc, SAt, Snt, Sct, SAr, Scr, Sop, Srest, hst⟩ := aR.out
    obtain ⟨c0, c1, c2, c3, c4⟩ := hst.reads
    have HC := Lib.hid (show ∀ j, j < cn → ∃ b off, ∃ m : Nat, SAr = some ⟨b, off, none⟩ ∧ aw.cell? ⟨b, off + j * 4 + 2, none⟩ = some (.int .i64 (m : Int)) ∧ sumN ps (j + 1) = sumN ps j + m ∧ m ≤ 4 from fun j hj => by
      have hjt : j < (ps.take ak).length := by rw [List.length_take]; have := HKN.out; omega
      obtain ⟨b, off, he, hbl, hc⟩ := PtsAt.cells (RowAt.of_own hst.row) (by have := HKN.out; omega)
      obtain ⟨e0, e1, e2, e3⟩ := hc j hjt
      have hget : (ps.take ak)[j] = ps[j]'(by omega) := List.getElem_take
      rw [hget] at e2
      have hp : ps[j]? = some (ps[j]'(by omega)) := List.getElem?_eq_getElem (by omega)
      exact ⟨b, off, _, he, e2, sumN_succ hp, (HSH.out.one hp).2.1⟩)
    have hkk : cn ≤ ak := HKN.out
    clear hst c0 c1 c3 c4
    go_loop [15, 70] (fun y z => ∃ j s : Nat, z = .int .i64 (j : Int) ∧ y = .int .i64 (s : Int) ∧ j ≤ cn ∧ Hid (sumN ps j = s)) (fun _ z => cn - (intOf z).toNat)
    case atStart => exact ⟨0, 0, rfl, rfl, Nat.zero_le _, Lib.hid (by simp [sumN])⟩
    case round =>
      obtain ⟨j, s, rfl, rfl, hj, HS⟩ := hrel
      by_cases hlt : j < cn
      · obtain ⟨b, off, m, rfl, e2, hs, hm4⟩ := HC.out j hlt
        have HS2 := Lib.hid (show sumN ps (j + 1) = s + m from by rw [hs, HS.out])
        have hsb : s ≤ 4000 := by rw [← HS.out]; have := sumN_le HSH.out j (by omega); omega
        have hjk : (j : Int) < (ak : Int) := by omega
        clear hs
        go_wp2_with fail
        go_round
        case rel => exact ⟨j + 1, s + m, by go_num, by go_num, by omega, HS2⟩
        case measure => simp [intOf]; omega
      · obtain rfl : j = cn := by omega
        have HRE := Lib.hid (show r = (s, true) from by rw [← HRR.out, HS.out])
        go_wp2_with fail
        go_ret2
        rw [HRE.out]
        exact ⟨by first | rfl | simp, BA.out⟩
  | false =>
    obtain ⟨o, ho⟩ : ∃ o, sureP ps cr = o := ⟨_, rfl⟩
    have HO := Lib.hid ho
    clear ho
    go_wp2_with fail
    refine (sure_any aw aR.out (by omega) HO.out).mono ?_
    rintro e bw ⟨rfl, hb, bk, hr, hk⟩
    have bB := Lib.hid hb
    have bR := Lib.hid hr
    have bK := Lib.hid hk
    clear hb hr hk
    have BB := Lib.hid (BA.out.trans (bB.out.mono HB1.out.size))
    have HKB := Lib.hid (show cn ≤ bk from by have := bK.out; have := HKN.out; omega)
    clear bK bB BA aR HKN
    cases o with
    | false =>
      have HRR := Lib.hid (show (sumN ps cn, false) = r from by rw [← HR.out, HO.out]; rfl)
      go_wp2_with fail
      obtain ⟨SA, Sn, Sc, SAt, Snt, Sct, SAr, Scr, Sop, Srest, hst⟩ := bR.out
      obtain ⟨c0, c1, c2, c3, c4⟩ := hst.reads
      have HC := Lib.hid (show ∀ j, j < cn → ∃ b off, ∃ m : Nat, SAr = some ⟨b, off, none⟩ ∧ bw.cell? ⟨b, off + j * 4 + 2, none⟩ = some (.int .i64 (m : Int)) ∧ sumN ps (j + 1) = sumN ps j + m ∧ m ≤ 4 from fun j hj => by
        have hjt : j < (ps.take bk).length := by rw [List.length_take]; have := HKB.out; omega
        obtain ⟨b, off, he, hbl, hc⟩ := PtsAt.cells (RowAt.of_own hst.row) (by have := HKB.out; omega)
        obtain ⟨e0, e1, e2, e3⟩ := hc j hjt
        have hget : (ps.take bk)[j] = ps[j]'(by omega) := List.getElem_take
        rw [hget] at e2
        have hp : ps[j]? = some (ps[j]'(by omega)) := List.getElem?_eq_getElem (by omega)
        exact ⟨b, off, _, he, e2, sumN_succ hp, (HSH.out.one hp).2.1⟩)
      have hkk : cn ≤ bk := HKB.out
      clear hst c0 c1 c3 c4
      go_loop [15, 70] (fun y z => ∃ j s : Nat, z = .int .i64 (j : Int) ∧ y = .int .i64 (s : Int) ∧ j ≤ cn ∧ Hid (sumN ps j = s)) (fun _ z => cn - (intOf z).toNat)
      case atStart => exact ⟨0, 0, rfl, rfl, Nat.zero_le _, Lib.hid (by simp [sumN])⟩
      case round =>
        obtain ⟨j, s, rfl, rfl, hj, HS⟩ := hrel
        by_cases hlt : j < cn
        · obtain ⟨b, off, m, rfl, e2, hs, hm4⟩ := HC.out j hlt
          have HS2 := Lib.hid (show sumN ps (j + 1) = s + m from by rw [hs, HS.out])
          have hsb : s ≤ 4000 := by rw [← HS.out]; have := sumN_le HSH.out j (by omega); omega
          have hjk : (j : Int) < (bk : Int) := by omega
          clear hs
          go_wp2_with fail
          go_round
          case rel => exact ⟨j + 1, s + m, by go_num, by go_num, by omega, HS2⟩
          case measure => simp [intOf]; omega
        · obtain rfl : j = cn := by omega
          have HRE := Lib.hid (show r = (s, false) from by rw [← HRR.out, HS.out])
          go_wp2_with fail
          go_ret2
          rw [HRE.out]
          exact ⟨by first | rfl | simp, BB.out⟩
    | true =>
      have HRR := Lib.hid (show (sumN ps cn, true) = r from by rw [← HR.out, HO.out]; rfl)
      go_wp2_with fail
      obtain ⟨SA, Sn, Sc, SAt, Snt, Sct, SAr, Scr, Sop, Srest, hst⟩ := bR.out
      obtain ⟨c0, c1, c2, c3, c4⟩ := hst.reads
      have HC := Lib.hid (show ∀ j, j < cn → ∃ b off, ∃ m : Nat, SAr = some ⟨b, off, none⟩ ∧ bw.cell? ⟨b, off + j * 4 + 2, none⟩ = some (.int .i64 (m : Int)) ∧ sumN ps (j + 1) = sumN ps j + m ∧ m ≤ 4 from fun j hj => by
        have hjt : j < (ps.take bk).length := by rw [List.length_take]; have := HKB.out; omega
        obtain ⟨b, off, he, hbl, hc⟩ := PtsAt.cells (RowAt.of_own hst.row) (by have := HKB.out; omega)
        obtain ⟨e0, e1, e2, e3⟩ := hc j hjt
        have hget : (ps.take bk)[j] = ps[j]'(by omega) := List.getElem_take
        rw [hget] at e2
        have hp : ps[j]? = some (ps[j]'(by omega)) := List.getElem?_eq_getElem (by omega)
        exact ⟨b, off, _, he, e2, sumN_succ hp, (HSH.out.one hp).2.1⟩)
      have hkk : cn ≤ bk := HKB.out
      clear hst c0 c1 c3 c4
      go_loop [15, 70] (fun y z => ∃ j s : Nat, z = .int .i64 (j : Int) ∧ y = .int .i64 (s : Int) ∧ j ≤ cn ∧ Hid (sumN ps j = s)) (fun _ z => cn - (intOf z).toNat)
      case atStart => exact ⟨0, 0, rfl, rfl, Nat.zero_le _, Lib.hid (by simp [sumN])⟩
      case round =>
        obtain ⟨j, s, rfl, rfl, hj, HS⟩ := hrel
        by_cases hlt : j < cn
        · obtain ⟨b, off, m, rfl, e2, hs, hm4⟩ := HC.out j hlt
          have HS2 := Lib.hid (show sumN ps (j + 1) = s + m from by rw [hs, HS.out])
          have hsb : s ≤ 4000 := by rw [← HS.out]; have := sumN_le HSH.out j (by omega); omega
          have hjk : (j : Int) < (bk : Int) := by omega
          clear hs
          go_wp2_with fail
          go_round
          case rel => exact ⟨j + 1, s + m, by go_num, by go_num, by omega, HS2⟩
          case measure => simp [intOf]; omega
        · obtain rfl : j = cn := by omega
          have HRE := Lib.hid (show r = (s, true) from by rw [← HRR.out, HS.out])
          go_wp2_with fail
          go_ret2
          rw [HRE.out]
          exact ⟨by first | rfl | simp, BB.out⟩
set_option maxRecDepth 100000 in
set_option maxHeartbeats 4000000 in
theorem next_2 {A At : Option Addr} {n c nt ct : Nat} {t : List Rg} {l : List UInt8} (final : Bool) (w : World) (h : BytesAt w w.heap.size A n c l) (ht : RangesAt w w.heap.size At nt ct t) (hm : nt ≤ 1000) (hl : l.length ≤ 1000) (h0 : l ≠ []) (hv : mayT t = true) {r : Nat × Bool} (hr : nextP 2 t l final = r) :
    Calls Tryd.prog 16 #[.int .i64 2, .slice At nt ct, .slice A n c, .bool final] w fun e w' => e = .returned (.tuple #[.int .i64 (r.1 : Int), .bool r.2]) ∧ Below w.heap.size w w' := by
  have hn := h.len
  have hn0 : 0 < n := by rw [hn]; exact List.length_pos_iff.2 h0
  have hb0 := beq_no (show (n : Int) ≠ 0 by omega)
  obtain ⟨S, hsh, -⟩ := pts_shape t l
  have hp0 := pts_pos (t := t) h0
  have hpl : (ptsOf t l).length ≤ 1000 := Nat.le_trans (pts_len t l) hl
  unfold nextP at hr
  rw [if_neg (by rintro (h | h | h | h); exact h0 h; rw [hv] at h; cases h; omega; omega), if_neg (by decide)] at hr
  have HNEW := Lib.hid (fun (w1 : World) (hb : Below w.heap.size w w1) => rd_new (wide := false) w1 (RowAt.mono (RowAt.below h hb) hb.size) (RowAt.mono (RowAt.below ht hb) hb.size) hm hl)
  obtain ⟨ps, hps⟩ : ∃ ps, ptsOf t l = ps := ⟨_, rfl⟩
  rw [hps] at hsh hp0 hpl hr HNEW
  obtain ⟨cn, cr, hcut⟩ : ∃ a b, cutP 2 ps = (a, b) := ⟨_, _, rfl⟩
  have hcn := cut_le (kind := 2) hp0
  have hcr := cut_few (kind := 2) hp0 hpl
  rw [hcut] at hr hcn hcr
  simp only at hr hcn hcr
  have HCUT := Lib.hid (show plainP ps = (cn, cr) from hcut)
  have HSH := Lib.hid hsh
  have HR := Lib.hid hr
  have HV := Lib.hid hv
  have HT := Lib.hid ht
  clear h hn h0 hv hr hps hcut hsh ht hl
  go_enter Tryd.func16, Tryd.ntmps16
  go_wp2_with fail
  refine (may_as w HT.out hm HV).mono ?_
  rintro e w1 ⟨rfl, hb1⟩
  have HB1 := Lib.hid hb1
  clear hb1
  go_wp2_with fail
  have HX0 := HNEW.out w1 HB1.out
  have HB2 := Lib.hid (show Below w.heap.size w (w1.alloc (.cells #[.slice A n c, .slice At nt ct, .slice none 0 0, .bool false, .bool false] 61)) from HB1.out.alloc HB1.out.size _)
  refine (plain_any _ HX0 rfl hp0 HCUT.out).mono ?_
  rintro e aw ⟨rfl, hb, ak, hr, hk⟩
  have aB := Lib.hid hb
  have aR := Lib.hid hr
  have aK := Lib.hid hk
  clear hb hr hk
  have HKN := Lib.hid (show cn ≤ ak from by have := aK.out; simp only at this; omega)
  have BA := Lib.hid (HB2.out.trans (aB.out.mono HB1.out.size))
  clear aK HX0 aB HB2 HNEW
  cases final with
  | true =>
    have HRR := Lib.hid (show (sumN ps cn, true) = r from by rw [← HR.out]; rfl)
    go_wp2_with fail
    obtain ⟨SA, Sn, Sc, SAt, Snt, Sct, SAr, Scr, Sop, Srest, hst⟩ := aR.out
    obtain ⟨c0, c1, c2, c3, c4⟩ := hst.reads
    have HC := Lib.hid (show ∀ j, j < cn → ∃ b off, ∃ m : Nat, SAr = some ⟨b, off, none⟩ ∧ aw.cell? ⟨b, off + j * 4 + 2, none⟩ = some (.int .i64 (m : Int)) ∧ sumN ps (j + 1) = sumN ps j + m ∧ m ≤ 4 from fun j hj => by
      have hjt : j < (ps.take ak).length := by rw [List.length_take]; have := HKN.out; omega
      obtain ⟨b, off, he, hbl, hc⟩ := PtsAt.cells (RowAt.of_own hst.row) (by have := HKN.out; omega)
      obtain ⟨e0, e1, e2, e3⟩ := hc j hjt
      have hget : (ps.take ak)[j] = ps[j]'(by omega) := List.getElem_take
      rw [hget] at e2
      have hp : ps[j]? = some (ps[j]'(by omega)) := List.getElem?_eq_getElem (by omega)
      exact ⟨b, off, _, he, e2, sumN_succ hp, (HSH.out.one hp).2.1⟩)
    have hkk : cn ≤ ak := HKN.out
    clear hst c0 c1 c3 c4
    go_loop [15, 70] (fun y z => ∃ j s : Nat, z = .int .i64 (j : Int) ∧ y = .int .i64 (s : Int) ∧ j ≤ cn ∧ Hid (sumN ps j = s)) (fun _ z => cn - (intOf z).toNat)
    case atStart => exact ⟨0, 0, rfl, rfl, Nat.zero_le _, Lib.hid (by simp [sumN])⟩
    case round =>
      obtain ⟨j, s, rfl, rfl, hj, HS⟩ := hrel
      by_cases hlt : j < cn
      · obtain ⟨b, off, m, rfl, e2, hs, hm4⟩ := HC.out j hlt
        have HS2 := Lib.hid (show sumN ps (j + 1) = s + m from by rw [hs, HS.out])
        have hsb : s ≤ 4000 := by rw [← HS.out]; have := sumN_le HSH.out j (by omega); omega
        have hjk : (j : Int) < (ak : Int) := by omega
        clear hs
        go_wp2_with fail
        go_round
        case rel => exact ⟨j + 1, s + m, by go_num, by go_num, by omega, HS2⟩
        case measure => simp [intOf]; omega
      · obtain rfl : j = cn := by omega
        have HRE := Lib.hid (show r = (s, true) from by rw [← HRR.out, HS.out])
        go_wp2_with fail
        go_ret2
        rw [HRE.out]
        exact ⟨by first | rfl | simp, BA.out⟩
  | false =>
    obtain ⟨o, ho⟩ : ∃ o, sureP ps cr = o := ⟨_, rfl⟩
    have HO := Lib.hid ho
    clear ho
    go_wp2_with fail
    refine (sure_any aw aR.out (by omega) HO.out).mono ?_
    rintro e bw ⟨rfl, hb, bk, hr, hk⟩
    have bB := Lib.hid hb
    have bR := Lib.hid hr
    have bK := Lib.hid hk
    clear hb hr hk
    have BB := Lib.hid (BA.out.trans (bB.out.mono HB1.out.size))
    have HKB := Lib.hid (show cn ≤ bk from by have := bK.out; have := HKN.out; omega)
    clear bK bB BA aR HKN
    cases o with
    | false =>
      have HRR := Lib.hid (show (sumN ps cn, false) = r from by rw [← HR.out, HO.out]; rfl)
      go_wp2_with fail
      obtain ⟨SA, Sn, Sc, SAt, Snt, Sct, SAr, Scr, Sop, Srest, hst⟩ := bR.out
      obtain ⟨c0, c1, c2, c3, c4⟩ := hst.reads
      have HC := Lib.hid (show ∀ j, j < cn → ∃ b off, ∃ m : Nat, SAr = some ⟨b, off, none⟩ ∧ bw.cell? ⟨b, off + j * 4 + 2, none⟩ = some (.int .i64 (m : Int)) ∧ sumN ps (j + 1) = sumN ps j + m ∧ m ≤ 4 from fun j hj => by
        have hjt : j < (ps.take bk).length := by rw [List.length_take]; have := HKB.out; omega
        obtain ⟨b, off, he, hbl, hc⟩ := PtsAt.cells (RowAt.of_own hst.row) (by have := HKB.out; omega)
        obtain ⟨e0, e1, e2, e3⟩ := hc j hjt
        have hget : (ps.take bk)[j] = ps[j]'(by omega) := List.getElem_take
        rw [hget] at e2
        have hp : ps[j]? = some (ps[j]'(by omega)) := List.getElem?_eq_getElem (by omega)
        exact ⟨b, off, _, he, e2, sumN_succ hp, (HSH.out.one hp).2.1⟩)
      have hkk : cn ≤ bk := HKB.out
      clear hst c0 c1 c3 c4
      go_loop [15, 70] (fun y z => ∃ j s : Nat, z = .int .i64 (j : Int) ∧ y = .int .i64 (s : Int) ∧ j ≤ cn ∧ Hid (sumN ps j = s)) (fun _ z => cn - (intOf z).toNat)
      case atStart => exact ⟨0, 0, rfl, rfl, Nat.zero_le _, Lib.hid (by simp [sumN])⟩
      case round =>
        obtain ⟨j, s, rfl, rfl, hj, HS⟩ := hrel
        by_cases hlt : j < cn
        · obtain ⟨b, off, m, rfl, e2, hs, hm4⟩ := HC.out j hlt
          have HS2 := Lib.hid (show sumN ps (j + 1) = s + m from by rw [hs, HS.out])
          have hsb : s ≤ 4000 := by rw [← HS.out]; have := sumN_le HSH.out j (by omega); omega
          have hjk : (j : Int) < (bk : Int) := by omega
          clear hs
          go_wp2_with fail
          go_round
          case rel => exact ⟨j + 1, s + m, by go_num, by go_num, by omega, HS2⟩
          case measure => simp [intOf]; omega
        · obtain rfl : j = cn := by omega
          have HRE := Lib.hid (show r = (s, false) from by rw [← HRR.out, HS.out])
          go_wp2_with fail
          go_ret2
          rw [HRE.out]
          exact ⟨by first | rfl | simp, BB.out⟩
    | true =>
      obtain ⟨o2, ho2⟩ : ∃ o, pendP ps false = o := ⟨_, rfl⟩
      have HO2 := Lib.hid ho2
      clear ho2
      go_wp2_with fail
      refine (pending_any bw bR.out HO2.out).mono ?_
      rintro e dw ⟨rfl, hb, dk, hr, hk⟩
      have dB := Lib.hid hb
      have dR := Lib.hid hr
      have dK := Lib.hid hk
      clear hb hr hk
      have BD := Lib.hid (BB.out.trans (dB.out.mono HB1.out.size))
      have HKD := Lib.hid (show cn ≤ dk from by have := dK.out; have := HKB.out; omega)
      clear dK dB BB bR HKB
      have HRR := Lib.hid (show (sumN ps cn, !o2) = r from by
        rw [← HR.out, HO.out]
        show (sumN ps cn, !o2) = (sumN ps cn, !pendP ps false)
        rw [HO2.out])
      go_wp2_with fail
      obtain ⟨SA, Sn, Sc, SAt, Snt, Sct, SAr, Scr, Sop, Srest, hst⟩ := dR.out
      obtain ⟨c0, c1, c2, c3, c4⟩ := hst.reads
      have HC := Lib.hid (show ∀ j, j < cn → ∃ b off, ∃ m : Nat, SAr = some ⟨b, off, none⟩ ∧ dw.cell? ⟨b, off + j * 4 + 2, none⟩ = some (.int .i64 (m : Int)) ∧ sumN ps (j + 1) = sumN ps j + m ∧ m ≤ 4 from fun j hj => by
        have hjt : j < (ps.take dk).length := by rw [List.length_take]; have := HKD.out; omega
        obtain ⟨b, off, he, hbl, hc⟩ := PtsAt.cells (RowAt.of_own hst.row) (by have := HKD.out; omega)
        obtain ⟨e0, e1, e2, e3⟩ := hc j hjt
        have hget : (ps.take dk)[j] = ps[j]'(by omega) := List.getElem_take
        rw [hget] at e2
        have hp : ps[j]? = some (ps[j]'(by omega)) := List.getElem?_eq_getElem (by omega)
        exact ⟨b, off, _, he, e2, sumN_succ hp, (HSH.out.one hp).2.1⟩)
      have hkk : cn ≤ dk := HKD.out
      clear hst c0 c1 c3 c4
      go_loop [15, 70] (fun y z => ∃ j s : Nat, z = .int .i64 (j : Int) ∧ y = .int .i64 (s : Int) ∧ j ≤ cn ∧ Hid (sumN ps j = s)) (fun _ z => cn - (intOf z).toNat)
      case atStart => exact ⟨0, 0, rfl, rfl, Nat.zero_le _, Lib.hid (by simp [sumN])⟩
      case round =>
        obtain ⟨j, s, rfl, rfl, hj, HS⟩ := hrel
        by_cases hlt : j < cn
        · obtain ⟨b, off, m, rfl, e2, hs, hm4⟩ := HC.out j hlt
          have HS2 := Lib.hid (show sumN ps (j + 1) = s + m from by rw [hs, HS.out])
          have hsb : s ≤ 4000 := by rw [← HS.out]; have := sumN_le HSH.out j (by omega); omega
          have hjk : (j : Int) < (dk : Int) := by omega
          clear hs
          go_wp2_with fail
          go_round
          case rel => exact ⟨j + 1, s + m, by go_num, by go_num, by omega, HS2⟩
          case measure => simp [intOf]; omega
        · obtain rfl : j = cn := by omega
          have HRE := Lib.hid (show r = (s, !o2) from by rw [← HRR.out, HS.out])
          go_wp2_with fail
          go_ret2
          rw [HRE.out]
          exact ⟨by first | rfl | simp, BD.out⟩
set_option maxRecDepth 100000 in
set_option maxHeartbeats 4000000 in
theorem next_3 {A At : Option Addr} {n c nt ct : Nat} {t : List Rg} {l : List UInt8} (final : Bool) (w : World) (h : BytesAt w w.heap.size A n c l) (ht : RangesAt w w.heap.size At nt ct t) (hm : nt ≤ 1000) (hl : l.length ≤ 1000) (h0 : l ≠ []) (hv : mayT t = true) {r : Nat × Bool} (hr : nextP 3 t l final = r) :
    Calls Tryd.prog 16 #[.int .i64 3, .slice At nt ct, .slice A n c, .bool final] w fun e w' => e = .returned (.tuple #[.int .i64 (r.1 : Int), .bool r.2]) ∧ Below w.heap.size w w' := by
  have hn := h.len
  have hn0 : 0 < n := by rw [hn]; exact List.length_pos_iff.2 h0
  have hb0 := beq_no (show (n : Int) ≠ 0 by omega)
  obtain ⟨S, hsh, -⟩ := pts_shape t l
  have hp0 := pts_pos (t := t) h0
  have hpl : (ptsOf t l).length ≤ 1000 := Nat.le_trans (pts_len t l) hl
  unfold nextP at hr
  rw [if_neg (by rintro (h | h | h | h); exact h0 h; rw [hv] at h; cases h; omega; omega), if_neg (by decide)] at hr
  have HNEW := Lib.hid (fun (w1 : World) (hb : Below w.heap.size w w1) => rd_new (wide := true) w1 (RowAt.mono (RowAt.below h hb) hb.size) (RowAt.mono (RowAt.below ht hb) hb.size) hm hl)
  obtain ⟨ps, hps⟩ : ∃ ps, ptsOf t l = ps := ⟨_, rfl⟩
  rw [hps] at hsh hp0 hpl hr HNEW
  obtain ⟨cn, cr, hcut⟩ : ∃ a b, cutP 3 ps = (a, b) := ⟨_, _, rfl⟩
  have hcn := cut_le (kind := 3) hp0
  have hcr := cut_few (kind := 3) hp0 hpl
  rw [hcut] at hr hcn hcr
  simp only at hr hcn hcr
  have HCUT := Lib.hid (show broadP ps = (cn, cr) from hcut)
  have HSH := Lib.hid hsh
  have HR := Lib.hid hr
  have HV := Lib.hid hv
  have HT := Lib.hid ht
  clear h hn h0 hv hr hps hcut hsh ht hl
  go_enter Tryd.func16, Tryd.ntmps16
  go_wp2_with fail
  refine (may_as w HT.out hm HV).mono ?_
  rintro e w1 ⟨rfl, hb1⟩
  have HB1 := Lib.hid hb1
  clear hb1
  go_wp2_with fail
  have HX0 := HNEW.out w1 HB1.out
  have HB2 := Lib.hid (show Below w.heap.size w (w1.alloc (.cells #[.slice A n c, .slice At nt ct, .slice none 0 0, .bool false, .bool true] 61)) from HB1.out.alloc HB1.out.size _)
  refine (broad_any _ HX0 rfl hp0 HCUT.out).mono ?_
  rintro e aw ⟨rfl, hb, ak, hr, hk⟩
  have aB := Lib.hid hb
  have aR := Lib.hid hr
  have aK := Lib.hid hk
  clear hb hr hk
  have HKN := Lib.hid (show cn ≤ ak from by have := aK.out; simp only at this; omega)
  have BA := Lib.hid (HB2.out.trans (aB.out.mono HB1.out.size))
  clear aK HX0 aB HB2 HNEW
  cases final with
  | true =>
    have HRR := Lib.hid (show (sumN ps cn, true) = r from by rw [← HR.out]; rfl)
    go_wp2_with fail
    obtain ⟨SA, Sn, Sc, SAt, Snt, Sct, SAr, Scr, Sop, Srest, hst⟩ := aR.out
    obtain ⟨c0, c1, c2, c3, c4⟩ := hst.reads
    have HC := Lib.hid (show ∀ j, j < cn → ∃ b off, ∃ m : Nat, SAr = some ⟨b, off, none⟩ ∧ aw.cell? ⟨b, off + j * 4 + 2, none⟩ = some (.int .i64 (m : Int)) ∧ sumN ps (j + 1) = sumN ps j + m ∧ m ≤ 4 from fun j hj => by
      have hjt : j < (ps.take ak).length := by rw [List.length_take]; have := HKN.out; omega
      obtain ⟨b, off, he, hbl, hc⟩ := PtsAt.cells (RowAt.of_own hst.row) (by have := HKN.out; omega)
      obtain ⟨e0, e1, e2, e3⟩ := hc j hjt
      have hget : (ps.take ak)[j] = ps[j]'(by omega) := List.getElem_take
      rw [hget] at e2
      have hp : ps[j]? = some (ps[j]'(by omega)) := List.getElem?_eq_getElem (by omega)
      exact ⟨b, off, _, he, e2, sumN_succ hp, (HSH.out.one hp).2.1⟩)
    have hkk : cn ≤ ak := HKN.out
    clear hst c0 c1 c3 c4
    go_loop [15, 70] (fun y z => ∃ j s : Nat, z = .int .i64 (j : Int) ∧ y = .int .i64 (s : Int) ∧ j ≤ cn ∧ Hid (sumN ps j = s)) (fun _ z => cn - (intOf z).toNat)
    case atStart => exact ⟨0, 0, rfl, rfl, Nat.zero_le _, Lib.hid (by simp [sumN])⟩
    case round =>
      obtain ⟨j, s, rfl, rfl, hj, HS⟩ := hrel
      by_cases hlt : j < cn
      · obtain ⟨b, off, m, rfl, e2, hs, hm4⟩ := HC.out j hlt
        have HS2 := Lib.hid (show sumN ps (j + 1) = s + m from by rw [hs, HS.out])
        have hsb : s ≤ 4000 := by rw [← HS.out]; have := sumN_le HSH.out j (by omega); omega
        have hjk : (j : Int) < (ak : Int) := by omega
        clear hs
        go_wp2_with fail
        go_round
        case rel => exact ⟨j + 1, s + m, by go_num, by go_num, by omega, HS2⟩
        case measure => simp [intOf]; omega
      · obtain rfl : j = cn := by omega
        have HRE := Lib.hid (show r = (s, true) from by rw [← HRR.out, HS.out])
        go_wp2_with fail
        go_ret2
        rw [HRE.out]
        exact ⟨by first | rfl | simp, BA.out⟩
  | false =>
    obtain ⟨o, ho⟩ : ∃ o, sureP ps cr = o := ⟨_, rfl⟩
    have HO := Lib.hid ho
    clear ho
    go_wp2_with fail
    refine (sure_any aw aR.out (by omega) HO.out).mono ?_
    rintro e bw ⟨rfl, hb, bk, hr, hk⟩
    have bB := Lib.hid hb
    have bR := Lib.hid hr
    have bK := Lib.hid hk
    clear hb hr hk
    have BB := Lib.hid (BA.out.trans (bB.out.mono HB1.out.size))
    have HKB := Lib.hid (show cn ≤ bk from by have := bK.out; have := HKN.out; omega)
    clear bK bB BA aR HKN
    cases o with
    | false =>
      have HRR := Lib.hid (show (sumN ps cn, false) = r from by rw [← HR.out, HO.out]; rfl)
      go_wp2_with fail
      obtain ⟨SA, Sn, Sc, SAt, Snt, Sct, SAr, Scr, Sop, Srest, hst⟩ := bR.out
      obtain ⟨c0, c1, c2, c3, c4⟩ := hst.reads
      have HC := Lib.hid (show ∀ j, j < cn → ∃ b off, ∃ m : Nat, SAr = some ⟨b, off, none⟩ ∧ bw.cell? ⟨b, off + j * 4 + 2, none⟩ = some (.int .i64 (m : Int)) ∧ sumN ps (j + 1) = sumN ps j + m ∧ m ≤ 4 from fun j hj => by
        have hjt : j < (ps.take bk).length := by rw [List.length_take]; have := HKB.out; omega
        obtain ⟨b, off, he, hbl, hc⟩ := PtsAt.cells (RowAt.of_own hst.row) (by have := HKB.out; omega)
        obtain ⟨e0, e1, e2, e3⟩ := hc j hjt
        have hget : (ps.take bk)[j] = ps[j]'(by omega) := List.getElem_take
        rw [hget] at e2
        have hp : ps[j]? = some (ps[j]'(by omega)) := List.getElem?_eq_getElem (by omega)
        exact ⟨b, off, _, he, e2, sumN_succ hp, (HSH.out.one hp).2.1⟩)
      have hkk : cn ≤ bk := HKB.out
      clear hst c0 c1 c3 c4
      go_loop [15, 70] (fun y z => ∃ j s : Nat, z = .int .i64 (j : Int) ∧ y = .int .i64 (s : Int) ∧ j ≤ cn ∧ Hid (sumN ps j = s)) (fun _ z => cn - (intOf z).toNat)
      case atStart => exact ⟨0, 0, rfl, rfl, Nat.zero_le _, Lib.hid (by simp [sumN])⟩
      case round =>
        obtain ⟨j, s, rfl, rfl, hj, HS⟩ := hrel
        by_cases hlt : j < cn
        · obtain ⟨b, off, m, rfl, e2, hs, hm4⟩ := HC.out j hlt
          have HS2 := Lib.hid (show sumN ps (j + 1) = s + m from by rw [hs, HS.out])
          have hsb : s ≤ 4000 := by rw [← HS.out]; have := sumN_le HSH.out j (by omega); omega
          have hjk : (j : Int) < (bk : Int) := by omega
          clear hs
          go_wp2_with fail
          go_round
          case rel => exact ⟨j + 1, s + m, by go_num, by go_num, by omega, HS2⟩
          case measure => simp [intOf]; omega
        · obtain rfl : j = cn := by omega
          have HRE := Lib.hid (show r = (s, false) from by rw [← HRR.out, HS.out])
          go_wp2_with fail
          go_ret2
          rw [HRE.out]
          exact ⟨by first | rfl | simp, BB.out⟩
    | true =>
      obtain ⟨o2, ho2⟩ : ∃ o, pendP ps true = o := ⟨_, rfl⟩
      have HO2 := Lib.hid ho2
      clear ho2
      go_wp2_with fail
      refine (pending_any bw bR.out HO2.out).mono ?_
      rintro e dw ⟨rfl, hb, dk, hr, hk⟩
      have dB := Lib.hid hb
      have dR := Lib.hid hr
      have dK := Lib.hid hk
      clear hb hr hk
      have BD := Lib.hid (BB.out.trans (dB.out.mono HB1.out.size))
      have HKD := Lib.hid (show cn ≤ dk from by have := dK.out; have := HKB.out; omega)
      clear dK dB BB bR HKB
      have HRR := Lib.hid (show (sumN ps cn, !o2) = r from by
        rw [← HR.out, HO.out]
        show (sumN ps cn, !o2) = (sumN ps cn, !pendP ps true)
        rw [HO2.out])
      go_wp2_with fail
      obtain ⟨SA, Sn, Sc, SAt, Snt, Sct, SAr, Scr, Sop, Srest, hst⟩ := dR.out
      obtain ⟨c0, c1, c2, c3, c4⟩ := hst.reads
      have HC := Lib.hid (show ∀ j, j < cn → ∃ b off, ∃ m : Nat, SAr = some ⟨b, off, none⟩ ∧ dw.cell? ⟨b, off + j * 4 + 2, none⟩ = some (.int .i64 (m : Int)) ∧ sumN ps (j + 1) = sumN ps j + m ∧ m ≤ 4 from fun j hj => by
        have hjt : j < (ps.take dk).length := by rw [List.length_take]; have := HKD.out; omega
        obtain ⟨b, off, he, hbl, hc⟩ := PtsAt.cells (RowAt.of_own hst.row) (by have := HKD.out; omega)
        obtain ⟨e0, e1, e2, e3⟩ := hc j hjt
        have hget : (ps.take dk)[j] = ps[j]'(by omega) := List.getElem_take
        rw [hget] at e2
        have hp : ps[j]? = some (ps[j]'(by omega)) := List.getElem?_eq_getElem (by omega)
        exact ⟨b, off, _, he, e2, sumN_succ hp, (HSH.out.one hp).2.1⟩)
      have hkk : cn ≤ dk := HKD.out
      clear hst c0 c1 c3 c4
      go_loop [15, 70] (fun y z => ∃ j s : Nat, z = .int .i64 (j : Int) ∧ y = .int .i64 (s : Int) ∧ j ≤ cn ∧ Hid (sumN ps j = s)) (fun _ z => cn - (intOf z).toNat)
      case atStart => exact ⟨0, 0, rfl, rfl, Nat.zero_le _, Lib.hid (by simp [sumN])⟩
      case round =>
        obtain ⟨j, s, rfl, rfl, hj, HS⟩ := hrel
        by_cases hlt : j < cn
        · obtain ⟨b, off, m, rfl, e2, hs, hm4⟩ := HC.out j hlt
          have HS2 := Lib.hid (show sumN ps (j + 1) = s + m from by rw [hs, HS.out])
          have hsb : s ≤ 4000 := by rw [← HS.out]; have := sumN_le HSH.out j (by omega); omega
          have hjk : (j : Int) < (dk : Int) := by omega
          clear hs
          go_wp2_with fail
          go_round
          case rel => exact ⟨j + 1, s + m, by go_num, by go_num, by omega, HS2⟩
          case measure => simp [intOf]; omega
        · obtain rfl : j = cn := by omega
          have HRE := Lib.hid (show r = (s, !o2) from by rw [← HRR.out, HS.out])
          go_wp2_with fail
          go_ret2
          rw [HRE.out]
          exact ⟨by first | rfl | simp, BD.out⟩
set_option maxHeartbeats 1000000 in
theorem next_0 {A At : Option Addr} {n c nt ct : Nat} {t : List Rg} {l : List UInt8} (final : Bool) (w : World) (h : BytesAt w w.heap.size A n c l) (ht : RangesAt w w.heap.size At nt ct t) (hm : nt ≤ 1000) (h0 : l ≠ []) (hv : mayT t = true) :
    Calls Tryd.prog 16 #[.int .i64 0, .slice At nt ct, .slice A n c, .bool final] w fun e w' => e = .returned (.tuple #[.int .i64 (l.length : Int), .bool final]) ∧ Below w.heap.size w w' := by
  have hn := h.len
  have hn0 : 0 < n := by rw [hn]; exact List.length_pos_iff.2 h0
  have hb0 := beq_no (show (n : Int) ≠ 0 by omega)
  have HN := Lib.hid hn
  have HV := Lib.hid hv
  have HT := Lib.hid ht
  clear h hn h0 hv ht
  go_enter Tryd.func16, Tryd.ntmps16
  go_wp2_with fail
  refine (may_as w HT.out hm HV).mono ?_
  rintro e w1 ⟨rfl, hb1⟩
  go_wp2_with fail
  go_ret2
  exact ⟨by rw [← HN.out]; rfl, hb1.alloc hb1.size _⟩
set_option maxHeartbeats 1000000 in
theorem next_odd {A At : Option Addr} {n c nt ct : Nat} {t : List Rg} {l : List UInt8} (kind : Int) (final : Bool) (w : World) (h : BytesAt w w.heap.size A n c l) (ht : RangesAt w w.heap.size At nt ct t) (hm : nt ≤ 1000) (h0 : l ≠ []) (hv : mayT t = true) (hk : kind < 0 ∨ 3 < kind) :
    Calls Tryd.prog 16 #[.int .i64 kind, .slice At nt ct, .slice A n c, .bool final] w fun e w' => e = .returned (.tuple #[.int .i64 0, .bool false]) ∧ Below w.heap.size w w' := by
  have hn := h.len
  have hn0 : 0 < n := by rw [hn]; exact List.length_pos_iff.2 h0
  have hb0 := beq_no (show (n : Int) ≠ 0 by omega)
  have k0 := beq_no (show kind ≠ 0 by omega)
  have k1 := beq_no (show kind ≠ 1 by omega)
  have k2 := beq_no (show kind ≠ 2 by omega)
  have k3 := beq_no (show kind ≠ 3 by omega)
  have HN := Lib.hid hn
  have HV := Lib.hid hv
  have HT := Lib.hid ht
  clear h hn h0 hv ht hk
  go_enter Tryd.func16, Tryd.ntmps16
  go_wp2_with fail
  refine (may_as w HT.out hm HV).mono ?_
  rintro e w1 ⟨rfl, hb1⟩
  go_wp2_with fail
  go_ret2
  exact ⟨rfl, hb1.alloc hb1.size _⟩
/-- Next at all arguments. -/
theorem next_any {A At : Option Addr} {n c nt ct : Nat} {t : List Rg} {l : List UInt8} (kind : Int) (final : Bool) (w : World) (h : BytesAt w w.heap.size A n c l) (ht : RangesAt w w.heap.size At nt ct t) (hm : nt ≤ 1000) (hl : l.length ≤ 1000) {r : Nat × Bool} (hr : nextP kind t l final = r) :
    Calls Tryd.prog 16 #[.int .i64 kind, .slice At nt ct, .slice A n c, .bool final] w fun e w' => e = .returned (.tuple #[.int .i64 (r.1 : Int), .bool r.2]) ∧ Below w.heap.size w w' := by
  by_cases h0 : l = [] ∨ mayT t = false
  · have : r = (0, false) := by rw [← hr]; unfold nextP; rw [if_pos (by rcases h0 with h | h; exact .inl h; exact .inr (.inl h))]
    rw [this]
    exact next_none kind final w h ht hm h0
  · have h1 : l ≠ [] := fun e => h0 (.inl e)
    have h2 : mayT t = true := by cases hv : mayT t with | true => rfl | false => exact absurd (.inr hv) h0
    by_cases hk : kind < 0 ∨ 3 < kind
    · have : r = (0, false) := by rw [← hr]; unfold nextP; rw [if_pos (by rcases hk with h | h; exact .inr (.inr (.inl h)); exact .inr (.inr (.inr h)))]
      rw [this]
      exact next_odd kind final w h ht hm h1 h2 hk
    · rcases (by omega : kind = 0 ∨ kind = 1 ∨ kind = 2 ∨ kind = 3) with rfl | rfl | rfl | rfl
      · have : r = (l.length, final) := by rw [← hr]; unfold nextP; rw [if_neg (by rintro (h | h | h | h); exact h1 h; rw [h2] at h; cases h; omega; omega), if_pos rfl]
        rw [this]
        exact next_0 final w h ht hm h1 h2
      · exact next_1 final w h ht hm hl h1 h2 hr
      · exact next_2 final w h ht hm hl h1 h2 hr
      · exact next_3 final w h ht hm hl h1 h2 hr
end Go.Proofs.YtkiggpbmlkfdpaaDoor
