/- The walk of the document's Next. -/
import Derived.Test.YtkiggpbmlkfdpaaDoorScanRCut2
import Derived.Test.YtkiggpbmlkfdpaaDoorScanPts
import Derived.Test.YtkiggpbmlkfdpaaDoorScanNext
namespace Go.Proofs.YtkiggpbmlkfdpaaDoor
open Go.RowKit
set_option linter.unusedVariables false

theorem str_no {s : ByteArray} (h : s.data.toList = []) : s.toList = [] := by rw [ByteArray.toList_eq]; exact h
set_option maxHeartbeats 1000000 in
theorem rnext_none {At : Option Addr} {nt ct : Nat} {t : List Rg} (kind : Int) (final : Bool) (s : ByteArray) (w : World) (ht : RangesAt w w.heap.size At nt ct t) (hx : s.data.toList = [] ∨ kind < 0 ∨ 3 < kind ∨ mayT t = false) :
    Calls Tryd.prog 17 #[.int .i64 kind, .slice At nt ct, .string s, .bool final] w fun e w' => e = .returned (.tuple #[.int .i64 0, .bool false]) ∧ Below w.heap.size w w' := by
  by_cases h0 : s.data.toList = []
  · have hs1 := str_no h0
    clear h0 hx
    go_enter Tryd.func17, Tryd.ntmps17
    go_wp2_with fail
    go_ret2
    exact ⟨rfl, Below.refl _ _⟩
  · have hs1 : s.toList.isEmpty = false := str_nonempty (fun e => h0 (List.eq_nil_of_length_eq_zero (by rw [str_len]; exact e)))
    have hs2 : ¬ s.toList = [] := by rw [ByteArray.toList_eq]; exact h0
    by_cases h1 : kind < 0
    · clear h0 hx
      go_enter Tryd.func17, Tryd.ntmps17
      go_wp2_with fail
      go_ret2
      exact ⟨rfl, Below.refl _ _⟩
    · by_cases h2 : 3 < kind
      · clear h0 hx
        go_enter Tryd.func17, Tryd.ntmps17
        go_wp2_with fail
        go_ret2
        exact ⟨rfl, Below.refl _ _⟩
      · have HV := Lib.hid (show mayT t = false from by rcases hx with h | h | h | h; exact absurd h h0; exact absurd h h1; exact absurd h h2; exact h)
        have HT := Lib.hid ht
        clear h0 hx ht
        go_enter Tryd.func17, Tryd.ntmps17
        go_wp2_with fail
        refine (rmay_as w HT.out HV).mono ?_
        rintro e w' ⟨rfl, hb⟩
        go_wp2_with fail
        go_ret2
        exact ⟨rfl, hb⟩
set_option maxHeartbeats 1000000 in
theorem rnext_0 {At : Option Addr} {nt ct : Nat} {t : List Rg} (final : Bool) (s : ByteArray) (w : World) (ht : RangesAt w w.heap.size At nt ct t) (h0 : s.data.toList ≠ []) (hv : mayT t = true) :
    Calls Tryd.prog 17 #[.int .i64 0, .slice At nt ct, .string s, .bool final] w fun e w' => e = .returned (.tuple #[.int .i64 (s.data.toList.length : Int), .bool final]) ∧ Below w.heap.size w w' := by
  have hs1 : s.toList.isEmpty = false := str_nonempty (fun e => h0 (List.eq_nil_of_length_eq_zero (by rw [str_len]; exact e)))
  have hs2 : ¬ s.toList = [] := by rw [ByteArray.toList_eq]; exact h0
  have HV := Lib.hid hv
  have HT := Lib.hid ht
  have HL := Lib.hid (str_len s)
  clear h0 hv ht
  go_enter Tryd.func17, Tryd.ntmps17
  go_wp2_with fail
  refine (rmay_as w HT.out HV).mono ?_
  rintro e w' ⟨rfl, hb⟩
  go_wp2_with fail
  go_ret2
  exact ⟨by rw [HL.out]; rfl, hb⟩
set_option maxRecDepth 100000 in
set_option maxHeartbeats 8000000 in
theorem rnext_1 {At : Option Addr} {nt ct : Nat} {t : List Rg} (final : Bool) (s : ByteArray) (w : World) (ht : RangesAt w w.heap.size At nt ct t) (hs : s.size ≤ 1000) (h0 : s.data.toList ≠ []) (hv : mayT t = true) {r : Nat × Bool} (hr : nextP 1 t s.data.toList final = r) :
    Calls Tryd.prog 17 #[.int .i64 1, .slice At nt ct, .string s, .bool final] w fun e w' => e = .returned (.tuple #[.int .i64 (r.1 : Int), .bool r.2]) ∧ Below w.heap.size w w' := by
  have hs1 : s.toList.isEmpty = false := str_nonempty (fun e => h0 (List.eq_nil_of_length_eq_zero (by rw [str_len]; exact e)))
  have hs2 : ¬ s.toList = [] := by rw [ByteArray.toList_eq]; exact h0
  have HV := Lib.hid hv
  have HT := Lib.hid ht
  have H0 := Lib.hid h0
  have HR := Lib.hid hr
  clear h0 hv ht hr
  go_enter Tryd.func17, Tryd.ntmps17
  go_wp2_with fail
  refine (rmay_as w HT.out HV).mono ?_
  rintro e w0 ⟨rfl, hb0⟩
  have HB0 := Lib.hid hb0
  have HT0 := Lib.hid (show RangesAt w0 w0.heap.size At nt ct t from RowAt.mono (RowAt.below HT.out hb0) hb0.size)
  clear hb0
  go_wp2_with fail
  refine (rpts_any s w0 HT0.out hs HV.out).mono ?_
  rintro e w1 ⟨AP, AC, AN, cP, cC, cN, S, n, rfl, hl, hsh, hb1⟩
  have HL := Lib.hid hl
  have HSH0 := Lib.hid hsh
  have HB1 := Lib.hid (HB0.out.trans (hb1.mono HB0.out.size))
  unfold lV
  obtain ⟨ps, hps⟩ : ∃ ps, ptsOf t s.data.toList = ps := ⟨_, rfl⟩
  have hp0 : 0 < ps.length := by rw [← hps]; exact pts_pos H0.out
  have HRR := HR.out
  rw [← next_eq hsh] at HRR
  unfold nextR at HRR
  rw [if_neg (by rintro (h | h | h | h); exact H0.out h; omega; omega; rw [HV.out] at h; cases h), if_neg (by decide)] at HRR
  rw [hps] at HL HSH0 HRR
  have HSH := HSH0
  obtain ⟨cn, cr, hcut⟩ : ∃ a b, cutR 1 ps = (a, b) := ⟨_, _, rfl⟩
  have hfew := HL.out.few
  have hcn : cn ≤ ps.length := by have h1 := cut_le (kind := 1) hp0; rw [← cut_eq HSH.out (by decide) (by decide), hcut] at h1; exact h1
  have hcr : cr ≤ 1001 := by have h1 := cut_few (kind := 1) hp0 hfew; rw [← cut_eq HSH.out (by decide) (by decide), hcut] at h1; exact h1
  rw [hcut] at HRR
  have HRQ := Lib.hid HRR
  have HCUT := Lib.hid (show wordP ps = (cn, cr) from hcut)
  have HWD := HCUT
  have HN := Lib.hid HL.out.len
  have hSl : S ≤ 1000 := by have := HSH.out.le; omega
  have hcm := HL.out.num.2.2.1
  have hcnn := HL.out.num.2.1
  unfold maxLen at hcm
  clear hl hsh hb1 hps HSH0 HRR hcut
  go_wp2_with fail
  obtain ⟨g, hg⟩ : ∃ g, w1.heap.size = g := ⟨_, rfl⟩
  obtain ⟨X1, hX1⟩ : ∃ X1, X1 = w1.alloc (.cells #[.slice AP n cP, .slice AC n cC, .slice AN n cN, .int .i64 (S : Int)] 68) := ⟨_, rfl⟩
  have BX1 := Lib.hid (show Below w1.heap.size w1 X1 from by rw [hX1]; exact (Below.refl _ w1).alloc (Nat.le_refl _) _)
  have GX1 := Lib.hid (show X1.heap[g]? = some (.cells #[.slice AP n cP, .slice AC n cC, .slice AN n cN, .int .i64 (S : Int)] 68 (0, 0)) from by rw [hX1, ← hg]; exact heap_alloc_new w1 _)
  rw [← hX1]
  try rw [hg]
  have HGG := Lib.hid hg
  clear hX1 hg
  refine (rword_any X1 (HL.out.later BX1.out) hp0 HWD.out).mono ?_
  rintro e w2 ⟨rfl, hb2⟩
  have hgl : g < X1.heap.size := (Array.getElem?_eq_some_iff.1 GX1.out).1
  have BX2 := Lib.hid (BX1.out.trans (hb2.mono BX1.out.size))
  have GX2 := Lib.hid ((hb2.block g hgl).trans GX1.out)
  unfold aV
  have hg2 : g < w2.heap.size := (Array.getElem?_eq_some_iff.1 GX2.out).1
  have c0 : w2.cell? ⟨g, 0, none⟩ = some (.slice AP n cP) := Lib.cell_of_heap GX2.out 0
  have c1 : w2.cell? ⟨g, 1, none⟩ = some (.slice AC n cC) := Lib.cell_of_heap GX2.out 1
  have c2 : w2.cell? ⟨g, 2, none⟩ = some (.slice AN n cN) := Lib.cell_of_heap GX2.out 2
  have c3 : w2.cell? ⟨g, 3, none⟩ = some (.int .i64 (S : Int)) := Lib.cell_of_heap GX2.out 3
  clear hb2 BX1 GX1 hgl
  go_wp2_with fail
  obtain ⟨WW, hWW⟩ : ∃ W, W = w2.alloc (.cells #[.int .i64 (cn : Int), .int .i64 (cr : Int)] 71) := ⟨_, rfl⟩
  obtain ⟨a, ha⟩ : ∃ a, w2.heap.size = a := ⟨_, rfl⟩
  have BW := Lib.hid (show Below w1.heap.size w1 WW from by rw [hWW]; exact BX2.out.alloc BX2.out.size _)
  have GW := Lib.hid (show WW.heap[g]? = some (.cells #[.slice AP n cP, .slice AC n cC, .slice AN n cN, .int .i64 (S : Int)] 68 (0, 0)) from by rw [hWW]; exact (Below.heap_alloc _ _ _ hg2).trans GX2.out)
  have AW := Lib.hid (show WW.heap[a]? = some (.cells #[.int .i64 (cn : Int), .int .i64 (cr : Int)] 71 (0, 0)) from by rw [hWW, ← ha]; exact heap_alloc_new w2 _)
  rw [← hWW]
  try rw [ha]
  clear hWW ha c0 c1 c2 c3
  have d0 : WW.cell? ⟨g, 0, none⟩ = some (.slice AP n cP) := Lib.cell_of_heap GW.out 0
  have d1 : WW.cell? ⟨g, 1, none⟩ = some (.slice AC n cC) := Lib.cell_of_heap GW.out 1
  have d2 : WW.cell? ⟨g, 2, none⟩ = some (.slice AN n cN) := Lib.cell_of_heap GW.out 2
  have d3 : WW.cell? ⟨g, 3, none⟩ = some (.int .i64 (S : Int)) := Lib.cell_of_heap GW.out 3
  have x0 : WW.cell? ⟨a, 0, none⟩ = some (.int .i64 (cn : Int)) := Lib.cell_of_heap AW.out 0
  have x1 : WW.cell? ⟨a, 1, none⟩ = some (.int .i64 (cr : Int)) := Lib.cell_of_heap AW.out 1
  have HC := Lib.hid (show ∀ j, j < cn → ∃ b off, ∃ m : Nat, AN = some ⟨b, off, none⟩ ∧ WW.cell? ⟨b, off + j, none⟩ = some (.int .i64 (m : Int)) ∧ sumN ps (j + 1) = sumN ps j + m ∧ m ≤ 4 from fun j hj => by
    have hjp : j < ps.length := by omega
    obtain ⟨b, off, he, _, hc⟩ := (HL.out.later BW.out).numCells (by have := HN.out; omega)
    have hp : ps[j]? = some (ps[j]'hjp) := List.getElem?_eq_getElem hjp
    exact ⟨b, off, _, he, hc j hjp, sumN_succ hp, (HSH.out.one hp).2.1⟩)
  cases final with
  | true =>
    go_wp2_with fail
    go_loop [12, 13] (fun y z => ∃ j m : Nat, z = .int .i64 (j : Int) ∧ y = .int .i64 (m : Int) ∧ j ≤ cn ∧ Hid (sumN ps j = m)) (fun _ z => cn - (intOf z).toNat)
    case atStart => exact ⟨0, 0, by first | rfl | trivial, by first | rfl | trivial, Nat.zero_le _, Lib.hid (by simp [sumN])⟩
    case round =>
      obtain ⟨j, m, rfl, rfl, hj, HJ⟩ := hrel
      by_cases hlt : j < cn
      · obtain ⟨b, off, x, rfl, e2, hsx, hx4⟩ := HC.out j hlt
        have HS2 := Lib.hid (show sumN ps (j + 1) = m + x from by rw [hsx, HJ.out])
        have hsb : m ≤ 4000 := by rw [← HJ.out]; have := sumN_le HSH.out j (by omega); omega
        have hjn : (j : Int) < (n : Int) := by have := HN.out; omega
        clear hsx
        go_wp2_with fail
        go_round
        case rel => exact ⟨j + 1, m + x, by go_num, by go_num, by omega, HS2⟩
        case measure => simp [intOf]; omega
      · obtain rfl : j = cn := by omega
        have HRE := Lib.hid (show r = (m, true) from by have := HRQ.out; rw [if_pos (by first | rfl | trivial)] at this; rw [← this, HJ.out])
        go_wp2_with fail
        go_ret2
        rw [HRE.out]
        exact ⟨by first | rfl | simp, HB1.out.trans (BW.out.mono HB1.out.size)⟩
  | false =>
    have HRF := Lib.hid (show (sumN ps cn, decide (cr ≤ S) && (decide ((1 : Int) = 1) || !begunR ps S (decide ((1 : Int) = 3)))) = r from by have := HRQ.out; rw [if_neg (by decide)] at this; exact this)
    by_cases hcS : cr ≤ S
    · have hcS' : (cr : Int) ≤ (S : Int) := by omega
      go_wp2_with fail
      go_loop [12, 13] (fun y z => ∃ j m : Nat, z = .int .i64 (j : Int) ∧ y = .int .i64 (m : Int) ∧ j ≤ cn ∧ Hid (sumN ps j = m)) (fun _ z => cn - (intOf z).toNat)
      case atStart => exact ⟨0, 0, by first | rfl | trivial, by first | rfl | trivial, Nat.zero_le _, Lib.hid (by simp [sumN])⟩
      case round =>
        obtain ⟨j, m, rfl, rfl, hj, HJ⟩ := hrel
        by_cases hlt : j < cn
        · obtain ⟨b, off, x, rfl, e2, hsx, hx4⟩ := HC.out j hlt
          have HS2 := Lib.hid (show sumN ps (j + 1) = m + x from by rw [hsx, HJ.out])
          have hsb : m ≤ 4000 := by rw [← HJ.out]; have := sumN_le HSH.out j (by omega); omega
          have hjn : (j : Int) < (n : Int) := by have := HN.out; omega
          clear hsx
          go_wp2_with fail
          go_round
          case rel => exact ⟨j + 1, m + x, by go_num, by go_num, by omega, HS2⟩
          case measure => simp [intOf]; omega
        · obtain rfl : j = cn := by omega
          have HRE := Lib.hid (show r = (m, true) from by rw [← HRF.out, decide_eq_true hcS, HJ.out]; rfl)
          go_wp2_with fail
          go_ret2
          rw [HRE.out]
          exact ⟨by first | rfl | simp, HB1.out.trans (BW.out.mono HB1.out.size)⟩
    · have hcS' : ¬ (cr : Int) ≤ (S : Int) := by omega
      go_wp2_with fail
      go_loop [12, 13] (fun y z => ∃ j m : Nat, z = .int .i64 (j : Int) ∧ y = .int .i64 (m : Int) ∧ j ≤ cn ∧ Hid (sumN ps j = m)) (fun _ z => cn - (intOf z).toNat)
      case atStart => exact ⟨0, 0, by first | rfl | trivial, by first | rfl | trivial, Nat.zero_le _, Lib.hid (by simp [sumN])⟩
      case round =>
        obtain ⟨j, m, rfl, rfl, hj, HJ⟩ := hrel
        by_cases hlt : j < cn
        · obtain ⟨b, off, x, rfl, e2, hsx, hx4⟩ := HC.out j hlt
          have HS2 := Lib.hid (show sumN ps (j + 1) = m + x from by rw [hsx, HJ.out])
          have hsb : m ≤ 4000 := by rw [← HJ.out]; have := sumN_le HSH.out j (by omega); omega
          have hjn : (j : Int) < (n : Int) := by have := HN.out; omega
          clear hsx
          go_wp2_with fail
          go_round
          case rel => exact ⟨j + 1, m + x, by go_num, by go_num, by omega, HS2⟩
          case measure => simp [intOf]; omega
        · obtain rfl : j = cn := by omega
          have HRE := Lib.hid (show r = (m, false) from by rw [← HRF.out, decide_eq_false hcS, HJ.out]; rfl)
          go_wp2_with fail
          go_ret2
          rw [HRE.out]
          exact ⟨by first | rfl | simp, HB1.out.trans (BW.out.mono HB1.out.size)⟩
set_option maxRecDepth 100000 in
set_option maxHeartbeats 8000000 in
theorem rnext_2 {At : Option Addr} {nt ct : Nat} {t : List Rg} (final : Bool) (s : ByteArray) (w : World) (ht : RangesAt w w.heap.size At nt ct t) (hs : s.size ≤ 1000) (h0 : s.data.toList ≠ []) (hv : mayT t = true) {r : Nat × Bool} (hr : nextP 2 t s.data.toList final = r) :
    Calls Tryd.prog 17 #[.int .i64 2, .slice At nt ct, .string s, .bool final] w fun e w' => e = .returned (.tuple #[.int .i64 (r.1 : Int), .bool r.2]) ∧ Below w.heap.size w w' := by
  have hs1 : s.toList.isEmpty = false := str_nonempty (fun e => h0 (List.eq_nil_of_length_eq_zero (by rw [str_len]; exact e)))
  have hs2 : ¬ s.toList = [] := by rw [ByteArray.toList_eq]; exact h0
  have HV := Lib.hid hv
  have HT := Lib.hid ht
  have H0 := Lib.hid h0
  have HR := Lib.hid hr
  clear h0 hv ht hr
  go_enter Tryd.func17, Tryd.ntmps17
  go_wp2_with fail
  refine (rmay_as w HT.out HV).mono ?_
  rintro e w0 ⟨rfl, hb0⟩
  have HB0 := Lib.hid hb0
  have HT0 := Lib.hid (show RangesAt w0 w0.heap.size At nt ct t from RowAt.mono (RowAt.below HT.out hb0) hb0.size)
  clear hb0
  go_wp2_with fail
  refine (rpts_any s w0 HT0.out hs HV.out).mono ?_
  rintro e w1 ⟨AP, AC, AN, cP, cC, cN, S, n, rfl, hl, hsh, hb1⟩
  have HL := Lib.hid hl
  have HSH0 := Lib.hid hsh
  have HB1 := Lib.hid (HB0.out.trans (hb1.mono HB0.out.size))
  unfold lV
  obtain ⟨ps, hps⟩ : ∃ ps, ptsOf t s.data.toList = ps := ⟨_, rfl⟩
  have hp0 : 0 < ps.length := by rw [← hps]; exact pts_pos H0.out
  have HRR := HR.out
  rw [← next_eq hsh] at HRR
  unfold nextR at HRR
  rw [if_neg (by rintro (h | h | h | h); exact H0.out h; omega; omega; rw [HV.out] at h; cases h), if_neg (by decide)] at HRR
  rw [hps] at HL HSH0 HRR
  have HSH := HSH0
  obtain ⟨cn, cr, hcut⟩ : ∃ a b, cutR 2 ps = (a, b) := ⟨_, _, rfl⟩
  have hfew := HL.out.few
  have hcn : cn ≤ ps.length := by have h1 := cut_le (kind := 2) hp0; rw [← cut_eq HSH.out (by decide) (by decide), hcut] at h1; exact h1
  have hcr : cr ≤ 1001 := by have h1 := cut_few (kind := 2) hp0 hfew; rw [← cut_eq HSH.out (by decide) (by decide), hcut] at h1; exact h1
  rw [hcut] at HRR
  have HRQ := Lib.hid HRR
  have HCUT := Lib.hid (show plainR ps = (cn, cr) from hcut)
  obtain ⟨wn, wr, hwd⟩ : ∃ a b, wordP ps = (a, b) := ⟨_, _, rfl⟩
  have HWD := Lib.hid hwd
  have HN := Lib.hid HL.out.len
  have hSl : S ≤ 1000 := by have := HSH.out.le; omega
  have hcm := HL.out.num.2.2.1
  have hcnn := HL.out.num.2.1
  unfold maxLen at hcm
  clear hl hsh hb1 hps HSH0 HRR hcut hwd
  go_wp2_with fail
  obtain ⟨g, hg⟩ : ∃ g, w1.heap.size = g := ⟨_, rfl⟩
  obtain ⟨X1, hX1⟩ : ∃ X1, X1 = w1.alloc (.cells #[.slice AP n cP, .slice AC n cC, .slice AN n cN, .int .i64 (S : Int)] 68) := ⟨_, rfl⟩
  have BX1 := Lib.hid (show Below w1.heap.size w1 X1 from by rw [hX1]; exact (Below.refl _ w1).alloc (Nat.le_refl _) _)
  have GX1 := Lib.hid (show X1.heap[g]? = some (.cells #[.slice AP n cP, .slice AC n cC, .slice AN n cN, .int .i64 (S : Int)] 68 (0, 0)) from by rw [hX1, ← hg]; exact heap_alloc_new w1 _)
  rw [← hX1]
  try rw [hg]
  have HGG := Lib.hid hg
  clear hX1 hg
  refine (rword_any X1 (HL.out.later BX1.out) hp0 HWD.out).mono ?_
  rintro e w2 ⟨rfl, hb2⟩
  have hgl : g < X1.heap.size := (Array.getElem?_eq_some_iff.1 GX1.out).1
  have BX2 := Lib.hid (BX1.out.trans (hb2.mono BX1.out.size))
  have GX2 := Lib.hid ((hb2.block g hgl).trans GX1.out)
  unfold aV
  have hg2 : g < w2.heap.size := (Array.getElem?_eq_some_iff.1 GX2.out).1
  have c0 : w2.cell? ⟨g, 0, none⟩ = some (.slice AP n cP) := Lib.cell_of_heap GX2.out 0
  have c1 : w2.cell? ⟨g, 1, none⟩ = some (.slice AC n cC) := Lib.cell_of_heap GX2.out 1
  have c2 : w2.cell? ⟨g, 2, none⟩ = some (.slice AN n cN) := Lib.cell_of_heap GX2.out 2
  have c3 : w2.cell? ⟨g, 3, none⟩ = some (.int .i64 (S : Int)) := Lib.cell_of_heap GX2.out 3
  clear hb2 BX1 GX1 hgl
  go_wp2_with fail
  obtain ⟨Y, hY⟩ : ∃ W, W = w2.alloc (.cells #[.int .i64 (wn : Int), .int .i64 (wr : Int)] 71) := ⟨_, rfl⟩
  obtain ⟨a, ha⟩ : ∃ a, w2.heap.size = a := ⟨_, rfl⟩
  have BY := Lib.hid (show Below w1.heap.size w1 Y from by rw [hY]; exact BX2.out.alloc BX2.out.size _)
  have GY := Lib.hid (show Y.heap[g]? = some (.cells #[.slice AP n cP, .slice AC n cC, .slice AN n cN, .int .i64 (S : Int)] 68 (0, 0)) from by rw [hY]; exact (Below.heap_alloc _ _ _ hg2).trans GX2.out)
  have AY := Lib.hid (show Y.heap[a]? = some (.cells #[.int .i64 (wn : Int), .int .i64 (wr : Int)] 71 (0, 0)) from by rw [hY, ← ha]; exact heap_alloc_new w2 _)
  have hga : g < a := by omega
  have hw1a : w1.heap.size ≤ a := by have := BX2.out.size; omega
  rw [← hY]
  try rw [ha]
  clear hY ha c0 c1 c2 c3
  refine (rplain_any Y (HL.out.later BY.out) hp0 HCUT.out).mono ?_
  rintro e w3 ⟨rfl, hb3⟩
  unfold aV
  have B3 := Lib.hid (BY.out.trans (hb3.mono BY.out.size))
  have G3 := Lib.hid ((hb3.block g (Array.getElem?_eq_some_iff.1 GY.out).1).trans GY.out)
  have A3 := Lib.hid ((hb3.block a (Array.getElem?_eq_some_iff.1 AY.out).1).trans AY.out)
  obtain ⟨WW, hWW⟩ : ∃ W, W = (w3.setCell ⟨a, 0, none⟩ (.int .i64 (cn : Int))).setCell ⟨a, 1, none⟩ (.int .i64 (cr : Int)) := ⟨_, rfl⟩
  have BW := Lib.hid (show Below w1.heap.size w1 WW from by rw [hWW]; exact (B3.out.setCell (p := ⟨a, 0, none⟩) hw1a _).setCell (p := ⟨a, 1, none⟩) hw1a _)
  have GW := Lib.hid (show WW.heap[g]? = some (.cells #[.slice AP n cP, .slice AC n cC, .slice AN n cN, .int .i64 (S : Int)] 68 (0, 0)) from by rw [hWW]; exact ((Below.heap_setCell _ ⟨a, 1, none⟩ _ g (by show g ≠ a; omega)).trans (Below.heap_setCell _ ⟨a, 0, none⟩ _ g (by show g ≠ a; omega))).trans G3.out)
  have AW := Lib.hid (show WW.heap[a]? = some (.cells #[.int .i64 (cn : Int), .int .i64 (cr : Int)] 71 (0, 0)) from by rw [hWW]; exact rheap_set (j := 1) (rheap_set (j := 0) A3.out))
  have z0 : w3.cell? ⟨a, 0, none⟩ = some (.int .i64 (wn : Int)) := Lib.cell_of_heap A3.out 0
  have z1 : w3.cell? ⟨a, 1, none⟩ = some (.int .i64 (wr : Int)) := Lib.cell_of_heap A3.out 1
  have f0 := Lib.frozen_of_heap A3.out 0
  have f1 := Lib.frozen_of_heap A3.out 1
  clear hb3 BY GY AY
  have d0 : WW.cell? ⟨g, 0, none⟩ = some (.slice AP n cP) := Lib.cell_of_heap GW.out 0
  have d1 : WW.cell? ⟨g, 1, none⟩ = some (.slice AC n cC) := Lib.cell_of_heap GW.out 1
  have d2 : WW.cell? ⟨g, 2, none⟩ = some (.slice AN n cN) := Lib.cell_of_heap GW.out 2
  have d3 : WW.cell? ⟨g, 3, none⟩ = some (.int .i64 (S : Int)) := Lib.cell_of_heap GW.out 3
  have x0 : WW.cell? ⟨a, 0, none⟩ = some (.int .i64 (cn : Int)) := Lib.cell_of_heap AW.out 0
  have x1 : WW.cell? ⟨a, 1, none⟩ = some (.int .i64 (cr : Int)) := Lib.cell_of_heap AW.out 1
  have HWW := Lib.hid hWW
  clear hWW
  have HC := Lib.hid (show ∀ j, j < cn → ∃ b off, ∃ m : Nat, AN = some ⟨b, off, none⟩ ∧ WW.cell? ⟨b, off + j, none⟩ = some (.int .i64 (m : Int)) ∧ sumN ps (j + 1) = sumN ps j + m ∧ m ≤ 4 from fun j hj => by
    have hjp : j < ps.length := by omega
    obtain ⟨b, off, he, _, hc⟩ := (HL.out.later BW.out).numCells (by have := HN.out; omega)
    have hp : ps[j]? = some (ps[j]'hjp) := List.getElem?_eq_getElem hjp
    exact ⟨b, off, _, he, hc j hjp, sumN_succ hp, (HSH.out.one hp).2.1⟩)
  cases final with
  | true =>
    go_wp2_with fail
    rw [← HWW.out]
    go_loop [12, 13] (fun y z => ∃ j m : Nat, z = .int .i64 (j : Int) ∧ y = .int .i64 (m : Int) ∧ j ≤ cn ∧ Hid (sumN ps j = m)) (fun _ z => cn - (intOf z).toNat)
    case atStart => exact ⟨0, 0, by first | rfl | trivial, by first | rfl | trivial, Nat.zero_le _, Lib.hid (by simp [sumN])⟩
    case round =>
      obtain ⟨j, m, rfl, rfl, hj, HJ⟩ := hrel
      by_cases hlt : j < cn
      · obtain ⟨b, off, x, rfl, e2, hsx, hx4⟩ := HC.out j hlt
        have HS2 := Lib.hid (show sumN ps (j + 1) = m + x from by rw [hsx, HJ.out])
        have hsb : m ≤ 4000 := by rw [← HJ.out]; have := sumN_le HSH.out j (by omega); omega
        have hjn : (j : Int) < (n : Int) := by have := HN.out; omega
        clear hsx
        go_wp2_with fail
        go_round
        case rel => exact ⟨j + 1, m + x, by go_num, by go_num, by omega, HS2⟩
        case measure => simp [intOf]; omega
      · obtain rfl : j = cn := by omega
        have HRE := Lib.hid (show r = (m, true) from by have := HRQ.out; rw [if_pos (by first | rfl | trivial)] at this; rw [← this, HJ.out])
        go_wp2_with fail
        go_ret2
        rw [HRE.out]
        exact ⟨by first | rfl | simp, HB1.out.trans (BW.out.mono HB1.out.size)⟩
  | false =>
    have HRF := Lib.hid (show (sumN ps cn, decide (cr ≤ S) && (decide ((2 : Int) = 1) || !begunR ps S (decide ((2 : Int) = 3)))) = r from by have := HRQ.out; rw [if_neg (by decide)] at this; exact this)
    by_cases hcS : cr ≤ S
    · have hcS' : (cr : Int) ≤ (S : Int) := by omega
      obtain ⟨o, ho⟩ : ∃ o, begunR ps S false = o := ⟨_, rfl⟩
      have HO := Lib.hid ho
      clear ho
      go_wp2_with fail
      rw [← HWW.out]
      go_loop [12, 13] (fun y z => ∃ j m : Nat, z = .int .i64 (j : Int) ∧ y = .int .i64 (m : Int) ∧ j ≤ cn ∧ Hid (sumN ps j = m)) (fun _ z => cn - (intOf z).toNat)
      case atStart => exact ⟨0, 0, by first | rfl | trivial, by first | rfl | trivial, Nat.zero_le _, Lib.hid (by simp [sumN])⟩
      case round =>
        obtain ⟨j, m, rfl, rfl, hj, HJ⟩ := hrel
        by_cases hlt : j < cn
        · obtain ⟨b, off, x, rfl, e2, hsx, hx4⟩ := HC.out j hlt
          have HS2 := Lib.hid (show sumN ps (j + 1) = m + x from by rw [hsx, HJ.out])
          have hsb : m ≤ 4000 := by rw [← HJ.out]; have := sumN_le HSH.out j (by omega); omega
          have hjn : (j : Int) < (n : Int) := by have := HN.out; omega
          clear hsx
          go_wp2_with fail
          go_round
          case rel => exact ⟨j + 1, m + x, by go_num, by go_num, by omega, HS2⟩
          case measure => simp [intOf]; omega
        · obtain rfl : j = cn := by omega
          have HRE := Lib.hid (show r = (m, !o) from by
            rw [← HRF.out, decide_eq_true hcS, HJ.out]
            show (m, true && (false || !begunR ps S false)) = (m, !o)
            rw [HO.out]; cases o <;> rfl)
          go_wp2_with fail
          refine (rbegun_any false WW (HL.out.later BW.out) hSl HO.out).mono ?_
          rintro e w9 ⟨rfl, hb9⟩
          go_wp2_with fail
          go_ret2
          rw [HRE.out]
          exact ⟨by first | rfl | simp, (HB1.out.trans (BW.out.mono HB1.out.size)).trans (hb9.mono (HB1.out.trans (BW.out.mono HB1.out.size)).size)⟩
    · have hcS' : ¬ (cr : Int) ≤ (S : Int) := by omega
      go_wp2_with fail
      rw [← HWW.out]
      go_loop [12, 13] (fun y z => ∃ j m : Nat, z = .int .i64 (j : Int) ∧ y = .int .i64 (m : Int) ∧ j ≤ cn ∧ Hid (sumN ps j = m)) (fun _ z => cn - (intOf z).toNat)
      case atStart => exact ⟨0, 0, by first | rfl | trivial, by first | rfl | trivial, Nat.zero_le _, Lib.hid (by simp [sumN])⟩
      case round =>
        obtain ⟨j, m, rfl, rfl, hj, HJ⟩ := hrel
        by_cases hlt : j < cn
        · obtain ⟨b, off, x, rfl, e2, hsx, hx4⟩ := HC.out j hlt
          have HS2 := Lib.hid (show sumN ps (j + 1) = m + x from by rw [hsx, HJ.out])
          have hsb : m ≤ 4000 := by rw [← HJ.out]; have := sumN_le HSH.out j (by omega); omega
          have hjn : (j : Int) < (n : Int) := by have := HN.out; omega
          clear hsx
          go_wp2_with fail
          go_round
          case rel => exact ⟨j + 1, m + x, by go_num, by go_num, by omega, HS2⟩
          case measure => simp [intOf]; omega
        · obtain rfl : j = cn := by omega
          have HRE := Lib.hid (show r = (m, false) from by rw [← HRF.out, decide_eq_false hcS, HJ.out]; rfl)
          go_wp2_with fail
          go_ret2
          rw [HRE.out]
          exact ⟨by first | rfl | simp, HB1.out.trans (BW.out.mono HB1.out.size)⟩
set_option maxRecDepth 100000 in
set_option maxHeartbeats 8000000 in
theorem rnext_3 {At : Option Addr} {nt ct : Nat} {t : List Rg} (final : Bool) (s : ByteArray) (w : World) (ht : RangesAt w w.heap.size At nt ct t) (hs : s.size ≤ 1000) (h0 : s.data.toList ≠ []) (hv : mayT t = true) {r : Nat × Bool} (hr : nextP 3 t s.data.toList final = r) :
    Calls Tryd.prog 17 #[.int .i64 3, .slice At nt ct, .string s, .bool final] w fun e w' => e = .returned (.tuple #[.int .i64 (r.1 : Int), .bool r.2]) ∧ Below w.heap.size w w' := by
  have hs1 : s.toList.isEmpty = false := str_nonempty (fun e => h0 (List.eq_nil_of_length_eq_zero (by rw [str_len]; exact e)))
  have hs2 : ¬ s.toList = [] := by rw [ByteArray.toList_eq]; exact h0
  have HV := Lib.hid hv
  have HT := Lib.hid ht
  have H0 := Lib.hid h0
  have HR := Lib.hid hr
  clear h0 hv ht hr
  go_enter Tryd.func17, Tryd.ntmps17
  go_wp2_with fail
  refine (rmay_as w HT.out HV).mono ?_
  rintro e w0 ⟨rfl, hb0⟩
  have HB0 := Lib.hid hb0
  have HT0 := Lib.hid (show RangesAt w0 w0.heap.size At nt ct t from RowAt.mono (RowAt.below HT.out hb0) hb0.size)
  clear hb0
  go_wp2_with fail
  refine (rpts_any s w0 HT0.out hs HV.out).mono ?_
  rintro e w1 ⟨AP, AC, AN, cP, cC, cN, S, n, rfl, hl, hsh, hb1⟩
  have HL := Lib.hid hl
  have HSH0 := Lib.hid hsh
  have HB1 := Lib.hid (HB0.out.trans (hb1.mono HB0.out.size))
  unfold lV
  obtain ⟨ps, hps⟩ : ∃ ps, ptsOf t s.data.toList = ps := ⟨_, rfl⟩
  have hp0 : 0 < ps.length := by rw [← hps]; exact pts_pos H0.out
  have HRR := HR.out
  rw [← next_eq hsh] at HRR
  unfold nextR at HRR
  rw [if_neg (by rintro (h | h | h | h); exact H0.out h; omega; omega; rw [HV.out] at h; cases h), if_neg (by decide)] at HRR
  rw [hps] at HL HSH0 HRR
  have HSH := HSH0
  obtain ⟨cn, cr, hcut⟩ : ∃ a b, cutR 3 ps = (a, b) := ⟨_, _, rfl⟩
  have hfew := HL.out.few
  have hcn : cn ≤ ps.length := by have h1 := cut_le (kind := 3) hp0; rw [← cut_eq HSH.out (by decide) (by decide), hcut] at h1; exact h1
  have hcr : cr ≤ 1001 := by have h1 := cut_few (kind := 3) hp0 hfew; rw [← cut_eq HSH.out (by decide) (by decide), hcut] at h1; exact h1
  rw [hcut] at HRR
  have HRQ := Lib.hid HRR
  have HCUT := Lib.hid (show wideR ps = (cn, cr) from hcut)
  obtain ⟨wn, wr, hwd⟩ : ∃ a b, wordP ps = (a, b) := ⟨_, _, rfl⟩
  have HWD := Lib.hid hwd
  have HN := Lib.hid HL.out.len
  have hSl : S ≤ 1000 := by have := HSH.out.le; omega
  have hcm := HL.out.num.2.2.1
  have hcnn := HL.out.num.2.1
  unfold maxLen at hcm
  clear hl hsh hb1 hps HSH0 HRR hcut hwd
  go_wp2_with fail
  obtain ⟨g, hg⟩ : ∃ g, w1.heap.size = g := ⟨_, rfl⟩
  obtain ⟨X1, hX1⟩ : ∃ X1, X1 = w1.alloc (.cells #[.slice AP n cP, .slice AC n cC, .slice AN n cN, .int .i64 (S : Int)] 68) := ⟨_, rfl⟩
  have BX1 := Lib.hid (show Below w1.heap.size w1 X1 from by rw [hX1]; exact (Below.refl _ w1).alloc (Nat.le_refl _) _)
  have GX1 := Lib.hid (show X1.heap[g]? = some (.cells #[.slice AP n cP, .slice AC n cC, .slice AN n cN, .int .i64 (S : Int)] 68 (0, 0)) from by rw [hX1, ← hg]; exact heap_alloc_new w1 _)
  rw [← hX1]
  try rw [hg]
  have HGG := Lib.hid hg
  clear hX1 hg
  refine (rword_any X1 (HL.out.later BX1.out) hp0 HWD.out).mono ?_
  rintro e w2 ⟨rfl, hb2⟩
  have hgl : g < X1.heap.size := (Array.getElem?_eq_some_iff.1 GX1.out).1
  have BX2 := Lib.hid (BX1.out.trans (hb2.mono BX1.out.size))
  have GX2 := Lib.hid ((hb2.block g hgl).trans GX1.out)
  unfold aV
  have hg2 : g < w2.heap.size := (Array.getElem?_eq_some_iff.1 GX2.out).1
  have c0 : w2.cell? ⟨g, 0, none⟩ = some (.slice AP n cP) := Lib.cell_of_heap GX2.out 0
  have c1 : w2.cell? ⟨g, 1, none⟩ = some (.slice AC n cC) := Lib.cell_of_heap GX2.out 1
  have c2 : w2.cell? ⟨g, 2, none⟩ = some (.slice AN n cN) := Lib.cell_of_heap GX2.out 2
  have c3 : w2.cell? ⟨g, 3, none⟩ = some (.int .i64 (S : Int)) := Lib.cell_of_heap GX2.out 3
  clear hb2 BX1 GX1 hgl
  go_wp2_with fail
  obtain ⟨Y, hY⟩ : ∃ W, W = w2.alloc (.cells #[.int .i64 (wn : Int), .int .i64 (wr : Int)] 71) := ⟨_, rfl⟩
  obtain ⟨a, ha⟩ : ∃ a, w2.heap.size = a := ⟨_, rfl⟩
  have BY := Lib.hid (show Below w1.heap.size w1 Y from by rw [hY]; exact BX2.out.alloc BX2.out.size _)
  have GY := Lib.hid (show Y.heap[g]? = some (.cells #[.slice AP n cP, .slice AC n cC, .slice AN n cN, .int .i64 (S : Int)] 68 (0, 0)) from by rw [hY]; exact (Below.heap_alloc _ _ _ hg2).trans GX2.out)
  have AY := Lib.hid (show Y.heap[a]? = some (.cells #[.int .i64 (wn : Int), .int .i64 (wr : Int)] 71 (0, 0)) from by rw [hY, ← ha]; exact heap_alloc_new w2 _)
  have hga : g < a := by omega
  have hw1a : w1.heap.size ≤ a := by have := BX2.out.size; omega
  rw [← hY]
  try rw [ha]
  clear hY ha c0 c1 c2 c3
  refine (rwide_any Y (HL.out.later BY.out) hp0 HCUT.out).mono ?_
  rintro e w3 ⟨rfl, hb3⟩
  unfold aV
  have B3 := Lib.hid (BY.out.trans (hb3.mono BY.out.size))
  have G3 := Lib.hid ((hb3.block g (Array.getElem?_eq_some_iff.1 GY.out).1).trans GY.out)
  have A3 := Lib.hid ((hb3.block a (Array.getElem?_eq_some_iff.1 AY.out).1).trans AY.out)
  obtain ⟨WW, hWW⟩ : ∃ W, W = (w3.setCell ⟨a, 0, none⟩ (.int .i64 (cn : Int))).setCell ⟨a, 1, none⟩ (.int .i64 (cr : Int)) := ⟨_, rfl⟩
  have BW := Lib.hid (show Below w1.heap.size w1 WW from by rw [hWW]; exact (B3.out.setCell (p := ⟨a, 0, none⟩) hw1a _).setCell (p := ⟨a, 1, none⟩) hw1a _)
  have GW := Lib.hid (show WW.heap[g]? = some (.cells #[.slice AP n cP, .slice AC n cC, .slice AN n cN, .int .i64 (S : Int)] 68 (0, 0)) from by rw [hWW]; exact ((Below.heap_setCell _ ⟨a, 1, none⟩ _ g (by show g ≠ a; omega)).trans (Below.heap_setCell _ ⟨a, 0, none⟩ _ g (by show g ≠ a; omega))).trans G3.out)
  have AW := Lib.hid (show WW.heap[a]? = some (.cells #[.int .i64 (cn : Int), .int .i64 (cr : Int)] 71 (0, 0)) from by rw [hWW]; exact rheap_set (j := 1) (rheap_set (j := 0) A3.out))
  have z0 : w3.cell? ⟨a, 0, none⟩ = some (.int .i64 (wn : Int)) := Lib.cell_of_heap A3.out 0
  have z1 : w3.cell? ⟨a, 1, none⟩ = some (.int .i64 (wr : Int)) := Lib.cell_of_heap A3.out 1
  have f0 := Lib.frozen_of_heap A3.out 0
  have f1 := Lib.frozen_of_heap A3.out 1
  clear hb3 BY GY AY
  have d0 : WW.cell? ⟨g, 0, none⟩ = some (.slice AP n cP) := Lib.cell_of_heap GW.out 0
  have d1 : WW.cell? ⟨g, 1, none⟩ = some (.slice AC n cC) := Lib.cell_of_heap GW.out 1
  have d2 : WW.cell? ⟨g, 2, none⟩ = some (.slice AN n cN) := Lib.cell_of_heap GW.out 2
  have d3 : WW.cell? ⟨g, 3, none⟩ = some (.int .i64 (S : Int)) := Lib.cell_of_heap GW.out 3
  have x0 : WW.cell? ⟨a, 0, none⟩ = some (.int .i64 (cn : Int)) := Lib.cell_of_heap AW.out 0
  have x1 : WW.cell? ⟨a, 1, none⟩ = some (.int .i64 (cr : Int)) := Lib.cell_of_heap AW.out 1
  have HWW := Lib.hid hWW
  clear hWW
  have HC := Lib.hid (show ∀ j, j < cn → ∃ b off, ∃ m : Nat, AN = some ⟨b, off, none⟩ ∧ WW.cell? ⟨b, off + j, none⟩ = some (.int .i64 (m : Int)) ∧ sumN ps (j + 1) = sumN ps j + m ∧ m ≤ 4 from fun j hj => by
    have hjp : j < ps.length := by omega
    obtain ⟨b, off, he, _, hc⟩ := (HL.out.later BW.out).numCells (by have := HN.out; omega)
    have hp : ps[j]? = some (ps[j]'hjp) := List.getElem?_eq_getElem hjp
    exact ⟨b, off, _, he, hc j hjp, sumN_succ hp, (HSH.out.one hp).2.1⟩)
  cases final with
  | true =>
    go_wp2_with fail
    rw [← HWW.out]
    go_loop [12, 13] (fun y z => ∃ j m : Nat, z = .int .i64 (j : Int) ∧ y = .int .i64 (m : Int) ∧ j ≤ cn ∧ Hid (sumN ps j = m)) (fun _ z => cn - (intOf z).toNat)
    case atStart => exact ⟨0, 0, by first | rfl | trivial, by first | rfl | trivial, Nat.zero_le _, Lib.hid (by simp [sumN])⟩
    case round =>
      obtain ⟨j, m, rfl, rfl, hj, HJ⟩ := hrel
      by_cases hlt : j < cn
      · obtain ⟨b, off, x, rfl, e2, hsx, hx4⟩ := HC.out j hlt
        have HS2 := Lib.hid (show sumN ps (j + 1) = m + x from by rw [hsx, HJ.out])
        have hsb : m ≤ 4000 := by rw [← HJ.out]; have := sumN_le HSH.out j (by omega); omega
        have hjn : (j : Int) < (n : Int) := by have := HN.out; omega
        clear hsx
        go_wp2_with fail
        go_round
        case rel => exact ⟨j + 1, m + x, by go_num, by go_num, by omega, HS2⟩
        case measure => simp [intOf]; omega
      · obtain rfl : j = cn := by omega
        have HRE := Lib.hid (show r = (m, true) from by have := HRQ.out; rw [if_pos (by first | rfl | trivial)] at this; rw [← this, HJ.out])
        go_wp2_with fail
        go_ret2
        rw [HRE.out]
        exact ⟨by first | rfl | simp, HB1.out.trans (BW.out.mono HB1.out.size)⟩
  | false =>
    have HRF := Lib.hid (show (sumN ps cn, decide (cr ≤ S) && (decide ((3 : Int) = 1) || !begunR ps S (decide ((3 : Int) = 3)))) = r from by have := HRQ.out; rw [if_neg (by decide)] at this; exact this)
    by_cases hcS : cr ≤ S
    · have hcS' : (cr : Int) ≤ (S : Int) := by omega
      obtain ⟨o, ho⟩ : ∃ o, begunR ps S true = o := ⟨_, rfl⟩
      have HO := Lib.hid ho
      clear ho
      go_wp2_with fail
      rw [← HWW.out]
      go_loop [12, 13] (fun y z => ∃ j m : Nat, z = .int .i64 (j : Int) ∧ y = .int .i64 (m : Int) ∧ j ≤ cn ∧ Hid (sumN ps j = m)) (fun _ z => cn - (intOf z).toNat)
      case atStart => exact ⟨0, 0, by first | rfl | trivial, by first | rfl | trivial, Nat.zero_le _, Lib.hid (by simp [sumN])⟩
      case round =>
        obtain ⟨j, m, rfl, rfl, hj, HJ⟩ := hrel
        by_cases hlt : j < cn
        · obtain ⟨b, off, x, rfl, e2, hsx, hx4⟩ := HC.out j hlt
          have HS2 := Lib.hid (show sumN ps (j + 1) = m + x from by rw [hsx, HJ.out])
          have hsb : m ≤ 4000 := by rw [← HJ.out]; have := sumN_le HSH.out j (by omega); omega
          have hjn : (j : Int) < (n : Int) := by have := HN.out; omega
          clear hsx
          go_wp2_with fail
          go_round
          case rel => exact ⟨j + 1, m + x, by go_num, by go_num, by omega, HS2⟩
          case measure => simp [intOf]; omega
        · obtain rfl : j = cn := by omega
          have HRE := Lib.hid (show r = (m, !o) from by
            rw [← HRF.out, decide_eq_true hcS, HJ.out]
            show (m, true && (false || !begunR ps S true)) = (m, !o)
            rw [HO.out]; cases o <;> rfl)
          go_wp2_with fail
          refine (rbegun_any true WW (HL.out.later BW.out) hSl HO.out).mono ?_
          rintro e w9 ⟨rfl, hb9⟩
          go_wp2_with fail
          go_ret2
          rw [HRE.out]
          exact ⟨by first | rfl | simp, (HB1.out.trans (BW.out.mono HB1.out.size)).trans (hb9.mono (HB1.out.trans (BW.out.mono HB1.out.size)).size)⟩
    · have hcS' : ¬ (cr : Int) ≤ (S : Int) := by omega
      go_wp2_with fail
      rw [← HWW.out]
      go_loop [12, 13] (fun y z => ∃ j m : Nat, z = .int .i64 (j : Int) ∧ y = .int .i64 (m : Int) ∧ j ≤ cn ∧ Hid (sumN ps j = m)) (fun _ z => cn - (intOf z).toNat)
      case atStart => exact ⟨0, 0, by first | rfl | trivial, by first | rfl | trivial, Nat.zero_le _, Lib.hid (by simp [sumN])⟩
      case round =>
        obtain ⟨j, m, rfl, rfl, hj, HJ⟩ := hrel
        by_cases hlt : j < cn
        · obtain ⟨b, off, x, rfl, e2, hsx, hx4⟩ := HC.out j hlt
          have HS2 := Lib.hid (show sumN ps (j + 1) = m + x from by rw [hsx, HJ.out])
          have hsb : m ≤ 4000 := by rw [← HJ.out]; have := sumN_le HSH.out j (by omega); omega
          have hjn : (j : Int) < (n : Int) := by have := HN.out; omega
          clear hsx
          go_wp2_with fail
          go_round
          case rel => exact ⟨j + 1, m + x, by go_num, by go_num, by omega, HS2⟩
          case measure => simp [intOf]; omega
        · obtain rfl : j = cn := by omega
          have HRE := Lib.hid (show r = (m, false) from by rw [← HRF.out, decide_eq_false hcS, HJ.out]; rfl)
          go_wp2_with fail
          go_ret2
          rw [HRE.out]
          exact ⟨by first | rfl | simp, HB1.out.trans (BW.out.mono HB1.out.size)⟩
/-- The document's Next at all arguments. -/
theorem rnext_any {At : Option Addr} {nt ct : Nat} {t : List Rg} (kind : Int) (final : Bool) (s : ByteArray) (w : World) (ht : RangesAt w w.heap.size At nt ct t) (hs : s.size ≤ 1000) {r : Nat × Bool} (hr : nextP kind t s.data.toList final = r) :
    Calls Tryd.prog 17 #[.int .i64 kind, .slice At nt ct, .string s, .bool final] w fun e w' => e = .returned (.tuple #[.int .i64 (r.1 : Int), .bool r.2]) ∧ Below w.heap.size w w' := by
  by_cases h0 : s.data.toList = [] ∨ kind < 0 ∨ 3 < kind ∨ mayT t = false
  · have : r = (0, false) := by
      rw [← hr]; unfold nextP
      rw [if_pos (by rcases h0 with h | h | h | h; exact .inl h; exact .inr (.inr (.inl h)); exact .inr (.inr (.inr h)); exact .inr (.inl h))]
    rw [this]
    exact rnext_none kind final s w ht h0
  · have h1 : s.data.toList ≠ [] := fun e => h0 (.inl e)
    have h2 : mayT t = true := by cases hv : mayT t with | true => rfl | false => exact absurd (.inr (.inr (.inr hv))) h0
    have h3 : ¬ kind < 0 := fun e => h0 (.inr (.inl e))
    have h4 : ¬ 3 < kind := fun e => h0 (.inr (.inr (.inl e)))
    rcases (by omega : kind = 0 ∨ kind = 1 ∨ kind = 2 ∨ kind = 3) with rfl | rfl | rfl | rfl
    · have : r = (s.data.toList.length, final) := by rw [← hr]; unfold nextP; rw [if_neg (by rintro (h | h | h | h); exact h1 h; rw [h2] at h; cases h; omega; omega), if_pos rfl]
      rw [this]
      exact rnext_0 final s w ht h1 h2
    · exact rnext_1 final s w ht hs h1 h2 hr
    · exact rnext_2 final s w ht hs h1 h2 hr
    · exact rnext_3 final s w ht hs h1 h2 hr
end Go.Proofs.YtkiggpbmlkfdpaaDoor
