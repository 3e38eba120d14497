/- The walks of the document's word, plain, wide. -/
import Derived.Test.YtkiggpbmlkfdpaaDoorScanRCut
namespace Go.Proofs.YtkiggpbmlkfdpaaDoor
open Go.RowKit
set_option linter.unusedVariables false

theorem row_le {ps : List Pt} {i : Nat} {c : Int} (hl : ps.length ≤ 1000) : rRow ps i c ≤ 1000 := by
  unfold rRow
  have := (List.takeWhile_sublist (fun p : Pt => p.cls == c) (l := ps.drop i)).length_le
  rw [List.length_drop] at this
  omega
theorem ledR_le {ps : List Pt} {c : Int} (h0 : 0 < ps.length) (hl : ps.length ≤ 1000) : ledR ps c ≤ 1000 := by rw [led_eq]; have := led_le (c := c) h0; omega
set_option maxRecDepth 100000 in
set_option maxHeartbeats 4000000 in
theorem rword_any {n cP cC cN S : Nat} {ps : List Pt} {AP AC AN : Option Addr} (w : World) (h : LAt w w.heap.size ps n AP AC AN cP cC cN) (h0 : 0 < ps.length) {r : Nat × Nat} (hr : wordP ps = r) :
    Calls Tryd.prog 43 #[.agg (lV n AP AC AN cP cC cN S)] w fun e w' => e = .returned (aV r) ∧ Below w.heap.size w w' := by
  unfold lV
  have hf := h.few
  have hn := h.len
  have hn1 : n ≤ 1000 := by omega
  have HH := Lib.hid h
  obtain ⟨b0, hb0⟩ : ∃ m, blanksP ps = m := ⟨_, rfl⟩
  have hbn : b0 ≤ n := by rw [hn, ← hb0]; exact blanks_le
  unfold wordP at hr
  rw [hb0] at hr
  obtain ⟨m, hm⟩ : ∃ m, whileP (fun p => !isSp p.cls) ps b0 = m := ⟨_, rfl⟩
  rw [hm] at hr
  have HR := Lib.hid hr
  have HB0 := Lib.hid hb0
  have HM := Lib.hid hm
  have HN := Lib.hid hn
  have hcm := h.cls.2.2.1
  have hcn := h.cls.2.1
  unfold maxLen at hcm
  clear hr hb0 hm hn hf
  clear h
  go_enter Tryd.func43, Tryd.ntmps43
  go_wp2_with fail
  obtain ⟨X, hX⟩ : ∃ X, X = (w.alloc (.cells #[.slice AP n cP, .slice AC n cC, .slice AN n cN, .int .i64 (S : Int)] 68)).alloc (.cells #[.int .i64 0, .int .i64 0] 71) := ⟨_, rfl⟩
  have LX0 := Lib.hid (LY.mk0 HH.out hX)
  rw [← hX]
  clear hX
  obtain ⟨g, hg⟩ : ∃ g, w.heap.size = g := ⟨_, rfl⟩
  rw [hg] at LX0
  try rw [hg]
  have HG := Lib.hid hg
  clear hg
  obtain ⟨c0, c1, c2, c3, z0, z1, f0, f1⟩ := LX0.out.reads
  refine (rspaces_any X LX0.out.lx.lat HB0.out).mono ?_
  rintro e v ⟨rfl, hb⟩
  have Lv := Lib.hid (LX0.out.later hb)
  clear c0 c1 c2 c3 z0 z1 f0 f1 hb LX0
  obtain ⟨c0, c1, c2, c3, z0, z1, f0, f1⟩ := Lv.out.reads
  go_wp2_with fail
  go_loop [3] (fun z => ∃ j : Nat, z = .int .i64 (j : Int) ∧ j ≤ n ∧ Hid (whileP (fun p => !isSp p.cls) ps j = m)) (fun z => 1001 - (intOf z).toNat)
  case atStart => exact ⟨b0, rfl, hbn, HM⟩
  case round =>
    clear HM
    obtain ⟨j, rfl, hj, HJ⟩ := hrel
    by_cases hlt : j < n
    · have hps : j < ps.length := by have := HN.out; omega
      obtain ⟨b, off, rfl, hb, hc⟩ := Lv.out.lx.lat.clsCells (by omega)
      have e0 := hc j hps
      obtain ⟨x, hx⟩ : ∃ x, (ps[j]'hps).cls = x := ⟨_, rfl⟩
      rw [hx] at e0
      have HX := Lib.hid (show ps[j]? = some (ps[j]'hps) ∧ (!isSp (ps[j]'hps).cls) = !isSp x from ⟨List.getElem?_eq_getElem hps, by rw [hx]⟩)
      clear hc hx
      by_cases h3 : x = 3
      · have HE := Lib.hid (show j = m from by rw [← HJ.out]; exact (while_no HX.out.1 (by show (!isSp (ps[j]'hps).cls) = false; rw [HX.out.2, h3]; rfl)).symm)
        subst h3
        go_wp2_with fail
        refine (rmore_any j v (by omega)).mono ?_
        rintro e v2 ⟨rfl, hb⟩
        have Lv2 := Lib.hid (Lv.out.later hb)
        clear c0 c1 c2 c3 z0 z1 f0 f1
        obtain ⟨c0, c1, c2, c3, z0, z1, f0, f1⟩ := Lv2.out.reads
        go_wp2_with fail
        obtain ⟨hbb, yy0, yy1⟩ := Lv2.out.setb (.int .i64 ((j : Int))) (.int .i64 ((j : Int) + 1))
        refine bodyPost_ret (v := .agg #[.int .i64 ((j : Int)), .int .i64 ((j : Int) + 1)]) (by simp [results, Tryd.f43, go_sem, yy0, yy1]) rfl ⟨?_, hbb⟩
        rw [← HR.out, ← HE.out]; rfl
      · by_cases h4 : x = 4
        · have HE := Lib.hid (show j = m from by rw [← HJ.out]; exact (while_no HX.out.1 (by show (!isSp (ps[j]'hps).cls) = false; rw [HX.out.2, h4]; rfl)).symm)
          subst h4
          clear h3
          go_wp2_with fail
          refine (rmore_any j v (by omega)).mono ?_
          rintro e v2 ⟨rfl, hb⟩
          have Lv2 := Lib.hid (Lv.out.later hb)
          clear c0 c1 c2 c3 z0 z1 f0 f1
          obtain ⟨c0, c1, c2, c3, z0, z1, f0, f1⟩ := Lv2.out.reads
          go_wp2_with fail
          obtain ⟨hbb, yy0, yy1⟩ := Lv2.out.setb (.int .i64 ((j : Int))) (.int .i64 ((j : Int) + 1))
          refine bodyPost_ret (v := .agg #[.int .i64 ((j : Int)), .int .i64 ((j : Int) + 1)]) (by simp [results, Tryd.f43, go_sem, yy0, yy1]) rfl ⟨?_, hbb⟩
          rw [← HR.out, ← HE.out]; rfl
        · have hq3 := bne_yes h3
          have hq4 := bne_yes h4
          have HE := Lib.hid (show whileP (fun p => !isSp p.cls) ps (j + 1) = m from by
            rw [← HJ.out]
            refine (while_yes HX.out.1 ?_).symm
            show (!isSp (ps[j]'hps).cls) = true
            rw [HX.out.2]; unfold isSp; rw [beq_no h3, beq_no h4]; rfl)
          clear h3 h4
          go_wp2_with fail
          go_round
          case rel => exact ⟨j + 1, by go_num, by omega, HE⟩
          case measure => simp [intOf]; omega
    · have hlt' : ¬ (j : Int) < (n : Int) := by omega
      have HE := Lib.hid (show j = m from by rw [← HJ.out]; exact (while_end (List.getElem?_eq_none (by have := HN.out; omega))).symm)
      go_wp2_with fail
      refine (rmore_any j v (by omega)).mono ?_
      rintro e v2 ⟨rfl, hb⟩
      have Lv2 := Lib.hid (Lv.out.later hb)
      clear c0 c1 c2 c3 z0 z1 f0 f1
      obtain ⟨c0, c1, c2, c3, z0, z1, f0, f1⟩ := Lv2.out.reads
      go_wp2_with fail
      obtain ⟨hbb, yy0, yy1⟩ := Lv2.out.setb (.int .i64 ((j : Int))) (.int .i64 ((j : Int) + 1))
      refine bodyPost_ret (v := .agg #[.int .i64 ((j : Int)), .int .i64 ((j : Int) + 1)]) (by simp [results, Tryd.f43, go_sem, yy0, yy1]) rfl ⟨?_, hbb⟩
      rw [← HR.out, ← HE.out]; rfl
set_option maxRecDepth 100000 in
set_option maxHeartbeats 4000000 in
theorem rplain_any {n cP cC cN S : Nat} {ps : List Pt} {AP AC AN : Option Addr} (w : World) (h : LAt w w.heap.size ps n AP AC AN cP cC cN) (h0 : 0 < ps.length) {r : Nat × Nat} (hr : plainR ps = r) :
    Calls Tryd.prog 44 #[.agg (lV n AP AC AN cP cC cN S)] w fun e w' => e = .returned (aV r) ∧ Below w.heap.size w w' := by
  unfold lV
  have hf := h.few
  have hn := h.len
  have hn1 : n ≤ 1000 := by omega
  have HH := Lib.hid h
  obtain ⟨en, he⟩ : ∃ m, endR ps false = m := ⟨_, rfl⟩
  obtain ⟨l1, hl1⟩ : ∃ m, ledR ps 1 = m := ⟨_, rfl⟩
  obtain ⟨l2, hl2⟩ : ∃ m, ledR ps 2 = m := ⟨_, rfl⟩
  obtain ⟨l0, hl0⟩ : ∃ m, ledR ps 0 = m := ⟨_, rfl⟩
  have b1 := ledR_le (c := 1) h0 hf
  have b2 := ledR_le (c := 2) h0 hf
  have b0 := ledR_le (c := 0) h0 hf
  rw [hl1] at b1
  rw [hl2] at b2
  rw [hl0] at b0
  unfold plainR at hr
  rw [he, hl1, hl2, hl0] at hr
  have HE := Lib.hid he
  have H1 := Lib.hid hl1
  have H2 := Lib.hid hl2
  have H0 := Lib.hid hl0
  have HR := Lib.hid hr
  clear he hl1 hl2 hl0 hn hf hr
  clear h
  go_enter Tryd.func44, Tryd.ntmps44
  go_wp2_with fail
  obtain ⟨X, hX⟩ : ∃ X, X = (w.alloc (.cells #[.slice AP n cP, .slice AC n cC, .slice AN n cN, .int .i64 (S : Int)] 68)).alloc (.cells #[.int .i64 0, .int .i64 0] 71) := ⟨_, rfl⟩
  have LX0 := Lib.hid (LY.mk0 HH.out hX)
  rw [← hX]
  clear hX
  obtain ⟨g, hg⟩ : ∃ g, w.heap.size = g := ⟨_, rfl⟩
  rw [hg] at LX0
  try rw [hg]
  have HG := Lib.hid hg
  clear hg
  obtain ⟨c0, c1, c2, c3, z0, z1, f0, f1⟩ := LX0.out.reads
  refine (rending_any false X LX0.out.lx.lat HE.out).mono ?_
  rintro e a ⟨rfl, hb⟩
  have La := Lib.hid (LX0.out.later hb)
  clear c0 c1 c2 c3 z0 z1 f0 f1 hb LX0
  obtain ⟨c0, c1, c2, c3, z0, z1, f0, f1⟩ := La.out.reads
  by_cases g1 : 0 < en
  · have HRR := Lib.hid (show (en, en) = r from by have := HR.out; rw [if_pos g1] at this; exact this)
    have g1' : (0 : Int) < (en : Int) := by omega
    go_wp2_with fail
    obtain ⟨hbb, yy0, yy1⟩ := La.out.setb (.int .i64 ((en : Int))) (.int .i64 ((en : Int)))
    refine bodyPost_ret (v := .agg #[.int .i64 ((en : Int)), .int .i64 ((en : Int))]) (by simp [results, Tryd.f44, go_sem, yy0, yy1]) rfl ⟨?_, hbb⟩
    rw [← HRR.out]; rfl
  have g1' : ¬ (0 : Int) < (en : Int) := by omega
  have K1 := Lib.hid HR.out
  rw [if_neg g1] at K1
  clear HR g1
  go_wp2_with fail
  refine (rled_any 1 a La.out.lx.lat h0 H1.out).mono ?_
  rintro e b ⟨rfl, hb⟩
  have Lb := Lib.hid (La.out.later hb)
  clear c0 c1 c2 c3 z0 z1 f0 f1 hb La
  obtain ⟨c0, c1, c2, c3, z0, z1, f0, f1⟩ := Lb.out.reads
  by_cases g2 : 0 < l1
  · have HRR := Lib.hid (show (l1, l1 + 1) = r from by have := K1.out; rw [if_pos g2] at this; exact this)
    have g2' : (0 : Int) < (l1 : Int) := by omega
    go_wp2_with fail
    refine (rled_any 1 b Lb.out.lx.lat h0 H1.out).mono ?_
    rintro e x ⟨rfl, hb⟩
    have Lx := Lib.hid (Lb.out.later hb)
    clear c0 c1 c2 c3 z0 z1 f0 f1 hb Lb
    obtain ⟨c0, c1, c2, c3, z0, z1, f0, f1⟩ := Lx.out.reads
    go_wp2_with fail
    refine (rmore_any l1 x (by omega)).mono ?_
    rintro e y ⟨rfl, hb⟩
    have Ly := Lib.hid (Lx.out.later hb)
    clear c0 c1 c2 c3 z0 z1 f0 f1 hb Lx
    obtain ⟨c0, c1, c2, c3, z0, z1, f0, f1⟩ := Ly.out.reads
    go_wp2_with fail
    obtain ⟨hbb, yy0, yy1⟩ := Ly.out.setb (.int .i64 ((l1 : Int))) (.int .i64 ((l1 : Int) + 1))
    refine bodyPost_ret (v := .agg #[.int .i64 ((l1 : Int)), .int .i64 ((l1 : Int) + 1)]) (by simp [results, Tryd.f44, go_sem, yy0, yy1]) rfl ⟨?_, hbb⟩
    rw [← HRR.out]; rfl
  have g2' : ¬ (0 : Int) < (l1 : Int) := by omega
  have K2 := Lib.hid K1.out
  rw [if_neg g2] at K2
  clear K1 g2
  go_wp2_with fail
  refine (rled_any 2 b Lb.out.lx.lat h0 H2.out).mono ?_
  rintro e c ⟨rfl, hb⟩
  have Lc := Lib.hid (Lb.out.later hb)
  clear c0 c1 c2 c3 z0 z1 f0 f1 hb Lb
  obtain ⟨c0, c1, c2, c3, z0, z1, f0, f1⟩ := Lc.out.reads
  by_cases g3 : 0 < l2
  · have HRR := Lib.hid (show (l2, l2 + 1) = r from by have := K2.out; rw [if_pos g3] at this; exact this)
    have g3' : (0 : Int) < (l2 : Int) := by omega
    go_wp2_with fail
    refine (rled_any 2 c Lc.out.lx.lat h0 H2.out).mono ?_
    rintro e x ⟨rfl, hb⟩
    have Lx := Lib.hid (Lc.out.later hb)
    clear c0 c1 c2 c3 z0 z1 f0 f1 hb Lc
    obtain ⟨c0, c1, c2, c3, z0, z1, f0, f1⟩ := Lx.out.reads
    go_wp2_with fail
    refine (rmore_any l2 x (by omega)).mono ?_
    rintro e y ⟨rfl, hb⟩
    have Ly := Lib.hid (Lx.out.later hb)
    clear c0 c1 c2 c3 z0 z1 f0 f1 hb Lx
    obtain ⟨c0, c1, c2, c3, z0, z1, f0, f1⟩ := Ly.out.reads
    go_wp2_with fail
    obtain ⟨hbb, yy0, yy1⟩ := Ly.out.setb (.int .i64 ((l2 : Int))) (.int .i64 ((l2 : Int) + 1))
    refine bodyPost_ret (v := .agg #[.int .i64 ((l2 : Int)), .int .i64 ((l2 : Int) + 1)]) (by simp [results, Tryd.f44, go_sem, yy0, yy1]) rfl ⟨?_, hbb⟩
    rw [← HRR.out]; rfl
  have g3' : ¬ (0 : Int) < (l2 : Int) := by omega
  have K3 := Lib.hid K2.out
  rw [if_neg g3] at K3
  clear K2 g3
  go_wp2_with fail
  refine (rled_any 0 c Lc.out.lx.lat h0 H0.out).mono ?_
  rintro e d ⟨rfl, hb⟩
  have Ld := Lib.hid (Lc.out.later hb)
  clear c0 c1 c2 c3 z0 z1 f0 f1 hb Lc
  obtain ⟨c0, c1, c2, c3, z0, z1, f0, f1⟩ := Ld.out.reads
  by_cases g4 : 0 < l0
  · have HRR := Lib.hid (show (l0, l0 + 1) = r from by have := K3.out; rw [if_pos g4] at this; exact this)
    have g4' : (0 : Int) < (l0 : Int) := by omega
    go_wp2_with fail
    refine (rled_any 0 d Ld.out.lx.lat h0 H0.out).mono ?_
    rintro e x ⟨rfl, hb⟩
    have Lx := Lib.hid (Ld.out.later hb)
    clear c0 c1 c2 c3 z0 z1 f0 f1 hb Ld
    obtain ⟨c0, c1, c2, c3, z0, z1, f0, f1⟩ := Lx.out.reads
    go_wp2_with fail
    refine (rmore_any l0 x (by omega)).mono ?_
    rintro e y ⟨rfl, hb⟩
    have Ly := Lib.hid (Lx.out.later hb)
    clear c0 c1 c2 c3 z0 z1 f0 f1 hb Lx
    obtain ⟨c0, c1, c2, c3, z0, z1, f0, f1⟩ := Ly.out.reads
    go_wp2_with fail
    obtain ⟨hbb, yy0, yy1⟩ := Ly.out.setb (.int .i64 ((l0 : Int))) (.int .i64 ((l0 : Int) + 1))
    refine bodyPost_ret (v := .agg #[.int .i64 ((l0 : Int)), .int .i64 ((l0 : Int) + 1)]) (by simp [results, Tryd.f44, go_sem, yy0, yy1]) rfl ⟨?_, hbb⟩
    rw [← HRR.out]; rfl
  have g4' : ¬ (0 : Int) < (l0 : Int) := by omega
  have K4 := Lib.hid K3.out
  rw [if_neg g4] at K4
  clear K3 g4
  go_wp2_with fail
  obtain ⟨rN, rR⟩ := r
  refine (rblanks_any d Ld.out.lx.lat K4.out).mono ?_
  rintro e y ⟨rfl, hb⟩
  have Ly := Lib.hid (Ld.out.later hb)
  clear c0 c1 c2 c3 z0 z1 f0 f1 hb Ld
  obtain ⟨c0, c1, c2, c3, z0, z1, f0, f1⟩ := Ly.out.reads
  unfold aV
  go_wp2_with fail
  obtain ⟨hbb, yy0, yy1⟩ := Ly.out.setb (.int .i64 ((rN : Int))) (.int .i64 ((rR : Int)))
  refine bodyPost_ret (v := .agg #[.int .i64 ((rN : Int)), .int .i64 ((rR : Int))]) (by simp [results, Tryd.f44, go_sem, yy0, yy1]) rfl ⟨?_, hbb⟩
  rfl
set_option maxRecDepth 100000 in
set_option maxHeartbeats 4000000 in
theorem rwide_any {n cP cC cN S : Nat} {ps : List Pt} {AP AC AN : Option Addr} (w : World) (h : LAt w w.heap.size ps n AP AC AN cP cC cN) (h0 : 0 < ps.length) {r : Nat × Nat} (hr : wideR ps = r) :
    Calls Tryd.prog 45 #[.agg (lV n AP AC AN cP cC cN S)] w fun e w' => e = .returned (aV r) ∧ Below w.heap.size w w' := by
  unfold lV
  have hf := h.few
  have hn := h.len
  have hn1 : n ≤ 1000 := by omega
  have HH := Lib.hid h
  obtain ⟨en, he⟩ : ∃ m, endR ps true = m := ⟨_, rfl⟩
  obtain ⟨r1, hr1⟩ : ∃ m, rRow ps 0 1 = m := ⟨_, rfl⟩
  obtain ⟨r2, hr2⟩ : ∃ m, rRow ps 1 1 = m := ⟨_, rfl⟩
  obtain ⟨nm, hnm⟩ : ∃ m, rRow ps 0 2 = m := ⟨_, rfl⟩
  obtain ⟨l0, hl0⟩ : ∃ m, ledR ps 0 = m := ⟨_, rfl⟩
  obtain ⟨r4, hr4⟩ : ∃ m, rRow ps l0 4 = m := ⟨_, rfl⟩
  obtain ⟨bl, hbl⟩ : ∃ m, blanksP ps = m := ⟨_, rfl⟩
  obtain ⟨ln, hln⟩ : ∃ m, lineP ps = m := ⟨_, rfl⟩
  have b1 := row_le (i := 0) (c := 1) hf
  have b2 := row_le (i := 1) (c := 1) hf
  have b3 := row_le (i := 0) (c := 2) hf
  have b0 := ledR_le (c := 0) h0 hf
  have b4 := row_le (i := l0) (c := 4) hf
  have bbl : bl ≤ n := by rw [hn, ← hbl]; exact blanks_le
  rw [hr1] at b1
  rw [hr2] at b2
  rw [hnm] at b3
  rw [hl0] at b0
  rw [hr4] at b4
  obtain ⟨x, hx⟩ : ∃ x, clsAt ps 0 = x := ⟨_, rfl⟩
  have hxe : (ps[0]'h0).cls = x := by rw [← hx]; unfold clsAt; rw [List.getElem?_eq_getElem h0]
  unfold wideR at hr
  rw [he, hr1, hr2, hnm, hl0, hr4, hbl, hln, hx] at hr
  have HE := Lib.hid he
  have H1 := Lib.hid hr1
  have H2 := Lib.hid hr2
  have HNM := Lib.hid hnm
  have H0 := Lib.hid hl0
  have H4 := Lib.hid hr4
  have HBL := Lib.hid hbl
  have HLN := Lib.hid (show lineF ps bl = ln from by rw [← hbl]; exact hln)
  have HR := Lib.hid hr
  have HN := Lib.hid hn
  have HXE := Lib.hid hxe
  have hn0 : 0 < n := by omega
  have hn0' : (0 : Int) < (n : Int) := by omega
  have hcm := h.cls.2.2.1
  have hcn := h.cls.2.1
  unfold maxLen at hcm
  obtain ⟨bb, off, rfl, -, -⟩ := h.clsCells (by omega)
  have CELL := Lib.hid (show ∀ v S, LY w v w.heap.size ps n AP (some ⟨bb, off, none⟩) AN cP cC cN S → v.cell? ⟨bb, off, none⟩ = some (.int .i64 x) from fun v S hv => by
    obtain ⟨b2, o2, e2, _, hc⟩ := hv.lx.lat.clsCells (by omega)
    injection e2 with e2
    injection e2 with e3 e4
    subst e3 e4
    have := hc 0 h0
    rw [Nat.add_zero, HXE.out] at this
    exact this)
  have CELLJ := Lib.hid (show ∀ v S, LY w v w.heap.size ps n AP (some ⟨bb, off, none⟩) AN cP cC cN S → ∀ j (hj : j < ps.length), v.cell? ⟨bb, off + j, none⟩ = some (.int .i64 (ps[j]'hj).cls) from fun v S hv j hj => by
    obtain ⟨b2, o2, e2, _, hc⟩ := hv.lx.lat.clsCells (by omega)
    injection e2 with e2
    injection e2 with e3 e4
    subst e3 e4
    exact hc j hj)
  clear he hr1 hr2 hnm hl0 hr4 hbl hln hn hf hr hx hxe
  clear h
  go_enter Tryd.func45, Tryd.ntmps45
  go_wp2_with fail
  obtain ⟨X, hX⟩ : ∃ X, X = (w.alloc (.cells #[.slice AP n cP, .slice (some ⟨bb, off, none⟩) n cC, .slice AN n cN, .int .i64 (S : Int)] 68)).alloc (.cells #[.int .i64 0, .int .i64 0] 71) := ⟨_, rfl⟩
  have LX0 := Lib.hid (LY.mk0 HH.out hX)
  rw [← hX]
  clear hX
  obtain ⟨g, hg⟩ : ∃ g, w.heap.size = g := ⟨_, rfl⟩
  rw [hg] at LX0 CELL CELLJ
  try rw [hg]
  have HG := Lib.hid hg
  clear hg
  obtain ⟨c0, c1, c2, c3, z0, z1, f0, f1⟩ := LX0.out.reads
  refine (rending_any true X LX0.out.lx.lat HE.out).mono ?_
  rintro e a ⟨rfl, hb⟩
  have La := Lib.hid (LX0.out.later hb)
  clear c0 c1 c2 c3 z0 z1 f0 f1 hb LX0
  obtain ⟨c0, c1, c2, c3, z0, z1, f0, f1⟩ := La.out.reads
  by_cases g1 : 0 < en
  · have HRR := Lib.hid (show (en, en) = r from by have := HR.out; rw [if_pos g1] at this; exact this)
    have g1' : (0 : Int) < (en : Int) := by omega
    go_wp2_with fail
    obtain ⟨hbb, yy0, yy1⟩ := La.out.setb (.int .i64 ((en : Int))) (.int .i64 ((en : Int)))
    refine bodyPost_ret (v := .agg #[.int .i64 ((en : Int)), .int .i64 ((en : Int))]) (by simp [results, Tryd.f45, go_sem, yy0, yy1]) rfl ⟨?_, hbb⟩
    rw [← HRR.out]; rfl
  have g1' : ¬ (0 : Int) < (en : Int) := by omega
  have K1 := Lib.hid HR.out
  rw [if_neg g1] at K1
  clear HR g1
  have x0 := CELL.out a S La.out
  by_cases g2 : x = 1
  · have HRR := Lib.hid (show (r1, r1 + 1) = r from by have := K1.out; rw [if_pos g2] at this; exact this)
    subst g2
    go_wp2_with fail
    refine (rrow_any (i := 0) 1 a La.out.lx.lat (by omega) H1.out).mono ?_
    rintro e b ⟨rfl, hb⟩
    have Lb := Lib.hid (La.out.later hb)
    clear c0 c1 c2 c3 z0 z1 f0 f1 hb La
    obtain ⟨c0, c1, c2, c3, z0, z1, f0, f1⟩ := Lb.out.reads
    go_wp2_with fail
    refine (rmore_any r1 b (by omega)).mono ?_
    rintro e y ⟨rfl, hb⟩
    have Ly := Lib.hid (Lb.out.later hb)
    clear c0 c1 c2 c3 z0 z1 f0 f1 hb Lb
    obtain ⟨c0, c1, c2, c3, z0, z1, f0, f1⟩ := Ly.out.reads
    go_wp2_with fail
    obtain ⟨hbb, yy0, yy1⟩ := Ly.out.setb (.int .i64 ((r1 : Int))) (.int .i64 ((r1 : Int) + 1))
    refine bodyPost_ret (v := .agg #[.int .i64 ((r1 : Int)), .int .i64 ((r1 : Int) + 1)]) (by simp [results, Tryd.f45, go_sem, yy0, yy1]) rfl ⟨?_, hbb⟩
    rw [← HRR.out]; rfl
  have K2 := Lib.hid K1.out
  rw [if_neg g2] at K2
  have q1 := beq_no g2
  clear K1 g2
  have TAIL : ∀ v, LY w v g ps n AP (some ⟨bb, off, none⟩) AN cP cC cN S → True := fun _ _ => trivial
  clear TAIL
  by_cases g3 : x ≠ 2 ∧ x ≠ 4
  · obtain ⟨g3, g4⟩ := g3
    have q2 := bne_yes g3
    have q4 := bne_yes g4
    go_wp2_with fail
    refine (rrow_any (i := 1) 1 a La.out.lx.lat (by omega) H2.out).mono ?_
    rintro e b ⟨rfl, hb⟩
    have Lb := Lib.hid (La.out.later hb)
    clear c0 c1 c2 c3 z0 z1 f0 f1 hb La
    obtain ⟨c0, c1, c2, c3, z0, z1, f0, f1⟩ := Lb.out.reads
    by_cases g5 : 0 < r2
    · have HRR := Lib.hid (show (1 + r2, 1 + r2 + 1) = r from by have := K2.out; rw [if_pos ⟨g3, g4, g5⟩] at this; exact this)
      have g5' : (0 : Int) < (r2 : Int) := by omega
      go_wp2_with fail
      refine (rrow_any (i := 1) 1 b Lb.out.lx.lat (by omega) H2.out).mono ?_
      rintro e c ⟨rfl, hb⟩
      have Lc := Lib.hid (Lb.out.later hb)
      clear c0 c1 c2 c3 z0 z1 f0 f1 hb Lb
      obtain ⟨c0, c1, c2, c3, z0, z1, f0, f1⟩ := Lc.out.reads
      go_wp2_with fail
      obtain ⟨k1, hk1⟩ : ∃ k1, 1 + r2 = k1 := ⟨_, rfl⟩
      have hki : (1 : Int) + (r2 : Int) = (k1 : Int) := by omega
      rw [hk1] at HRR
      have hkl : k1 ≤ 100000 := by omega
      rw [hki]
      refine (rmore_any k1 c hkl).mono ?_
      rintro e y ⟨rfl, hb⟩
      have Ly := Lib.hid (Lc.out.later hb)
      clear c0 c1 c2 c3 z0 z1 f0 f1 hb Lc
      obtain ⟨c0, c1, c2, c3, z0, z1, f0, f1⟩ := Ly.out.reads
      go_wp2_with fail
      obtain ⟨hbb, yy0, yy1⟩ := Ly.out.setb (.int .i64 ((k1 : Int))) (.int .i64 ((k1 : Int) + 1))
      refine bodyPost_ret (v := .agg #[.int .i64 ((k1 : Int)), .int .i64 ((k1 : Int) + 1)]) (by simp [results, Tryd.f45, go_sem, yy0, yy1]) rfl ⟨?_, hbb⟩
      rw [← HRR.out]; rfl
    · have g5' : ¬ (0 : Int) < (r2 : Int) := by omega
      have K3 := Lib.hid K2.out
      rw [if_neg (fun e => g5 e.2.2)] at K3
      clear K2 g5 g3 g4
      go_wp2_with fail
      refine (rrow_any (i := 0) 2 b Lb.out.lx.lat (by omega) HNM.out).mono ?_
      rintro e d ⟨rfl, hb⟩
      have Ld := Lib.hid (Lb.out.later hb)
      clear c0 c1 c2 c3 z0 z1 f0 f1 hb Lb
      obtain ⟨c0, c1, c2, c3, z0, z1, f0, f1⟩ := Ld.out.reads
      by_cases t1 : 3 ≤ nm
      · have HRR := Lib.hid (show (3, 3) = r from by have := K3.out; rw [if_pos t1] at this; exact this)
        have t1' : (3 : Int) ≤ (nm : Int) := by omega
        go_wp2_with fail
        obtain ⟨hbb, yy0, yy1⟩ := Ld.out.setb (.int .i64 (3)) (.int .i64 (3))
        refine bodyPost_ret (v := .agg #[.int .i64 (3), .int .i64 (3)]) (by simp [results, Tryd.f45, go_sem, yy0, yy1]) rfl ⟨?_, hbb⟩
        rw [← HRR.out]; rfl
      have t1' : ¬ (3 : Int) ≤ (nm : Int) := by omega
      have K4 := Lib.hid K3.out
      rw [if_neg t1] at K4
      clear K3 t1
      by_cases t2 : 0 < nm
      · have HRR := Lib.hid (show (nm, nm + 1) = r from by have := K4.out; rw [if_pos t2] at this; exact this)
        have t2' : (0 : Int) < (nm : Int) := by omega
        go_wp2_with fail
        refine (rmore_any nm d (by omega)).mono ?_
        rintro e y ⟨rfl, hb⟩
        have Ly := Lib.hid (Ld.out.later hb)
        clear c0 c1 c2 c3 z0 z1 f0 f1 hb Ld
        obtain ⟨c0, c1, c2, c3, z0, z1, f0, f1⟩ := Ly.out.reads
        go_wp2_with fail
        obtain ⟨hbb, yy0, yy1⟩ := Ly.out.setb (.int .i64 ((nm : Int))) (.int .i64 ((nm : Int) + 1))
        refine bodyPost_ret (v := .agg #[.int .i64 ((nm : Int)), .int .i64 ((nm : Int) + 1)]) (by simp [results, Tryd.f45, go_sem, yy0, yy1]) rfl ⟨?_, hbb⟩
        rw [← HRR.out]; rfl
      have t2' : ¬ (0 : Int) < (nm : Int) := by omega
      have K5 := Lib.hid K4.out
      rw [if_neg t2] at K5
      clear K4 t2
      go_wp2_with fail
      refine (rled_any 0 d Ld.out.lx.lat h0 H0.out).mono ?_
      rintro e f ⟨rfl, hb⟩
      have Lf := Lib.hid (Ld.out.later hb)
      clear c0 c1 c2 c3 z0 z1 f0 f1 hb Ld
      obtain ⟨c0, c1, c2, c3, z0, z1, f0, f1⟩ := Lf.out.reads
      by_cases t3 : 0 < l0
      · have HRR := Lib.hid (show (l0 + r4, l0 + r4 + 1) = r from by have := K5.out; rw [if_pos t3] at this; exact this)
        have t3' : (0 : Int) < (l0 : Int) := by omega
        go_wp2_with fail
        refine (rrow_any (i := l0) 4 f Lf.out.lx.lat (by omega) H4.out).mono ?_
        rintro e k ⟨rfl, hb⟩
        have Lk := Lib.hid (Lf.out.later hb)
        clear c0 c1 c2 c3 z0 z1 f0 f1 hb Lf
        obtain ⟨c0, c1, c2, c3, z0, z1, f0, f1⟩ := Lk.out.reads
        go_wp2_with fail
        obtain ⟨k1, hk1⟩ : ∃ k1, l0 + r4 = k1 := ⟨_, rfl⟩
        have hki : (l0 : Int) + (r4 : Int) = (k1 : Int) := by omega
        rw [hk1] at HRR
        have hkl : k1 ≤ 100000 := by omega
        rw [hki]
        refine (rmore_any k1 k hkl).mono ?_
        rintro e y ⟨rfl, hb⟩
        have Ly := Lib.hid (Lk.out.later hb)
        clear c0 c1 c2 c3 z0 z1 f0 f1 hb Lk
        obtain ⟨c0, c1, c2, c3, z0, z1, f0, f1⟩ := Ly.out.reads
        go_wp2_with fail
        obtain ⟨hbb, yy0, yy1⟩ := Ly.out.setb (.int .i64 ((k1 : Int))) (.int .i64 ((k1 : Int) + 1))
        refine bodyPost_ret (v := .agg #[.int .i64 ((k1 : Int)), .int .i64 ((k1 : Int) + 1)]) (by simp [results, Tryd.f45, go_sem, yy0, yy1]) rfl ⟨?_, hbb⟩
        rw [← HRR.out]; rfl
      have t3' : ¬ (0 : Int) < (l0 : Int) := by omega
      have K6 := Lib.hid K5.out
      rw [if_neg t3] at K6
      clear K5 t3
      go_wp2_with fail
      refine (rspaces_any f Lf.out.lx.lat HBL.out).mono ?_
      rintro e k ⟨rfl, hb⟩
      have Lk := Lib.hid (Lf.out.later hb)
      clear c0 c1 c2 c3 z0 z1 f0 f1 hb Lf
      obtain ⟨c0, c1, c2, c3, z0, z1, f0, f1⟩ := Lk.out.reads
      go_wp2_with fail
      go_loop [5, 6] (fun y z => ∃ j m : Nat, z = .int .i64 (j : Int) ∧ y = .int .i64 (m : Int) ∧ j ≤ bl ∧ Hid (lineF ps j = m)) (fun _ z => bl - (intOf z).toNat)
      case atStart => exact ⟨0, 0, by first | rfl | trivial, by first | rfl | trivial, Nat.zero_le _, Lib.hid rfl⟩
      case round =>
        obtain ⟨j, m, rfl, rfl, hj, HJ⟩ := hrel
        by_cases hlt : j < bl
        · have hps : j < ps.length := by have := HN.out; omega
          have e0 := CELLJ.out k S Lk.out j hps
          obtain ⟨cl, hcl⟩ : ∃ cl, (ps[j]'hps).cls = cl := ⟨_, rfl⟩
          rw [hcl] at e0
          have HCL := Lib.hid (show clsAt ps j = cl from by unfold clsAt; rw [List.getElem?_eq_getElem hps]; exact hcl)
          have hjn : (j : Int) < (n : Int) := by omega
          clear hcl
          by_cases h4 : cl = 4
          · have HM := Lib.hid (show lineF ps (j + 1) = j + 1 from by rw [lineF, if_pos (by rw [HCL.out]; exact h4)])
            subst h4
            go_wp2_with fail
            go_round
            case rel => exact ⟨j + 1, j + 1, by go_num, by go_num, by omega, HM⟩
            case measure => simp [intOf]; omega
          · have HM := Lib.hid (show lineF ps (j + 1) = m from by rw [lineF, if_neg (by rw [HCL.out]; exact h4)]; exact HJ.out)
            have hq := beq_no h4
            clear h4
            go_wp2_with fail
            go_round
            case rel => exact ⟨j + 1, m, by go_num, rfl, by omega, HM⟩
            case measure => simp [intOf]; omega
        · obtain rfl : j = bl := by omega
          have HML := Lib.hid (show m = ln from by rw [← HJ.out]; exact HLN.out)
          have hml := HML.out
          subst hml
          clear HML
          by_cases t4 : 0 < m
          · have HRR := Lib.hid (show (m, j + 1) = r from by have := K6.out; rw [if_pos t4] at this; exact this)
            have t4' : (0 : Int) < (m : Int) := by omega
            go_wp2_with fail
            obtain ⟨hbb, yy0, yy1⟩ := Lk.out.setb (.int .i64 ((m : Int))) (.int .i64 ((j : Int) + 1))
            refine bodyPost_ret (v := .agg #[.int .i64 ((m : Int)), .int .i64 ((j : Int) + 1)]) (by simp [results, Tryd.f45, go_sem, yy0, yy1]) rfl ⟨?_, hbb⟩
            rw [← HRR.out]; rfl
          · have t4' : ¬ (0 : Int) < (m : Int) := by omega
            have K7 := Lib.hid K6.out
            rw [if_neg t4] at K7
            clear K6 t4
            go_wp2_with fail
            obtain ⟨rN, rR⟩ := r
            refine (rblanks_any k Lk.out.lx.lat K7.out).mono ?_
            rintro e y ⟨rfl, hb⟩
            have Ly := Lib.hid (Lk.out.later hb)
            clear c0 c1 c2 c3 z0 z1 f0 f1 hb Lk
            obtain ⟨c0, c1, c2, c3, z0, z1, f0, f1⟩ := Ly.out.reads
            unfold aV
            go_wp2_with fail
            obtain ⟨hbb, yy0, yy1⟩ := Ly.out.setb (.int .i64 ((rN : Int))) (.int .i64 ((rR : Int)))
            refine bodyPost_ret (v := .agg #[.int .i64 ((rN : Int)), .int .i64 ((rR : Int))]) (by simp [results, Tryd.f45, go_sem, yy0, yy1]) rfl ⟨?_, hbb⟩
            rfl

  · have K3 := Lib.hid K2.out
    rw [if_neg (fun e => g3 ⟨e.1, e.2.1⟩)] at K3
    have q24 : x = 2 ∨ x = 4 := by omega
    clear K2 g3
    rcases q24 with rfl | rfl
    · go_wp2_with fail
      refine (rrow_any (i := 0) 2 a La.out.lx.lat (by omega) HNM.out).mono ?_
      rintro e d ⟨rfl, hb⟩
      have Ld := Lib.hid (La.out.later hb)
      clear c0 c1 c2 c3 z0 z1 f0 f1 hb La
      obtain ⟨c0, c1, c2, c3, z0, z1, f0, f1⟩ := Ld.out.reads
      by_cases t1 : 3 ≤ nm
      · have HRR := Lib.hid (show (3, 3) = r from by have := K3.out; rw [if_pos t1] at this; exact this)
        have t1' : (3 : Int) ≤ (nm : Int) := by omega
        go_wp2_with fail
        obtain ⟨hbb, yy0, yy1⟩ := Ld.out.setb (.int .i64 (3)) (.int .i64 (3))
        refine bodyPost_ret (v := .agg #[.int .i64 (3), .int .i64 (3)]) (by simp [results, Tryd.f45, go_sem, yy0, yy1]) rfl ⟨?_, hbb⟩
        rw [← HRR.out]; rfl
      have t1' : ¬ (3 : Int) ≤ (nm : Int) := by omega
      have K4 := Lib.hid K3.out
      rw [if_neg t1] at K4
      clear K3 t1
      by_cases t2 : 0 < nm
      · have HRR := Lib.hid (show (nm, nm + 1) = r from by have := K4.out; rw [if_pos t2] at this; exact this)
        have t2' : (0 : Int) < (nm : Int) := by omega
        go_wp2_with fail
        refine (rmore_any nm d (by omega)).mono ?_
        rintro e y ⟨rfl, hb⟩
        have Ly := Lib.hid (Ld.out.later hb)
        clear c0 c1 c2 c3 z0 z1 f0 f1 hb Ld
        obtain ⟨c0, c1, c2, c3, z0, z1, f0, f1⟩ := Ly.out.reads
        go_wp2_with fail
        obtain ⟨hbb, yy0, yy1⟩ := Ly.out.setb (.int .i64 ((nm : Int))) (.int .i64 ((nm : Int) + 1))
        refine bodyPost_ret (v := .agg #[.int .i64 ((nm : Int)), .int .i64 ((nm : Int) + 1)]) (by simp [results, Tryd.f45, go_sem, yy0, yy1]) rfl ⟨?_, hbb⟩
        rw [← HRR.out]; rfl
      have t2' : ¬ (0 : Int) < (nm : Int) := by omega
      have K5 := Lib.hid K4.out
      rw [if_neg t2] at K5
      clear K4 t2
      go_wp2_with fail
      refine (rled_any 0 d Ld.out.lx.lat h0 H0.out).mono ?_
      rintro e f ⟨rfl, hb⟩
      have Lf := Lib.hid (Ld.out.later hb)
      clear c0 c1 c2 c3 z0 z1 f0 f1 hb Ld
      obtain ⟨c0, c1, c2, c3, z0, z1, f0, f1⟩ := Lf.out.reads
      by_cases t3 : 0 < l0
      · have HRR := Lib.hid (show (l0 + r4, l0 + r4 + 1) = r from by have := K5.out; rw [if_pos t3] at this; exact this)
        have t3' : (0 : Int) < (l0 : Int) := by omega
        go_wp2_with fail
        refine (rrow_any (i := l0) 4 f Lf.out.lx.lat (by omega) H4.out).mono ?_
        rintro e k ⟨rfl, hb⟩
        have Lk := Lib.hid (Lf.out.later hb)
        clear c0 c1 c2 c3 z0 z1 f0 f1 hb Lf
        obtain ⟨c0, c1, c2, c3, z0, z1, f0, f1⟩ := Lk.out.reads
        go_wp2_with fail
        obtain ⟨k1, hk1⟩ : ∃ k1, l0 + r4 = k1 := ⟨_, rfl⟩
        have hki : (l0 : Int) + (r4 : Int) = (k1 : Int) := by omega
        rw [hk1] at HRR
        have hkl : k1 ≤ 100000 := by omega
        rw [hki]
        refine (rmore_any k1 k hkl).mono ?_
        rintro e y ⟨rfl, hb⟩
        have Ly := Lib.hid (Lk.out.later hb)
        clear c0 c1 c2 c3 z0 z1 f0 f1 hb Lk
        obtain ⟨c0, c1, c2, c3, z0, z1, f0, f1⟩ := Ly.out.reads
        go_wp2_with fail
        obtain ⟨hbb, yy0, yy1⟩ := Ly.out.setb (.int .i64 ((k1 : Int))) (.int .i64 ((k1 : Int) + 1))
        refine bodyPost_ret (v := .agg #[.int .i64 ((k1 : Int)), .int .i64 ((k1 : Int) + 1)]) (by simp [results, Tryd.f45, go_sem, yy0, yy1]) rfl ⟨?_, hbb⟩
        rw [← HRR.out]; rfl
      have t3' : ¬ (0 : Int) < (l0 : Int) := by omega
      have K6 := Lib.hid K5.out
      rw [if_neg t3] at K6
      clear K5 t3
      go_wp2_with fail
      refine (rspaces_any f Lf.out.lx.lat HBL.out).mono ?_
      rintro e k ⟨rfl, hb⟩
      have Lk := Lib.hid (Lf.out.later hb)
      clear c0 c1 c2 c3 z0 z1 f0 f1 hb Lf
      obtain ⟨c0, c1, c2, c3, z0, z1, f0, f1⟩ := Lk.out.reads
      go_wp2_with fail
      go_loop [5, 6] (fun y z => ∃ j m : Nat, z = .int .i64 (j : Int) ∧ y = .int .i64 (m : Int) ∧ j ≤ bl ∧ Hid (lineF ps j = m)) (fun _ z => bl - (intOf z).toNat)
      case atStart => exact ⟨0, 0, by first | rfl | trivial, by first | rfl | trivial, Nat.zero_le _, Lib.hid rfl⟩
      case round =>
        obtain ⟨j, m, rfl, rfl, hj, HJ⟩ := hrel
        by_cases hlt : j < bl
        · have hps : j < ps.length := by have := HN.out; omega
          have e0 := CELLJ.out k S Lk.out j hps
          obtain ⟨cl, hcl⟩ : ∃ cl, (ps[j]'hps).cls = cl := ⟨_, rfl⟩
          rw [hcl] at e0
          have HCL := Lib.hid (show clsAt ps j = cl from by unfold clsAt; rw [List.getElem?_eq_getElem hps]; exact hcl)
          have hjn : (j : Int) < (n : Int) := by omega
          clear hcl
          by_cases h4 : cl = 4
          · have HM := Lib.hid (show lineF ps (j + 1) = j + 1 from by rw [lineF, if_pos (by rw [HCL.out]; exact h4)])
            subst h4
            go_wp2_with fail
            go_round
            case rel => exact ⟨j + 1, j + 1, by go_num, by go_num, by omega, HM⟩
            case measure => simp [intOf]; omega
          · have HM := Lib.hid (show lineF ps (j + 1) = m from by rw [lineF, if_neg (by rw [HCL.out]; exact h4)]; exact HJ.out)
            have hq := beq_no h4
            clear h4
            go_wp2_with fail
            go_round
            case rel => exact ⟨j + 1, m, by go_num, rfl, by omega, HM⟩
            case measure => simp [intOf]; omega
        · obtain rfl : j = bl := by omega
          have HML := Lib.hid (show m = ln from by rw [← HJ.out]; exact HLN.out)
          have hml := HML.out
          subst hml
          clear HML
          by_cases t4 : 0 < m
          · have HRR := Lib.hid (show (m, j + 1) = r from by have := K6.out; rw [if_pos t4] at this; exact this)
            have t4' : (0 : Int) < (m : Int) := by omega
            go_wp2_with fail
            obtain ⟨hbb, yy0, yy1⟩ := Lk.out.setb (.int .i64 ((m : Int))) (.int .i64 ((j : Int) + 1))
            refine bodyPost_ret (v := .agg #[.int .i64 ((m : Int)), .int .i64 ((j : Int) + 1)]) (by simp [results, Tryd.f45, go_sem, yy0, yy1]) rfl ⟨?_, hbb⟩
            rw [← HRR.out]; rfl
          · have t4' : ¬ (0 : Int) < (m : Int) := by omega
            have K7 := Lib.hid K6.out
            rw [if_neg t4] at K7
            clear K6 t4
            go_wp2_with fail
            obtain ⟨rN, rR⟩ := r
            refine (rblanks_any k Lk.out.lx.lat K7.out).mono ?_
            rintro e y ⟨rfl, hb⟩
            have Ly := Lib.hid (Lk.out.later hb)
            clear c0 c1 c2 c3 z0 z1 f0 f1 hb Lk
            obtain ⟨c0, c1, c2, c3, z0, z1, f0, f1⟩ := Ly.out.reads
            unfold aV
            go_wp2_with fail
            obtain ⟨hbb, yy0, yy1⟩ := Ly.out.setb (.int .i64 ((rN : Int))) (.int .i64 ((rR : Int)))
            refine bodyPost_ret (v := .agg #[.int .i64 ((rN : Int)), .int .i64 ((rR : Int))]) (by simp [results, Tryd.f45, go_sem, yy0, yy1]) rfl ⟨?_, hbb⟩
            rfl

    · go_wp2_with fail
      refine (rrow_any (i := 0) 2 a La.out.lx.lat (by omega) HNM.out).mono ?_
      rintro e d ⟨rfl, hb⟩
      have Ld := Lib.hid (La.out.later hb)
      clear c0 c1 c2 c3 z0 z1 f0 f1 hb La
      obtain ⟨c0, c1, c2, c3, z0, z1, f0, f1⟩ := Ld.out.reads
      by_cases t1 : 3 ≤ nm
      · have HRR := Lib.hid (show (3, 3) = r from by have := K3.out; rw [if_pos t1] at this; exact this)
        have t1' : (3 : Int) ≤ (nm : Int) := by omega
        go_wp2_with fail
        obtain ⟨hbb, yy0, yy1⟩ := Ld.out.setb (.int .i64 (3)) (.int .i64 (3))
        refine bodyPost_ret (v := .agg #[.int .i64 (3), .int .i64 (3)]) (by simp [results, Tryd.f45, go_sem, yy0, yy1]) rfl ⟨?_, hbb⟩
        rw [← HRR.out]; rfl
      have t1' : ¬ (3 : Int) ≤ (nm : Int) := by omega
      have K4 := Lib.hid K3.out
      rw [if_neg t1] at K4
      clear K3 t1
      by_cases t2 : 0 < nm
      · have HRR := Lib.hid (show (nm, nm + 1) = r from by have := K4.out; rw [if_pos t2] at this; exact this)
        have t2' : (0 : Int) < (nm : Int) := by omega
        go_wp2_with fail
        refine (rmore_any nm d (by omega)).mono ?_
        rintro e y ⟨rfl, hb⟩
        have Ly := Lib.hid (Ld.out.later hb)
        clear c0 c1 c2 c3 z0 z1 f0 f1 hb Ld
        obtain ⟨c0, c1, c2, c3, z0, z1, f0, f1⟩ := Ly.out.reads
        go_wp2_with fail
        obtain ⟨hbb, yy0, yy1⟩ := Ly.out.setb (.int .i64 ((nm : Int))) (.int .i64 ((nm : Int) + 1))
        refine bodyPost_ret (v := .agg #[.int .i64 ((nm : Int)), .int .i64 ((nm : Int) + 1)]) (by simp [results, Tryd.f45, go_sem, yy0, yy1]) rfl ⟨?_, hbb⟩
        rw [← HRR.out]; rfl
      have t2' : ¬ (0 : Int) < (nm : Int) := by omega
      have K5 := Lib.hid K4.out
      rw [if_neg t2] at K5
      clear K4 t2
      go_wp2_with fail
      refine (rled_any 0 d Ld.out.lx.lat h0 H0.out).mono ?_
      rintro e f ⟨rfl, hb⟩
      have Lf := Lib.hid (Ld.out.later hb)
      clear c0 c1 c2 c3 z0 z1 f0 f1 hb Ld
      obtain ⟨c0, c1, c2, c3, z0, z1, f0, f1⟩ := Lf.out.reads
      by_cases t3 : 0 < l0
      · have HRR := Lib.hid (show (l0 + r4, l0 + r4 + 1) = r from by have := K5.out; rw [if_pos t3] at this; exact this)
        have t3' : (0 : Int) < (l0 : Int) := by omega
        go_wp2_with fail
        refine (rrow_any (i := l0) 4 f Lf.out.lx.lat (by omega) H4.out).mono ?_
        rintro e k ⟨rfl, hb⟩
        have Lk := Lib.hid (Lf.out.later hb)
        clear c0 c1 c2 c3 z0 z1 f0 f1 hb Lf
        obtain ⟨c0, c1, c2, c3, z0, z1, f0, f1⟩ := Lk.out.reads
        go_wp2_with fail
        obtain ⟨k1, hk1⟩ : ∃ k1, l0 + r4 = k1 := ⟨_, rfl⟩
        have hki : (l0 : Int) + (r4 : Int) = (k1 : Int) := by omega
        rw [hk1] at HRR
        have hkl : k1 ≤ 100000 := by omega
        rw [hki]
        refine (rmore_any k1 k hkl).mono ?_
        rintro e y ⟨rfl, hb⟩
        have Ly := Lib.hid (Lk.out.later hb)
        clear c0 c1 c2 c3 z0 z1 f0 f1 hb Lk
        obtain ⟨c0, c1, c2, c3, z0, z1, f0, f1⟩ := Ly.out.reads
        go_wp2_with fail
        obtain ⟨hbb, yy0, yy1⟩ := Ly.out.setb (.int .i64 ((k1 : Int))) (.int .i64 ((k1 : Int) + 1))
        refine bodyPost_ret (v := .agg #[.int .i64 ((k1 : Int)), .int .i64 ((k1 : Int) + 1)]) (by simp [results, Tryd.f45, go_sem, yy0, yy1]) rfl ⟨?_, hbb⟩
        rw [← HRR.out]; rfl
      have t3' : ¬ (0 : Int) < (l0 : Int) := by omega
      have K6 := Lib.hid K5.out
      rw [if_neg t3] at K6
      clear K5 t3
      go_wp2_with fail
      refine (rspaces_any f Lf.out.lx.lat HBL.out).mono ?_
      rintro e k ⟨rfl, hb⟩
      have Lk := Lib.hid (Lf.out.later hb)
      clear c0 c1 c2 c3 z0 z1 f0 f1 hb Lf
      obtain ⟨c0, c1, c2, c3, z0, z1, f0, f1⟩ := Lk.out.reads
      go_wp2_with fail
      go_loop [5, 6] (fun y z => ∃ j m : Nat, z = .int .i64 (j : Int) ∧ y = .int .i64 (m : Int) ∧ j ≤ bl ∧ Hid (lineF ps j = m)) (fun _ z => bl - (intOf z).toNat)
      case atStart => exact ⟨0, 0, by first | rfl | trivial, by first | rfl | trivial, Nat.zero_le _, Lib.hid rfl⟩
      case round =>
        obtain ⟨j, m, rfl, rfl, hj, HJ⟩ := hrel
        by_cases hlt : j < bl
        · have hps : j < ps.length := by have := HN.out; omega
          have e0 := CELLJ.out k S Lk.out j hps
          obtain ⟨cl, hcl⟩ : ∃ cl, (ps[j]'hps).cls = cl := ⟨_, rfl⟩
          rw [hcl] at e0
          have HCL := Lib.hid (show clsAt ps j = cl from by unfold clsAt; rw [List.getElem?_eq_getElem hps]; exact hcl)
          have hjn : (j : Int) < (n : Int) := by omega
          clear hcl
          by_cases h4 : cl = 4
          · have HM := Lib.hid (show lineF ps (j + 1) = j + 1 from by rw [lineF, if_pos (by rw [HCL.out]; exact h4)])
            subst h4
            go_wp2_with fail
            go_round
            case rel => exact ⟨j + 1, j + 1, by go_num, by go_num, by omega, HM⟩
            case measure => simp [intOf]; omega
          · have HM := Lib.hid (show lineF ps (j + 1) = m from by rw [lineF, if_neg (by rw [HCL.out]; exact h4)]; exact HJ.out)
            have hq := beq_no h4
            clear h4
            go_wp2_with fail
            go_round
            case rel => exact ⟨j + 1, m, by go_num, rfl, by omega, HM⟩
            case measure => simp [intOf]; omega
        · obtain rfl : j = bl := by omega
          have HML := Lib.hid (show m = ln from by rw [← HJ.out]; exact HLN.out)
          have hml := HML.out
          subst hml
          clear HML
          by_cases t4 : 0 < m
          · have HRR := Lib.hid (show (m, j + 1) = r from by have := K6.out; rw [if_pos t4] at this; exact this)
            have t4' : (0 : Int) < (m : Int) := by omega
            go_wp2_with fail
            obtain ⟨hbb, yy0, yy1⟩ := Lk.out.setb (.int .i64 ((m : Int))) (.int .i64 ((j : Int) + 1))
            refine bodyPost_ret (v := .agg #[.int .i64 ((m : Int)), .int .i64 ((j : Int) + 1)]) (by simp [results, Tryd.f45, go_sem, yy0, yy1]) rfl ⟨?_, hbb⟩
            rw [← HRR.out]; rfl
          · have t4' : ¬ (0 : Int) < (m : Int) := by omega
            have K7 := Lib.hid K6.out
            rw [if_neg t4] at K7
            clear K6 t4
            go_wp2_with fail
            obtain ⟨rN, rR⟩ := r
            refine (rblanks_any k Lk.out.lx.lat K7.out).mono ?_
            rintro e y ⟨rfl, hb⟩
            have Ly := Lib.hid (Lk.out.later hb)
            clear c0 c1 c2 c3 z0 z1 f0 f1 hb Lk
            obtain ⟨c0, c1, c2, c3, z0, z1, f0, f1⟩ := Ly.out.reads
            unfold aV
            go_wp2_with fail
            obtain ⟨hbb, yy0, yy1⟩ := Ly.out.setb (.int .i64 ((rN : Int))) (.int .i64 ((rR : Int)))
            refine bodyPost_ret (v := .agg #[.int .i64 ((rN : Int)), .int .i64 ((rR : Int))]) (by simp [results, Tryd.f45, go_sem, yy0, yy1]) rfl ⟨?_, hbb⟩
            rfl

end Go.Proofs.YtkiggpbmlkfdpaaDoor
