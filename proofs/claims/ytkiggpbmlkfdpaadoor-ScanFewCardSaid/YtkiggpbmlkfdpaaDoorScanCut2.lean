/- The walks of scan's plain and broad: how a piece is cut. -/
import Derived.Test.YtkiggpbmlkfdpaaDoorScanEnd
import Derived.WalkMore
import Derived.Test.YtkiggpbmlkfdpaaDoorScanStay
/- The walks of scan's led, spaces, leads, blank, plain, broad: how a piece is cut. -/
namespace Go.Proofs.YtkiggpbmlkfdpaaDoor
open Go.RowKit
set_option linter.unusedVariables false

theorem first_pt {ps : List Pt} (h : 0 < ps.length) : ∃ a b c d, ps[0]? = some ⟨a, b, c, d⟩ ∧ codeAt ps 0 = a ∧ clsAt ps 0 = b := by
  obtain ⟨p, hp⟩ : ∃ p, ps[0]? = some p := ⟨_, List.getElem?_eq_getElem h⟩
  obtain ⟨a, b, c, d⟩ := p
  refine ⟨a, b, c, d, hp, ?_, ?_⟩
  · unfold codeAt; rw [hp]
  · unfold clsAt; rw [hp]
set_option maxHeartbeats 2000000 in
theorem led_any {B q k0 : Nat} {t : List Rg} {ps : List Pt} {wide : Bool} (c : Int) (w : World) (h : RdAt w B q t ps wide k0) (h0 : 0 < ps.length) {r : Nat} (hr : ledP ps c = r) :
    Calls Tryd.prog 56 #[.pointer (some ⟨q, 0, none⟩), .int .i64 c] w (Ask B q t ps wide k0 r w (.int .i64 (r : Int))) := by
  have H := Lib.hid h
  clear h
  obtain ⟨a, b, n, d, hp, hc, -⟩ := first_pt h0
  have HP := Lib.hid hp
  unfold ledP at hr
  rw [hc] at hr
  clear hp hc
  by_cases ha : a = 32
  · subst ha
    obtain ⟨o, ho⟩ : ∃ o, isP ps 1 c = o := ⟨_, rfl⟩
    rw [ho] at hr
    have HO := Lib.hid ho
    clear ho
    cases o with
    | true =>
      rw [if_pos ⟨rfl, rfl⟩] at hr
      have HR := Lib.hid hr
      clear hr
      go_enter Tryd.func56, Tryd.ntmps56
      go_wp2_with fail
      refine (at_some (i := 0) w H.out (by omega) HP.out).mono ?_
      rintro e aw ⟨rfl, hb, ak, hr, hk⟩
      have aB := Lib.hid hb
      have aR := Lib.hid hr
      have aK := Lib.hid hk
      clear hb hr hk
      go_wp2_with fail
      refine (is_any (i := 1) c _ (aR.out.alloc _) (by omega) HO.out).mono ?_
      rintro e bw ⟨rfl, hb, bk, hr, hk⟩
      have bB := Lib.hid hb
      have bR := Lib.hid hr
      have bK := Lib.hid hk
      clear hb hr hk
      go_wp2_with fail
      refine (run_any (i := 1) c _ bR.out (by omega) HR.out).mono ?_
      rintro e cw ⟨rfl, hb, ck, hr, hk⟩
      have cB := Lib.hid hb
      have cR := Lib.hid hr
      have cK := Lib.hid hk
      clear hb hr hk
      go_wp2_with fail
      go_ret
      exact ⟨rfl, ((balloc aB.out aR.out.size.1 _).trans bB.out).trans cB.out, ck, cR.out, by have := aK.out; have := bK.out; have := cK.out; omega, by have := cK.out; omega⟩
    | false =>
      rw [if_neg (by intro e; cases e.2)] at hr
      have HR := Lib.hid hr
      clear hr
      go_enter Tryd.func56, Tryd.ntmps56
      go_wp2_with fail
      refine (at_some (i := 0) w H.out (by omega) HP.out).mono ?_
      rintro e aw ⟨rfl, hb, ak, hr, hk⟩
      have aB := Lib.hid hb
      have aR := Lib.hid hr
      have aK := Lib.hid hk
      clear hb hr hk
      go_wp2_with fail
      refine (is_any (i := 1) c _ (aR.out.alloc _) (by omega) HO.out).mono ?_
      rintro e bw ⟨rfl, hb, bk, hr, hk⟩
      have bB := Lib.hid hb
      have bR := Lib.hid hr
      have bK := Lib.hid hk
      clear hb hr hk
      go_wp2_with fail
      refine (run_any (i := 0) c _ bR.out (by omega) HR.out).mono ?_
      rintro e cw ⟨rfl, hb, ck, hr, hk⟩
      have cB := Lib.hid hb
      have cR := Lib.hid hr
      have cK := Lib.hid hk
      clear hb hr hk
      go_wp2_with fail
      go_ret
      exact ⟨rfl, ((balloc aB.out aR.out.size.1 _).trans bB.out).trans cB.out, ck, cR.out, by have := aK.out; have := bK.out; have := cK.out; omega, by have := cK.out; omega⟩
  · rw [if_neg (fun e => ha e.1)] at hr
    have HR := Lib.hid hr
    have hb0 := beq_no ha
    clear hr ha
    go_enter Tryd.func56, Tryd.ntmps56
    go_wp2_with fail
    refine (at_some (i := 0) w H.out (by omega) HP.out).mono ?_
    rintro e aw ⟨rfl, hb, ak, hr, hk⟩
    have aB := Lib.hid hb
    have aR := Lib.hid hr
    have aK := Lib.hid hk
    clear hb hr hk
    go_wp2_with fail
    refine (run_any (i := 0) c _ (aR.out.alloc _) (by omega) HR.out).mono ?_
    rintro e cw ⟨rfl, hb, ck, hr, hk⟩
    have cB := Lib.hid hb
    have cR := Lib.hid hr
    have cK := Lib.hid hk
    clear hb hr hk
    go_wp2_with fail
    go_ret
    exact ⟨rfl, (balloc aB.out aR.out.size.1 _).trans cB.out, ck, cR.out, by have := aK.out; have := cK.out; omega, by have := cK.out; omega⟩
theorem blanks_le {ps : List Pt} : blanksP ps ≤ ps.length := (while_le (fun p => isSp p.cls) ps 0).2 (Nat.zero_le _)
set_option maxHeartbeats 2000000 in
theorem spaces_any {B q k0 : Nat} {t : List Rg} {ps : List Pt} {wide : Bool} (w : World) (h : RdAt w B q t ps wide k0) {r : Nat × Nat} (hr : spacesP ps = r) :
    Calls Tryd.prog 57 #[.pointer (some ⟨q, 0, none⟩)] w (Ask B q t ps wide k0 r.1 w (.tuple #[.int .i64 (r.1 : Int), .int .i64 (r.2 : Int)])) := by
  have hps := h.size.2.1
  have H := Lib.hid h
  clear h
  obtain ⟨n, hn⟩ : ∃ n, blanksP ps = n := ⟨_, rfl⟩
  obtain ⟨ln, hln⟩ : ∃ n, lineP ps = n := ⟨_, rfl⟩
  have hnl : n ≤ ps.length := by rw [← hn]; exact blanks_le
  unfold spacesP at hr
  rw [hn] at hr
  have HN := Lib.hid hn
  have HLN := Lib.hid hln
  clear hn hln
  by_cases hl : n < ps.length
  · obtain ⟨p, hp⟩ : ∃ p, ps[n]? = some p := ⟨_, List.getElem?_eq_getElem hl⟩
    obtain ⟨a, b, c, d⟩ := p
    have HP := Lib.hid hp
    clear hp
    by_cases h1 : 1 < n
    · rw [if_pos ⟨hl, h1⟩] at hr
      subst hr
      have h1' : (1 : Int) < (n : Int) := by omega
      have hs : (n : Int) - 1 = ((n - 1 : Nat) : Int) := by omega
      have HS := Lib.hid hs
      clear hs
      go_enter Tryd.func57, Tryd.ntmps57
      go_wp2_with fail
      refine (blanks_any w H.out HN.out HLN.out).mono ?_
      rintro e aw ⟨rfl, hb, ak, hr, hk⟩
      have aB := Lib.hid hb
      have aR := Lib.hid hr
      have aK := Lib.hid hk
      clear hb hr hk
      go_wp2_with fail
      refine (at_some _ aR.out (by omega) HP.out).mono ?_
      rintro e bw ⟨rfl, hb, bk, hr, hk⟩
      have bB := Lib.hid hb
      have bR := Lib.hid hr
      have bK := Lib.hid hk
      clear hb hr hk
      go_wp2_with fail
      go_ret2
      refine ⟨?_, balloc (aB.out.trans bB.out) bR.out.size.1 _, bk, bR.out.alloc _, by have := aK.out; have := bK.out; omega, by have := bK.out; (try simp only); omega⟩
      rw [← HS.out]; first | rfl | simp
    · rw [if_neg (fun e => h1 e.2)] at hr
      subst hr
      have h1' : ¬ (1 : Int) < (n : Int) := by omega
      go_enter Tryd.func57, Tryd.ntmps57
      go_wp2_with fail
      refine (blanks_any w H.out HN.out HLN.out).mono ?_
      rintro e aw ⟨rfl, hb, ak, hr, hk⟩
      have aB := Lib.hid hb
      have aR := Lib.hid hr
      have aK := Lib.hid hk
      clear hb hr hk
      go_wp2_with fail
      refine (at_some _ aR.out (by omega) HP.out).mono ?_
      rintro e bw ⟨rfl, hb, bk, hr, hk⟩
      have bB := Lib.hid hb
      have bR := Lib.hid hr
      have bK := Lib.hid hk
      clear hb hr hk
      go_wp2_with fail
      go_ret2
      exact ⟨by first | rfl | simp, balloc (aB.out.trans bB.out) bR.out.size.1 _, bk, bR.out.alloc _, by have := aK.out; have := bK.out; omega, by have := bK.out; (try simp only); omega⟩
  · have HP := Lib.hid (show ps[n]? = none from List.getElem?_eq_none (by omega))
    rw [if_neg (fun e => hl e.1)] at hr
    subst hr
    go_enter Tryd.func57, Tryd.ntmps57
    go_wp2_with fail
    refine (blanks_any w H.out HN.out HLN.out).mono ?_
    rintro e aw ⟨rfl, hb, ak, hr, hk⟩
    have aB := Lib.hid hb
    have aR := Lib.hid hr
    have aK := Lib.hid hk
    clear hb hr hk
    go_wp2_with fail
    refine (at_none _ aR.out (by omega) HP.out).mono ?_
    rintro e bw ⟨rfl, hb, bk, hr, hk⟩
    have bB := Lib.hid hb
    have bR := Lib.hid hr
    have bK := Lib.hid hk
    clear hb hr hk
    go_wp2_with fail
    go_ret2
    exact ⟨by first | rfl | simp, balloc (aB.out.trans bB.out) bR.out.size.1 _, bk, bR.out.alloc _, by have := aK.out; have := bK.out; omega, by have := bK.out; (try simp only); omega⟩
set_option maxHeartbeats 1000000 in
theorem leads_any {B q k0 : Nat} {t : List Rg} {ps : List Pt} {wide : Bool} (w : World) (h : RdAt w B q t ps wide k0) (h0 : 0 < ps.length) {o : Bool} (ho : leadsP ps = o) :
    Calls Tryd.prog 59 #[.pointer (some ⟨q, 0, none⟩)] w (Ask B q t ps wide k0 1 w (.bool o)) := by
  have H := Lib.hid h
  clear h
  obtain ⟨a, b, n, d, hp, -, hc⟩ := first_pt h0
  have HP := Lib.hid hp
  unfold leadsP at ho
  rw [hc] at ho
  clear hp hc
  by_cases hb : b = 0
  · subst hb
    have HO := Lib.hid (show true = o from by rw [← ho]; rfl)
    clear ho
    go_enter Tryd.func59, Tryd.ntmps59
    go_wp2_with fail
    refine (at_some (i := 0) w H.out (by omega) HP.out).mono ?_
    rintro e aw ⟨rfl, hb, ak, hr, hk⟩
    have aB := Lib.hid hb
    have aR := Lib.hid hr
    have aK := Lib.hid hk
    clear hb hr hk
    go_wp2_with fail
    go_ret
    exact ⟨by rw [← HO.out]; rfl, balloc aB.out aR.out.size.1 _, ak, aR.out.alloc _, aK.out.1, by have := aK.out; omega⟩
  · have hb0 := beq_no hb
    have HO := Lib.hid (show (b == 3) = o from by rw [← ho, hb0]; rfl)
    clear ho hb
    go_enter Tryd.func59, Tryd.ntmps59
    go_wp2_with fail
    refine (at_some (i := 0) w H.out (by omega) HP.out).mono ?_
    rintro e aw ⟨rfl, hb, ak, hr, hk⟩
    have aB := Lib.hid hb
    have aR := Lib.hid hr
    have aK := Lib.hid hk
    clear hb hr hk
    go_wp2_with fail
    go_ret
    exact ⟨by rw [← HO.out]; rfl, balloc aB.out aR.out.size.1 _, ak, aR.out.alloc _, aK.out.1, by have := aK.out; omega⟩
set_option maxHeartbeats 2000000 in
theorem blank_any {B q k0 : Nat} {t : List Rg} {ps : List Pt} {wide : Bool} (w : World) (h : RdAt w B q t ps wide k0) {r : Nat × Nat} (hr : wordP ps = r) :
    Calls Tryd.prog 37 #[.pointer (some ⟨q, 0, none⟩)] w (Ask B q t ps wide k0 r.1 w (.tuple #[.int .i64 (r.1 : Int), .int .i64 (r.2 : Int)])) := by
  have hps := h.size.2.1
  have H := Lib.hid h
  clear h
  obtain ⟨n, hn⟩ : ∃ n, blanksP ps = n := ⟨_, rfl⟩
  obtain ⟨ln, hln⟩ : ∃ n, lineP ps = n := ⟨_, rfl⟩
  have hnl : n ≤ ps.length := by rw [← hn]; exact blanks_le
  unfold wordP at hr
  rw [hn] at hr
  obtain ⟨m, hm⟩ : ∃ m, whileP (fun p => !isSp p.cls) ps n = m := ⟨_, rfl⟩
  rw [hm] at hr
  subst hr
  have HN := Lib.hid hn
  have HLN := Lib.hid hln
  have HM := Lib.hid hm
  clear hn hln hm
  go_enter Tryd.func37, Tryd.ntmps37
  go_wp2_with fail
  go_step3
  go_wp2_with fail
  refine (blanks_any w H.out HN.out HLN.out).mono ?_
  rintro e aw ⟨rfl, hb, ak, hr, hk⟩
  have aB := Lib.hid hb
  have aR := Lib.hid hr
  have aK := Lib.hid hk
  clear hb hr hk
  go_wp2_with fail
  go_step3
  go_wp2_with fail
  go_loopw [4] (fun z wr => ∃ (j k : Nat), z = .int .i64 (j : Int) ∧ j ≤ ps.length ∧ Hid (whileP (fun p => !isSp p.cls) ps j = m) ∧ Hid (RdAt wr B q t ps wide k) ∧ k0 ≤ k ∧ Hid (Below q w wr)) (fun z _ => 1001 - (intOf z).toNat)
  case atStart => exact ⟨n, ak, rfl, hnl, HM, aR, aK.out.1, aB⟩
  case round =>
    clear aR aB aK
    obtain ⟨j, k, rfl, hj, HJ, HD, hk, HB⟩ := hrel
    have hj2 : j ≤ 100000 := by omega
    by_cases hl : j < ps.length
    · obtain ⟨p, hp⟩ : ∃ p, ps[j]? = some p := ⟨_, List.getElem?_eq_getElem hl⟩
      obtain ⟨a, b, c, d⟩ := p
      have HP := Lib.hid hp
      have HS := Lib.hid (show spP ps j = isSp b from by unfold spP; rw [hp])
      obtain ⟨o, ho⟩ : ∃ o, isSp b = o := ⟨_, rfl⟩
      rw [ho] at HS
      cases o with
      | true =>
        have HE := Lib.hid (show j = m from by rw [← HJ.out]; exact (while_no hp (by rw [show (!isSp b) = false by rw [ho]; rfl])).symm)
        clear hp ho
        go_wp2_with fail
        refine (at_some wr HD.out hj2 HP.out).mono ?_
        rintro e bw ⟨rfl, hb, bk, hr, hk⟩
        have bB := Lib.hid hb
        have bR := Lib.hid hr
        have bK := Lib.hid hk
        clear hb hr hk
        go_wp2_with fail
        refine (space_any _ (bR.out.alloc _) hj2 HS.out).mono ?_
        rintro e cw ⟨rfl, hb, ck, hr, hk⟩
        have cB := Lib.hid hb
        have cR := Lib.hid hr
        have cK := Lib.hid hk
        clear hb hr hk
        go_wp2_with fail
        go_ret2
        have hjm := HE.out
        subst hjm
        exact ⟨by first | rfl | simp, (balloc (HB.out.trans bB.out) bR.out.size.1 _).trans cB.out, ck, cR.out, by have := bK.out; have := cK.out; omega, by have := cK.out; (try simp only); omega⟩
      | false =>
        have HE := Lib.hid (show whileP (fun p => !isSp p.cls) ps (j + 1) = m from by rw [← HJ.out]; exact (while_yes hp (by rw [show (!isSp b) = true by rw [ho]; rfl])).symm)
        clear hp ho
        go_wp2_with fail
        refine (at_some wr HD.out hj2 HP.out).mono ?_
        rintro e bw ⟨rfl, hb, bk, hr, hk⟩
        have bB := Lib.hid hb
        have bR := Lib.hid hr
        have bK := Lib.hid hk
        clear hb hr hk
        go_wp2_with fail
        refine (space_any _ (bR.out.alloc _) hj2 HS.out).mono ?_
        rintro e cw ⟨rfl, hb, ck, hr, hk⟩
        have cB := Lib.hid hb
        have cR := Lib.hid hr
        have cK := Lib.hid hk
        clear hb hr hk
        go_wp2_with fail
        go_roundw
        case rel => exact ⟨j + 1, ck, by go_num, by omega, HE, cR, by have := bK.out; have := cK.out; omega, Lib.hid ((balloc (HB.out.trans bB.out) bR.out.size.1 _).trans cB.out)⟩
        case measure => simp [intOf]; omega
    · have HP := Lib.hid (show ps[j]? = none from List.getElem?_eq_none (by omega))
      have HE := Lib.hid (show j = m from by rw [← HJ.out]; exact (while_end HP.out).symm)
      go_wp2_with fail
      refine (at_none wr HD.out hj2 HP.out).mono ?_
      rintro e bw ⟨rfl, hb, bk, hr, hk⟩
      have bB := Lib.hid hb
      have bR := Lib.hid hr
      have bK := Lib.hid hk
      clear hb hr hk
      go_wp2_with fail
      go_ret2
      have hjm := HE.out
      subst hjm
      exact ⟨by first | rfl | simp, balloc (HB.out.trans bB.out) bR.out.size.1 _, bk, bR.out.alloc _, by have := bK.out; omega, by have := bK.out; (try simp only); omega⟩
end Go.Proofs.YtkiggpbmlkfdpaaDoor
namespace Go.Proofs.YtkiggpbmlkfdpaaDoor
open Go.RowKit
set_option linter.unusedVariables false

theorem led_le {ps : List Pt} {c : Int} (h0 : 0 < ps.length) : ledP ps c ≤ ps.length := by
  unfold ledP
  split
  · exact (while_le (fun p => p.cls == c) ps 1).2 h0
  · exact (while_le (fun p => p.cls == c) ps 0).2 (Nat.zero_le _)
set_option maxHeartbeats 4000000 in
theorem plain_any {B q k0 : Nat} {t : List Rg} {ps : List Pt} {wide : Bool} (w : World) (h : RdAt w B q t ps wide k0) (hw : wide = false) (h0 : 0 < ps.length) {r : Nat × Nat} (hr : plainP ps = r) :
    Calls Tryd.prog 38 #[.pointer (some ⟨q, 0, none⟩)] w (Ask B q t ps wide k0 r.1 w (.tuple #[.int .i64 (r.1 : Int), .int .i64 (r.2 : Int)])) := by
  subst hw
  have hps := h.size.2.1
  have H := Lib.hid h
  clear h
  obtain ⟨en, he⟩ : ∃ n, endP ps false = n := ⟨_, rfl⟩
  obtain ⟨l1, hl1⟩ : ∃ n, ledP ps 1 = n := ⟨_, rfl⟩
  obtain ⟨l2, hl2⟩ : ∃ n, ledP ps 2 = n := ⟨_, rfl⟩
  obtain ⟨l0, hl0⟩ : ∃ n, ledP ps 0 = n := ⟨_, rfl⟩
  have b1 := led_le (c := 1) h0
  have b2 := led_le (c := 2) h0
  have b0 := led_le (c := 0) h0
  rw [hl1] at b1
  rw [hl2] at b2
  rw [hl0] at b0
  unfold plainP at hr
  rw [he, hl1, hl2, hl0] at hr
  have HE := Lib.hid he
  have H1 := Lib.hid hl1
  have H2 := Lib.hid hl2
  have H0 := Lib.hid hl0
  clear he hl1 hl2 hl0
  have i0 : ∀ w, (Instr.index 88 (.agg #[.int .i64 1, .int .i64 2, .int .i64 0]) (.int .i64 0)).run Tryd.prog w = .ok (.int .i64 1) w := fun _ => by kernel_rfl
  have i1 : ∀ w, (Instr.index 88 (.agg #[.int .i64 1, .int .i64 2, .int .i64 0]) (.int .i64 1)).run Tryd.prog w = .ok (.int .i64 2) w := fun _ => by kernel_rfl
  have i2 : ∀ w, (Instr.index 88 (.agg #[.int .i64 1, .int .i64 2, .int .i64 0]) (.int .i64 2)).run Tryd.prog w = .ok (.int .i64 0) w := fun _ => by kernel_rfl
  go_enter Tryd.func38, Tryd.ntmps38
  go_wp2_with fail
  refine (ending_any w H.out HE.out).mono ?_
  rintro e aw ⟨rfl, hb, ak, hr, hk⟩
  have aB := Lib.hid hb
  have aR := Lib.hid hr
  have aK := Lib.hid hk
  clear hb hr hk
  by_cases g : 0 < en
  · rw [if_pos g] at hr
    subst hr
    have g' : (0 : Int) < (en : Int) := by omega
    go_wp2_with fail
    go_ret2
    exact ⟨rfl, aB.out, ak, aR.out, aK.out.1, aK.out.2⟩
  · rw [if_neg g] at hr
    have g' : ¬ (0 : Int) < (en : Int) := by omega
    have g'' : decide (0 < en) = false := decide_eq_false g
    have HR := Lib.hid hr
    clear hr g
    go_wp2_with fail
    go_loopw [15] (fun z wr => ∃ (j k : Nat), z = .int .i64 (j : Int) ∧ j ≤ 3 ∧ Hid ((0 < j → l1 = 0) ∧ (1 < j → l2 = 0) ∧ (2 < j → l0 = 0)) ∧ Hid (RdAt wr B q t ps false k) ∧ k0 ≤ k ∧ Hid (Below q w wr)) (fun z _ => 3 - (intOf z).toNat)
    case atStart => exact ⟨0, ak, rfl, by omega, Lib.hid (by omega), aR, aK.out.1, aB⟩
    case round =>
      clear aR aB aK
      obtain ⟨j, k, rfl, hj, HJ, HD, hk, HB⟩ := hrel
      rcases (by omega : j = 0 ∨ j = 1 ∨ j = 2 ∨ j = 3) with hjj | hjj | hjj | hjj
      · have ij : ∀ w, (Instr.index 88 (.agg #[.int .i64 1, .int .i64 2, .int .i64 0]) (.int .i64 (j : Int))).run Tryd.prog w = .ok (.int .i64 1) w := by rw [hjj]; exact i0
        have hj3 : (j : Int) < 3 := by omega
        have HJJ := Lib.hid hjj
        clear hjj
        by_cases gl : 0 < l1
        · have HRR := Lib.hid (show r = (l1, l1 + 1) from by
            have hr := HR.out
            rw [if_pos gl] at hr
            exact hr.symm)
          have gl' : (0 : Int) < (l1 : Int) := by omega
          go_wp2_with fail
          refine (led_any 1 wr HD.out h0 H1.out).mono ?_
          rintro e bw ⟨rfl, hb, bk, hr, hk⟩
          have bB := Lib.hid hb
          have bR := Lib.hid hr
          have bK := Lib.hid hk
          clear hb hr hk
          go_wp2_with fail
          go_ret2
          rw [HRR.out]
          exact ⟨by first | rfl | simp, HB.out.trans bB.out, bk, bR.out, by have := bK.out; omega, bK.out.2⟩
        · have gl' : ¬ (0 : Int) < (l1 : Int) := by omega
          go_wp2_with fail
          refine (led_any 1 wr HD.out h0 H1.out).mono ?_
          rintro e bw ⟨rfl, hb, bk, hr, hk⟩
          have bB := Lib.hid hb
          have bR := Lib.hid hr
          have bK := Lib.hid hk
          clear hb hr hk
          go_wp2_with fail
          go_roundw
          case rel => exact ⟨j + 1, bk, by go_num, by omega, Lib.hid (by have := HJ.out; have := HJJ.out; omega), bR, by have := bK.out; omega, Lib.hid (HB.out.trans bB.out)⟩
          case measure => first | (simp [intOf]; omega) | simp [intOf]
      · have ij : ∀ w, (Instr.index 88 (.agg #[.int .i64 1, .int .i64 2, .int .i64 0]) (.int .i64 (j : Int))).run Tryd.prog w = .ok (.int .i64 2) w := by rw [hjj]; exact i1
        have hj3 : (j : Int) < 3 := by omega
        have HJJ := Lib.hid hjj
        clear hjj
        by_cases gl : 0 < l2
        · have HRR := Lib.hid (show r = (l2, l2 + 1) from by
            have hr := HR.out
            have e1 := HJ.out.1 (by have := HJJ.out; omega)
            rw [if_neg (show ¬ 0 < l1 by omega), if_pos gl] at hr
            exact hr.symm)
          have gl' : (0 : Int) < (l2 : Int) := by omega
          go_wp2_with fail
          refine (led_any 2 wr HD.out h0 H2.out).mono ?_
          rintro e bw ⟨rfl, hb, bk, hr, hk⟩
          have bB := Lib.hid hb
          have bR := Lib.hid hr
          have bK := Lib.hid hk
          clear hb hr hk
          go_wp2_with fail
          go_ret2
          rw [HRR.out]
          exact ⟨by first | rfl | simp, HB.out.trans bB.out, bk, bR.out, by have := bK.out; omega, bK.out.2⟩
        · have gl' : ¬ (0 : Int) < (l2 : Int) := by omega
          go_wp2_with fail
          refine (led_any 2 wr HD.out h0 H2.out).mono ?_
          rintro e bw ⟨rfl, hb, bk, hr, hk⟩
          have bB := Lib.hid hb
          have bR := Lib.hid hr
          have bK := Lib.hid hk
          clear hb hr hk
          go_wp2_with fail
          go_roundw
          case rel => exact ⟨j + 1, bk, by go_num, by omega, Lib.hid (by have := HJ.out; have := HJJ.out; omega), bR, by have := bK.out; omega, Lib.hid (HB.out.trans bB.out)⟩
          case measure => first | (simp [intOf]; omega) | simp [intOf]
      · have ij : ∀ w, (Instr.index 88 (.agg #[.int .i64 1, .int .i64 2, .int .i64 0]) (.int .i64 (j : Int))).run Tryd.prog w = .ok (.int .i64 0) w := by rw [hjj]; exact i2
        have hj3 : (j : Int) < 3 := by omega
        have HJJ := Lib.hid hjj
        clear hjj
        by_cases gl : 0 < l0
        · have HRR := Lib.hid (show r = (l0, l0 + 1) from by
            have hr := HR.out
            have e1 := HJ.out.1 (by have := HJJ.out; omega)
            have e2 := HJ.out.2.1 (by have := HJJ.out; omega)
            rw [if_neg (show ¬ 0 < l1 by omega), if_neg (show ¬ 0 < l2 by omega), if_pos gl] at hr
            exact hr.symm)
          have gl' : (0 : Int) < (l0 : Int) := by omega
          go_wp2_with fail
          refine (led_any 0 wr HD.out h0 H0.out).mono ?_
          rintro e bw ⟨rfl, hb, bk, hr, hk⟩
          have bB := Lib.hid hb
          have bR := Lib.hid hr
          have bK := Lib.hid hk
          clear hb hr hk
          go_wp2_with fail
          go_ret2
          rw [HRR.out]
          exact ⟨by first | rfl | simp, HB.out.trans bB.out, bk, bR.out, by have := bK.out; omega, bK.out.2⟩
        · have gl' : ¬ (0 : Int) < (l0 : Int) := by omega
          go_wp2_with fail
          refine (led_any 0 wr HD.out h0 H0.out).mono ?_
          rintro e bw ⟨rfl, hb, bk, hr, hk⟩
          have bB := Lib.hid hb
          have bR := Lib.hid hr
          have bK := Lib.hid hk
          clear hb hr hk
          go_wp2_with fail
          go_roundw
          case rel => exact ⟨j + 1, bk, by go_num, by omega, Lib.hid (by have := HJ.out; have := HJJ.out; omega), bR, by have := bK.out; omega, Lib.hid (HB.out.trans bB.out)⟩
          case measure => first | (simp [intOf]; omega) | simp [intOf]
      · have hj3 : ¬ (j : Int) < 3 := by omega
        have HRR := Lib.hid (show spacesP ps = r from by
          have hr := HR.out
          have e1 := HJ.out.1 (by omega)
          have e2 := HJ.out.2.1 (by omega)
          have e3 := HJ.out.2.2 (by omega)
          rw [if_neg (show ¬ 0 < l1 by omega), if_neg (show ¬ 0 < l2 by omega), if_neg (show ¬ 0 < l0 by omega)] at hr
          exact hr)
        clear hjj
        go_wp2_with fail
        refine (spaces_any wr HD.out HRR.out).mono ?_
        rintro e bw ⟨rfl, hb, bk, hr, hk⟩
        have bB := Lib.hid hb
        have bR := Lib.hid hr
        have bK := Lib.hid hk
        clear hb hr hk
        go_wp2_with fail
        go_ret2
        exact ⟨by first | rfl | simp, HB.out.trans bB.out, bk, bR.out, by have := bK.out; omega, bK.out.2⟩
set_option maxHeartbeats 4000000 in
theorem broad_any {B q k0 : Nat} {t : List Rg} {ps : List Pt} {wide : Bool} (w : World) (h : RdAt w B q t ps wide k0) (hw : wide = true) (h0 : 0 < ps.length) {r : Nat × Nat} (hr : broadP ps = r) :
    Calls Tryd.prog 39 #[.pointer (some ⟨q, 0, none⟩)] w (Ask B q t ps wide k0 r.1 w (.tuple #[.int .i64 (r.1 : Int), .int .i64 (r.2 : Int)])) := by
  subst hw
  have hps := h.size.2.1
  have H := Lib.hid h
  clear h
  obtain ⟨en, he⟩ : ∃ n, endP ps true = n := ⟨_, rfl⟩
  obtain ⟨r1, hr1⟩ : ∃ n, runP ps 0 1 = n := ⟨_, rfl⟩
  obtain ⟨ld, hld⟩ : ∃ n, leadsP ps = n := ⟨_, rfl⟩
  obtain ⟨o1, ho1⟩ : ∃ n, isP ps 1 1 = n := ⟨_, rfl⟩
  obtain ⟨r2, hr2⟩ : ∃ n, runP ps 1 1 = n := ⟨_, rfl⟩
  obtain ⟨nm, hnm⟩ : ∃ n, numsP ps = n := ⟨_, rfl⟩
  obtain ⟨l0, hl0⟩ : ∃ n, ledP ps 0 = n := ⟨_, rfl⟩
  obtain ⟨r4, hr4⟩ : ∃ n, runP ps l0 4 = n := ⟨_, rfl⟩
  obtain ⟨bl, hbl⟩ : ∃ n, blanksP ps = n := ⟨_, rfl⟩
  obtain ⟨ln, hln⟩ : ∃ n, lineP ps = n := ⟨_, rfl⟩
  have b0 := led_le (c := 0) h0
  rw [hl0] at b0
  have br1 := (run_le (c := 1) (ps := ps) (i := 0) (by omega) hps).2
  have br2 := (run_le (c := 1) (ps := ps) (i := 1) (by omega) hps).2
  have br4 := (run_le (c := 4) (ps := ps) (i := l0) (by omega) hps).2
  rw [hr1] at br1
  rw [hr2] at br2
  rw [hr4] at br4
  have bbl := blanks_le (ps := ps)
  rw [hbl] at bbl
  have hnm3 : nm ≤ 3 := by rw [← hnm]; unfold numsP; omega
  unfold broadP at hr
  rw [he, hr1, hld, ho1, hr2, hnm, hl0, hr4, hbl, hln] at hr
  have HE := Lib.hid he
  have HR1 := Lib.hid hr1
  have HLD := Lib.hid hld
  have HO1 := Lib.hid ho1
  have HR2 := Lib.hid hr2
  have HNM := Lib.hid (show min 3 (runP ps 0 2) = nm from hnm)
  have HL0 := Lib.hid hl0
  have HR4 := Lib.hid hr4
  have HBL := Lib.hid hbl
  have HLN := Lib.hid hln
  clear he hr1 hld ho1 hr2 hnm hl0 hr4 hbl hln
  go_enter Tryd.func39, Tryd.ntmps39
  go_wp2_with fail
  refine (ending_any w H.out HE.out).mono ?_
  rintro e aw ⟨rfl, hb, ak, hr, hk⟩
  have aB := Lib.hid hb
  have aR := Lib.hid hr
  have aK := Lib.hid hk
  clear hb hr hk
  by_cases g1 : 0 < en
  · rw [if_pos g1] at hr
    subst hr
    have g1' : (0 : Int) < (en : Int) := by omega
    go_wp2_with fail
    go_ret2
    exact ⟨rfl, aB.out, ak, aR.out, aK.out.1, aK.out.2⟩
  rw [if_neg g1] at hr
  have g1' : ¬ (0 : Int) < (en : Int) := by omega
  have g1'' : decide (0 < en) = false := decide_eq_false g1
  clear g1
  go_wp2_with fail
  refine (run_any (i := 0) 1 aw aR.out (by omega) HR1.out).mono ?_
  rintro e bw ⟨rfl, hb, bk, hr, hk⟩
  have bB := Lib.hid hb
  have bR := Lib.hid hr
  have bK := Lib.hid hk
  clear hb hr hk
  have BB := Lib.hid (aB.out.trans bB.out)
  have KB := Lib.hid (show k0 ≤ bk from by have := aK.out; have := bK.out; omega)
  by_cases g2 : 0 < r1
  · rw [if_pos g2] at hr
    subst hr
    have g2' : (0 : Int) < (r1 : Int) := by omega
    go_wp2_with fail
    go_ret2
    exact ⟨by first | rfl | simp, BB.out, bk, bR.out, KB.out, by have := bK.out; (try simp only); omega⟩
  rw [if_neg g2] at hr
  have g2' : ¬ (0 : Int) < (r1 : Int) := by omega
  have g2'' : decide (0 < r1) = false := decide_eq_false g2
  clear g2
  have HR := Lib.hid hr
  clear hr aB aR aK bB bK
  have TAIL : ∀ (cw : World) (ck : Nat), RdAt cw B q t ps true ck → k0 ≤ ck → Below q w cw → ¬ (ld = true ∧ o1 = true) → True := fun _ _ _ _ _ _ => trivial
  clear TAIL
  go_wp2_with fail
  refine (leads_any bw bR.out h0 HLD.out).mono ?_
  rintro e cw ⟨rfl, hb, ck, hr, hk⟩
  have cB := Lib.hid hb
  have cR := Lib.hid hr
  have cK := Lib.hid hk
  clear hb hr hk
  have BC := Lib.hid (BB.out.trans cB.out)
  have KC := Lib.hid (show k0 ≤ ck from by have := KB.out; have := cK.out; omega)
  clear cB cK BB KB bR
  cases ld with
  | true =>
    go_wp2_with fail
    refine (is_any (i := 1) 1 cw cR.out (by omega) HO1.out).mono ?_
    rintro e dw ⟨rfl, hb, dk, hr, hk⟩
    have dB := Lib.hid hb
    have dR := Lib.hid hr
    have dK := Lib.hid hk
    clear hb hr hk
    have BD := Lib.hid (BC.out.trans dB.out)
    have KD := Lib.hid (show k0 ≤ dk from by have := KC.out; have := dK.out; omega)
    clear dB dK BC KC cR
    cases o1 with
    | true =>
      have HRR := Lib.hid (show r = (r2, r2 + 1) from by have hr := HR.out; rw [if_pos (by first | exact ⟨rfl, rfl⟩ | simp)] at hr; exact hr.symm)
      go_wp2_with fail
      refine (run_any (i := 1) 1 dw dR.out (by omega) HR2.out).mono ?_
      rintro e fw ⟨rfl, hb, fk, hr, hk⟩
      have fB := Lib.hid hb
      have fR := Lib.hid hr
      have fK := Lib.hid hk
      clear hb hr hk
      go_wp2_with fail
      go_ret2
      rw [HRR.out]
      exact ⟨by first | rfl | simp, BD.out.trans fB.out, fk, fR.out, by have := KD.out; have := fK.out; omega, by have := fK.out; (try simp only); omega⟩
    | false =>
      have HRQ := Lib.hid HR.out
      rw [if_neg (by intro e; cases e.2)] at HRQ
      clear HR
      go_wp2_with fail
      go_loopw [7] (fun z wr => ∃ (j k : Nat), z = .int .i64 (j : Int) ∧ j ≤ 3 ∧ Hid (min 3 (runP ps j 2) = nm) ∧ Hid (RdAt wr B q t ps true k) ∧ k0 ≤ k ∧ min j ps.length ≤ k ∧ Hid (Below q w wr)) (fun z _ => 3 - (intOf z).toNat)
      case atStart => exact ⟨0, dk, by first | rfl | trivial, by omega, HNM, dR, KD.out, by omega, BD⟩
      case round =>
        clear dR BD KD
        obtain ⟨j, k, rfl, hj, HJ, HD, hk, hjk, HB⟩ := hrel
        have FIN : (3 ≤ j ∨ isP ps j 2 = false) → j = nm := by
          intro hx
          have h1 := (while_le (fun p => p.cls == 2) ps j).1
          have h2 := HJ.out
          unfold runP at h2
          rcases hx with hx | hx
          · omega
          · have h3 := is_false hx
            unfold runP at h3
            omega
        have HFIN := Lib.hid FIN
        clear FIN
        by_cases hj3 : j < 3
        · have hj3' : (j : Int) < 3 := by omega
          have hj2 : j ≤ 100000 := by omega
          cases ho : isP ps j 2 with
          | true =>
            have HT := Lib.hid (is_true ho)
            have HO := Lib.hid ho
            clear ho
            go_wp2_with fail
            refine (is_any 2 wr HD.out hj2 HO.out).mono ?_
            rintro e pw ⟨rfl, hb, pk, hr, hk⟩
            have pB := Lib.hid hb
            have pR := Lib.hid hr
            have pK := Lib.hid hk
            clear hb hr hk
            go_wp2_with fail
            go_roundw
            case rel => exact ⟨j + 1, pk, by go_num, by omega, Lib.hid (by rw [← HT.out.2]; exact HJ.out), pR, by have := pK.out; omega, by have := pK.out; omega, Lib.hid (HB.out.trans pB.out)⟩
            case measure => first | (simp [intOf]; omega) | simp [intOf]
          | false =>
            have HJN := Lib.hid (HFIN.out (.inr ho))
            have HO := Lib.hid ho
            clear ho HFIN
            go_wp2_with fail
            refine (is_any 2 wr HD.out hj2 HO.out).mono ?_
            rintro e pw ⟨rfl, hb, pk, hr, hk⟩
            have pB := Lib.hid hb
            have pR := Lib.hid hr
            have pK := Lib.hid hk
            clear hb hr hk
            have BP := Lib.hid (HB.out.trans pB.out)
            have KP := Lib.hid (show k0 ≤ pk from by have := pK.out; omega)
            have JP := Lib.hid (show min j ps.length ≤ pk from by have := pK.out; omega)
            clear pB pK HB HD
            have hjn := HJN.out
            subst hjn
            clear HJN
            by_cases g3 : 0 < j
            · have HRR := Lib.hid (show r = (j, min (j + 1) 3) from by have hr := HRQ.out; rw [if_pos g3] at hr; exact hr.symm)
              have g3' : (0 : Int) < (j : Int) := by omega
              obtain ⟨m3, hm3⟩ : ∃ m, min (j + 1) 3 = m := ⟨_, rfl⟩
              have hmi : min ((j : Int) + 1) 3 = (m3 : Int) := by omega
              rw [hm3] at HRR
              clear hm3
              go_wp2_with fail
              go_ret2
              rw [HRR.out]
              exact ⟨by first | rfl | simp, BP.out, pk, pR.out, KP.out, JP.out⟩
            have g3' : ¬ (0 : Int) < (j : Int) := by omega
            have HRS := Lib.hid HRQ.out
            rw [if_neg g3] at HRS
            clear HRQ g3
            go_wp2_with fail
            refine (led_any 0 pw pR.out h0 HL0.out).mono ?_
            rintro e sw ⟨rfl, hb, sk, hr, hk⟩
            have sB := Lib.hid hb
            have sR := Lib.hid hr
            have sK := Lib.hid hk
            clear hb hr hk
            have BS := Lib.hid (BP.out.trans sB.out)
            have KS := Lib.hid (show k0 ≤ sk from by have := KP.out; have := sK.out; omega)
            clear sB sK BP KP JP pR
            by_cases g4 : 0 < l0
            · have HRR := Lib.hid (show r = (r4, r4 + 1) from by have hr := HRS.out; rw [if_pos g4] at hr; exact hr.symm)
              have g4' : (0 : Int) < (l0 : Int) := by omega
              go_wp2_with fail
              refine (run_any (i := l0) 4 sw sR.out (by omega) HR4.out).mono ?_
              rintro e uw ⟨rfl, hb, uk, hr, hk⟩
              have uB := Lib.hid hb
              have uR := Lib.hid hr
              have uK := Lib.hid hk
              clear hb hr hk
              go_wp2_with fail
              go_ret2
              rw [HRR.out]
              exact ⟨by first | rfl | simp, BS.out.trans uB.out, uk, uR.out, by have := KS.out; have := uK.out; omega, by have := uK.out; (try simp only); omega⟩
            have g4' : ¬ (0 : Int) < (l0 : Int) := by omega
            have HRT := Lib.hid HRS.out
            rw [if_neg g4] at HRT
            clear HRS g4
            go_wp2_with fail
            refine (blanks_any sw sR.out HBL.out HLN.out).mono ?_
            rintro e uw ⟨rfl, hb, uk, hr, hk⟩
            have uB := Lib.hid hb
            have uR := Lib.hid hr
            have uK := Lib.hid hk
            clear hb hr hk
            have BU := Lib.hid (BS.out.trans uB.out)
            have KU := Lib.hid (show k0 ≤ uk ∧ min (bl + 1) ps.length ≤ uk from by have := KS.out; have := uK.out; omega)
            clear uB uK BS KS sR
            by_cases g5 : 0 < ln
            · have HRR := Lib.hid (show r = (ln, bl + 1) from by have hr := HRT.out; rw [if_pos g5] at hr; exact hr.symm)
              have g5' : (0 : Int) < (ln : Int) := by omega
              have HLL := Lib.hid (show ln ≤ bl from by
                have h1 : ∀ m, lineF ps m ≤ m := by
                  intro m
                  induction m with
                  | zero => exact Nat.le_refl _
                  | succ m ih => rw [lineF]; split <;> omega
                have h2 := h1 (blanksP ps)
                have h3 : lineF ps (blanksP ps) = ln := HLN.out
                rw [h3, HBL.out] at h2
                exact h2)
              go_wp2_with fail
              go_ret2
              rw [HRR.out]
              exact ⟨by first | rfl | simp, BU.out, uk, uR.out, KU.out.1, by have := KU.out; have := HLL.out; (try simp only); omega⟩
            have g5' : ¬ (0 : Int) < (ln : Int) := by omega
            have HRU := Lib.hid HRT.out
            rw [if_neg g5] at HRU
            clear HRT g5
            go_wp2_with fail
            refine (spaces_any uw uR.out HRU.out).mono ?_
            rintro e vw ⟨rfl, hb, vk, hr, hk⟩
            have vB := Lib.hid hb
            have vR := Lib.hid hr
            have vK := Lib.hid hk
            clear hb hr hk
            go_wp2_with fail
            go_ret2
            exact ⟨by first | rfl | simp, BU.out.trans vB.out, vk, vR.out, by have := KU.out; have := vK.out; omega, vK.out.2⟩
        · have hj3' : ¬ (j : Int) < 3 := by omega
          have HJN := Lib.hid (HFIN.out (.inl (by omega)))
          obtain ⟨pw, hpw⟩ : ∃ pw, pw = wr := ⟨_, rfl⟩
          obtain ⟨pk, hpk⟩ : ∃ pk, pk = k := ⟨_, rfl⟩
          have pR := HD
          have BP := HB
          have KP := Lib.hid hk
          have JP := Lib.hid hjk
          rw [← hpw] at pR BP
          rw [← hpk] at pR KP JP
          rw [← hpw]
          clear HFIN hpw hpk HB HD
          have hjn := HJN.out
          subst hjn
          clear HJN
          have g3 : 0 < j := by omega
          have HRR := Lib.hid (show r = (j, min (j + 1) 3) from by have hr := HRQ.out; rw [if_pos g3] at hr; exact hr.symm)
          have g3' : (0 : Int) < (j : Int) := by omega
          obtain ⟨m3, hm3⟩ : ∃ m, min (j + 1) 3 = m := ⟨_, rfl⟩
          have hmi : min ((j : Int) + 1) 3 = (m3 : Int) := by omega
          rw [hm3] at HRR
          clear hm3
          go_wp2_with fail
          go_ret2
          rw [HRR.out]
          exact ⟨by first | rfl | simp, BP.out, pk, pR.out, KP.out, JP.out⟩
  | false =>
    have HRQ := Lib.hid HR.out
    rw [if_neg (by intro e; cases e.1)] at HRQ
    clear HR
    go_wp2_with fail
    go_loopw [7] (fun z wr => ∃ (j k : Nat), z = .int .i64 (j : Int) ∧ j ≤ 3 ∧ Hid (min 3 (runP ps j 2) = nm) ∧ Hid (RdAt wr B q t ps true k) ∧ k0 ≤ k ∧ min j ps.length ≤ k ∧ Hid (Below q w wr)) (fun z _ => 3 - (intOf z).toNat)
    case atStart => exact ⟨0, ck, by first | rfl | trivial, by omega, HNM, cR, KC.out, by omega, BC⟩
    case round =>
      clear cR BC KC
      obtain ⟨j, k, rfl, hj, HJ, HD, hk, hjk, HB⟩ := hrel
      have FIN : (3 ≤ j ∨ isP ps j 2 = false) → j = nm := by
        intro hx
        have h1 := (while_le (fun p => p.cls == 2) ps j).1
        have h2 := HJ.out
        unfold runP at h2
        rcases hx with hx | hx
        · omega
        · have h3 := is_false hx
          unfold runP at h3
          omega
      have HFIN := Lib.hid FIN
      clear FIN
      by_cases hj3 : j < 3
      · have hj3' : (j : Int) < 3 := by omega
        have hj2 : j ≤ 100000 := by omega
        cases ho : isP ps j 2 with
        | true =>
          have HT := Lib.hid (is_true ho)
          have HO := Lib.hid ho
          clear ho
          go_wp2_with fail
          refine (is_any 2 wr HD.out hj2 HO.out).mono ?_
          rintro e pw ⟨rfl, hb, pk, hr, hk⟩
          have pB := Lib.hid hb
          have pR := Lib.hid hr
          have pK := Lib.hid hk
          clear hb hr hk
          go_wp2_with fail
          go_roundw
          case rel => exact ⟨j + 1, pk, by go_num, by omega, Lib.hid (by rw [← HT.out.2]; exact HJ.out), pR, by have := pK.out; omega, by have := pK.out; omega, Lib.hid (HB.out.trans pB.out)⟩
          case measure => first | (simp [intOf]; omega) | simp [intOf]
        | false =>
          have HJN := Lib.hid (HFIN.out (.inr ho))
          have HO := Lib.hid ho
          clear ho HFIN
          go_wp2_with fail
          refine (is_any 2 wr HD.out hj2 HO.out).mono ?_
          rintro e pw ⟨rfl, hb, pk, hr, hk⟩
          have pB := Lib.hid hb
          have pR := Lib.hid hr
          have pK := Lib.hid hk
          clear hb hr hk
          have BP := Lib.hid (HB.out.trans pB.out)
          have KP := Lib.hid (show k0 ≤ pk from by have := pK.out; omega)
          have JP := Lib.hid (show min j ps.length ≤ pk from by have := pK.out; omega)
          clear pB pK HB HD
          have hjn := HJN.out
          subst hjn
          clear HJN
          by_cases g3 : 0 < j
          · have HRR := Lib.hid (show r = (j, min (j + 1) 3) from by have hr := HRQ.out; rw [if_pos g3] at hr; exact hr.symm)
            have g3' : (0 : Int) < (j : Int) := by omega
            obtain ⟨m3, hm3⟩ : ∃ m, min (j + 1) 3 = m := ⟨_, rfl⟩
            have hmi : min ((j : Int) + 1) 3 = (m3 : Int) := by omega
            rw [hm3] at HRR
            clear hm3
            go_wp2_with fail
            go_ret2
            rw [HRR.out]
            exact ⟨by first | rfl | simp, BP.out, pk, pR.out, KP.out, JP.out⟩
          have g3' : ¬ (0 : Int) < (j : Int) := by omega
          have HRS := Lib.hid HRQ.out
          rw [if_neg g3] at HRS
          clear HRQ g3
          go_wp2_with fail
          refine (led_any 0 pw pR.out h0 HL0.out).mono ?_
          rintro e sw ⟨rfl, hb, sk, hr, hk⟩
          have sB := Lib.hid hb
          have sR := Lib.hid hr
          have sK := Lib.hid hk
          clear hb hr hk
          have BS := Lib.hid (BP.out.trans sB.out)
          have KS := Lib.hid (show k0 ≤ sk from by have := KP.out; have := sK.out; omega)
          clear sB sK BP KP JP pR
          by_cases g4 : 0 < l0
          · have HRR := Lib.hid (show r = (r4, r4 + 1) from by have hr := HRS.out; rw [if_pos g4] at hr; exact hr.symm)
            have g4' : (0 : Int) < (l0 : Int) := by omega
            go_wp2_with fail
            refine (run_any (i := l0) 4 sw sR.out (by omega) HR4.out).mono ?_
            rintro e uw ⟨rfl, hb, uk, hr, hk⟩
            have uB := Lib.hid hb
            have uR := Lib.hid hr
            have uK := Lib.hid hk
            clear hb hr hk
            go_wp2_with fail
            go_ret2
            rw [HRR.out]
            exact ⟨by first | rfl | simp, BS.out.trans uB.out, uk, uR.out, by have := KS.out; have := uK.out; omega, by have := uK.out; (try simp only); omega⟩
          have g4' : ¬ (0 : Int) < (l0 : Int) := by omega
          have HRT := Lib.hid HRS.out
          rw [if_neg g4] at HRT
          clear HRS g4
          go_wp2_with fail
          refine (blanks_any sw sR.out HBL.out HLN.out).mono ?_
          rintro e uw ⟨rfl, hb, uk, hr, hk⟩
          have uB := Lib.hid hb
          have uR := Lib.hid hr
          have uK := Lib.hid hk
          clear hb hr hk
          have BU := Lib.hid (BS.out.trans uB.out)
          have KU := Lib.hid (show k0 ≤ uk ∧ min (bl + 1) ps.length ≤ uk from by have := KS.out; have := uK.out; omega)
          clear uB uK BS KS sR
          by_cases g5 : 0 < ln
          · have HRR := Lib.hid (show r = (ln, bl + 1) from by have hr := HRT.out; rw [if_pos g5] at hr; exact hr.symm)
            have g5' : (0 : Int) < (ln : Int) := by omega
            have HLL := Lib.hid (show ln ≤ bl from by
              have h1 : ∀ m, lineF ps m ≤ m := by
                intro m
                induction m with
                | zero => exact Nat.le_refl _
                | succ m ih => rw [lineF]; split <;> omega
              have h2 := h1 (blanksP ps)
              have h3 : lineF ps (blanksP ps) = ln := HLN.out
              rw [h3, HBL.out] at h2
              exact h2)
            go_wp2_with fail
            go_ret2
            rw [HRR.out]
            exact ⟨by first | rfl | simp, BU.out, uk, uR.out, KU.out.1, by have := KU.out; have := HLL.out; (try simp only); omega⟩
          have g5' : ¬ (0 : Int) < (ln : Int) := by omega
          have HRU := Lib.hid HRT.out
          rw [if_neg g5] at HRU
          clear HRT g5
          go_wp2_with fail
          refine (spaces_any uw uR.out HRU.out).mono ?_
          rintro e vw ⟨rfl, hb, vk, hr, hk⟩
          have vB := Lib.hid hb
          have vR := Lib.hid hr
          have vK := Lib.hid hk
          clear hb hr hk
          go_wp2_with fail
          go_ret2
          exact ⟨by first | rfl | simp, BU.out.trans vB.out, vk, vR.out, by have := KU.out; have := vK.out; omega, vK.out.2⟩
      · have hj3' : ¬ (j : Int) < 3 := by omega
        have HJN := Lib.hid (HFIN.out (.inl (by omega)))
        obtain ⟨pw, hpw⟩ : ∃ pw, pw = wr := ⟨_, rfl⟩
        obtain ⟨pk, hpk⟩ : ∃ pk, pk = k := ⟨_, rfl⟩
        have pR := HD
        have BP := HB
        have KP := Lib.hid hk
        have JP := Lib.hid hjk
        rw [← hpw] at pR BP
        rw [← hpk] at pR KP JP
        rw [← hpw]
        clear HFIN hpw hpk HB HD
        have hjn := HJN.out
        subst hjn
        clear HJN
        have g3 : 0 < j := by omega
        have HRR := Lib.hid (show r = (j, min (j + 1) 3) from by have hr := HRQ.out; rw [if_pos g3] at hr; exact hr.symm)
        have g3' : (0 : Int) < (j : Int) := by omega
        obtain ⟨m3, hm3⟩ : ∃ m, min (j + 1) 3 = m := ⟨_, rfl⟩
        have hmi : min ((j : Int) + 1) 3 = (m3 : Int) := by omega
        rw [hm3] at HRR
        clear hm3
        go_wp2_with fail
        go_ret2
        rw [HRR.out]
        exact ⟨by first | rfl | simp, BP.out, pk, pR.out, KP.out, JP.out⟩
end Go.Proofs.YtkiggpbmlkfdpaaDoor
