/- The walks of scan's led, spaces, leads, blank, plain, broad: how a piece is cut. -/
import Derived.Test.YtkiggpbmlkfdpaaDoorScanEnd
import Derived.WalkMore
namespace Go.Proofs.YtkiggpbmlkfdpaaDoor
open Go.RowKit
set_option linter.unusedVariables false

theorem first_pt {ps : List Pt} (h : 0 < ps.length) : ∃ a b c d, ps[0]? = some ⟨a, b, c, d⟩ ∧ codeAt ps 0 = a ∧ clsAt ps 0 = b := by
  obtain ⟨p, hp⟩ : ∃ p, ps[0]? = some p := ⟨_, List.getElem?_eq_getElem h⟩
  obtain ⟨a, b, c, d⟩ := p
  refine ⟨a, b, c, d, hp, ?_, ?_⟩
  · unfold codeAt; rw [hp]
  · unfold clsAt; rw [hp]
set_option maxHeartbeats 2000000 in
theorem led_any {B q k0 : Nat} {t : List Rg} {ps : List Pt} {wide : Bool} (c : Int) (w : World) (h : RdAt w B q t ps wide k0) (h0 : 0 < ps.length) {r : Nat} (hr : ledP ps c = r) :
    Calls Tryd.prog 56 #[.pointer (some ⟨q, 0, none⟩), .int .i64 c] w (Ask B q t ps wide k0 r w (.int .i64 (r : Int))) := by
  have H := Lib.hid h
  clear h
  obtain ⟨a, b, n, d, hp, hc, -⟩ := first_pt h0
  have HP := Lib.hid hp
  unfold ledP at hr
  rw [hc] at hr
  clear hp hc
  by_cases ha : a = 32
  · subst ha
    obtain ⟨o, ho⟩ : ∃ o, isP ps 1 c = o := ⟨_, rfl⟩
    rw [ho] at hr
    have HO := Lib.hid ho
    clear ho
    cases o with
    | true =>
      rw [if_pos ⟨rfl, rfl⟩] at hr
      have HR := Lib.hid hr
      clear hr
      go_enter Tryd.func56, Tryd.ntmps56
      go_wp2_with fail
      refine (at_some (i := 0) w H.out (by omega) HP.out).mono ?_
      rintro e aw ⟨rfl, hb, ak, hr, hk⟩
      have aB := Lib.hid hb
      have aR := Lib.hid hr
      have aK := Lib.hid hk
      clear hb hr hk
      go_wp2_with fail
      refine (is_any (i := 1) c _ (aR.out.alloc _) (by omega) HO.out).mono ?_
      rintro e bw ⟨rfl, hb, bk, hr, hk⟩
      have bB := Lib.hid hb
      have bR := Lib.hid hr
      have bK := Lib.hid hk
      clear hb hr hk
      go_wp2_with fail
      refine (run_any (i := 1) c _ bR.out (by omega) HR.out).mono ?_
      rintro e cw ⟨rfl, hb, ck, hr, hk⟩
      have cB := Lib.hid hb
      have cR := Lib.hid hr
      have cK := Lib.hid hk
      clear hb hr hk
      go_wp2_with fail
      go_ret
      exact ⟨rfl, ((balloc aB.out aR.out.size.1 _).trans bB.out).trans cB.out, ck, cR.out, by have := aK.out; have := bK.out; have := cK.out; omega, by have := cK.out; omega⟩
    | false =>
      rw [if_neg (by intro e; cases e.2)] at hr
      have HR := Lib.hid hr
      clear hr
      go_enter Tryd.func56, Tryd.ntmps56
      go_wp2_with fail
      refine (at_some (i := 0) w H.out (by omega) HP.out).mono ?_
      rintro e aw ⟨rfl, hb, ak, hr, hk⟩
      have aB := Lib.hid hb
      have aR := Lib.hid hr
      have aK := Lib.hid hk
      clear hb hr hk
      go_wp2_with fail
      refine (is_any (i := 1) c _ (aR.out.alloc _) (by omega) HO.out).mono ?_
      rintro e bw ⟨rfl, hb, bk, hr, hk⟩
      have bB := Lib.hid hb
      have bR := Lib.hid hr
      have bK := Lib.hid hk
      clear hb hr hk
      go_wp2_with fail
      refine (run_any (i := 0) c _ bR.out (by omega) HR.out).mono ?_
      rintro e cw ⟨rfl, hb, ck, hr, hk⟩
      have cB := Lib.hid hb
      have cR := Lib.hid hr
      have cK := Lib.hid hk
      clear hb hr hk
      go_wp2_with fail
      go_ret
      exact ⟨rfl, ((balloc aB.out aR.out.size.1 _).trans bB.out).trans cB.out, ck, cR.out, by have := aK.out; have := bK.out; have := cK.out; omega, by have := cK.out; omega⟩
  · rw [if_neg (fun e => ha e.1)] at hr
    have HR := Lib.hid hr
    have hb0 := beq_no ha
    clear hr ha
    go_enter Tryd.func56, Tryd.ntmps56
    go_wp2_with fail
    refine (at_some (i := 0) w H.out (by omega) HP.out).mono ?_
    rintro e aw ⟨rfl, hb, ak, hr, hk⟩
    have aB := Lib.hid hb
    have aR := Lib.hid hr
    have aK := Lib.hid hk
    clear hb hr hk
    go_wp2_with fail
    refine (run_any (i := 0) c _ (aR.out.alloc _) (by omega) HR.out).mono ?_
    rintro e cw ⟨rfl, hb, ck, hr, hk⟩
    have cB := Lib.hid hb
    have cR := Lib.hid hr
    have cK := Lib.hid hk
    clear hb hr hk
    go_wp2_with fail
    go_ret
    exact ⟨rfl, (balloc aB.out aR.out.size.1 _).trans cB.out, ck, cR.out, by have := aK.out; have := cK.out; omega, by have := cK.out; omega⟩
theorem blanks_le {ps : List Pt} : blanksP ps ≤ ps.length := (while_le (fun p => isSp p.cls) ps 0).2 (Nat.zero_le _)
set_option maxHeartbeats 2000000 in
theorem spaces_any {B q k0 : Nat} {t : List Rg} {ps : List Pt} {wide : Bool} (w : World) (h : RdAt w B q t ps wide k0) {r : Nat × Nat} (hr : spacesP ps = r) :
    Calls Tryd.prog 57 #[.pointer (some ⟨q, 0, none⟩)] w (Ask B q t ps wide k0 r.1 w (.tuple #[.int .i64 (r.1 : Int), .int .i64 (r.2 : Int)])) := by
  have hps := h.size.2.1
  have H := Lib.hid h
  clear h
  obtain ⟨n, hn⟩ : ∃ n, blanksP ps = n := ⟨_, rfl⟩
  obtain ⟨ln, hln⟩ : ∃ n, lineP ps = n := ⟨_, rfl⟩
  have hnl : n ≤ ps.length := by rw [← hn]; exact blanks_le
  unfold spacesP at hr
  rw [hn] at hr
  have HN := Lib.hid hn
  have HLN := Lib.hid hln
  clear hn hln
  by_cases hl : n < ps.length
  · obtain ⟨p, hp⟩ : ∃ p, ps[n]? = some p := ⟨_, List.getElem?_eq_getElem hl⟩
    obtain ⟨a, b, c, d⟩ := p
    have HP := Lib.hid hp
    clear hp
    by_cases h1 : 1 < n
    · rw [if_pos ⟨hl, h1⟩] at hr
      subst hr
      have h1' : (1 : Int) < (n : Int) := by omega
      have hs : (n : Int) - 1 = ((n - 1 : Nat) : Int) := by omega
      have HS := Lib.hid hs
      clear hs
      go_enter Tryd.func57, Tryd.ntmps57
      go_wp2_with fail
      refine (blanks_any w H.out HN.out HLN.out).mono ?_
      rintro e aw ⟨rfl, hb, ak, hr, hk⟩
      have aB := Lib.hid hb
      have aR := Lib.hid hr
      have aK := Lib.hid hk
      clear hb hr hk
      go_wp2_with fail
      refine (at_some _ aR.out (by omega) HP.out).mono ?_
      rintro e bw ⟨rfl, hb, bk, hr, hk⟩
      have bB := Lib.hid hb
      have bR := Lib.hid hr
      have bK := Lib.hid hk
      clear hb hr hk
      go_wp2_with fail
      go_ret2
      refine ⟨?_, balloc (aB.out.trans bB.out) bR.out.size.1 _, bk, bR.out.alloc _, by have := aK.out; have := bK.out; omega, by have := bK.out; (try simp only); omega⟩
      rw [← HS.out]; first | rfl | simp
    · rw [if_neg (fun e => h1 e.2)] at hr
      subst hr
      have h1' : ¬ (1 : Int) < (n : Int) := by omega
      go_enter Tryd.func57, Tryd.ntmps57
      go_wp2_with fail
      refine (blanks_any w H.out HN.out HLN.out).mono ?_
      rintro e aw ⟨rfl, hb, ak, hr, hk⟩
      have aB := Lib.hid hb
      have aR := Lib.hid hr
      have aK := Lib.hid hk
      clear hb hr hk
      go_wp2_with fail
      refine (at_some _ aR.out (by omega) HP.out).mono ?_
      rintro e bw ⟨rfl, hb, bk, hr, hk⟩
      have bB := Lib.hid hb
      have bR := Lib.hid hr
      have bK := Lib.hid hk
      clear hb hr hk
      go_wp2_with fail
      go_ret2
      exact ⟨by first | rfl | simp, balloc (aB.out.trans bB.out) bR.out.size.1 _, bk, bR.out.alloc _, by have := aK.out; have := bK.out; omega, by have := bK.out; (try simp only); omega⟩
  · have HP := Lib.hid (show ps[n]? = none from List.getElem?_eq_none (by omega))
    rw [if_neg (fun e => hl e.1)] at hr
    subst hr
    go_enter Tryd.func57, Tryd.ntmps57
    go_wp2_with fail
    refine (blanks_any w H.out HN.out HLN.out).mono ?_
    rintro e aw ⟨rfl, hb, ak, hr, hk⟩
    have aB := Lib.hid hb
    have aR := Lib.hid hr
    have aK := Lib.hid hk
    clear hb hr hk
    go_wp2_with fail
    refine (at_none _ aR.out (by omega) HP.out).mono ?_
    rintro e bw ⟨rfl, hb, bk, hr, hk⟩
    have bB := Lib.hid hb
    have bR := Lib.hid hr
    have bK := Lib.hid hk
    clear hb hr hk
    go_wp2_with fail
    go_ret2
    exact ⟨by first | rfl | simp, balloc (aB.out.trans bB.out) bR.out.size.1 _, bk, bR.out.alloc _, by have := aK.out; have := bK.out; omega, by have := bK.out; (try simp only); omega⟩
set_option maxHeartbeats 1000000 in
theorem leads_any {B q k0 : Nat} {t : List Rg} {ps : List Pt} {wide : Bool} (w : World) (h : RdAt w B q t ps wide k0) (h0 : 0 < ps.length) {o : Bool} (ho : leadsP ps = o) :
    Calls Tryd.prog 59 #[.pointer (some ⟨q, 0, none⟩)] w (Ask B q t ps wide k0 1 w (.bool o)) := by
  have H := Lib.hid h
  clear h
  obtain ⟨a, b, n, d, hp, -, hc⟩ := first_pt h0
  have HP := Lib.hid hp
  unfold leadsP at ho
  rw [hc] at ho
  clear hp hc
  by_cases hb : b = 0
  · subst hb
    have HO := Lib.hid (show true = o from by rw [← ho]; rfl)
    clear ho
    go_enter Tryd.func59, Tryd.ntmps59
    go_wp2_with fail
    refine (at_some (i := 0) w H.out (by omega) HP.out).mono ?_
    rintro e aw ⟨rfl, hb, ak, hr, hk⟩
    have aB := Lib.hid hb
    have aR := Lib.hid hr
    have aK := Lib.hid hk
    clear hb hr hk
    go_wp2_with fail
    go_ret
    exact ⟨by rw [← HO.out]; rfl, balloc aB.out aR.out.size.1 _, ak, aR.out.alloc _, aK.out.1, by have := aK.out; omega⟩
  · have hb0 := beq_no hb
    have HO := Lib.hid (show (b == 3) = o from by rw [← ho, hb0]; rfl)
    clear ho hb
    go_enter Tryd.func59, Tryd.ntmps59
    go_wp2_with fail
    refine (at_some (i := 0) w H.out (by omega) HP.out).mono ?_
    rintro e aw ⟨rfl, hb, ak, hr, hk⟩
    have aB := Lib.hid hb
    have aR := Lib.hid hr
    have aK := Lib.hid hk
    clear hb hr hk
    go_wp2_with fail
    go_ret
    exact ⟨by rw [← HO.out]; rfl, balloc aB.out aR.out.size.1 _, ak, aR.out.alloc _, aK.out.1, by have := aK.out; omega⟩
set_option maxHeartbeats 2000000 in
theorem blank_any {B q k0 : Nat} {t : List Rg} {ps : List Pt} {wide : Bool} (w : World) (h : RdAt w B q t ps wide k0) {r : Nat × Nat} (hr : wordP ps = r) :
    Calls Tryd.prog 37 #[.pointer (some ⟨q, 0, none⟩)] w (Ask B q t ps wide k0 r.1 w (.tuple #[.int .i64 (r.1 : Int), .int .i64 (r.2 : Int)])) := by
  have hps := h.size.2.1
  have H := Lib.hid h
  clear h
  obtain ⟨n, hn⟩ : ∃ n, blanksP ps = n := ⟨_, rfl⟩
  obtain ⟨ln, hln⟩ : ∃ n, lineP ps = n := ⟨_, rfl⟩
  have hnl : n ≤ ps.length := by rw [← hn]; exact blanks_le
  unfold wordP at hr
  rw [hn] at hr
  obtain ⟨m, hm⟩ : ∃ m, whileP (fun p => !isSp p.cls) ps n = m := ⟨_, rfl⟩
  rw [hm] at hr
  subst hr
  have HN := Lib.hid hn
  have HLN := Lib.hid hln
  have HM := Lib.hid hm
  clear hn hln hm
  go_enter Tryd.func37, Tryd.ntmps37
  go_wp2_with fail
  go_step3
  go_wp2_with fail
  refine (blanks_any w H.out HN.out HLN.out).mono ?_
  rintro e aw ⟨rfl, hb, ak, hr, hk⟩
  have aB := Lib.hid hb
  have aR := Lib.hid hr
  have aK := Lib.hid hk
  clear hb hr hk
  go_wp2_with fail
  go_step3
  go_wp2_with fail
  go_loopw [4] (fun z wr => ∃ (j k : Nat), z = .int .i64 (j : Int) ∧ j ≤ ps.length ∧ Hid (whileP (fun p => !isSp p.cls) ps j = m) ∧ Hid (RdAt wr B q t ps wide k) ∧ k0 ≤ k ∧ Hid (Below q w wr)) (fun z _ => 1001 - (intOf z).toNat)
  case atStart => exact ⟨n, ak, rfl, hnl, HM, aR, aK.out.1, aB⟩
  case round =>
    clear aR aB aK
    obtain ⟨j, k, rfl, hj, HJ, HD, hk, HB⟩ := hrel
    have hj2 : j ≤ 100000 := by omega
    by_cases hl : j < ps.length
    · obtain ⟨p, hp⟩ : ∃ p, ps[j]? = some p := ⟨_, List.getElem?_eq_getElem hl⟩
      obtain ⟨a, b, c, d⟩ := p
      have HP := Lib.hid hp
      have HS := Lib.hid (show spP ps j = isSp b from by unfold spP; rw [hp])
      obtain ⟨o, ho⟩ : ∃ o, isSp b = o := ⟨_, rfl⟩
      rw [ho] at HS
      cases o with
      | true =>
        have HE := Lib.hid (show j = m from by rw [← HJ.out]; exact (while_no hp (by rw [show (!isSp b) = false by rw [ho]; rfl])).symm)
        clear hp ho
        go_wp2_with fail
        refine (at_some wr HD.out hj2 HP.out).mono ?_
        rintro e bw ⟨rfl, hb, bk, hr, hk⟩
        have bB := Lib.hid hb
        have bR := Lib.hid hr
        have bK := Lib.hid hk
        clear hb hr hk
        go_wp2_with fail
        refine (space_any _ (bR.out.alloc _) hj2 HS.out).mono ?_
        rintro e cw ⟨rfl, hb, ck, hr, hk⟩
        have cB := Lib.hid hb
        have cR := Lib.hid hr
        have cK := Lib.hid hk
        clear hb hr hk
        go_wp2_with fail
        go_ret2
        have hjm := HE.out
        subst hjm
        exact ⟨by first | rfl | simp, (balloc (HB.out.trans bB.out) bR.out.size.1 _).trans cB.out, ck, cR.out, by have := bK.out; have := cK.out; omega, by have := cK.out; (try simp only); omega⟩
      | false =>
        have HE := Lib.hid (show whileP (fun p => !isSp p.cls) ps (j + 1) = m from by rw [← HJ.out]; exact (while_yes hp (by rw [show (!isSp b) = true by rw [ho]; rfl])).symm)
        clear hp ho
        go_wp2_with fail
        refine (at_some wr HD.out hj2 HP.out).mono ?_
        rintro e bw ⟨rfl, hb, bk, hr, hk⟩
        have bB := Lib.hid hb
        have bR := Lib.hid hr
        have bK := Lib.hid hk
        clear hb hr hk
        go_wp2_with fail
        refine (space_any _ (bR.out.alloc _) hj2 HS.out).mono ?_
        rintro e cw ⟨rfl, hb, ck, hr, hk⟩
        have cB := Lib.hid hb
        have cR := Lib.hid hr
        have cK := Lib.hid hk
        clear hb hr hk
        go_wp2_with fail
        go_roundw
        case rel => exact ⟨j + 1, ck, by go_num, by omega, HE, cR, by have := bK.out; have := cK.out; omega, Lib.hid ((balloc (HB.out.trans bB.out) bR.out.size.1 _).trans cB.out)⟩
        case measure => simp [intOf]; omega
    · have HP := Lib.hid (show ps[j]? = none from List.getElem?_eq_none (by omega))
      have HE := Lib.hid (show j = m from by rw [← HJ.out]; exact (while_end HP.out).symm)
      go_wp2_with fail
      refine (at_none wr HD.out hj2 HP.out).mono ?_
      rintro e bw ⟨rfl, hb, bk, hr, hk⟩
      have bB := Lib.hid hb
      have bR := Lib.hid hr
      have bK := Lib.hid hk
      clear hb hr hk
      go_wp2_with fail
      go_ret2
      have hjm := HE.out
      subst hjm
      exact ⟨by first | rfl | simp, balloc (HB.out.trans bB.out) bR.out.size.1 _, bk, bR.out.alloc _, by have := bK.out; omega, by have := bK.out; (try simp only); omega⟩
end Go.Proofs.YtkiggpbmlkfdpaaDoor
