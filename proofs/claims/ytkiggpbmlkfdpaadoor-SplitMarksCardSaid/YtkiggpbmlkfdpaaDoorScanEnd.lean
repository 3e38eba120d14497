/- The walks of scan's letter, ending, pending, led, spaces, leads. -/
import Derived.Test.YtkiggpbmlkfdpaaDoorScanAsk2
import Derived.Test.YtkiggpbmlkfdpaaDoorShelf
import Derived.BigQuiet
import Derived.Deep.RegionWith
namespace Go.Proofs.YtkiggpbmlkfdpaaDoor
open Go.RowKit
set_option linter.unusedVariables false

def onesI (c : Int) : Int := if c = 115 then 0 else if c = 116 then 1 else if c = 109 then 2 else if c = 100 then 3 else -1
def firstsI (c : Int) : Int := if c = 114 then 0 else if c = 118 then 1 else if c = 108 then 2 else -1
theorem ones_fin : ∀ n : Fin 128, Lib.indexByte [115, 116, 109, 100] (n.val.toUInt8) = onesI (n.val : Int) := by decide +kernel
theorem firsts_fin : ∀ n : Fin 128, Lib.indexByte [114, 118, 108] (n.val.toUInt8) = firstsI (n.val : Int) := by decide +kernel
theorem ones_far {c : Int} (h : c < 0 ∨ 127 < c) : onesI c = -1 := by unfold onesI; (repeat' split) <;> omega
theorem firsts_far {c : Int} (h : c < 0 ∨ 127 < c) : firstsI c = -1 := by unfold firstsI; (repeat' split) <;> omega
theorem letter_far (s : ByteArray) (c : Int) (w : World) (h : c < 0 ∨ 127 < c) : Calls Tryd.prog 62 #[.string s, .int .i64 c] w fun e w' => e = .returned (.int .i64 (-1)) ∧ w = w' := by
  rcases h with h | h
  · go_enter Tryd.func62, Tryd.ntmps62
    go_wp2_with fail
    go_ret
    exact ⟨rfl, rfl⟩
  · have h0 : ¬ c < 0 := by omega
    go_enter Tryd.func62, Tryd.ntmps62
    go_wp2_with fail
    go_ret
    exact ⟨rfl, rfl⟩
theorem letter_near (s : ByteArray) (c : Int) (w : World) (h0 : 0 ≤ c) (h1 : c ≤ 127) : Calls Tryd.prog 62 #[.string s, .int .i64 c] w fun e w' => e = .returned (.int .i64 (Lib.indexByte s.data.toList c.toNat.toUInt8)) ∧ w = w' := by
  have hw : IntKind.u8.wrap c = c := by rw [IntKind.wrap_u8]; omega
  go_enter Tryd.func62, Tryd.ntmps62
  go_wp2_with fail
  refine (Tryd.strings_IndexByte s c w).mono ?_
  rintro e w' ⟨rfl, rfl⟩
  go_wp2_with fail
  go_ret
  exact ⟨rfl, rfl⟩
theorem letter_ones (c : Int) (w : World) {j : Int} (hj : onesI c = j) : Calls Tryd.prog 62 #[.string ⟨#[115, 116, 109, 100]⟩, .int .i64 c] w fun e w' => e = .returned (.int .i64 j) ∧ w = w' := by
  by_cases h : c < 0 ∨ 127 < c
  · rw [← hj, ones_far h]; exact letter_far _ c w h
  · refine (letter_near ⟨#[115, 116, 109, 100]⟩ c w (by omega) (by omega)).mono ?_
    rintro e w' ⟨rfl, rfl⟩
    have := ones_fin ⟨c.toNat, by omega⟩
    simp only at this
    rw [show ((c.toNat : Nat) : Int) = c by omega, hj] at this
    exact ⟨by rw [show (⟨#[115, 116, 109, 100]⟩ : ByteArray).data.toList = [115, 116, 109, 100] from rfl, this], rfl⟩
theorem letter_firsts (c : Int) (w : World) {j : Int} (hj : firstsI c = j) : Calls Tryd.prog 62 #[.string ⟨#[114, 118, 108]⟩, .int .i64 c] w fun e w' => e = .returned (.int .i64 j) ∧ w = w' := by
  by_cases h : c < 0 ∨ 127 < c
  · rw [← hj, firsts_far h]; exact letter_far _ c w h
  · refine (letter_near ⟨#[114, 118, 108]⟩ c w (by omega) (by omega)).mono ?_
    rintro e w' ⟨rfl, rfl⟩
    have := firsts_fin ⟨c.toNat, by omega⟩
    simp only at this
    rw [show ((c.toNat : Nat) : Int) = c by omega, hj] at this
    exact ⟨by rw [show (⟨#[114, 118, 108]⟩ : ByteArray).data.toList = [114, 118, 108] from rfl, this], rfl⟩
theorem ones_pos {c : Int} : (c = 115 ∨ c = 116 ∨ c = 109 ∨ c = 100) → 0 ≤ onesI c := by
  intro h; unfold onesI; (repeat' split) <;> omega
theorem ones_neg {c : Int} : ¬ (c = 115 ∨ c = 116 ∨ c = 109 ∨ c = 100) → onesI c = -1 := by
  intro h; unfold onesI; (repeat' split) <;> omega
theorem firsts_neg {c : Int} : ¬ (c = 114 ∨ c = 118 ∨ c = 108) → firstsI c = -1 := by
  intro h; unfold firstsI; (repeat' split) <;> omega
theorem firsts_pos {c : Int} : (c = 114 ∨ c = 118 ∨ c = 108) → 0 ≤ firstsI c := by
  intro h; unfold firstsI; (repeat' split) <;> omega
theorem dbelow {q : Nat} {w w' : World} (h : Below q w.drew w') : Below q w w' := (Below.drew (Below.refl q w)).trans h
theorem drbelow {q : Nat} {w0 w : World} (h : Below q w0 w) (n : Nat) : Below q w0 (w.drewN n) := ⟨h.os, h.tape, h.output, h.size, h.block⟩
theorem rdrew {w : World} {B q k : Nat} {t : List Rg} {ps : List Pt} {wide : Bool} (h : RdAt w B q t ps wide k) (n : Nat) : RdAt (w.drewN n) B q t ps wide k := h.later (drbelow (Below.refl _ w) n)
set_option maxHeartbeats 2000000 in
theorem ending_any {B q k0 : Nat} {t : List Rg} {ps : List Pt} {wide : Bool} (w : World) (h : RdAt w B q t ps wide k0) {r : Nat} (hr : endP ps wide = r) :
    Calls Tryd.prog 55 #[.pointer (some ⟨q, 0, none⟩)] w (Ask B q t ps wide k0 r w (.int .i64 (r : Int))) := by
  have H := Lib.hid h
  clear h
  obtain ⟨s0, hs0⟩ : ∃ x, smallP ps wide 0 = x := ⟨_, rfl⟩
  obtain ⟨s1, hs1⟩ : ∃ x, smallP ps wide 1 = x := ⟨_, rfl⟩
  obtain ⟨s2, hs2⟩ : ∃ x, smallP ps wide 2 = x := ⟨_, rfl⟩
  unfold endP at hr
  rw [hs0, hs1, hs2] at hr
  have S0 := Lib.hid hs0
  have S1 := Lib.hid hs1
  have S2 := Lib.hid hs2
  clear hs0 hs1 hs2
  by_cases h0 : s0 = 39
  · subst h0
    rw [if_pos rfl] at hr
    by_cases h1 : s1 = 115 ∨ s1 = 116 ∨ s1 = 109 ∨ s1 = 100
    · rw [if_pos h1] at hr
      subst hr
      have hj0 := ones_pos h1
      obtain ⟨j, hj⟩ : ∃ j, onesI s1 = j := ⟨_, rfl⟩
      rw [hj] at hj0
      have HJ := Lib.hid hj
      clear hj h1
      go_enter Tryd.func55, Tryd.ntmps55
      go_wp2_with fail
      refine (small_any (i := 0) w H.out (by omega) S0.out).mono ?_
      rintro e aw ⟨rfl, hb, ak, hr, hk⟩
      have aB := Lib.hid hb
      have aR := Lib.hid hr
      have aK := Lib.hid hk
      clear hb hr hk
      go_wp2_with fail
      refine (small_any (i := 1) aw aR.out (by omega) S1.out).mono ?_
      rintro e bw ⟨rfl, hb, bk, hr, hk⟩
      have bB := Lib.hid hb
      have bR := Lib.hid hr
      have bK := Lib.hid hk
      clear hb hr hk
      go_wp2_with fail
      refine (letter_ones s1 bw HJ.out).mono ?_
      rintro e w' ⟨rfl, rfl⟩
      go_wp2_with fail
      go_ret
      exact ⟨rfl, aB.out.trans bB.out, bk, bR.out, by have := aK.out; have := bK.out; omega, by have := bK.out; omega⟩
    · rw [if_neg h1] at hr
      have HJ := Lib.hid (ones_neg h1)
      clear h1
      by_cases g114 : s1 = 114
      · subst g114
        have HF := Lib.hid (show firstsI 114 = 0 from rfl)
        by_cases g2 : s2 = 101
        · subst g2
          rw [if_pos (by decide)] at hr
          subst hr
          go_enter Tryd.func55, Tryd.ntmps55
          go_wp2_with fail
          refine (small_any (i := 0) w H.out (by omega) S0.out).mono ?_
          rintro e aw ⟨rfl, hb, ak, hr, hk⟩
          have aB := Lib.hid hb
          have aR := Lib.hid hr
          have aK := Lib.hid hk
          clear hb hr hk
          go_wp2_with fail
          refine (small_any (i := 1) aw aR.out (by omega) S1.out).mono ?_
          rintro e bw ⟨rfl, hb, bk, hr, hk⟩
          have bB := Lib.hid hb
          have bR := Lib.hid hr
          have bK := Lib.hid hk
          clear hb hr hk
          go_wp2_with fail
          refine (letter_ones _ bw HJ.out).mono ?_
          rintro e w' ⟨rfl, rfl⟩
          go_wp2_with fail
          refine (letter_firsts _ bw HF.out).mono ?_
          rintro e w' ⟨rfl, rfl⟩
          go_wp2_with fail
          go_region_with (go_at_call 61; refine (small_any (i := 2) bw.drew (bR.out.later (Below.drew (Below.refl _ _))) (by omega) S2.out).mono ?_; rintro e cw ⟨rfl, hb, ck, hr, hk⟩; have cB := Lib.hid hb; have cR := Lib.hid hr; have cK := Lib.hid hk; clear hb hr hk)
          all_goals
            go_wp2_with fail
            go_ret
            exact ⟨rfl, (aB.out.trans bB.out).trans (dbelow cB.out), ck, cR.out, by have := aK.out; have := bK.out; have := cK.out; omega, by have := cK.out; omega⟩
        · rw [if_neg (by omega)] at hr
          subst hr
          have hb0 := beq_no g2
          have hx : IntKind.i64.wrap (((⟨#[101, 101, 108]⟩ : ByteArray)[0]'(by decide)).toNat : Int) = 101 := by kernel_rfl
          clear g2
          go_enter Tryd.func55, Tryd.ntmps55
          go_wp2_with fail
          refine (small_any (i := 0) w H.out (by omega) S0.out).mono ?_
          rintro e aw ⟨rfl, hb, ak, hr, hk⟩
          have aB := Lib.hid hb
          have aR := Lib.hid hr
          have aK := Lib.hid hk
          clear hb hr hk
          go_wp2_with fail
          refine (small_any (i := 1) aw aR.out (by omega) S1.out).mono ?_
          rintro e bw ⟨rfl, hb, bk, hr, hk⟩
          have bB := Lib.hid hb
          have bR := Lib.hid hr
          have bK := Lib.hid hk
          clear hb hr hk
          go_wp2_with fail
          refine (letter_ones _ bw HJ.out).mono ?_
          rintro e w' ⟨rfl, rfl⟩
          go_wp2_with fail
          refine (letter_firsts _ bw HF.out).mono ?_
          rintro e w' ⟨rfl, rfl⟩
          go_wp2_with fail
          go_region_with (go_at_call 61; refine (small_any (i := 2) bw.drew (bR.out.later (Below.drew (Below.refl _ _))) (by omega) S2.out).mono ?_; rintro e cw ⟨rfl, hb, ck, hr, hk⟩; have cB := Lib.hid hb; have cR := Lib.hid hr; have cK := Lib.hid hk; clear hb hr hk)
          all_goals
            go_wp2_with fail
            go_ret
            exact ⟨rfl, (aB.out.trans bB.out).trans (dbelow cB.out), ck, cR.out, by have := aK.out; have := bK.out; have := cK.out; omega, by omega⟩
      by_cases g118 : s1 = 118
      · subst g118
        have HF := Lib.hid (show firstsI 118 = 1 from rfl)
        by_cases g2 : s2 = 101
        · subst g2
          rw [if_pos (by decide)] at hr
          subst hr
          go_enter Tryd.func55, Tryd.ntmps55
          go_wp2_with fail
          refine (small_any (i := 0) w H.out (by omega) S0.out).mono ?_
          rintro e aw ⟨rfl, hb, ak, hr, hk⟩
          have aB := Lib.hid hb
          have aR := Lib.hid hr
          have aK := Lib.hid hk
          clear hb hr hk
          go_wp2_with fail
          refine (small_any (i := 1) aw aR.out (by omega) S1.out).mono ?_
          rintro e bw ⟨rfl, hb, bk, hr, hk⟩
          have bB := Lib.hid hb
          have bR := Lib.hid hr
          have bK := Lib.hid hk
          clear hb hr hk
          go_wp2_with fail
          refine (letter_ones _ bw HJ.out).mono ?_
          rintro e w' ⟨rfl, rfl⟩
          go_wp2_with fail
          refine (letter_firsts _ bw HF.out).mono ?_
          rintro e w' ⟨rfl, rfl⟩
          go_wp2_with fail
          go_region_with (go_at_call 61; refine (small_any (i := 2) bw.drew (bR.out.later (Below.drew (Below.refl _ _))) (by omega) S2.out).mono ?_; rintro e cw ⟨rfl, hb, ck, hr, hk⟩; have cB := Lib.hid hb; have cR := Lib.hid hr; have cK := Lib.hid hk; clear hb hr hk)
          all_goals
            go_wp2_with fail
            go_ret
            exact ⟨rfl, (aB.out.trans bB.out).trans (dbelow cB.out), ck, cR.out, by have := aK.out; have := bK.out; have := cK.out; omega, by have := cK.out; omega⟩
        · rw [if_neg (by omega)] at hr
          subst hr
          have hb0 := beq_no g2
          have hx : IntKind.i64.wrap (((⟨#[101, 101, 108]⟩ : ByteArray)[1]'(by decide)).toNat : Int) = 101 := by kernel_rfl
          clear g2
          go_enter Tryd.func55, Tryd.ntmps55
          go_wp2_with fail
          refine (small_any (i := 0) w H.out (by omega) S0.out).mono ?_
          rintro e aw ⟨rfl, hb, ak, hr, hk⟩
          have aB := Lib.hid hb
          have aR := Lib.hid hr
          have aK := Lib.hid hk
          clear hb hr hk
          go_wp2_with fail
          refine (small_any (i := 1) aw aR.out (by omega) S1.out).mono ?_
          rintro e bw ⟨rfl, hb, bk, hr, hk⟩
          have bB := Lib.hid hb
          have bR := Lib.hid hr
          have bK := Lib.hid hk
          clear hb hr hk
          go_wp2_with fail
          refine (letter_ones _ bw HJ.out).mono ?_
          rintro e w' ⟨rfl, rfl⟩
          go_wp2_with fail
          refine (letter_firsts _ bw HF.out).mono ?_
          rintro e w' ⟨rfl, rfl⟩
          go_wp2_with fail
          go_region_with (go_at_call 61; refine (small_any (i := 2) bw.drew (bR.out.later (Below.drew (Below.refl _ _))) (by omega) S2.out).mono ?_; rintro e cw ⟨rfl, hb, ck, hr, hk⟩; have cB := Lib.hid hb; have cR := Lib.hid hr; have cK := Lib.hid hk; clear hb hr hk)
          all_goals
            go_wp2_with fail
            go_ret
            exact ⟨rfl, (aB.out.trans bB.out).trans (dbelow cB.out), ck, cR.out, by have := aK.out; have := bK.out; have := cK.out; omega, by omega⟩
      by_cases g108 : s1 = 108
      · subst g108
        have HF := Lib.hid (show firstsI 108 = 2 from rfl)
        by_cases g2 : s2 = 108
        · subst g2
          rw [if_pos (by decide)] at hr
          subst hr
          go_enter Tryd.func55, Tryd.ntmps55
          go_wp2_with fail
          refine (small_any (i := 0) w H.out (by omega) S0.out).mono ?_
          rintro e aw ⟨rfl, hb, ak, hr, hk⟩
          have aB := Lib.hid hb
          have aR := Lib.hid hr
          have aK := Lib.hid hk
          clear hb hr hk
          go_wp2_with fail
          refine (small_any (i := 1) aw aR.out (by omega) S1.out).mono ?_
          rintro e bw ⟨rfl, hb, bk, hr, hk⟩
          have bB := Lib.hid hb
          have bR := Lib.hid hr
          have bK := Lib.hid hk
          clear hb hr hk
          go_wp2_with fail
          refine (letter_ones _ bw HJ.out).mono ?_
          rintro e w' ⟨rfl, rfl⟩
          go_wp2_with fail
          refine (letter_firsts _ bw HF.out).mono ?_
          rintro e w' ⟨rfl, rfl⟩
          go_wp2_with fail
          go_region_with (go_at_call 61; refine (small_any (i := 2) bw.drew (bR.out.later (Below.drew (Below.refl _ _))) (by omega) S2.out).mono ?_; rintro e cw ⟨rfl, hb, ck, hr, hk⟩; have cB := Lib.hid hb; have cR := Lib.hid hr; have cK := Lib.hid hk; clear hb hr hk)
          all_goals
            go_wp2_with fail
            go_ret
            exact ⟨rfl, (aB.out.trans bB.out).trans (dbelow cB.out), ck, cR.out, by have := aK.out; have := bK.out; have := cK.out; omega, by have := cK.out; omega⟩
        · rw [if_neg (by omega)] at hr
          subst hr
          have hb0 := beq_no g2
          have hx : IntKind.i64.wrap (((⟨#[101, 101, 108]⟩ : ByteArray)[2]'(by decide)).toNat : Int) = 108 := by kernel_rfl
          clear g2
          go_enter Tryd.func55, Tryd.ntmps55
          go_wp2_with fail
          refine (small_any (i := 0) w H.out (by omega) S0.out).mono ?_
          rintro e aw ⟨rfl, hb, ak, hr, hk⟩
          have aB := Lib.hid hb
          have aR := Lib.hid hr
          have aK := Lib.hid hk
          clear hb hr hk
          go_wp2_with fail
          refine (small_any (i := 1) aw aR.out (by omega) S1.out).mono ?_
          rintro e bw ⟨rfl, hb, bk, hr, hk⟩
          have bB := Lib.hid hb
          have bR := Lib.hid hr
          have bK := Lib.hid hk
          clear hb hr hk
          go_wp2_with fail
          refine (letter_ones _ bw HJ.out).mono ?_
          rintro e w' ⟨rfl, rfl⟩
          go_wp2_with fail
          refine (letter_firsts _ bw HF.out).mono ?_
          rintro e w' ⟨rfl, rfl⟩
          go_wp2_with fail
          go_region_with (go_at_call 61; refine (small_any (i := 2) bw.drew (bR.out.later (Below.drew (Below.refl _ _))) (by omega) S2.out).mono ?_; rintro e cw ⟨rfl, hb, ck, hr, hk⟩; have cB := Lib.hid hb; have cR := Lib.hid hr; have cK := Lib.hid hk; clear hb hr hk)
          all_goals
            go_wp2_with fail
            go_ret
            exact ⟨rfl, (aB.out.trans bB.out).trans (dbelow cB.out), ck, cR.out, by have := aK.out; have := bK.out; have := cK.out; omega, by omega⟩
      rw [if_neg (by omega)] at hr
      subst hr
      have HF := Lib.hid (firsts_neg (c := s1) (by omega))
      clear g114 g118 g108
      go_enter Tryd.func55, Tryd.ntmps55
      go_wp2_with fail
      refine (small_any (i := 0) w H.out (by omega) S0.out).mono ?_
      rintro e aw ⟨rfl, hb, ak, hr, hk⟩
      have aB := Lib.hid hb
      have aR := Lib.hid hr
      have aK := Lib.hid hk
      clear hb hr hk
      go_wp2_with fail
      refine (small_any (i := 1) aw aR.out (by omega) S1.out).mono ?_
      rintro e bw ⟨rfl, hb, bk, hr, hk⟩
      have bB := Lib.hid hb
      have bR := Lib.hid hr
      have bK := Lib.hid hk
      clear hb hr hk
      go_wp2_with fail
      refine (letter_ones s1 bw HJ.out).mono ?_
      rintro e w' ⟨rfl, rfl⟩
      go_wp2_with fail
      refine (letter_firsts s1 bw HF.out).mono ?_
      rintro e w' ⟨rfl, rfl⟩
      go_wp2_with fail
      go_quiet (fail)
      go_wp2_with fail
      go_ret
      exact ⟨rfl, drbelow (aB.out.trans bB.out) _, bk, rdrew bR.out _, by have := aK.out; have := bK.out; omega, by omega⟩
  · rw [if_neg h0] at hr
    subst hr
    have hb0 := bne_yes h0
    clear h0
    go_enter Tryd.func55, Tryd.ntmps55
    go_wp2_with fail
    refine (small_any (i := 0) w H.out (by omega) S0.out).mono ?_
    rintro e aw ⟨rfl, hb, ak, hr, hk⟩
    have aB := Lib.hid hb
    have aR := Lib.hid hr
    have aK := Lib.hid hk
    clear hb hr hk
    go_wp2_with fail
    go_ret
    exact ⟨rfl, aB.out, ak, aR.out, by have := aK.out; omega, by omega⟩
set_option maxHeartbeats 2000000 in
theorem pending_any {B q k0 : Nat} {t : List Rg} {ps : List Pt} {wide : Bool} (w : World) (h : RdAt w B q t ps wide k0) {o : Bool} (ho : pendP ps wide = o) :
    Calls Tryd.prog 41 #[.pointer (some ⟨q, 0, none⟩)] w (Ask B q t ps wide k0 0 w (.bool o)) := by
  have H := Lib.hid h
  clear h
  obtain ⟨s0, hs0⟩ : ∃ x, smallP ps wide 0 = x := ⟨_, rfl⟩
  obtain ⟨s1, hs1⟩ : ∃ x, smallP ps wide 1 = x := ⟨_, rfl⟩
  obtain ⟨o3, ho3⟩ : ∃ x, sureP ps 3 = x := ⟨_, rfl⟩
  obtain ⟨o2, ho2⟩ : ∃ x, sureP ps 2 = x := ⟨_, rfl⟩
  unfold pendP at ho
  rw [hs0, hs1, ho3, ho2] at ho
  have S0 := Lib.hid hs0
  have S1 := Lib.hid hs1
  have O3 := Lib.hid ho3
  have O2 := Lib.hid ho2
  clear hs0 hs1 ho3 ho2
  by_cases h0 : s0 = 39
  · subst h0
    rw [decide_eq_true rfl, Bool.true_and] at ho
    cases o3 with
    | true =>
      obtain rfl : false = o := by rw [← ho]; rfl
      go_enter Tryd.func41, Tryd.ntmps41
      go_wp2_with fail
      refine (small_any (i := 0) w H.out (by omega) S0.out).mono ?_
      rintro e aw ⟨rfl, hb, ak, hr, hk⟩
      have aB := Lib.hid hb
      have aR := Lib.hid hr
      have aK := Lib.hid hk
      clear hb hr hk
      go_wp2_with fail
      refine (sure_any (n := 3) aw aR.out (by omega) O3.out).mono ?_
      rintro e bw ⟨rfl, hb, bk, hr, hk⟩
      have bB := Lib.hid hb
      have bR := Lib.hid hr
      have bK := Lib.hid hk
      clear hb hr hk
      go_wp2_with fail
      go_ret
      exact ⟨rfl, aB.out.trans bB.out, bk, bR.out, by have := aK.out; have := bK.out; omega, by omega⟩
    | false =>
      cases o2 with
      | false =>
        obtain rfl : true = o := by rw [← ho]; rfl
        go_enter Tryd.func41, Tryd.ntmps41
        go_wp2_with fail
        refine (small_any (i := 0) w H.out (by omega) S0.out).mono ?_
        rintro e aw ⟨rfl, hb, ak, hr, hk⟩
        have aB := Lib.hid hb
        have aR := Lib.hid hr
        have aK := Lib.hid hk
        clear hb hr hk
        go_wp2_with fail
        refine (sure_any (n := 3) aw aR.out (by omega) O3.out).mono ?_
        rintro e bw ⟨rfl, hb, bk, hr, hk⟩
        have bB := Lib.hid hb
        have bR := Lib.hid hr
        have bK := Lib.hid hk
        clear hb hr hk
        go_wp2_with fail
        refine (sure_any (n := 2) bw bR.out (by omega) O2.out).mono ?_
        rintro e cw ⟨rfl, hb, ck, hr, hk⟩
        have cB := Lib.hid hb
        have cR := Lib.hid hr
        have cK := Lib.hid hk
        clear hb hr hk
        go_wp2_with fail
        go_ret
        exact ⟨rfl, (aB.out.trans bB.out).trans cB.out, ck, cR.out, by have := aK.out; have := bK.out; have := cK.out; omega, by omega⟩
      | true =>
        by_cases h1 : s1 = 114 ∨ s1 = 118 ∨ s1 = 108
        · obtain rfl : true = o := by rw [← ho, decide_eq_true h1]; rfl
          have hj0 := firsts_pos h1
          obtain ⟨j, hj⟩ : ∃ j, firstsI s1 = j := ⟨_, rfl⟩
          rw [hj] at hj0
          have HJ := Lib.hid hj
          have hd : decide (0 ≤ j) = true := decide_eq_true hj0
          clear hj h1 ho
          go_enter Tryd.func41, Tryd.ntmps41
          go_wp2_with fail
          refine (small_any (i := 0) w H.out (by omega) S0.out).mono ?_
          rintro e aw ⟨rfl, hb, ak, hr, hk⟩
          have aB := Lib.hid hb
          have aR := Lib.hid hr
          have aK := Lib.hid hk
          clear hb hr hk
          go_wp2_with fail
          refine (sure_any (n := 3) aw aR.out (by omega) O3.out).mono ?_
          rintro e bw ⟨rfl, hb, bk, hr, hk⟩
          have bB := Lib.hid hb
          have bR := Lib.hid hr
          have bK := Lib.hid hk
          clear hb hr hk
          go_wp2_with fail
          refine (sure_any (n := 2) bw bR.out (by omega) O2.out).mono ?_
          rintro e cw ⟨rfl, hb, ck, hr, hk⟩
          have cB := Lib.hid hb
          have cR := Lib.hid hr
          have cK := Lib.hid hk
          clear hb hr hk
          go_wp2_with fail
          refine (small_any (i := 1) cw cR.out (by omega) S1.out).mono ?_
          rintro e dw ⟨rfl, hb, dk, hr, hk⟩
          have dB := Lib.hid hb
          have dR := Lib.hid hr
          have dK := Lib.hid hk
          clear hb hr hk
          go_wp2_with fail
          refine (letter_firsts s1 dw HJ.out).mono ?_
          rintro e w' ⟨rfl, rfl⟩
          go_wp2_with fail
          go_ret
          exact ⟨by first | rfl | simp [hj0], ((aB.out.trans bB.out).trans cB.out).trans dB.out, dk, dR.out, by have := aK.out; have := bK.out; have := cK.out; have := dK.out; omega, by omega⟩
        · obtain rfl : false = o := by rw [← ho, decide_eq_false h1]; rfl
          have HJ := Lib.hid (firsts_neg h1)
          clear h1 ho
          go_enter Tryd.func41, Tryd.ntmps41
          go_wp2_with fail
          refine (small_any (i := 0) w H.out (by omega) S0.out).mono ?_
          rintro e aw ⟨rfl, hb, ak, hr, hk⟩
          have aB := Lib.hid hb
          have aR := Lib.hid hr
          have aK := Lib.hid hk
          clear hb hr hk
          go_wp2_with fail
          refine (sure_any (n := 3) aw aR.out (by omega) O3.out).mono ?_
          rintro e bw ⟨rfl, hb, bk, hr, hk⟩
          have bB := Lib.hid hb
          have bR := Lib.hid hr
          have bK := Lib.hid hk
          clear hb hr hk
          go_wp2_with fail
          refine (sure_any (n := 2) bw bR.out (by omega) O2.out).mono ?_
          rintro e cw ⟨rfl, hb, ck, hr, hk⟩
          have cB := Lib.hid hb
          have cR := Lib.hid hr
          have cK := Lib.hid hk
          clear hb hr hk
          go_wp2_with fail
          refine (small_any (i := 1) cw cR.out (by omega) S1.out).mono ?_
          rintro e dw ⟨rfl, hb, dk, hr, hk⟩
          have dB := Lib.hid hb
          have dR := Lib.hid hr
          have dK := Lib.hid hk
          clear hb hr hk
          go_wp2_with fail
          refine (letter_firsts s1 dw HJ.out).mono ?_
          rintro e w' ⟨rfl, rfl⟩
          go_wp2_with fail
          go_ret
          exact ⟨by first | rfl | simp, ((aB.out.trans bB.out).trans cB.out).trans dB.out, dk, dR.out, by have := aK.out; have := bK.out; have := cK.out; have := dK.out; omega, by omega⟩
  · obtain rfl : false = o := by rw [← ho, decide_eq_false h0]; rfl
    have hb0 := bne_yes h0
    clear h0 ho
    go_enter Tryd.func41, Tryd.ntmps41
    go_wp2_with fail
    refine (small_any (i := 0) w H.out (by omega) S0.out).mono ?_
    rintro e aw ⟨rfl, hb, ak, hr, hk⟩
    have aB := Lib.hid hb
    have aR := Lib.hid hr
    have aK := Lib.hid hk
    clear hb hr hk
    go_wp2_with fail
    go_ret
    exact ⟨rfl, aB.out, ak, aR.out, by have := aK.out; omega, by omega⟩
end Go.Proofs.YtkiggpbmlkfdpaaDoor
