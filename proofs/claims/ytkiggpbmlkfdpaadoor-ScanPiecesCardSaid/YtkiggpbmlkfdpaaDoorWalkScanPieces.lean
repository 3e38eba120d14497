/- The walk of ScanPieces: true for every input. -/
import Derived.Test.YtkiggpbmlkfdpaaDoorScanFixed12
import Derived.Test.YtkiggpbmlkfdpaaDoorScanPiecesLaw
namespace Go.Proofs.YtkiggpbmlkfdpaaDoor
open Go.RowKit
set_option linter.unusedVariables false
set_option linter.unusedSimpArgs false
theorem plen12 (l : List UInt8) : (pointsOf l).length ≤ l.length := by
  have : ∀ (n : Nat) (l : List UInt8), l.length ≤ n → (pointsOf l).length ≤ l.length := by
    intro n
    induction n with
    | zero => intro l h; obtain rfl : l = [] := List.eq_nil_of_length_eq_zero (by omega); simp [pointsOf_nil]
    | succ n ih =>
      intro l h
      rcases Nat.eq_zero_or_pos l.length with h0 | h0
      · obtain rfl : l = [] := List.eq_nil_of_length_eq_zero h0; simp [pointsOf_nil]
      · obtain ⟨p, k, more, hd⟩ := dec_ex l true
        rcases dec_step h0 hd with ⟨_, h2, _⟩ | ⟨rfl, h1, h2, _, _⟩
        · cases h2
        · rw [pointsOf_step h0 hd, List.length_cons]
          have := ih (l.drop k.toNat) (by rw [List.length_drop]; omega)
          rw [List.length_drop] at this
          omega
  exact this l.length l (Nat.le_refl _)
theorem numF_step {q : List Int} {j : Nat} {cc : Int} (h : cl3 q j = cc) : numF q (j + 1) = numF q j + (if cc = 2 then 1 else 0) := by rw [numF, h]
theorem kinF_step {q : List Int} {j : Nat} {cc z : Int} {sp : Bool} (h : cl3 q j = cc) (hz : lastC q j = z) : kinF sp q (j + 1) = kinF sp q j + (if cc ≠ z ∧ ¬ (j = 1 ∧ sp = true ∧ cc ≠ 3) then 1 else 0) := by
  have hi : newC sp q j ↔ (cc ≠ z ∧ ¬ (j = 1 ∧ sp = true ∧ cc ≠ 3)) := by unfold newC; rw [h, hz]
  rw [kinF]
  by_cases g : newC sp q j
  · rw [if_pos g, if_pos (hi.1 g)]
  · rw [if_neg g, if_neg (fun x => g (hi.2 x))]
theorem cls_ofT (p : Int) : clsT usualT p = ofT p usualT := by unfold clsT; rw [if_pos usual_may12]
set_option maxRecDepth 100000 in
set_option maxHeartbeats 16000000 in
theorem walkScanPieces (w : World) (hU : UsualAt w) (kind : Int) {A : Option Addr} {n c : Nat} {l : List UInt8} (h : BytesAt w w.heap.size A n c l) :
    Calls Tryd.prog 8 #[.int .i64 kind, .slice A n c] w fun e w' => e = .returned (.bool true) ∧ Below w.heap.size w w' := by
  have hcap' := h.2.2.1
  have hcn' := h.2.1
  unfold maxLen at hcap'
  have HU := Lib.hid hU
  have HB := Lib.hid h
  have HL := Lib.hid h.len
  clear hU h
  by_cases hbig : 200 < n ∨ kind < 1 ∨ 3 < kind
  · by_cases h1 : 200 < n
    · have h1' : (200 : Int) < (n : Int) := by omega
      clear hbig
      go_enter Tryd.func8, Tryd.ntmps8
      go_wp2_with fail
      refine (fixed12 w HU.out).mono ?_
      rintro e w' ⟨rfl, hb⟩
      have HE := Lib.hid hb
      go_wp2_with fail
      go_ret
      exact ⟨rfl, HE.out⟩
    · have h1' : ¬ (200 : Int) < (n : Int) := by omega
      by_cases h2 : kind < 1
      · clear hbig
        go_enter Tryd.func8, Tryd.ntmps8
        go_wp2_with fail
        refine (fixed12 w HU.out).mono ?_
        rintro e w' ⟨rfl, hb⟩
        have HE := Lib.hid hb
        go_wp2_with fail
        go_ret
        exact ⟨rfl, HE.out⟩
      · have h3 : 3 < kind := by omega
        clear hbig
        go_enter Tryd.func8, Tryd.ntmps8
        go_wp2_with fail
        refine (fixed12 w HU.out).mono ?_
        rintro e w' ⟨rfl, hb⟩
        have HE := Lib.hid hb
        go_wp2_with fail
        go_ret
        exact ⟨rfl, HE.out⟩
  · have h1 : ¬ 200 < n := fun e => hbig (.inl e)
    have h1' : ¬ (200 : Int) < (n : Int) := by omega
    have h2 : ¬ kind < 1 := fun e => hbig (.inr (.inl e))
    have h3 : ¬ 3 < kind := fun e => hbig (.inr (.inr e))
    have HS := Lib.hid (show n ≤ 200 from by omega)
    have HK := Lib.hid (show 1 ≤ kind ∧ kind ≤ 3 from by omega)
    clear hbig
    go_enter Tryd.func8, Tryd.ntmps8
    go_wp2_with fail
    go_loopw [5] (fun v wr => ∃ (A1 : Option Addr) (n1 c1 : Nat) (l1 : List UInt8), v = .slice A1 n1 c1 ∧ n1 ≤ n ∧ c1 ≤ c ∧ Hid (BytesAt wr w.heap.size A1 n1 c1 l1) ∧ Hid (Below w.heap.size w wr)) (fun v _ => lenOf v)
    case atStart => exact ⟨A, n, c, l, rfl, Nat.le_refl _, Nat.le_refl _, HB, Lib.hid (Below.refl _ _)⟩
    case round =>
      obtain ⟨A1, n1, c1, l1, rfl, hn1, hc1, HB1, HW⟩ := hrel
      have hc1n := HB1.out.2.1
      have hl1 := HB1.out.len
      by_cases h0 : n1 = 0
      · subst h0
        clear hl1
        go_wp2_with fail
        refine (fixed12 wr (HU.out.later HW.out)).mono ?_
        rintro e w3 ⟨rfl, hb3⟩
        have HW3 := Lib.hid (HW.out.trans (hb3.mono HW.out.size))
        clear hb3
        go_wp2_with fail
        go_ret
        exact ⟨rfl, HW3.out⟩
      · have h0' : (0 : Int) < (n1 : Int) := by omega
        have hne : l1 ≠ [] := fun e => h0 (by rw [hl1, e]; rfl)
        obtain ⟨r, hr⟩ : ∃ r, (nextP kind usualT l1 true).1 = r := ⟨_, rfl⟩
        have hrr : nextP kind usualT l1 true = (r, true) := by rw [← hr, next_some hne usual_may12 HK.out.1 HK.out.2]; rfl
        have hbd := next_bounds (kind := kind) (t := usualT) true hne usual_may12 (by have := HK.out; omega) HK.out.2
        rw [hr] at hbd
        obtain ⟨hbd1, hbd2⟩ := hbd
        rw [← hl1] at hbd2
        have HOK := Lib.hid (pieces_ok hne HK.out.1 HK.out.2 hr)
        obtain ⟨b0, off0, rfl, hlt0, hcells⟩ := HB1.out.cells (by omega)
        obtain ⟨x0, hx0⟩ : ∃ x0, l1[0]'(by omega) = x0 := ⟨_, rfl⟩
        have hcx : wr.cell? ⟨b0, off0, none⟩ = some (.int .u8 (x0.toNat : Int)) := by have := hcells 0 (by omega); rw [hx0] at this; exact this
        have HX0 := Lib.hid (show l1[0]? = some x0 from by rw [List.getElem?_eq_getElem (by omega), hx0])
        have HCX := Lib.hid hcx
        have hbd3 : ¬ (r : Int) < 1 := by omega
        have hbd4 : ¬ (n1 : Int) < (r : Int) := by omega
        have hbd5 : (r : Int) ≤ (n1 : Int) := by omega
        have hbd6 : (r : Int) ≤ (c1 : Int) := by omega
        have hbd7 : decide ((r : Int) < 1) = false := decide_eq_false hbd3
        have hbd8 : decide ((n1 : Int) < (r : Int)) = false := decide_eq_false hbd4
        have HN := Lib.hid hrr
        have HL1 := Lib.hid hl1
        clear hr hrr hl1 hne hcells hx0 hcx
        go_wp2_with fail
        refine (susual_any wr (HU.out.later HW.out)).mono ?_
        rintro e w2 ⟨At, ct, rfl, ht2, hb2⟩
        have HT2 := Lib.hid ht2
        have HW2 := Lib.hid (HW.out.trans (hb2.mono HW.out.size))
        have HB2 := Lib.hid (show BytesAt w2 w.heap.size (some ⟨b0, off0, none⟩) n1 c1 l1 from RowAt.below HB1.out (hb2.mono HW.out.size))
        have HC2 := Lib.hid ((hb2.cell (p := ⟨b0, off0, none⟩) (by have := HW.out.size; show b0 < _; omega)).trans HCX.out)
        clear ht2 hb2
        go_wp2_with fail
        refine (next_any kind true w2 (RowAt.mono HB2.out HW2.out.size) HT2.out (by omega) (by have := HS.out; have := HL1.out; omega) HN.out).mono ?_
        rintro e w3 ⟨rfl, hb3⟩
        have HW3 := Lib.hid (HW2.out.trans (hb3.mono HW2.out.size))
        have HB3 := Lib.hid (show BytesAt w3 w.heap.size (some ⟨b0, off0, none⟩) n1 c1 l1 from RowAt.below HB2.out (hb3.mono HW2.out.size))
        have HC3 := Lib.hid ((hb3.cell (p := ⟨b0, off0, none⟩) (by have := HW2.out.size; show b0 < _; omega)).trans HC2.out)
        have hcv := run_string_bytes (P := Tryd.prog) 23 9 5 Tryd.underlying23 Tryd.underlying5 Tryd.underlying9 (HB3.out.to_ (k := r) (by omega))
        clear hb3
        go_wp2_with fail
        refine (rpoints_any (strOf (l1.take r)) w3 (by rw [strOf_size, List.length_take]; omega)).mono ?_
        rw [strOf_list]
        rintro e w4 ⟨v, rfl, hown, hb4⟩
        obtain ⟨q, hq⟩ : ∃ q, pointsOf (l1.take r) = q := ⟨_, rfl⟩
        have hql := plen12 (l1.take r)
        rw [hq] at hown hql
        rw [List.length_take] at hql
        obtain ⟨Aq, cq, rfl⟩ := own_form hown
        have HQ4 := Lib.hid (show IntsAt w4 w4.heap.size Aq q.length cq q from RowAt.of_own hown)
        have hqcap := HQ4.out.2.2.1
        have hqc := HQ4.out.2.1
        unfold maxLen at hqcap
        have hq200 : q.length ≤ 200 := by omega
        have HOK2 := Lib.hid (show PieceOk kind l1 r q from by rw [← hq]; exact HOK.out)
        have HW4 := Lib.hid (HW3.out.trans (hb4.mono HW3.out.size))
        have HB4 := Lib.hid (show BytesAt w4 w.heap.size (some ⟨b0, off0, none⟩) n1 c1 l1 from RowAt.below HB3.out (hb4.mono HW3.out.size))
        have HC4 := Lib.hid ((hb4.cell (p := ⟨b0, off0, none⟩) (by have := HW3.out.size; show b0 < _; omega)).trans HC3.out)
        obtain ⟨sp, hsp⟩ : ∃ sp, decide (l1[0]? = some 32) = sp := ⟨_, rfl⟩
        have HSP := Lib.hid hsp
        clear hown hb4 hq hql hsp hcv HOK HB2 HB3 HC2 HC3 HT2 HN HCX
        go_wp2_with fail
        go_loopw [8, 9, 10, 51] (fun nu ki la i ws => ∃ (j nuv kiv : Nat) (z : Int), nu = .int .i64 nuv ∧ ki = .int .i64 kiv ∧ la = .int .i64 z ∧ i = .int .i64 j ∧ j ≤ q.length ∧ Hid (numF q j = nuv) ∧ Hid (kinF sp q j = kiv) ∧ Hid (lastC q j = z) ∧ Hid (Below w4.heap.size w4 ws)) (fun _ _ _ i _ => q.length - (intOf i).toNat)
        case atStart => exact ⟨0, 0, 0, -1, rfl, rfl, rfl, rfl, Nat.zero_le _, Lib.hid rfl, Lib.hid rfl, Lib.hid rfl, Lib.hid (Below.refl _ _)⟩
        case round =>
          obtain ⟨j, nuv, kiv, z, rfl, rfl, rfl, rfl, hj, HNU, HKI, HZ, HWS⟩ := hrel
          by_cases hlt : j < q.length
          · obtain ⟨bq, oq, rfl, hbq, hcq⟩ := HQ4.out.cells (by omega)
            obtain ⟨pt, hpt⟩ : ∃ pt, q[j]'hlt = pt := ⟨_, rfl⟩
            have hcq' : wr.cell? ⟨bq, oq + j, none⟩ = some (.int .i64 pt) := by rw [HWS.out.cell (p := ⟨bq, oq + j, none⟩) hbq, hcq j hlt, hpt]
            obtain ⟨rc, hrc⟩ : ∃ rc, ofT pt usualT = rc := ⟨_, rfl⟩
            have hcl : cl3 q j = mapC rc := by unfold cl3; rw [cls_ofT, List.getD_eq_getElem?_getD, List.getElem?_eq_getElem hlt]; simp only [Option.getD_some]; rw [hpt, hrc]
            have HCL := Lib.hid hcl
            have HRC := Lib.hid hrc
            have HWN := Lib.hid (HW4.out.trans (HWS.out.mono HW4.out.size))
            have HCW := Lib.hid ((HWS.out.cell (p := ⟨b0, off0, none⟩) (by have := HW4.out.size; show b0 < _; omega)).trans HC4.out)
            have hnul : nuv ≤ 200 := by have := numF_le q j; have := HNU.out; omega
            have hkil : kiv ≤ 200 := by have := kinF_le sp q j; have := HKI.out; omega
            have hz0 : z = -1 ∨ 0 ≤ z := by
              have := HZ.out
              cases j with
              | zero => left; rw [← this]; rfl
              | succ j => right; rw [← this]; exact (cl3_bd q j).1
            have hj0 : j = 0 → z = -1 := fun e => by have := HZ.out; rw [e] at this; exact this.symm
            clear hcq hcl hrc hpt
            go_wp2_with fail
            refine (susual_any wr (HU.out.later HWN.out)).mono ?_
            rintro e w5 ⟨At5, ct5, rfl, ht5, hb5⟩
            have HT5 := Lib.hid ht5
            have HW5 := Lib.hid (HWS.out.trans (hb5.mono HWS.out.size))
            have hcx : w5.cell? ⟨b0, off0, none⟩ = some (.int .u8 (x0.toNat : Int)) := (hb5.cell (p := ⟨b0, off0, none⟩) (by have := HWN.out.size; show b0 < _; omega)).trans HCW.out
            have HCX5 := Lib.hid hcx
            clear ht5 hb5 hcx hcq'
            go_wp2_with fail
            refine (rof_as w5 HT5.out HRC).mono ?_
            rintro e w6 ⟨rfl, rfl⟩
            have hcx := HCX5.out
            obtain ⟨cc, hcc⟩ : ∃ cc, cl3 q j = cc := ⟨_, rfl⟩
            have HCC := Lib.hid hcc
            have hcc2 : mapC rc = cc := by rw [← HCL.out]; exact hcc
            have hnum := numF_step hcc
            have hkin := kinF_step hcc HZ.out (j := j) (sp := sp)
            have HNUM := Lib.hid hnum
            have HKIN := Lib.hid hkin
            have HLAST := Lib.hid (show lastC q (j + 1) = cc from hcc)
            have h16 : kind = 1 → cc = 3 → 0 ≤ z → z = 3 := fun e1 e2 e3 => by
              have := HOK2.out.1 e1 j hlt (by rw [hcc]; exact e2) (by rw [HZ.out]; exact e3)
              rw [HZ.out] at this; exact this
            have hx32 : sp = decide (x0 = 32) := by rw [← HSP.out, HX0.out]; simp
            clear hcc hnum hkin HCL HRC HQ4 HCX5 HC4 HB1 HB4 HT5 HOK2 HB HU
            -- LEAVES
            have hj1z : j < q.length := hlt
            by_cases r4 : rc = 4
            · subst r4
              obtain rfl : 3 = cc := hcc2
              by_cases hk1 : kind = 1
              · have h16' := h16 hk1 rfl
                have hk1b := beq_yes (a := kind) (b := 1) hk1
                clear hk1 h16
                rcases hz0 with hz1 | hz1
                · subst hz1
                  have hzc : ¬ ((3 : Int) = -1) := by decide
                  clear h16'
                  by_cases hj1 : j = 1
                  · have hj1' : (j : Int) = 1 := by omega
                    have hj1b := beq_yes (a := (j : Int)) (b := 1) hj1'
                    by_cases hx : x0 = 32
                    · have hsp1 : sp = true := by rw [hx32, hx]; rfl
                      subst hx
                      have hcx' : w5.cell? ⟨b0, off0, none⟩ = some (.int .u8 32) := hcx
                      clear hcx
                      have HC1 := Lib.hid (And.intro hj1 hzc)
                      clear hj1 hj1'
                      go_wp2_with fail
                      go_roundw
                      case rel => exact ⟨j + 1, nuv, kiv + 1, _, by go_num, by go_num, rfl, by go_num, by omega, Lib.hid (by rw [HNUM.out, HNU.out]; simp), Lib.hid (by rw [HKIN.out, HKI.out]; simp [HC1.out]), HLAST, HW5⟩
                      case measure => show q.length - ((j : Int) + 1).toNat < q.length - ((j : Int)).toNat; omega
                    · have hsp0 : sp = false := by rw [hx32]; simp [hx]
                      have hx' := beq_no (a := (x0.toNat : Int)) (b := 32) (fun e => hx (UInt8.toNat_inj.1 (by show _ = 32; omega)))
                      have HC1 := Lib.hid (And.intro hsp0 hzc)
                      clear hj1 hj1'
                      go_wp2_with fail
                      go_roundw
                      case rel => exact ⟨j + 1, nuv, kiv + 1, _, by go_num, by go_num, rfl, by go_num, by omega, Lib.hid (by rw [HNUM.out, HNU.out]; simp), Lib.hid (by rw [HKIN.out, HKI.out]; simp [HC1.out]), HLAST, HW5⟩
                      case measure => show q.length - ((j : Int) + 1).toNat < q.length - ((j : Int)).toNat; omega
                  · have hj1' : ¬ (j : Int) = 1 := by omega
                    have hj1b := beq_no (a := (j : Int)) (b := 1) hj1'
                    have HC1 := Lib.hid (And.intro hj1 hzc)
                    clear hj1 hj1'
                    go_wp2_with fail
                    go_roundw
                    case rel => exact ⟨j + 1, nuv, kiv + 1, _, by go_num, by go_num, rfl, by go_num, by omega, Lib.hid (by rw [HNUM.out, HNU.out]; simp), Lib.hid (by rw [HKIN.out, HKI.out]; simp [HC1.out]), HLAST, HW5⟩
                    case measure => show q.length - ((j : Int) + 1).toNat < q.length - ((j : Int)).toNat; omega
                · have hz3 := h16' hz1
                  subst hz3
                  have HC1 := Lib.hid hj1z
                  go_wp2_with fail
                  go_roundw
                  case rel => exact ⟨j + 1, nuv, kiv, _, by go_num, by go_num, rfl, by go_num, by omega, Lib.hid (by rw [HNUM.out, HNU.out]; simp), Lib.hid (by rw [HKIN.out, HKI.out]; simp [HC1.out]), HLAST, HW5⟩
                  case measure => show q.length - ((j : Int) + 1).toNat < q.length - ((j : Int)).toNat; omega
              · have hk1b := beq_no (a := kind) (b := 1) hk1
                by_cases hzc : 3 = z
                · subst hzc
                  have HC1 := Lib.hid hj1z
                  go_wp2_with fail
                  go_roundw
                  case rel => exact ⟨j + 1, nuv, kiv, _, by go_num, by go_num, rfl, by go_num, by omega, Lib.hid (by rw [HNUM.out, HNU.out]; simp), Lib.hid (by rw [HKIN.out, HKI.out]; simp [HC1.out]), HLAST, HW5⟩
                  case measure => show q.length - ((j : Int) + 1).toNat < q.length - ((j : Int)).toNat; omega
                · have hzb := bne_yes (a := (3 : Int)) (b := z) hzc
                  by_cases hj1 : j = 1
                  · have hj1' : (j : Int) = 1 := by omega
                    have hj1b := beq_yes (a := (j : Int)) (b := 1) hj1'
                    by_cases hx : x0 = 32
                    · have hsp1 : sp = true := by rw [hx32, hx]; rfl
                      subst hx
                      have hcx' : w5.cell? ⟨b0, off0, none⟩ = some (.int .u8 32) := hcx
                      clear hcx
                      have HC1 := Lib.hid (And.intro hj1 hzc)
                      clear hj1 hj1'
                      go_wp2_with fail
                      go_roundw
                      case rel => exact ⟨j + 1, nuv, kiv + 1, _, by go_num, by go_num, rfl, by go_num, by omega, Lib.hid (by rw [HNUM.out, HNU.out]; simp), Lib.hid (by rw [HKIN.out, HKI.out]; simp [HC1.out]), HLAST, HW5⟩
                      case measure => show q.length - ((j : Int) + 1).toNat < q.length - ((j : Int)).toNat; omega
                    · have hsp0 : sp = false := by rw [hx32]; simp [hx]
                      have hx' := beq_no (a := (x0.toNat : Int)) (b := 32) (fun e => hx (UInt8.toNat_inj.1 (by show _ = 32; omega)))
                      have HC1 := Lib.hid (And.intro hsp0 hzc)
                      clear hj1 hj1'
                      go_wp2_with fail
                      go_roundw
                      case rel => exact ⟨j + 1, nuv, kiv + 1, _, by go_num, by go_num, rfl, by go_num, by omega, Lib.hid (by rw [HNUM.out, HNU.out]; simp), Lib.hid (by rw [HKIN.out, HKI.out]; simp [HC1.out]), HLAST, HW5⟩
                      case measure => show q.length - ((j : Int) + 1).toNat < q.length - ((j : Int)).toNat; omega
                  · have hj1' : ¬ (j : Int) = 1 := by omega
                    have hj1b := beq_no (a := (j : Int)) (b := 1) hj1'
                    have HC1 := Lib.hid (And.intro hj1 hzc)
                    clear hj1 hj1'
                    go_wp2_with fail
                    go_roundw
                    case rel => exact ⟨j + 1, nuv, kiv + 1, _, by go_num, by go_num, rfl, by go_num, by omega, Lib.hid (by rw [HNUM.out, HNU.out]; simp), Lib.hid (by rw [HKIN.out, HKI.out]; simp [HC1.out]), HLAST, HW5⟩
                    case measure => show q.length - ((j : Int) + 1).toNat < q.length - ((j : Int)).toNat; omega
            · obtain rfl : rc = cc := by rw [← hcc2]; unfold mapC; rw [if_neg r4]
              by_cases hc3 : rc = 3
              · subst hc3
                by_cases hk1 : kind = 1
                · have h16' := h16 hk1 rfl
                  have hk1b := beq_yes (a := kind) (b := 1) hk1
                  clear hk1 h16
                  rcases hz0 with hz1 | hz1
                  · subst hz1
                    have hzc : ¬ ((3 : Int) = -1) := by decide
                    clear h16'
                    by_cases hj1 : j = 1
                    · have hj1' : (j : Int) = 1 := by omega
                      have hj1b := beq_yes (a := (j : Int)) (b := 1) hj1'
                      by_cases hx : x0 = 32
                      · have hsp1 : sp = true := by rw [hx32, hx]; rfl
                        subst hx
                        have hcx' : w5.cell? ⟨b0, off0, none⟩ = some (.int .u8 32) := hcx
                        clear hcx
                        have HC1 := Lib.hid (And.intro hj1 hzc)
                        clear hj1 hj1'
                        go_wp2_with fail
                        go_roundw
                        case rel => exact ⟨j + 1, nuv, kiv + 1, _, by go_num, by go_num, rfl, by go_num, by omega, Lib.hid (by rw [HNUM.out, HNU.out]; simp), Lib.hid (by rw [HKIN.out, HKI.out]; simp [HC1.out]), HLAST, HW5⟩
                        case measure => show q.length - ((j : Int) + 1).toNat < q.length - ((j : Int)).toNat; omega
                      · have hsp0 : sp = false := by rw [hx32]; simp [hx]
                        have hx' := beq_no (a := (x0.toNat : Int)) (b := 32) (fun e => hx (UInt8.toNat_inj.1 (by show _ = 32; omega)))
                        have HC1 := Lib.hid (And.intro hsp0 hzc)
                        clear hj1 hj1'
                        go_wp2_with fail
                        go_roundw
                        case rel => exact ⟨j + 1, nuv, kiv + 1, _, by go_num, by go_num, rfl, by go_num, by omega, Lib.hid (by rw [HNUM.out, HNU.out]; simp), Lib.hid (by rw [HKIN.out, HKI.out]; simp [HC1.out]), HLAST, HW5⟩
                        case measure => show q.length - ((j : Int) + 1).toNat < q.length - ((j : Int)).toNat; omega
                    · have hj1' : ¬ (j : Int) = 1 := by omega
                      have hj1b := beq_no (a := (j : Int)) (b := 1) hj1'
                      have HC1 := Lib.hid (And.intro hj1 hzc)
                      clear hj1 hj1'
                      go_wp2_with fail
                      go_roundw
                      case rel => exact ⟨j + 1, nuv, kiv + 1, _, by go_num, by go_num, rfl, by go_num, by omega, Lib.hid (by rw [HNUM.out, HNU.out]; simp), Lib.hid (by rw [HKIN.out, HKI.out]; simp [HC1.out]), HLAST, HW5⟩
                      case measure => show q.length - ((j : Int) + 1).toNat < q.length - ((j : Int)).toNat; omega
                  · have hz3 := h16' hz1
                    subst hz3
                    have HC1 := Lib.hid hj1z
                    go_wp2_with fail
                    go_roundw
                    case rel => exact ⟨j + 1, nuv, kiv, _, by go_num, by go_num, rfl, by go_num, by omega, Lib.hid (by rw [HNUM.out, HNU.out]; simp), Lib.hid (by rw [HKIN.out, HKI.out]; simp [HC1.out]), HLAST, HW5⟩
                    case measure => show q.length - ((j : Int) + 1).toNat < q.length - ((j : Int)).toNat; omega
                · have hk1b := beq_no (a := kind) (b := 1) hk1
                  by_cases hzc : 3 = z
                  · subst hzc
                    have HC1 := Lib.hid hj1z
                    go_wp2_with fail
                    go_roundw
                    case rel => exact ⟨j + 1, nuv, kiv, _, by go_num, by go_num, rfl, by go_num, by omega, Lib.hid (by rw [HNUM.out, HNU.out]; simp), Lib.hid (by rw [HKIN.out, HKI.out]; simp [HC1.out]), HLAST, HW5⟩
                    case measure => show q.length - ((j : Int) + 1).toNat < q.length - ((j : Int)).toNat; omega
                  · have hzb := bne_yes (a := (3 : Int)) (b := z) hzc
                    by_cases hj1 : j = 1
                    · have hj1' : (j : Int) = 1 := by omega
                      have hj1b := beq_yes (a := (j : Int)) (b := 1) hj1'
                      by_cases hx : x0 = 32
                      · have hsp1 : sp = true := by rw [hx32, hx]; rfl
                        subst hx
                        have hcx' : w5.cell? ⟨b0, off0, none⟩ = some (.int .u8 32) := hcx
                        clear hcx
                        have HC1 := Lib.hid (And.intro hj1 hzc)
                        clear hj1 hj1'
                        go_wp2_with fail
                        go_roundw
                        case rel => exact ⟨j + 1, nuv, kiv + 1, _, by go_num, by go_num, rfl, by go_num, by omega, Lib.hid (by rw [HNUM.out, HNU.out]; simp), Lib.hid (by rw [HKIN.out, HKI.out]; simp [HC1.out]), HLAST, HW5⟩
                        case measure => show q.length - ((j : Int) + 1).toNat < q.length - ((j : Int)).toNat; omega
                      · have hsp0 : sp = false := by rw [hx32]; simp [hx]
                        have hx' := beq_no (a := (x0.toNat : Int)) (b := 32) (fun e => hx (UInt8.toNat_inj.1 (by show _ = 32; omega)))
                        have HC1 := Lib.hid (And.intro hsp0 hzc)
                        clear hj1 hj1'
                        go_wp2_with fail
                        go_roundw
                        case rel => exact ⟨j + 1, nuv, kiv + 1, _, by go_num, by go_num, rfl, by go_num, by omega, Lib.hid (by rw [HNUM.out, HNU.out]; simp), Lib.hid (by rw [HKIN.out, HKI.out]; simp [HC1.out]), HLAST, HW5⟩
                        case measure => show q.length - ((j : Int) + 1).toNat < q.length - ((j : Int)).toNat; omega
                    · have hj1' : ¬ (j : Int) = 1 := by omega
                      have hj1b := beq_no (a := (j : Int)) (b := 1) hj1'
                      have HC1 := Lib.hid (And.intro hj1 hzc)
                      clear hj1 hj1'
                      go_wp2_with fail
                      go_roundw
                      case rel => exact ⟨j + 1, nuv, kiv + 1, _, by go_num, by go_num, rfl, by go_num, by omega, Lib.hid (by rw [HNUM.out, HNU.out]; simp), Lib.hid (by rw [HKIN.out, HKI.out]; simp [HC1.out]), HLAST, HW5⟩
                      case measure => show q.length - ((j : Int) + 1).toNat < q.length - ((j : Int)).toNat; omega
              · have r4b := beq_no (a := rc) (b := 4) r4
                have hc3b := beq_no (a := rc) (b := 3) hc3
                have hc3n := bne_yes (a := rc) (b := 3) hc3
                by_cases hc2 : rc = 2
                · subst hc2
                  by_cases hk1 : kind = 1
                  · have hk1b := beq_yes (a := kind) (b := 1) hk1
                    clear hk1 h16
                    by_cases hzc : 2 = z
                    · subst hzc
                      have HC1 := Lib.hid hj1z
                      go_wp2_with fail
                      go_roundw
                      case rel => exact ⟨j + 1, nuv + 1, kiv, _, by go_num, by go_num, rfl, by go_num, by omega, Lib.hid (by rw [HNUM.out, HNU.out]; simp), Lib.hid (by rw [HKIN.out, HKI.out]; simp [HC1.out]), HLAST, HW5⟩
                      case measure => show q.length - ((j : Int) + 1).toNat < q.length - ((j : Int)).toNat; omega
                    · have hzb := bne_yes (a := (2 : Int)) (b := z) hzc
                      by_cases hj1 : j = 1
                      · have hj1' : (j : Int) = 1 := by omega
                        have hj1b := beq_yes (a := (j : Int)) (b := 1) hj1'
                        by_cases hx : x0 = 32
                        · have hsp1 : sp = true := by rw [hx32, hx]; rfl
                          subst hx
                          have hcx' : w5.cell? ⟨b0, off0, none⟩ = some (.int .u8 32) := hcx
                          clear hcx
                          have HC1 := Lib.hid (And.intro hj1 hsp1)
                          clear hj1 hj1'
                          go_wp2_with fail
                          go_roundw
                          case rel => exact ⟨j + 1, nuv + 1, kiv, _, by go_num, by go_num, rfl, by go_num, by omega, Lib.hid (by rw [HNUM.out, HNU.out]; simp), Lib.hid (by rw [HKIN.out, HKI.out]; simp [HC1.out]), HLAST, HW5⟩
                          case measure => show q.length - ((j : Int) + 1).toNat < q.length - ((j : Int)).toNat; omega
                        · have hsp0 : sp = false := by rw [hx32]; simp [hx]
                          have hx' := beq_no (a := (x0.toNat : Int)) (b := 32) (fun e => hx (UInt8.toNat_inj.1 (by show _ = 32; omega)))
                          have HC1 := Lib.hid (And.intro hsp0 hzc)
                          clear hj1 hj1'
                          go_wp2_with fail
                          go_roundw
                          case rel => exact ⟨j + 1, nuv + 1, kiv + 1, _, by go_num, by go_num, rfl, by go_num, by omega, Lib.hid (by rw [HNUM.out, HNU.out]; simp), Lib.hid (by rw [HKIN.out, HKI.out]; simp [HC1.out]), HLAST, HW5⟩
                          case measure => show q.length - ((j : Int) + 1).toNat < q.length - ((j : Int)).toNat; omega
                      · have hj1' : ¬ (j : Int) = 1 := by omega
                        have hj1b := beq_no (a := (j : Int)) (b := 1) hj1'
                        have HC1 := Lib.hid (And.intro hj1 hzc)
                        clear hj1 hj1'
                        go_wp2_with fail
                        go_roundw
                        case rel => exact ⟨j + 1, nuv + 1, kiv + 1, _, by go_num, by go_num, rfl, by go_num, by omega, Lib.hid (by rw [HNUM.out, HNU.out]; simp), Lib.hid (by rw [HKIN.out, HKI.out]; simp [HC1.out]), HLAST, HW5⟩
                        case measure => show q.length - ((j : Int) + 1).toNat < q.length - ((j : Int)).toNat; omega
                  · have hk1b := beq_no (a := kind) (b := 1) hk1
                    by_cases hzc : 2 = z
                    · subst hzc
                      have HC1 := Lib.hid hj1z
                      go_wp2_with fail
                      go_roundw
                      case rel => exact ⟨j + 1, nuv + 1, kiv, _, by go_num, by go_num, rfl, by go_num, by omega, Lib.hid (by rw [HNUM.out, HNU.out]; simp), Lib.hid (by rw [HKIN.out, HKI.out]; simp [HC1.out]), HLAST, HW5⟩
                      case measure => show q.length - ((j : Int) + 1).toNat < q.length - ((j : Int)).toNat; omega
                    · have hzb := bne_yes (a := (2 : Int)) (b := z) hzc
                      by_cases hj1 : j = 1
                      · have hj1' : (j : Int) = 1 := by omega
                        have hj1b := beq_yes (a := (j : Int)) (b := 1) hj1'
                        by_cases hx : x0 = 32
                        · have hsp1 : sp = true := by rw [hx32, hx]; rfl
                          subst hx
                          have hcx' : w5.cell? ⟨b0, off0, none⟩ = some (.int .u8 32) := hcx
                          clear hcx
                          have HC1 := Lib.hid (And.intro hj1 hsp1)
                          clear hj1 hj1'
                          go_wp2_with fail
                          go_roundw
                          case rel => exact ⟨j + 1, nuv + 1, kiv, _, by go_num, by go_num, rfl, by go_num, by omega, Lib.hid (by rw [HNUM.out, HNU.out]; simp), Lib.hid (by rw [HKIN.out, HKI.out]; simp [HC1.out]), HLAST, HW5⟩
                          case measure => show q.length - ((j : Int) + 1).toNat < q.length - ((j : Int)).toNat; omega
                        · have hsp0 : sp = false := by rw [hx32]; simp [hx]
                          have hx' := beq_no (a := (x0.toNat : Int)) (b := 32) (fun e => hx (UInt8.toNat_inj.1 (by show _ = 32; omega)))
                          have HC1 := Lib.hid (And.intro hsp0 hzc)
                          clear hj1 hj1'
                          go_wp2_with fail
                          go_roundw
                          case rel => exact ⟨j + 1, nuv + 1, kiv + 1, _, by go_num, by go_num, rfl, by go_num, by omega, Lib.hid (by rw [HNUM.out, HNU.out]; simp), Lib.hid (by rw [HKIN.out, HKI.out]; simp [HC1.out]), HLAST, HW5⟩
                          case measure => show q.length - ((j : Int) + 1).toNat < q.length - ((j : Int)).toNat; omega
                      · have hj1' : ¬ (j : Int) = 1 := by omega
                        have hj1b := beq_no (a := (j : Int)) (b := 1) hj1'
                        have HC1 := Lib.hid (And.intro hj1 hzc)
                        clear hj1 hj1'
                        go_wp2_with fail
                        go_roundw
                        case rel => exact ⟨j + 1, nuv + 1, kiv + 1, _, by go_num, by go_num, rfl, by go_num, by omega, Lib.hid (by rw [HNUM.out, HNU.out]; simp), Lib.hid (by rw [HKIN.out, HKI.out]; simp [HC1.out]), HLAST, HW5⟩
                        case measure => show q.length - ((j : Int) + 1).toNat < q.length - ((j : Int)).toNat; omega
                · have hc2b := beq_no (a := rc) (b := 2) hc2
                  by_cases hk1 : kind = 1
                  · have hk1b := beq_yes (a := kind) (b := 1) hk1
                    clear hk1 h16
                    by_cases hzc : rc = z
                    · subst hzc
                      have HC1 := Lib.hid hj1z
                      go_wp2_with fail
                      go_roundw
                      case rel => exact ⟨j + 1, nuv, kiv, _, by go_num, by go_num, rfl, by go_num, by omega, Lib.hid (by rw [HNUM.out, HNU.out]; simp [hc2]), Lib.hid (by rw [HKIN.out, HKI.out]; simp [HC1.out]), HLAST, HW5⟩
                      case measure => show q.length - ((j : Int) + 1).toNat < q.length - ((j : Int)).toNat; omega
                    · have hzb := bne_yes (a := (rc : Int)) (b := z) hzc
                      by_cases hj1 : j = 1
                      · have hj1' : (j : Int) = 1 := by omega
                        have hj1b := beq_yes (a := (j : Int)) (b := 1) hj1'
                        by_cases hx : x0 = 32
                        · have hsp1 : sp = true := by rw [hx32, hx]; rfl
                          subst hx
                          have hcx' : w5.cell? ⟨b0, off0, none⟩ = some (.int .u8 32) := hcx
                          clear hcx
                          have HC1 := Lib.hid (And.intro hj1 (And.intro hsp1 hc3))
                          clear hj1 hj1'
                          go_wp2_with fail
                          go_roundw
                          case rel => exact ⟨j + 1, nuv, kiv, _, by go_num, by go_num, rfl, by go_num, by omega, Lib.hid (by rw [HNUM.out, HNU.out]; simp [hc2]), Lib.hid (by rw [HKIN.out, HKI.out]; simp [HC1.out]), HLAST, HW5⟩
                          case measure => show q.length - ((j : Int) + 1).toNat < q.length - ((j : Int)).toNat; omega
                        · have hsp0 : sp = false := by rw [hx32]; simp [hx]
                          have hx' := beq_no (a := (x0.toNat : Int)) (b := 32) (fun e => hx (UInt8.toNat_inj.1 (by show _ = 32; omega)))
                          have HC1 := Lib.hid (And.intro hsp0 hzc)
                          clear hj1 hj1'
                          go_wp2_with fail
                          go_roundw
                          case rel => exact ⟨j + 1, nuv, kiv + 1, _, by go_num, by go_num, rfl, by go_num, by omega, Lib.hid (by rw [HNUM.out, HNU.out]; simp [hc2]), Lib.hid (by rw [HKIN.out, HKI.out]; simp [HC1.out]), HLAST, HW5⟩
                          case measure => show q.length - ((j : Int) + 1).toNat < q.length - ((j : Int)).toNat; omega
                      · have hj1' : ¬ (j : Int) = 1 := by omega
                        have hj1b := beq_no (a := (j : Int)) (b := 1) hj1'
                        have HC1 := Lib.hid (And.intro hj1 hzc)
                        clear hj1 hj1'
                        go_wp2_with fail
                        go_roundw
                        case rel => exact ⟨j + 1, nuv, kiv + 1, _, by go_num, by go_num, rfl, by go_num, by omega, Lib.hid (by rw [HNUM.out, HNU.out]; simp [hc2]), Lib.hid (by rw [HKIN.out, HKI.out]; simp [HC1.out]), HLAST, HW5⟩
                        case measure => show q.length - ((j : Int) + 1).toNat < q.length - ((j : Int)).toNat; omega
                  · have hk1b := beq_no (a := kind) (b := 1) hk1
                    by_cases hzc : rc = z
                    · subst hzc
                      have HC1 := Lib.hid hj1z
                      go_wp2_with fail
                      go_roundw
                      case rel => exact ⟨j + 1, nuv, kiv, _, by go_num, by go_num, rfl, by go_num, by omega, Lib.hid (by rw [HNUM.out, HNU.out]; simp [hc2]), Lib.hid (by rw [HKIN.out, HKI.out]; simp [HC1.out]), HLAST, HW5⟩
                      case measure => show q.length - ((j : Int) + 1).toNat < q.length - ((j : Int)).toNat; omega
                    · have hzb := bne_yes (a := (rc : Int)) (b := z) hzc
                      by_cases hj1 : j = 1
                      · have hj1' : (j : Int) = 1 := by omega
                        have hj1b := beq_yes (a := (j : Int)) (b := 1) hj1'
                        by_cases hx : x0 = 32
                        · have hsp1 : sp = true := by rw [hx32, hx]; rfl
                          subst hx
                          have hcx' : w5.cell? ⟨b0, off0, none⟩ = some (.int .u8 32) := hcx
                          clear hcx
                          have HC1 := Lib.hid (And.intro hj1 (And.intro hsp1 hc3))
                          clear hj1 hj1'
                          go_wp2_with fail
                          go_roundw
                          case rel => exact ⟨j + 1, nuv, kiv, _, by go_num, by go_num, rfl, by go_num, by omega, Lib.hid (by rw [HNUM.out, HNU.out]; simp [hc2]), Lib.hid (by rw [HKIN.out, HKI.out]; simp [HC1.out]), HLAST, HW5⟩
                          case measure => show q.length - ((j : Int) + 1).toNat < q.length - ((j : Int)).toNat; omega
                        · have hsp0 : sp = false := by rw [hx32]; simp [hx]
                          have hx' := beq_no (a := (x0.toNat : Int)) (b := 32) (fun e => hx (UInt8.toNat_inj.1 (by show _ = 32; omega)))
                          have HC1 := Lib.hid (And.intro hsp0 hzc)
                          clear hj1 hj1'
                          go_wp2_with fail
                          go_roundw
                          case rel => exact ⟨j + 1, nuv, kiv + 1, _, by go_num, by go_num, rfl, by go_num, by omega, Lib.hid (by rw [HNUM.out, HNU.out]; simp [hc2]), Lib.hid (by rw [HKIN.out, HKI.out]; simp [HC1.out]), HLAST, HW5⟩
                          case measure => show q.length - ((j : Int) + 1).toNat < q.length - ((j : Int)).toNat; omega
                      · have hj1' : ¬ (j : Int) = 1 := by omega
                        have hj1b := beq_no (a := (j : Int)) (b := 1) hj1'
                        have HC1 := Lib.hid (And.intro hj1 hzc)
                        clear hj1 hj1'
                        go_wp2_with fail
                        go_roundw
                        case rel => exact ⟨j + 1, nuv, kiv + 1, _, by go_num, by go_num, rfl, by go_num, by omega, Lib.hid (by rw [HNUM.out, HNU.out]; simp [hc2]), Lib.hid (by rw [HKIN.out, HKI.out]; simp [HC1.out]), HLAST, HW5⟩
                        case measure => show q.length - ((j : Int) + 1).toNat < q.length - ((j : Int)).toNat; omega
            -- END
          · obtain rfl : j = q.length := by omega
            have HWN := Lib.hid (HW4.out.trans (HWS.out.mono HW4.out.size))
            have hcx : wr.cell? ⟨b0, off0, none⟩ = some (.int .u8 (x0.toNat : Int)) := (HWS.out.cell (p := ⟨b0, off0, none⟩) (by have := HW4.out.size; show b0 < _; omega)).trans HC4.out
            have HBN := Lib.hid (show BytesAt wr w.heap.size (some ⟨b0, off0, none⟩) n1 c1 l1 from RowAt.below HB4.out (HWS.out.mono HW4.out.size))
            have HFR : Hid (BytesAt wr w.heap.size (if c1 = r then some ⟨b0, off0, none⟩ else some ⟨b0, off0 + r, none⟩) (n1 - r) (c1 - r) (l1.drop r)) := Lib.hid (by
              have h := HBN.out.from_ (k := r) (by omega)
              rw [show Option.map (fun x : Addr => x.add r) (some ⟨b0, off0, none⟩) = some ⟨b0, off0 + r, none⟩ from congrArg some (addr_plus b0 off0 r)] at h
              exact h)
            have hnu3 : kind = 3 → nuv ≤ 3 := fun e => by have := HOK2.out.2.1 e; rw [HNU.out] at this; exact this
            have hki2 : kind = 2 → kiv ≤ 1 ∨ (x0 = 39 ∧ r ≤ 3) := fun e => by
              rcases HOK2.out.2.2 e with h | h
              · rw [HSP.out, HKI.out] at h; exact .inl h
              · refine .inr ⟨?_, h.2⟩
                have := h.1; rw [HX0.out] at this; injection this
            have HKK := HK.out
            clear HQ4 HC4 HB1 HB4 HOK2 HNU HKI HZ
            rcases (by omega : kind = 1 ∨ kind = 2 ∨ kind = 3) with hk | hk | hk
            · subst hk
              clear hnu3 hki2
              go_wp2_with fail
              go_roundw
              case rel => exact ⟨_, _, _, _, rfl, by omega, by omega, HFR, HWN⟩
              case measure => simp only [lenOf]; omega
            · have hki := hki2 hk
              subst hk
              clear hnu3 hki2
              by_cases hk1 : kiv ≤ 1
              · have hk1' : ¬ (1 : Int) < (kiv : Int) := by omega
                go_wp2_with fail
                go_roundw
                case rel => exact ⟨_, _, _, _, rfl, by omega, by omega, HFR, HWN⟩
                case measure => simp only [lenOf]; omega
              · have hk1' : (1 : Int) < (kiv : Int) := by omega
                obtain ⟨rfl, hr3⟩ : x0 = 39 ∧ r ≤ 3 := by rcases hki with h | h; exact absurd h hk1; exact h
                have hr3' : (r : Int) ≤ 3 := by omega
                have hcx' : wr.cell? ⟨b0, off0, none⟩ = some (.int .u8 39) := hcx
                clear hcx
                go_wp2_with fail
                go_roundw
                case rel => exact ⟨_, _, _, _, rfl, by omega, by omega, HFR, HWN⟩
                case measure => simp only [lenOf]; omega
            · have hnu := hnu3 hk
              subst hk
              clear hnu3 hki2
              have hnu' : ¬ (3 : Int) < (nuv : Int) := by omega
              go_wp2_with fail
              go_roundw
              case rel => exact ⟨_, _, _, _, rfl, by omega, by omega, HFR, HWN⟩
              case measure => simp only [lenOf]; omega
end Go.Proofs.YtkiggpbmlkfdpaaDoor
