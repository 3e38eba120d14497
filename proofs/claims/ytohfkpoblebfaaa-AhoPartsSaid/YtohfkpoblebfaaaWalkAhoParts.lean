/- The walk of AhoParts: true for every input. -/
import Derived.Test.YtohfkpoblebfaaaAhoFixed
import Derived.Test.YtohfkpoblebfaaaAhoRefStates
namespace Go.Proofs.Ytohfkpoblebfaaa
open Go.RowKit
set_option linter.unusedVariables false

theorem tmod_nat {i : Int} {n : Nat} (h0 : 0 ≤ i) : Int.tmod i (n : Int) = ((i.toNat % n : Nat) : Int) := by
  obtain ⟨a, rfl⟩ : ∃ a : Nat, i = a := ⟨i.toNat, by omega⟩
  rw [Int.tmod_eq_emod_of_nonneg (by omega)]
  simp
theorem mkl_part {w : World} {l W : List Wd} {B g c X k : Nat} {ns : List Nd} {f : Vs} {A : Option Addr} (h : MkL w l B g ns W f A c) (hX : X < l.length) : lsuf W ((wd l X).take k) = (wd l X).take k :=
  lsuf_of_mem ((h.holds _).2 (.inr ⟨_, wd_mem hX, List.take_prefix _ _⟩))
theorem take_step {p q : Wd} {k : Nat} (hp : k < p.length) (hq : k < q.length) : (p.take (k + 1) = q.take (k + 1)) ↔ (p.take k = q.take k ∧ p[k] = q[k]) := by
  rw [List.take_add_one, List.take_add_one, List.getElem?_eq_getElem hp, List.getElem?_eq_getElem hq]
  simp only [Option.toList_some]
  constructor
  · intro h
    have := List.append_inj' h rfl
    exact ⟨this.1, by simpa using this.2⟩
  · rintro ⟨h1, h2⟩
    rw [h1, h2]
set_option maxRecDepth 100000 in
set_option maxHeartbeats 3000000 in
theorem walkAhoParts (W : World) {A : Option Addr} {n c : Nat} {l : List Wd} {v : Vs} (hl : PatsAt W W.heap.size A n c l v) (i : Int) (hi0 : 0 ≤ i) (hi1 : i ≤ 255) (k : Int) (hk0 : 0 ≤ k) (hk1 : k ≤ 255) (a : Int) (ha0 : 0 ≤ a) (ha1 : a ≤ 255) (b : Int) (hb0 : 0 ≤ b) (hb1 : b ≤ 255) :
    Calls Try.prog 6 #[.slice A n c, .int .u8 i, .int .u8 k, .int .u8 a, .int .u8 b] W fun e W' => e = .returned (.bool true) ∧ Below W.heap.size W W' := by
  have hn := hl.len
  have HN := Lib.hid hn
  have HP := Lib.hid hl
  clear hn hl
  by_cases h2 : 20 < n
  · have h2' : decide ((20 : Int) < (n : Int)) = true := decide_eq_true (by omega)
    go_enter Try.func6, Try.ntmps6
    go_wp2_with fail
    refine (fixed18 _).mono ?_
    rintro e w' ⟨rfl, hb⟩
    go_wp2_with fail
    go_ret
    exact ⟨rfl, hb⟩
  · have h2' : decide ((20 : Int) < (n : Int)) = false := decide_eq_false (by omega)
    by_cases h3 : n = 0
    · have h3' : ((n : Int) == 0) = true := beq_yes (by omega)
      have HZ := Lib.hid h3
      clear h3
      go_enter Try.func6, Try.ntmps6
      go_wp2_with fail
      refine (fixed18 _).mono ?_
      rintro e w' ⟨rfl, hb⟩
      go_wp2_with fail
      go_ret
      exact ⟨rfl, hb⟩
    · have h3' : ((n : Int) == 0) = false := beq_no (by omega)
      by_cases hm : mayP l
      · have HMY := Lib.hid hm
        have HOM := Lib.hid (show (okAll l && decide (n ≤ 32)) = true from by have := HN.out; rw [hm.2, decide_eq_true (by have := hm.1; omega : n ≤ 32)]; rfl)
        clear hm
        go_enter Try.func6, Try.ntmps6
        go_wp2_with fail
        refine (may_any _ HP.out HOM.out).mono ?_
        rintro e w' ⟨rfl, rfl⟩
        go_wp2_with fail
        refine (new_as _ HP.out HMY.out).mono ?_
        rintro e w1 ⟨B, g, ns, W1, f, A1, c1, rfl, hm, hb⟩
        have M1 := Lib.hid hm
        have H1 := Lib.hid hb
        have P1 := Lib.hid (PatsAt.mono (HP.out.below hb) hb.size)
        clear hm hb
        have hnp : 0 < n := by omega
        obtain ⟨bk, off, rfl, hbk, hc⟩ := P1.out.cells hnp
        obtain ⟨X, hX⟩ : ∃ X, i.toNat % n = X := ⟨_, rfl⟩
        obtain ⟨Y, hY⟩ : ∃ Y, k.toNat % n = Y := ⟨_, rfl⟩
        have hXn : X < n := by rw [← hX]; exact Nat.mod_lt _ hnp
        have hYn : Y < n := by rw [← hY]; exact Nat.mod_lt _ hnp
        have tX : Int.tmod i (n : Int) = (X : Int) := by rw [tmod_nat hi0, hX]
        have tY : Int.tmod k (n : Int) = (Y : Int) := by rw [tmod_nat hk0, hY]
        have eX := hc X hXn
        have eY := hc Y hYn
        have RX := Lib.hid (P1.out.rows X hXn)
        have RY := Lib.hid (P1.out.rows Y hYn)
        obtain ⟨nx, hnx⟩ : ∃ x, (wd l X).length = x := ⟨_, rfl⟩
        obtain ⟨ny, hny⟩ : ∃ x, (wd l Y).length = x := ⟨_, rfl⟩
        obtain ⟨Ax, hAx⟩ : ∃ x, (v X).1 = x := ⟨_, rfl⟩
        obtain ⟨Ay, hAy⟩ : ∃ x, (v Y).1 = x := ⟨_, rfl⟩
        obtain ⟨cx, hcx⟩ : ∃ x, (v X).2 = x := ⟨_, rfl⟩
        obtain ⟨cy, hcy⟩ : ∃ x, (v Y).2 = x := ⟨_, rfl⟩
        rw [hnx, hAx, hcx] at eX RX
        rw [hny, hAy, hcy] at eY RY
        have hx1 := RX.out.2.1
        have hx2 := RX.out.2.2.1
        have hy1 := RY.out.2.1
        have hy2 := RY.out.2.2.1
        unfold maxLen at hx2 hy2
        obtain ⟨mp, hnp'⟩ : ∃ x, a.toNat % (nx + 1) = x := ⟨_, rfl⟩
        obtain ⟨mq, hnq'⟩ : ∃ x, b.toNat % (ny + 1) = x := ⟨_, rfl⟩
        have hpx : mp ≤ nx := by have := Nat.mod_lt a.toNat (show 0 < nx + 1 by omega); omega
        have hqy : mq ≤ ny := by have := Nat.mod_lt b.toNat (show 0 < ny + 1 by omega); omega
        have nx64 : nx ≤ 64 := by
          have := okAll_iff.1 HMY.out.2 X (by have := HN.out; omega)
          unfold okP at this
          have := of_decide_eq_true this
          omega
        have ny64 : ny ≤ 64 := by
          have := okAll_iff.1 HMY.out.2 Y (by have := HN.out; omega)
          unfold okP at this
          have := of_decide_eq_true this
          omega
        have tP : Int.tmod a ((nx : Int) + 1) = (mp : Int) := by have := tmod_nat (i := a) (n := nx + 1) ha0; rw [hnp'] at this; simpa using this
        have tQ : Int.tmod b ((ny : Int) + 1) = (mq : Int) := by have := tmod_nat (i := b) (n := ny + 1) hb0; rw [hnq'] at this; simpa using this
        have PX := Lib.hid (show IntsAt w1 w1.heap.size Ax mp cx ((wd l X).take mp) from IntsAt.to_ RX.out hpx)
        have PY := Lib.hid (show IntsAt w1 w1.heap.size Ay mq cy ((wd l Y).take mq) from IntsAt.to_ RY.out hqy)
        have HXl := Lib.hid (show X < l.length from by have := HN.out; omega)
        have HYl := Lib.hid (show Y < l.length from by have := HN.out; omega)
        have HNX := Lib.hid hnx
        have HNY := Lib.hid hny
        clear hc hX hY hnx hny hAx hAy hcx hcy hnp' hnq' RX RY
        go_wp2_with fail
        go_quiet (fail)
        obtain ⟨w2, hw2⟩ : ∃ w2, w2 = w1.drewN nq := ⟨_, rfl⟩
        have B2 := Lib.hid (show Below w1.heap.size w1 w2 from by rw [hw2]; exact below_drewN (Below.refl _ _) nq)
        rw [← hw2]
        clear hw2 eX eY tX tY
        go_wp2_with fail
        go_quiet (fail)
        obtain ⟨w3, hw3⟩ : ∃ w3, w3 = w2.drewN nq := ⟨_, rfl⟩
        have B3 := Lib.hid (show Below w1.heap.size w1 w3 from by rw [hw3]; exact below_drewN B2.out nq)
        rw [← hw3]
        clear hw3 B2 tP tQ
        have M3 := Lib.hid (M1.out.below B3.out)
        have H3 := Lib.hid (H1.out.trans (B3.out.mono H1.out.size))
        have QX := Lib.hid (RowAt.mono (RowAt.below PX.out B3.out) B3.out.size)
        have QY := Lib.hid (RowAt.mono (RowAt.below PY.out B3.out) B3.out.size)
        clear PX PY M1 H1 P1 B3
        have EP := Lib.hid (mkl_part (k := mp) M3.out HXl.out)
        have EQ := Lib.hid (mkl_part (k := mq) M3.out HYl.out)
        obtain ⟨p, hp⟩ : ∃ p, (wd l X).take mp = p := ⟨_, rfl⟩
        obtain ⟨r, hr⟩ : ∃ r, (wd l Y).take mq = r := ⟨_, rfl⟩
        rw [hp] at QX EP
        rw [hr] at QY EQ
        clear hp hr
        have HPL := Lib.hid (IntsAt.len QX.out)
        have HQL := Lib.hid (IntsAt.len QY.out)
        obtain ⟨o0, ho0⟩ : ∃ o, decide (mp = mq) = o := ⟨_, rfl⟩
        have hbe : ((mp : Int) == (mq : Int)) = o0 := by
          rw [← ho0]
          by_cases h : mp = mq
          · rw [decide_eq_true h]; exact beq_yes (by omega)
          · rw [decide_eq_false h]; exact beq_no (by omega)
        have HO0 := Lib.hid ho0
        clear ho0
        go_wp2_with fail
        go_loopw [17, 77] (fun s z wr => ∃ (j q : Nat) (o : Bool), j ≤ mp ∧ z = .int .i64 (j : Int) ∧ s = .bool o ∧ Hid (decide (mp = mq ∧ p.take j = r.take j) = o) ∧ wr = w3.drewN q) (fun _ z _ => mp - (intOf z).toNat)
        case atStart => exact ⟨0, 0, o0, Nat.zero_le _, rfl, rfl, Lib.hid (by rw [← HO0.out]; simp), rfl⟩
        case round =>
          clear hbe HO0
          obtain ⟨j, q, o, hj, rfl, rfl, HS, rfl⟩ := hrel
          by_cases hlt : j < mp
          · cases o with
            | true =>
              have hs := of_decide_eq_true HS.out
              have hjq : j < mq := by have := hs.1; omega
              have hjp : j < p.length := by have := HPL.out; omega
              have hjr : j < r.length := by have := HQL.out; omega
              obtain ⟨b1, off1, rfl, hb1', hc1⟩ := IntsAt.cells QX.out (by omega)
              obtain ⟨b2, off2, rfl, hb2', hc2⟩ := IntsAt.cells QY.out (by omega)
              obtain ⟨x, hx⟩ : ∃ x, p[j]'hjp = x := ⟨_, rfl⟩
              obtain ⟨y, hy⟩ : ∃ y, r[j]'hjr = y := ⟨_, rfl⟩
              have ex := hc1 j hjp
              have ey := hc2 j hjr
              have HT := Lib.hid (take_step hjp hjr)
              rw [hx] at ex
              rw [hy] at ey
              rw [hx, hy] at HT
              have HSS := Lib.hid hs
              clear hc1 hc2 hx hy hs
              obtain ⟨o', ho'⟩ : ∃ o', (x == y) = o' := ⟨_, rfl⟩
              have HN := Lib.hid (show decide (mp = mq ∧ p.take (j + 1) = r.take (j + 1)) = o' from by
                rw [← ho']
                by_cases hxy : x = y
                · rw [beq_yes hxy, decide_eq_true ⟨HSS.out.1, HT.out.2 ⟨HSS.out.2, hxy⟩⟩]
                · rw [beq_no hxy, decide_eq_false (fun e => hxy (HT.out.1 e.2).2)])
              go_wp2_with fail
              go_quiet (fail)
              go_wp2_with fail
              go_roundw
              case rel => exact ⟨j + 1, q + nq, o', by omega, by go_num, rfl, HN, by first | rfl | rw [World.drewN_drewN]⟩
              case measure => simp [intOf]; omega
            | false =>
              have HN := Lib.hid (show decide (mp = mq ∧ p.take (j + 1) = r.take (j + 1)) = false from by
                have hs := of_decide_eq_false HS.out
                refine decide_eq_false (fun e => hs ⟨e.1, ?_⟩)
                have := congrArg (List.take j) e.2
                rw [List.take_take, List.take_take, Nat.min_eq_left (by omega)] at this
                exact this)
              go_wp2_with fail
              go_quiet (fail)
              go_wp2_with fail
              go_roundw
              case rel => exact ⟨j + 1, q + nq, false, by omega, by go_num, rfl, HN, by first | rfl | rw [World.drewN_drewN]⟩
              case measure => simp [intOf]; omega
          · obtain rfl : j = mp := by omega
            have HO1 := Lib.hid (show decide (p = r) = o from by
              rw [← HS.out]
              by_cases hpr : p = r
              · rw [decide_eq_true hpr, decide_eq_true]
                exact ⟨by have h1 := HPL.out; have h2 := HQL.out; rw [hpr] at h1; omega, by rw [hpr]⟩
              · rw [decide_eq_false hpr, decide_eq_false]
                rintro ⟨e1, e2⟩
                rw [List.take_of_length_le (by have := HPL.out; omega), List.take_of_length_le (by have := HQL.out; omega)] at e2
                exact hpr e2)
            obtain ⟨w4, hw4⟩ : ∃ w4, w4 = w3.drewN q := ⟨_, rfl⟩
            have B4 := Lib.hid (show Below w3.heap.size w3 w4 from by rw [hw4]; exact below_drewN (Below.refl _ _) q)
            rw [← hw4]
            clear hw4
            go_wp2_with fail
            refine (fixed18 _).mono ?_
            rintro e w5 ⟨rfl, hb⟩
            have B5 := Lib.hid (B4.out.trans (hb.mono B4.out.size))
            have M5 := Lib.hid (M3.out.below B5.out)
            have H5 := Lib.hid (H3.out.trans (B5.out.mono H3.out.size))
            have R5 := Lib.hid (RowAt.mono (RowAt.below QX.out B5.out) B5.out.size)
            have T5 := Lib.hid (RowAt.mono (RowAt.below QY.out B5.out) B5.out.size)
            clear hb B4 B5 M3 H3 QX QY
            go_wp2_with fail
            refine (walk_as w5 M5.out R5.out).mono ?_
            rintro e w6 ⟨t1, rfl, ht1, hwt1, hb⟩
            have S6 := Lib.hid (M5.out.stands_nat ht1 hwt1)
            have M6 := Lib.hid (M5.out.below hb)
            have H6 := Lib.hid (H5.out.trans (hb.mono H5.out.size))
            have R6 := Lib.hid (RowAt.mono (RowAt.below R5.out hb) hb.size)
            have T6 := Lib.hid (RowAt.mono (RowAt.below T5.out hb) hb.size)
            have HT1 := Lib.hid ht1
            have HW1 := Lib.hid hwt1
            have HDP := Lib.hid (show heldL l p = j from by rw [heldL_lsuf M5.out.holds M5.out.lens, EP.out]; have := HPL.out; omega)
            clear hb ht1 hwt1 M5 H5 R5 T5
            go_wp2_with fail
            refine (depth_as (t1 : Int) w6 M6.out S6.out).mono ?_
            rw [HDP.out]
            rintro e w7 ⟨rfl, hb⟩
            have M7 := Lib.hid (M6.out.below hb)
            have H7 := Lib.hid (H6.out.trans (hb.mono H6.out.size))
            have R7 := Lib.hid (RowAt.mono (RowAt.below R6.out hb) hb.size)
            have T7 := Lib.hid (RowAt.mono (RowAt.below T6.out hb) hb.size)
            clear hb M6 H6 R6 T6
            go_wp2_with fail
            refine (walk_as w7 M7.out R7.out).mono ?_
            rintro e w8 ⟨t2, rfl, ht2, hwt2, hb⟩
            have M8 := Lib.hid (M7.out.below hb)
            have H8 := Lib.hid (H7.out.trans (hb.mono H7.out.size))
            have T8 := Lib.hid (RowAt.mono (RowAt.below T7.out hb) hb.size)
            clear hb M7 H7 R7 T7
            have HT2 := Lib.hid ht2
            have HW2 := Lib.hid hwt2
            clear ht2 hwt2
            go_wp2_with fail
            refine (walk_as w8 M8.out T8.out).mono ?_
            rintro e w9 ⟨t3, rfl, ht3, hwt3, hb⟩
            have H9 := Lib.hid (H8.out.trans (hb.mono H8.out.size))
            have hq : ((t2 : Int) == (t3 : Int)) = o := by
              rw [← HO1.out]
              by_cases hpr : p = r
              · rw [decide_eq_true hpr]
                have := (M8.out.uniq HT2.out ht3).2 (by rw [HW2.out, hwt3, hpr])
                exact beq_yes (by omega)
              · rw [decide_eq_false hpr]
                refine beq_no (fun e => hpr ?_)
                have e' : t2 = t3 := by omega
                rw [← EP.out, ← EQ.out, ← HW2.out, ← hwt3, e']
            clear hb hwt3 ht3
            go_wp2_with fail
            go_ret
            exact ⟨by first | rfl | simp, H9.out⟩
      · have HOM := Lib.hid (show (okAll l && decide (n ≤ 32)) = false from by
          have := HN.out
          rw [Bool.eq_false_iff]
          intro h
          rw [Bool.and_eq_true] at h
          exact hm ⟨by have := of_decide_eq_true h.2; omega, h.1⟩)
        clear hm
        go_enter Try.func6, Try.ntmps6
        go_wp2_with fail
        refine (may_any _ HP.out HOM.out).mono ?_
        rintro e w' ⟨rfl, rfl⟩
        go_wp2_with fail
        refine (fixed18 _).mono ?_
        rintro e w' ⟨rfl, hb⟩
        go_wp2_with fail
        go_ret
        exact ⟨rfl, hb⟩
end Go.Proofs.Ytohfkpoblebfaaa
