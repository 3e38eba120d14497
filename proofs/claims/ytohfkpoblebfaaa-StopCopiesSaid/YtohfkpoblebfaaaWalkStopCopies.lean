/- The walk of StopCopies: true for every input. -/
import Derived.Test.YtohfkpoblebfaaaStopTwo
import Derived.Test.YtohfkpoblebfaaaWalkStopFeeds
namespace Go.Proofs.Ytohfkpoblebfaaa
open Go.RowKit
set_option linter.unusedVariables false

theorem great_three {n : Nat} {a b c : Wd} (h : greatB n 3 [a, b, c] = false) : n ≤ 40 ∧ a.length ≤ 30 ∧ b.length ≤ 30 ∧ c.length ≤ 30 := by
  obtain ⟨h1, _, h3⟩ := great_no h
  exact ⟨h1, h3 0 (by simp), h3 1 (by simp), h3 2 (by simp)⟩
theorem bdrew2 (w : World) (k : Nat) : Below w.heap.size w (w.drewN k) := below_drewN (Below.refl _ _) k
/-- Two rows, one behind the other: what is asked of the two appends. -/
theorem ints_app (a b : Wd) : intsV a ++ intsV b = intsV (a ++ b) := by unfold intsV; rw [List.map_append]
theorem feed_two (l : List Wd) (a b : Wd) : sawS l (a ++ b) = feedS l (feedS l [] a) b := sawS_app l a b
/-- append of a whole row behind a guard that lets by. -/
theorem wpList_append_row_if {P : Program} {ops : Array Oper} {rest : List Oper} {o : Oper} {a : Act} {Q : Exit → Act → World → Prop} {w : World} (hgd : Region.wanted o (yielded ops a.tmps) = true) (s x : Operand) (t : TypeId)
    (ho : o.op = .call { callee := .builtin .append, args := #[s, x], argTypes := #[t, t] })
    (base : Nat) (e : TypeId) (z : Value) (size bytes : Nat) (ht : P.underlying t = some (.slice e)) (hinfo : (P.info? e).map (fun i => (i.zero, i.size, i.bytes)) = some (some z, size, bytes)) (hzs : z.cells.size = size) (hsz : 0 < size)
    (v : Value) (n : Nat) (xs : List Value) (hs : a.eval s = v) (hown : w.ownsRow base e size v n xs) (B : Nat) (A : Option Addr) (m c : Nat) (news : List Value) (hx : a.eval x = .slice A m c) (hr : RowAt w B size A m c news)
    (h1 : ∀ u ∈ news, u.oneCell' = true) (N : Nat) (hN : n + m = N) (ys : List Value) (hys : xs ++ news = ys) (h63 : N ≤ maxLen) (hbytes : N * bytes ≤ 140737488355328) (hbase : base ≤ w.heap.size)
    (h : ∀ A' c' w', w'.ownsRow base e size (.slice A' N c') N ys → Below base w w' → w.grownBy w' v.ownBlock → wpList P ops Q rest (a.put o.dst (.slice A' N c')) w') : wpList P ops Q (o :: rest) a w := by
  subst hN hys
  refine wpList_step fun _ hK => ?_
  rw [if_pos hgd]
  obtain ⟨v', w', hrun, h2, h3⟩ := run_append_row (P := P) w base t o.type e z size bytes ht hinfo hzs hsz v n xs hown B A m c news hr h1 h63 hbytes hbase
  unfold Oper.wp execOp
  simp only [ho, resolve, invoke, builtin, Sem.run_bind, Sem.run_pure, Result.andThen_ok, List.map_toArray, List.map_cons, List.map_nil, hs, hx, hrun]
  obtain ⟨A', c', rfl⟩ := own_form h2
  exact hK _ _ (h A' c' w' h2 ((Below.refl base w).grown h3 hbase (fun k hk => (hown.lt k hk).1)) h3)
set_option maxRecDepth 100000 in
set_option maxHeartbeats 4000000 in
theorem walkStopCopies (W : World) {A A1 A2 A3 : Option Addr} {n c n1 c1 n2 c2 n3 c3 : Nat} {l : List Wd} {a b d : Wd} {v : Vs} (hl : PatsAt W W.heap.size A n c l v)
    (ha : IntsAt W W.heap.size A1 n1 c1 a) (wa : ∀ n ∈ a, (Lit.int .i64 n).wf = true) (hb : IntsAt W W.heap.size A2 n2 c2 b) (wb : ∀ n ∈ b, (Lit.int .i64 n).wf = true) (hd : IntsAt W W.heap.size A3 n3 c3 d) (wd' : ∀ n ∈ d, (Lit.int .i64 n).wf = true) :
    Calls Try.prog 11 #[.slice A n c, .slice A1 n1 c1, .slice A2 n2 c2, .slice A3 n3 c3] W fun e W' => e = .returned (.bool true) ∧ Below W.heap.size W W' := by
  have HN := Lib.hid hl.len
  have HN1 := Lib.hid ha.len
  have HN2 := Lib.hid hb.len
  have HN3 := Lib.hid hd.len
  have HP := Lib.hid hl
  have HRA := Lib.hid ha
  have HRB := Lib.hid hb
  have HRD := Lib.hid hd
  have hcap' := hl.cap
  unfold maxLen at hcap'
  obtain ⟨hc1', hc2'⟩ := hcap'
  have HG := Lib.hid (pats_three W ha hb hd)
  clear hl ha hb hd wa wb wd'
  obtain ⟨o, ho⟩ : ∃ o, greatB n 3 [a, b, d] = o := ⟨_, rfl⟩
  have HO := Lib.hid ho
  clear ho
  go_enter Try.func11, Try.ntmps11
  go_wp2_with fail
  obtain ⟨w0, hw0⟩ : ∃ w0, w0 = W.alloc (.cells #[.slice A1 n1 c1, .slice A2 n2 c2, .slice A3 n3 c3] 31) := ⟨_, rfl⟩
  have HB0 := Lib.hid (show Below W.heap.size W w0 from by rw [hw0]; exact (Below.refl _ W).alloc (Nat.le_refl _) _)
  rw [← hw0] at HG
  rw [← hw0]
  clear hw0
  refine (great19 w0 HG.out HO.out).mono ?_
  rintro e w' ⟨rfl, rfl⟩
  have HP0 := Lib.hid (PatsAt.mono (HP.out.below HB0.out) HB0.out.size)
  cases o with
  | true =>
    go_wp2_with fail
    refine (fixed19 _).mono ?_
    rintro e w' ⟨rfl, hb⟩
    have HBE := Lib.hid (HB0.out.trans (hb.mono HB0.out.size))
    go_wp2_with fail
    go_ret
    exact ⟨rfl, HBE.out⟩
  | false =>
    obtain ⟨hn40, hla, hlb, hld⟩ := great_three HO.out
    have hn1 : n1 ≤ 30 := by have := HN1.out; omega
    have hn2 : n2 ≤ 30 := by have := HN2.out; omega
    have hn3 : n3 ≤ 30 := by have := HN3.out; omega
    by_cases hm : mayP l
    · have HMY := Lib.hid hm
      have HOM := Lib.hid (show (okAll l && decide (n ≤ 32)) = true from by have := HN.out; rw [hm.2, decide_eq_true (by have := hm.1; omega : n ≤ 32)]; rfl)
      clear hm
      obtain ⟨sa, hsa⟩ : ∃ s, feedS l [] a = s := ⟨_, rfl⟩
      obtain ⟨sb, hsb⟩ : ∃ s, feedS l sa b = s := ⟨_, rfl⟩
      obtain ⟨sd, hsd⟩ : ∃ s, feedS l sa d = s := ⟨_, rfl⟩
      have HLS := Lib.hid (show sa.length ≤ 60 ∧ sb.length ≤ 60 ∧ sd.length ≤ 60 from by
        have h1 := (feed_len2 l [] a).2.1
        have h2 := (feed_len2 l sa b).2.1
        have h3 := (feed_len2 l sa d).2.1
        rw [hsa] at h1
        rw [hsb] at h2
        rw [hsd] at h3
        simp at h1
        omega)
      have HSA := Lib.hid (show sawS l a = sa from hsa)
      have HSB := Lib.hid (show sawS l (a ++ b) = sb from by rw [feed_two, hsa, hsb])
      have HSD := Lib.hid (show sawS l (a ++ d) = sd from by rw [feed_two, hsa, hsd])
      have HFA := Lib.hid hsa
      have HFB := Lib.hid hsb
      have HFD := Lib.hid hsd
      clear hsa hsb hsd
      go_wp2_with fail
      refine (may_any w0 HP0.out HOM.out).mono ?_
      rintro e w' ⟨rfl, rfl⟩
      go_wp2_with fail
      refine (snew_yes w0 HP0.out HMY.out).mono ?_
      rintro e w1 ⟨u0, q, B, g, ns, W1, f, A4, c4, rfl, hm, hz, hb⟩
      have hqw : W.heap.size ≤ q := by have := hm.far; have := HB0.out.size; omega
      have H1 := Lib.hid (HB0.out.trans (hb.mono HB0.out.size))
      have M1 := Lib.hid hm
      have HA1 := Lib.hid (show IntsAt w1 w1.heap.size A1 n1 c1 a from RowAt.mono (RowAt.below HRA.out H1.out) H1.out.size)
      have HOFA := Lib.hid (off_low HRA.out hqw)
      clear hm hb HP0 HG HB0
      go_wp2_with fail
      refine (feed_as w1 M1.out HA1.out HOFA.out (by simp; omega)).mono ?_
      unfold FeedTo
      rw [HFA.out]
      rintro e w2 ⟨rfl, hw2, ha⟩
      have HB2 := Lib.hid (H1.out.trans (ha.below hqw H1.out.size))
      have HW2 := Lib.hid hw2
      clear ha hw2 HA1 M1 H1
      go_wp2_with fail
      have hq2 := HW2.out.lt
      have HCP := Lib.hid (show Calls Try.prog 36 #[.pointer (some ⟨q, 0, none⟩)] w2 fun e w' => e = .returned (.pointer (some ⟨w2.heap.size, 0, none⟩)) ∧ WAt u0 w' l w2.heap.size sa B g ns W1 f A4 c4 ∧ Below w2.heap.size w2 w' from by
        obtain ⟨st, hb, hs⟩ := HW2.out.blk
        refine (copy_any w2 hb).mono ?_
        rintro e w' ⟨rfl, h1, h2⟩
        exact ⟨rfl, ⟨HW2.out.mac, HW2.out.bel.trans (h2.mono HW2.out.bel.size), HW2.out.bel.size, st, h1, hs⟩, h2⟩)
      refine HCP.out.mono ?_
      rintro e w3 ⟨rfl, hk3, hb3⟩
      obtain ⟨r, hr⟩ : ∃ r, w2.heap.size = r := ⟨_, rfl⟩
      rw [hr] at hk3 hq2
      rw [hr]
      have hqr : q ≠ r := by omega
      have hrw : W.heap.size ≤ r := by have := HB2.out.size; omega
      have hur : u0.heap.size ≤ r := by rw [← hr]; exact HW2.out.bel.size
      have HB3 := Lib.hid (HB2.out.trans (hb3.mono HB2.out.size))
      have HW3 := Lib.hid (HW2.out.below hb3)
      have HK3 := Lib.hid hk3
      have HB' := Lib.hid (show IntsAt w3 w3.heap.size A2 n2 c2 b from RowAt.mono (RowAt.below HRB.out HB3.out) HB3.out.size)
      have HOFB := Lib.hid (off_low HRB.out hrw)
      have huq : u0.heap.size ≤ q := HW2.out.far
      clear hk3 hb3 hr HCP HW2 HB2
      go_wp2_with fail
      refine (feed_as w3 HK3.out HB'.out HOFB.out (by have := HLS.out; omega)).mono ?_
      unfold FeedTo
      rw [HFB.out]
      rintro e w4 ⟨rfl, hk4, ha4⟩
      have HB4 := Lib.hid (HB3.out.trans (ha4.below hrw HB3.out.size))
      have HW4 := Lib.hid (HW3.out.aside ha4 hqr hur)
      have HK4 := Lib.hid hk4
      have HP4 := Lib.hid (PatsAt.mono (HP.out.below HB4.out) HB4.out.size)
      have HA4 := Lib.hid (show IntsAt w4 w4.heap.size A1 n1 c1 a from RowAt.mono (RowAt.below HRA.out HB4.out) HB4.out.size)
      clear hk4 ha4 HB' HB3 HW3 HK3
      go_wp2_with fail
      refine (rwatch_any w4 HP4.out HA4.out HMY.out (by have := HN1.out; omega)).mono ?_
      rw [HSA.out]
      rintro e w5 ⟨rfl, hb5⟩
      obtain ⟨a0, a1, a2, a3, a4, hV, ha0, ha3⟩ := wV_ints l sa
      rw [hV]
      have HV := Lib.hid hV
      clear hV ha0 ha3
      obtain ⟨X, hX⟩ : ∃ X, X = w5.alloc (.cells #[.int .i64 a0, .int .i64 a1, .int .i64 a2, .int .i64 a3, .int .i64 a4] 48) := ⟨_, rfl⟩
      have hbx : Below w5.heap.size w5 X := by rw [hX]; exact (Below.refl _ w5).alloc (Nat.le_refl _) _
      have HKX := Lib.hid (show X.heap[w5.heap.size]? = some (.cells #[.int .i64 a0, .int .i64 a1, .int .i64 a2, .int .i64 a3, .int .i64 a4] 48 (0, 0)) from by rw [hX]; exact heap_alloc_new w5 _)
      have hbr := hb5.trans (hbx.mono hb5.size)
      have HWX := Lib.hid (HW4.out.below hbr)
      have HKKX := Lib.hid (HK4.out.below hbr)
      have HBX := Lib.hid (HB4.out.trans (hbr.mono HB4.out.size))
      obtain ⟨x0, x1, x2, x3, x4⟩ := five_cells HKX.out
      clear hbx hbr hb5 HW4 HK4 HB4 HP4 HA4
      go_wp2_with fail
      rw [← hX]
      clear hX
      rw [← HV.out]
      have HKX0 := HKKX
      refine (is_as X HWX.out (by have := HLS.out; omega)).mono ?_
      rintro e y0 ⟨rfl, hbi⟩
      have HWa := Lib.hid (HWX.out.below hbi)
      have HKa := Lib.hid (HKKX.out.below hbi)
      have HBa := Lib.hid (HBX.out.trans (hbi.mono HBX.out.size))
      clear hbi HWX HKKX HKX0 HBX HKX x0 x1 x2 x3 x4
      obtain ⟨Kb, hKb⟩ : ∃ K, y0.heap.size = K := ⟨_, rfl⟩
      obtain ⟨eb, heb⟩ : ∃ e, e = y0.alloc (.cells #[] 3) := ⟨_, rfl⟩
      have bEb : Below y0.heap.size y0 eb := by rw [heb]; exact (Below.refl _ _).alloc (Nat.le_refl _) _
      have OEb := Lib.hid (show eb.ownsRow Kb 3 1 (.slice (some ⟨Kb, 0, none⟩) 0 0) 0 [] from by rw [heb, ← hKb]; exact own_empty y0 _ _)
      have WEb := Lib.hid (HWa.out.below bEb)
      have KEb := Lib.hid (HKa.out.below bEb)
      have BEb := Lib.hid (HBa.out.trans (bEb.mono HBa.out.size))
      have REb := Lib.hid (show IntsAt eb W.heap.size A1 n1 c1 a from RowAt.below HRA.out BEb.out)
      have hsb : Kb ≤ eb.heap.size := by have := bEb.size; omega
      have hqkb : q < Kb := by have := HWa.out.lt; omega
      have hrkb : r < Kb := by have := HKa.out.lt; omega
      have hwkb : W.heap.size ≤ Kb := by omega
      clear bEb HWa HKa HBa
      go_wp2_with (first
        | (at_builtin; rw [← heb]; refine wpList_append_row_if rfl (.tmp 48) (.tmp 49) _ rfl Kb 3 _ 1 8 Try.underlying31 infoInt1 rfl (by decide) (.slice (some ⟨Kb, 0, none⟩) 0 0) 0 [] rfl OEb.out W.heap.size A1 n1 c1 (intsV a) rfl REb.out one_ints n1 (Nat.zero_add _) (intsV a) (List.nil_append _) (by unfold maxLen; omega) (by omega) hsb ?_; intro A5 c5 fb hown5 hb5 hg5; have OFb := Lib.hid hown5; have BFb := Lib.hid hb5; clear hown5 hb5 hg5; (have WFb := Lib.hid (WEb.out.under BFb.out hqkb)); (have KFb := Lib.hid (KEb.out.under BFb.out hrkb)); (have BGb := Lib.hid (BEb.out.trans (BFb.out.mono hwkb))); (have RFb := Lib.hid (show IntsAt fb W.heap.size A2 n2 c2 b from RowAt.below HRB.out BGb.out)); (have hsfb : Kb ≤ fb.heap.size := by have := BFb.out.size; omega); (clear heb WEb KEb BEb REb OEb BFb hsb))
        | (at_builtin; refine wpList_append_row_if rfl (.tmp 50) (.tmp 51) _ rfl Kb 3 _ 1 8 Try.underlying31 infoInt1 rfl (by decide) (.slice A5 n1 c5) n1 (intsV a) rfl OFb.out W.heap.size A2 n2 c2 (intsV b) rfl RFb.out one_ints (n1 + n2) rfl (intsV (a ++ b)) (ints_app _ _) (by unfold maxLen; omega) (by omega) hsfb ?_; intro A6 c6 hb hown6 hb6 hg6; have OHb := Lib.hid hown6; have BHb := Lib.hid hb6; clear hown6 hb6 hg6))
      have WHb := Lib.hid (WFb.out.under BHb.out hqkb)
      have KHb := Lib.hid (KFb.out.under BHb.out hrkb)
      have BIb := Lib.hid (BGb.out.trans (BHb.out.mono hwkb))
      have PHb := Lib.hid (PatsAt.mono (HP.out.below BIb.out) BIb.out.size)
      clear WFb KFb BGb RFb OFb BHb hsfb
      refine (rwatch_any hb PHb.out (RowAt.of_own OHb.out) HMY.out (by rw [List.length_append]; omega)).mono ?_
      rw [HSB.out]
      rintro e gb ⟨rfl, hbw⟩
      have HWb := Lib.hid (WHb.out.below hbw)
      have HKb := Lib.hid (KHb.out.below hbw)
      have HBb := Lib.hid (BIb.out.trans (hbw.mono BIb.out.size))
      clear WHb KHb BIb PHb OHb hbw
      go_wp2_with fail
      refine (is_as gb HKb.out (by have := HLS.out; omega)).mono ?_
      rintro e y1 ⟨rfl, hbi⟩
      have HWc := Lib.hid (HWb.out.below hbi)
      have HKc := Lib.hid (HKb.out.below hbi)
      have HBc := Lib.hid (HBb.out.trans (hbi.mono HBb.out.size))
      clear hbi HWb HKb HBb
      go_wp2_with fail
      have HD' := Lib.hid (show IntsAt y1 y1.heap.size A3 n3 c3 d from RowAt.mono (RowAt.below HRD.out HBc.out) HBc.out.size)
      have HOFD := Lib.hid (off_low HRD.out hqw)
      refine (feed_as y1 HWc.out HD'.out HOFD.out (by have := HLS.out; omega)).mono ?_
      unfold FeedTo
      rw [HFD.out]
      rintro e y2 ⟨rfl, hwd, had⟩
      have HBd := Lib.hid (HBc.out.trans (had.below hqw HBc.out.size))
      have HKd := Lib.hid (HKc.out.aside had (fun e => hqr e.symm) huq)
      have HWd := Lib.hid hwd
      clear hwd had HWc HKc HBc HD'
      go_wp2_with fail
      refine (fixed19 _).mono ?_
      rintro e y3 ⟨rfl, hbi⟩
      have HWe := Lib.hid (HWd.out.below hbi)
      have HKe := Lib.hid (HKd.out.below hbi)
      have HBe := Lib.hid (HBd.out.trans (hbi.mono HBd.out.size))
      clear hbi HWd HKd HBd
      obtain ⟨Kf, hKf⟩ : ∃ K, y3.heap.size = K := ⟨_, rfl⟩
      obtain ⟨ef, hef⟩ : ∃ e, e = y3.alloc (.cells #[] 3) := ⟨_, rfl⟩
      have bEf : Below y3.heap.size y3 ef := by rw [hef]; exact (Below.refl _ _).alloc (Nat.le_refl _) _
      have OEf := Lib.hid (show ef.ownsRow Kf 3 1 (.slice (some ⟨Kf, 0, none⟩) 0 0) 0 [] from by rw [hef, ← hKf]; exact own_empty y3 _ _)
      have WEf := Lib.hid (HWe.out.below bEf)
      have KEf := Lib.hid (HKe.out.below bEf)
      have BEf := Lib.hid (HBe.out.trans (bEf.mono HBe.out.size))
      have REf := Lib.hid (show IntsAt ef W.heap.size A1 n1 c1 a from RowAt.below HRA.out BEf.out)
      have hsf : Kf ≤ ef.heap.size := by have := bEf.size; omega
      have hqkf : q < Kf := by have := HWe.out.lt; omega
      have hrkf : r < Kf := by have := HKe.out.lt; omega
      have hwkf : W.heap.size ≤ Kf := by omega
      clear bEf HWe HKe HBe
      go_wp2_with (first
        | (at_builtin; rw [← hef]; refine wpList_append_row_if rfl (.tmp 64) (.tmp 65) _ rfl Kf 3 _ 1 8 Try.underlying31 infoInt1 rfl (by decide) (.slice (some ⟨Kf, 0, none⟩) 0 0) 0 [] rfl OEf.out W.heap.size A1 n1 c1 (intsV a) rfl REf.out one_ints n1 (Nat.zero_add _) (intsV a) (List.nil_append _) (by unfold maxLen; omega) (by omega) hsf ?_; intro A5 c5 ff hown5 hb5 hg5; have OFf := Lib.hid hown5; have BFf := Lib.hid hb5; clear hown5 hb5 hg5; (have WFf := Lib.hid (WEf.out.under BFf.out hqkf)); (have KFf := Lib.hid (KEf.out.under BFf.out hrkf)); (have BGf := Lib.hid (BEf.out.trans (BFf.out.mono hwkf))); (have RFf := Lib.hid (show IntsAt ff W.heap.size A3 n3 c3 d from RowAt.below HRD.out BGf.out)); (have hsff : Kf ≤ ff.heap.size := by have := BFf.out.size; omega); (clear hef WEf KEf BEf REf OEf BFf hsf))
        | (at_builtin; refine wpList_append_row_if rfl (.tmp 66) (.tmp 67) _ rfl Kf 3 _ 1 8 Try.underlying31 infoInt1 rfl (by decide) (.slice A5 n1 c5) n1 (intsV a) rfl OFf.out W.heap.size A3 n3 c3 (intsV d) rfl RFf.out one_ints (n1 + n3) rfl (intsV (a ++ d)) (ints_app _ _) (by unfold maxLen; omega) (by omega) hsff ?_; intro A6 c6 hf hown6 hb6 hg6; have OHf := Lib.hid hown6; have BHf := Lib.hid hb6; clear hown6 hb6 hg6))
      have WHf := Lib.hid (WFf.out.under BHf.out hqkf)
      have KHf := Lib.hid (KFf.out.under BHf.out hrkf)
      have BIf := Lib.hid (BGf.out.trans (BHf.out.mono hwkf))
      have PHf := Lib.hid (PatsAt.mono (HP.out.below BIf.out) BIf.out.size)
      clear WFf KFf BGf RFf OFf BHf hsff
      refine (rwatch_any hf PHf.out (RowAt.of_own OHf.out) HMY.out (by rw [List.length_append]; omega)).mono ?_
      rw [HSD.out]
      rintro e gf ⟨rfl, hbw⟩
      have HWf := Lib.hid (WHf.out.below hbw)
      have HKf := Lib.hid (KHf.out.below hbw)
      have HBf := Lib.hid (BIf.out.trans (hbw.mono BIf.out.size))
      clear WHf KHf BIf PHf OHf hbw
      go_wp2_with fail
      refine (is_as gf HWf.out (by have := HLS.out; omega)).mono ?_
      rintro e y4 ⟨rfl, hbi⟩
      have HWg := Lib.hid (HWf.out.below hbi)
      have HKg := Lib.hid (HKf.out.below hbi)
      have HBg := Lib.hid (HBf.out.trans (hbi.mono HBf.out.size))
      clear hbi HWf HKf HBf
      obtain ⟨Kh, hKh⟩ : ∃ K, y4.heap.size = K := ⟨_, rfl⟩
      obtain ⟨eh, heh⟩ : ∃ e, e = y4.alloc (.cells #[] 3) := ⟨_, rfl⟩
      have bEh : Below y4.heap.size y4 eh := by rw [heh]; exact (Below.refl _ _).alloc (Nat.le_refl _) _
      have OEh := Lib.hid (show eh.ownsRow Kh 3 1 (.slice (some ⟨Kh, 0, none⟩) 0 0) 0 [] from by rw [heh, ← hKh]; exact own_empty y4 _ _)
      have WEh := Lib.hid (HWg.out.below bEh)
      have KEh := Lib.hid (HKg.out.below bEh)
      have BEh := Lib.hid (HBg.out.trans (bEh.mono HBg.out.size))
      have REh := Lib.hid (show IntsAt eh W.heap.size A1 n1 c1 a from RowAt.below HRA.out BEh.out)
      have hsh : Kh ≤ eh.heap.size := by have := bEh.size; omega
      have hqkh : q < Kh := by have := HWg.out.lt; omega
      have hrkh : r < Kh := by have := HKg.out.lt; omega
      have hwkh : W.heap.size ≤ Kh := by omega
      clear bEh HWg HKg HBg
      go_wp2_with (first
        | (at_builtin; rw [← heh]; refine wpList_append_row_if rfl (.tmp 75) (.tmp 76) _ rfl Kh 3 _ 1 8 Try.underlying31 infoInt1 rfl (by decide) (.slice (some ⟨Kh, 0, none⟩) 0 0) 0 [] rfl OEh.out W.heap.size A1 n1 c1 (intsV a) rfl REh.out one_ints n1 (Nat.zero_add _) (intsV a) (List.nil_append _) (by unfold maxLen; omega) (by omega) hsh ?_; intro A5 c5 fh hown5 hb5 hg5; have OFh := Lib.hid hown5; have BFh := Lib.hid hb5; clear hown5 hb5 hg5; (have WFh := Lib.hid (WEh.out.under BFh.out hqkh)); (have KFh := Lib.hid (KEh.out.under BFh.out hrkh)); (have BGh := Lib.hid (BEh.out.trans (BFh.out.mono hwkh))); (have RFh := Lib.hid (show IntsAt fh W.heap.size A2 n2 c2 b from RowAt.below HRB.out BGh.out)); (have hsfh : Kh ≤ fh.heap.size := by have := BFh.out.size; omega); (clear heh WEh KEh BEh REh OEh BFh hsh))
        | (at_builtin; refine wpList_append_row_if rfl (.tmp 77) (.tmp 78) _ rfl Kh 3 _ 1 8 Try.underlying31 infoInt1 rfl (by decide) (.slice A5 n1 c5) n1 (intsV a) rfl OFh.out W.heap.size A2 n2 c2 (intsV b) rfl RFh.out one_ints (n1 + n2) rfl (intsV (a ++ b)) (ints_app _ _) (by unfold maxLen; omega) (by omega) hsfh ?_; intro A6 c6 hh hown6 hb6 hg6; have OHh := Lib.hid hown6; have BHh := Lib.hid hb6; clear hown6 hb6 hg6))
      have WHh := Lib.hid (WFh.out.under BHh.out hqkh)
      have KHh := Lib.hid (KFh.out.under BHh.out hrkh)
      have BIh := Lib.hid (BGh.out.trans (BHh.out.mono hwkh))
      have PHh := Lib.hid (PatsAt.mono (HP.out.below BIh.out) BIh.out.size)
      clear WFh KFh BGh RFh OFh BHh hsfh
      refine (rwatch_any hh PHh.out (RowAt.of_own OHh.out) HMY.out (by rw [List.length_append]; omega)).mono ?_
      rw [HSB.out]
      rintro e gh ⟨rfl, hbw⟩
      have HWh := Lib.hid (WHh.out.below hbw)
      have HKh := Lib.hid (KHh.out.below hbw)
      have HBh := Lib.hid (BIh.out.trans (hbw.mono BIh.out.size))
      clear WHh KHh BIh PHh OHh hbw
      go_wp2_with fail
      refine (is_as gh HKh.out (by have := HLS.out; omega)).mono ?_
      rintro e y5 ⟨rfl, hbi⟩
      have HWi := Lib.hid (HWh.out.below hbi)
      have HKi := Lib.hid (HKh.out.below hbi)
      have HBi := Lib.hid (HBh.out.trans (hbi.mono HBh.out.size))
      clear hbi HWh HKh HBh
      go_wp2_with fail
      go_ret
      exact ⟨by first | rfl | simp, HBi.out⟩
    · have HMY := Lib.hid hm
      have HOM := Lib.hid (show (okAll l && decide (n ≤ 32)) = false from by
        have := HN.out
        rw [Bool.eq_false_iff]
        intro h
        rw [Bool.and_eq_true] at h
        exact hm ⟨by have := of_decide_eq_true h.2; omega, h.1⟩)
      clear hm
      go_wp2_with fail
      refine (may_any w0 HP0.out HOM.out).mono ?_
      rintro e w' ⟨rfl, rfl⟩
      go_wp2_with fail
      refine (fixed19 _).mono ?_
      rintro e w2 ⟨rfl, hb⟩
      have HBE := Lib.hid (HB0.out.trans (hb.mono HB0.out.size))
      go_wp2_with fail
      go_ret
      exact ⟨rfl, HBE.out⟩
end Go.Proofs.Ytohfkpoblebfaaa
