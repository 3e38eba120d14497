/- The walk of AhoSame: true for every input. -/
import Derived.Test.YtohfkpoblebfaaaAhoFixed
import Derived.Test.YtohfkpoblebfaaaAhoRef
namespace Go.Proofs.Ytohfkpoblebfaaa
open Go.RowKit
set_option linter.unusedVariables false

theorem IntsAt.from__ {w : World} {B n c k : Nat} {A : Option Addr} {u : Wd} (h : IntsAt w B A n c u) (hk : k ≤ n) : IntsAt w B (if c = k then A else A.map (·.add k)) (n - k) (c - k) (u.drop k) := by
  have h1 := RowAt.from_ h hk
  rw [Nat.mul_one] at h1
  unfold IntsAt
  rw [show intsV (u.drop k) = (intsV u).drop k by unfold intsV; rw [List.map_drop]]
  exact h1
theorem mkl_end {w : World} {l W : List Wd} {B g c m : Nat} {ns : List Nd} {f : Vs} {A : Option Addr} {u : Wd} (h : MkL w l B g ns W f A c) (hm : u.length = m + heldL l u) : u.drop m = lsuf W u := by
  have h1 := heldL_lsuf (t := u) h.holds h.lens
  exact (suffix_eq (lsuf_suffix u) (List.drop_suffix m u) (by rw [List.length_drop]; omega)).symm
theorem mkl_more {w : World} {l W : List Wd} {B g c : Nat} {ns : List Nd} {f : Vs} {A : Option Addr} {u : Wd} {s : Int} (h : MkL w l B g ns W f A c) : heldL l (u ++ [s]) ≤ heldL l u + 1 := by
  rw [heldL_lsuf h.holds h.lens, heldL_lsuf h.holds h.lens, lsuf_snoc h.ready.trie.closed]
  have := lsuf_le (W := W) (lsuf W u ++ [s])
  simpa using this
set_option maxRecDepth 100000 in
set_option maxHeartbeats 3000000 in
theorem walkAhoSame (W : World) {A A2 : Option Addr} {n c n2 c2 : Nat} {l : List Wd} {v : Vs} {u : Wd} (hl : PatsAt W W.heap.size A n c l v) (hu : IntsAt W W.heap.size A2 n2 c2 u) (wf : ∀ n ∈ u, (Lit.int .i64 n).wf = true) (s : Int) (hs0 : -9223372036854775808 ≤ s) (hs1 : s ≤ 9223372036854775807) :
    Calls Try.prog 5 #[.slice A n c, .slice A2 n2 c2, .int .i64 s] W fun e W' => e = .returned (.bool true) ∧ Below W.heap.size W W' := by
  have hn := hl.len
  have HN := Lib.hid hn
  have HU := Lib.hid hu
  have HP := Lib.hid hl
  have hu1 := hu.2.1
  have hu2 := hu.2.2.1
  unfold maxLen at hu2
  have HUL := Lib.hid hu.len
  clear hn hl hu
  by_cases h2 : 40 < n
  · have HO := Lib.hid (show decide (40 < n) = true from decide_eq_true h2)
    clear h2
    go_enter Try.func5, Try.ntmps5
    go_wp2_with fail
    refine (great18 W HO.out).mono ?_
    rintro e w' ⟨rfl, rfl⟩
    go_wp2_with fail
    refine (fixed18 _).mono ?_
    rintro e w' ⟨rfl, hb⟩
    go_wp2_with fail
    go_ret
    exact ⟨rfl, hb⟩
  · have HO := Lib.hid (show decide (40 < n) = false from decide_eq_false h2)
    clear h2
    by_cases h3 : 60 < n2
    · have h3' : decide ((60 : Int) < (n2 : Int)) = true := decide_eq_true (by omega)
      go_enter Try.func5, Try.ntmps5
      go_wp2_with fail
      refine (great18 W HO.out).mono ?_
      rintro e w' ⟨rfl, rfl⟩
      go_wp2_with fail
      refine (fixed18 _).mono ?_
      rintro e w' ⟨rfl, hb⟩
      go_wp2_with fail
      go_ret
      exact ⟨rfl, hb⟩
    · have h3' : decide ((60 : Int) < (n2 : Int)) = false := decide_eq_false (by omega)
      by_cases hm : mayP l
      · have HMY := Lib.hid hm
        have HOM := Lib.hid (show (okAll l && decide (n ≤ 32)) = true from by have := HN.out; rw [hm.2, decide_eq_true (by have := hm.1; omega : n ≤ 32)]; rfl)
        clear hm
        go_enter Try.func5, Try.ntmps5
        go_wp2_with fail
        refine (great18 W HO.out).mono ?_
        rintro e w' ⟨rfl, rfl⟩
        go_wp2_with fail
        refine (may_any _ HP.out HOM.out).mono ?_
        rintro e w' ⟨rfl, rfl⟩
        go_wp2_with fail
        refine (new_as _ HP.out HMY.out).mono ?_
        rintro e w1 ⟨B, g, ns, W1, f, A1, c1, rfl, hm, hb⟩
        have M1 := Lib.hid hm
        have H1 := Lib.hid hb
        have U1 := Lib.hid (RowAt.mono (RowAt.below HU.out hb) hb.size)
        clear hm hb
        go_wp2_with fail
        refine (walk_as w1 M1.out U1.out).mono ?_
        rintro e w2 ⟨t, rfl, ht, hwt, hb⟩
        have M2 := Lib.hid (M1.out.below hb)
        have H2 := Lib.hid (H1.out.trans (hb.mono H1.out.size))
        have S2 := Lib.hid (M2.out.stands_nat ht hwt)
        have HT := Lib.hid ht
        have HWT := Lib.hid hwt
        clear hb ht hwt M1 H1
        go_wp2_with fail
        obtain ⟨k, hk⟩ : ∃ k, heldL l u = k := ⟨_, rfl⟩
        refine (depth_as _ w2 M2.out S2.out).mono ?_
        rw [hk]
        rintro e w3 ⟨rfl, hb⟩
        have M3 := Lib.hid (M2.out.below hb)
        have H3 := Lib.hid (H2.out.trans (hb.mono H2.out.size))
        have hkn : k ≤ n2 := by have := (heldL_le l u).1; have := HUL.out; omega
        have hk64 : k ≤ 64 := by have := (heldL_le l u).2; omega
        obtain ⟨m, hm⟩ : ∃ m, n2 = m + k := ⟨n2 - k, by omega⟩
        have HEND := Lib.hid (mkl_end (m := m) (u := u) M3.out (by rw [hk]; have := HUL.out; omega))
        have HK := Lib.hid hk
        have d1 : decide ((k : Int) < 0) = false := decide_eq_false (by omega)
        have d2 : decide ((n2 : Int) < (k : Int)) = false := decide_eq_false (by omega)
        have hwr : IntKind.i64.wrap ((n2 : Int) - (k : Int)) = (m : Int) := by rw [IntKind.wrap_i64]; omega
        have h0 : (0 : Int) ≤ (m : Int) := by omega
        have h1 : (m : Int) ≤ (n2 : Int) := by omega
        have hsub : n2 - m = k := by omega
        have hmn : m ≤ n2 := by omega
        have hwk : IntKind.i64.wrap ((k : Int) + 1) = (k : Int) + 1 := by rw [IntKind.wrap_i64]; omega
        clear hb hk hm M2 H2
        go_wp2_with fail
        refine (fixed18 _).mono ?_
        rintro e w4 ⟨rfl, hb⟩
        have M4 := Lib.hid (M3.out.below hb)
        have H4 := Lib.hid (H3.out.trans (hb.mono H3.out.size))
        have U4 := Lib.hid ((IntsAt.from__ (RowAt.mono (RowAt.below HU.out H4.out) H4.out.size) hmn))
        clear hb M3 H3
        rw [hsub] at U4
        by_cases hcm : c2 = m
        all_goals
          first | rw [if_pos hcm, show c2 - m = 0 by omega] at U4 | rw [if_neg hcm] at U4
          go_wp2_with fail
          refine (walk_as w4 M4.out U4.out).mono ?_
          rintro e w5 ⟨t', rfl, ht', hwt', hb⟩
          have M5 := Lib.hid (M4.out.below hb)
          have H5 := Lib.hid (H4.out.trans (hb.mono H4.out.size))
          have htt : t' = t := (M5.out.uniq ht' HT.out).2 (by rw [hwt', HWT.out, HEND.out, lsuf_of_mem (lsuf_mem M5.out.nil_in u)])
          subst htt
          clear hb hwt' ht' M4 H4 U4
          go_wp2_with fail
          refine (step_as _ s w5 M5.out S2.out).mono ?_
          rintro e w6 ⟨t2, rfl, ht2, hwt2, hb⟩
          have M6 := Lib.hid (M5.out.below hb)
          have H6 := Lib.hid (H5.out.trans (hb.mono H5.out.size))
          have S6 := Lib.hid (M6.out.stands_nat ht2 hwt2)
          clear hb ht2 hwt2
          go_wp2_with fail
          refine (depth_as _ w6 M6.out S6.out).mono ?_
          rintro e w7 ⟨rfl, hb⟩
          have H7 := Lib.hid (H6.out.trans (hb.mono H6.out.size))
          have hle : decide ((heldL l (u ++ [s]) : Int) ≤ (k : Int) + 1) = true := decide_eq_true (by have := mkl_more (u := u) (s := s) M6.out; rw [HK.out] at this; omega)
          clear hb
          go_wp2_with fail
          go_ret
          exact ⟨by first | rfl | simp, H7.out⟩
      · have HOM := Lib.hid (show (okAll l && decide (n ≤ 32)) = false from by
          have := HN.out
          rw [Bool.eq_false_iff]
          intro h
          rw [Bool.and_eq_true] at h
          exact hm ⟨by have := of_decide_eq_true h.2; omega, h.1⟩)
        clear hm
        go_enter Try.func5, Try.ntmps5
        go_wp2_with fail
        refine (great18 W HO.out).mono ?_
        rintro e w' ⟨rfl, rfl⟩
        go_wp2_with fail
        refine (may_any _ HP.out HOM.out).mono ?_
        rintro e w' ⟨rfl, rfl⟩
        go_wp2_with fail
        refine (fixed18 _).mono ?_
        rintro e w' ⟨rfl, hb⟩
        go_wp2_with fail
        go_ret
        exact ⟨rfl, hb⟩
end Go.Proofs.Ytohfkpoblebfaaa
