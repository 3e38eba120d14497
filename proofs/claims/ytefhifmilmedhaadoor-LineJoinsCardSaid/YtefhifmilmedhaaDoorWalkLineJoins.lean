/- The walk of LineJoins. -/
import Derived.Test.YtefhifmilmedhaaDoorLineFixed
namespace Go.Proofs.YtefhifmilmedhaaDoor
open Go.RowKit

theorem infoByteJ : (Tryd.prog.info? 5).map (fun i => (i.zero, i.size, i.bytes)) = some (some (.int .u8 0), 1, 1) := by kernel_rfl
theorem one_strs {l : List (List UInt8)} : ∀ u ∈ strsV l, u.oneCell' = true := by
  intro u hu
  simp only [strsV, List.mem_map] at hu
  obtain ⟨x, _, rfl⟩ := hu
  rfl

theorem jown_below {B k n : Nat} {e : TypeId} {v : Value} {xs : List Value} {w w' : World} (h : w.ownsRow B e k v n xs) (hb : Below w.heap.size w w') : w'.ownsRow B e k v n xs :=
  h.kept (row := none) ⟨hb.os, hb.tape, hb.output, hb.size, fun i hi _ => hb.block i hi⟩ (by cases v.ownBlock <;> simp)

set_option maxRecDepth 100000 in
set_option maxHeartbeats 2000000 in
theorem walkLineJoins (W : World) (ht : Tab10 W) {A B : Option Addr} {n c m d : Nat} {la lb : List UInt8} (ha : BytesAt W W.heap.size A n c la) (hb : BytesAt W W.heap.size B m d lb) :
    Calls Tryd.prog 6 #[.slice A n c, .slice B m d] W fun e W' => e = .returned (.bool true) ∧ Below W.heap.size W W' := by
  have hn := ha.len
  have hm := hb.len
  by_cases h1 : 1000 < n
  · have h1' : (1000 : Int) < (n : Int) := by omega
    clear hn hm
    go_enter Tryd.func6, Tryd.ntmps6
    go_wp2_with (go_at_call 13; refine (fixed06 _ ht).mono ?_; rintro e w' ⟨rfl, hb⟩)
    go_ret
    exact ⟨rfl, hb⟩
  by_cases h2 : 1000 < m
  · have h2' : (1000 : Int) < (m : Int) := by omega
    have h1' : ¬ (1000 : Int) < (n : Int) := by omega
    clear hn hm
    go_enter Tryd.func6, Tryd.ntmps6
    go_wp2_with (go_at_call 13; refine (fixed06 _ ht).mono ?_; rintro e w' ⟨rfl, hb⟩)
    go_ret
    exact ⟨rfl, hb⟩
  have h1' : ¬ (1000 : Int) < (n : Int) := by omega
  have h2' : ¬ (1000 : Int) < (m : Int) := by omega
  have HN := Lib.hid hn
  have HM := Lib.hid hm
  have HA := Lib.hid ha
  have HB := Lib.hid hb
  have L1 := linesL_length la
  have L2 := linesL_length lb
  have L3 := linesL_length (la ++ 10 :: lb)
  rw [List.length_append, List.length_cons] at L3
  rw [← hn] at L1 L3
  rw [← hm] at L2 L3
  obtain ⟨N1, hN1⟩ : ∃ N1, (linesL la).length = N1 := ⟨_, rfl⟩
  obtain ⟨N2, hN2⟩ : ∃ N2, (linesL lb).length = N2 := ⟨_, rfl⟩
  obtain ⟨N3, hN3⟩ : ∃ N3, (linesL (la ++ 10 :: lb)).length = N3 := ⟨_, rfl⟩
  rw [hN1] at L1
  rw [hN2] at L2
  rw [hN3] at L3
  have HN1 := Lib.hid hN1
  have HN2 := Lib.hid hN2
  have HN3 := Lib.hid hN3
  clear hn hm ha hb hN1 hN2 hN3
  go_enter Tryd.func6, Tryd.ntmps6
  go_wp2_with (first
    | (at_builtin; refine wpList_append_row rfl (.tmp 16) (.tmp 17) _ rfl W.heap.size 5 _ 1 1 Tryd.underlying22 infoByteJ rfl (by decide) (.slice (some ⟨W.heap.size, 0, none⟩) 0 0) 0 [] rfl (own_empty W _ _) W.heap.size A n c (bytesV la) rfl (RowAt.alloc HA.out (Nat.le_refl _) _) one_bytes n (by omega) (bytesV la) rfl (by unfold maxLen; omega) (by omega) (by simp) ?_; intro A1 c1 w1 hown1 hb1 _; have O1 := Lib.hid hown1; have B1 := Lib.hid (((Below.refl W.heap.size W).alloc (Nat.le_refl _) _).trans hb1); clear hown1 hb1)
    | (at_builtin; refine wpList_push rfl (.tmp 18) (.tmp 19) _ rfl W.heap.size 5 _ 1 Tryd.underlying22 infoByteJ rfl (.slice A1 n c1) n (bytesV la) rfl w1 w1.heap.size rfl (.int .u8 10) rfl O1.out rfl B1.out.size (by omega) (by unfold maxLen; omega) ?_; intro A2 c2 w2 hown2 hb2 _; have O2 := Lib.hid hown2; have B2 := Lib.hid (B1.out.trans hb2); clear hown2 hb2)
    | (at_builtin; refine wpList_append_row rfl (.tmp 20) (.tmp 21) _ rfl W.heap.size 5 _ 1 1 Tryd.underlying22 infoByteJ rfl (by decide) (.slice A2 (n + 1) c2) (n + 1) (bytesV la ++ [.int .u8 10]) rfl O2.out W.heap.size B m d (bytesV lb) rfl (RowAt.below HB.out B2.out) one_bytes (n + 1 + m) rfl (bytesV (la ++ 10 :: lb)) (by simp [bytesV]) (by unfold maxLen; omega) (by omega) B2.out.size ?_; intro A3 c3 w3 hown3 hb3 _; have O3 := Lib.hid (show BytesAt w3 w3.heap.size A3 (n + 1 + m) c3 (la ++ 10 :: lb) from RowAt.of_own hown3); have B3 := Lib.hid (B2.out.trans hb3); clear hown3 hb3))
  refine (lines_as _ (RowAt.mono (RowAt.below HA.out B3.out) B3.out.size) (by omega) rfl HN1.out).mono ?_
  rintro e w4 ⟨A4, c4, rfl, h4, hb4⟩
  have O4 := Lib.hid (show BytesAt w4 w4.heap.size A3 (n + 1 + m) c3 (la ++ 10 :: lb) from RowAt.mono (RowAt.below O3.out hb4) hb4.size)
  have S4 := Lib.hid h4
  have B4 := Lib.hid (B3.out.trans (hb4.mono B3.out.size))
  clear h4 hb4
  have HBT := Lib.hid (show BytesAt w4 w4.heap.size B m d lb from RowAt.mono (RowAt.below HB.out B4.out) B4.out.size)
  by_cases hn0 : n = 0
  · have hq : la = [] := List.eq_nil_of_length_eq_zero (by have := HN.out; omega)
    have HE := Lib.hid (show linesL (la ++ 10 :: lb) = linesL la ++ [[]] ++ linesL lb from by rw [linesL_join, if_pos (.inl hq)])
    have hbz := beq_yes (a := (n : Int)) (b := 0) (by omega)
    clear hq hn0
    go_wp2_with (first
      | (at_builtin; refine wpList_append_row rfl (.tmp 37) (.tmp 38) _ rfl w4.heap.size 9 _ 1 16 Tryd.underlying25 infoStr1 rfl (by decide) (.slice (some ⟨w4.heap.size, 0, none⟩) 0 0) 0 [] rfl (own_empty w4 _ _) w4.heap.size A4 N1 c4 (strsV (linesL la)) rfl (RowAt.alloc S4.out (Nat.le_refl _) _) one_strs N1 (by omega) (strsV (linesL la)) rfl (by unfold maxLen; omega) (by omega) (by simp) ?_; intro A5 c5 w5 hown5 hb5 _; have O5 := Lib.hid hown5; have C5 := Lib.hid (((Below.refl w4.heap.size w4).alloc (Nat.le_refl _) _).trans hb5); clear hown5 hb5)
      | (at_builtin; refine wpList_push rfl (.tmp 39) (.tmp 40) _ rfl w4.heap.size 9 _ 16 Tryd.underlying25 infoStr1 rfl (.slice A5 N1 c5) N1 (strsV (linesL la)) rfl w5 w5.heap.size rfl (.string ⟨#[]⟩) rfl O5.out rfl C5.out.size (by omega) (by unfold maxLen; omega) ?_; intro A6 c6 w6 hown6 hb6 _; refine Hid.out ?_))
    have S6 := Lib.hid (show StrsAt w6 w6.heap.size A6 (N1 + 1) c6 (linesL la ++ [[]]) from StrsAt.of_own (by rw [strsV_snoc]; exact hown6))
    have C6 := Lib.hid (C5.out.trans hb6)
    have B6 := Lib.hid (B4.out.trans (C6.out.mono B4.out.size))
    have O6 := Lib.hid (show BytesAt w6 w6.heap.size A3 (n + 1 + m) c3 (la ++ 10 :: lb) from RowAt.mono (RowAt.below O4.out C6.out) C6.out.size)
    clear hown6 hb6
    refine Lib.hid ?_
    go_wp2_with (at_builtin; refine wpList_append_row rfl (.tmp 42) (.tmp 43) _ rfl w6.heap.size 9 _ 1 16 Tryd.underlying25 infoStr1 rfl (by decide) (.slice (some ⟨w6.heap.size, 0, none⟩) 0 0) 0 [] rfl (own_empty w6 _ _) w6.heap.size A6 (N1 + 1) c6 (strsV (linesL la ++ [[]])) rfl (RowAt.alloc S6.out (Nat.le_refl _) _) one_strs (N1 + 1) (by omega) (strsV (linesL la ++ [[]])) rfl (by unfold maxLen; omega) (by omega) (by simp) ?_; intro A7 c7 w7 hown7 hb7 _; have O7 := Lib.hid hown7; have C7 := Lib.hid (((Below.refl w6.heap.size w6).alloc (Nat.le_refl _) _).trans hb7); have HBT7 := Lib.hid (show BytesAt w7 w7.heap.size B m d lb from RowAt.mono (RowAt.below HB.out (B6.out.trans (C7.out.mono B6.out.size))) (Nat.le_trans B6.out.size C7.out.size)); clear hown7 hb7)
    refine (lines_as _ HBT7.out (by omega) rfl HN2.out).mono ?_
    rintro e w8 ⟨A8, c8, rfl, h8, hb8⟩
    have O8 := Lib.hid (jown_below O7.out hb8)
    have S8 := Lib.hid h8
    have C8 := Lib.hid (C7.out.trans (hb8.mono C7.out.size))
    clear h8 hb8
    go_wp2_with (at_builtin; refine wpList_append_row rfl (.tmp 44) (.tmp 46) _ rfl w6.heap.size 9 _ 1 16 Tryd.underlying25 infoStr1 rfl (by decide) (.slice A7 (N1 + 1) c7) (N1 + 1) (strsV (linesL la ++ [[]])) rfl O8.out w8.heap.size A8 N2 c8 (strsV (linesL lb)) rfl S8.out one_strs ((N1 + 1) + N2) rfl (strsV ((linesL la ++ [[]]) ++ linesL lb)) (by simp [strsV]) (by unfold maxLen; omega) (by omega) C8.out.size ?_; intro A9 c9 w9 hown9 hb9 _; have O9 := Lib.hid (StrsAt.of_own hown9); have C9 := Lib.hid (C8.out.trans hb9); clear hown9 hb9)
    have B9 := Lib.hid (B6.out.trans (C9.out.mono B6.out.size))
    refine (fixed06 _ (ht.below B9.out)).mono ?_
    rintro e wf ⟨rfl, hbf⟩
    have Cf := Lib.hid (C9.out.trans (hbf.mono C9.out.size))
    have Sf := Lib.hid (show StrsAt wf wf.heap.size A9 ((N1 + 1) + N2) c9 ((linesL la ++ [[]]) ++ linesL lb) from RowAt.mono (RowAt.below O9.out hbf) hbf.size)
    have O4f := Lib.hid (show BytesAt wf wf.heap.size A3 (n + 1 + m) c3 (la ++ 10 :: lb) from RowAt.mono (RowAt.below O6.out Cf.out) Cf.out.size)
    clear hbf
    go_wp2_with fail
    refine (lines_as _ O4f.out (by omega) rfl HN3.out).mono ?_
    rintro e wg ⟨A10, c10, rfl, hg, hbg⟩
    have Sg := Lib.hid hg
    have Sf2 := Lib.hid (show StrsAt wg wg.heap.size A9 ((N1 + 1) + N2) c9 ((linesL la ++ [[]]) ++ linesL lb) from RowAt.mono (RowAt.below Sf.out hbg) hbg.size)
    have Cg := Lib.hid (Cf.out.trans (hbg.mono Cf.out.size))
    clear hg hbg
    go_wp2_with fail
    refine (same_any _ Sg.out Sf2.out).mono ?_
    rw [decide_eq_true HE.out]
    rintro e wh ⟨rfl, kh, rfl⟩
    go_wp2_with fail
    go_ret
    exact ⟨rfl, below_drewN (B6.out.trans (Cg.out.mono B6.out.size)) kh⟩
  · have hnz : 0 < n := by omega
    have hbn := beq_no (a := (n : Int)) (b := 0) (by omega)
    have HA4 := Lib.hid (show BytesAt w4 w4.heap.size A n c la from RowAt.mono (RowAt.below HA.out B4.out) B4.out.size)
    obtain ⟨ba, oa, hAe, hba, hca⟩ := HA4.out.cells hnz
    have hla : la.length - 1 < la.length := by have := HN.out; omega
    have hx := hca (la.length - 1) hla
    obtain ⟨y, hy⟩ : ∃ y, la[la.length - 1]'hla = y := ⟨_, rfl⟩
    rw [hy] at hx
    have hlast : la.getLast? = some y := by rw [List.getLast?_eq_getElem?, List.getElem?_eq_getElem hla, hy]
    clear hy
    rw [show la.length - 1 = n - 1 from by have := HN.out; omega] at hx
    have hne : la ≠ [] := fun e => by rw [e] at hla; simp at hla
    subst hAe
    by_cases h10 : y = 10
    · have hx' : w4.cell? ⟨ba, oa + (n - 1), none⟩ = some (.int .u8 10) := by rw [hx, h10]; rfl
      have HE := Lib.hid (show linesL (la ++ 10 :: lb) = linesL la ++ [[]] ++ linesL lb from by rw [linesL_join, if_pos (.inr (by rw [hlast, h10]))])
      clear hx h10 hlast hne hca
      go_wp2_with (first
        | (at_builtin; refine wpList_append_row rfl (.tmp 37) (.tmp 38) _ rfl w4.heap.size 9 _ 1 16 Tryd.underlying25 infoStr1 rfl (by decide) (.slice (some ⟨w4.heap.size, 0, none⟩) 0 0) 0 [] rfl (own_empty w4 _ _) w4.heap.size A4 N1 c4 (strsV (linesL la)) rfl (RowAt.alloc S4.out (Nat.le_refl _) _) one_strs N1 (by omega) (strsV (linesL la)) rfl (by unfold maxLen; omega) (by omega) (by simp) ?_; intro A5 c5 w5 hown5 hb5 _; have O5 := Lib.hid hown5; have C5 := Lib.hid (((Below.refl w4.heap.size w4).alloc (Nat.le_refl _) _).trans hb5); clear hown5 hb5)
        | (at_builtin; refine wpList_push rfl (.tmp 39) (.tmp 40) _ rfl w4.heap.size 9 _ 16 Tryd.underlying25 infoStr1 rfl (.slice A5 N1 c5) N1 (strsV (linesL la)) rfl w5 w5.heap.size rfl (.string ⟨#[]⟩) rfl O5.out rfl C5.out.size (by omega) (by unfold maxLen; omega) ?_; intro A6 c6 w6 hown6 hb6 _; refine Hid.out ?_))
      have S6 := Lib.hid (show StrsAt w6 w6.heap.size A6 (N1 + 1) c6 (linesL la ++ [[]]) from StrsAt.of_own (by rw [strsV_snoc]; exact hown6))
      have C6 := Lib.hid (C5.out.trans hb6)
      have B6 := Lib.hid (B4.out.trans (C6.out.mono B4.out.size))
      have O6 := Lib.hid (show BytesAt w6 w6.heap.size A3 (n + 1 + m) c3 (la ++ 10 :: lb) from RowAt.mono (RowAt.below O4.out C6.out) C6.out.size)
      clear hown6 hb6
      refine Lib.hid ?_
      go_wp2_with (at_builtin; refine wpList_append_row rfl (.tmp 42) (.tmp 43) _ rfl w6.heap.size 9 _ 1 16 Tryd.underlying25 infoStr1 rfl (by decide) (.slice (some ⟨w6.heap.size, 0, none⟩) 0 0) 0 [] rfl (own_empty w6 _ _) w6.heap.size A6 (N1 + 1) c6 (strsV (linesL la ++ [[]])) rfl (RowAt.alloc S6.out (Nat.le_refl _) _) one_strs (N1 + 1) (by omega) (strsV (linesL la ++ [[]])) rfl (by unfold maxLen; omega) (by omega) (by simp) ?_; intro A7 c7 w7 hown7 hb7 _; have O7 := Lib.hid hown7; have C7 := Lib.hid (((Below.refl w6.heap.size w6).alloc (Nat.le_refl _) _).trans hb7); have HBT7 := Lib.hid (show BytesAt w7 w7.heap.size B m d lb from RowAt.mono (RowAt.below HB.out (B6.out.trans (C7.out.mono B6.out.size))) (Nat.le_trans B6.out.size C7.out.size)); clear hown7 hb7)
      refine (lines_as _ HBT7.out (by omega) rfl HN2.out).mono ?_
      rintro e w8 ⟨A8, c8, rfl, h8, hb8⟩
      have O8 := Lib.hid (jown_below O7.out hb8)
      have S8 := Lib.hid h8
      have C8 := Lib.hid (C7.out.trans (hb8.mono C7.out.size))
      clear h8 hb8
      go_wp2_with (at_builtin; refine wpList_append_row rfl (.tmp 44) (.tmp 46) _ rfl w6.heap.size 9 _ 1 16 Tryd.underlying25 infoStr1 rfl (by decide) (.slice A7 (N1 + 1) c7) (N1 + 1) (strsV (linesL la ++ [[]])) rfl O8.out w8.heap.size A8 N2 c8 (strsV (linesL lb)) rfl S8.out one_strs ((N1 + 1) + N2) rfl (strsV ((linesL la ++ [[]]) ++ linesL lb)) (by simp [strsV]) (by unfold maxLen; omega) (by omega) C8.out.size ?_; intro A9 c9 w9 hown9 hb9 _; have O9 := Lib.hid (StrsAt.of_own hown9); have C9 := Lib.hid (C8.out.trans hb9); clear hown9 hb9)
      have B9 := Lib.hid (B6.out.trans (C9.out.mono B6.out.size))
      refine (fixed06 _ (ht.below B9.out)).mono ?_
      rintro e wf ⟨rfl, hbf⟩
      have Cf := Lib.hid (C9.out.trans (hbf.mono C9.out.size))
      have Sf := Lib.hid (show StrsAt wf wf.heap.size A9 ((N1 + 1) + N2) c9 ((linesL la ++ [[]]) ++ linesL lb) from RowAt.mono (RowAt.below O9.out hbf) hbf.size)
      have O4f := Lib.hid (show BytesAt wf wf.heap.size A3 (n + 1 + m) c3 (la ++ 10 :: lb) from RowAt.mono (RowAt.below O6.out Cf.out) Cf.out.size)
      clear hbf
      go_wp2_with fail
      refine (lines_as _ O4f.out (by omega) rfl HN3.out).mono ?_
      rintro e wg ⟨A10, c10, rfl, hg, hbg⟩
      have Sg := Lib.hid hg
      have Sf2 := Lib.hid (show StrsAt wg wg.heap.size A9 ((N1 + 1) + N2) c9 ((linesL la ++ [[]]) ++ linesL lb) from RowAt.mono (RowAt.below Sf.out hbg) hbg.size)
      have Cg := Lib.hid (Cf.out.trans (hbg.mono Cf.out.size))
      clear hg hbg
      go_wp2_with fail
      refine (same_any _ Sg.out Sf2.out).mono ?_
      rw [decide_eq_true HE.out]
      rintro e wh ⟨rfl, kh, rfl⟩
      go_wp2_with fail
      go_ret
      exact ⟨rfl, below_drewN (B6.out.trans (Cg.out.mono B6.out.size)) kh⟩
    · have hx' := beq_no (a := (y.toNat : Int)) (b := 10) (fun e => h10 (UInt8.toNat_inj.1 (by show _ = 10; omega)))
      have HE := Lib.hid (show linesL (la ++ 10 :: lb) = linesL la ++ linesL lb from by
        rw [linesL_join, if_neg, List.append_nil]
        rintro (e | e)
        · exact hne e
        · rw [hlast] at e; injection e with e; exact h10 e)
      clear h10 hlast hne hca
      go_wp2_with (at_builtin; refine wpList_append_row rfl (.tmp 42) (.tmp 43) _ rfl w4.heap.size 9 _ 1 16 Tryd.underlying25 infoStr1 rfl (by decide) (.slice (some ⟨w4.heap.size, 0, none⟩) 0 0) 0 [] rfl (own_empty w4 _ _) w4.heap.size A4 N1 c4 (strsV (linesL la)) rfl (RowAt.alloc S4.out (Nat.le_refl _) _) one_strs N1 (by omega) (strsV (linesL la)) rfl (by unfold maxLen; omega) (by omega) (by simp) ?_; intro A7 c7 w7 hown7 hb7 _; have O7 := Lib.hid hown7; have C7 := Lib.hid (((Below.refl w4.heap.size w4).alloc (Nat.le_refl _) _).trans hb7); have HBT7 := Lib.hid (show BytesAt w7 w7.heap.size B m d lb from RowAt.mono (RowAt.below HB.out (B4.out.trans (C7.out.mono B4.out.size))) (Nat.le_trans B4.out.size C7.out.size)); clear hown7 hb7)
      refine (lines_as _ HBT7.out (by omega) rfl HN2.out).mono ?_
      rintro e w8 ⟨A8, c8, rfl, h8, hb8⟩
      have O8 := Lib.hid (jown_below O7.out hb8)
      have S8 := Lib.hid h8
      have C8 := Lib.hid (C7.out.trans (hb8.mono C7.out.size))
      clear h8 hb8
      go_wp2_with (at_builtin; refine wpList_append_row rfl (.tmp 44) (.tmp 46) _ rfl w4.heap.size 9 _ 1 16 Tryd.underlying25 infoStr1 rfl (by decide) (.slice A7 N1 c7) N1 (strsV (linesL la)) rfl O8.out w8.heap.size A8 N2 c8 (strsV (linesL lb)) rfl S8.out one_strs (N1 + N2) rfl (strsV ((linesL la) ++ linesL lb)) (by simp [strsV]) (by unfold maxLen; omega) (by omega) C8.out.size ?_; intro A9 c9 w9 hown9 hb9 _; have O9 := Lib.hid (StrsAt.of_own hown9); have C9 := Lib.hid (C8.out.trans hb9); clear hown9 hb9)
      have B9 := Lib.hid (B4.out.trans (C9.out.mono B4.out.size))
      refine (fixed06 _ (ht.below B9.out)).mono ?_
      rintro e wf ⟨rfl, hbf⟩
      have Cf := Lib.hid (C9.out.trans (hbf.mono C9.out.size))
      have Sf := Lib.hid (show StrsAt wf wf.heap.size A9 (N1 + N2) c9 ((linesL la) ++ linesL lb) from RowAt.mono (RowAt.below O9.out hbf) hbf.size)
      have O4f := Lib.hid (show BytesAt wf wf.heap.size A3 (n + 1 + m) c3 (la ++ 10 :: lb) from RowAt.mono (RowAt.below O4.out Cf.out) Cf.out.size)
      clear hbf
      go_wp2_with fail
      refine (lines_as _ O4f.out (by omega) rfl HN3.out).mono ?_
      rintro e wg ⟨A10, c10, rfl, hg, hbg⟩
      have Sg := Lib.hid hg
      have Sf2 := Lib.hid (show StrsAt wg wg.heap.size A9 (N1 + N2) c9 ((linesL la) ++ linesL lb) from RowAt.mono (RowAt.below Sf.out hbg) hbg.size)
      have Cg := Lib.hid (Cf.out.trans (hbg.mono Cf.out.size))
      clear hg hbg
      go_wp2_with fail
      refine (same_any _ Sg.out Sf2.out).mono ?_
      rw [decide_eq_true HE.out]
      rintro e wh ⟨rfl, kh, rfl⟩
      go_wp2_with fail
      go_ret
      exact ⟨rfl, below_drewN (B4.out.trans (Cg.out.mono B4.out.size)) kh⟩
end Go.Proofs.YtefhifmilmedhaaDoor
