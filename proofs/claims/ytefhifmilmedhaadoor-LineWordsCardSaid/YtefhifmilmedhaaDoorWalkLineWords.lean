/- The walk of LineWords. -/
import Derived.Test.YtefhifmilmedhaaDoorLineFixed
namespace Go.Proofs.YtefhifmilmedhaaDoor
open Go.RowKit

theorem glue_snoc (c : UInt8) (x : List UInt8) : ∀ ws : List (List UInt8), glueL c (ws ++ [x]) = if ws = [] then x else glueL c ws ++ c :: x
  | [] => by simp [glueL]
  | [y] => by simp [glueL]
  | y :: z :: r => by
    have := glue_snoc c x (z :: r)
    rw [if_neg (by simp)] at this
    rw [if_neg (by simp), List.cons_append, glueL_cons _ _ (by simp), this, glueL_cons c y (r := z :: r) (by simp), List.append_assoc, List.cons_append]
theorem glue_take (c : UInt8) (ws : List (List UInt8)) (k : Nat) : (glueL c (ws.take k)).length ≤ (glueL c ws).length := by
  induction ws generalizing k with
  | nil => simp
  | cons x r ih =>
    cases k with
    | zero => simp [glueL]
    | succ k =>
      rw [List.take_succ_cons]
      by_cases hr : r.take k = []
      · rw [hr]
        by_cases hr' : r = []
        · subst hr'; simp
        · rw [glueL_cons _ _ hr']; simp [glueL]
      · have hr' : r ≠ [] := fun e => hr (by rw [e]; simp)
        rw [glueL_cons _ _ hr, glueL_cons _ _ hr']
        have := ih k
        simp; omega

set_option maxRecDepth 100000 in
set_option maxHeartbeats 1000000 in
theorem walkLineWords (W : World) (ht : Tab10 W) (s : ByteArray) (_ : s.data.toList.length ≤ maxLen) : Calls Tryd.prog 4 #[.string s] W fun e W' => e = .returned (.bool true) ∧ Below W.heap.size W W' := by
  by_cases h2 : 1000 < s.size
  · have h2' : (1000 : Int) < (s.size : Int) := by omega
    go_enter Tryd.func4, Tryd.ntmps4
    go_wp2_with (go_at_call 13; refine (fixed06 _ ht).mono ?_; rintro e w' ⟨rfl, hb⟩)
    go_ret
    exact ⟨rfl, hb⟩
  · have h2'' : (s.size : Int) ≤ 1000 := by omega
    obtain ⟨ws, hws⟩ : ∃ ws, (wordsL s.data.toList).getD [] = ws := ⟨_, rfl⟩
    obtain ⟨o, ho⟩ : ∃ o, (wordsL s.data.toList).isSome = o := ⟨_, rfl⟩
    obtain ⟨n, hn⟩ : ∃ n, ws.length = n := ⟨_, rfl⟩
    have hg : o = true → glueL 32 ws = s.data.toList := by
      intro e
      subst ho hws
      cases hw : wordsL s.data.toList with
      | none => rw [hw] at e; cases e
      | some x => rw [Option.getD_some, (wordsL_some hw).1, glue_partsF]; rfl
    have hgl : (glueL 32 ws).length ≤ 1000 := by
      cases o with
      | true => rw [hg rfl, str_len]; omega
      | false =>
        rw [Option.isSome_eq_false_iff, Option.isNone_iff_eq_none] at ho
        rw [ho] at hws
        rw [← hws]; simp [glueL]
    have hdec : decide ((0 : Int) < (n : Int)) = o := by
      subst hn hws ho
      cases hw : wordsL s.data.toList with
      | none => simp
      | some x =>
        have := List.length_pos_iff.2 (partsF_ne 32 s.data.toList [])
        rw [Option.getD_some, (wordsL_some hw).1]
        simp only [Option.isSome_some, decide_eq_true_eq]
        omega
    have hn1 : n ≤ 1001 := by
      subst hn hws
      cases hw : wordsL s.data.toList with
      | none => simp
      | some x =>
        have := partsF_length 32 s.data.toList []
        rw [Option.getD_some, (wordsL_some hw).1]
        rw [str_len] at this
        omega
    have HO := Lib.hid ho
    have HW := Lib.hid hws
    have HN := Lib.hid hn
    have HG := Lib.hid hg
    clear ho hws hn hg
    go_enter Tryd.func4, Tryd.ntmps4
    go_wp2_with fail
    refine (words_as (by omega) _ HO.out HW.out HN.out).mono ?_
    rintro e w1 ⟨A1, c1, rfl, h1, hb1⟩
    have S1 := Lib.hid h1
    have B1 := Lib.hid hb1
    clear h1 hb1
    go_wp2_with fail
    refine (rwords_as (by omega) _ HW.out HN.out).mono ?_
    rintro e w2 ⟨A2, c2, rfl, h2, hb2⟩
    have S12 := Lib.hid (show StrsAt w2 w2.heap.size A1 n c1 ws from RowAt.mono (RowAt.below S1.out hb2) hb2.size)
    have S2 := Lib.hid h2
    have B2 := Lib.hid (B1.out.trans (hb2.mono B1.out.size))
    clear h2 hb2
    cases o with
    | false =>
      have hn0 : n = 0 := by
        rw [decide_eq_false_iff_not] at hdec
        omega
      subst hn0
      clear hdec
      go_wp2_with (go_at_call 14; refine (same_any _ S12.out S2.out).mono ?_; rintro e w3 ⟨rfl, k3, rfl⟩; have B3 := Lib.hid (below_drewN B2.out k3))
      go_loopw [6, 33] (fun t i wr => t = .string ⟨#[]⟩ ∧ i = .int .i64 0 ∧ wr = w2.drewN k3) (fun _ i _ => 0)
      case atStart => exact ⟨rfl, rfl, rfl⟩
      case round =>
        obtain ⟨rfl, rfl, rfl⟩ := hrel
        go_wp2_with (go_at_call 13; refine (fixed06 _ (ht.below B3.out)).mono ?_; rintro e w4 ⟨rfl, hb4⟩; have B4 := Lib.hid (B3.out.trans (hb4.mono B3.out.size)); clear hb4)
        go_ret
        exact ⟨rfl, B4.out⟩
    | true =>
      rw [decide_eq_true_eq] at hdec
      have hdn : 0 < n := by omega
      go_wp2_with (go_at_call 14; refine (same_any _ S12.out S2.out).mono ?_; rintro e w3 ⟨rfl, k3, rfl⟩; have B3 := Lib.hid (below_drewN B2.out k3))
      go_loopw [6, 33] (fun t i wr => ∃ k : Nat, k ≤ n ∧ t = .string (strOf (glueL 32 (ws.take k))) ∧ i = .int .i64 k ∧ wr = w2.drewN k3) (fun _ i _ => n - (intOf i).toNat)
      case atStart => exact ⟨0, Nat.zero_le _, by simp [glueL]; rfl, rfl, rfl⟩
      case round =>
        obtain ⟨k, hk, rfl, rfl, rfl⟩ := hrel
        by_cases hlt : k < n
        · have hkl : k < ws.length := by have := HN.out; omega
          obtain ⟨b, off, rfl, hb, hc⟩ := S12.out.cells (by omega)
          have c1 : (w2.drewN k3).cell? ⟨b, off + k, none⟩ = some (.string (strOf (ws[k]'hkl))) := hc k hkl
          have hti : ws.take (k + 1) = ws.take k ++ [ws[k]'hkl] := by rw [List.take_add_one, List.getElem?_eq_getElem hkl]; rfl
          have hz := glue_take 32 ws (k + 1)
          have hz0 := glue_take 32 ws k
          have hgs := glue_snoc 32 (ws[k]'hkl) (ws.take k)
          rw [← hti] at hgs
          by_cases hk0 : k = 0
          · have hd0 : decide ((0 : Int) < (k : Int)) = false := by simp; omega
            have hd0' : decide (0 < k) = false := by simp; omega
            rw [if_pos (by rw [hk0]; rfl)] at hgs
            have HS := Lib.hid (show strOf (glueL 32 (ws.take k)) ++ strOf (ws[k]'hkl) = strOf (glueL 32 (ws.take (k + 1))) from by
              have hg0 : glueL 32 (ws.take k) = [] := by rw [show ws.take k = [] from by rw [hk0]; rfl]; rfl
              rw [strOf_append, hgs, hg0]; rfl)
            have hbd : ¬ 9223372036854775807 < (strOf (glueL 32 (ws.take k))).size + (strOf (ws[k]'hkl)).size := by rw [strOf_size, strOf_size, ← hgs]; omega
            clear hgs hti hz hz0 hk0
            go_wp2_with fail
            go_roundw
            case rel => exact ⟨k + 1, by omega, by rw [HS.out], rfl, trivial⟩
            case measure => simp [intOf] <;> omega
          · have hd0 : (0 : Int) < (k : Int) := by omega
            have hd0' : 0 < k := by omega
            rw [if_neg (by intro e; have := congrArg List.length e; rw [List.length_take, List.length_nil] at this; omega)] at hgs
            have HS := Lib.hid (show strOf (glueL 32 (ws.take k)) ++ { data := #[32] } ++ strOf (ws[k]'hkl) = strOf (glueL 32 (ws.take (k + 1))) from by
              rw [show ({ data := #[32] } : ByteArray) = strOf [32] from rfl, strOf_append, strOf_append, hgs]; simp)
            have hbd : ¬ 9223372036854775807 < (strOf (glueL 32 (ws.take k))).size + 1 := by rw [strOf_size]; omega
            have hbd2 : ¬ 9223372036854775807 < (strOf (glueL 32 (ws.take k))).size + 1 + (strOf (ws[k]'hkl)).size := by
              rw [strOf_size, strOf_size]
              rw [hgs, List.length_append, List.length_cons] at hz
              omega
            clear hgs hti hz hz0 hk0
            go_wp2_with fail
            go_roundw
            case rel => exact ⟨k + 1, by omega, by rw [HS.out], rfl, trivial⟩
            case measure => simp [intOf] <;> omega
        · obtain rfl : k = n := by omega
          have HQ := Lib.hid (show ((strOf (glueL 32 (ws.take k))).toList == s.toList) = true from by
            rw [List.take_of_length_le (by have := HN.out; omega), HG.out trivial, strOf_data]; simp)
          have hq := HQ.out
          go_wp2_with (go_at_call 13; refine (fixed06 _ (ht.below B3.out)).mono ?_; rintro e w4 ⟨rfl, hb4⟩; have B4 := Lib.hid (B3.out.trans (hb4.mono B3.out.size)); clear hb4)
          go_ret
          exact ⟨rfl, B4.out⟩
end Go.Proofs.YtefhifmilmedhaaDoor
