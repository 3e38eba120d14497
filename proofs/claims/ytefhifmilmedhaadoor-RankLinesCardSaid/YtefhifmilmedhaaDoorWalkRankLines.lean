/- The walk of RankLines: true for every input. -/
import Derived.Test.YtefhifmilmedhaaDoorRankFixed
import Derived.Test.YtefhifmilmedhaaDoorRankWrite
import Derived.Test.YtefhifmilmedhaaDoorRankRef
import Derived.Test.YtefhifmilmedhaaDoorOpenRow
import Derived.Test.YtefhifmilmedhaaDoorRankLinesLaw
import Derived.BigQuiet
namespace Go.Proofs.YtefhifmilmedhaaDoor
open Go.RowKit
set_option linter.unusedVariables false
theorem mod_k (cut n : Nat) : (cut % (n + 1)) ≤ n := by have := Nat.mod_lt cut (show 0 < n + 1 by omega); omega
theorem tmod_k (cut n : Nat) : Int.tmod (cut : Int) ((n : Int) + 1) = ((cut % (n + 1) : Nat) : Int) := by
  rw [show ((n : Int) + 1) = ((n + 1 : Nat) : Int) by omega, Int.tmod_eq_emod_of_nonneg (by omega)]
  rfl
theorem emod_k (cut n : Nat) : (cut : Int) % ((n : Int) + 1) = ((cut % (n + 1) : Nat) : Int) := by
  rw [show ((n : Int) + 1) = ((n + 1 : Nat) : Int) by omega]
  rfl
theorem rread_as2 {s : ByteArray} {m fl fe : Nat} {x : List (List UInt8 × Nat)} (w : World) (hm : s.size ≤ 99999) (hx : readL s.data.toList = (x, fl, fe)) (hn : x.length = m) :
    Calls Tryd.prog 28 #[.string s] w fun e w' =>
      ∃ A' c', e = .returned (.tuple #[.slice A' m c', .agg #[.int .i64 (fl : Int), .int .i64 (fe : Int)]]) ∧ Below w.heap.size w w' := by
  subst hn
  refine (rread_any s hm w).mono ?_
  rintro e w' ⟨A', c', rfl, hr, hb⟩
  rw [hx]
  exact ⟨A', c', rfl, hb⟩
set_option maxRecDepth 100000 in
set_option maxHeartbeats 4000000 in
theorem walkRankLines (w : World) (ht : Tab10 w) {A : Option Addr} {n c : Nat} {l : List (List UInt8 × Int)} (h : RowAt w w.heap.size 2 A n c (rowsI l)) (cut : Int) (hc0 : 0 ≤ cut) (hc1 : cut ≤ 255) (s : ByteArray) (hs : s.data.toList.length ≤ maxLen) :
    Calls Tryd.prog 8 #[.slice A n c, .int .u8 cut, .string s] w fun e w' => e = .returned (.bool true) ∧ Below w.heap.size w w' := by
  have hcap := h.2.2.1
  have hcn := h.2.1
  unfold maxLen at hcap
  have HH := Lib.hid h
  have HL := Lib.hid (rows_len h)
  have HT := Lib.hid ht
  clear h ht hs
  by_cases h1 : 60 < n
  · have h1' : (60 : Int) < (n : Int) := by omega
    go_enter Tryd.func8, Tryd.ntmps8
    go_wp2_with fail
    refine (fixed07 w).mono ?_
    rintro e w' ⟨rfl, hb⟩
    have HE := Lib.hid hb
    go_wp2_with fail
    go_ret
    exact ⟨rfl, HE.out⟩
  · have h1' : ¬ (60 : Int) < (n : Int) := by omega
    by_cases h2 : 200 < s.size
    · have h2' : (200 : Int) < (s.size : Int) := by omega
      go_enter Tryd.func8, Tryd.ntmps8
      go_wp2_with fail
      refine (fixed07 w).mono ?_
      rintro e w' ⟨rfl, hb⟩
      have HE := Lib.hid hb
      go_wp2_with fail
      go_ret
      exact ⟨rfl, HE.out⟩
    · have h2' : ¬ (200 : Int) < (s.size : Int) := by omega
      obtain ⟨o, ho⟩ : ∃ o, okW l = o := ⟨_, rfl⟩
      have HO := Lib.hid ho
      clear ho
      cases o with
      | false =>
        go_enter Tryd.func8, Tryd.ntmps8
        go_wp2_with fail
        refine (rankWrite_no w HT.out HH.out HO).mono ?_
        rintro e w2 ⟨rfl, hb2⟩
        have HW2 := Lib.hid hb2
        clear hb2
        go_wp2_with fail
        refine (fixed07 w2).mono ?_
        rintro e w3 ⟨rfl, hb3⟩
        have HW3 := Lib.hid (HW2.out.trans (hb3.mono HW2.out.size))
        clear hb3
        go_wp2_with fail
        go_ret
        exact ⟨rfl, HW3.out⟩
      | true =>
        obtain ⟨cu, rfl⟩ := Int.eq_ofNat_of_zero_le hc0
        obtain ⟨k, hk⟩ : ∃ k, cu % (n + 1) = k := ⟨_, rfl⟩
        have hkn : k ≤ n := by rw [← hk]; exact mod_k cu n
        have ht1 := tmod_k cu n
        have ht2 := emod_k cu n
        rw [hk] at ht1 ht2
        obtain ⟨F, hF⟩ : ∃ F, fileW l = F := ⟨_, rfl⟩
        obtain ⟨m, hm⟩ : ∃ m, F.length = m := ⟨_, rfl⟩
        obtain ⟨G, hG⟩ : ∃ G, fileW (l.take k) = G := ⟨_, rfl⟩
        obtain ⟨g, hg⟩ : ∃ g, G.length = g := ⟨_, rfl⟩
        have HF := Lib.hid hF
        have HM := Lib.hid hm
        have HG := Lib.hid hG
        have HGL := Lib.hid hg
        have hff := file_first l k
        rw [hF, hG, hg, hm] at hff
        have hgm : g ≤ m := hff.1
        have HPR := Lib.hid hff.2
        have hml : m ≤ 20000 := by
          have := file_len (l := l) (by have := HO.out; unfold okW at this; rw [Bool.and_eq_true] at this; exact this.2)
          rw [hF, hm, ← HL.out] at this; omega
        have HOK := Lib.hid (ok_take HO.out k)
        have HRK := Lib.hid (show RowAt w w.heap.size 2 A k c (rowsI (l.take k)) from by rw [← rowsI_takeW]; exact HH.out.to_ hkn)
        have HK := Lib.hid hk
        clear hF hm hG hg hff hk
        go_enter Tryd.func8, Tryd.ntmps8
        go_wp2_with fail
        refine (rankWrite_yes w HT.out HH.out HO HF HM).mono ?_
        rintro e w2 ⟨A2, c2, rfl, hbt, hb2⟩
        have HBT := Lib.hid hbt
        have HW2 := Lib.hid hb2
        have HRK2 := Lib.hid (show RowAt w2 w2.heap.size 2 A k c (rowsI (l.take k)) from RowAt.mono (RowAt.below HRK.out hb2) hb2.size)
        have hcm2 := hbt.2.1
        have hcm2' := hbt.2.2.1
        unfold maxLen at hcm2'
        clear hbt hb2
        go_wp2_with fail
        refine (rankWrite_yes w2 (tab_later HT.out HW2.out) HRK2.out HOK HG HGL).mono ?_
        rintro e w3 ⟨A3, c3, rfl, hgt, hb3⟩
        have HW3 := Lib.hid (HW2.out.trans (hb3.mono HW2.out.size))
        have HGT := Lib.hid hgt
        have HB3 := Lib.hid (show BytesAt w3 w3.heap.size A2 m c2 F from RowAt.mono (RowAt.below HBT.out hb3) hb3.size)
        have hcm3 := hgt.2.1
        have hcm3' := hgt.2.2.1
        unfold maxLen at hcm3'
        have hq1 := fun q => run_string_bytes (P := Tryd.prog) (w := w3.drewN q) 22 9 5 Tryd.underlying22 Tryd.underlying5 Tryd.underlying9 (show BytesAt (w3.drewN q) w3.heap.size A3 g c3 G from RowAt.drewN hgt q)
        have hq2 := fun q => run_string_bytes (P := Tryd.prog) (w := w3.drewN q) 22 9 5 Tryd.underlying22 Tryd.underlying5 Tryd.underlying9 (show BytesAt (w3.drewN q) w3.heap.size A2 g c2 G from by have h := HB3.out.to_ hgm; rw [HPR.out] at h; exact RowAt.drewN h q)
        have hgmI : decide ((m : Int) < (g : Int)) = false := decide_eq_false (by omega)
        have hgcI : (g : Int) ≤ (c2 : Int) := by omega
        have heq : ((strOf G).toList == (strOf G).toList) = true := beq_self_eq_true _
        clear hgt hb3
        go_wp2_with fail
        go_quiet (fail)
        have HW4 := Lib.hid (below_dw HW3.out nq)
        have HG4 := Lib.hid (show BytesAt (w3.drewN nq) (w3.drewN nq).heap.size A3 g c3 G from RowAt.drewN HGT.out nq)
        have HB4 := Lib.hid (show BytesAt (w3.drewN nq) (w3.drewN nq).heap.size A2 m c2 F from RowAt.drewN HB3.out nq)
        obtain ⟨w4, hw4⟩ : ∃ w4, w3.drewN nq = w4 := ⟨_, rfl⟩
        rw [hw4] at HW4 HG4 HB4
        rw [hw4]
        clear hq1 hq2 heq hw4
        obtain ⟨u, hu⟩ : ∃ u, s.data.toList = u := ⟨_, rfl⟩
        have HUU := Lib.hid hu
        have HUL := Lib.hid (show u.length = s.size from by rw [← hu]; exact str_len s)
        by_cases hs0 : s.size = 0
        · have hse : s.toList = [] := by rw [ByteArray.toList_eq]; exact List.eq_nil_of_length_eq_zero (by rw [str_len]; exact hs0)
          clear hu
          go_wp2_with fail
          refine (fixed07 w4).mono ?_
          rintro e w5 ⟨rfl, hb5⟩
          have HW5 := Lib.hid (HW4.out.trans (hb5.mono HW4.out.size))
          clear hb5
          go_wp2_with fail
          go_ret
          exact ⟨rfl, HW5.out⟩
        · have hse : s.toList.isEmpty = false := by
            rw [ByteArray.toList_eq]
            cases h : s.data.toList with
            | nil => exact absurd (by rw [← str_len, h]; rfl) hs0
            | cons a b => rfl
          have hse' : ¬ s.toList = [] := fun e => by rw [e] at hse; cases hse
          have HNE := Lib.hid (show u ≠ [] from fun e => hs0 (by rw [← HUL.out, e]; rfl))
          clear hu
          go_wp2_with fail
          go_loop [76] (fun i => ∃ j : Nat, i = .int .i64 j ∧ j ≤ s.size ∧ Hid (∀ y ∈ u.take j, y ≠ 10)) (fun i => s.size - (intOf i).toNat)
          case atStart => exact ⟨0, rfl, Nat.zero_le _, Lib.hid (fun y hy => by simp at hy)⟩
          case round =>
            obtain ⟨j, rfl, hj, HJ⟩ := hrel
            by_cases hlt : j < s.size
            · have HJU := Lib.hid (show u.take (j + 1) = u.take j ++ [s[j]] from by
                rw [List.take_add_one, ← HUU.out, List.getElem?_eq_getElem (by rw [str_len]; exact hlt)]; rfl)
              by_cases h10 : s[j] = 10
              · have h10' : ((s[j].toNat : Int) == 10) = true := beq_yes (by rw [h10]; rfl)
                clear h10
                go_wp2_with fail
                refine (fixed07 w4).mono ?_
                rintro e w5 ⟨rfl, hb5⟩
                have HW5 := Lib.hid (HW4.out.trans (hb5.mono HW4.out.size))
                clear hb5
                go_wp2_with fail
                go_ret
                exact ⟨rfl, HW5.out⟩
              · have h10' : ((s[j].toNat : Int) == 10) = false := beq_no (fun e => h10 (UInt8.toNat_inj.1 (by show s[j].toNat = 10; omega)))
                have HJ2 := Lib.hid (show ∀ y ∈ u.take (j + 1), y ≠ 10 from fun y hy => by
                  rw [HJU.out] at hy
                  rcases List.mem_append.1 hy with h | h
                  · exact HJ.out y h
                  · rw [List.mem_singleton.1 h]; exact h10)
                clear h10
                go_wp2_with fail
                go_round
                case rel => exact ⟨j + 1, by go_num, by omega, HJ2⟩
                case measure => show s.size - ((j : Int) + 1).toNat < s.size - ((j : Int)).toNat; omega
            · have hje : j = s.size := by omega
              have HJE := Lib.hid hje
              have HPL := Lib.hid (show ∀ y ∈ u, y ≠ 10 from fun y hy => HJ.out y (by rw [List.take_of_length_le (by rw [HUL.out]; omega)]; exact hy))
              clear hje
              obtain ⟨x, fl, fe, hx⟩ : ∃ x fl fe, readL u = (x, fl, fe) := ⟨_, _, _, rfl⟩
              have HX := Lib.hid (show readL s.data.toList = (x, fl, fe) from by rw [HUU.out]; exact hx)
              have HXU := Lib.hid hx
              clear hx
              go_wp2_with fail
              refine (rread_as2 w4 (by omega) HX.out rfl).mono ?_
              rintro e w5 ⟨A5, c5, rfl, hb5⟩
              have HW5 := Lib.hid (HW4.out.trans (hb5.mono HW4.out.size))
              obtain ⟨w6, hw6⟩ : ∃ w6, w6 = w5.alloc (.cells #[.int .i64 (fl : Int), .int .i64 (fe : Int)] 47) := ⟨_, rfl⟩
              have hb6 : Below w5.heap.size w5 w6 := by rw [hw6]; exact (Below.refl _ w5).alloc (Nat.le_refl _) _
              have HW6 := Lib.hid (HW5.out.trans (hb6.mono HW5.out.size))
              have hb46 := hb5.trans (hb6.mono hb5.size)
              have HG6 := Lib.hid (show BytesAt w6 w6.heap.size A3 g c3 G from RowAt.mono (RowAt.below HG4.out hb46) hb46.size)
              have HB6 := Lib.hid (show BytesAt w6 w6.heap.size A2 m c2 F from RowAt.mono (RowAt.below HB4.out hb46) hb46.size)
              have HQ6 := Lib.hid hw6
              have hcl0 : w6.cell? ⟨w5.heap.size, 1, none⟩ = some (.int .i64 (fe : Int)) := by rw [hw6]; exact Lib.cell_of_heap (heap_alloc_new w5 _) 1
              have HCL := Lib.hid hcl0
              clear hb5 hb6 hw6 hb46 hcl0
              by_cases h2e : fe = 2
              · have HRR := Lib.hid (one_read HNE.out HPL.out x fl (by rw [← h2e]; exact HXU.out))
                have hfe1 : ((fe : Int) != 2) = false := bne_no (by omega)
                have hfe2 : ((fe : Int) == 2) = true := beq_yes (by omega)
                clear h2e
                have HZR := Lib.hid (show readL (G ++ u ++ 10 :: F) = ([], k + 1, 2) from by
                  have := wrong_read HOK.out F HNE.out HPL.out HRR.out
                  rw [HG.out, List.length_take, Nat.min_eq_left (by rw [← HL.out]; exact hkn)] at this
                  exact this)
                have hv1 := run_string_bytes (P := Tryd.prog) 22 9 5 Tryd.underlying22 Tryd.underlying5 Tryd.underlying9 HG6.out
                have hv2 := run_string_bytes (P := Tryd.prog) 22 9 5 Tryd.underlying22 Tryd.underlying5 Tryd.underlying9 HB6.out
                have hgs : (strOf G).size ≤ 20000 := by rw [strOf_size, HGL.out]; omega
                have hfs : (strOf F).size ≤ 20000 := by rw [strOf_size, HM.out]; omega
                have b1 : ¬ 9223372036854775807 < (strOf G).size + s.size := by omega
                have b2 : ¬ 9223372036854775807 < (strOf G).size + s.size + 1 := by omega
                have b3 : ¬ 9223372036854775807 < (strOf G).size + s.size + 1 + (strOf F).size := by omega
                have h10 : (⟨#[10]⟩ : ByteArray).size = 1 := rfl
                have hzz : (strOf G ++ s ++ ⟨#[10]⟩ ++ strOf F).size = (strOf G).size + s.size + 1 + (strOf F).size := by rw [ByteArray.size_append, ByteArray.size_append, ByteArray.size_append, h10]
                have hzl : (strOf G ++ s ++ ⟨#[10]⟩ ++ strOf F).data.toList = G ++ u ++ 10 :: F := by rw [← HUU.out]; simp [strOf]
                obtain ⟨cz, w7, hcz, hbz, hz7, hb7⟩ := run_bytes_new (P := Tryd.prog) w6 9 22 5 (strOf G ++ s ++ ⟨#[10]⟩ ++ strOf F) Tryd.underlying9 Tryd.underlying22 Tryd.underlying5 (by rw [hzz]; unfold maxLen; omega)
                rw [hzl] at hbz
                rw [hzz] at hcz hbz
                have HBZ := Lib.hid (show BytesAt w7 w7.heap.size (some ⟨w5.heap.size + 1, 0, none⟩) ((strOf G).size + s.size + 1 + (strOf F).size) cz (G ++ u ++ 10 :: F) from by
                  have hz6 : w6.heap.size = w5.heap.size + 1 := by rw [HQ6.out, World.size_alloc]
                  rw [← hz6, hz7]; exact hbz)
                have HW7 := Lib.hid (HW6.out.trans (hb7.mono HW6.out.size))
                have hcl := HCL.out
                have HQB := Lib.hid b3
                rw [HQ6.out] at hv1 hv2 hcz
                clear hbz hz7 hb7 hzz hzl h10 hcl
                go_wp2_with fail
                refine (read_as w7 HBZ.out (by omega) HZR.out rfl).mono ?_
                rintro e w8 ⟨A8, c8, rfl, hr8, hb8⟩
                have HW8 := Lib.hid (HW7.out.trans (hb8.mono HW7.out.size))
                obtain ⟨w9, hw9⟩ : ∃ w9, w9 = w8.alloc (.cells #[.int .i64 ((k : Int) + 1), .int .i64 2] 47) := ⟨_, rfl⟩
                have hb9 : Below w8.heap.size w8 w9 := by rw [hw9]; exact (Below.refl _ w8).alloc (Nat.le_refl _) _
                have HG9 := Lib.hid (show w9.heap[w8.heap.size]? = some (.cells #[.int .i64 ((k : Int) + 1), .int .i64 2] 47 (0, 0)) from by rw [hw9]; exact heap_alloc_new w8 _)
                have HW9 := Lib.hid (HW8.out.trans (hb9.mono HW8.out.size))
                have HQ9 := Lib.hid hw9
                clear hr8 hb8 hb9 hw9 hv1 hv2 hcz
                go_wp2_with fail
                rw [← HQ9.out]
                refine (fixed07 w9).mono ?_
                rintro e w10 ⟨rfl, hb10⟩
                have HW10 := Lib.hid (HW9.out.trans (hb10.mono HW9.out.size))
                obtain ⟨x0, x1, -, -⟩ := pair_reads ((hb10.block _ (Array.getElem?_eq_some_iff.1 HG9.out).1).trans HG9.out)
                have q1 := fun w => eql_fault (a := (k : Int) + 1) (b := (k : Int) + 1) (c := 2) (d := 2) (o := true) (by simp) w
                clear hb10
                go_wp2_with fail
                go_ret
                exact ⟨rfl, HW10.out⟩
              · have hne2 : ((fe : Int) != 2) = true := bne_yes (by omega)
                have hne2' : ((fe : Int) == 2) = false := beq_no (by omega)
                go_wp2_with fail
                rw [← HQ6.out]
                refine (fixed07 w6).mono ?_
                rintro e w7 ⟨rfl, hb7⟩
                have HW7 := Lib.hid (HW6.out.trans (hb7.mono HW6.out.size))
                clear hb7
                go_wp2_with fail
                go_ret
                exact ⟨rfl, HW7.out⟩
end Go.Proofs.YtefhifmilmedhaaDoor
