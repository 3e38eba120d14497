/- The walk of the document's Read of rows. -/
import Derived.Test.YtefhifmilmedhaaRankRead
import Derived.Test.YtefhifmilmedhaaLineRAs
import Derived.Test.YtefhifmilmedhaaB64Ref3
import Derived.Test.YtefhifmilmedhaaMem
namespace Go.Proofs.Ytefhifmilmedhaa
open Go.RowKit

theorem RowAt.none_ {w : World} {B size c : Nat} {A : Option Addr} (hc : c ≤ maxLen) : RowAt w B size A 0 c [] := ⟨by simp, Nat.zero_le _, hc, fun h => absurd h (by omega)⟩
theorem rdec_as {s : ByteArray} {b : List UInt8} {n : Nat} {ok : Bool} (w : World) (hm : s.size ≤ 99999) (hd : dec64 s.data.toList = (b, n, ok)) :
    Calls Try.prog 17 #[.string s] w fun e w' => e = .returned (.tuple #[.string (strOf b), .int .i64 (n : Int), .bool ok]) ∧ Below w.heap.size w w' := by
  have := rdecode64_any s w hm
  rw [hd] at this
  exact this
theorem rowR_ref {s a b t : List UInt8} {m : Nat} {ok : Bool} {nb : Int} (hw : wordsL s = some [a, b]) (hd : dec64 a = (t, m, ok)) (hnb : refN b = nb) :
    rowR s = if ok = false ∨ nb < 0 then ([], 0, 2) else if 64 < t.length then ([], 0, 7) else (t, nb.toNat, 0) := by
  rw [rowR_two hw, hd]
  subst hnb
  cases hq : numL b with
  | none => rw [refN_none hq, if_pos (.inr rfl), if_pos (.inr (by decide))]
  | some q =>
    rw [refN_some hq]
    cases ok with
    | false => rw [if_pos (.inl rfl), if_pos (.inl rfl)]
    | true =>
      have h0 : ¬ ((q : Int) < 0) := by omega
      simp [h0]
set_option maxRecDepth 100000 in
set_option maxHeartbeats 1000000 in
theorem rread_any (s : ByteArray) (hm : s.size ≤ 99999) (w : World) : Calls Try.prog 7 #[.string s] w fun e w' =>
    ∃ A' c', e = .returned (.tuple #[.slice A' (readL s.data.toList).1.length c', .agg #[.int .i64 ((readL s.data.toList).2.1 : Int), .int .i64 ((readL s.data.toList).2.2 : Int)]]) ∧ RowAt w' w'.heap.size 2 A' (readL s.data.toList).1.length c' (rowsV (readL s.data.toList).1) ∧ Below w.heap.size w w' := by
  obtain ⟨l, hl⟩ : ∃ l, s.data.toList = l := ⟨_, rfl⟩
  have hln : s.size = l.length := by rw [← hl, str_len]
  have HLE := Lib.hid (fun p hp => line_le l p hp)
  have hL := linesL_length l
  obtain ⟨N, hN⟩ : ∃ N, (linesL l).length = N := ⟨_, rfl⟩
  rw [hN, ← hln] at hL
  rw [hl]
  have HN := Lib.hid hN
  have HLN := Lib.hid hln
  have HLL := Lib.hid (show linesL s.data.toList = linesL l from by rw [hl])
  clear hln hN hl
  go_enter Try.func7, Try.ntmps7
  go_wp2_with fail
  refine (rlines_own (by omega) _ HLL.out HN.out).mono ?_
  rintro e w1 ⟨A1, c1, rfl, h1, hb1⟩
  have S1 := Lib.hid (show w1.ownsRow (w.heap.size + 1) 9 1 (.slice A1 N c1) N (strsV (linesL l)) from World.ownsRow.mono h1 (by simp))
  have G1 := Lib.hid (show w1.heap[w.heap.size]? = some (.cells #[.int .i64 0, .int .i64 0] 27 (0, 0)) from (hb1.block _ (by simp; omega)).trans ((Below.heap_alloc _ _ _ (by simp)).trans (heap_alloc_new w _)))
  have LT := Lib.hid (show w.heap.size < w1.heap.size from by have := hb1.size; simp at this; omega)
  go_wp2_with fail
  have B1 := Lib.hid (show Below w.heap.size w w1 from (((Below.refl w.heap.size w).alloc (Nat.le_refl _) _).alloc (by simp) _).trans (hb1.mono (by simp; omega)))
  have O1 := Lib.hid (show w1.ownsRow (w.heap.size + 1) 43 2 (.slice (some ⟨w.heap.size + 1, 0, none⟩) 0 0) 0 [] from by
    have h := own_empty (w.alloc (.cells #[.int .i64 0, .int .i64 0] 27)) 43 2
    rw [World.size_alloc] at h
    exact own_kept h hb1 (by simp))
  clear hb1 h1
  go_loopw [4, 17] (fun v i wr => ∃ (k : Nat) (pre : List (List UInt8 × Nat)) (A4 : Option Addr) (c4 : Nat), v = .slice A4 pre.length c4 ∧ i = .int .i64 k ∧ k ≤ N ∧ pre.length ≤ k ∧ readG pre k ((linesL l).drop k) = readL l ∧
      wr.ownsRow (w.heap.size + 1) 43 2 v pre.length (rowsV pre) ∧ wr.ownsRow (w.heap.size + 1) 9 1 (.slice A1 N c1) N (strsV (linesL l)) ∧ wr.heap[w.heap.size]? = some (.cells #[.int .i64 0, .int .i64 0] 27 (0, 0)) ∧ Below w.heap.size w wr) (fun _ i _ => N - (intOf i).toNat)
  case atStart => exact ⟨0, [], _, _, rfl, rfl, Nat.zero_le _, Nat.le_refl _, rfl, O1.out, S1.out, G1.out, B1.out⟩
  case round =>
    obtain ⟨k, pre, A4, c4, rfl, rfl, hk, hpk, hg, hown, hs, hG, hb⟩ := hrel
    have HO := Lib.hid hown
    have HB := Lib.hid hb
    have HS := Lib.hid hs
    have HGG := Lib.hid hG
    have LTR := Lib.hid (show w.heap.size < wr.heap.size from (Array.getElem?_eq_some_iff.1 hG).1)
    clear hown hb hs hG
    by_cases hlt : k < N
    · have hkl : k < (linesL l).length := by have := HN.out; omega
      obtain ⟨p, hp⟩ : ∃ p, (linesL l)[k]'hkl = p := ⟨_, rfl⟩
      have hps : (strOf p).size ≤ 99999 := by
        have h1 := HLE.out p (by rw [← hp]; exact List.getElem_mem _)
        rw [strOf_size]; have := HLN.out; omega
      have hdr : (linesL l).drop k = p :: (linesL l).drop (k + 1) := by rw [← hp]; exact List.drop_eq_getElem_cons hkl
      obtain ⟨g1, o1, rfl, hg1, hc1⟩ := (StrsAt.of_own HS.out).cells (by omega)
      have e0 : wr.cell? ⟨g1, o1 + k, none⟩ = some (.string (strOf p)) := by rw [hc1 k hkl, hp]
      rw [hdr, readG] at hg
      have HG := Lib.hid hg
      clear hg hdr hp hc1
      obtain ⟨ws, hws⟩ : ∃ ws, (wordsL p).getD [] = ws := ⟨_, rfl⟩
      obtain ⟨n2, hn2⟩ : ∃ n, ws.length = n := ⟨_, rfl⟩
      have HWS := Lib.hid hws
      have HN2 := Lib.hid hn2
      clear hws hn2
      go_wp2_with fail
      refine (rwords_as (by omega) _ (show (wordsL (strOf p).data.toList).getD [] = ws from HWS.out) HN2.out).mono ?_
      rintro e w2 ⟨A2, c2, rfl, h2, hb2⟩
      have B2 := Lib.hid (HB.out.trans (hb2.mono HB.out.size))
      have O2 := Lib.hid (own_kept HO.out hb2 (Nat.le_refl _))
      have S2 := Lib.hid (own_kept HS.out hb2 (Nat.le_refl _))
      have G2 := Lib.hid ((hb2.block _ LTR.out).trans HGG.out)
      have W2 := Lib.hid h2
      clear hb2 h2 e0
      have hz2 : w.heap.size < w2.heap.size := (Array.getElem?_eq_some_iff.1 G2.out).1
      by_cases hn : n2 = 2
      · obtain ⟨a, b, hab⟩ : ∃ a b, ws = [a, b] := by
          match ws, HN2.out with
          | [a, b], _ => exact ⟨a, b, rfl⟩
          | [], h => simp at h; omega
          | [_], h => simp at h; omega
          | _ :: _ :: _ :: _, h => simp at h; omega
        subst hn hab
        have hw : wordsL p = some [a, b] := by
          have h := HWS.out
          cases hh : wordsL p with
          | none => rw [hh] at h; cases h
          | some x => rw [hh, Option.getD_some] at h; rw [h]
        have hla : (strOf a).size ≤ 99999 := by have := word_le hw a (by simp); rw [strOf_size]; rw [strOf_size] at hps; omega
        have hr := rowR_two hw
        obtain ⟨t, m, ok, hd⟩ : ∃ t m ok, dec64 a = (t, m, ok) := ⟨_, _, _, rfl⟩
        obtain ⟨nb, hnb⟩ : ∃ nb, refN b = nb := ⟨_, rfl⟩
        have hr2 : rowR p = if ok = false ∨ nb < 0 then ([], 0, 2) else if 64 < t.length then ([], 0, 7) else (t, nb.toNat, 0) := by
          exact rowR_ref hw hd hnb
        have hnlo : -1 ≤ nb ∧ nb ≤ 9999999 := by
          cases hq : numL b with
          | none => rw [refN_none hq] at hnb; omega
          | some q => rw [refN_some hq] at hnb; have := numL_bound hq; omega
        have HD := Lib.hid (show dec64 (strOf a).data.toList = (t, m, ok) from hd)
        have HNB := Lib.hid (show refN (strOf b).data.toList = nb from hnb)
        have HR := Lib.hid hr2
        clear hw hr hd hnb hr2
        obtain ⟨g2, o2, rfl, hg2, hc2⟩ := StrsAt.cells W2.out (by decide)
        have f0 : w2.cell? ⟨g2, o2, none⟩ = some (.string (strOf a)) := hc2 0 (Nat.succ_pos _)
        have F1 := Lib.hid (show w2.cell? ⟨g2, o2 + 1, none⟩ = some (.string (strOf b)) from hc2 1 (Nat.lt_succ_self _))
        clear hc2
        go_wp2_with fail
        refine (rdec_as _ hla HD.out).mono ?_
        rintro e w3 ⟨rfl, hb3⟩
        have B3 := Lib.hid (B2.out.trans (hb3.mono B2.out.size))
        have O3 := Lib.hid (own_kept O2.out hb3 (Nat.le_refl _))
        have S3 := Lib.hid (own_kept S2.out hb3 (Nat.le_refl _))
        have G3 := Lib.hid ((hb3.block _ hz2).trans G2.out)
        have f1 : w3.cell? ⟨g2, o2 + 1, none⟩ = some (.string (strOf b)) := (hb3.cell (p := ⟨g2, o2 + 1, none⟩) hg2).trans F1.out
        clear hb3 f0 F1
        go_wp2_with fail
        refine (rnum_as _ HNB.out).mono ?_
        rintro e w4 ⟨rfl, hb4⟩
        have hz3 : w.heap.size < w3.heap.size := (Array.getElem?_eq_some_iff.1 G3.out).1
        have B4 := Lib.hid (B3.out.trans (hb4.mono B3.out.size))
        have O4 := Lib.hid (own_kept O3.out hb4 (Nat.le_refl _))
        have S4 := Lib.hid (own_kept S3.out hb4 (Nat.le_refl _))
        have G4 := Lib.hid ((hb4.block _ hz3).trans G3.out)
        have hz2 : w.heap.size < w4.heap.size := (Array.getElem?_eq_some_iff.1 G4.out).1
        have hne : w.heap.size ≠ w4.heap.size := by omega
        clear hb4 hz3
        clear f1
        cases ok with
        | false =>
          have HGE := Lib.hid (show ([], k + 1, 2) = readL l from by
            have h := HG.out
            rw [HR.out.trans (if_pos (.inl rfl)), if_pos (by simp)] at h
            exact h)
          obtain ⟨x0, x1, y0, y1⟩ := pair_reads G4.out
          go_wp2_with fail
          obtain ⟨X, hX⟩ : ∃ X, X = ((w4.setCell ⟨w.heap.size, 0, none⟩ (.int .i64 ((k : Int) + 1))).setCell ⟨w.heap.size, 1, none⟩ (.int .i64 2)).alloc (.cells #[] 43) := ⟨_, rfl⟩
          rw [← hX]
          obtain ⟨d0, d1⟩ := two_cells (w := w4) (g := w.heap.size) (a := .int .i64 ((k : Int) + 1)) (b := .int .i64 2) (by rw [x0]; rfl) (by rw [x1]; rfl)
          have d0 : X.cell? ⟨w.heap.size, 0, none⟩ = some (.int .i64 ((k : Int) + 1)) := by rw [hX, World.cell?_alloc_lt _ _ _ (by simpa using hz2)]; exact d0
          have d1 : X.cell? ⟨w.heap.size, 1, none⟩ = some (.int .i64 2) := by rw [hX, World.cell?_alloc_lt _ _ _ (by simpa using hz2)]; exact d1
          have hbe : Below w.heap.size w X := by
            rw [hX]
            exact ((B4.out.setCell (p := ⟨w.heap.size, 0, none⟩) (Nat.le_refl _) _).setCell (p := ⟨w.heap.size, 1, none⟩) (Nat.le_refl _) _).alloc (by simpa using Nat.le_of_lt hz2) _
          refine bodyPost_ret (v := .tuple #[.slice (some ⟨w4.heap.size, 0, none⟩) 0 0, .agg #[.int .i64 ((k : Int) + 1), .int .i64 2]]) (by simp [results, Try.f7, go_sem, d0, d1]) rfl ?_
          rw [← HGE.out]
          exact ⟨_, 0, rfl, RowAt.none_ (Nat.zero_le _), hbe⟩
        | true =>
          by_cases hneg : nb < 0
          · have HGE := Lib.hid (show ([], k + 1, 2) = readL l from by
              have h := HG.out
              rw [HR.out.trans (if_pos (.inr hneg)), if_pos (by simp)] at h
              exact h)
            obtain ⟨x0, x1, y0, y1⟩ := pair_reads G4.out
            go_wp2_with fail
            obtain ⟨X, hX⟩ : ∃ X, X = ((w4.setCell ⟨w.heap.size, 0, none⟩ (.int .i64 ((k : Int) + 1))).setCell ⟨w.heap.size, 1, none⟩ (.int .i64 2)).alloc (.cells #[] 43) := ⟨_, rfl⟩
            rw [← hX]
            obtain ⟨d0, d1⟩ := two_cells (w := w4) (g := w.heap.size) (a := .int .i64 ((k : Int) + 1)) (b := .int .i64 2) (by rw [x0]; rfl) (by rw [x1]; rfl)
            have d0 : X.cell? ⟨w.heap.size, 0, none⟩ = some (.int .i64 ((k : Int) + 1)) := by rw [hX, World.cell?_alloc_lt _ _ _ (by simpa using hz2)]; exact d0
            have d1 : X.cell? ⟨w.heap.size, 1, none⟩ = some (.int .i64 2) := by rw [hX, World.cell?_alloc_lt _ _ _ (by simpa using hz2)]; exact d1
            have hbe : Below w.heap.size w X := by
              rw [hX]
              exact ((B4.out.setCell (p := ⟨w.heap.size, 0, none⟩) (Nat.le_refl _) _).setCell (p := ⟨w.heap.size, 1, none⟩) (Nat.le_refl _) _).alloc (by simpa using Nat.le_of_lt hz2) _
            refine bodyPost_ret (v := .tuple #[.slice (some ⟨w4.heap.size, 0, none⟩) 0 0, .agg #[.int .i64 ((k : Int) + 1), .int .i64 2]]) (by simp [results, Try.f7, go_sem, d0, d1]) rfl ?_
            rw [← HGE.out]
            exact ⟨_, 0, rfl, RowAt.none_ (Nat.zero_le _), hbe⟩
          · have hneg' : 0 ≤ nb := by omega
            by_cases h64 : 64 < (strOf t).size
            · have h64' : (64 : Int) < ((strOf t).size : Int) := by omega
              have HGE := Lib.hid (show ([], k + 1, 7) = readL l from by
                have h := HG.out
                rw [(HR.out.trans (if_neg (fun h => h.elim (fun h => by cases h) hneg))).trans (if_pos h64), if_pos (by simp)] at h
                exact h)
              obtain ⟨x0, x1, y0, y1⟩ := pair_reads G4.out
              go_wp2_with fail
              obtain ⟨X, hX⟩ : ∃ X, X = ((w4.setCell ⟨w.heap.size, 0, none⟩ (.int .i64 ((k : Int) + 1))).setCell ⟨w.heap.size, 1, none⟩ (.int .i64 7)).alloc (.cells #[] 43) := ⟨_, rfl⟩
              rw [← hX]
              obtain ⟨d0, d1⟩ := two_cells (w := w4) (g := w.heap.size) (a := .int .i64 ((k : Int) + 1)) (b := .int .i64 7) (by rw [x0]; rfl) (by rw [x1]; rfl)
              have d0 : X.cell? ⟨w.heap.size, 0, none⟩ = some (.int .i64 ((k : Int) + 1)) := by rw [hX, World.cell?_alloc_lt _ _ _ (by simpa using hz2)]; exact d0
              have d1 : X.cell? ⟨w.heap.size, 1, none⟩ = some (.int .i64 7) := by rw [hX, World.cell?_alloc_lt _ _ _ (by simpa using hz2)]; exact d1
              have hbe : Below w.heap.size w X := by
                rw [hX]
                exact ((B4.out.setCell (p := ⟨w.heap.size, 0, none⟩) (Nat.le_refl _) _).setCell (p := ⟨w.heap.size, 1, none⟩) (Nat.le_refl _) _).alloc (by simpa using Nat.le_of_lt hz2) _
              refine bodyPost_ret (v := .tuple #[.slice (some ⟨w4.heap.size, 0, none⟩) 0 0, .agg #[.int .i64 ((k : Int) + 1), .int .i64 7]]) (by simp [results, Try.f7, go_sem, d0, d1]) rfl ?_
              rw [← HGE.out]
              exact ⟨_, 0, rfl, RowAt.none_ (Nat.zero_le _), hbe⟩
            · have h64' : ¬ (64 : Int) < ((strOf t).size : Int) := by omega
              by_cases hbig : 4096 ≤ k
              · have hbig' : (4096 : Int) ≤ (k : Int) := by omega
                have HGE := Lib.hid (show ([], k + 1, 7) = readL l from by
                  have h := HG.out
                  rw [(HR.out.trans (if_neg (fun h => h.elim (fun h => by cases h) hneg))).trans (if_neg h64), if_neg (by simp), if_pos hbig] at h
                  exact h)
                obtain ⟨x0, x1, y0, y1⟩ := pair_reads G4.out
                go_wp2_with fail
                obtain ⟨X, hX⟩ : ∃ X, X = ((w4.setCell ⟨w.heap.size, 0, none⟩ (.int .i64 ((k : Int) + 1))).setCell ⟨w.heap.size, 1, none⟩ (.int .i64 7)).alloc (.cells #[] 43) := ⟨_, rfl⟩
                rw [← hX]
                obtain ⟨d0, d1⟩ := two_cells (w := w4) (g := w.heap.size) (a := .int .i64 ((k : Int) + 1)) (b := .int .i64 7) (by rw [x0]; rfl) (by rw [x1]; rfl)
                have d0 : X.cell? ⟨w.heap.size, 0, none⟩ = some (.int .i64 ((k : Int) + 1)) := by rw [hX, World.cell?_alloc_lt _ _ _ (by simpa using hz2)]; exact d0
                have d1 : X.cell? ⟨w.heap.size, 1, none⟩ = some (.int .i64 7) := by rw [hX, World.cell?_alloc_lt _ _ _ (by simpa using hz2)]; exact d1
                have hbe : Below w.heap.size w X := by
                  rw [hX]
                  exact ((B4.out.setCell (p := ⟨w.heap.size, 0, none⟩) (Nat.le_refl _) _).setCell (p := ⟨w.heap.size, 1, none⟩) (Nat.le_refl _) _).alloc (by simpa using Nat.le_of_lt hz2) _
                refine bodyPost_ret (v := .tuple #[.slice (some ⟨w4.heap.size, 0, none⟩) 0 0, .agg #[.int .i64 ((k : Int) + 1), .int .i64 7]]) (by simp [results, Try.f7, go_sem, d0, d1]) rfl ?_
                rw [← HGE.out]
                exact ⟨_, 0, rfl, RowAt.none_ (Nat.zero_le _), hbe⟩
              · have hbig' : ¬ (4096 : Int) ≤ (k : Int) := by omega
                obtain ⟨rk, rfl⟩ := Int.eq_ofNat_of_zero_le hneg'
                have HGE := Lib.hid (show readG (pre ++ [(t, rk)]) (k + 1) ((linesL l).drop (k + 1)) = readL l from by
                  have h := HG.out
                  rw [(HR.out.trans (if_neg (fun h => h.elim (fun h => by cases h) hneg))).trans (if_neg h64), if_neg (by simp), if_neg hbig] at h
                  exact h)
                have hpl : pre.length ≤ 4096 := by omega
                have HON := Lib.hid (one_row (t, rk))
                have HSN := Lib.hid (show rowsV pre ++ [.string (strOf t), .int .i64 (rk : Int)] = rowsV (pre ++ [(t, rk)]) from (rowsV_snoc pre (t, rk)).symm)
                have HRB := Lib.hid (row_blk w4 (.string (strOf t)) (.int .i64 (rk : Int)) 43 (g := w4.heap.size) rfl)
                have HAP := Lib.hid (own_apart S4.out O4.out (by decide))
                go_wp2_with (at_builtin; refine wpList_append_row rfl (.tmp 65) (.tmp 69) _ rfl (w.heap.size + 1) 43 _ 2 24 Try.underlying24 infoRow rfl (by decide) (.slice A4 pre.length c4) pre.length (rowsV pre) rfl (O4.out.alloc _) (w4.heap.size + 1) (some ⟨w4.heap.size, 0, none⟩) 1 1 [.string (strOf t), .int .i64 (rk : Int)] rfl HRB.out HON.out (pre.length + 1) rfl (rowsV (pre ++ [(t, rk)])) HSN.out (by unfold maxLen; omega) (by omega) (by simp; omega) ?_; intro A5 c5 w5 hown5 hb5 hg5; have O5 := Lib.hid hown5; have B5 := Lib.hid (Below.trans (B4.out.alloc (Nat.le_of_lt hz2) _) (hb5.mono (Nat.le_succ _))); have S5 := Lib.hid ((S4.out.alloc _).kept hg5 HAP.out); have G5 := Lib.hid ((hb5.block w.heap.size (Nat.lt_succ_self _)).trans ((Below.heap_alloc _ _ _ hz2).trans G4.out)); clear hown5 hb5 hg5)
                go_roundw
                case rel => exact ⟨k + 1, pre ++ [(t, rk)], A5, c5, by rw [List.length_append]; rfl, rfl, by omega, by rw [List.length_append]; simp only [List.length_singleton]; omega, HGE.out, by rw [List.length_append]; exact O5.out, S5.out, G5.out, B5.out⟩
                case measure => show N - ((k : Int) + 1).toNat < N - ((k : Int)).toNat; omega
      · have hbn := bne_yes (a := (n2 : Int)) (b := 2) (by omega)
        have HGE := Lib.hid (show ([], k + 1, 2) = readL l from by
          have h := HG.out
          rw [rowR_bad (fun a b e => hn (by rw [← HN2.out, ← HWS.out, e]; rfl)), if_pos (by simp)] at h
          exact h)
        clear hn
        obtain ⟨x0, x1, y0, y1⟩ := pair_reads G2.out
        have hne : w.heap.size ≠ w2.heap.size := by omega
        go_wp2_with fail
        obtain ⟨X, hX⟩ : ∃ X, X = ((w2.setCell ⟨w.heap.size, 0, none⟩ (.int .i64 ((k : Int) + 1))).setCell ⟨w.heap.size, 1, none⟩ (.int .i64 2)).alloc (.cells #[] 43) := ⟨_, rfl⟩
        rw [← hX]
        obtain ⟨d0, d1⟩ := two_cells (w := w2) (g := w.heap.size) (a := .int .i64 ((k : Int) + 1)) (b := .int .i64 2) (by rw [x0]; rfl) (by rw [x1]; rfl)
        have d0 : X.cell? ⟨w.heap.size, 0, none⟩ = some (.int .i64 ((k : Int) + 1)) := by rw [hX, World.cell?_alloc_lt _ _ _ (by simpa using hz2)]; exact d0
        have d1 : X.cell? ⟨w.heap.size, 1, none⟩ = some (.int .i64 2) := by rw [hX, World.cell?_alloc_lt _ _ _ (by simpa using hz2)]; exact d1
        have hbe : Below w.heap.size w X := by
          rw [hX]
          exact ((B2.out.setCell (p := ⟨w.heap.size, 0, none⟩) (Nat.le_refl _) _).setCell (p := ⟨w.heap.size, 1, none⟩) (Nat.le_refl _) _).alloc (by simpa using Nat.le_of_lt hz2) _
        refine bodyPost_ret (v := .tuple #[.slice (some ⟨w2.heap.size, 0, none⟩) 0 0, .agg #[.int .i64 ((k : Int) + 1), .int .i64 2]]) (by simp [results, Try.f7, go_sem, d0, d1]) rfl ?_
        rw [← HGE.out]
        exact ⟨_, 0, rfl, RowAt.none_ (Nat.zero_le _), hbe⟩
    · obtain rfl : k = N := by omega
      have hdr : (linesL l).drop k = [] := List.drop_of_length_le (by have := HN.out; omega)
      rw [hdr, readG] at hg
      have HG := Lib.hid hg
      obtain ⟨x0, x1, y0, y1⟩ := pair_reads HGG.out
      clear hg hdr
      go_wp2_with fail
      obtain ⟨d0, d1⟩ := two_cells (w := wr) (g := w.heap.size) (a := .int .i64 0) (b := .int .i64 0) (by rw [x0]; rfl) (by rw [x1]; rfl)
      refine bodyPost_ret (v := .tuple #[.slice A4 pre.length c4, .agg #[.int .i64 0, .int .i64 0]]) (by simp [results, Try.f7, go_sem, d0, d1]) rfl ?_
      rw [← HG.out]
      have hbe := ((HB.out.setCell (p := ⟨w.heap.size, 0, none⟩) (Nat.le_refl _) (.int .i64 0)).setCell (p := ⟨w.heap.size, 1, none⟩) (Nat.le_refl _) (.int .i64 0))
      exact ⟨A4, c4, rfl, RowAt.of_own (ownsRow_setCell_below (ownsRow_setCell_below HO.out (a := ⟨w.heap.size, 0, none⟩) (Nat.lt_succ_self _) _) (a := ⟨w.heap.size, 1, none⟩) (Nat.lt_succ_self _) _), hbe⟩
end Go.Proofs.Ytefhifmilmedhaa
