/- The walk of merge.Read. -/
import Derived.Test.YtefhifmilmedhaaDoorMergePair
namespace Go.Proofs.YtefhifmilmedhaaDoor
open Go.RowKit

theorem four_cells {w : World} {g h : Nat} {a b c d : Value} (hne : g ≠ h) (g0 : (w.cell? ⟨g, 0, none⟩).isSome = true) (g1 : (w.cell? ⟨g, 1, none⟩).isSome = true) (h0 : (w.cell? ⟨h, 0, none⟩).isSome = true) (h1 : (w.cell? ⟨h, 1, none⟩).isSome = true) :
    let X := (((w.setCell ⟨g, 0, none⟩ a).setCell ⟨g, 1, none⟩ b).setCell ⟨h, 0, none⟩ c).setCell ⟨h, 1, none⟩ d
    X.cell? ⟨g, 0, none⟩ = some a ∧ X.cell? ⟨g, 1, none⟩ = some b ∧ X.cell? ⟨h, 0, none⟩ = some c ∧ X.cell? ⟨h, 1, none⟩ = some d := by
  have far : ∀ (i j : Nat), (⟨g, i, none⟩ : Addr) ≠ ⟨h, j, none⟩ := fun i j e => by injection e with e; exact hne e
  have far' : ∀ (i j : Nat), (⟨h, i, none⟩ : Addr) ≠ ⟨g, j, none⟩ := fun i j e => by injection e with e; exact hne e.symm
  obtain ⟨x0, x1⟩ := two_cells (w := w) (a := a) (b := b) g0 g1
  have y0 : (((w.setCell ⟨g, 0, none⟩ a).setCell ⟨g, 1, none⟩ b).cell? ⟨h, 0, none⟩).isSome = true := by
    rw [World.cell?_setCell_other _ _ _ _ (by first | exact far _ _ | exact far' _ _), World.cell?_setCell_other _ _ _ _ (by first | exact far _ _ | exact far' _ _)]; exact h0
  have y1 : (((w.setCell ⟨g, 0, none⟩ a).setCell ⟨g, 1, none⟩ b).cell? ⟨h, 1, none⟩).isSome = true := by
    rw [World.cell?_setCell_other _ _ _ _ (by first | exact far _ _ | exact far' _ _), World.cell?_setCell_other _ _ _ _ (by first | exact far _ _ | exact far' _ _)]; exact h1
  obtain ⟨z0, z1⟩ := two_cells (w := (w.setCell ⟨g, 0, none⟩ a).setCell ⟨g, 1, none⟩ b) (a := c) (b := d) y0 y1
  refine ⟨?_, ?_, z0, z1⟩
  · rw [World.cell?_setCell_other _ _ _ _ (by first | exact far _ _ | exact far' _ _), World.cell?_setCell_other _ _ _ _ (by first | exact far _ _ | exact far' _ _)]; exact x0
  · rw [World.cell?_setCell_other _ _ _ _ (by first | exact far _ _ | exact far' _ _), World.cell?_setCell_other _ _ _ _ (by first | exact far _ _ | exact far' _ _)]; exact x1
theorem stepM_len {ph : Nat} {rows : RowsL} {pairs : PairsL} {s : List UInt8} (hr : rows.length ≤ 4096) (hq : pairs.length ≤ 16384) :
    (stepM ph rows pairs s).2.1 ≤ 2 ∧ (stepM ph rows pairs s).2.2.1.length ≤ 4096 ∧ (stepM ph rows pairs s).2.2.2.length ≤ 16384 := by
  unfold stepM
  split
  · split <;> exact ⟨by simp, hr, hq⟩
  · split
    · split
      · exact ⟨by simp, hr, hq⟩
      · split
        · exact ⟨by simp, hr, hq⟩
        · split
          · exact ⟨by simp, hr, hq⟩
          · exact ⟨by simp, by rw [List.length_append]; simp; omega, hq⟩
    · split
      · exact ⟨by simp, hr, hq⟩
      · split
        · exact ⟨by simp, hr, hq⟩
        · exact ⟨by simp, hr, by rw [List.length_append]; simp; omega⟩
theorem rlines_bound (l : List UInt8) : ∀ p ∈ linesL l, p.length ≤ l.length := line_le l
theorem lines_own {A : Option Addr} {m c : Nat} {l : List UInt8} {x : List (List UInt8)} {n : Nat} (w : World) (hl : BytesAt w w.heap.size A m c l) (hm : m ≤ 1099511627776) (hx : linesL l = x) (hn : x.length = n) :
    Calls Tryd.prog 15 #[.slice A m c] w fun e w' => ∃ A' c', e = .returned (.slice A' n c') ∧ w'.ownsRow w.heap.size 9 1 (.slice A' n c') n (strsV x) ∧ Below w.heap.size w w' := by
  subst hx hn
  refine (lines_any w hl hm).mono ?_
  rintro e w' ⟨v, rfl, ho, hb⟩
  obtain ⟨A', c', rfl⟩ := own_form ho
  exact ⟨A', c', rfl, ho, hb⟩
/-- What reading tables answers. -/
def MergeOut (w : World) (x : RowsL × PairsL × Nat × Nat) (e : Ending) (w' : World) : Prop :=
  ∃ A1 c1 A2 c2, e = .returned (.tuple #[.agg #[.slice A1 x.1.length c1, .slice A2 x.2.1.length c2], .agg #[.int .i64 (x.2.2.1 : Int), .int .i64 (x.2.2.2 : Int)]]) ∧
    RowAt w' w'.heap.size 2 A1 x.1.length c1 (rowsV x.1) ∧ RowAt w' w'.heap.size 2 A2 x.2.1.length c2 (pairsV x.2.1) ∧ Below w.heap.size w w'

set_option maxRecDepth 100000 in
set_option maxHeartbeats 1000000 in
theorem mread_any {A : Option Addr} {n c : Nat} {l : List UInt8} (w : World) (hl : BytesAt w w.heap.size A n c l) (hm : n ≤ 99999) : Calls Tryd.prog 34 #[.slice A n c] w (MergeOut w (mergeL l)) := by
  have hln := hl.len
  have HLE := Lib.hid (fun p hp => line_le l p hp)
  have hL := linesL_length l
  obtain ⟨N, hN⟩ : ∃ N, (linesL l).length = N := ⟨_, rfl⟩
  rw [hN, ← hln] at hL
  have HN := Lib.hid hN
  have HLN := Lib.hid hln
  have HH := Lib.hid hl
  clear hln hN hl
  go_enter Tryd.func34, Tryd.ntmps34
  go_wp2_with fail
  have e2 : ∀ (a b : Obj), ((w.alloc a).alloc b).heap.size = w.heap.size + 1 + 1 := fun a b => by simp
  refine (lines_own _ (RowAt.mono (RowAt.alloc (RowAt.alloc (RowAt.alloc HH.out (Nat.le_refl _) _) (by simp) _) (by simp; omega) _) (by simp; omega)) (by omega) rfl HN.out).mono ?_
  rintro e w1 ⟨A1, c1, rfl, h1, hb1⟩
  have LT := Lib.hid (show w.heap.size + 1 + 1 < w1.heap.size from by have := hb1.size; simp at this; omega)
  have M1 := Lib.hid (show MrAt w1 (w.heap.size + 1 + 1) 0 [] [] none 0 none 0 from by
    refine ⟨?_, World.ownsRow_nil _ _ _ _, World.ownsRow_nil _ _ _ _⟩
    refine (hb1.block _ (by simp)).trans ?_
    have h := heap_alloc_new ((w.alloc (.cells #[.slice none 0 0, .slice none 0 0] 59)).alloc (.cells #[.int .i64 0, .int .i64 0] 47)) (.cells #[fnOf 0 (w.heap.size + 1 + 1), .slice none 0 0, .slice none 0 0, .bool false] 95)
    rw [e2] at h
    exact h)
  have S1 := Lib.hid (show w1.ownsRow 0 9 1 (.slice A1 N c1) N (strsV (linesL l)) from World.ownsRow.mono h1 (Nat.zero_le _))
  have B1 := Lib.hid (show Below w.heap.size w w1 from ((((Below.refl w.heap.size w).alloc (Nat.le_refl _) _).alloc (by simp) _).alloc (by simp; omega) _).trans (hb1.mono (by simp; omega)))
  have G1 := Lib.hid (show w1.heap[w.heap.size]? = some (.cells #[.slice none 0 0, .slice none 0 0] 59 (0, 0)) from
    (hb1.block _ (by simp; omega)).trans ((Below.heap_alloc _ _ _ (by simp; omega)).trans ((Below.heap_alloc _ _ _ (by simp)).trans (heap_alloc_new w _))))
  have F1 := Lib.hid (show w1.heap[w.heap.size + 1]? = some (.cells #[.int .i64 0, .int .i64 0] 47 (0, 0)) from by
    refine (hb1.block _ (by simp)).trans ((Below.heap_alloc _ _ _ (by simp)).trans ?_)
    have h := heap_alloc_new (w.alloc (.cells #[.slice none 0 0, .slice none 0 0] 59)) (.cells #[.int .i64 0, .int .i64 0] 47)
    rw [World.size_alloc] at h
    exact h)
  clear hb1 h1 e2
  go_wp2_with fail
  go_loopw [20] (fun i wr => ∃ (k ph : Nat) (rows : RowsL) (pairs : PairsL) (A2 : Option Addr) (c2 : Nat) (A3 : Option Addr) (c3 : Nat), i = .int .i64 k ∧ k ≤ N ∧ ph ≤ 2 ∧ rows.length ≤ 4096 ∧ pairs.length ≤ 16384 ∧ mergeG ph rows pairs k ((linesL l).drop k) = mergeL l ∧
      MrAt wr (w.heap.size + 1 + 1) ph rows pairs A2 c2 A3 c3 ∧ wr.ownsRow 0 9 1 (.slice A1 N c1) N (strsV (linesL l)) ∧ wr.heap[w.heap.size]? = some (.cells #[.slice none 0 0, .slice none 0 0] 59 (0, 0)) ∧
      wr.heap[w.heap.size + 1]? = some (.cells #[.int .i64 0, .int .i64 0] 47 (0, 0)) ∧ Below w.heap.size w wr) (fun i _ => N - (intOf i).toNat)
  case atStart => exact ⟨0, 0, [], [], none, 0, none, 0, rfl, Nat.zero_le _, by omega, by simp, by simp, rfl, M1.out, S1.out, G1.out, F1.out, B1.out⟩
  case round =>
    obtain ⟨k, ph, rows, pairs, A2, c2, A3, c3, rfl, hk, hph, hrl, hpl, hg, hM, hS, hG, hF, hb⟩ := hrel
    have HM := Lib.hid hM
    have HS := Lib.hid hS
    have HG := Lib.hid hG
    have HF := Lib.hid hF
    have HB := Lib.hid hb
    have hgw := hM.lt
    clear hM hS hG hF hb
    by_cases hlt : k < N
    · have hkl : k < (linesL l).length := by have := HN.out; omega
      obtain ⟨p, hp⟩ : ∃ p, (linesL l)[k]'hkl = p := ⟨_, rfl⟩
      have hps : p.length ≤ 99999 := by
        have h1 := HLE.out p (by rw [← hp]; exact List.getElem_mem _)
        have := HLN.out; omega
      have hdr : (linesL l).drop k = p :: (linesL l).drop (k + 1) := by rw [← hp]; exact List.drop_eq_getElem_cons hkl
      obtain ⟨g1, o1, hA, hg1, hc1⟩ := (StrsAt.of_own HS.out).cells (by omega)
      subst hA
      have e0 : wr.cell? ⟨g1, o1 + k, none⟩ = some (.string (strOf p)) := by rw [hc1 k hkl, hp]
      rw [hdr, mergeG] at hg
      have HGG := Lib.hid hg
      have hst := stepM_len (ph := ph) (s := p) hrl hpl
      have HST := Lib.hid hst
      clear hg hdr hp hc1 hst
      have H3 : ph = 0 ∨ ph = 1 ∨ ph = 2 := by omega
      obtain ⟨r0, r1, r2, r3, f0, f1, f2, f3⟩ := HM.out.reads
      have T : ∀ e wz, Stepped wr (w.heap.size + 1 + 1) ph rows pairs p e wz → ∃ (er ph' : Nat) (rows' : RowsL) (pairs' : PairsL) (A4 : Option Addr) (c4 : Nat) (A5 : Option Addr) (c5 : Nat), e = .returned (.int .i64 (er : Int)) ∧ ph' ≤ 2 ∧ rows'.length ≤ 4096 ∧ pairs'.length ≤ 16384 ∧
          Hid ((if er ≠ 0 then (([], [], k + 1, er) : RowsL × PairsL × Nat × Nat) else mergeG ph' rows' pairs' (k + 1) ((linesL l).drop (k + 1))) = mergeL l) ∧ Hid (MrAt wz (w.heap.size + 1 + 1) ph' rows' pairs' A4 c4 A5 c5) ∧ Hid (wz.ownsRow 0 9 1 (.slice (some ⟨g1, o1, none⟩) N c1) N (strsV (linesL l))) ∧
          Hid (wz.heap[w.heap.size]? = some (.cells #[.slice none 0 0, .slice none 0 0] 59 (0, 0))) ∧ Hid (wz.heap[w.heap.size + 1]? = some (.cells #[.int .i64 0, .int .i64 0] 47 (0, 0))) ∧ Hid (Below w.heap.size w wz) := by
        rintro e wz ⟨A4, c4, A5, c5, rfl, hm4, hb4, hk4⟩
        exact ⟨_, _, _, _, A4, c4, A5, c5, rfl, HST.out.1, HST.out.2.1, HST.out.2.2, HGG.out, hm4, hk4 _ _ _ _ HS.out, (hb4.block _ (by omega)).trans HG.out, (hb4.block _ (by omega)).trans HF.out, HB.out.trans (hb4.mono (by omega))⟩
      have HT := Lib.hid T
      clear T
      rcases H3 with rfl | rfl | rfl
      all_goals
        have R0 := Lib.hid r0
        simp only [fnOf, fnNo] at r0
        go_wp2_with fail
      all_goals
        first
          | refine (first_any p wr HM.out).mono ?_
          | refine (mrow_any p hps wr HM.out hrl).mono ?_
          | refine (mpair_any p hps wr HM.out hpl).mono ?_
        intro e wz hz
        obtain ⟨er, ph', rows', pairs', A4, c4, A5, c5, rfl, hph', hrl', hpl', HG4, HM4, HS4, HTB4, HF4, HB4⟩ := HT.out e wz hz
        clear hz HT e0 r0 r1 r2 r3 f0 f1 f2 f3 R0
        by_cases her : er = 0
        · subst her
          go_wp2_with fail
          go_roundw
          case rel => exact ⟨k + 1, ph', rows', pairs', A4, c4, A5, c5, rfl, by omega, hph', hrl', hpl', HG4.out, HM4.out, HS4.out, HTB4.out, HF4.out, HB4.out⟩
          case measure => show N - ((k : Int) + 1).toNat < N - ((k : Int)).toNat; omega
        · have her' := bne_yes (a := (er : Int)) (b := 0) (by omega)
          have her2 := beq_no (a := (er : Int)) (b := 0) (by omega)
          have HGE := Lib.hid (show (([], [], k + 1, er) : RowsL × PairsL × Nat × Nat) = mergeL l from by have h := HG4.out; rw [if_pos her] at h; exact h)
          clear her
          obtain ⟨x0, x1, y0, y1⟩ := pair_reads HTB4.out
          obtain ⟨z0, z1, u0, u1⟩ := pair_reads HF4.out
          go_wp2_with fail
          obtain ⟨d0, d1, d2, d3⟩ := four_cells (w := wz) (g := w.heap.size) (h := w.heap.size + 1) (a := .slice none 0 0) (b := .slice none 0 0) (c := .int .i64 ((k : Int) + 1)) (d := .int .i64 (er : Int)) (by omega) (by rw [x0]; rfl) (by rw [x1]; rfl) (by rw [z0]; rfl) (by rw [z1]; rfl)
          refine bodyPost_ret (v := .tuple #[.agg #[.slice none 0 0, .slice none 0 0], .agg #[.int .i64 ((k : Int) + 1), .int .i64 (er : Int)]]) (by simp [results, Tryd.f34, go_sem, d0, d1, d2, d3]) rfl ?_
          rw [← HGE.out]
          exact ⟨none, 0, none, 0, rfl, RowAt.nil, RowAt.nil, (((HB4.out.setCell (p := ⟨w.heap.size, 0, none⟩) (Nat.le_refl _) _).setCell (p := ⟨w.heap.size, 1, none⟩) (Nat.le_refl _) _).setCell (p := ⟨w.heap.size + 1, 0, none⟩) (Nat.le_succ _) _).setCell (p := ⟨w.heap.size + 1, 1, none⟩) (Nat.le_succ _) _⟩
    · obtain rfl : k = N := by omega
      have hdr : (linesL l).drop k = [] := List.drop_of_length_le (by have := HN.out; omega)
      rw [hdr, mergeG] at hg
      obtain ⟨r0, r1, r2, r3, f0, f1, f2, f3⟩ := HM.out.reads
      obtain ⟨x0, x1, y0, y1⟩ := pair_reads HG.out
      obtain ⟨z0, z1, u0, u1⟩ := pair_reads HF.out
      by_cases h2 : ph = 2
      · subst h2
        have HGE := Lib.hid (show (rows, pairs, 0, 0) = mergeL l from by rw [if_pos rfl] at hg; exact hg)
        clear hg hdr
        have r3' : wr.cell? ⟨w.heap.size + 1 + 1, 3, none⟩ = some (.bool true) := r3
        clear r3
        go_wp2_with fail
        obtain ⟨d0, d1, d2, d3⟩ := four_cells (w := wr) (g := w.heap.size) (h := w.heap.size + 1) (a := .slice A2 rows.length c2) (b := .slice A3 pairs.length c3) (c := .int .i64 0) (d := .int .i64 0) (by omega) (by rw [x0]; rfl) (by rw [x1]; rfl) (by rw [z0]; rfl) (by rw [z1]; rfl)
        refine bodyPost_ret (v := .tuple #[.agg #[.slice A2 rows.length c2, .slice A3 pairs.length c3], .agg #[.int .i64 0, .int .i64 0]]) (by simp [results, Tryd.f34, go_sem, d0, d1, d2, d3]) rfl ?_
        rw [← HGE.out]
        have KB := ((((Below.refl (w.heap.size) wr).setCell (p := ⟨w.heap.size, 0, none⟩) (Nat.le_refl _) (.slice A2 rows.length c2)).setCell (p := ⟨w.heap.size, 1, none⟩) (Nat.le_refl _) (.slice A3 pairs.length c3)).setCell (p := ⟨w.heap.size + 1, 0, none⟩) (Nat.le_succ _) (.int .i64 0)).setCell (p := ⟨w.heap.size + 1, 1, none⟩) (Nat.le_succ _) (.int .i64 0)
        have far : ∀ (b0 : Nat) (e : TypeId) (s n : Nat) (v : Value) (xs : List Value), wr.ownsRow (w.heap.size + 1 + 1 + 1) e s v n xs → ((((wr.setCell ⟨w.heap.size, 0, none⟩ (.slice A2 rows.length c2)).setCell ⟨w.heap.size, 1, none⟩ (.slice A3 pairs.length c3)).setCell ⟨w.heap.size + 1, 0, none⟩ (.int .i64 0)).setCell ⟨w.heap.size + 1, 1, none⟩ (.int .i64 0)).ownsRow (w.heap.size + 1 + 1 + 1) e s v n xs := fun b0 e s n v xs h =>
          ownsRow_setCell_below (ownsRow_setCell_below (ownsRow_setCell_below (ownsRow_setCell_below h (a := ⟨w.heap.size, 0, none⟩) (by show w.heap.size < w.heap.size + 1 + 1 + 1; omega) _) (a := ⟨w.heap.size, 1, none⟩) (by show w.heap.size < w.heap.size + 1 + 1 + 1; omega) _) (a := ⟨w.heap.size + 1, 0, none⟩) (by show w.heap.size + 1 < w.heap.size + 1 + 1 + 1; omega) _) (a := ⟨w.heap.size + 1, 1, none⟩) (by show w.heap.size + 1 < w.heap.size + 1 + 1 + 1; omega) _
        exact ⟨A2, c2, A3, c3, rfl, RowAt.of_own (far 0 _ _ _ _ _ HM.out.rows), RowAt.of_own (far 0 _ _ _ _ _ HM.out.pairs), HB.out.trans KB⟩
      · have HGE := Lib.hid (show ([], [], k + 1, 2) = mergeL l from by rw [if_neg h2] at hg; exact hg)
        have r3' : wr.cell? ⟨w.heap.size + 1 + 1, 3, none⟩ = some (.bool false) := by rw [r3, decide_eq_false h2]
        clear hg hdr r3
        go_wp2_with fail
        obtain ⟨d0, d1, d2, d3⟩ := four_cells (w := wr) (g := w.heap.size) (h := w.heap.size + 1) (a := .slice none 0 0) (b := .slice none 0 0) (c := .int .i64 ((k : Int) + 1)) (d := .int .i64 2) (by omega) (by rw [x0]; rfl) (by rw [x1]; rfl) (by rw [z0]; rfl) (by rw [z1]; rfl)
        refine bodyPost_ret (v := .tuple #[.agg #[.slice none 0 0, .slice none 0 0], .agg #[.int .i64 ((k : Int) + 1), .int .i64 2]]) (by simp [results, Tryd.f34, go_sem, d0, d1, d2, d3]) rfl ?_
        rw [← HGE.out]
        exact ⟨none, 0, none, 0, rfl, RowAt.nil, RowAt.nil, (((HB.out.setCell (p := ⟨w.heap.size, 0, none⟩) (Nat.le_refl _) _).setCell (p := ⟨w.heap.size, 1, none⟩) (Nat.le_refl _) _).setCell (p := ⟨w.heap.size + 1, 0, none⟩) (Nat.le_succ _) _).setCell (p := ⟨w.heap.size + 1, 1, none⟩) (Nat.le_succ _) _⟩
end Go.Proofs.YtefhifmilmedhaaDoor
