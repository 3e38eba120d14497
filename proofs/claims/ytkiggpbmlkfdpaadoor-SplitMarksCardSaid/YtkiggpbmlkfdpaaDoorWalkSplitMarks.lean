/- The walk of SplitMarks: true for every input. -/
import Derived.Test.YtkiggpbmlkfdpaaDoorSplitFixed
namespace Go.Proofs.YtkiggpbmlkfdpaaDoor
open Go.RowKit
set_option linter.unusedVariables false
theorem split_marks {kind : Int} {t : List Rg} {a b : List Int} {mark : Int} {fin : Bool} (hk0 : 0 ≤ kind) (hk3 : kind ≤ 3) (hv : mayT t = true) (hm : mark < 0 ∨ 256 ≤ mark) :
    splitL kind t ((a ++ [mark]) ++ b) fin = (splitL kind t a true ++ [(1, true)]) ++ splitL kind t b fin := by
  have hno : ¬ (kind < 0 ∨ 3 < kind ∨ mayT t = false) := by rintro (h | h | h); omega; omega; rw [hv] at h; cases h
  unfold splitL
  rw [if_neg hno, if_neg hno, if_neg hno]
  have ha := rawT_true hk0 hk3 hv a []
  rw [List.append_assoc, List.singleton_append, rawT_mark mark (by unfold markS; exact decide_eq_true hm) b a [], cum_app, ha, cum_all _ ha]
  simp [cumL]
theorem split_decided {kind : Int} {t : List Rg} {a : List Int} : ∀ p ∈ splitL kind t a true, p.2 = true := by
  unfold splitL
  split
  · intro p hp; cases hp
  · rename_i g
    have hv : mayT t = true := by
      cases h2 : mayT t with
      | true => rfl
      | false => exact absurd (.inr (.inr h2)) g
    have ha := rawT_true (show 0 ≤ kind by omega) (show kind ≤ 3 by omega) hv a []
    rw [cum_all _ ha]
    intro p hp
    exact List.all_eq_true.1 ha p hp
theorem one_pieces (l : List (Nat × Bool)) : ∀ u ∈ pieceV l, u.oneCell' = true := by
  intro u hu
  unfold pieceV at hu
  obtain ⟨x, _, h⟩ := List.mem_flatMap.1 hu
  exact one_piece _ _ u h
theorem pieceV_app (a b : List (Nat × Bool)) : pieceV (a ++ b) = pieceV a ++ pieceV b := by simp [pieceV]
theorem one_int13 (m : Int) : ∀ u ∈ intsV [m], u.oneCell' = true := by
  intro u hu
  simp only [intsV, List.map_cons, List.map_nil, List.mem_singleton] at hu
  subst hu; rfl
theorem RowAt.keep_blk {w w' : World} {B size n c : Nat} {A : Option Addr} {xs : List Value} (h : RowAt w B size A n c xs) (hk : ∀ b off, A = some ⟨b, off, none⟩ → w'.heap[b]? = w.heap[b]?) : RowAt w' B size A n c xs :=
  ⟨h.1, h.2.1, h.2.2.1, fun hn => by
    obtain ⟨b, off, e, hb, hc⟩ := h.2.2.2 hn
    exact ⟨b, off, e, hb, fun j u hu => (World.cell?_of_block (hk b off e)).trans (hc j u hu)⟩⟩
/-- Split's pieces, in a row of its own. -/
theorem split_at {At A : Option Addr} {nt ct m c : Nat} {t : List Rg} {text : List Int} {p : List (Nat × Bool)} (kind : Int) (fin : Bool) (w : World) (ht : RangesAt w w.heap.size At nt ct t) (hx : IntsAt w w.heap.size A m c text) (hnt : nt ≤ 1000) (hm : m ≤ 1000) (hp : splitL kind t text fin = p) :
    Calls Tryd.prog 25 #[.int .i64 kind, .slice At nt ct, .slice A m c, .bool fin] w fun e w' => ∃ A' c', e = .returned (.slice A' p.length c') ∧ PiecesAt w' w'.heap.size A' p.length c' p ∧ (∀ b off, A' = some ⟨b, off, none⟩ → w.heap.size ≤ b ∧ b < w'.heap.size) ∧ Below w.heap.size w w' := by
  subst hp
  refine (split_any kind fin w ht hx hnt hm).mono ?_
  rintro e w' ⟨v, rfl, ho, hb⟩
  obtain ⟨A', c', rfl⟩ := own_form ho
  refine ⟨A', c', rfl, RowAt.of_own ho, ?_, hb⟩
  intro b off e
  subst e
  exact ho.lt b rfl
set_option maxRecDepth 100000 in
set_option maxHeartbeats 8000000 in
theorem walkSplitMarks (w : World) (hU : UsualAt w) (kind : Int) {At A A2 : Option Addr} {nt ct n c n2 c2 : Nat} {t : List Rg} {l d : List Int} (ht : RangesAt w w.heap.size At nt ct t) (h : IntsAt w w.heap.size A n c l) (hd : IntsAt w w.heap.size A2 n2 c2 d) (mark : Int) (final : Bool) :
    Calls Tryd.prog 9 #[.int .i64 kind, .slice At nt ct, .slice A n c, .slice A2 n2 c2, .int .i64 mark, .bool final] w fun e w' => e = .returned (.bool true) ∧ Below w.heap.size w w' := by
  have hcap := ht.2.2.1
  have hcn := ht.2.1
  have hcap' := h.2.2.1
  have hcn' := h.2.1
  have hcap2 := hd.2.2.1
  have hcn2 := hd.2.1
  unfold maxLen at hcap hcap' hcap2
  obtain ⟨o, ho⟩ : ∃ o, (decide (80 < nt) || decide (120 < n)) = o := ⟨_, rfl⟩
  have HO := Lib.hid ho
  have HU := Lib.hid hU
  have HT := Lib.hid ht
  have HB := Lib.hid h
  have HD := Lib.hid hd
  have HL := Lib.hid h.len
  have HLD := Lib.hid hd.len
  clear ho hU ht h hd
  cases o with
  | true =>
    go_enter Tryd.func9, Tryd.ntmps9
    go_wp2_with fail
    refine (great13 w HO.out (by omega) (by omega)).mono ?_
    rintro e w' ⟨rfl, rfl⟩
    go_wp2_with fail
    refine (fixed13 w HU.out).mono ?_
    rintro e w' ⟨rfl, hb⟩
    have HE := Lib.hid hb
    go_wp2_with fail
    go_ret
    exact ⟨rfl, HE.out⟩
  | false =>
    have hsm := HO.out
    rw [Bool.or_eq_false_iff, decide_eq_false_iff_not, decide_eq_false_iff_not] at hsm
    have HS0 := Lib.hid (show nt ≤ 80 from by omega)
    clear hsm
    by_cases h1 : 60 < n
    · have h1' : (60 : Int) < (n : Int) := by omega
      go_enter Tryd.func9, Tryd.ntmps9
      go_wp2_with fail
      refine (great13 w HO.out (by omega) (by omega)).mono ?_
      rintro e w' ⟨rfl, rfl⟩
      go_wp2_with fail
      refine (fixed13 w HU.out).mono ?_
      rintro e w' ⟨rfl, hb⟩
      have HE := Lib.hid hb
      go_wp2_with fail
      go_ret
      exact ⟨rfl, HE.out⟩
    · have h1' : ¬ (60 : Int) < (n : Int) := by omega
      by_cases h2 : 60 < n2
      · have h2' : (60 : Int) < (n2 : Int) := by omega
        go_enter Tryd.func9, Tryd.ntmps9
        go_wp2_with fail
        refine (great13 w HO.out (by omega) (by omega)).mono ?_
        rintro e w' ⟨rfl, rfl⟩
        go_wp2_with fail
        refine (fixed13 w HU.out).mono ?_
        rintro e w' ⟨rfl, hb⟩
        have HE := Lib.hid hb
        go_wp2_with fail
        go_ret
        exact ⟨rfl, HE.out⟩
      · have h2' : ¬ (60 : Int) < (n2 : Int) := by omega
        have HS := Lib.hid (show nt ≤ 80 ∧ n ≤ 60 ∧ n2 ≤ 60 from by have := HS0.out; omega)
        by_cases h3 : 0 ≤ mark ∧ mark < 256
        · obtain ⟨h31, h32⟩ := h3
          have h31' : decide (0 ≤ mark) = true := decide_eq_true h31
          have h32' : decide (mark < 256) = true := decide_eq_true h32
          go_enter Tryd.func9, Tryd.ntmps9
          go_wp2_with fail
          refine (great13 w HO.out (by omega) (by omega)).mono ?_
          rintro e w' ⟨rfl, rfl⟩
          go_wp2_with fail
          refine (fixed13 w HU.out).mono ?_
          rintro e w' ⟨rfl, hb⟩
          have HE := Lib.hid hb
          go_wp2_with fail
          go_ret
          exact ⟨rfl, HE.out⟩
        · have HMK := Lib.hid (show mark < 0 ∨ 256 ≤ mark from by omega)
          have hg : decide (0 ≤ mark) = false ∨ (decide (0 ≤ mark) = true ∧ decide (mark < 256) = false) := by
            by_cases hm0 : 0 ≤ mark
            · exact .inr ⟨decide_eq_true hm0, decide_eq_false (fun e => h3 ⟨hm0, e⟩)⟩
            · exact .inl (decide_eq_false hm0)
          clear h3
          rcases hg with hg1 | ⟨hg1, hg2⟩
          all_goals
            by_cases h4 : kind < 0
            · have h4' : decide (kind < 0) = true := decide_eq_true h4
              go_enter Tryd.func9, Tryd.ntmps9
              go_wp2_with fail
              refine (great13 w HO.out (by omega) (by omega)).mono ?_
              rintro e w' ⟨rfl, rfl⟩
              go_wp2_with fail
              refine (fixed13 w HU.out).mono ?_
              rintro e w' ⟨rfl, hb⟩
              have HE := Lib.hid hb
              go_wp2_with fail
              go_ret
              exact ⟨rfl, HE.out⟩
            · have h4' : decide (kind < 0) = false := decide_eq_false h4
              by_cases h5 : 3 < kind
              · have h5' : decide (3 < kind) = true := decide_eq_true h5
                go_enter Tryd.func9, Tryd.ntmps9
                go_wp2_with fail
                refine (great13 w HO.out (by omega) (by omega)).mono ?_
                rintro e w' ⟨rfl, rfl⟩
                go_wp2_with fail
                refine (fixed13 w HU.out).mono ?_
                rintro e w' ⟨rfl, hb⟩
                have HE := Lib.hid hb
                go_wp2_with fail
                go_ret
                exact ⟨rfl, HE.out⟩
              · have h5' : decide (3 < kind) = false := decide_eq_false h5
                have HK := Lib.hid (show 0 ≤ kind ∧ kind ≤ 3 from by omega)
                cases hv : mayT t with
                | false =>
                  have HV := Lib.hid hv
                  clear hv
                  go_enter Tryd.func9, Tryd.ntmps9
                  go_wp2_with fail
                  refine (great13 w HO.out (by omega) (by omega)).mono ?_
                  rintro e w' ⟨rfl, rfl⟩
                  go_wp2_with fail
                  refine (rmay_as w HT.out HV).mono ?_
                  rintro e w1 ⟨rfl, hb1⟩
                  have HW1 := Lib.hid hb1
                  clear hb1
                  go_wp2_with fail
                  refine (fixed13 w1 (HU.out.later HW1.out)).mono ?_
                  rintro e w' ⟨rfl, hb⟩
                  have HE := Lib.hid (HW1.out.trans (hb.mono HW1.out.size))
                  go_wp2_with fail
                  go_ret
                  exact ⟨rfl, HE.out⟩
                | true =>
                  have HV := Lib.hid hv
                  clear hv
                  obtain ⟨pa, hpa⟩ : ∃ pa, splitL kind t l true = pa := ⟨_, rfl⟩
                  obtain ⟨pb, hpb⟩ : ∃ pb, splitL kind t d final = pb := ⟨_, rfl⟩
                  have HPA := Lib.hid hpa
                  have HPB := Lib.hid hpb
                  have HDC := Lib.hid (show ∀ p ∈ pa, p.2 = true from by rw [← hpa]; exact split_decided)
                  have HLN := Lib.hid (show pa.length ≤ 60 ∧ pb.length ≤ 60 from by
                    have h1 := (split_few (kind := kind) (t := t) (text := l) (fin := true)).1
                    have h2 := (split_few (kind := kind) (t := t) (text := d) (fin := final)).1
                    rw [hpa] at h1
                    rw [hpb] at h2
                    have := HL.out; have := HLD.out; have := HS.out
                    omega)
                  obtain ⟨qq, hqq⟩ : ∃ qq, (pa ++ [(1, true)]) ++ pb = qq := ⟨_, rfl⟩
                  have HALL := Lib.hid (show splitL kind t ((l ++ [mark]) ++ d) final = qq from by rw [split_marks HK.out.1 HK.out.2 HV.out HMK.out, hpa, hpb, hqq])
                  have HQQ := Lib.hid hqq
                  clear hpa hpb hqq
                  go_enter Tryd.func9, Tryd.ntmps9
                  go_wp2_with fail
                  refine (great13 w HO.out (by omega) (by omega)).mono ?_
                  rintro e w' ⟨rfl, rfl⟩
                  go_wp2_with fail
                  refine (rmay_as w HT.out HV).mono ?_
                  rintro e w1 ⟨rfl, hb1⟩
                  have HW1 := Lib.hid hb1
                  have hal : Below w1.heap.size w1 (w1.alloc (.cells #[] 44)) := (Below.refl _ w1).alloc (Nat.le_refl _) _
                  have HAL := Lib.hid (HW1.out.trans (hal.mono HW1.out.size))
                  have HO1 := Lib.hid (own_empty w1 44 2)
                  obtain ⟨w2, hw2⟩ : ∃ w2, w2 = w1.alloc (.cells #[] 44) := ⟨_, rfl⟩
                  have hz2 : w1.heap.size ≤ w2.heap.size := by rw [hw2]; exact hal.size
                  rw [← hw2] at HAL HO1
                  have HWQ := Lib.hid hw2
                  clear hb1 hal hw2
                  go_wp2_with fail
                  rw [← HWQ.out]
                  refine (split_at kind true w2 (RowAt.mono (RowAt.below HT.out HAL.out) HAL.out.size) (RowAt.mono (RowAt.below HB.out HAL.out) HAL.out.size) (by have := HS.out; omega) (by have := HS.out; omega) HPA.out).mono ?_
                  rintro e w3 ⟨A3, c3, rfl, hp3, hbl, hb3⟩
                  have HP3 := Lib.hid hp3
                  have HW3 := Lib.hid (HAL.out.trans (hb3.mono HAL.out.size))
                  have HO3 := Lib.hid (own_kept HO1.out hb3 (Nat.le_refl _))
                  have hxc := hp3.2.1
                  have hxm := hp3.2.2.1
                  have hz3 : w1.heap.size ≤ w3.heap.size := Nat.le_trans hz2 hb3.size
                  unfold maxLen at hxm
                  clear hp3 hb3
                  obtain ⟨S, hS⟩ : ∃ S, w1.heap.size = S := ⟨_, rfl⟩
                  have HBL := Lib.hid (show ∀ b off, A3 = some ⟨b, off, none⟩ → b ≠ S ∧ b < w3.heap.size from fun b off e => by
                    have h1 := hbl b off e
                    have h2 : w2.heap.size = S + 1 := by rw [HWQ.out, World.size_alloc, hS]
                    exact ⟨by omega, h1.2⟩)
                  obtain ⟨i0, hi, hz0, hz1', hz2'⟩ := info_parts infoPiece
                  clear hbl
                  have HSS := Lib.hid (show w.heap.size ≤ S from by rw [← hS]; exact HW1.out.size)
                  rw [hS] at HO3 hz2 hz3
                  go_wp2_with fail
                  try rw [hS]
                  go_loopw [13, 58] (fun v i wr => ∃ (k : Nat) (A1 : Option Addr) (c1 : Nat), v = .slice A1 k c1 ∧ i = .int .i64 k ∧ k ≤ pa.length ∧ S ≤ wr.heap.size ∧ Hid (wr.ownsRow S 44 2 (.slice A1 k c1) k (pieceV (pa.take k))) ∧ Hid (Below S w3 wr) ∧ Hid (PiecesAt wr w3.heap.size A3 pa.length c3 pa) ∧ w3.heap.size ≤ wr.heap.size ∧ Hid (∀ b off, A3 = some ⟨b, off, none⟩ → (Value.slice A1 k c1).ownBlock ≠ some b)) (fun _ i _ => pa.length - (intOf i).toNat)
                  case atStart => exact ⟨0, _, _, rfl, rfl, Nat.zero_le _, hz3, HO3, Lib.hid (Below.refl _ _), HP3, Nat.le_refl _, Lib.hid (fun b off e e2 => by have := (HBL.out b off e).1; simp [Value.ownBlock] at e2; omega)⟩
                  case round =>
                    obtain ⟨k, A1, c1, rfl, rfl, hk, hzr, HO, HWR, HPR, hz3r, HNE⟩ := hrel
                    by_cases hlt : k < pa.length
                    · obtain ⟨b, off, rfl, hb, hc⟩ := HPR.out.cells (by omega)
                      obtain ⟨⟨a, dd⟩, hx1⟩ : ∃ z, pa[k]'hlt = z := ⟨_, rfl⟩
                      have hdd : dd = true := by have := HDC.out (pa[k]'hlt) (List.getElem_mem _); rw [hx1] at this; exact this
                      subst hdd
                      have k1 : wr.cell? ⟨b, off + k * 2, none⟩ = some (.int .i64 (a : Int)) := by rw [(hc k hlt).1, hx1]
                      have k2 : wr.cell? ⟨b, off + k * 2 + 1, none⟩ = some (.bool true) := by have := (hc k hlt).2; rw [hx1] at this; exact this
                      have HTK := Lib.hid (show pieceV (pa.take (k + 1)) = pieceV (pa.take k) ++ [.int .i64 (a : Int), .bool true] from by rw [List.take_add_one, List.getElem?_eq_getElem hlt, hx1]; exact pieceV_snoc _ _ _)
                      have hkl : k + 1 ≤ 1000 := by have := HLN.out; omega
                      have hnb := (HBL.out b off rfl).2
                      clear hc hx1
                      go_wp2_with (at_builtin; refine wpList_append_own_at _ rfl (.tmp 62) (.tmp 66) 41 rfl S 44 i0 (.agg #[.int .i64 0, .bool false]) 2 16 Tryd.underlying41 hi hz0 hz1' hz2' rfl (by decide) (.slice A1 k c1) k (pieceV (pa.take k)) rfl ((HO.out.alloc _).alloc _) _ 1 1 [.int .i64 (a : Int), .bool true] rfl rfl (cell_two_new _ _ _ _ _ (by simp)) (one_piece _ _) (len_1000 hkl) (bytes_1000 hkl) (by simp; omega) ?_; intro v' w' hown' hgrow _ hat; obtain ⟨g', cap', rfl⟩ := ownsRow_succ hown'; have HOW := Lib.hid hown'; have HGR := Lib.hid hgrow; have HAT := Lib.hid hat; clear hown' hgrow hat)
                      have hsz := HGR.out.size
                      rw [World.size_alloc, World.size_alloc] at hsz
                      go_roundw
                      case rel =>
                        refine ⟨k + 1, _, cap', rfl, by go_num, by omega, by omega, Lib.hid (by rw [HTK.out]; exact HOW.out), Lib.hid ?r1, Lib.hid ?r2, by omega, Lib.hid ?r3⟩
                        case r1 => exact ((HWR.out.alloc hzr _).alloc (by rw [World.size_alloc]; omega) _).grown HGR.out (by rw [World.size_alloc, World.size_alloc]; omega) (fun r e => (HO.out.lt r e).1)
                        case r2 =>
                          refine RowAt.keep_blk HPR.out (fun b2 off2 e => ?_)
                          injection e with e
                          injection e with e1 e2
                          subst e1 e2
                          rw [HGR.out.block b (by rw [World.size_alloc, World.size_alloc]; omega) (fun e => HNE.out b off rfl e.symm), Below.heap_alloc _ _ _ (by rw [World.size_alloc]; omega), Below.heap_alloc _ _ _ (by omega)]
                        case r3 =>
                          intro b2 off2 e e2
                          injection e with e
                          injection e with e1 e3
                          subst e1 e3
                          rcases HAT.out with h | h
                          · exact HNE.out b off rfl (by rw [← h]; exact e2)
                          · rw [h, World.size_alloc, World.size_alloc] at e2
                            injection e2 with e2
                            omega
                      case measure => show pa.length - ((k : Int) + 1).toNat < pa.length - ((k : Int)).toNat; omega
                    · have hke : k = pa.length := by omega
                      have HKE := Lib.hid hke
                      have HOF := Lib.hid (show wr.ownsRow S 44 2 (.slice A1 k c1) k (pieceV pa) from by have := HO.out; rw [List.take_of_length_le (by omega)] at this; exact this)
                      have hkl : k + 1 ≤ 1000 := by have := HLN.out; omega
                      have HW4 := Lib.hid (HW3.out.trans (HWR.out.mono HSS.out))
                      clear hke
                      go_wp2_with (at_builtin; refine wpList_append_row rfl (.tmp 69) (.tmp 71) _ rfl S 44 _ 2 16 Tryd.underlying41 infoPiece rfl (by decide) (.slice A1 k c1) k (pieceV pa) rfl (HOF.out.alloc _) (wr.heap.size + 1) (some ⟨wr.heap.size, 0, none⟩) 1 1 [.int .i64 1, .bool true] rfl (piece_blk wr _ _ _ _ rfl) (one_piece _ _) (k + 1) rfl (pieceV (pa ++ [(1, true)])) (pieceV_snoc pa 1 true).symm (len_1000 hkl) (bytes_1000 hkl) (by rw [World.size_alloc]; exact Nat.le_succ_of_le hzr) ?_; intro A5 c5 w5 hown5 hb5 hg5; have HO5 := Lib.hid hown5; have HB5 := Lib.hid ((HW4.out.alloc (Nat.le_trans HSS.out hzr) _).trans (hb5.mono HSS.out)); (have hz5 : S ≤ w5.heap.size := by have := hb5.size; rw [World.size_alloc] at this; omega); clear hown5 hb5 hg5)
                      refine (split_as kind final w5 (RowAt.mono (RowAt.below HT.out HB5.out) HB5.out.size) (RowAt.mono (RowAt.below HD.out HB5.out) HB5.out.size) (by have := HS.out; omega) (by have := HS.out; omega) HPB.out).mono ?_
                      rintro e w6 ⟨A6, c6, rfl, hp6, hb6⟩
                      have HP6 := Lib.hid hp6
                      have HO6 := Lib.hid (own_kept HO5.out hb6 (Nat.le_refl _))
                      have HB6 := Lib.hid (HB5.out.trans (hb6.mono HB5.out.size))
                      have hz6 : S ≤ w6.heap.size := Nat.le_trans hz5 hb6.size
                      clear hp6 hb6
                      go_wp2_with (first
                        | (at_builtin; refine wpList_append_row rfl (.tmp 73) (.tmp 78) _ rfl S 44 _ 2 16 Tryd.underlying41 infoPiece rfl (by decide) (.slice A5 (k + 1) c5) (k + 1) (pieceV (pa ++ [(1, true)])) rfl HO6.out _ A6 pb.length c6 (pieceV pb) rfl HP6.out (one_pieces _) (k + 1 + pb.length) rfl (pieceV ((pa ++ [(1, true)]) ++ pb)) (pieceV_app _ _).symm (by unfold maxLen; have := HLN.out; omega) (by have := HLN.out; omega) hz6 ?_; intro A7 c7 w7 hown7 hb7 hg7; have HP7 := Lib.hid (show PiecesAt w7 w7.heap.size A7 (k + 1 + pb.length) c7 qq from by rw [← HQQ.out]; exact RowAt.of_own hown7); have HB7 := Lib.hid (HB6.out.trans (hb7.mono HSS.out)); have hae : Below w7.heap.size w7 (w7.alloc (.cells #[] 3)) := (Below.refl _ w7).alloc (Nat.le_refl _) _; have HAE := Lib.hid (HB7.out.trans (hae.mono HB7.out.size)); have HOE := Lib.hid (own_empty w7 3 1); have HXE := Lib.hid (show IntsAt (w7.alloc (.cells #[] 3)) (w7.alloc (.cells #[] 3)).heap.size A n c l from RowAt.mono (RowAt.below HB.out HAE.out) HAE.out.size); have HAE7 := Lib.hid hae; clear hown7 hb7 hg7 hae)
                        | (at_builtin; refine wpList_append_row rfl (.tmp 80) (.tmp 81) _ rfl w7.heap.size 3 _ 1 8 Tryd.underlying37 infoInt13 rfl (by decide) _ 0 [] rfl HOE.out _ A n c (intsV l) rfl HXE.out one_ints n (Nat.zero_add _) (intsV l) rfl (by unfold maxLen; have := HS.out; omega) (by have := HS.out; omega) (by rw [World.size_alloc]; exact Nat.le_succ _) ?_; intro A8 c8 w8 hown8 hb8 hg8; (have HO8 := Lib.hid hown8); (have HB8 := Lib.hid (HAE.out.trans (hb8.mono HB7.out.size))); (have HQ8 := Lib.hid (HAE7.out.trans hb8)); (have hz8 := hb8.size); rw [World.size_alloc] at hz8; clear hown8 hb8 hg8)
                        | (at_builtin; refine wpList_append_row rfl (.tmp 82) (.tmp 84) _ rfl w7.heap.size 3 _ 1 8 Tryd.underlying37 infoInt13 rfl (by decide) _ n (intsV l) rfl (HO8.out.alloc _) (w8.heap.size + 1) (some ⟨w8.heap.size, 0, none⟩) 1 1 (intsV [mark]) rfl (new_row_at (intsV [mark]) _ rfl rfl rfl) (one_int13 mark) (n + 1) rfl (intsV (l ++ [mark])) (intsV_app _ _).symm (by unfold maxLen; have := HS.out; omega) (by have := HS.out; omega) (by rw [World.size_alloc]; omega) ?_; intro A9 c9 w9 hown9 hb9 hg9; (have HI9 := Lib.hid (show IntsAt w9 w9.heap.size A9 (n + 1) c9 (l ++ [mark]) from RowAt.of_own hown9)); (have HQ9 := Lib.hid ((HQ8.out.alloc (by omega) _).trans hb9)); (have HB9 := Lib.hid ((HB8.out.alloc (by have := HB7.out.size; omega) _).trans (hb9.mono HB7.out.size))); clear hown9 hb9 hg9))
                      have HP9 := Lib.hid (show PiecesAt w9 w7.heap.size A7 (k + 1 + pb.length) c7 qq from RowAt.below HP7.out HQ9.out)
                      refine (rjoin_any w9 HI9.out (RowAt.mono (RowAt.below HD.out HB9.out) HB9.out.size) (by have := HS.out; omega) (by have := HS.out; omega)).mono ?_
                      rintro e w10 ⟨A10, c10, rfl, hi10, hb10⟩
                      have HI10 := Lib.hid hi10
                      have HB10 := Lib.hid (HB9.out.trans (hb10.mono HB9.out.size))
                      have HP10 := Lib.hid (show PiecesAt w10 w10.heap.size A7 (k + 1 + pb.length) c7 qq from RowAt.mono (RowAt.below (RowAt.mono HP9.out HQ9.out.size) hb10) hb10.size)
                      clear hi10 hb10
                      go_wp2_with fail
                      refine (fixed13 w10 (HU.out.later HB10.out)).mono ?_
                      rintro e w11 ⟨rfl, hb11⟩
                      have HB11 := Lib.hid (HB10.out.trans (hb11.mono HB10.out.size))
                      have HI11 := Lib.hid (show IntsAt w11 w11.heap.size A10 (n + 1 + n2) c10 ((l ++ [mark]) ++ d) from RowAt.mono (RowAt.below HI10.out hb11) hb11.size)
                      have HP11 := Lib.hid (show PiecesAt w11 w11.heap.size A7 (k + 1 + pb.length) c7 qq from RowAt.mono (RowAt.below HP10.out hb11) hb11.size)
                      clear hb11
                      go_wp2_with fail
                      refine (split_as kind final w11 (RowAt.mono (RowAt.below HT.out HB11.out) HB11.out.size) HI11.out (by have := HS.out; omega) (by have := HS.out; omega) HALL.out).mono ?_
                      rintro e w12 ⟨A12, c12, rfl, hp12, hb12⟩
                      have HP12 := Lib.hid hp12
                      have HQ12 := Lib.hid (show PiecesAt w12 w12.heap.size A7 (k + 1 + pb.length) c7 qq from RowAt.mono (RowAt.below HP11.out hb12) hb12.size)
                      have HB12 := Lib.hid (HB11.out.trans (hb12.mono HB11.out.size))
                      clear hp12 hb12
                      go_wp2_with fail
                      refine (sameP_as (o := true) w12 HP12.out HQ12.out (decide_eq_true rfl)).mono ?_
                      rintro e w13 ⟨rfl, hb13⟩
                      have HB13 := Lib.hid (HB12.out.trans (hb13.mono HB12.out.size))
                      clear hb13
                      go_wp2_with fail
                      go_ret
                      first
                        | exact ⟨rfl, HB13.out⟩
                        | exact ⟨by simp, HB13.out⟩
end Go.Proofs.YtkiggpbmlkfdpaaDoor
