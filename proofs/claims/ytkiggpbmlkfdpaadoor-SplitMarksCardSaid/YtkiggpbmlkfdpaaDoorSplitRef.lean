/- The walks of the document's run, Split, Decided, Rest, Join. -/
import Derived.Test.YtkiggpbmlkfdpaaDoorSplitSame
import Derived.Test.YtkiggpbmlkfdpaaDoorScanRNext
namespace Go.Proofs.YtkiggpbmlkfdpaaDoor
open Go.RowKit
set_option linter.unusedVariables false

theorem strOf_nil : strOf [] = ⟨#[]⟩ := rfl
theorem run_at {text : List Int} {k : Nat} {s : Int} (h : text.drop k = s :: text.drop (k + 1)) : runT (text.drop k) = if markS s = true then [] else byteOf s :: runT (text.drop (k + 1)) := by rw [h, runT]
theorem pushN {a k m : Nat} (h1 : a ≤ k) (h2 : k ≤ m) (hm : m ≤ 1000) : a + 1 ≤ maxLen := by unfold maxLen; omega
theorem convert_int_u8 (w : World) (s : Int) (h : 0 ≤ s ∧ s ≤ 255) : IntKind.u8.wrap s = s := wrap_u8 h
set_option maxRecDepth 100000 in
set_option maxHeartbeats 1000000 in
theorem rrun_any {A : Option Addr} {m c : Nat} {text : List Int} (f : Nat) (w : World) (hx : IntsAt w w.heap.size A m c text) (hm : m ≤ 1000) (hf : f ≤ m) :
    Calls Tryd.prog 50 #[.slice A m c, .int .i64 (f : Int)] w fun e w' => e = .returned (.string (strOf (runT (text.drop f)))) ∧ Below w.heap.size w w' := by
  have hml := hx.len
  have hcm := hx.2.2.1
  have hcn := hx.2.1
  unfold maxLen at hcm
  have HX := Lib.hid hx
  have HML := Lib.hid hml
  clear hx hml
  go_enter Tryd.func50, Tryd.ntmps50
  go_wp2_with fail
  go_loopw [5, 6] (fun v i wr => ∃ (k : Nat) (A1 : Option Addr) (c1 : Nat) (acc : List UInt8), v = .slice A1 acc.length c1 ∧ i = .int .i64 k ∧ f ≤ k ∧ k ≤ m ∧ acc.length ≤ k ∧ Hid (runT (text.drop f) = acc ++ runT (text.drop k)) ∧ Hid (wr.ownsRow w.heap.size 5 1 (.slice A1 acc.length c1) acc.length (bytesV acc)) ∧ Hid (Below w.heap.size w wr)) (fun _ i _ => m - (intOf i).toNat)
  case atStart => exact ⟨f, _, _, [], rfl, rfl, Nat.le_refl _, hf, Nat.zero_le _, Lib.hid rfl, Lib.hid (own_empty w _ _), Lib.hid ((Below.refl _ w).alloc (Nat.le_refl _) _)⟩
  case round =>
    obtain ⟨k, A1, c1, acc, rfl, rfl, hfk, hk, hal, HR, HO, HB⟩ := hrel
    by_cases hlt : k < m
    · obtain ⟨b, off, rfl, hb, hc⟩ := HX.out.cells (Nat.lt_of_le_of_lt (Nat.zero_le _) hlt)
      have hkl : k < text.length := by rw [← HML.out]; exact hlt
      obtain ⟨s, hs⟩ : ∃ s, text[k] = s := ⟨_, rfl⟩
      have hcell : wr.cell? ⟨b, off + k, none⟩ = some (.int .i64 s) := by rw [HB.out.cell (p := ⟨b, off + k, none⟩) hb, hc k hkl, hs]
      have hdr : text.drop k = s :: text.drop (k + 1) := by rw [List.drop_eq_getElem_cons hkl, hs]
      have hra := run_at hdr
      clear hc hs hdr
      have hcv := run_string_bytes (P := Tryd.prog) 23 9 5 Tryd.underlying23 Tryd.underlying5 Tryd.underlying9 (RowAt.of_own HO.out)
      cases hmk : markS s with
      | true =>
        have HRT := Lib.hid (show runT (text.drop f) = acc from by rw [HR.out, hra, if_pos hmk, List.append_nil])
        have hm2 := mark_yes hmk
        clear hra hmk
        by_cases h0 : s < 0
        · clear hm2
          go_wp2_with fail
          go_ret
          exact ⟨by rw [HRT.out]; rfl, HB.out⟩
        · have h2 : 255 < s := by omega
          clear hm2
          go_wp2_with fail
          go_ret
          exact ⟨by rw [HRT.out]; rfl, HB.out⟩
      | false =>
        have hbd := mark_no hmk
        have HRT := Lib.hid (show runT (text.drop f) = (acc ++ [byteOf s]) ++ runT (text.drop (k + 1)) from by rw [HR.out, hra, if_neg (by rw [hmk]; decide)]; simp)
        have h1 : ¬ s < 0 := by omega
        have h2 : ¬ 255 < s := by omega
        have hw8 : IntKind.u8.wrap s = s := wrap_u8 hbd
        have hzw := HB.out.size
        have HSN := Lib.hid (bytes_snoc acc s hbd)
        clear hra hmk hcv
        go_wp2_with (at_builtin; refine wpList_push rfl (.tmp 29) (.tmp 35) _ rfl w.heap.size 5 _ 1 Tryd.underlying23 info8 rfl (.slice A1 acc.length c1) acc.length (bytesV acc) rfl wr wr.heap.size rfl (.int .u8 s) rfl HO.out rfl hzw (by omega) (pushN hal hk hm) ?_; intro A' c' w' hown' hb' _; have HO' := Lib.hid hown'; have HB' := Lib.hid (HB.out.trans hb'); clear hown' hb')
        go_roundw
        case rel => exact ⟨k + 1, A', c', acc ++ [byteOf s], by rw [List.length_append]; rfl, by go_num, by omega, by omega, by rw [List.length_append]; exact Nat.succ_le_succ hal, HRT, Lib.hid (by rw [← HSN.out, List.length_append]; exact HO'.out), HB'⟩
        case measure => show m - ((k : Int) + 1).toNat < m - ((k : Int)).toNat; omega
    · have HRT := Lib.hid (show runT (text.drop f) = acc from by
        rw [HR.out, List.drop_of_length_le (by rw [← HML.out]; omega), runT, List.append_nil])
      have hcv := run_string_bytes (P := Tryd.prog) 23 9 5 Tryd.underlying23 Tryd.underlying5 Tryd.underlying9 (RowAt.of_own HO.out)
      go_wp2_with fail
      go_ret
      exact ⟨by rw [HRT.out]; rfl, HB.out⟩
theorem rest_at (text : List Int) (k : Nat) : ∀ acc, text.drop k = [] → lastT acc (text.drop k) = acc := fun acc h => by rw [h, lastT]
set_option maxRecDepth 100000 in
set_option maxHeartbeats 1000000 in
theorem rlast_any {A : Option Addr} {m c : Nat} {text : List Int} (w : World) (hx : IntsAt w w.heap.size A m c text) (hm : m ≤ 1000) :
    Calls Tryd.prog 29 #[.slice A m c] w fun e w' => e = .returned (.string (strOf (lastT [] text))) ∧ Below w.heap.size w w' := by
  have hml := hx.len
  have hcm := hx.2.2.1
  have hcn := hx.2.1
  unfold maxLen at hcm
  have HX := Lib.hid hx
  have HML := Lib.hid hml
  clear hx hml
  go_enter Tryd.func29, Tryd.ntmps29
  go_wp2_with fail
  go_loopw [3, 7] (fun v i wr => ∃ (k f : Nat) (acc : List UInt8), v = .int .i64 f ∧ i = .int .i64 k ∧ f ≤ k ∧ k ≤ m ∧ Hid (runT (text.drop f) = acc ++ runT (text.drop k)) ∧ Hid (lastT acc (text.drop k) = lastT [] text) ∧ Hid (Below w.heap.size w wr)) (fun _ i _ => m - (intOf i).toNat)
  case atStart => exact ⟨0, 0, [], rfl, rfl, Nat.le_refl _, Nat.zero_le _, Lib.hid rfl, Lib.hid rfl, Lib.hid (Below.refl _ _)⟩
  case round =>
    obtain ⟨k, f, acc, rfl, rfl, hfk, hk, HR, HL, HB⟩ := hrel
    by_cases hlt : k < m
    · obtain ⟨b, off, rfl, hb, hc⟩ := HX.out.cells (Nat.lt_of_le_of_lt (Nat.zero_le _) hlt)
      have hkl : k < text.length := by rw [← HML.out]; exact hlt
      obtain ⟨s, hs⟩ : ∃ s, text[k] = s := ⟨_, rfl⟩
      have hcell : wr.cell? ⟨b, off + k, none⟩ = some (.int .i64 s) := by rw [HB.out.cell (p := ⟨b, off + k, none⟩) hb, hc k hkl, hs]
      have hdr : text.drop k = s :: text.drop (k + 1) := by rw [List.drop_eq_getElem_cons hkl, hs]
      have hra := run_at hdr
      have hla := HL.out
      rw [hdr, lastT] at hla
      clear hc hs hdr
      cases hmk : markS s with
      | true =>
        rw [if_pos hmk] at hla
        have HLA := Lib.hid hla
        have hm2 := mark_yes hmk
        clear hra hmk hla
        by_cases h0 : s < 0
        · clear hm2
          go_wp2_with fail
          go_roundw
          case rel => exact ⟨k + 1, k + 1, [], by go_num, by go_num, Nat.le_refl _, by omega, Lib.hid rfl, HLA, HB⟩
          case measure => show m - ((k : Int) + 1).toNat < m - ((k : Int)).toNat; omega
        · have h2 : 255 < s := by omega
          clear hm2
          go_wp2_with fail
          go_roundw
          case rel => exact ⟨k + 1, k + 1, [], by go_num, by go_num, Nat.le_refl _, by omega, Lib.hid rfl, HLA, HB⟩
          case measure => show m - ((k : Int) + 1).toNat < m - ((k : Int)).toNat; omega
      | false =>
        have hbd := mark_no hmk
        rw [if_neg (by rw [hmk]; decide)] at hla
        have HLA := Lib.hid hla
        have HRT := Lib.hid (show runT (text.drop f) = (acc ++ [byteOf s]) ++ runT (text.drop (k + 1)) from by rw [HR.out, hra, if_neg (by rw [hmk]; decide)]; simp)
        have h1 : ¬ s < 0 := by omega
        have h2 : ¬ 255 < s := by omega
        clear hra hmk hla hbd
        go_wp2_with fail
        go_roundw
        case rel => exact ⟨k + 1, f, acc ++ [byteOf s], rfl, by go_num, by omega, by omega, HRT, HLA, HB⟩
        case measure => show m - ((k : Int) + 1).toNat < m - ((k : Int)).toNat; omega
    · have hd0 : text.drop k = [] := List.drop_of_length_le (by rw [← HML.out]; omega)
      have HRT := Lib.hid (show runT (text.drop f) = lastT [] text from by rw [← HL.out, HR.out, hd0, runT, lastT, List.append_nil])
      have HXW := Lib.hid (show IntsAt wr wr.heap.size A m c text from RowAt.mono (RowAt.below HX.out HB.out) HB.out.size)
      clear hd0
      go_wp2_with fail
      refine (rrun_any f wr HXW.out hm (by omega)).mono ?_
      rw [HRT.out]
      rintro e w2 ⟨rfl, hb2⟩
      have HB2 := Lib.hid (HB.out.trans (hb2.mono HB.out.size))
      clear hb2
      go_wp2_with fail
      go_ret
      exact ⟨rfl, HB2.out⟩
theorem infoInt13 : (Tryd.prog.info? 3).map (fun i => (i.zero, i.size, i.bytes)) = some (some (.int .i64 0), 1, 8) := by kernel_rfl
theorem intsV_app (a b : List Int) : intsV (a ++ b) = intsV a ++ intsV b := by simp [intsV]
set_option maxRecDepth 100000 in
set_option maxHeartbeats 1000000 in
theorem rjoin_any {A A2 : Option Addr} {m c m2 c2 : Nat} {x y : List Int} (w : World) (hx : IntsAt w w.heap.size A m c x) (hy : IntsAt w w.heap.size A2 m2 c2 y) (hm : m ≤ 1000) (hm2 : m2 ≤ 1000) :
    Calls Tryd.prog 26 #[.slice A m c, .slice A2 m2 c2] w fun e w' => ∃ A' c', e = .returned (.slice A' (m + m2) c') ∧ IntsAt w' w'.heap.size A' (m + m2) c' (x ++ y) ∧ Below w.heap.size w w' := by
  have HX := Lib.hid hx
  have HY := Lib.hid hy
  have hal : Below w.heap.size w (w.alloc (.cells #[] 3)) := (Below.refl _ w).alloc (Nat.le_refl _) _
  have HAL := Lib.hid hal
  have HO0 := Lib.hid (own_empty w 3 1)
  have HX1 := Lib.hid (show IntsAt (w.alloc (.cells #[] 3)) (w.alloc (.cells #[] 3)).heap.size A m c x from RowAt.mono (RowAt.below HX.out hal) hal.size)
  have hz1 : w.heap.size ≤ (w.alloc (.cells #[] 3)).heap.size := by simp
  clear hx hy hal
  go_enter Tryd.func26, Tryd.ntmps26
  go_wp2_with (first
    | (at_builtin; refine wpList_append_row rfl (.tmp 7) (.tmp 8) _ rfl w.heap.size 3 _ 1 8 Tryd.underlying37 infoInt13 rfl (by omega) _ 0 [] rfl HO0.out _ A m c (intsV x) rfl HX1.out one_ints m (Nat.zero_add _) (intsV x) rfl (by unfold maxLen; omega) (by omega) hz1 ?_; intro A3 c3 w3 hown3 hb3 hg3; (have HO3 := Lib.hid hown3); (have HB3 := Lib.hid (HAL.out.trans hb3)); (have hz3 := HB3.out.size); (have HY3 := Lib.hid (show IntsAt w3 w3.heap.size A2 m2 c2 y from RowAt.mono (RowAt.below HY.out HB3.out) HB3.out.size)); clear hown3 hb3 hg3)
    | (at_builtin; refine wpList_append_row rfl (.tmp 10) (.tmp 11) _ rfl w.heap.size 3 _ 1 8 Tryd.underlying37 infoInt13 rfl (by omega) _ m (intsV x) rfl HO3.out _ A2 m2 c2 (intsV y) rfl HY3.out one_ints (m + m2) rfl (intsV (x ++ y)) (intsV_app _ _).symm (by unfold maxLen; omega) (by omega) hz3 ?_; intro A4 c4 w4 hown4 hb4 hg4; (have HO4 := Lib.hid hown4); (have HB4 := Lib.hid (HB3.out.trans hb4)); clear hown4 hb4 hg4))
  go_ret
  exact ⟨A4, c4, rfl, RowAt.of_own HO4.out, HB4.out⟩
theorem piece_blk (w : World) (a b : Value) (t : TypeId) (g : Nat) (hg : w.heap.size = g) : RowAt (w.alloc (.cells #[a, b] t)) (g + 1) 2 (some ⟨g, 0, none⟩) 1 1 [a, b] := new_row_at [a, b] t rfl rfl hg
theorem one_piece (n : Int) (d : Bool) : ∀ u ∈ ([.int .i64 n, .bool d] : List Value), u.oneCell' = true := by
  intro u hu
  simp only [List.mem_cons, List.not_mem_nil, or_false] at hu
  rcases hu with rfl | rfl <;> rfl
/-- The document's pieces at a place: so many are done. -/
def DocS (kind : Int) (t : List Rg) (fin : Bool) (text : List Int) (k : Nat) (op : Bool) (done : List (Nat × Bool)) : Prop :=
  done ++ docF kind t fin (text.drop k).length op (text.drop k) = docF kind t fin text.length false text
theorem doc_mark {kind : Int} {t : List Rg} {fin : Bool} {text : List Int} {k : Nat} {op : Bool} {done : List (Nat × Bool)} {s : Int} (h : DocS kind t fin text k op done) (hd : text.drop k = s :: text.drop (k + 1)) (hm : markS s = true) : DocS kind t fin text (k + 1) op (done ++ [(1, true)]) := by
  unfold DocS at h ⊢
  rw [hd, List.length_cons, docF, if_pos hm] at h
  rw [← h]; simp
section
variable {kind : Int} {t : List Rg} {fin : Bool} (hk0 : 0 ≤ kind) (hk3 : kind ≤ 3) (hv : mayT t = true)
include hk0 hk3 hv
theorem docF_fuel : ∀ (a b : Nat) (op : Bool) (x : List Int), x.length ≤ a → x.length ≤ b → docF kind t fin a op x = docF kind t fin b op x
  | 0, b, op, x, h, _ => by obtain rfl : x = [] := List.eq_nil_of_length_eq_zero (by omega); cases b <;> rfl
  | a + 1, 0, op, x, _, h => by obtain rfl : x = [] := List.eq_nil_of_length_eq_zero (by omega); rfl
  | a + 1, b + 1, op, [], _, _ => rfl
  | a + 1, b + 1, op, s :: r, h1, h2 => by
    rw [docF, docF]
    by_cases hm : markS s = true
    · rw [if_pos hm, if_pos hm, docF_fuel a b op r (by simpa using h1) (by simpa using h2)]
    · rw [if_neg hm, if_neg hm]
      have h0 : runT (s :: r) ≠ [] := by rw [runT, if_neg hm]; simp
      have hb := next_bounds (kind := kind) (t := t) (l := runT (s :: r)) (fin || decide ((runT (s :: r)).length < (s :: r).length)) h0 hv hk0 hk3
      rw [docF_fuel a b _ _ (by rw [List.length_drop]; simp only [List.length_cons] at *; omega) (by rw [List.length_drop]; simp only [List.length_cons] at *; omega)]
theorem doc_run {text : List Int} {k : Nat} {op : Bool} {done : List (Nat × Bool)} {s : Int} {n : Nat} {d : Bool} (h : DocS kind t fin text k op done) (hd : text.drop k = s :: text.drop (k + 1)) (hm : markS s = false)
    (hn : nextP kind t (runT (text.drop k)) (fin || decide ((runT (text.drop k)).length < (text.drop k).length)) = (n, d)) : DocS kind t fin text (k + n) (op || !d) (done ++ [(n, !(op || !d))]) := by
  unfold DocS at h ⊢
  have hl : (text.drop k).length = (text.drop (k + 1)).length + 1 := by rw [hd, List.length_cons]
  have h0 : runT (text.drop k) ≠ [] := by rw [hd, runT, if_neg (by rw [hm]; decide)]; simp
  have hb := next_bounds (kind := kind) (t := t) (l := runT (text.drop k)) (fin || decide ((runT (text.drop k)).length < (text.drop k).length)) h0 hv hk0 hk3
  rw [hn] at hb
  simp only at hb
  rw [hl, hd, docF, if_neg (by rw [hm]; decide), ← hd, hn] at h
  simp only at h
  rw [← h, List.append_assoc, List.singleton_append, List.drop_drop, docF_fuel hk0 hk3 hv (text.drop (k + n)).length (text.drop (k + 1)).length _ _ (Nat.le_refl _) (by rw [List.length_drop, List.length_drop]; omega)]
end
set_option maxRecDepth 100000 in
set_option maxHeartbeats 4000000 in
theorem rsplit_in {At A : Option Addr} {nt ct m c : Nat} {t : List Rg} {text : List Int} (kind : Int) (fin : Bool) (w : World) (ht : RangesAt w w.heap.size At nt ct t) (hx : IntsAt w w.heap.size A m c text) (hm : m ≤ 1000) (hk0 : 0 ≤ kind) (hk3 : kind ≤ 3) (hv : mayT t = true) :
    Calls Tryd.prog 30 #[.int .i64 kind, .slice At nt ct, .slice A m c, .bool fin] w fun e w' => ∃ A' c', e = .returned (.slice A' (splitL kind t text fin).length c') ∧ PiecesAt w' w'.heap.size A' (splitL kind t text fin).length c' (splitL kind t text fin) ∧ Below w.heap.size w w' := by
  have hml := hx.len
  have hcm := hx.2.2.1
  have hcn := hx.2.1
  unfold maxLen at hcm
  have HX := Lib.hid hx
  have HT := Lib.hid ht
  have HV := Lib.hid hv
  have HML := Lib.hid hml
  have HSP := Lib.hid (show docF kind t fin text.length false text = splitL kind t text fin from by
    rw [doc_eq hk0 hk3 hv text.length text false (Nat.le_refl _) (.inl rfl)]
    unfold splitL
    rw [if_neg (by rintro (h | h | h); omega; omega; rw [hv] at h; cases h)]; rfl)
  have hfew := split_few (kind := kind) (t := t) (text := text) (fin := fin)
  have HF := Lib.hid hfew.1
  have hal : Below w.heap.size w (w.alloc (.cells #[] 44)) := (Below.refl _ w).alloc (Nat.le_refl _) _
  have HAL := Lib.hid hal
  have HTA := Lib.hid (show RangesAt (w.alloc (.cells #[] 44)) (w.alloc (.cells #[] 44)).heap.size At nt ct t from RowAt.mono (RowAt.below HT.out hal) hal.size)
  clear hx ht hv hml hfew hal
  have hkd0 : decide (kind < 0) = false := decide_eq_false (by omega)
  have hkd3 : decide (3 < kind) = false := decide_eq_false (by omega)
  go_enter Tryd.func30, Tryd.ntmps30
  go_wp2_with fail
  refine (rmay_as _ HTA.out HV).mono ?_
  rintro e w1 ⟨rfl, hb1⟩
  have HB1 := Lib.hid (HAL.out.trans (hb1.mono HAL.out.size))
  have HO1 := Lib.hid (own_kept (own_empty w 44 2) hb1 (Nat.le_refl _))
  clear hb1
  go_wp2_with fail
  go_loopw [9, 10, 11] (fun v i o wr => ∃ (k : Nat) (op : Bool) (A1 : Option Addr) (c1 : Nat) (d : List (Nat × Bool)), v = .slice A1 d.length c1 ∧ i = .int .i64 k ∧ o = .bool op ∧ k ≤ m ∧ Hid (DocS kind t fin text k op d) ∧ Hid (wr.ownsRow w.heap.size 44 2 (.slice A1 d.length c1) d.length (pieceV d)) ∧ Hid (Below w.heap.size w wr)) (fun _ i _ _ => m - (intOf i).toNat)
  case atStart => exact ⟨0, false, _, _, [], rfl, rfl, rfl, Nat.zero_le _, Lib.hid rfl, HO1, HB1⟩
  case round =>
    obtain ⟨k, op, A1, c1, d, rfl, rfl, rfl, hk, HD, HO, HB⟩ := hrel
    by_cases hlt : k < m
    · have hkl : k < text.length := by rw [← HML.out]; exact hlt
      obtain ⟨s, hs⟩ : ∃ s, text[k] = s := ⟨_, rfl⟩
      have hdr : text.drop k = s :: text.drop (k + 1) := by rw [List.drop_eq_getElem_cons hkl, hs]
      have HDR := Lib.hid hdr
      have HXW := Lib.hid (show IntsAt wr wr.heap.size A m c text from RowAt.mono (RowAt.below HX.out HB.out) HB.out.size)
      obtain ⟨l, hl⟩ : ∃ l, runT (text.drop k) = l := ⟨_, rfl⟩
      have HLR := Lib.hid hl
      have hln : l.length ≤ m - k := by rw [← hl]; have := runT_len (text.drop k); rw [List.length_drop, ← HML.out] at this; exact this
      clear hs hdr
      cases hmk : markS s with
      | true =>
        have hl0 : l = [] := by rw [← hl, HDR.out, runT, if_pos hmk]
        subst hl0
        have HD2 := Lib.hid (doc_mark HD.out HDR.out hmk)
        have HCL := Lib.hid (show d.length + 1 ≤ 1000 from by
          have := congrArg List.length HD2.out
          rw [HSP.out, List.length_append, List.length_append] at this
          have := HF.out
          simp only [List.length_cons, List.length_nil] at *
          have := HML.out
          omega)
        clear hl hmk hln
        go_wp2_with fail
        refine (rrun_any k wr HXW.out hm (by omega)).mono ?_
        rw [HLR.out, strOf_nil]
        rintro e w2 ⟨rfl, hb2⟩
        have HB2 := Lib.hid (HB.out.trans (hb2.mono HB.out.size))
        have HO2 := Lib.hid (own_kept HO.out hb2 (Nat.le_refl _))
        have hz2 := HB2.out.size
        clear hb2
        go_wp2_with (at_builtin; refine wpList_append_row rfl (.tmp 38) (.tmp 40) _ rfl w.heap.size 44 _ 2 16 Tryd.underlying41 infoPiece rfl (by decide) (.slice A1 d.length c1) d.length (pieceV d) rfl (HO2.out.alloc _) (w2.heap.size + 1) (some ⟨w2.heap.size, 0, none⟩) 1 1 [.int .i64 1, .bool true] rfl (piece_blk w2 _ _ _ _ rfl) (one_piece _ _) (d.length + 1) rfl (pieceV (d ++ [(1, true)])) (pieceV_snoc d 1 true).symm (len_1000 HCL.out) (bytes_1000 HCL.out) (by simp; omega) ?_; intro A5 c5 w5 hown5 hb5 hg5; have HO5 := Lib.hid hown5; have HB5 := Lib.hid ((HB2.out.alloc hz2 _).trans hb5); clear hown5 hb5 hg5)
        go_roundw
        case rel => exact ⟨k + 1, op, A5, c5, d ++ [(1, true)], by rw [List.length_append]; rfl, by go_num, rfl, by omega, HD2, Lib.hid (by rw [List.length_append]; exact HO5.out), HB5⟩
        case measure => show m - ((k : Int) + 1).toNat < m - ((k : Int)).toNat; omega
      | false =>
        have hl0 : l ≠ [] := by rw [← hl, HDR.out, runT, if_neg (by rw [hmk]; decide)]; simp
        obtain ⟨ov, hov⟩ : ∃ ov, decide ((k : Int) + (l.length : Int) < (m : Int)) = ov := ⟨_, rfl⟩
        have hov2 : decide (l.length < (text.drop k).length) = ov := by
          rw [← hov, decide_eq_decide, List.length_drop, ← HML.out]; omega
        obtain ⟨⟨n, dd⟩, hn⟩ : ∃ q, nextP kind t l (fin || ov) = q := ⟨_, rfl⟩
        have hbd := next_bounds (kind := kind) (t := t) (l := l) (fin || ov) hl0 HV.out hk0 hk3
        rw [hn] at hbd
        obtain ⟨hbd1, hbd2⟩ := hbd
        simp only at hbd1 hbd2
        have HD2 := Lib.hid (doc_run (n := n) (d := dd) hk0 hk3 HV.out HD.out HDR.out hmk (by rw [hl, hov2]; exact hn))
        have HCL := Lib.hid (show d.length + 1 ≤ 1000 from by
          have := congrArg List.length HD2.out
          rw [HSP.out, List.length_append, List.length_append] at this
          have := HF.out
          simp only [List.length_cons, List.length_nil] at *
          have := HML.out
          omega)
        have hs1 : (strOf l).toList.isEmpty = false := str_nonempty (by rw [strOf_size]; exact fun e => hl0 (List.eq_nil_of_length_eq_zero e))
        have hs2 : ¬ (strOf l).toList = [] := by rw [ByteArray.toList_eq, strOf_list]; exact hl0
        have hzl : (strOf l).size = l.length := rfl
        have HN0 := Lib.hid hn
        clear hl hmk hl0 hov2 hn
        cases fin with
        | true =>
          have HN := Lib.hid (show nextP kind t (strOf l).data.toList true = (n, dd) from HN0.out)
          cases op with
          | true =>
            cases dd
            · -- true true false
              go_wp2_with fail
              refine (rrun_any k wr HXW.out hm (by omega)).mono ?_
              rw [HLR.out]
              rintro e w2 ⟨rfl, hb2⟩
              have HB2 := Lib.hid (HB.out.trans (hb2.mono HB.out.size))
              have HT2 := Lib.hid (show RangesAt w2 w2.heap.size At nt ct t from RowAt.mono (RowAt.below HT.out HB2.out) HB2.out.size)
              have HQ2 := Lib.hid hb2
              clear hb2
              go_wp2_with fail
              refine (rnext_any kind true (strOf l) w2 HT2.out (by rw [strOf_size]; omega) HN.out).mono ?_
              rintro e w3 ⟨rfl, hb3⟩
              have HB3 := Lib.hid (HB2.out.trans (hb3.mono HB2.out.size))
              have HO3 := Lib.hid (own_kept HO.out (HQ2.out.trans (hb3.mono HQ2.out.size)) (Nat.le_refl _))
              have hz3 := HB3.out.size
              clear hb3
              go_wp2_with (at_builtin; refine wpList_append_row rfl (.tmp 67) (.tmp 72) _ rfl w.heap.size 44 _ 2 16 Tryd.underlying41 infoPiece rfl (by decide) (.slice A1 d.length c1) d.length (pieceV d) rfl (HO3.out.alloc _) (w3.heap.size + 1) (some ⟨w3.heap.size, 0, none⟩) 1 1 [.int .i64 (n : Int), .bool false] rfl (piece_blk w3 _ _ _ _ rfl) (one_piece _ _) (d.length + 1) rfl (pieceV (d ++ [(n, false)])) (pieceV_snoc d n false).symm (len_1000 HCL.out) (bytes_1000 HCL.out) (by simp; omega) ?_; intro A5 c5 w5 hown5 hb5 hg5; have HO5 := Lib.hid hown5; have HB5 := Lib.hid ((HB3.out.alloc hz3 _).trans hb5); clear hown5 hb5 hg5)
              go_roundw
              case rel => exact ⟨k + n, true, A5, c5, d ++ [(n, false)], by rw [List.length_append]; rfl, by go_num, rfl, by omega, HD2, Lib.hid (by rw [List.length_append]; exact HO5.out), HB5⟩
              case measure => show m - ((k : Int) + (n : Int)).toNat < m - ((k : Int)).toNat; omega
            · -- true true true
              go_wp2_with fail
              refine (rrun_any k wr HXW.out hm (by omega)).mono ?_
              rw [HLR.out]
              rintro e w2 ⟨rfl, hb2⟩
              have HB2 := Lib.hid (HB.out.trans (hb2.mono HB.out.size))
              have HT2 := Lib.hid (show RangesAt w2 w2.heap.size At nt ct t from RowAt.mono (RowAt.below HT.out HB2.out) HB2.out.size)
              have HQ2 := Lib.hid hb2
              clear hb2
              go_wp2_with fail
              refine (rnext_any kind true (strOf l) w2 HT2.out (by rw [strOf_size]; omega) HN.out).mono ?_
              rintro e w3 ⟨rfl, hb3⟩
              have HB3 := Lib.hid (HB2.out.trans (hb3.mono HB2.out.size))
              have HO3 := Lib.hid (own_kept HO.out (HQ2.out.trans (hb3.mono HQ2.out.size)) (Nat.le_refl _))
              have hz3 := HB3.out.size
              clear hb3
              go_wp2_with (at_builtin; refine wpList_append_row rfl (.tmp 67) (.tmp 72) _ rfl w.heap.size 44 _ 2 16 Tryd.underlying41 infoPiece rfl (by decide) (.slice A1 d.length c1) d.length (pieceV d) rfl (HO3.out.alloc _) (w3.heap.size + 1) (some ⟨w3.heap.size, 0, none⟩) 1 1 [.int .i64 (n : Int), .bool false] rfl (piece_blk w3 _ _ _ _ rfl) (one_piece _ _) (d.length + 1) rfl (pieceV (d ++ [(n, false)])) (pieceV_snoc d n false).symm (len_1000 HCL.out) (bytes_1000 HCL.out) (by simp; omega) ?_; intro A5 c5 w5 hown5 hb5 hg5; have HO5 := Lib.hid hown5; have HB5 := Lib.hid ((HB3.out.alloc hz3 _).trans hb5); clear hown5 hb5 hg5)
              go_roundw
              case rel => exact ⟨k + n, true, A5, c5, d ++ [(n, false)], by rw [List.length_append]; rfl, by go_num, rfl, by omega, HD2, Lib.hid (by rw [List.length_append]; exact HO5.out), HB5⟩
              case measure => show m - ((k : Int) + (n : Int)).toNat < m - ((k : Int)).toNat; omega
          | false =>
            cases dd
            · -- true false false
              go_wp2_with fail
              refine (rrun_any k wr HXW.out hm (by omega)).mono ?_
              rw [HLR.out]
              rintro e w2 ⟨rfl, hb2⟩
              have HB2 := Lib.hid (HB.out.trans (hb2.mono HB.out.size))
              have HT2 := Lib.hid (show RangesAt w2 w2.heap.size At nt ct t from RowAt.mono (RowAt.below HT.out HB2.out) HB2.out.size)
              have HQ2 := Lib.hid hb2
              clear hb2
              go_wp2_with fail
              refine (rnext_any kind true (strOf l) w2 HT2.out (by rw [strOf_size]; omega) HN.out).mono ?_
              rintro e w3 ⟨rfl, hb3⟩
              have HB3 := Lib.hid (HB2.out.trans (hb3.mono HB2.out.size))
              have HO3 := Lib.hid (own_kept HO.out (HQ2.out.trans (hb3.mono HQ2.out.size)) (Nat.le_refl _))
              have hz3 := HB3.out.size
              clear hb3
              go_wp2_with (at_builtin; refine wpList_append_row rfl (.tmp 67) (.tmp 72) _ rfl w.heap.size 44 _ 2 16 Tryd.underlying41 infoPiece rfl (by decide) (.slice A1 d.length c1) d.length (pieceV d) rfl (HO3.out.alloc _) (w3.heap.size + 1) (some ⟨w3.heap.size, 0, none⟩) 1 1 [.int .i64 (n : Int), .bool false] rfl (piece_blk w3 _ _ _ _ rfl) (one_piece _ _) (d.length + 1) rfl (pieceV (d ++ [(n, false)])) (pieceV_snoc d n false).symm (len_1000 HCL.out) (bytes_1000 HCL.out) (by simp; omega) ?_; intro A5 c5 w5 hown5 hb5 hg5; have HO5 := Lib.hid hown5; have HB5 := Lib.hid ((HB3.out.alloc hz3 _).trans hb5); clear hown5 hb5 hg5)
              go_roundw
              case rel => exact ⟨k + n, true, A5, c5, d ++ [(n, false)], by rw [List.length_append]; rfl, by go_num, rfl, by omega, HD2, Lib.hid (by rw [List.length_append]; exact HO5.out), HB5⟩
              case measure => show m - ((k : Int) + (n : Int)).toNat < m - ((k : Int)).toNat; omega
            · -- true false true
              go_wp2_with fail
              refine (rrun_any k wr HXW.out hm (by omega)).mono ?_
              rw [HLR.out]
              rintro e w2 ⟨rfl, hb2⟩
              have HB2 := Lib.hid (HB.out.trans (hb2.mono HB.out.size))
              have HT2 := Lib.hid (show RangesAt w2 w2.heap.size At nt ct t from RowAt.mono (RowAt.below HT.out HB2.out) HB2.out.size)
              have HQ2 := Lib.hid hb2
              clear hb2
              go_wp2_with fail
              refine (rnext_any kind true (strOf l) w2 HT2.out (by rw [strOf_size]; omega) HN.out).mono ?_
              rintro e w3 ⟨rfl, hb3⟩
              have HB3 := Lib.hid (HB2.out.trans (hb3.mono HB2.out.size))
              have HO3 := Lib.hid (own_kept HO.out (HQ2.out.trans (hb3.mono HQ2.out.size)) (Nat.le_refl _))
              have hz3 := HB3.out.size
              clear hb3
              go_wp2_with (at_builtin; refine wpList_append_row rfl (.tmp 67) (.tmp 72) _ rfl w.heap.size 44 _ 2 16 Tryd.underlying41 infoPiece rfl (by decide) (.slice A1 d.length c1) d.length (pieceV d) rfl (HO3.out.alloc _) (w3.heap.size + 1) (some ⟨w3.heap.size, 0, none⟩) 1 1 [.int .i64 (n : Int), .bool true] rfl (piece_blk w3 _ _ _ _ rfl) (one_piece _ _) (d.length + 1) rfl (pieceV (d ++ [(n, true)])) (pieceV_snoc d n true).symm (len_1000 HCL.out) (bytes_1000 HCL.out) (by simp; omega) ?_; intro A5 c5 w5 hown5 hb5 hg5; have HO5 := Lib.hid hown5; have HB5 := Lib.hid ((HB3.out.alloc hz3 _).trans hb5); clear hown5 hb5 hg5)
              go_roundw
              case rel => exact ⟨k + n, false, A5, c5, d ++ [(n, true)], by rw [List.length_append]; rfl, by go_num, rfl, by omega, HD2, Lib.hid (by rw [List.length_append]; exact HO5.out), HB5⟩
              case measure => show m - ((k : Int) + (n : Int)).toNat < m - ((k : Int)).toNat; omega
        | false =>
          have HN := Lib.hid (show nextP kind t (strOf l).data.toList ov = (n, dd) from HN0.out)
          cases op with
          | true =>
            cases dd
            · -- false true false
              go_wp2_with fail
              refine (rrun_any k wr HXW.out hm (by omega)).mono ?_
              rw [HLR.out]
              rintro e w2 ⟨rfl, hb2⟩
              have HB2 := Lib.hid (HB.out.trans (hb2.mono HB.out.size))
              have HT2 := Lib.hid (show RangesAt w2 w2.heap.size At nt ct t from RowAt.mono (RowAt.below HT.out HB2.out) HB2.out.size)
              have HQ2 := Lib.hid hb2
              clear hb2
              go_wp2_with fail
              refine (rnext_any kind ov (strOf l) w2 HT2.out (by rw [strOf_size]; omega) HN.out).mono ?_
              rintro e w3 ⟨rfl, hb3⟩
              have HB3 := Lib.hid (HB2.out.trans (hb3.mono HB2.out.size))
              have HO3 := Lib.hid (own_kept HO.out (HQ2.out.trans (hb3.mono HQ2.out.size)) (Nat.le_refl _))
              have hz3 := HB3.out.size
              clear hb3
              go_wp2_with (at_builtin; refine wpList_append_row rfl (.tmp 67) (.tmp 72) _ rfl w.heap.size 44 _ 2 16 Tryd.underlying41 infoPiece rfl (by decide) (.slice A1 d.length c1) d.length (pieceV d) rfl (HO3.out.alloc _) (w3.heap.size + 1) (some ⟨w3.heap.size, 0, none⟩) 1 1 [.int .i64 (n : Int), .bool false] rfl (piece_blk w3 _ _ _ _ rfl) (one_piece _ _) (d.length + 1) rfl (pieceV (d ++ [(n, false)])) (pieceV_snoc d n false).symm (len_1000 HCL.out) (bytes_1000 HCL.out) (by simp; omega) ?_; intro A5 c5 w5 hown5 hb5 hg5; have HO5 := Lib.hid hown5; have HB5 := Lib.hid ((HB3.out.alloc hz3 _).trans hb5); clear hown5 hb5 hg5)
              go_roundw
              case rel => exact ⟨k + n, true, A5, c5, d ++ [(n, false)], by rw [List.length_append]; rfl, by go_num, rfl, by omega, HD2, Lib.hid (by rw [List.length_append]; exact HO5.out), HB5⟩
              case measure => show m - ((k : Int) + (n : Int)).toNat < m - ((k : Int)).toNat; omega
            · -- false true true
              go_wp2_with fail
              refine (rrun_any k wr HXW.out hm (by omega)).mono ?_
              rw [HLR.out]
              rintro e w2 ⟨rfl, hb2⟩
              have HB2 := Lib.hid (HB.out.trans (hb2.mono HB.out.size))
              have HT2 := Lib.hid (show RangesAt w2 w2.heap.size At nt ct t from RowAt.mono (RowAt.below HT.out HB2.out) HB2.out.size)
              have HQ2 := Lib.hid hb2
              clear hb2
              go_wp2_with fail
              refine (rnext_any kind ov (strOf l) w2 HT2.out (by rw [strOf_size]; omega) HN.out).mono ?_
              rintro e w3 ⟨rfl, hb3⟩
              have HB3 := Lib.hid (HB2.out.trans (hb3.mono HB2.out.size))
              have HO3 := Lib.hid (own_kept HO.out (HQ2.out.trans (hb3.mono HQ2.out.size)) (Nat.le_refl _))
              have hz3 := HB3.out.size
              clear hb3
              go_wp2_with (at_builtin; refine wpList_append_row rfl (.tmp 67) (.tmp 72) _ rfl w.heap.size 44 _ 2 16 Tryd.underlying41 infoPiece rfl (by decide) (.slice A1 d.length c1) d.length (pieceV d) rfl (HO3.out.alloc _) (w3.heap.size + 1) (some ⟨w3.heap.size, 0, none⟩) 1 1 [.int .i64 (n : Int), .bool false] rfl (piece_blk w3 _ _ _ _ rfl) (one_piece _ _) (d.length + 1) rfl (pieceV (d ++ [(n, false)])) (pieceV_snoc d n false).symm (len_1000 HCL.out) (bytes_1000 HCL.out) (by simp; omega) ?_; intro A5 c5 w5 hown5 hb5 hg5; have HO5 := Lib.hid hown5; have HB5 := Lib.hid ((HB3.out.alloc hz3 _).trans hb5); clear hown5 hb5 hg5)
              go_roundw
              case rel => exact ⟨k + n, true, A5, c5, d ++ [(n, false)], by rw [List.length_append]; rfl, by go_num, rfl, by omega, HD2, Lib.hid (by rw [List.length_append]; exact HO5.out), HB5⟩
              case measure => show m - ((k : Int) + (n : Int)).toNat < m - ((k : Int)).toNat; omega
          | false =>
            cases dd
            · -- false false false
              go_wp2_with fail
              refine (rrun_any k wr HXW.out hm (by omega)).mono ?_
              rw [HLR.out]
              rintro e w2 ⟨rfl, hb2⟩
              have HB2 := Lib.hid (HB.out.trans (hb2.mono HB.out.size))
              have HT2 := Lib.hid (show RangesAt w2 w2.heap.size At nt ct t from RowAt.mono (RowAt.below HT.out HB2.out) HB2.out.size)
              have HQ2 := Lib.hid hb2
              clear hb2
              go_wp2_with fail
              refine (rnext_any kind ov (strOf l) w2 HT2.out (by rw [strOf_size]; omega) HN.out).mono ?_
              rintro e w3 ⟨rfl, hb3⟩
              have HB3 := Lib.hid (HB2.out.trans (hb3.mono HB2.out.size))
              have HO3 := Lib.hid (own_kept HO.out (HQ2.out.trans (hb3.mono HQ2.out.size)) (Nat.le_refl _))
              have hz3 := HB3.out.size
              clear hb3
              go_wp2_with (at_builtin; refine wpList_append_row rfl (.tmp 67) (.tmp 72) _ rfl w.heap.size 44 _ 2 16 Tryd.underlying41 infoPiece rfl (by decide) (.slice A1 d.length c1) d.length (pieceV d) rfl (HO3.out.alloc _) (w3.heap.size + 1) (some ⟨w3.heap.size, 0, none⟩) 1 1 [.int .i64 (n : Int), .bool false] rfl (piece_blk w3 _ _ _ _ rfl) (one_piece _ _) (d.length + 1) rfl (pieceV (d ++ [(n, false)])) (pieceV_snoc d n false).symm (len_1000 HCL.out) (bytes_1000 HCL.out) (by simp; omega) ?_; intro A5 c5 w5 hown5 hb5 hg5; have HO5 := Lib.hid hown5; have HB5 := Lib.hid ((HB3.out.alloc hz3 _).trans hb5); clear hown5 hb5 hg5)
              go_roundw
              case rel => exact ⟨k + n, true, A5, c5, d ++ [(n, false)], by rw [List.length_append]; rfl, by go_num, rfl, by omega, HD2, Lib.hid (by rw [List.length_append]; exact HO5.out), HB5⟩
              case measure => show m - ((k : Int) + (n : Int)).toNat < m - ((k : Int)).toNat; omega
            · -- false false true
              go_wp2_with fail
              refine (rrun_any k wr HXW.out hm (by omega)).mono ?_
              rw [HLR.out]
              rintro e w2 ⟨rfl, hb2⟩
              have HB2 := Lib.hid (HB.out.trans (hb2.mono HB.out.size))
              have HT2 := Lib.hid (show RangesAt w2 w2.heap.size At nt ct t from RowAt.mono (RowAt.below HT.out HB2.out) HB2.out.size)
              have HQ2 := Lib.hid hb2
              clear hb2
              go_wp2_with fail
              refine (rnext_any kind ov (strOf l) w2 HT2.out (by rw [strOf_size]; omega) HN.out).mono ?_
              rintro e w3 ⟨rfl, hb3⟩
              have HB3 := Lib.hid (HB2.out.trans (hb3.mono HB2.out.size))
              have HO3 := Lib.hid (own_kept HO.out (HQ2.out.trans (hb3.mono HQ2.out.size)) (Nat.le_refl _))
              have hz3 := HB3.out.size
              clear hb3
              go_wp2_with (at_builtin; refine wpList_append_row rfl (.tmp 67) (.tmp 72) _ rfl w.heap.size 44 _ 2 16 Tryd.underlying41 infoPiece rfl (by decide) (.slice A1 d.length c1) d.length (pieceV d) rfl (HO3.out.alloc _) (w3.heap.size + 1) (some ⟨w3.heap.size, 0, none⟩) 1 1 [.int .i64 (n : Int), .bool true] rfl (piece_blk w3 _ _ _ _ rfl) (one_piece _ _) (d.length + 1) rfl (pieceV (d ++ [(n, true)])) (pieceV_snoc d n true).symm (len_1000 HCL.out) (bytes_1000 HCL.out) (by simp; omega) ?_; intro A5 c5 w5 hown5 hb5 hg5; have HO5 := Lib.hid hown5; have HB5 := Lib.hid ((HB3.out.alloc hz3 _).trans hb5); clear hown5 hb5 hg5)
              go_roundw
              case rel => exact ⟨k + n, false, A5, c5, d ++ [(n, true)], by rw [List.length_append]; rfl, by go_num, rfl, by omega, HD2, Lib.hid (by rw [List.length_append]; exact HO5.out), HB5⟩
              case measure => show m - ((k : Int) + (n : Int)).toNat < m - ((k : Int)).toNat; omega
    · have hke : text.drop k = [] := List.drop_of_length_le (by rw [← HML.out]; omega)
      have HE := Lib.hid (show d = splitL kind t text fin from by
        have := HD.out
        unfold DocS at this
        rw [hke] at this
        rw [← HSP.out, ← this]; simp [docF])
      clear hke
      go_wp2_with fail
      go_ret
      exact ⟨A1, c1, by rw [← HE.out]; rfl, by rw [← HE.out]; exact RowAt.of_own HO.out, HB.out⟩
set_option maxHeartbeats 1000000 in
theorem rsplit_none {At A : Option Addr} {nt ct m c : Nat} {t : List Rg} (kind : Int) (fin : Bool) (w : World) (ht : RangesAt w w.heap.size At nt ct t) (hx : kind < 0 ∨ 3 < kind ∨ mayT t = false) :
    Calls Tryd.prog 30 #[.int .i64 kind, .slice At nt ct, .slice A m c, .bool fin] w fun e w' => ∃ A' c', e = .returned (.slice A' 0 c') ∧ PiecesAt w' w'.heap.size A' 0 c' [] ∧ Below w.heap.size w w' := by
  have hal : Below w.heap.size w (w.alloc (.cells #[] 44)) := (Below.refl _ w).alloc (Nat.le_refl _) _
  have HAL := Lib.hid hal
  have HTA := Lib.hid (show RangesAt (w.alloc (.cells #[] 44)) (w.alloc (.cells #[] 44)).heap.size At nt ct t from RowAt.mono (RowAt.below ht hal) hal.size)
  have HO := Lib.hid (own_empty w 44 2)
  clear ht hal
  by_cases h1 : kind < 0
  · have hkd0 : decide (kind < 0) = true := decide_eq_true h1
    clear hx
    go_enter Tryd.func30, Tryd.ntmps30
    go_wp2_with fail
    go_ret
    exact ⟨_, _, rfl, RowAt.of_own HO.out, HAL.out⟩
  · have hkd0 : decide (kind < 0) = false := decide_eq_false h1
    by_cases h2 : 3 < kind
    · have hkd3 : decide (3 < kind) = true := decide_eq_true h2
      clear hx
      go_enter Tryd.func30, Tryd.ntmps30
      go_wp2_with fail
      go_ret
      exact ⟨_, _, rfl, RowAt.of_own HO.out, HAL.out⟩
    · have hkd3 : decide (3 < kind) = false := decide_eq_false h2
      have HV := Lib.hid (show mayT t = false from by rcases hx with h | h | h; exact absurd h h1; exact absurd h h2; exact h)
      clear hx
      go_enter Tryd.func30, Tryd.ntmps30
      go_wp2_with fail
      refine (rmay_as _ HTA.out HV).mono ?_
      rintro e w1 ⟨rfl, hb1⟩
      have HB1 := Lib.hid (HAL.out.trans (hb1.mono HAL.out.size))
      have HO1 := Lib.hid (own_kept HO.out hb1 (Nat.le_refl _))
      clear hb1
      go_wp2_with fail
      go_ret
      exact ⟨_, _, rfl, RowAt.of_own HO1.out, HB1.out⟩
/-- The document's Split: the same pieces. -/
theorem rsplit_as {At A : Option Addr} {nt ct m c : Nat} {t : List Rg} {text : List Int} {p : List (Nat × Bool)} (kind : Int) (fin : Bool) (w : World) (ht : RangesAt w w.heap.size At nt ct t) (hx : IntsAt w w.heap.size A m c text) (hm : m ≤ 1000) (hp : splitL kind t text fin = p) :
    Calls Tryd.prog 30 #[.int .i64 kind, .slice At nt ct, .slice A m c, .bool fin] w fun e w' => ∃ A' c', e = .returned (.slice A' p.length c') ∧ PiecesAt w' w'.heap.size A' p.length c' p ∧ Below w.heap.size w w' := by
  subst hp
  by_cases hb : kind < 0 ∨ 3 < kind ∨ mayT t = false
  · have : splitL kind t text fin = [] := by unfold splitL; rw [if_pos hb]
    rw [this]
    exact rsplit_none kind fin w ht hb
  · have hv : mayT t = true := by
      cases h : mayT t with
      | true => rfl
      | false => exact absurd (.inr (.inr h)) hb
    exact rsplit_in kind fin w ht hx hm (by omega) (by omega) hv
set_option maxRecDepth 100000 in
set_option maxHeartbeats 1000000 in
theorem rdecided_any {At A : Option Addr} {nt ct m c : Nat} {t : List Rg} {text : List Int} (kind : Int) (w : World) (ht : RangesAt w w.heap.size At nt ct t) (hx : IntsAt w w.heap.size A m c text) (hm : m ≤ 1000) :
    Calls Tryd.prog 32 #[.int .i64 kind, .slice At nt ct, .slice A m c] w fun e w' => e = .returned (.int .i64 (decL (splitL kind t text false) : Int)) ∧ Below w.heap.size w w' := by
  obtain ⟨p, hp⟩ : ∃ p, splitL kind t text false = p := ⟨_, rfl⟩
  have hf := split_few (kind := kind) (t := t) (text := text) (fin := false)
  have hml := hx.len
  rw [hp] at hf ⊢
  have HP := Lib.hid hp
  have HT := Lib.hid ht
  have HX := Lib.hid hx
  have HF := Lib.hid (show p.length ≤ 1000 ∧ decL p ≤ 1000 from by omega)
  clear hp ht hx hf hml
  go_enter Tryd.func32, Tryd.ntmps32
  go_wp2_with fail
  refine (rsplit_as kind false w HT.out HX.out hm HP.out).mono ?_
  rintro e w1 ⟨A1, c1, rfl, hpa, hb1⟩
  have HPA := Lib.hid hpa
  have HB1 := Lib.hid hb1
  have hcn := hpa.2.1
  have hcm := hpa.2.2.1
  unfold maxLen at hcm
  clear hpa hb1
  go_wp2_with fail
  go_loopw [7, 16] (fun s i wr => ∃ k : Nat, i = .int .i64 k ∧ k ≤ p.length ∧ s = .int .i64 (decL (p.take k) : Int) ∧ Hid (Below w1.heap.size w1 wr)) (fun _ i _ => p.length - (intOf i).toNat)
  case atStart => exact ⟨0, rfl, Nat.zero_le _, rfl, Lib.hid (Below.refl _ _)⟩
  case round =>
    obtain ⟨k, rfl, hk, rfl, HW⟩ := hrel
    by_cases hlt : k < p.length
    · obtain ⟨b, off, rfl, hb, hc⟩ := HPA.out.cells (by omega)
      obtain ⟨⟨a, d⟩, hx1⟩ : ∃ x, p[k]'hlt = x := ⟨_, rfl⟩
      have c1 : wr.cell? ⟨b, off + k * 2, none⟩ = some (.int .i64 (a : Int)) := by rw [HW.out.cell (p := ⟨b, off + k * 2, none⟩) hb, (hc k hlt).1, hx1]
      have c2 : wr.cell? ⟨b, off + k * 2 + 1, none⟩ = some (.bool d) := by rw [HW.out.cell (p := ⟨b, off + k * 2 + 1, none⟩) hb]; have := (hc k hlt).2; rw [hx1] at this; exact this
      have hdt := decL_take p k hlt
      rw [hx1] at hdt
      have hdl := decL_take_le p (k + 1)
      have hd1 : decL (p.take k) ≤ 1000 := by have := decL_take_le p k; have := HF.out; omega
      have ha : d = true → a ≤ 1000 := fun e => by rw [e, if_pos rfl] at hdt; have := HF.out; omega
      have HDT := Lib.hid hdt
      clear hc hx1 hdt hdl
      cases d with
      | true =>
        have ha1 := ha rfl
        clear ha
        go_wp2_with fail
        go_roundw
        case rel => exact ⟨k + 1, by go_num, by omega, by rw [HDT.out, if_pos rfl]; go_num, HW⟩
        case measure => show p.length - ((k : Int) + 1).toNat < p.length - ((k : Int)).toNat; omega
      | false =>
        clear ha
        go_wp2_with fail
        go_roundw
        case rel => exact ⟨k + 1, by go_num, by omega, by rw [HDT.out, if_neg (by simp)]; rfl, HW⟩
        case measure => show p.length - ((k : Int) + 1).toNat < p.length - ((k : Int)).toNat; omega
    · have HE := Lib.hid (show p.take k = p from List.take_of_length_le (by omega))
      have hke : k = p.length := by omega
      have HKE := Lib.hid hke
      clear hke
      go_wp2_with fail
      go_ret
      exact ⟨by rw [HE.out]; rfl, HB1.out.trans (HW.out.mono HB1.out.size)⟩
end Go.Proofs.YtkiggpbmlkfdpaaDoor
