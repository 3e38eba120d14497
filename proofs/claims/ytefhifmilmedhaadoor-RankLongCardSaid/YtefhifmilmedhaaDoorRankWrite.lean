/- The walk of rank.Write: the closure, slices' IndexFunc and ContainsFunc, the buffer. -/
import Derived.Test.YtefhifmilmedhaaDoorRankWLaw
import Derived.Test.YtefhifmilmedhaaDoorRankSame
import Derived.Test.YtefhifmilmedhaaDoorLineDig
import Derived.Test.YtefhifmilmedhaaDoorB64Write
import Derived.Test.YtefhifmilmedhaaDoorBuf
import Derived.Test.YtefhifmilmedhaaDoorConv
import Derived.Lib.ItoaLen
namespace Go.Proofs.YtefhifmilmedhaaDoor
open Go.RowKit
set_option linter.unusedVariables false

set_option maxHeartbeats 1000000 in
theorem wrong_any (s : List UInt8) (r : Int) (w : World) :
    Calls Tryd.prog 39 #[.agg #[.string (strOf s), .int .i64 r]] w fun e w' => e = .returned (.bool (!mayW (s, r))) ∧ Below w.heap.size w w' := by
  have hsz : (strOf s).size = s.length := rfl
  have HB := Lib.hid (show Below w.heap.size w (w.alloc (.cells #[.string (strOf s), .int .i64 r] 40)) from (Below.refl _ w).alloc (Nat.le_refl _) _)
  by_cases h0 : s = []
  · have h1 := str_yes h0
    have HM := Lib.hid (show mayW (s, r) = false from by unfold mayW; exact decide_eq_false (by rw [h0]; simp))
    clear h0
    go_enter Tryd.func39, Tryd.ntmps39
    go_wp2_with fail
    go_ret
    exact ⟨by rw [HM.out]; rfl, HB.out⟩
  · have h1 := str_no h0
    have h1' := str_no' h0
    have hp : 1 ≤ s.length := by have := List.length_pos_iff.2 h0; omega
    clear h0
    by_cases h2 : 64 < s.length
    · have HM := Lib.hid (show mayW (s, r) = false from by unfold mayW; exact decide_eq_false (by simp only; omega))
      have h2' : decide ((64 : Int) < (s.length : Int)) = true := decide_eq_true (by omega)
      have h2'' : (64 : Int) < (s.length : Int) := by omega
      go_enter Tryd.func39, Tryd.ntmps39
      go_wp2_with fail
      go_ret
      exact ⟨by rw [HM.out]; rfl, HB.out⟩
    · have h2'' : ¬ (64 : Int) < (s.length : Int) := by omega
      by_cases h3 : r < 0
      · have HM := Lib.hid (show mayW (s, r) = false from by unfold mayW; exact decide_eq_false (by simp only; omega))
        have h3' : decide (r < 0) = true := decide_eq_true h3
        go_enter Tryd.func39, Tryd.ntmps39
        go_wp2_with fail
        go_ret
        exact ⟨by rw [HM.out]; rfl, HB.out⟩
      · have h3' : decide (r < 0) = false := decide_eq_false h3
        by_cases h4 : 9999999 < r
        · have HM := Lib.hid (show mayW (s, r) = false from by unfold mayW; exact decide_eq_false (by simp only; omega))
          have h4' : decide (9999999 < r) = true := decide_eq_true h4
          go_enter Tryd.func39, Tryd.ntmps39
          go_wp2_with fail
          go_ret
          exact ⟨by rw [HM.out]; rfl, HB.out⟩
        · have HM := Lib.hid (show mayW (s, r) = true from by unfold mayW; exact decide_eq_true (by simp only; omega))
          have h4' : decide (9999999 < r) = false := decide_eq_false h4
          go_enter Tryd.func39, Tryd.ntmps39
          go_wp2_with fail
          go_ret
          exact ⟨by rw [HM.out]; rfl, HB.out⟩
theorem all_take {l : List (List UInt8 × Int)} {k : Nat} (h : k < l.length) : (l.take (k + 1)).all mayW = ((l.take k).all mayW && mayW l[k]) := by
  rw [List.take_add_one, List.getElem?_eq_getElem h, List.all_append]
  simp
theorem all_false {l : List (List UInt8 × Int)} {k : Nat} (h : (l.take k).all mayW = false) : l.all mayW = false := by
  cases hx : l.all mayW with
  | false => rfl
  | true =>
    exfalso
    have : (l.take k).all mayW = true := by
      rw [List.all_eq_true] at hx ⊢
      exact fun s hs => hx s (List.mem_of_mem_take hs)
    rw [this] at h; cases h
set_option maxRecDepth 100000 in
set_option maxHeartbeats 1000000 in
theorem index_any {B n c : Nat} {A : Option Addr} {l : List (List UInt8 × Int)} (w : World) (h : RowAt w B 2 A n c (rowsI l)) (hB : B ≤ w.heap.size) :
    Calls Tryd.prog 56 #[.slice A n c, .func (.func 39) #[] #[]] w fun e w' => ∃ k : Int, e = .returned (.int .i64 k) ∧ Hid (decide (0 ≤ k) = !l.all mayW) ∧ Below w.heap.size w w' := by
  have hcap := h.2.2.1
  have hcn := h.2.1
  unfold maxLen at hcap
  have HH := Lib.hid h
  have HL := Lib.hid (rows_len h)
  clear h
  go_enter Tryd.func56, Tryd.ntmps56
  go_wp2_with fail
  go_loopw [8] (fun i wr => ∃ k : Nat, k ≤ n ∧ i = .int .i64 k ∧ Hid ((l.take k).all mayW = true) ∧ Hid (Below w.heap.size w wr)) (fun i _ => n - (intOf i).toNat)
  case atStart => exact ⟨0, Nat.zero_le _, rfl, Lib.hid rfl, Lib.hid (Below.refl _ _)⟩
  case round =>
    obtain ⟨k, hk, rfl, HK, HW⟩ := hrel
    by_cases hlt : k < n
    · obtain ⟨b, off, rfl, hbl, hc⟩ := rows_cells HH.out (by omega)
      have hkl : k < l.length := by rw [← HL.out]; exact hlt
      obtain ⟨⟨s, r⟩, hx⟩ : ∃ x, l[k]'hkl = x := ⟨_, rfl⟩
      have c1 : wr.cell? ⟨b, off + k * 2, none⟩ = some (.string (strOf s)) := by rw [HW.out.cell (p := ⟨b, off + k * 2, none⟩) (by show b < _; omega), (hc k hkl).1, hx]
      have c2 : wr.cell? ⟨b, off + k * 2 + 1, none⟩ = some (.int .i64 r) := by rw [HW.out.cell (p := ⟨b, off + k * 2 + 1, none⟩) (by show b < _; omega)]; have := (hc k hkl).2; rw [hx] at this; exact this
      have HAT := Lib.hid (show (l.take (k + 1)).all mayW = mayW (s, r) from by rw [all_take hkl, HK.out, hx]; rfl)
      clear hc hx
      cases hm : mayW (s, r) with
      | false =>
        have HM := Lib.hid hm
        clear hm
        go_wp2_with fail
        refine (wrong_any s r wr).mono ?_
        rw [HM.out]
        rintro e w2 ⟨rfl, hb2⟩
        have HW2 := Lib.hid (HW.out.trans (hb2.mono HW.out.size))
        clear hb2
        go_wp2_with fail
        go_ret
        exact ⟨k, rfl, Lib.hid (by rw [all_false (k := k + 1) (by rw [HAT.out, HM.out])]; exact decide_eq_true (by omega)), HW2.out⟩
      | true =>
        have HM := Lib.hid hm
        clear hm
        go_wp2_with fail
        refine (wrong_any s r wr).mono ?_
        rw [HM.out]
        rintro e w2 ⟨rfl, hb2⟩
        have HW2 := Lib.hid (HW.out.trans (hb2.mono HW.out.size))
        clear hb2
        go_wp2_with fail
        go_roundw
        case rel => exact ⟨k + 1, by omega, by go_num, Lib.hid (by rw [HAT.out, HM.out]), HW2⟩
        case measure => show n - ((k : Int) + 1).toNat < n - ((k : Int)).toNat; omega
    · have hke : k = n := by omega
      have HALL := Lib.hid (show l.all mayW = true from by have := HK.out; rw [List.take_of_length_le (by rw [← HL.out]; omega)] at this; exact this)
      have HKE := Lib.hid hke
      clear hke
      go_wp2_with fail
      go_ret
      exact ⟨-1, rfl, Lib.hid (by rw [HALL.out]; rfl), HW.out⟩
set_option maxHeartbeats 1000000 in
theorem contains_any {B n c : Nat} {A : Option Addr} {l : List (List UInt8 × Int)} {o : Bool} (w : World) (h : RowAt w B 2 A n c (rowsI l)) (hB : B ≤ w.heap.size) (ho : Hid (l.all mayW = o)) :
    Calls Tryd.prog 40 #[.slice A n c, .func (.func 39) #[] #[]] w fun e w' => e = .returned (.bool (!o)) ∧ Below w.heap.size w w' := by
  have HH := Lib.hid h
  clear h
  go_enter Tryd.func40, Tryd.ntmps40
  go_wp2_with fail
  refine (index_any w HH.out hB).mono ?_
  rintro e w2 ⟨k, rfl, hk, hb2⟩
  have HK := hk.out
  rw [ho.out] at HK
  clear hk
  have HB2 := Lib.hid hb2
  clear hb2
  cases o with
  | true =>
    have h0 : decide (0 ≤ k) = false := HK
    clear HK
    go_wp2_with fail
    go_ret
    exact ⟨rfl, HB2.out⟩
  | false =>
    have h0 : decide (0 ≤ k) = true := HK
    clear HK
    go_wp2_with fail
    go_ret
    exact ⟨rfl, HB2.out⟩
theorem row_len {x : List UInt8 × Int} (h : mayW x = true) : (enc64 x.1).length ≤ 100 ∧ (Lib.itoa x.2).length ≤ 21 := by
  have hm := mayW_yes h
  refine ⟨by rw [enc64_len]; omega, Lib.itoa_length_le _ (by omega) (by omega)⟩
theorem file_len : ∀ {l : List (List UInt8 × Int)}, l.all mayW = true → (fileW l).length ≤ l.length * 130
  | [], _ => Nat.le_refl _
  | x :: r, h => by
    rw [List.all_cons, Bool.and_eq_true] at h
    have h1 := row_len h.1
    have h2 := file_len h.2
    rw [fileW, rowW]
    simp only [List.length_append, List.length_cons] at *
    omega
def WrTo (l : List (List UInt8 × Int)) (w : World) (e : Ending) (w' : World) : Prop :=
  (okW l = true ∧ ∃ v, e = .returned (.tuple #[v, .bool true]) ∧ w'.ownsRow w.heap.size 5 1 v (fileW l).length (bytesV (fileW l)) ∧ Below w.heap.size w w') ∨
  (okW l = false ∧ e = .returned (.tuple #[.slice none 0 0, .bool false]) ∧ Below w.heap.size w w')
set_option maxRecDepth 100000 in
set_option maxHeartbeats 4000000 in
theorem rankWrite_any {n c : Nat} {A : Option Addr} {l : List (List UInt8 × Int)} (w : World) (ht : Tab10 w) (h : RowAt w w.heap.size 2 A n c (rowsI l)) :
    Calls Tryd.prog 24 #[.slice A n c] w (WrTo l w) := by
  have hcap := h.2.2.1
  have hcn := h.2.1
  unfold maxLen at hcap
  have HH := Lib.hid h
  have HL := Lib.hid (rows_len h)
  have HT := Lib.hid ht
  clear h ht
  by_cases hbig : 4096 < n
  · have hb' : decide ((4096 : Int) < (n : Int)) = true := decide_eq_true (by omega)
    have HNO := Lib.hid (show okW l = false from by unfold okW; rw [decide_eq_false (by rw [← HL.out]; omega)]; rfl)
    go_enter Tryd.func24, Tryd.ntmps24
    go_wp2_with fail
    go_ret2
    exact .inr ⟨HNO.out, rfl, Below.refl _ _⟩
  · have hb' : decide ((4096 : Int) < (n : Int)) = false := decide_eq_false (by omega)
    obtain ⟨o, ho⟩ : ∃ o, l.all mayW = o := ⟨_, rfl⟩
    have HO := Lib.hid ho
    clear ho
    go_enter Tryd.func24, Tryd.ntmps24
    go_wp2_with fail
    refine (contains_any w HH.out (Nat.le_refl _) HO).mono ?_
    rintro e w1 ⟨rfl, hb1⟩
    have HB1 := Lib.hid hb1
    clear hb1
    cases o with
    | false =>
      have HNO := Lib.hid (show okW l = false from by unfold okW; rw [HO.out]; simp)
      go_wp2_with fail
      go_ret2
      exact .inr ⟨HNO.out, rfl, HB1.out⟩
    | true =>
      have HYES := Lib.hid (show okW l = true from by unfold okW; rw [HO.out, decide_eq_true (by rw [← HL.out]; omega)]; rfl)
      obtain ⟨g, hg⟩ : ∃ g, w1.heap.size = g := ⟨_, rfl⟩
      have hfr := Lib.fresh_isBuffer 78 5 w1
      rw [hg] at hfr
      have HFR := Lib.hid hfr
      have HG := Lib.hid (show w.heap.size ≤ g from by rw [← hg]; exact HB1.out.size)
      have HBA := Lib.hid (show Below w.heap.size w (w1.alloc (.cells #[.slice none 0 0, .int .i64 0, .int .i8 0] 78)) from HB1.out.alloc HB1.out.size _)
      have HGZ := Lib.hid (show g ≤ (w1.alloc (.cells #[.slice none 0 0, .int .i64 0, .int .i8 0] 78)).heap.size from by rw [World.size_alloc, hg]; omega)
      clear hfr
      go_wp2_with fail
      go_loopw [18] (fun i wr => ∃ k : Nat, k ≤ n ∧ i = .int .i64 k ∧ g ≤ wr.heap.size ∧ Hid (Buf g (fileW (l.take k)) wr) ∧ Hid (Below w.heap.size w wr)) (fun i _ => n - (intOf i).toNat)
      case atStart => exact ⟨0, Nat.zero_le _, rfl, HGZ.out, HFR, HBA⟩
      case round =>
        obtain ⟨k, hk, rfl, hgz, HBU, HW⟩ := hrel
        by_cases hlt : k < n
        · obtain ⟨b, off, rfl, hbl, hc⟩ := rows_cells HH.out (by omega)
          have hkl : k < l.length := by rw [← HL.out]; exact hlt
          obtain ⟨⟨s, r⟩, hx⟩ : ∃ x, l[k]'hkl = x := ⟨_, rfl⟩
          have c1 : wr.cell? ⟨b, off + k * 2, none⟩ = some (.string (strOf s)) := by rw [HW.out.cell (p := ⟨b, off + k * 2, none⟩) hbl, (hc k hkl).1, hx]
          have c2 : wr.cell? ⟨b, off + k * 2 + 1, none⟩ = some (.int .i64 r) := by rw [HW.out.cell (p := ⟨b, off + k * 2 + 1, none⟩) hbl]; have := (hc k hkl).2; rw [hx] at this; exact this
          have hmw : mayW (s, r) = true := by have := List.all_eq_true.1 HO.out (l[k]'hkl) (List.getElem_mem _); rw [hx] at this; exact this
          have HMW := Lib.hid (mayW_yes hmw)
          have HRL := Lib.hid (row_len hmw)
          have HFL := Lib.hid (show (fileW (l.take k)).length ≤ 600000 from by
            have h1 := file_len (l := l.take k) (by rw [List.all_eq_true]; exact fun x hx => List.all_eq_true.1 HO.out x (List.mem_of_mem_take hx))
            rw [List.length_take] at h1; omega)
          have HFS := Lib.hid (show fileW (l.take (k + 1)) = fileW (l.take k) ++ (enc64 s ++ 32 :: Lib.itoa r) ++ [10] from by
            rw [List.take_add_one, List.getElem?_eq_getElem hkl, hx]
            exact file_snoc _ _)
          clear hc hx hmw
          have hwr := HW.out.size
          obtain ⟨cv, w2, hcv, hbt, hz2, hb2⟩ := run_bytes_new (P := Tryd.prog) (wr.alloc (.cells #[.string (strOf s), .int .i64 r] 40)) 9 22 5 (strOf s) Tryd.underlying9 Tryd.underlying22 Tryd.underlying5 (by rw [strOf_size]; unfold maxLen; have := HMW.out; (try simp only at this); omega)
          have hbA : Below wr.heap.size wr (wr.alloc (.cells #[.string (strOf s), .int .i64 r] 40)) := (Below.refl _ wr).alloc (Nat.le_refl _) _
          rw [World.size_alloc] at hbt hz2 hb2
          have HW2 := Lib.hid (hbA.trans (hb2.mono (Nat.le_succ _)))
          have HX2 := Lib.hid (show w2.heap[wr.heap.size]? = some (.cells #[.string (strOf s), .int .i64 r] 40 (0, 0)) from (hb2.block wr.heap.size (Nat.lt_succ_self _)).trans (heap_alloc_new wr _))
          have HBT := Lib.hid (show BytesAt w2 w2.heap.size (some ⟨wr.heap.size + 1, 0, none⟩) (strOf s).size cv s from by rw [hz2]; exact hbt)
          have HB2 := Lib.hid (show Buf g (fileW (l.take k)) w2 from HBU.out.keep HW2.out)
          clear hbt hz2 hb2 hbA
          go_wp2_with fail
          refine (encode64_any w2 HBT.out (by rw [strOf_size]; have := HMW.out; (try simp only at this); omega)).mono ?_
          rintro e w3 ⟨rfl, hb3⟩
          have HW3 := Lib.hid (HW2.out.trans (hb3.mono HW2.out.size))
          have HX3 := Lib.hid ((hb3.block wr.heap.size (Array.getElem?_eq_some_iff.1 HX2.out).1).trans HX2.out)
          have HB3 := Lib.hid (HB2.out.keep hb3)
          clear hb3 hcv HBT
          rw [show (⟨(enc64 s).toArray⟩ : ByteArray) = strOf (enc64 s) from rfl]
          go_wp2_with fail
          refine (buf_string (enc64 s) w3 HB3.out (by have := HFL.out; have := HRL.out.1; (try simp only at *); omega)).mono ?_
          rintro e w4 ⟨rfl, hB4, hb4, hk4⟩
          have hgw : g ≠ wr.heap.size := fun e => by have := HBU.out.lt; omega
          have HX4 := Lib.hid (hk4 _ _ HX3.out (fun e => by injection e with e; exact hgw e.symm) (fun c fz e => by injection e with _ e; exact absurd e (by decide)))
          have HB4 := Lib.hid hB4
          have HG4 := Lib.hid ((show Below g wr w3 from HW3.out.mono (Nat.le_of_lt HBU.out.lt)).trans hb4)
          clear hB4 hb4 hk4
          go_wp2_with fail
          refine (buf_byte 32 32 rfl w4 HB4.out (by have := HFL.out; have := HRL.out.1; rw [List.length_append]; (try simp only at *); omega)).mono ?_
          rintro e w5 ⟨rfl, hB5, hb5, hk5⟩
          have hX5 := hk5 _ _ HX4.out (fun e => by injection e with e; exact hgw e.symm) (fun c fz e => by injection e with _ e; exact absurd e (by decide))
          have HX5 := Lib.hid hX5
          have hc5 : w5.cell? ⟨wr.heap.size, 1, none⟩ = some (.int .i64 r) := Lib.cell_of_heap hX5 1
          have HB5 := Lib.hid hB5
          have HG5 := Lib.hid (HG4.out.trans hb5)
          have HT5 := Lib.hid (show Tab10 w5 from tab_later HT.out (HW.out.trans (HG5.out.mono HG.out)))
          clear hB5 hb5 hk5 hX5
          go_wp2_with fail
          refine (digits_any r (by have := HMW.out; (try simp only at this); omega) (by have := HMW.out; (try simp only at this); omega) w5 HT5.out).mono ?_
          rintro e w6 ⟨rfl, hb6⟩
          have HB6 := Lib.hid (HB5.out.keep hb6)
          have HG6 := Lib.hid (HG5.out.trans (hb6.mono (Nat.le_of_lt HB5.out.lt)))
          clear hb6 hc5
          go_wp2_with fail
          refine (buf_string (Lib.itoa r) w6 HB6.out (by have := HFL.out; have := HRL.out; rw [List.length_append, List.length_append]; simp only [List.length_cons, List.length_nil] at *; omega)).mono ?_
          rintro e w7 ⟨rfl, hB7, hb7, hk7⟩
          have HB7 := Lib.hid hB7
          have HG7 := Lib.hid (HG6.out.trans hb7)
          clear hB7 hb7 hk7
          go_wp2_with fail
          refine (buf_byte 10 10 rfl w7 HB7.out (by have := HFL.out; have := HRL.out; rw [List.length_append, List.length_append, List.length_append]; simp only [List.length_cons, List.length_nil] at *; omega)).mono ?_
          rintro e w8 ⟨rfl, hB8, hb8, hk8⟩
          have HB8 := Lib.hid (show Buf g (fileW (l.take (k + 1))) w8 from by rw [HFS.out]; simpa using hB8)
          have HG8 := Lib.hid (HG7.out.trans hb8)
          have hz8 := HG8.out.size
          clear hB8 hb8 hk8
          go_wp2_with fail
          go_roundw
          case rel => exact ⟨k + 1, by omega, by go_num, by omega, HB8, Lib.hid (HW.out.trans (HG8.out.mono HG.out))⟩
          case measure => show n - ((k : Int) + 1).toNat < n - ((k : Int)).toNat; omega
        · have hke : k = n := by omega
          have HKE := Lib.hid hke
          have HBF := Lib.hid (show Buf g (fileW l) wr from by have := HBU.out; rw [List.take_of_length_le (by rw [← HL.out]; omega)] at this; exact this)
          clear hke
          go_wp2_with fail
          refine (Tryd.Buffer_Bytes g g (bytesV (fileW l)) wr HBF.out).mono ?_
          rintro e w9 ⟨v, rfl, ho, q, rfl⟩
          have HOW := Lib.hid ho
          have HB9 := Lib.hid (below_dw HW.out q)
          clear ho
          go_wp2_with fail
          go_ret2
          exact .inl ⟨HYES.out, v, rfl, by have := HOW.out; rw [length_bytesV] at this; exact World.ownsRow.mono this HG.out, HB9.out⟩
/-- rank.Write, told for either answer. -/
theorem rankWrite_yes {n c : Nat} {A : Option Addr} {l : List (List UInt8 × Int)} {F : List UInt8} {m : Nat} (w : World) (ht : Tab10 w) (h : RowAt w w.heap.size 2 A n c (rowsI l)) (ho : Hid (okW l = true)) (hF : Hid (fileW l = F)) (hm : Hid (F.length = m)) :
    Calls Tryd.prog 24 #[.slice A n c] w fun e w' => ∃ A' c', e = .returned (.tuple #[.slice A' m c', .bool true]) ∧ BytesAt w' w'.heap.size A' m c' F ∧ Below w.heap.size w w' := by
  obtain rfl := hF.out
  obtain rfl := hm.out
  refine (rankWrite_any w ht h).mono ?_
  rintro e w' (⟨_, v, rfl, hw, hbl⟩ | ⟨h1, _, _⟩)
  · obtain ⟨A', c', rfl⟩ := own_form hw
    exact ⟨A', c', rfl, RowAt.of_own hw, hbl⟩
  · rw [ho.out] at h1; cases h1
theorem rankWrite_no {n c : Nat} {A : Option Addr} {l : List (List UInt8 × Int)} (w : World) (ht : Tab10 w) (h : RowAt w w.heap.size 2 A n c (rowsI l)) (ho : Hid (okW l = false)) :
    Calls Tryd.prog 24 #[.slice A n c] w fun e w' => e = .returned (.tuple #[.slice none 0 0, .bool false]) ∧ Below w.heap.size w w' := by
  refine (rankWrite_any w ht h).mono ?_
  rintro e w' (⟨h1, _⟩ | ⟨_, h2, h3⟩)
  · rw [ho.out] at h1; cases h1
  · exact ⟨h2, h3⟩
end Go.Proofs.YtefhifmilmedhaaDoor
