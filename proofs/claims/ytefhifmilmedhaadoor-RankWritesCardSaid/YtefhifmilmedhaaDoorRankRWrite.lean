/- The walks of the document's May and Write of rows. -/
import Derived.Test.YtefhifmilmedhaaDoorRankRMay
import Derived.Test.YtefhifmilmedhaaDoorRankWLaw
import Derived.Test.YtefhifmilmedhaaDoorRankSame
import Derived.Test.YtefhifmilmedhaaDoorLineRDig
import Derived.Test.YtefhifmilmedhaaDoorB64RefE
import Derived.BigQuiet
import Derived.Deep.QuietTactic
import Derived.Lib.ItoaLen
namespace Go.Proofs.YtefhifmilmedhaaDoor
open Go.RowKit
set_option linter.unusedVariables false

theorem row_lenR {x : List UInt8 × Int} (h : mayW x = true) : (enc64 x.1).length ≤ 100 ∧ (Lib.itoa x.2).length ≤ 21 := by
  have hm := mayW_yes h
  refine ⟨by rw [enc64_len]; omega, Lib.itoa_length_le _ (by omega) (by omega)⟩
theorem file_lenR : ∀ {l : List (List UInt8 × Int)}, l.all mayW = true → (fileW l).length ≤ l.length * 130
  | [], _ => Nat.le_refl _
  | x :: r, h => by
    rw [List.all_cons, Bool.and_eq_true] at h
    have h1 := row_lenR h.1
    have h2 := file_lenR h.2
    rw [fileW, rowW]
    simp only [List.length_append, List.length_cons] at *
    omega
theorem all_takeR {l : List (List UInt8 × Int)} {k : Nat} (h : k < l.length) : (l.take (k + 1)).all mayW = ((l.take k).all mayW && mayW l[k]) := by
  rw [List.take_add_one, List.getElem?_eq_getElem h, List.all_append]
  simp
theorem all_falseR {l : List (List UInt8 × Int)} {k : Nat} (h : (l.take k).all mayW = false) : l.all mayW = false := by
  cases hx : l.all mayW with
  | false => rfl
  | true =>
    exfalso
    have : (l.take k).all mayW = true := by
      rw [List.all_eq_true] at hx ⊢
      exact fun s hs => hx s (List.mem_of_mem_take hs)
    rw [this] at h; cases h
theorem row_text (F E D : List UInt8) : Value.string (strOf F ++ strOf E ++ ⟨#[32]⟩ ++ strOf D ++ ⟨#[10]⟩) = .string (strOf (F ++ (E ++ 32 :: D) ++ [10])) := by
  congr 1
  apply ByteArray.ext
  simp [strOf]
theorem below_dr {B : Nat} {a w : World} (h : Below B a w) (n : Nat) : Below B a (w.drewN n) := ⟨h.os, h.tape, h.output, h.size, h.block⟩
/-- What the document's Write answers. -/
def wrE (l : List (List UInt8 × Int)) : Ending := .returned (.tuple #[.string (strOf (if okW l = true then fileW l else [])), .bool (okW l)])
theorem wrE_no {l : List (List UInt8 × Int)} (h : okW l = false) : wrE l = .returned (.tuple #[.string ⟨#[]⟩, .bool false]) := by unfold wrE; rw [h]; rfl
theorem wrE_yes {l : List (List UInt8 × Int)} (h : okW l = true) : wrE l = .returned (.tuple #[.string (strOf (fileW l)), .bool true]) := by unfold wrE; rw [h, if_pos rfl]
set_option maxRecDepth 100000 in
set_option maxHeartbeats 4000000 in
theorem rrankWrite_any {n c : Nat} {A : Option Addr} {l : List (List UInt8 × Int)} (w : World) (h : RowAt w w.heap.size 2 A n c (rowsI l)) (hb : ∀ x ∈ l, x.1.length ≤ 1000000) :
    Calls Tryd.prog 25 #[.slice A n c] w fun e w' => e = wrE l ∧ Below w.heap.size w w' := by
  have hcap := h.2.2.1
  have hcn := h.2.1
  unfold maxLen at hcap
  have HH := Lib.hid h
  have HL := Lib.hid (rows_len h)
  have HBL := Lib.hid hb
  clear h hb
  by_cases hbig : 4096 < n
  · have hb' : decide ((4096 : Int) < (n : Int)) = true := decide_eq_true (by omega)
    have HNO := Lib.hid (show okW l = false from by unfold okW; rw [decide_eq_false (by rw [← HL.out]; omega)]; rfl)
    go_enter Tryd.func25, Tryd.ntmps25
    go_wp2_with fail
    go_ret2
    exact ⟨by rw [wrE_no HNO.out]; rfl, Below.refl _ _⟩
  · have hb' : decide ((4096 : Int) < (n : Int)) = false := decide_eq_false (by omega)
    go_enter Tryd.func25, Tryd.ntmps25
    go_wp2_with fail
    go_loopw [4, 11] (fun v i wr => ∃ (k : Nat) (F : List UInt8), v = .string (strOf F) ∧ i = .int .i64 k ∧ k ≤ n ∧ Hid (F = fileW (l.take k)) ∧ Hid ((l.take k).all mayW = true) ∧ Hid (Below w.heap.size w wr)) (fun _ i _ => n - (intOf i).toNat)
    case atStart => exact ⟨0, [], rfl, rfl, Nat.zero_le _, Lib.hid rfl, Lib.hid rfl, Lib.hid (Below.refl _ _)⟩
    case round =>
      obtain ⟨k, F, rfl, rfl, hk, HF, HK, HW⟩ := hrel
      by_cases hlt : k < n
      · obtain ⟨b, off, rfl, hbl, hc⟩ := rows_cells HH.out (by omega)
        have hkl : k < l.length := by rw [← HL.out]; exact hlt
        obtain ⟨⟨s, r⟩, hx⟩ : ∃ x, l[k]'hkl = x := ⟨_, rfl⟩
        have c1 : wr.cell? ⟨b, off + k * 2, none⟩ = some (.string (strOf s)) := by rw [HW.out.cell (p := ⟨b, off + k * 2, none⟩) hbl, (hc k hkl).1, hx]
        have c2 : wr.cell? ⟨b, off + k * 2 + 1, none⟩ = some (.int .i64 r) := by rw [HW.out.cell (p := ⟨b, off + k * 2 + 1, none⟩) hbl]; have := (hc k hkl).2; rw [hx] at this; exact this
        have HSL := Lib.hid (show s.length ≤ 1000000 from by have := HBL.out (l[k]'hkl) (List.getElem_mem _); rw [hx] at this; exact this)
        have HAT := Lib.hid (show (l.take (k + 1)).all mayW = mayW (s, r) from by rw [all_takeR hkl, HK.out, hx]; rfl)
        have HFS := Lib.hid (show fileW (l.take (k + 1)) = F ++ (enc64 s ++ 32 :: Lib.itoa r) ++ [10] from by
          rw [HF.out, List.take_add_one, List.getElem?_eq_getElem hkl, hx]
          exact file_snoc _ _)
        have HC1 := Lib.hid c1
        have HC2 := Lib.hid c2
        clear hc hx
        cases hm : mayW (s, r) with
        | false =>
          have HM := Lib.hid hm
          have HNO := Lib.hid (show okW l = false from by unfold okW; rw [all_falseR (k := k + 1) (by rw [HAT.out, hm])]; simp)
          clear hm
          go_wp2_with fail
          refine (rmayRow_any s r wr HM HSL.out).mono ?_
          rintro e w2 ⟨rfl, hb2⟩
          have HW2 := Lib.hid (HW.out.trans (hb2.mono HW.out.size))
          clear hb2
          go_wp2_with fail
          go_ret2
          exact ⟨by rw [wrE_no HNO.out]; rfl, HW2.out⟩
        | true =>
          have HM := Lib.hid hm
          have HMW := Lib.hid (mayW_yes hm)
          have HRL := Lib.hid (row_lenR hm)
          have HFL := Lib.hid (show F.length ≤ 600000 from by
            have h1 := file_lenR HK.out
            rw [← HF.out, List.length_take] at h1; omega)
          clear hm
          go_wp2_with fail
          refine (rmayRow_any s r wr HM HSL.out).mono ?_
          rintro e w2 ⟨rfl, hb2⟩
          have HW2 := Lib.hid (HW.out.trans (hb2.mono HW.out.size))
          have k1 : w2.cell? ⟨b, off + k * 2, none⟩ = some (.string (strOf s)) := (hb2.cell (p := ⟨b, off + k * 2, none⟩) (by have := HW.out.size; show b < _; omega)).trans HC1.out
          have k2 : w2.cell? ⟨b, off + k * 2 + 1, none⟩ = some (.int .i64 r) := (hb2.cell (p := ⟨b, off + k * 2 + 1, none⟩) (by have := HW.out.size; show b < _; omega)).trans HC2.out
          have b1 : ¬ 9223372036854775807 < (strOf F).size + (strOf (enc64 s)).size := by rw [strOf_size, strOf_size]; have := HFL.out; have := HRL.out.1; (try simp only at *); omega
          have b2 : ¬ 9223372036854775807 < (strOf F).size + (strOf (enc64 s)).size + 1 := by rw [strOf_size, strOf_size]; have := HFL.out; have := HRL.out.1; (try simp only at *); omega
          have b3 : ¬ 9223372036854775807 < (strOf F).size + (strOf (enc64 s)).size + 1 + (strOf (Lib.itoa r)).size := by rw [strOf_size, strOf_size, strOf_size]; have := HFL.out; have := HRL.out; (try simp only at *); omega
          have b4 : ¬ 9223372036854775807 < (strOf F).size + (strOf (enc64 s)).size + 1 + (strOf (Lib.itoa r)).size + 1 := by rw [strOf_size, strOf_size, strOf_size]; have := HFL.out; have := HRL.out; (try simp only at *); omega
          have henc : ∀ W, Calls Tryd.prog 29 #[.string (strOf s)] W fun e w' => e = .returned (.string (strOf (enc64 s))) ∧ w' = W := fun W => (rencode64_any (strOf s) W (by rw [strOf_size]; have := HMW.out; (try simp only at this); omega)).mono fun e w' ⟨h1, h2⟩ => ⟨h1, h2.symm⟩
          have hdig : ∀ W, Calls Tryd.prog 22 #[.int .i64 r] W fun e w' => e = .returned (.string (strOf (Lib.itoa r))) ∧ w' = W := fun W => rDigits_any r (by have := HMW.out; (try simp only at this); omega) (by have := HMW.out; (try simp only at this); omega) W
          have HENC := Lib.hid henc
          have HDIG := Lib.hid hdig
          clear hb2 c1 c2 henc hdig
          go_wp2_with fail
          go_quiet ((first
            | (go_at_call 29; exact Calls.quiet_of_same (HENC.out _))
            | (go_at_call 22; exact Calls.quiet_of_same (HDIG.out _))))
          go_wp2_with fail
          go_roundw
          case rel => exact ⟨k + 1, fileW (l.take (k + 1)), by rw [HFS.out]; exact row_text _ _ _, by go_num, by omega, Lib.hid rfl, Lib.hid (by rw [HAT.out, HM.out]), Lib.hid (below_dr HW2.out nq)⟩
          case measure => show n - ((k : Int) + 1).toNat < n - ((k : Int)).toNat; omega
      · have hke : k = n := by omega
        have HKE := Lib.hid hke
        have HYES := Lib.hid (show okW l = true from by
          have := HK.out
          rw [List.take_of_length_le (by rw [← HL.out]; omega)] at this
          unfold okW; rw [this, decide_eq_true (by rw [← HL.out]; omega)]; rfl)
        have HFF := Lib.hid (show F = fileW l from by rw [HF.out, List.take_of_length_le (by rw [← HL.out]; omega)])
        clear hke
        go_wp2_with fail
        go_ret2
        exact ⟨by rw [wrE_yes HYES.out, ← HFF.out]; rfl, HW.out⟩
end Go.Proofs.YtefhifmilmedhaaDoor
