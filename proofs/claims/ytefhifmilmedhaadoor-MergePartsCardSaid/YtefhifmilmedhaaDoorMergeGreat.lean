/- The walk of the document's Great of tables. -/
import Derived.Test.YtefhifmilmedhaaDoorMergeSame
namespace Go.Proofs.YtefhifmilmedhaaDoor
open Go.RowKit
set_option linter.unusedVariables false
/-- No more rows, pairs, or bytes of one than so many. -/
def Few (R : List (List UInt8 × Int)) (Q : PairsL) (many long : Int) : Prop := (R.length : Int) ≤ many ∧ (Q.length : Int) ≤ many ∧ (∀ x ∈ R, (x.1.length : Int) ≤ long) ∧ ∀ x ∈ Q, (x.1.length : Int) ≤ long ∧ (x.2.length : Int) ≤ long
def GreatTo (R : List (List UInt8 × Int)) (Q : PairsL) (many long : Int) (w : World) (e : Ending) (w' : World) : Prop :=
  ∃ o : Bool, e = .returned (.bool o) ∧ (o = false → Few R Q many long) ∧ Below w.heap.size w w'
theorem greatTo_yes {R : List (List UInt8 × Int)} {Q : PairsL} {many long : Int} {w w' : World} (h : Below w.heap.size w w') : GreatTo R Q many long w (.returned (.bool true)) w' := ⟨true, rfl, (fun h => by cases h), h⟩
set_option maxRecDepth 100000 in
set_option maxHeartbeats 4000000 in
theorem rgreat_any {A A2 : Option Addr} {n c m d : Nat} {R : List (List UInt8 × Int)} {Q : PairsL} (many long : Int) (w : World) (h : RowAt w w.heap.size 2 A n c (rowsI R)) (g : RowAt w w.heap.size 2 A2 m d (pairsV Q)) :
    Calls Tryd.prog 30 #[.agg #[.slice A n c, .slice A2 m d], .int .i64 many, .int .i64 long] w (GreatTo R Q many long w) := by
  have hcap := h.2.2.1
  have hcn := h.2.1
  unfold maxLen at hcap
  have hcap2 := g.2.2.1
  have hcn2 := g.2.1
  unfold maxLen at hcap2
  have HH := Lib.hid h
  have HL := Lib.hid (rows_len h)
  have HG := Lib.hid g
  have HM := Lib.hid (pairs_len g)
  clear h g
  have HB0 := Lib.hid (show Below w.heap.size w (w.alloc (.cells #[.slice A n c, .slice A2 m d] 59)) from (Below.refl _ w).alloc (Nat.le_refl _) _)
  by_cases hbig : many < (n : Int)
  · have hb' : decide (many < (n : Int)) = true := decide_eq_true hbig
    go_enter Tryd.func30, Tryd.ntmps30
    go_wp2_with fail
    go_ret
    exact greatTo_yes HB0.out
  · have hb1 : decide (many < (n : Int)) = false := decide_eq_false hbig
    by_cases hbig2 : many < (m : Int)
    · have hb' : decide (many < (m : Int)) = true := decide_eq_true hbig2
      go_enter Tryd.func30, Tryd.ntmps30
      go_wp2_with fail
      go_ret
      exact greatTo_yes HB0.out
    · have hb2 : decide (many < (m : Int)) = false := decide_eq_false hbig2
      have HN1 := Lib.hid hbig
      have HN2 := Lib.hid hbig2
      obtain ⟨w0, hw0⟩ : ∃ w0, w.alloc (.cells #[.slice A n c, .slice A2 m d] 59) = w0 := ⟨_, rfl⟩
      rw [hw0] at HB0
      have HT0 := Lib.hid (show w0.heap[w.heap.size]? = some (.cells #[.slice A n c, .slice A2 m d] 59 (0, 0)) from by rw [← hw0]; exact heap_alloc_new w _)
      have HQ0 := Lib.hid hw0
      clear hw0 hbig hbig2
      go_enter Tryd.func30, Tryd.ntmps30
      go_wp2_with fail
      go_loopw [24] (fun i wr => ∃ k : Nat, k ≤ n ∧ i = .int .i64 k ∧ Hid (∀ x ∈ R.take k, (x.1.length : Int) ≤ long) ∧ Hid (Below w0.heap.size w0 wr)) (fun i _ => n - (intOf i).toNat)
      case atStart => exact ⟨0, Nat.zero_le _, rfl, Lib.hid (fun x hx => by simp at hx), Lib.hid (by rw [HQ0.out]; exact Below.refl _ _)⟩
      case round =>
        obtain ⟨k, hk, rfl, HK, HW⟩ := hrel
        have HTW := Lib.hid ((HW.out.block w.heap.size (Array.getElem?_eq_some_iff.1 HT0.out).1).trans HT0.out)
        obtain ⟨x0, x1, -, -⟩ := pair_reads HTW.out
        have HWW := Lib.hid (HB0.out.trans (HW.out.mono HB0.out.size))
        by_cases hlt : k < n
        · obtain ⟨b, off, rfl, hbl, hc⟩ := rows_cells HH.out (by omega)
          have hkl : k < R.length := by rw [← HL.out]; exact hlt
          obtain ⟨⟨s, r⟩, hx⟩ : ∃ x, R[k]'hkl = x := ⟨_, rfl⟩
          have c1 : wr.cell? ⟨b, off + k * 2, none⟩ = some (.string (strOf s)) := by rw [HWW.out.cell (p := ⟨b, off + k * 2, none⟩) hbl, (hc k hkl).1, hx]
          have hsz : (strOf s).size = s.length := rfl
          have HTK := Lib.hid (show R.take (k + 1) = R.take k ++ [(s, r)] from by rw [List.take_add_one, List.getElem?_eq_getElem hkl, hx]; rfl)
          clear hc hx
          by_cases hbig : long < (s.length : Int)
          · have hb' : decide (long < (s.length : Int)) = true := decide_eq_true hbig
            go_wp2_with fail
            go_ret
            exact greatTo_yes HWW.out
          · have hb' : decide (long < (s.length : Int)) = false := decide_eq_false hbig
            have HNB := Lib.hid (show (s.length : Int) ≤ long from by omega)
            clear hbig
            go_wp2_with fail
            go_roundw
            case rel => exact ⟨k + 1, by omega, by go_num, Lib.hid (fun x hx => by
                rw [HTK.out] at hx
                rcases List.mem_append.1 hx with h | h
                · exact HK.out x h
                · rw [List.mem_singleton.1 h]; exact HNB.out), HW⟩
            case measure => show n - ((k : Int) + 1).toNat < n - ((k : Int)).toNat; omega
        · have hke : k = n := by omega
          have HRA := Lib.hid (show ∀ x ∈ R, (x.1.length : Int) ≤ long from by have := HK.out; rw [List.take_of_length_le (by rw [← HL.out]; omega)] at this; exact this)
          have HKE := Lib.hid hke
          clear hke
          go_wp2_with fail
          go_loopw [40] (fun i wr => ∃ k : Nat, k ≤ m ∧ i = .int .i64 k ∧ Hid (∀ x ∈ Q.take k, (x.1.length : Int) ≤ long ∧ (x.2.length : Int) ≤ long) ∧ Hid (Below w0.heap.size w0 wr)) (fun i _ => m - (intOf i).toNat)
          case atStart => exact ⟨0, Nat.zero_le _, rfl, Lib.hid (fun x hx => by simp at hx), HW⟩
          case round =>
            clear HK HW HWW HTW HKE x0 x1
            obtain ⟨k, hk, rfl, HK, HW⟩ := hrel
            have HTW := Lib.hid ((HW.out.block w.heap.size (Array.getElem?_eq_some_iff.1 HT0.out).1).trans HT0.out)
            obtain ⟨x0, x1, -, -⟩ := pair_reads HTW.out
            have HWW := Lib.hid (HB0.out.trans (HW.out.mono HB0.out.size))
            by_cases hlt : k < m
            · obtain ⟨b, off, rfl, hbl, hc⟩ := pairs_cells HG.out (by omega)
              have hkl : k < Q.length := by rw [← HM.out]; exact hlt
              obtain ⟨⟨s, r⟩, hx⟩ : ∃ x, Q[k]'hkl = x := ⟨_, rfl⟩
              have c1 : wr.cell? ⟨b, off + k * 2, none⟩ = some (.string (strOf s)) := by rw [HWW.out.cell (p := ⟨b, off + k * 2, none⟩) hbl, (hc k hkl).1, hx]
              have c2 : wr.cell? ⟨b, off + k * 2 + 1, none⟩ = some (.string (strOf r)) := by rw [HWW.out.cell (p := ⟨b, off + k * 2 + 1, none⟩) hbl]; have := (hc k hkl).2; rw [hx] at this; exact this
              have hsz : (strOf s).size = s.length := rfl
              have hsr : (strOf r).size = r.length := rfl
              have HTK := Lib.hid (show Q.take (k + 1) = Q.take k ++ [(s, r)] from by rw [List.take_add_one, List.getElem?_eq_getElem hkl, hx]; rfl)
              clear hc hx
              by_cases hbig : long < (s.length : Int)
              · have hb' : decide (long < (s.length : Int)) = true := decide_eq_true hbig
                go_wp2_with fail
                go_ret
                exact greatTo_yes HWW.out
              · have hb' : decide (long < (s.length : Int)) = false := decide_eq_false hbig
                by_cases hbig2 : long < (r.length : Int)
                · have hb'' : decide (long < (r.length : Int)) = true := decide_eq_true hbig2
                  go_wp2_with fail
                  go_ret
                  exact greatTo_yes HWW.out
                · have hb'' : decide (long < (r.length : Int)) = false := decide_eq_false hbig2
                  have HNB := Lib.hid (show (s.length : Int) ≤ long ∧ (r.length : Int) ≤ long from by omega)
                  clear hbig hbig2
                  go_wp2_with fail
                  go_roundw
                  case rel => exact ⟨k + 1, by omega, by go_num, Lib.hid (fun x hx => by
                      rw [HTK.out] at hx
                      rcases List.mem_append.1 hx with h | h
                      · exact HK.out x h
                      · rw [List.mem_singleton.1 h]; exact HNB.out), HW⟩
                  case measure => show m - ((k : Int) + 1).toNat < m - ((k : Int)).toNat; omega
            · have hke : k = m := by omega
              have HQA := Lib.hid (show ∀ x ∈ Q, (x.1.length : Int) ≤ long ∧ (x.2.length : Int) ≤ long from by have := HK.out; rw [List.take_of_length_le (by rw [← HM.out]; omega)] at this; exact this)
              have HKE := Lib.hid hke
              clear hke
              go_wp2_with fail
              go_ret
              exact ⟨false, rfl, fun _ => ⟨by have := HN1.out; rw [← HL.out]; omega, by have := HN2.out; rw [← HM.out]; omega, HRA.out, HQA.out⟩, HWW.out⟩
end Go.Proofs.YtefhifmilmedhaaDoor
