/- The walks of the document's ending, begun, led, more, blanks, word. -/
import Derived.Test.YtkiggpbmlkfdpaaDoorScanRRow
import Derived.Deep.RegionWith
import Derived.BigQuiet
namespace Go.Proofs.YtkiggpbmlkfdpaaDoor
open Go.RowKit
set_option linter.unusedVariables false

/-- The document's rows, and a box with their value. -/
structure LX (w : World) (g : Nat) (ps : List Pt) (n : Nat) (AP AC AN : Option Addr) (cP cC cN S : Nat) : Prop where
  lat : LAt w w.heap.size ps n AP AC AN cP cC cN
  blk : w.heap[g]? = some (.cells #[.slice AP n cP, .slice AC n cC, .slice AN n cN, .int .i64 (S : Int)] 68 (0, 0))
section
variable {w w' : World} {g n cP cC cN S : Nat} {ps : List Pt} {AP AC AN : Option Addr}
theorem LX.lt (h : LX w g ps n AP AC AN cP cC cN S) : g < w.heap.size := (Array.getElem?_eq_some_iff.1 h.blk).1
theorem LX.later (h : LX w g ps n AP AC AN cP cC cN S) (hb : Below w.heap.size w w') : LX w' g ps n AP AC AN cP cC cN S := ⟨h.lat.later hb, (hb.block g h.lt).trans h.blk⟩
theorem LX.reads (h : LX w g ps n AP AC AN cP cC cN S) : w.cell? ⟨g, 0, none⟩ = some (.slice AP n cP) ∧ w.cell? ⟨g, 1, none⟩ = some (.slice AC n cC) ∧ w.cell? ⟨g, 2, none⟩ = some (.slice AN n cN) ∧ w.cell? ⟨g, 3, none⟩ = some (.int .i64 (S : Int)) :=
  ⟨Lib.cell_of_heap h.blk 0, Lib.cell_of_heap h.blk 1, Lib.cell_of_heap h.blk 2, Lib.cell_of_heap h.blk 3⟩
theorem LX.box (h : LAt w w.heap.size ps n AP AC AN cP cC cN) (hX : w' = w.alloc (.cells #[.slice AP n cP, .slice AC n cC, .slice AN n cN, .int .i64 (S : Int)] 68)) : LX w' w.heap.size ps n AP AC AN cP cC cN S := by
  subst hX
  exact ⟨h.later ((Below.refl _ w).alloc (Nat.le_refl _) _), heap_alloc_new w _⟩
end
def endB : Nat → ByteArray
  | 0 => ⟨#[39, 115]⟩ | 1 => ⟨#[39, 116]⟩ | 2 => ⟨#[39, 109]⟩ | 3 => ⟨#[39, 100]⟩ | 4 => ⟨#[39, 114, 101]⟩ | 5 => ⟨#[39, 118, 101]⟩ | _ => ⟨#[39, 108, 108]⟩
def startB : Nat → ByteArray
  | 0 => ⟨#[39]⟩ | 1 => ⟨#[39, 114]⟩ | 2 => ⟨#[39, 118]⟩ | _ => ⟨#[39, 108]⟩
theorem endB_drop {j : Nat} (h : j < 7) : endsW.drop j = bytesI (endB j) :: endsW.drop (j + 1) ∧ (endB j).size ≤ 3 := by
  rcases (by omega : j = 0 ∨ j = 1 ∨ j = 2 ∨ j = 3 ∨ j = 4 ∨ j = 5 ∨ j = 6) with rfl | rfl | rfl | rfl | rfl | rfl | rfl <;> exact ⟨rfl, by decide⟩
theorem startB_drop {j : Nat} (h : j < 4) : startsW.drop j = bytesI (startB j) :: startsW.drop (j + 1) ∧ (startB j).size ≤ 3 := by
  rcases (by omega : j = 0 ∨ j = 1 ∨ j = 2 ∨ j = 3) with rfl | rfl | rfl | rfl <;> exact ⟨rfl, by decide⟩
theorem bytesI_len (s : ByteArray) : (bytesI s).length = s.size := by unfold bytesI; rw [List.length_map, str_len]
def endCs : Array Value := #[.string ⟨#[39, 115]⟩, .string ⟨#[39, 116]⟩, .string ⟨#[39, 109]⟩, .string ⟨#[39, 100]⟩, .string ⟨#[39, 114, 101]⟩, .string ⟨#[39, 118, 101]⟩, .string ⟨#[39, 108, 108]⟩]
def startCs : Array Value := #[.string ⟨#[39]⟩, .string ⟨#[39, 114]⟩, .string ⟨#[39, 118]⟩, .string ⟨#[39, 108]⟩]
theorem endCs_get {j : Nat} (h : j < 7) : endCs[j]? = some (.string (endB j)) := by
  rcases (by omega : j = 0 ∨ j = 1 ∨ j = 2 ∨ j = 3 ∨ j = 4 ∨ j = 5 ∨ j = 6) with rfl | rfl | rfl | rfl | rfl | rfl | rfl <;> rfl
theorem startCs_get {j : Nat} (h : j < 4) : startCs[j]? = some (.string (startB j)) := by
  rcases (by omega : j = 0 ∨ j = 1 ∨ j = 2 ∨ j = 3) with rfl | rfl | rfl | rfl <;> rfl
theorem odrew {w w' : World} (h : Below w.drew.heap.size w.drew w') : Below w.heap.size w w' := (Below.drew (Below.refl w.heap.size w)).trans h
theorem ndrew (w : World) (k : Nat) : Below w.heap.size w (w.drewN k) := ⟨rfl, rfl, rfl, Nat.le_refl _, fun _ _ => rfl⟩
set_option maxRecDepth 100000 in
set_option maxHeartbeats 4000000 in
theorem rending_any {n cP cC cN S : Nat} {ps : List Pt} {AP AC AN : Option Addr} (wide : Bool) (w : World) (h : LAt w w.heap.size ps n AP AC AN cP cC cN) {r : Nat} (hr : endR ps wide = r) :
    Calls Tryd.prog 65 #[.agg (lV n AP AC AN cP cC cN S), .bool wide] w fun e w' => e = .returned (.int .i64 (r : Int)) ∧ Below w.heap.size w w' := by
  have HR := Lib.hid (show endG ps wide (endsW.drop 0) = r from hr)
  have HH := Lib.hid h
  clear h hr
  have HV := Lib.hid (rfl : lV n AP AC AN cP cC cN S = #[.slice AP n cP, .slice AC n cC, .slice AN n cN, .int .i64 (S : Int)])
  unfold lV
  go_enter Tryd.func65, Tryd.ntmps65
  go_wp2_with fail
  obtain ⟨X, hX⟩ : ∃ X, X = w.alloc (.cells #[.slice AP n cP, .slice AC n cC, .slice AN n cN, .int .i64 (S : Int)] 68) := ⟨_, rfl⟩
  obtain ⟨g, hg⟩ : ∃ g, w.heap.size = g := ⟨_, rfl⟩
  have HX := Lib.hid (LX.box HH.out hX)
  have hXs : X.heap.size = g + 1 := by rw [hX, ← hg]; simp
  have HB := Lib.hid (show Below w.heap.size w X from by rw [hX]; exact (Below.refl _ w).alloc (Nat.le_refl _) _)
  rw [← hX]
  clear hX
  obtain ⟨Y, hY⟩ : ∃ Y, Y = X.alloc (.cells endCs 9) := ⟨_, rfl⟩
  have hbY : Below X.heap.size X Y := by rw [hY]; exact (Below.refl _ X).alloc (Nat.le_refl _) _
  have HY := Lib.hid (HX.out.later hbY)
  have HBY := Lib.hid (HB.out.trans (hbY.mono HB.out.size))
  have HE := Lib.hid (show Y.heap[g + 1]? = some (.cells endCs 9 (0, 0)) from by rw [hY, ← hXs]; exact heap_alloc_new X _)
  unfold endCs at hY
  rw [← hY]
  rw [hg] at HY
  try rw [hg]
  clear hY hbY HX HB hXs hg
  go_loopw [10] (fun z wr => ∃ j : Nat, z = .int .i64 (j : Int) ∧ j ≤ 7 ∧ Hid (endG ps wide (endsW.drop j) = r) ∧ Hid (LX wr g ps n AP AC AN cP cC cN S) ∧ Hid (wr.heap[g + 1]? = some (.cells endCs 9 (0, 0))) ∧ Hid (Below w.heap.size w wr)) (fun z _ => 7 - (intOf z).toNat)
  case atStart => exact ⟨0, rfl, by omega, HR, HY, HE, HBY⟩
  case round =>
    clear HR HY HE HBY
    obtain ⟨j, rfl, hj, HJ, HL, HE, HB⟩ := hrel
    by_cases hj7 : j < 7
    · obtain ⟨hd, hsz⟩ := endB_drop hj7
      obtain ⟨s, hs⟩ : ∃ s, endB j = s := ⟨_, rfl⟩
      rw [hs] at hd hsz
      obtain ⟨o, ho⟩ : ∃ o, areR ps (bytesI s) wide = o := ⟨_, rfl⟩
      have HG := Lib.hid (show (if o = true then s.size else endG ps wide (endsW.drop (j + 1))) = r from by
        have := HJ.out
        rw [hd, endG, bytesI_len, ho] at this
        exact this)
      have e0 : wr.cell? ⟨g + 1, j, none⟩ = some (.string s) := by rw [Lib.cell_of_heap HE.out j, ← hs]; exact endCs_get hj7
      obtain ⟨c0, c1, c2, c3⟩ := HL.out.reads
      have HO := Lib.hid ho
      have he1 := (Array.getElem?_eq_some_iff.1 HE.out).1
      have hs100 : s.size ≤ 100 := by omega
      clear hd hs ho hsz
      go_wp2_with fail
      go_region_with (go_at_call 69; refine (rare_any (S := S) s wide wr.drew (HL.out.lat.later (Below.drew (Below.refl _ _))) hs100 HO.out).mono ?_; rintro e w2 ⟨rfl, hb⟩; have hb' := odrew hb; have HL2 := Lib.hid (HL.out.later hb'); have HE2 := Lib.hid ((hb'.block (g + 1) he1).trans HE.out); have HB2 := Lib.hid (HB.out.trans (hb'.mono HB.out.size)); have e2 : w2.cell? ⟨g + 1, j, none⟩ = some (.string s) := (hb'.cell (p := ⟨g + 1, j, none⟩) he1).trans e0; clear hb hb')
      all_goals
        cases o with
        | true =>
          have HS := Lib.hid (show s.size = r from by have := HG.out; rw [if_pos rfl] at this; exact this)
          go_wp2_with fail
          go_ret
          exact ⟨by rw [← HS.out]; rfl, HB2.out⟩
        | false =>
          have HS := Lib.hid (show endG ps wide (endsW.drop (j + 1)) = r from by have := HG.out; rw [if_neg (by decide)] at this; exact this)
          go_wp2_with fail
          go_roundw
          case rel => exact ⟨j + 1, by go_num, by omega, HS, HL2, HE2, HB2⟩
          case measure => simp [intOf]; omega
    · obtain rfl : j = 7 := by omega
      have HS := Lib.hid (show 0 = r from HJ.out)
      go_wp2_with fail
      go_ret
      exact ⟨by rw [← HS.out]; rfl, HB.out⟩
set_option maxRecDepth 100000 in
set_option maxHeartbeats 4000000 in
theorem rbegun_any {n cP cC cN S : Nat} {ps : List Pt} {AP AC AN : Option Addr} (wide : Bool) (w : World) (h : LAt w w.heap.size ps n AP AC AN cP cC cN) (hS : S ≤ 1000) {r : Bool} (hr : begunR ps S wide = r) :
    Calls Tryd.prog 46 #[.agg (lV n AP AC AN cP cC cN S), .bool wide] w fun e w' => e = .returned (.bool r) ∧ Below w.heap.size w w' := by
  have HR := Lib.hid (show begunG ps S wide (startsW.drop 0) = r from hr)
  have HH := Lib.hid h
  clear h hr
  have HV := Lib.hid (rfl : lV n AP AC AN cP cC cN S = #[.slice AP n cP, .slice AC n cC, .slice AN n cN, .int .i64 (S : Int)])
  unfold lV
  go_enter Tryd.func46, Tryd.ntmps46
  go_wp2_with fail
  obtain ⟨X, hX⟩ : ∃ X, X = w.alloc (.cells #[.slice AP n cP, .slice AC n cC, .slice AN n cN, .int .i64 (S : Int)] 68) := ⟨_, rfl⟩
  obtain ⟨g, hg⟩ : ∃ g, w.heap.size = g := ⟨_, rfl⟩
  have HX := Lib.hid (LX.box HH.out hX)
  have hXs : X.heap.size = g + 1 := by rw [hX, ← hg]; simp
  have HB := Lib.hid (show Below w.heap.size w X from by rw [hX]; exact (Below.refl _ w).alloc (Nat.le_refl _) _)
  rw [← hX]
  clear hX
  obtain ⟨Y, hY⟩ : ∃ Y, Y = X.alloc (.cells startCs 9) := ⟨_, rfl⟩
  have hbY : Below X.heap.size X Y := by rw [hY]; exact (Below.refl _ X).alloc (Nat.le_refl _) _
  have HY := Lib.hid (HX.out.later hbY)
  have HBY := Lib.hid (HB.out.trans (hbY.mono HB.out.size))
  have HE := Lib.hid (show Y.heap[g + 1]? = some (.cells startCs 9 (0, 0)) from by rw [hY, ← hXs]; exact heap_alloc_new X _)
  unfold startCs at hY
  rw [← hY]
  rw [hg] at HY
  try rw [hg]
  clear hY hbY HX HB hXs hg
  go_loopw [10] (fun z wr => ∃ j : Nat, z = .int .i64 (j : Int) ∧ j ≤ 4 ∧ Hid (begunG ps S wide (startsW.drop j) = r) ∧ Hid (LX wr g ps n AP AC AN cP cC cN S) ∧ Hid (wr.heap[g + 1]? = some (.cells startCs 9 (0, 0))) ∧ Hid (Below w.heap.size w wr)) (fun z _ => 4 - (intOf z).toNat)
  case atStart => exact ⟨0, rfl, by omega, HR, HY, HE, HBY⟩
  case round =>
    clear HR HY HE HBY
    obtain ⟨j, rfl, hj, HJ, HL, HE, HB⟩ := hrel
    by_cases hj7 : j < 4
    · obtain ⟨hd, hsz⟩ := startB_drop hj7
      obtain ⟨s, hs⟩ : ∃ s, startB j = s := ⟨_, rfl⟩
      rw [hs] at hd hsz
      obtain ⟨o, ho⟩ : ∃ o, areR ps (bytesI s) wide = o := ⟨_, rfl⟩
      have HG := Lib.hid (show ((decide (S = s.size) && o) || begunG ps S wide (startsW.drop (j + 1))) = r from by
        have := HJ.out
        rw [hd, begunG, bytesI_len, ho] at this
        exact this)
      have e0 : wr.cell? ⟨g + 1, j, none⟩ = some (.string s) := by rw [Lib.cell_of_heap HE.out j, ← hs]; exact startCs_get hj7
      obtain ⟨c0, c1, c2, c3⟩ := HL.out.reads
      have HO := Lib.hid ho
      have he1 := (Array.getElem?_eq_some_iff.1 HE.out).1
      have hs100 : s.size ≤ 100 := by omega
      clear hd hs ho hsz
      by_cases hSs : S = s.size
      · have hq : ((S : Int) == (s.size : Int)) = true := beq_yes (by omega)
        have HG2 := Lib.hid (show (o || begunG ps S wide (startsW.drop (j + 1))) = r from by have := HG.out; rw [decide_eq_true hSs, Bool.true_and] at this; exact this)
        have HSS := Lib.hid hSs
        clear hSs HG
        go_wp2_with fail
        go_region_with (go_at_call 69; refine (rare_any (S := S) s wide wr.drew (HL.out.lat.later (Below.drew (Below.refl _ _))) hs100 HO.out).mono ?_; rintro e w2 ⟨rfl, hb⟩; have hb' := odrew hb; have HL2 := Lib.hid (HL.out.later hb'); have HE2 := Lib.hid ((hb'.block (g + 1) he1).trans HE.out); have HB2 := Lib.hid (HB.out.trans (hb'.mono HB.out.size)); clear hb hb')
        all_goals
          cases o with
          | true =>
            have HS := Lib.hid (show true = r from by have := HG2.out; rw [Bool.true_or] at this; exact this)
            go_wp2_with fail
            go_ret
            exact ⟨by rw [← HS.out]; rfl, HB2.out⟩
          | false =>
            have HS := Lib.hid (show begunG ps S wide (startsW.drop (j + 1)) = r from by have := HG2.out; rw [Bool.false_or] at this; exact this)
            go_wp2_with fail
            go_roundw
            case rel => exact ⟨j + 1, by go_num, by omega, HS, HL2, HE2, HB2⟩
            case measure => simp [intOf]; omega
      · have hq : ((S : Int) == (s.size : Int)) = false := beq_no (by omega)
        have HS := Lib.hid (show begunG ps S wide (startsW.drop (j + 1)) = r from by have := HG.out; rw [decide_eq_false hSs, Bool.false_and, Bool.false_or] at this; exact this)
        clear hSs HG
        go_wp2_with fail
        go_quiet (fail)
        go_wp2_with fail
        go_roundw
        case rel => exact ⟨j + 1, by go_num, by omega, HS, Lib.hid (HL.out.later (ndrew _ _)), HE, Lib.hid (HB.out.trans ((ndrew _ _).mono HB.out.size))⟩
        case measure => simp [intOf]; omega
    · obtain rfl : j = 4 := by omega
      have HS := Lib.hid (show false = r from HJ.out)
      go_wp2_with fail
      go_ret
      exact ⟨by rw [← HS.out]; rfl, HB.out⟩
end Go.Proofs.YtkiggpbmlkfdpaaDoor
