/- The walks of the law's usual, great, same, cut, fixed. -/
import Derived.Test.YtkiggpbmlkfdpaaDoorScanCount
import Derived.Test.YtkiggpbmlkfdpaaDoorScanRNext
import Derived.Test.YtkiggpbmlkfdpaaDoorClsUse
import Derived.Test.YtkiggpbmlkfdpaaDoorConv
namespace Go.Proofs.YtkiggpbmlkfdpaaDoor
open Go.RowKit
set_option linter.unusedVariables false

/-- The cells of texts; a slice value that reads as texts. -/
def txtV (l : List (List UInt8)) : List Value := l.map fun x => .string (strOf x)
theorem length_txtV (l : List (List UInt8)) : (txtV l).length = l.length := by simp [txtV]
def TxtAt (w : World) (B : Nat) (A : Option Addr) (n c : Nat) (l : List (List UInt8)) : Prop := RowAt w B 1 A n c (txtV l)
section
variable {w w' : World} {B B' n c : Nat} {A : Option Addr} {l : List (List UInt8)}
theorem TxtAt.len (h : TxtAt w B A n c l) : n = l.length := by have := h.1; rw [length_txtV] at this; omega
theorem TxtAt.cells (h : TxtAt w B A n c l) (h0 : 0 < n) : ∃ b off, A = some ⟨b, off, none⟩ ∧ b < B ∧ ∀ i (hi : i < l.length), w.cell? ⟨b, off + i, none⟩ = some (.string (strOf l[i])) := by
  obtain ⟨b, off, e, hb, hc⟩ := h.2.2.2 h0
  refine ⟨b, off, e, hb, fun i hi => hc i _ ?_⟩
  simp [txtV, List.getElem?_eq_getElem hi]
end
theorem txt_eq {a b : List UInt8} (h : a = b) : ((strOf a).toList == (strOf b).toList) = true := by rw [h]; simp
theorem txt_ne {a b : List UInt8} (h : a ≠ b) : ((strOf a).toList == (strOf b).toList) = false := by
  rw [ByteArray.toList_eq, ByteArray.toList_eq, strOf_list, strOf_list, beq_eq_false_iff_ne]; exact h
theorem susual_any (w : World) (h : UsualAt w) : Calls Tryd.prog 18 #[] w fun e w' => ∃ A c, e = .returned (.slice A 51 c) ∧ RangesAt w' w'.heap.size A 51 c usualT ∧ Below w.heap.size w w' := by
  go_enter Tryd.func18, Tryd.ntmps18
  go_wp2_with fail
  refine (usual_any w h).mono ?_
  rintro e w' ⟨A, c, rfl, hr, hb⟩
  go_wp2_with fail
  go_ret
  exact ⟨A, c, rfl, hr, hb⟩
theorem great12 {A A2 : Option Addr} {n c n2 c2 : Nat} (w : World) {o : Bool} (ho : (decide (80 < n) || decide (200 < n2)) = o) (hn : n ≤ 9223372036854775807) (hn2 : n2 ≤ 9223372036854775807) : Calls Tryd.prog 14 #[.slice A n c, .slice A2 n2 c2] w fun e w' => e = .returned (.bool o) ∧ w = w' := by
  have HO := Lib.hid ho
  clear ho
  by_cases h1 : 80 < n
  · have h1' : (80 : Int) < (n : Int) := by omega
    have HT := Lib.hid (show o = true from by rw [← HO.out, decide_eq_true h1]; rfl)
    go_enter Tryd.func14, Tryd.ntmps14
    go_wp2_with fail
    go_ret
    exact ⟨by rw [HT.out]; rfl, rfl⟩
  · have h1' : ¬ (80 : Int) < (n : Int) := by omega
    have HT := Lib.hid (show o = decide (200 < n2) from by rw [← HO.out, decide_eq_false h1]; rfl)
    go_enter Tryd.func14, Tryd.ntmps14
    go_wp2_with fail
    go_ret
    refine ⟨?_, rfl⟩
    rw [HT.out]
    by_cases h2 : 200 < n2
    · rw [decide_eq_true h2, decide_eq_true (show (200 : Int) < (n2 : Int) by omega)]; rfl
    · rw [decide_eq_false h2, decide_eq_false (show ¬ (200 : Int) < (n2 : Int) by omega)]; rfl
set_option maxRecDepth 100000 in
set_option maxHeartbeats 1000000 in
theorem same12 {A A' : Option Addr} {n n' c c' B B' : Nat} {l l' : List (List UInt8)} (w : World) (h : TxtAt w B A n c l) (h' : TxtAt w B' A' n' c' l') (he : l = l') :
    Calls Tryd.prog 34 #[.slice A n c, .slice A' n' c'] w fun e w' => e = .returned (.bool true) ∧ ∃ k, w' = w.drewN k := by
  subst he
  have e1 := h.len
  have e2 := h'.len
  obtain rfl : n = n' := by omega
  have hcap := h.2.2.1
  have hcn := h.2.1
  unfold maxLen at hcap
  have hnn : ((n : Int) != (n : Int)) = false := bne_no rfl
  have E1 := Lib.hid e1
  have HH := Lib.hid h
  have HH' := Lib.hid h'
  clear e1 e2 h h'
  go_enter Tryd.func34, Tryd.ntmps34
  go_wp2_with fail
  go_loopw [13] (fun i wr => ∃ k q : Nat, k ≤ n ∧ i = .int .i64 k ∧ wr = w.drewN q) (fun i _ => n - (intOf i).toNat)
  case atStart => exact ⟨0, 0, Nat.zero_le _, rfl, rfl⟩
  case round =>
    obtain ⟨k, q, hk, rfl, rfl⟩ := hrel
    by_cases hlt : k < n
    · have hkl : k < l.length := by have := E1.out; omega
      obtain ⟨b, off, rfl, hb, hc⟩ := HH.out.cells (by omega)
      obtain ⟨b', off', rfl, hb', hc'⟩ := HH'.out.cells (by omega)
      obtain ⟨x, hx⟩ : ∃ x, l[k]'hkl = x := ⟨_, rfl⟩
      have c1 : w.cell? ⟨b, off + k, none⟩ = some (.string (strOf x)) := by rw [hc k hkl, hx]
      have c2 : w.cell? ⟨b', off' + k, none⟩ = some (.string (strOf x)) := by rw [hc' k hkl, hx]
      have hq := txt_eq (a := x) rfl
      clear hc hc' hx
      go_wp2_with fail
      go_quiet (fail)
      go_wp2_with fail
      go_roundw
      case rel => exact ⟨k + 1, q + nq, by omega, by go_num, by first | rfl | rw [World.drewN_drewN]⟩
      case measure => simp [intOf]; omega
    · obtain rfl : k = n := by omega
      go_wp2_with fail
      go_ret
      exact ⟨rfl, q, rfl⟩
end Go.Proofs.YtkiggpbmlkfdpaaDoor
