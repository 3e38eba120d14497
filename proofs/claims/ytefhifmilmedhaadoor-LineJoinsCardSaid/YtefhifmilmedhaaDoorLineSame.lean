/- The walk of footbridgelaw06.Same. -/
import Derived.Test.YtefhifmilmedhaaDoorStrs
namespace Go.Proofs.YtefhifmilmedhaaDoor
open Go.RowKit

set_option maxRecDepth 100000 in
set_option maxHeartbeats 1000000 in
theorem same_any {A A' : Option Addr} {n n' c c' B B' : Nat} {l l' : List (List UInt8)} (w : World) (h : StrsAt w B A n c l) (h' : StrsAt w B' A' n' c' l') :
    Calls Tryd.prog 14 #[.slice A n c, .slice A' n' c'] w fun e w' => e = .returned (.bool (decide (l = l'))) ∧ ∃ k, w' = w.drewN k := by
  have e1 := h.len
  have e2 := h'.len
  by_cases hn : n = n'
  · subst hn
    have hcap := h.2.2.1
    have hcn := h.2.1
    unfold maxLen at hcap
    subst e1
    have E2 := Lib.hid e2
    clear e2
    go_enter Tryd.func14, Tryd.ntmps14
    go_wp2_with fail
    go_loopw [13] (fun i wr => ∃ k q : Nat, k ≤ l.length ∧ i = .int .i64 k ∧ l.take k = l'.take k ∧ wr = w.drewN q) (fun i _ => l.length - (intOf i).toNat)
    case atStart => exact ⟨0, 0, Nat.zero_le _, rfl, by simp, rfl⟩
    case round =>
      obtain ⟨k, q, hk, rfl, ht, rfl⟩ := hrel
      by_cases hlt : k < l.length
      · have hk2 : k < l'.length := by have := E2.out; omega
        obtain ⟨b, off, rfl, hb, hc⟩ := h.cells (by omega)
        obtain ⟨b', off', rfl, hb', hc'⟩ := h'.cells (by omega)
        have c1 : (w.drewN q).cell? ⟨b, off + k, none⟩ = some (.string (strOf (l[k]'hlt))) := hc k hlt
        have c2 : (w.drewN q).cell? ⟨b', off' + k, none⟩ = some (.string (strOf (l'[k]'hk2))) := hc' k hk2
        have hti : l.take (k + 1) = l.take k ++ [l[k]'hlt] := by rw [List.take_add_one, List.getElem?_eq_getElem hlt]; rfl
        have hti' : l'.take (k + 1) = l'.take k ++ [l'[k]'hk2] := by rw [List.take_add_one, List.getElem?_eq_getElem hk2]; rfl
        by_cases hx : l[k]'hlt = l'[k]'hk2
        · have hq := str_eq_of hx
          have HT := Lib.hid (show l.take (k + 1) = l'.take (k + 1) from by rw [hti, hti', ht, hx])
          clear hti hti' ht hx
          go_wp2_with fail
          go_quiet (fail)
          go_wp2_with fail
          go_roundw
          case rel => exact ⟨k + 1, q + nq, by omega, rfl, HT.out, rfl⟩
          case measure => show l.length - ((k : Int) + 1).toNat < l.length - ((k : Int)).toNat; omega
        · have hq := str_ne_of hx
          have HN := Lib.hid (show l ≠ l' from fun e => by subst e; exact hx rfl)
          clear hti hti' ht hx
          go_wp2_with fail
          go_quiet (fail)
          go_wp2_with fail
          go_ret
          exact ⟨by rw [decide_eq_false HN.out]; rfl, ⟨q + nq, drewN_drewN _ _ _⟩⟩
      · obtain rfl : k = l.length := by omega
        have HE := Lib.hid (show l = l' from by rw [List.take_of_length_le (Nat.le_refl _), List.take_of_length_le (by have := E2.out; omega)] at ht; exact ht)
        clear ht
        go_wp2_with fail
        go_ret
        exact ⟨by rw [decide_eq_true HE.out]; rfl, ⟨q, rfl⟩⟩
  · have hn' := bne_yes (a := (n : Int)) (b := (n' : Int)) (by omega)
    have HN := Lib.hid (show l ≠ l' from fun e => by subst e; omega)
    clear e1 e2
    go_enter Tryd.func14, Tryd.ntmps14
    go_wp2_with fail
    go_ret
    exact ⟨by rw [decide_eq_false HN.out]; rfl, 0, rfl⟩
end Go.Proofs.YtefhifmilmedhaaDoor
