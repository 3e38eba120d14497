/- The walk of LetterJoins: true for every input. -/
import Derived.Test.YtdapcilhbclcnaaLetFixed
namespace Go.Proofs.Ytdapcilhbclcnaa
open Go.RowKit
set_option linter.unusedVariables false

theorem jstr_app (a b : List UInt8) : strOf a ++ strOf b = strOf (a ++ b) := by
  apply ByteArray.ext
  simp [strOf]

set_option maxRecDepth 100000 in
set_option maxHeartbeats 1000000 in
theorem walkLetterJoins (w : World) {A1 A2 : Option Addr} {n1 c1 n2 c2 : Nat} {l1 l2 : List UInt8} (h1 : BytesAt w w.heap.size A1 n1 c1 l1) (h2 : BytesAt w w.heap.size A2 n2 c2 l2) :
    Calls Try.prog 12 #[.slice A1 n1 c1, .slice A2 n2 c2] w fun e w' => e = .returned (.bool true) ∧ Below w.heap.size w w' := by
  have hc1 := h1.2.1
  have hc2 := h2.2.1
  have hm1 := h1.2.2.1
  have hm2 := h2.2.2.1
  unfold maxLen at hm1 hm2
  have hlen1 := Lib.hid h1.len
  have hlen2 := Lib.hid h2.len
  by_cases hl : 500 < n1
  · have hl1 : (500 : Int) < n1 := by omega
    go_enter Try.func12, Try.ntmps12
    go_wp2_with fail
    refine (fixed04 _).mono ?_
    rintro e w' ⟨rfl, hb⟩
    go_wp2_with fail
    go_ret
    exact ⟨rfl, hb⟩
  have hl1 : decide ((500 : Int) < n1) = false := decide_eq_false (by omega)
  have hl1' : decide (500 < n1) = false := decide_eq_false (by omega)
  by_cases hk : 500 < n2
  · have hk1 : (500 : Int) < n2 := by omega
    go_enter Try.func12, Try.ntmps12
    go_wp2_with fail
    refine (fixed04 _).mono ?_
    rintro e w' ⟨rfl, hb⟩
    go_wp2_with fail
    go_ret
    exact ⟨rfl, hb⟩
  have hk1 : decide ((500 : Int) < n2) = false := decide_eq_false (by omega)
  have hk1' : decide (500 < n2) = false := decide_eq_false (by omega)
  have own0 : ∀ W : World, (W.alloc (.cells #[] 5)).ownsRow W.heap.size 5 1 (.slice (some ⟨W.heap.size, 0, none⟩) 0 0) 0 [] := fun W =>
    ⟨rfl, .inr ⟨W.heap.size, 0, #[], rfl, Nat.le_refl _, heap_alloc_new _ _, Nat.le_refl _, Nat.zero_le _, rfl, rfl⟩⟩
  have OWN0 := Lib.hid (own0 w)
  have HH1 := Lib.hid h1
  have HH2 := Lib.hid h2
  have HAL := Lib.hid ((Below.refl w.heap.size w).alloc (Nat.le_refl _) (.cells #[] 5))
  obtain ⟨S1, hS1⟩ : ∃ S, strOf (wr l1) = S := ⟨_, rfl⟩
  obtain ⟨S2, hS2⟩ : ∃ S, strOf (wr l2) = S := ⟨_, rfl⟩
  obtain ⟨SA, hSA⟩ : ∃ S, strOf (wr (l1 ++ l2)) = S := ⟨_, rfl⟩
  have hcat : S1 ++ S2 = SA := by rw [← hS1, ← hS2, ← hSA, jstr_app, wr_app]
  have hz1 : S1.size ≤ 4 * n1 := by rw [← hS1, strOf_size]; have := wr_len l1; have := hlen1.out; omega
  have hz2 : S2.size ≤ 4 * n2 := by rw [← hS2, strOf_size]; have := wr_len l2; have := hlen2.out; omega
  have hz3 : SA.size = S1.size + S2.size := by rw [← hcat, ByteArray.size_append]
  have hz4 : SA.size ≤ 4000 := by omega
  have hlim : ¬ 9223372036854775807 < S1.size + S2.size := by omega
  have hcmp : (SA.toList == (S1 ++ S2).toList) = true := by rw [hcat]; exact beq_self_eq_true _
  have HHI := Lib.hid (show ∀ (k : Nat) (h : k < SA.size), 32 < (SA[k].toNat : Int) ∧ ((SA[k].toNat : Int) == 127) = false from by
    intro k h
    have hx : SA[k] ∈ wr (l1 ++ l2) := by
      rw [← strOf_list (wr (l1 ++ l2)), hSA, ← str_get SA k h (by rw [str_len]; exact h)]
      exact List.getElem_mem _
    have := wr_high _ _ hx
    exact ⟨by omega, beq_no (by omega)⟩)
  have HSA := Lib.hid hSA
  have HS1 := Lib.hid hS1
  have HS2 := Lib.hid hS2
  clear own0 h1 h2 hSA hS1 hS2 hcat hz3
  go_enter Try.func12, Try.ntmps12
  go_wp2_with (first
    | (at_builtin; refine wpList_append_row rfl (.tmp 16) (.tmp 17) _ rfl w.heap.size 5 _ 1 1 Try.underlying22 infoByte rfl (by omega) _ 0 [] rfl OWN0.out w.heap.size A1 n1 c1 (bytesV l1) rfl (RowAt.alloc HH1.out (Nat.le_refl _) _) one_bytes n1 (Nat.zero_add _) (bytesV l1) rfl (by unfold maxLen; omega) (by omega) (by simp) ?_; intro A3 c3 w3 hown3 hb3 hg3; have HO3 := Lib.hid hown3; have HB3 := Lib.hid (HAL.out.trans hb3); clear hown3 hb3 hg3)
    | (at_builtin; refine wpList_append_row rfl (.tmp 18) (.tmp 19) _ rfl w.heap.size 5 _ 1 1 Try.underlying22 infoByte rfl (by omega) _ n1 (bytesV l1) rfl HO3.out w.heap.size A2 n2 c2 (bytesV l2) rfl (RowAt.below HH2.out HB3.out) one_bytes (n1 + n2) rfl (bytesV (l1 ++ l2)) (by simp [bytesV]) (by unfold maxLen; omega) (by omega) HB3.out.size ?_; intro A4 c4 w4 hown4 hb4 hg4; have HO4 := Lib.hid hown4; have HB4 := Lib.hid (HB3.out.trans hb4); clear hown4 hb4 hg4))
  refine (lwrite_as (l := l1 ++ l2) _ (RowAt.of_own HO4.out) (by omega) HSA).mono ?_
  rintro e w5 ⟨rfl, hb5⟩
  have HB5 := Lib.hid (HB4.out.trans (hb5.mono HB4.out.size))
  clear hb5
  go_wp2_with fail
  go_loop [24] (fun i => ∃ k : Nat, k ≤ SA.size ∧ i = .int .i64 k) (fun i => SA.size - (intOf i).toNat)
  case atStart => exact ⟨0, Nat.zero_le _, rfl⟩
  case round =>
    obtain ⟨k, hk, rfl⟩ := hrel
    by_cases hkx : k < SA.size
    · have hk5 : (k : Int) < SA.size := by omega
      obtain ⟨hx1, hx2⟩ := HHI.out k hkx
      have hx3 : decide ((SA[k].toNat : Int) ≤ 32) = false := decide_eq_false (by omega)
      go_wp2_with fail
      go_round
      case rel => exact ⟨k + 1, by omega, by go_num⟩
      case measure => simp [intOf]; omega
    · obtain rfl : k = SA.size := by omega
      have hk5 : ¬ (SA.size : Int) < SA.size := by omega
      go_wp2_with fail
      refine (fixed04 _).mono ?_
      rintro e w6 ⟨rfl, hb6⟩
      have HB6 := Lib.hid (HB5.out.trans (hb6.mono HB5.out.size))
      clear hb6
      have R1 := Lib.hid (RowAt.mono (RowAt.below HH1.out HB6.out) HB6.out.size)
      have R2 := Lib.hid (RowAt.mono (RowAt.below HH2.out HB6.out) HB6.out.size)
      go_wp2_with fail
      refine (lwrite_as _ R1.out (by omega) HS1).mono ?_
      rintro e w7 ⟨rfl, hb7⟩
      have HB7 := Lib.hid (HB6.out.trans (hb7.mono HB6.out.size))
      have R22 := Lib.hid (RowAt.mono (RowAt.below R2.out hb7) hb7.size)
      clear hb7
      go_wp2_with fail
      refine (lwrite_as _ R22.out (by omega) HS2).mono ?_
      rintro e w8 ⟨rfl, hb8⟩
      have HB8 := Lib.hid (HB7.out.trans (hb8.mono HB7.out.size))
      clear hb8
      go_wp2_with fail
      go_ret
      exact ⟨by simp, HB8.out⟩
end Go.Proofs.Ytdapcilhbclcnaa
