/- The walk of Base64Joins: true for every input. -/
import Derived.Test.YtdapcilhbclcnaaB64Fixed
namespace Go.Proofs.Ytdapcilhbclcnaa
open Go.RowKit

theorem str_app (a b : List UInt8) : (⟨a.toArray⟩ : ByteArray) ++ ⟨b.toArray⟩ = ⟨(a ++ b).toArray⟩ := by
  apply ByteArray.ext
  simp

set_option maxRecDepth 100000 in
set_option maxHeartbeats 1000000 in
theorem walkBase64Joins (w : World) {A1 A2 : Option Addr} {n1 c1 n2 c2 : Nat} {l1 l2 : List UInt8} (h1 : BytesAt w w.heap.size A1 n1 c1 l1) (h2 : BytesAt w w.heap.size A2 n2 c2 l2) :
    Calls Try.prog 6 #[.slice A1 n1 c1, .slice A2 n2 c2] w fun e w' => e = .returned (.bool true) ∧ Below w.heap.size w w' := by
  have hc1 := h1.2.1
  have hc2 := h2.2.1
  have hm1 := h1.2.2.1
  have hm2 := h2.2.2.1
  unfold maxLen at hm1 hm2
  have hlen1 := Lib.hid h1.len
  have hlen2 := Lib.hid h2.len
  by_cases hl : 1000 < n1
  · have hl1 : (1000 : Int) < n1 := by omega
    go_enter Try.func6, Try.ntmps6
    go_wp2_with fail
    refine (fixed03 _).mono ?_
    rintro e w' ⟨rfl, hb⟩
    go_wp2_with fail
    go_ret
    exact ⟨rfl, hb⟩
  have hl1 : decide ((1000 : Int) < n1) = false := decide_eq_false (by omega)
  have hl1' : decide (1000 < n1) = false := decide_eq_false (by omega)
  by_cases hk : 1000 < n2
  · have hk1 : (1000 : Int) < n2 := by omega
    go_enter Try.func6, Try.ntmps6
    go_wp2_with fail
    refine (fixed03 _).mono ?_
    rintro e w' ⟨rfl, hb⟩
    go_wp2_with fail
    go_ret
    exact ⟨rfl, hb⟩
  have hk1 : decide ((1000 : Int) < n2) = false := decide_eq_false (by omega)
  have hk1' : decide (1000 < n2) = false := decide_eq_false (by omega)
  obtain ⟨m, hm⟩ : ∃ m, n1 / 3 * 3 = m := ⟨_, rfl⟩
  have hm' : (n1 : Int) / 3 * 3 = m := by omega
  have hmn : m ≤ n1 := by omega
  have hmn' : (m : Int) ≤ c1 := by omega
  have hm3 : m % 3 = 0 := by omega
  have ht := h1.to_ hmn
  have HT := Lib.hid ht
  have HAPP := Lib.hid (show enc64 (l1.take m ++ l2) = enc64 (l1.take m) ++ enc64 l2 from enc64_app _ _ (by rw [List.length_take, ← hlen1.out]; omega))
  have own0 : ∀ W : World, (W.alloc (.cells #[] 5)).ownsRow W.heap.size 5 1 (.slice (some ⟨W.heap.size, 0, none⟩) 0 0) 0 [] := fun W =>
    ⟨rfl, .inr ⟨W.heap.size, 0, #[], rfl, Nat.le_refl _, heap_alloc_new _ _, Nat.le_refl _, Nat.zero_le _, rfl, rfl⟩⟩
  have OWN0 := Lib.hid (own0 w)
  have HH1 := Lib.hid h1
  have HH2 := Lib.hid h2
  have hT0 : (bytesV (l1.take m)) = [] ++ bytesV (l1.take m) := rfl
  have HAL := Lib.hid ((Below.refl w.heap.size w).alloc (Nat.le_refl _) (.cells #[] 5))
  have hlA : (l1.take m ++ l2).length = m + n2 := by rw [List.length_append, List.length_take, ← hlen1.out, ← hlen2.out]; omega
  have HLA := Lib.hid hlA
  have HEL := Lib.hid (show (enc64 (l1.take m ++ l2)).length = (m + n2 + 2) / 3 * 4 from by rw [enc64_len, hlA])
  obtain ⟨SA, hSA⟩ : ∃ SA, (⟨(enc64 (l1.take m ++ l2)).toArray⟩ : ByteArray) = SA := ⟨_, rfl⟩
  obtain ⟨S1, hS1⟩ : ∃ SA, (⟨(enc64 (l1.take m)).toArray⟩ : ByteArray) = SA := ⟨_, rfl⟩
  obtain ⟨S2, hS2⟩ : ∃ SA, (⟨(enc64 l2).toArray⟩ : ByteArray) = SA := ⟨_, rfl⟩
  have hcat : S1 ++ S2 = SA := by rw [← hS1, ← hS2, ← hSA, str_app, HAPP.out]
  have hz : SA.size = (m + n2 + 2) / 3 * 4 := by rw [← hSA]; exact HEL.out
  have hz2 : S1.size + S2.size = SA.size := by rw [← hcat, ByteArray.size_append]
  have hz3 : (SA.size : Int) = ((m : Int) + n2 + 2) / 3 * 4 := by omega
  have hz4 : ((SA.size : Int) == ((m : Int) + n2 + 2) / 3 * 4) = true := beq_yes hz3
  have hlim : ¬ 9223372036854775807 < S1.size + S2.size := by omega
  have hlim2 : S1.size + S2.size ≤ 9223372036854775807 := by omega
  have hcmp : (SA.toList == (S1 ++ S2).toList) = true := by rw [hcat]; exact beq_self_eq_true _
  have HSA := Lib.hid hSA
  have HS1 := Lib.hid hS1
  have HS2 := Lib.hid hS2
  have HCAT := Lib.hid hcat
  have HZ3 := Lib.hid hz3
  clear hm ht own0 h1 h2 hT0 hlA hSA hS1 hS2 hcat hz hz3
  go_enter Try.func6, Try.ntmps6
  go_wp2_with (first
    | (at_builtin; refine wpList_append_row rfl (.tmp 21) (.tmp 22) _ rfl w.heap.size 5 _ 1 1 Try.underlying22 infoByte rfl (by omega) _ 0 [] rfl OWN0.out w.heap.size A1 m c1 (bytesV (l1.take m)) rfl (RowAt.alloc HT.out (Nat.le_refl _) _) one_bytes m (Nat.zero_add _) (bytesV (l1.take m)) rfl (by unfold maxLen; omega) (by omega) (by simp) ?_; intro A3 c3 w3 hown3 hb3 hg3; have HO3 := Lib.hid hown3; have HB3 := Lib.hid (HAL.out.trans hb3); clear hown3 hb3 hg3)
    | (at_builtin; refine wpList_append_row rfl (.tmp 23) (.tmp 24) _ rfl w.heap.size 5 _ 1 1 Try.underlying22 infoByte rfl (by omega) _ m (bytesV (l1.take m)) rfl HO3.out w.heap.size A2 n2 c2 (bytesV l2) rfl (RowAt.below HH2.out HB3.out) one_bytes (m + n2) rfl (bytesV (l1.take m ++ l2)) (by simp [bytesV]) (by unfold maxLen; omega) (by omega) HB3.out.size ?_; intro A4 c4 w4 hown4 hb4 hg4; have HO4 := Lib.hid hown4; have HB4 := Lib.hid (HB3.out.trans hb4); clear hown4 hb4 hg4))
  refine (fixed03 _).mono ?_
  rintro e w5 ⟨rfl, hb5⟩
  have hs4 := HB4.out.size
  have R4 := Lib.hid (RowAt.mono (RowAt.below (RowAt.of_own HO4.out) hb5) hb5.size)
  have hb45 := HB4.out.trans (hb5.mono hs4)
  have R1 := Lib.hid (RowAt.mono (RowAt.below HT.out hb45) hb45.size)
  have R2 := Lib.hid (RowAt.mono (RowAt.below HH2.out hb45) hb45.size)
  have HB5 := Lib.hid hb45
  clear hb5 hb45
  go_wp2_with fail
  refine (encode64_any (l := l1.take m ++ l2) _ R4.out (by omega)).mono ?_
  rintro e w6 ⟨he, hb6⟩
  rw [HSA.out] at he
  subst he
  have R14 := Lib.hid (RowAt.mono (RowAt.below R4.out hb6) hb6.size)
  have R11 := Lib.hid (RowAt.mono (RowAt.below R1.out hb6) hb6.size)
  have R12 := Lib.hid (RowAt.mono (RowAt.below R2.out hb6) hb6.size)
  have HB6 := Lib.hid (HB5.out.trans (hb6.mono HB5.out.size))
  clear hb6
  go_wp2_with fail
  refine (encode64_any _ R11.out (by omega)).mono ?_
  rintro e w7 ⟨he, hb7⟩
  rw [HS1.out] at he
  subst he
  have R24 := Lib.hid (RowAt.mono (RowAt.below R14.out hb7) hb7.size)
  have R22 := Lib.hid (RowAt.mono (RowAt.below R12.out hb7) hb7.size)
  have HB7 := Lib.hid (HB6.out.trans (hb7.mono HB6.out.size))
  clear hb7
  go_wp2_with fail
  refine (encode64_any _ R22.out (by omega)).mono ?_
  rintro e w8 ⟨he, hb8⟩
  rw [HS2.out] at he
  subst he
  have R34 := Lib.hid (RowAt.mono (RowAt.below R24.out hb8) hb8.size)
  have HB8 := Lib.hid (HB7.out.trans (hb8.mono HB7.out.size))
  clear hb8
  go_wp2_with fail
  refine (encode64_any (l := l1.take m ++ l2) _ R34.out (by omega)).mono ?_
  rintro e w9 ⟨he, hb9⟩
  rw [HSA.out] at he
  subst he
  have HB9 := Lib.hid (HB8.out.trans (hb9.mono HB8.out.size))
  clear hb9
  go_wp2_with fail
  go_ret
  exact ⟨by simp, HB9.out⟩
end Go.Proofs.Ytdapcilhbclcnaa
