/- The walk of the reference's Decode. -/
import Derived.Test.YtkiggpbmlkfdpaaDoorUtfRefD
namespace Go.Proofs.YtkiggpbmlkfdpaaDoor
open Go.RowKit

/-- The reference's answer as a value. -/
def rDecV (l : List UInt8) (final : Bool) : Value := .agg #[.int .i64 (rDec l final).1, .int .i64 (rDec l final).2.1, .bool (rDec l final).2.2]
theorem rDecV_of {l : List UInt8} {final : Bool} {p k : Int} {more : Bool} (h : rDec l final = (p, k, more)) : Ending.returned (.agg #[.int .i64 p, .int .i64 k, .bool more]) = .returned (rDecV l final) := by
  unfold rDecV; rw [h]

set_option maxRecDepth 100000 in
set_option maxHeartbeats 1000000 in
theorem rdecode_any (s : ByteArray) (final : Bool) (w : World) (hm : s.size ≤ maxLen) :
    Calls Tryd.prog 47 #[.string s, .bool final] w fun e w' => e = .returned (rDecV s.data.toList final) ∧ Below w.heap.size w w' := by
  have hm' := hm
  unfold maxLen at hm'
  have HL := Lib.hid (str_len s)
  by_cases h0 : s.size = 0
  · have hs : s.data.toList = [] := List.eq_nil_of_length_eq_zero (by rw [str_len]; exact h0)
    have hs1 : s.toList = [] := by rw [ByteArray.toList_eq]; exact hs
    have HR : Hid (rDec s.data.toList final = (-1, 0, true)) := by rw [hs]; rfl
    clear hs
    go_enter Tryd.func47, Tryd.ntmps47
    go_wp2_with fail
    exact bodyPost_ret (v := .agg #[.int .i64 (-1), .int .i64 0, .bool true]) (by simp [results, Tryd.results47, go_sem]) rfl ⟨rDecV_of HR.out, (Below.refl _ _).alloc (Nat.le_refl _) _⟩
  · have hs0 : 0 < s.size := by omega
    have hs2 : (0 : Int) < s.size := by omega
    have hs1 : s.toList.isEmpty = false := by
      rw [ByteArray.toList_eq]
      rcases hl : s.data.toList with _ | ⟨x, r⟩
      · have := str_len s; rw [hl] at this; simp at this; omega
      · rfl
    have hc1 := u8_ge s[0]
    have hc2 := u8_le s[0]
    have HC : Hid (∃ r, s.data.toList = s[0] :: r) := by
      have h := str_get s 0 hs0 (by rw [str_len]; exact hs0)
      obtain ⟨c, r, hr⟩ := cons_of (l := s.data.toList) (by rw [str_len]; exact hs0)
      refine ⟨r, ?_⟩
      simp only [hr, List.getElem_cons_zero] at h
      rw [hr, h]
    have hn : rLong (s[0].toNat : Int) = 0 ∨ 1 ≤ rLong (s[0].toNat : Int) := by unfold rLong; (repeat' split) <;> omega
    have hn4 : rLong (s[0].toNat : Int) ≤ 4 := by unfold rLong; (repeat' split) <;> omega
    have HN : Hid (∀ r, rDec (s[0] :: r) final = if (0 : Int) < rLong s[0].toNat ∧ rLong s[0].toNat ≤ ((s[0] :: r).length : Int) then
      (if (0 : Int) ≤ wholeOf (s[0] :: r) (rLong s[0].toNat).toNat then (wholeOf (s[0] :: r) (rLong s[0].toNat).toNat, rLong s[0].toNat, false) else (-1, 1, false))
      else if (0 : Int) < rLong s[0].toNat ∧ final = false ∧ mightOf (s[0] :: r) (rLong s[0].toNat).toNat = true then (-1, 0, true) else (-1, 1, false)) := fun r => rfl
    have hk := rlong_any (s[0].toNat : Int) (w.alloc (.cells #[.int .i64 0, .int .i64 0, .bool false] 77)) hc1 hc2
    obtain ⟨r, hr⟩ := HC.out
    have HD := HN.out r
    have hl := str_len s
    rw [hr] at hl
    rw [← hr, str_len] at HD
    have HD' := Lib.hid HD
    clear HD hl hr HC HN r
    generalize rLong (s[0].toNat : Int) = n at *
    have HK := Lib.hid hk
    clear hk
    rcases hn with rfl | hn
    · have HR := Lib.hid (show rDec s.data.toList final = (-1, 1, false) from by rw [HD'.out]; simp)
      go_enter Tryd.func47, Tryd.ntmps47
      go_wp2_with fail
      refine HK.out.mono ?_
      rintro e w' ⟨rfl, rfl⟩
      go_wp2_with fail
      exact bodyPost_ret (v := .agg #[.int .i64 (-1), .int .i64 1, .bool false]) (by simp [results, Tryd.results47, go_sem]) rfl ⟨rDecV_of HR.out, (Below.refl _ _).alloc (Nat.le_refl _) _⟩
    · obtain ⟨k, rfl⟩ : ∃ k : Nat, n = k := ⟨n.toNat, by omega⟩
      by_cases hkl : (k : Int) ≤ s.size
      · have hw := rwhole_any s k (w.alloc (.cells #[.int .i64 0, .int .i64 0, .bool false] 77)) (by omega) (by omega) (by omega) hm
        rw [if_pos ⟨by omega, hkl⟩, Int.toNat_natCast] at HD'
        generalize hp : wholeOf s.data.toList k = p at *
        have HW := Lib.hid hw
        clear hw hp
        go_enter Tryd.func47, Tryd.ntmps47
        go_wp2_with fail
        refine HK.out.mono ?_
        rintro e w' ⟨rfl, rfl⟩
        go_wp2_with fail
        refine HW.out.mono ?_
        rintro e w1 ⟨rfl, hb⟩
        have hz := hb.size
        have hcl : ∀ j, w1.cell? ⟨w.heap.size, j, none⟩ = (#[Value.int .i64 0, .int .i64 0, .bool false] : Array Value)[j]? := fun j => by
          rw [hb.cell (by simp), World.cell?_alloc_at _ _ _ _ rfl]
        have hfr : ∀ j, w1.frozen? ⟨w.heap.size, j, none⟩ = false := fun j => by
          rw [hb.frozen (by simp), World.frozen?_alloc_at _ _ _ _ rfl]
        have hz2 : w.heap.size < w1.heap.size := by simp at hz; omega
        have HZ := Lib.hid hb
        clear hb hz
        by_cases hp0 : 0 ≤ p
        · have HR := Lib.hid (show rDec s.data.toList final = (p, (k : Int), false) from by rw [HD'.out, if_pos hp0])
          go_wp2_with fail
          refine bodyPost_ret (v := .agg #[.int .i64 p, .int .i64 k, .bool false]) (by simp [results, Tryd.results47, go_sem, hcl]) rfl ⟨rDecV_of HR.out, ?_⟩
          repeat (refine Below.setCell ?_ (by simp) _)
          exact ((Below.refl _ _).alloc (Nat.le_refl _) _).trans (HZ.out.mono (by simp))
        · have HR := Lib.hid (show rDec s.data.toList final = (-1, 1, false) from by rw [HD'.out, if_neg hp0])
          go_wp2_with fail
          refine bodyPost_ret (v := .agg #[.int .i64 (-1), .int .i64 1, .bool false]) (by simp [results, Tryd.results47, go_sem, hcl]) rfl ⟨rDecV_of HR.out, ?_⟩
          repeat (refine Below.setCell ?_ (by simp) _)
          exact ((Below.refl _ _).alloc (Nat.le_refl _) _).trans (HZ.out.mono (by simp))
      · have hw := rmight_any s k (w.alloc (.cells #[.int .i64 0, .int .i64 0, .bool false] 77)) (by omega) (by omega) (by omega)
        rw [if_neg (fun h => hkl h.2), Int.toNat_natCast] at HD'
        generalize hp : mightOf s.data.toList k = m at *
        have HW := Lib.hid hw
        clear hw hp
        cases final
        · cases m
          · have HR := Lib.hid (show rDec s.data.toList false = (-1, 1, false) from by rw [HD'.out]; simp)
            go_enter Tryd.func47, Tryd.ntmps47
            go_wp2_with fail
            refine HK.out.mono ?_
            rintro e w' ⟨rfl, rfl⟩
            go_wp2_with fail
            refine HW.out.mono ?_
            rintro e w' ⟨rfl, rfl⟩
            go_wp2_with fail
            exact bodyPost_ret (v := .agg #[.int .i64 (-1), .int .i64 1, .bool false]) (by simp [results, Tryd.results47, go_sem]) rfl ⟨rDecV_of HR.out, (Below.refl _ _).alloc (Nat.le_refl _) _⟩
          · have HR := Lib.hid (show rDec s.data.toList false = (-1, 0, true) from by rw [HD'.out, if_pos ⟨by omega, rfl, rfl⟩])
            go_enter Tryd.func47, Tryd.ntmps47
            go_wp2_with fail
            refine HK.out.mono ?_
            rintro e w' ⟨rfl, rfl⟩
            go_wp2_with fail
            refine HW.out.mono ?_
            rintro e w' ⟨rfl, rfl⟩
            go_wp2_with fail
            exact bodyPost_ret (v := .agg #[.int .i64 (-1), .int .i64 0, .bool true]) (by simp [results, Tryd.results47, go_sem]) rfl ⟨rDecV_of HR.out, (Below.refl _ _).alloc (Nat.le_refl _) _⟩
        · have HR := Lib.hid (show rDec s.data.toList true = (-1, 1, false) from by rw [HD'.out]; simp)
          go_enter Tryd.func47, Tryd.ntmps47
          go_wp2_with fail
          refine HK.out.mono ?_
          rintro e w' ⟨rfl, rfl⟩
          go_wp2_with fail
          exact bodyPost_ret (v := .agg #[.int .i64 (-1), .int .i64 1, .bool false]) (by simp [results, Tryd.results47, go_sem]) rfl ⟨rDecV_of HR.out, (Below.refl _ _).alloc (Nat.le_refl _) _⟩
end Go.Proofs.YtkiggpbmlkfdpaaDoor
