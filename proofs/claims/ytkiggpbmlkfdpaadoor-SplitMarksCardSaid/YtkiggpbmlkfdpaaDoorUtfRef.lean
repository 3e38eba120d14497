/- The walks of the reference's long, bits, Encode, whole, might, Decode. -/
import Derived.Test.YtkiggpbmlkfdpaaDoorUtfSpec
import Derived.Test.YtkiggpbmlkfdpaaDoorProg
namespace Go.Proofs.YtkiggpbmlkfdpaaDoor
open Go.RowKit

set_option maxHeartbeats 400000 in
theorem rlong_any (c : Int) (w : World) (h0 : 0 ≤ c) (h1 : c ≤ 255) :
    Calls Tryd.prog 70 #[.int .u8 c] w fun e w' => e = .returned (.int .i64 (rLong c)) ∧ w = w' := by
  have hd : c < 128 ∨ (128 ≤ c ∧ c < 192) ∨ (192 ≤ c ∧ c < 224) ∨ (224 ≤ c ∧ c < 240) ∨ (240 ≤ c ∧ c < 248) ∨ 248 ≤ c := by omega
  rcases hd with h | ⟨h, h'⟩ | ⟨h, h'⟩ | ⟨h, h'⟩ | ⟨h, h'⟩ | h
  all_goals
    go_enter Tryd.func70, Tryd.ntmps70
    go_wp2
    go_ret
    refine ⟨ret_int ?_, rfl⟩
    unfold rLong
    (repeat' split) <;> omega

set_option maxRecDepth 100000 in
set_option maxHeartbeats 1000000 in
theorem rbits_any (s : ByteArray) (n : Nat) (w : World) (h1 : 1 ≤ n) (h4 : n ≤ 4) (hs : n ≤ s.size) (hm : s.size ≤ maxLen) :
    Calls Tryd.prog 77 #[.string s, .int .i64 (n : Int)] w fun e w' => e = .returned (.int .i64 (rBits s.data.toList n)) ∧ w = w' := by
  unfold maxLen at hm
  have hs0 : 0 < s.size := by omega
  have hs1 : (0 : Int) < (s.size : Int) := by omega
  have hb0 := u8_ge s[0]
  have hb1 := u8_le s[0]
  have hlen := str_len s
  have hl0 : 0 < s.data.toList.length := by omega
  have HL := Lib.hid hlen
  clear hlen
  by_cases hn1 : n = 1
  · subst hn1
    have HR := Lib.hid (show rBits s.data.toList 1 = (s[0].toNat : Int) from by
      rw [← str_get s 0 hs0 hl0]
      obtain ⟨c, r, hcr⟩ := cons_of hl0
      simp [rBits, hcr])
    have e1 : ((1 : Nat) : Int) = 1 := rfl
    rw [e1]
    go_enter Tryd.func77, Tryd.ntmps77
    go_wp2
    go_ret
    exact ⟨ret_int HR.out.symm, rfl⟩
  · have hn2 : ((n : Int) == 1) = false := beq_no (by omega)
    have hn5 : 1 < (n : Int) := by omega
    have hd : n = 2 ∨ n = 3 ∨ n = 4 := by omega
    have fin : ∀ (b3 b4 : Bool), ((n : Int) == 3) = b3 → ((n : Int) == 4) = b4 → (b3 = true → b4 = false) → (rBase n = if b4 then 240 else if b3 then 224 else 192) →
        Calls Tryd.prog 77 #[.string s, .int .i64 (n : Int)] w fun e w' => e = .returned (.int .i64 (rBits s.data.toList n)) ∧ w = w' := by
      intro b3 b4 hb3 hb4 hb hbase
      have HB := Lib.hid hbase
      have HS : Hid (∀ P, P = (s[0].toNat : Int) - rBase n → RbAt s.data.toList n 1 P) := fun P hP => RbAt.start hl0 (str_get s 0 hs0 hl0 ▸ rfl) (by omega) hP
      clear hbase
      have HD := Lib.hid hd
      clear hd
      rcases b3 with _ | _ <;> rcases b4 with _ | _
      rotate_left 3
      · cases hb rfl
      all_goals
        simp only [Bool.false_eq_true, if_false, if_true] at HB
        go_enter Tryd.func77, Tryd.ntmps77
        go_wp2
        go_loop [6, 7] (fun p i => ∃ (j : Nat) (P : Int), 1 ≤ j ∧ j ≤ n ∧ p = .int .i64 P ∧ i = .int .i64 j ∧ RBd j P ∧ RbAt s.data.toList n j P) (fun _ i => n - (intOf i).toNat)
        case atStart => exact ⟨1, _, by omega, by omega, rfl, rfl, RBd.one (by omega) (by omega), HS _ (by rw [HB.out])⟩
        case round =>
          obtain ⟨j, P, j1, j2, rfl, rfl, hp, hr⟩ := hrel
          have p3 := hp.le j1 (by omega)
          have HP := Lib.hid hp
          have HR := Lib.hid hr
          clear hp hr
          by_cases hj : j < n
          · have hj1 : (j : Int) < n := by omega
            have hj2 : j < s.size := by omega
            have hj3 : (j : Int) < s.size := by omega
            have hj4 : j < s.data.toList.length := by rw [HL.out]; exact hj2
            have HE := Lib.hid (str_get s j hj2 hj4)
            have hx1 := u8_ge s[j]
            have hx2 := u8_le s[j]
            by_cases hx3 : (s[j].toNat : Int) < 128
            · have HF := Lib.hid (HR.out.bad hj hj4 (.inl (by rw [HE.out]; exact hx3)))
              go_wp2
              go_ret
              exact ⟨ret_int HF.out.symm, rfl⟩
            by_cases hx4 : 191 < (s[j].toNat : Int)
            · have HF := Lib.hid (HR.out.bad hj hj4 (.inr (by rw [HE.out]; exact hx4)))
              go_wp2
              go_ret
              exact ⟨ret_int HF.out.symm, rfl⟩
            · have HF := HR.out.good hj hj4 (by rw [HE.out]; omega) (by rw [HE.out]; omega)
              rw [HE.out] at HF
              have HF' := Lib.hid HF
              clear HF
              go_wp2
              go_round
              case rel => exact ⟨j + 1, _, by omega, by omega, rfl, by go_num, HP.out.step j1 (by omega) (by omega) (by omega), HF'.out⟩
              case measure => simp [intOf]; omega
          · have HF := Lib.hid (HR.out.over hj)
            have hj1 : ¬ (j : Int) < n := by omega
            go_wp2
            go_ret
            exact ⟨ret_int HF.out.symm, rfl⟩
    rcases hd with rfl | rfl | rfl
    · exact fin false false rfl rfl (by simp) rfl
    · exact fin true false rfl rfl (by simp) rfl
    · exact fin false true rfl rfl (by simp) rfl
end Go.Proofs.YtkiggpbmlkfdpaaDoor
