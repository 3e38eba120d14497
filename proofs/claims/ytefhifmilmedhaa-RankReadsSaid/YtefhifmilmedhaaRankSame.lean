/- The walk of footbridgeref07.Same. -/
import Derived.Test.YtefhifmilmedhaaRowsV
import Derived.Test.YtefhifmilmedhaaMem
import Derived.BigQuiet
import Derived.Test.YtefhifmilmedhaaStrs
namespace Go.Proofs.Ytefhifmilmedhaa
open Go.RowKit

/-- The cells of rows, the ranks any numbers. -/
def rowsI (l : List (List UInt8 × Int)) : List Value := l.flatMap fun x => [.string (strOf x.1), .int .i64 x.2]
theorem length_rowsI (l : List (List UInt8 × Int)) : (rowsI l).length = l.length * 2 := by
  induction l with
  | nil => rfl
  | cons x r ih => simp only [rowsI, List.flatMap_cons, List.length_append, List.length_cons, List.length_nil] at *; omega
def intRow (x : List UInt8 × Nat) : List UInt8 × Int := (x.1, (x.2 : Int))
theorem rowsV_eq (l : List (List UInt8 × Nat)) : rowsV l = rowsI (l.map intRow) := by
  simp [rowsV, rowsI, intRow, List.flatMap_map]
theorem rowsI_at : ∀ (l : List (List UInt8 × Int)) (i : Nat) (hi : i < l.length), (rowsI l)[i * 2]? = some (.string (strOf l[i].1)) ∧ (rowsI l)[i * 2 + 1]? = some (.int .i64 l[i].2)
  | x :: r, 0, _ => ⟨rfl, rfl⟩
  | x :: r, i + 1, hi => by
    have h := rowsI_at r i (by simpa using hi)
    have e : rowsI (x :: r) = .string (strOf x.1) :: .int .i64 x.2 :: rowsI r := rfl
    rw [e, show (i + 1) * 2 = i * 2 + 1 + 1 from by omega, show i * 2 + 1 + 1 + 1 = (i * 2 + 1) + 1 + 1 from rfl]
    simp only [List.getElem?_cons_succ, List.getElem_cons_succ]
    exact h
theorem rows_cells {w : World} {B n c : Nat} {A : Option Addr} {l : List (List UInt8 × Int)} (h : RowAt w B 2 A n c (rowsI l)) (h0 : 0 < n) :
    ∃ b off, A = some ⟨b, off, none⟩ ∧ b < B ∧ ∀ i (hi : i < l.length), w.cell? ⟨b, off + i * 2, none⟩ = some (.string (strOf l[i].1)) ∧ w.cell? ⟨b, off + (i * 2 + 1), none⟩ = some (.int .i64 l[i].2) := by
  obtain ⟨b, off, e, hb, hc⟩ := h.2.2.2 h0
  exact ⟨b, off, e, hb, fun i hi => ⟨hc _ _ (rowsI_at l i hi).1, hc _ _ (rowsI_at l i hi).2⟩⟩
theorem rows_len {w : World} {B n c : Nat} {A : Option Addr} {l : List (List UInt8 × Int)} (h : RowAt w B 2 A n c (rowsI l)) : n = l.length := by
  have := h.1
  rw [length_rowsI] at this
  omega

theorem eq_row (a b : ByteArray) (c d : Int) (w : World) : (Op.equalIn 10000 43 (.agg #[.string a, .int .i64 c]) (.agg #[.string b, .int .i64 d])).run Try.prog w = .ok (a.toList == b.toList && c == d) w := by
  have hS : Try.prog.underlying 43 = some (.struct (Try.prog.fieldsOf 43)) := by kernel_rfl
  have hp : Try.prog.stoodInHeld 43 = false := by kernel_rfl
  have u1 := Try.underlying9
  have u3 := Try.underlying3
  have a1 := Try.isAgg9
  have a3 := Try.isAgg3
  rw [show (10000 : Nat) = 9999 + 1 from rfl, run_equalIn_agg w 9999 43 _ _ hS hp]
  simp only [Program.fieldsOf, Try.underlying43]
  go_simp
  by_cases h1 : a.toList = b.toList <;> by_cases h2 : c = d <;> simp [h1, h2]
theorem neq_row {s1 s2 : List UInt8} {c d : Int} {o : Bool} (h : decide ((s1, c) = (s2, d)) = o) (w : World) : (binOp .neq 43 (.agg #[.string (strOf s1), .int .i64 c]) (.agg #[.string (strOf s2), .int .i64 d])).run Try.prog w = .ok (.bool (!o)) w := by
  subst h
  rw [run_neq_struct, eq_row, Result.andThen_ok]
  by_cases h1 : s1 = s2
  · subst h1
    by_cases h2 : c = d
    · subst h2; simp
    · rw [beq_no h2]; simp [h2]
  · rw [str_ne_of h1]; simp [h1]
theorem eql_row {s1 s2 : List UInt8} {c d : Int} {o : Bool} (h : decide ((s1, c) = (s2, d)) = o) (w : World) : (binOp .eql 43 (.agg #[.string (strOf s1), .int .i64 c]) (.agg #[.string (strOf s2), .int .i64 d])).run Try.prog w = .ok (.bool o) w := by
  subst h
  rw [run_eql_struct, eq_row, Result.andThen_ok]
  by_cases h1 : s1 = s2
  · subst h1
    by_cases h2 : c = d
    · subst h2; simp
    · rw [beq_no h2]; simp [h2]
  · rw [str_ne_of h1]; simp [h1]

theorem eq_fault (a b c d : Int) (w : World) : (Op.equalIn 10000 27 (.agg #[.int .i64 a, .int .i64 c]) (.agg #[.int .i64 b, .int .i64 d])).run Try.prog w = .ok (a == b && c == d) w := by
  have hS : Try.prog.underlying 27 = some (.struct (Try.prog.fieldsOf 27)) := by kernel_rfl
  have hp : Try.prog.stoodInHeld 27 = false := by kernel_rfl
  have u1 := Try.underlying25
  have u3 := Try.underlying3
  have a1 := Try.isAgg25
  have a3 := Try.isAgg3
  rw [show (10000 : Nat) = 9999 + 1 from rfl, run_equalIn_agg w 9999 27 _ _ hS hp]
  simp only [Program.fieldsOf, Try.underlying27]
  go_simp
  by_cases h1 : a = b <;> by_cases h2 : c = d <;> simp [h1, h2]
theorem eql_fault {a b c d : Int} {o : Bool} (h : decide ((a, c) = (b, d)) = o) (w : World) : (binOp .eql 27 (.agg #[.int .i64 a, .int .i64 c]) (.agg #[.int .i64 b, .int .i64 d])).run Try.prog w = .ok (.bool o) w := by
  subst h
  rw [run_eql_struct, eq_fault, Result.andThen_ok]
  by_cases h1 : a = b <;> by_cases h2 : c = d <;> simp [h1, h2]
set_option maxRecDepth 100000 in
set_option maxHeartbeats 1000000 in
theorem sameRows_any {A A' : Option Addr} {n n' c c' B B' : Nat} {l l' : List (List UInt8 × Int)} (w : World) (h : RowAt w B 2 A n c (rowsI l)) (h' : RowAt w B' 2 A' n' c' (rowsI l')) :
    Calls Try.prog 8 #[.slice A n c, .slice A' n' c'] w fun e w' => e = .returned (.bool (decide (l = l'))) ∧ ∃ k, w' = w.drewN k := by
  have e1 := rows_len h
  have e2 := rows_len h'
  by_cases hn : n = n'
  · subst hn
    have hcap := h.2.2.1
    have hcn := h.2.1
    unfold maxLen at hcap
    subst e1
    have E2 := Lib.hid e2
    clear e2
    go_enter Try.func8, Try.ntmps8
    go_wp2_with fail
    go_loopw [13] (fun i wr => ∃ k q : Nat, k ≤ l.length ∧ i = .int .i64 k ∧ l.take k = l'.take k ∧ wr = w.drewN q) (fun i _ => l.length - (intOf i).toNat)
    case atStart => exact ⟨0, 0, Nat.zero_le _, rfl, by simp, rfl⟩
    case round =>
      obtain ⟨k, q, hk, rfl, ht, rfl⟩ := hrel
      by_cases hlt : k < l.length
      · have hk2 : k < l'.length := by have := E2.out; omega
        obtain ⟨b, off, rfl, hb, hc⟩ := rows_cells h (by omega)
        obtain ⟨b', off', rfl, hb', hc'⟩ := rows_cells h' (by omega)
        have c1 : w.cell? ⟨b, off + k * 2, none⟩ = some (.string (strOf (l[k]'hlt).1)) := (hc k hlt).1
        have c2 : w.cell? ⟨b', off' + k * 2, none⟩ = some (.string (strOf (l'[k]'hk2).1)) := (hc' k hk2).1
        have c3 : w.cell? ⟨b, off + k * 2 + 1, none⟩ = some (.int .i64 (l[k]'hlt).2) := (hc k hlt).2
        have c4 : w.cell? ⟨b', off' + k * 2 + 1, none⟩ = some (.int .i64 (l'[k]'hk2).2) := (hc' k hk2).2
        have hti : l.take (k + 1) = l.take k ++ [l[k]'hlt] := by rw [List.take_add_one, List.getElem?_eq_getElem hlt]; rfl
        have hti' : l'.take (k + 1) = l'.take k ++ [l'[k]'hk2] := by rw [List.take_add_one, List.getElem?_eq_getElem hk2]; rfl
        obtain ⟨⟨s1, r1⟩, hx1⟩ : ∃ x, l[k]'hlt = x := ⟨_, rfl⟩
        obtain ⟨⟨s2, r2⟩, hx2⟩ : ∃ x, l'[k]'hk2 = x := ⟨_, rfl⟩
        rw [hx1] at hti c1 c3
        rw [hx2] at hti' c2 c4
        simp only at c1 c2 c3 c4
        have HX1 := Lib.hid hx1
        have HX2 := Lib.hid hx2
        have HT1 := Lib.hid hti
        have HT2 := Lib.hid hti'
        have HTT := Lib.hid ht
        clear hx1 hx2 hti hti' ht hc hc'
        by_cases hx : (s1, r1) = (s2, r2)
        · have hq := neq_row (o := true) (decide_eq_true hx)
          have HT := Lib.hid (show l.take (k + 1) = l'.take (k + 1) from by rw [HT1.out, HT2.out, HTT.out, hx])
          clear hx
          go_wp2_with fail
          go_quiet (fail)
          go_wp2_with fail
          go_roundw
          case rel => exact ⟨k + 1, q + nq, by omega, rfl, HT.out, rfl⟩
          case measure => show l.length - ((k : Int) + 1).toNat < l.length - ((k : Int)).toNat; omega
        · have hq := neq_row (o := false) (decide_eq_false hx)
          have HN := Lib.hid (show l ≠ l' from fun e => by subst e; exact hx (HX1.out.symm.trans HX2.out))
          clear hx
          go_wp2_with fail
          go_quiet (fail)
          go_wp2_with fail
          go_ret
          exact ⟨by rw [decide_eq_false HN.out]; rfl, ⟨q + nq, drewN_drewN _ _ _⟩⟩
      · obtain rfl : k = l.length := by omega
        have HE := Lib.hid (show l = l' from by rw [List.take_of_length_le (Nat.le_refl _), List.take_of_length_le (by have := E2.out; omega)] at ht; exact ht)
        clear ht
        go_wp2_with fail
        go_ret
        exact ⟨by rw [decide_eq_true HE.out]; rfl, ⟨q, rfl⟩⟩
  · have hn' := bne_yes (a := (n : Int)) (b := (n' : Int)) (by omega)
    have HN := Lib.hid (show l ≠ l' from fun e => by subst e; omega)
    clear e1 e2
    go_enter Try.func8, Try.ntmps8
    go_wp2_with fail
    go_ret
    exact ⟨by rw [decide_eq_false HN.out]; rfl, 0, rfl⟩
end Go.Proofs.Ytefhifmilmedhaa
