/- Small lemmas of no program: results of four values, equations of endings, facts on bytes. -/
import Derived.WalkKit
import Derived.WalkSpells
import Derived.WalkLawsBesides
import Derived.Lib.Hide
import Derived.Laws.BitsAllLaws
import Derived.Laws.BitsLemmas
import Derived.Lib.Strings
namespace Go.Proofs.YtkiggpbmlkfdpaaDoor
open Go.RowKit

theorem results_tmp4 {fn : Func} {t u v x : Tmp} (h : fn.results = #[.tmp t, .tmp u, .tmp v, .tmp x]) (tmps : Array Value) (P : Program) (w : World) :
    (results fn tmps).run P w = .ok (.tuple #[tmps.getD t undef, tmps.getD u undef, tmps.getD v undef, tmps.getD x undef]) w := by simp [results, h]
theorem results_none {fn : Func} (h : fn.results = #[]) (tmps : Array Value) (P : Program) (w : World) : (results fn tmps).run P w = .ok (.tuple #[]) w := by simp [results, h]
theorem ret4 (k1 k2 k3 k4 : IntKind) {a b c d : Int} {x : Int × Int × Int × Int} (h : x = (a, b, c, d)) :
    Ending.returned (.tuple #[.int k1 a, .int k2 b, .int k3 c, .int k4 d]) = Ending.returned (.tuple #[.int k1 x.1, .int k2 x.2.1, .int k3 x.2.2.1, .int k4 x.2.2.2]) := by subst h; rfl
theorem ret3 (k1 k2 : IntKind) {a b : Int} {c : Bool} {x : Int × Int × Bool} (h : x = (a, b, c)) :
    Ending.returned (.tuple #[.int k1 a, .int k2 b, .bool c]) = Ending.returned (.tuple #[.int k1 x.1, .int k2 x.2.1, .bool x.2.2]) := by subst h; rfl
theorem ret_int {k : IntKind} {a b : Int} (h : a = b) : Ending.returned (.int k a) = .returned (.int k b) := by rw [h]
theorem ret_bool {a b : Bool} (h : a = b) : Ending.returned (.bool a) = .returned (.bool b) := by rw [h]
theorem cons_of {α : Type} {l : List α} (h : 0 < l.length) : ∃ c r, l = c :: r := by
  cases l with
  | nil => simp at h
  | cons c r => exact ⟨c, r, rfl⟩
theorem u8_ge (x : UInt8) : (0 : Int) ≤ (x.toNat : Int) := by omega
theorem u8_le (x : UInt8) : (x.toNat : Int) ≤ 255 := by have := x.toNat_lt; omega
theorem beq_no {a b : Int} (h : a ≠ b) : (a == b) = false := by rw [beq_eq_false_iff_ne]; exact h
theorem beq_yes {a b : Int} (h : a = b) : (a == b) = true := by rw [beq_iff_eq]; exact h
theorem bne_no {a b : Int} (h : a = b) : (a != b) = false := by rw [bne_eq_false_iff_eq]; exact h
theorem bne_yes {a b : Int} (h : a ≠ b) : (a != b) = true := by rw [bne_iff_ne]; exact h

theorem ofInt_i64 (a : Nat) (ha : a < 9223372036854775808) : (BitVec.ofInt 64 (a : Int)).toNat = a := by
  rw [BitVec.ofInt_natCast, BitVec.toNat_ofNat]; exact Nat.mod_eq_of_lt (by omega)
theorem i64_or_nat (a b : Nat) (ha : a < 9223372036854775808) (hb : b < 9223372036854775808) : bits .or .i64 (a : Int) (b : Int) = ((a ||| b : Nat) : Int) := by
  have hx : a ||| b < 2 ^ 63 := Nat.or_lt_two_pow (by omega) (by omega)
  show IntKind.i64.wrap ((BitVec.ofInt 64 (a : Int) ||| BitVec.ofInt 64 (b : Int)).toNat : Int) = _
  rw [BitVec.toNat_or, ofInt_i64 a ha, ofInt_i64 b hb, IntKind.wrap_i64]
  omega
theorem i64_and_nat (a b : Nat) (ha : a < 9223372036854775808) (hb : b < 9223372036854775808) : bits .and .i64 (a : Int) (b : Int) = ((a &&& b : Nat) : Int) := by
  have hx : a &&& b < 2 ^ 63 := Nat.and_lt_two_pow _ (by omega)
  show IntKind.i64.wrap ((BitVec.ofInt 64 (a : Int) &&& BitVec.ofInt 64 (b : Int)).toNat : Int) = _
  rw [BitVec.toNat_and, ofInt_i64 a ha, ofInt_i64 b hb, IntKind.wrap_i64]
  omega
theorem and_63 (n : Int) (h0 : 0 ≤ n) (h1 : n ≤ 9223372036854775807) : bits .and .i64 n 63 = n % 64 := by
  obtain ⟨z, rfl⟩ := Int.eq_ofNat_of_zero_le h0
  have := i64_and_nat z 63 (by omega) (by omega)
  rw [show (63 : Nat) = 2 ^ 6 - 1 from rfl, Nat.and_two_pow_sub_one_eq_mod] at this
  simpa using this
/-- 'a | b' where a is a multiple of 2^k and b less than that: a sum. -/
theorem or_sum (k a y : Nat) (hy : y < 2 ^ k) (h : a * 2 ^ k + y < 9223372036854775808) : bits .or .i64 ((a * 2 ^ k : Nat) : Int) (y : Int) = ((a * 2 ^ k + y : Nat) : Int) := by
  rw [i64_or_nat _ _ (by omega) (by omega)]
  have := Nat.shiftLeft_add_eq_or_of_lt (a := a) (b := y) (i := k) hy
  rw [Nat.shiftLeft_eq] at this
  rw [← this]
/-- 'a << 6 | b' of small numbers is a sum. -/
theorem or_six (P y : Int) (h0 : 0 ≤ P) (h1 : P ≤ 1073741824) (h2 : 0 ≤ y) (h3 : y < 64) : bits .or .i64 (P * 64) y = P * 64 + y := by
  obtain ⟨p, rfl⟩ := Int.eq_ofNat_of_zero_le h0
  obtain ⟨z, rfl⟩ := Int.eq_ofNat_of_zero_le h2
  have e : ((p : Int) * 64) = ((p * 64 : Nat) : Int) := by omega
  rw [e, i64_or_nat _ _ (by omega) (by omega)]
  have := Nat.shiftLeft_add_eq_or_of_lt (a := p) (b := z) (i := 6) (by omega)
  rw [Nat.shiftLeft_eq] at this
  rw [← this]
  omega

theorem or_192 (y : Int) (h2 : 0 ≤ y) (h3 : y < 32) : bits .or .i64 192 y = 192 + y := by
  obtain ⟨z, rfl⟩ := Int.eq_ofNat_of_zero_le h2
  have := or_sum 6 3 z (by omega) (by omega)
  simpa using this
theorem or_224 (y : Int) (h2 : 0 ≤ y) (h3 : y < 16) : bits .or .i64 224 y = 224 + y := by
  obtain ⟨z, rfl⟩ := Int.eq_ofNat_of_zero_le h2
  have := or_sum 5 7 z (by omega) (by omega)
  simpa using this
theorem or_240 (y : Int) (h2 : 0 ≤ y) (h3 : y < 8) : bits .or .i64 240 y = 240 + y := by
  obtain ⟨z, rfl⟩ := Int.eq_ofNat_of_zero_le h2
  have := or_sum 4 15 z (by omega) (by omega)
  simpa using this
theorem or_128 (y : Int) (h2 : 0 ≤ y) (h3 : y < 64) : bits .or .i64 128 y = 128 + y := by
  obtain ⟨z, rfl⟩ := Int.eq_ofNat_of_zero_le h2
  have := or_sum 6 2 z (by omega) (by omega)
  simpa using this

theorem str_get (s : ByteArray) (j : Nat) (h : j < s.size) (hl : j < s.data.toList.length) : s.data.toList[j]'hl = s[j]'h := rfl
theorem str_len (s : ByteArray) : s.data.toList.length = s.size := by rw [Array.length_toList]; rfl

/-- A list of bytes as a string. -/
def strOf (l : List UInt8) : ByteArray := ⟨l.toArray⟩
theorem strOf_list (l : List UInt8) : (strOf l).data.toList = l := rfl
theorem strOf_size (l : List UInt8) : (strOf l).size = l.length := rfl
theorem strOf_data (s : ByteArray) : strOf s.data.toList = s := by cases s; simp [strOf]

theorem str_eq_iff (l : List UInt8) (s : ByteArray) (a b : Nat) : ((strOf l).toList == (s.extract a b).toList) = decide (l = (s.data.toList.drop a).take (b - a)) := by
  rw [ByteArray.toList_eq, ByteArray.toList_eq, Lib.extract_data, strOf_list]
  by_cases h : l = (s.data.toList.drop a).take (b - a) <;> simp [h]

/-- 'a | b' of numbers that share no bit: a sum, the numbers as the walk spells them. -/
theorem or_parts (k : Nat) (x a y : Int) (hx : x = a * ((2 ^ k : Nat) : Int)) (ha : 0 ≤ a) (hy0 : 0 ≤ y) (hy : y < ((2 ^ k : Nat) : Int)) (hs : x + y ≤ 9223372036854775807) : bits .or .i64 x y = x + y := by
  obtain ⟨m, rfl⟩ := Int.eq_ofNat_of_zero_le ha
  obtain ⟨z, rfl⟩ := Int.eq_ofNat_of_zero_le hy0
  subst hx
  have h1 : z < 2 ^ k := by omega
  have h2 : m * 2 ^ k + z < 9223372036854775808 := by
    have : ((m * 2 ^ k + z : Nat) : Int) ≤ 9223372036854775807 := by rw [Int.natCast_add, Int.natCast_mul]; exact hs
    omega
  have := or_sum k m z h1 h2
  rw [Int.natCast_mul] at this
  rw [this, Int.natCast_add, Int.natCast_mul]
/-- The length in a slot that holds a slice or a string: for a loop's measure. -/
def lenOf : Value → Nat | .slice _ n _ => n | .string s => s.size | _ => 0
end Go.Proofs.YtkiggpbmlkfdpaaDoor
