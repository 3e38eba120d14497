/- A bytes.Buffer in memory, and the writes into it. -/
import Derived.Test.YtefhifmilmedhaaDoorLineDig
import Derived.Test.YtefhifmilmedhaaDoorMem
import Derived.Test.YtefhifmilmedhaaDoorShelf
namespace Go.Proofs.YtefhifmilmedhaaDoor
open Go.RowKit
set_option linter.unusedVariables false

theorem str_no {s : List UInt8} (h : s ≠ []) : (strOf s).toList.isEmpty = false := by rw [ByteArray.toList_eq, strOf_list]; simpa using h
theorem str_no' {s : List UInt8} (h : s ≠ []) : ¬ (strOf s).toList = [] := by rw [ByteArray.toList_eq, strOf_list]; exact h
theorem str_yes {s : List UInt8} (h : s = []) : (strOf s).toList = [] := by rw [ByteArray.toList_eq, strOf_list]; exact h
theorem IsBuffer.keep {B b : Nat} {bs : List Value} {w w' : World} (h : Lib.IsBuffer 78 5 B b bs w) (hb : Below w.heap.size w w') : Lib.IsBuffer 78 5 B b bs w' := by
  obtain ⟨h1, v, lr, h2, h3, h4⟩ := h
  exact ⟨h1, v, lr, (hb.block b (Array.getElem?_eq_some_iff.1 h2).1).trans h2, own_kept h3 hb (Nat.le_refl _), h4⟩
theorem byteCells_eq (l : List UInt8) : Lib.byteCells l = bytesV l := rfl
theorem one_bytesW {l : List UInt8} : ∀ u ∈ bytesV l, u.oneCell' = true := by
  intro u hu
  unfold bytesV at hu
  obtain ⟨x, _, rfl⟩ := List.mem_map.1 hu
  rfl
theorem bytesV_appW (a b : List UInt8) : bytesV (a ++ b) = bytesV a ++ bytesV b := by simp [bytesV]
/-- A buffer that the call made holds these bytes. -/
def Buf (g : Nat) (F : List UInt8) (w : World) : Prop := Lib.IsBuffer 78 5 g g (bytesV F) w
theorem Buf.keep {g : Nat} {F : List UInt8} {w w' : World} (h : Buf g F w) (hb : Below w.heap.size w w') : Buf g F w' := IsBuffer.keep h hb
theorem Buf.lt {g : Nat} {F : List UInt8} {w : World} (h : Buf g F w) : g < w.heap.size := Lib.IsBuffer.lt h
theorem buf_string {g : Nat} {F : List UInt8} (X : List UInt8) (w : World) (h : Buf g F w) (hl : F.length + X.length ≤ 2000000) :
    Calls Tryd.prog 41 #[.pointer (some ⟨g, 0, none⟩), .string (strOf X)] w fun e w' => e = .returned (.tuple #[.int .i64 ((strOf X).size : Int), .nilIface]) ∧ Buf g (F ++ X) w' ∧ Below g w w' ∧ Lib.OthersKept 5 (some g) w w' := by
  refine (Tryd.Buffer_WriteString_kept g g (bytesV F) (strOf X) w h (Nat.le_of_lt h.lt) one_bytesW (by rw [length_bytesV, strOf_size]; omega)).mono ?_
  rintro e w' ⟨h1, h2, h3, h4⟩
  refine ⟨h1, ?_, h3, h4⟩
  unfold Buf
  rw [bytesV_appW]
  exact h2
theorem buf_byte {g : Nat} {F : List UInt8} (x : UInt8) (z : Int) (hx : (x.toNat : Int) = z) (w : World) (h : Buf g F w) (hl : F.length ≤ 2000000) :
    Calls Tryd.prog 43 #[.pointer (some ⟨g, 0, none⟩), .int .u8 z] w fun e w' => e = .returned .nilIface ∧ Buf g (F ++ [x]) w' ∧ Below g w w' ∧ Lib.OthersKept 5 (some g) w w' := by
  subst hx
  refine (Tryd.Buffer_WriteByte_kept g g (bytesV F) (x.toNat : Int) w h (Nat.le_of_lt h.lt) one_bytesW (by rw [length_bytesV]; omega)).mono ?_
  rintro e w' ⟨h1, h2, h3, h4⟩
  refine ⟨h1, ?_, h3, h4⟩
  unfold Buf
  rw [bytesV_appW]
  exact h2
theorem below_dw {B : Nat} {a w : World} (h : Below B a w) (n : Nat) : Below B a (w.drewN n) := ⟨h.os, h.tape, h.output, h.size, h.block⟩
theorem tab_later {w w' : World} (h : Tab10 w) (hb : Below w.heap.size w w') : Tab10 w' := Lib.tabBelow_of_tabIs h w' hb
theorem buf_stringM {g : Nat} {F : List UInt8} (X : List UInt8) (w : World) (h : Buf g F w) (hl : F.length + X.length ≤ 100000000) :
    Calls Tryd.prog 41 #[.pointer (some ⟨g, 0, none⟩), .string (strOf X)] w fun e w' => e = .returned (.tuple #[.int .i64 ((strOf X).size : Int), .nilIface]) ∧ Buf g (F ++ X) w' ∧ Below g w w' ∧ Lib.OthersKept 5 (some g) w w' := by
  refine (Tryd.Buffer_WriteString_kept g g (bytesV F) (strOf X) w h (Nat.le_of_lt h.lt) one_bytesW (by rw [length_bytesV, strOf_size]; omega)).mono ?_
  rintro e w' ⟨h1, h2, h3, h4⟩
  refine ⟨h1, ?_, h3, h4⟩
  unfold Buf
  rw [bytesV_appW]
  exact h2
end Go.Proofs.YtefhifmilmedhaaDoor
