/- '[]byte(s)' of a string, and of a constant: a new row that reads as its bytes. -/
import Derived.Test.YtdapcilhbclcnaaWords
import Derived.Lib.ConvBytes
import Derived.Lib.SlBytesConst
namespace Go.Proofs.Ytdapcilhbclcnaa
open Go.RowKit

theorem below_bytes (w : World) (e : TypeId) (s : ByteArray) : Below w.heap.size w (Lib.bytesWorld w e s) := by
  refine ⟨rfl, rfl, rfl, by rw [Lib.bytesWorld_size]; omega, fun k hk => Lib.bytesWorld_at_old w e s k hk⟩
/-- '[]byte(s)': the new row. -/
theorem run_bytes_new {P : Program} (w : World) (src dst e : TypeId) (s : ByteArray) (hs : P.underlying src = some .string) (hd : P.underlying dst = some (.slice e)) (he : P.underlying e = some (.int .u8)) (hm : s.size ≤ maxLen) :
    ∃ c w1, (convert src dst (.string s)).run P w = .ok (.slice (some ⟨w.heap.size, 0, none⟩) s.size c) w1 ∧ BytesAt w1 (w.heap.size + 1) (some ⟨w.heap.size, 0, none⟩) s.size c s.data.toList ∧ w1.heap.size = w.heap.size + 1 ∧ Below w.heap.size w w1 := by
  refine ⟨_, _, Lib.run_convert_string_bytes w src dst e s hs hd he, ?_, Lib.bytesWorld_size w e s, below_bytes w e s⟩
  refine ⟨by rw [length_bytesV, str_len, Nat.mul_one], grownCap_ge _ _ _ _, grownCap_le_maxLen _ _ _ _ hm, fun _ => ⟨_, _, rfl, by omega, fun j u hu => ?_⟩⟩
  have hj : j < s.size := by
    rcases Nat.lt_or_ge j s.size with h | h
    · exact h
    · rw [List.getElem?_eq_none (by rw [length_bytesV, str_len]; exact h)] at hu; cases hu
  rw [Nat.zero_add, Lib.bytesWorld_cell w e s j hj]
  rw [← hu, bytesV, List.getElem?_map, List.getElem?_eq_getElem (by rw [str_len]; exact hj), List.getD_eq_getElem?_getD, List.getElem?_eq_getElem (by rw [str_len]; exact hj)]
  rfl
/-- The row of a constant's bytes, marked. -/
theorem const_bytes_at (w : World) (l : List UInt8) (cs : Array Value) (n : Nat) (e : TypeId) (f : Nat × Nat) (hl : (bytesV l).toArray = cs) (hn : l.length = n) (hm : n ≤ maxLen) : BytesAt (w.alloc (.cells cs e f)) (w.alloc (.cells cs e f)).heap.size (some ⟨w.heap.size, 0, none⟩) n n l := by
  subst hl hn
  refine ⟨by rw [length_bytesV, Nat.mul_one], Nat.le_refl _, hm, fun _ => ⟨_, _, rfl, by rw [World.size_alloc]; omega, fun j u hu => ?_⟩⟩
  rw [Nat.zero_add]
  have hc : (w.alloc (.cells (bytesV l).toArray e f)).heap[w.heap.size]? = some (.cells (bytesV l).toArray e f) := heap_alloc_new _ _
  unfold World.cell?
  rw [hc]
  simpa using hu
/-- The same, the block's number written out. -/
theorem const_bytes_g {w : World} (g : Nat) (hg : w.heap.size = g) (l : List UInt8) (cs : Array Value) (n : Nat) (e : TypeId) (f : Nat × Nat) (hl : (bytesV l).toArray = cs) (hn : l.length = n) (hm : n ≤ maxLen) : BytesAt (w.alloc (.cells cs e f)) (w.alloc (.cells cs e f)).heap.size (some ⟨g, 0, none⟩) n n l := by
  subst hg
  exact const_bytes_at w l cs n e f hl hn hm
end Go.Proofs.Ytdapcilhbclcnaa
