/- The walks of strings.Builder's copyCheck, WriteByte, Write, and what String hands back. -/
import Derived.Test.YtefhifmilmedhaaDoorWords
import Derived.Test.YtefhifmilmedhaaDoorProg
import Derived.Lib.Builder
import Derived.Laws.NewBlocks
namespace Go.Proofs.YtefhifmilmedhaaDoor
open Go.RowKit

theorem sizeBuilder : (Tryd.prog.info? 102).map (·.size) = some 2 := by kernel_rfl
theorem liesBuilder : liesAt Tryd.prog Tryd.prog.depth 102 (2 / Tryd.prog.cellsOf 102) 0 102 1 = true := by kernel_rfl
theorem infoByte : (Tryd.prog.info? 5).map (fun i => (i.zero, i.size, i.bytes)) = some (some (.int .u8 0), 1, 1) := by kernel_rfl
/-- A builder that the call made (block b, from B on) holds bytes. -/
def Bld (B b : Nat) (l : List UInt8) (w : World) : Prop := Lib.IsBuilder 102 5 B b (bytesV l) w

set_option maxHeartbeats 1000000 in
set_option maxRecDepth 100000 in
theorem copyCheck_used (b : Nat) (w : World) (h0 : w.cell? ⟨b, 0, none⟩ = some (.pointer (some ⟨b, 0, none⟩))) :
    Calls Tryd.prog 74 #[.pointer (some ⟨b, 0, none⟩)] w fun e w' => e = .returned (.tuple #[]) ∧ w = w' := by
  obtain ⟨j, hj, _⟩ := Option.map_eq_some_iff.1 sizeBuilder
  have hne := Lib.run_neq_ptr_same w ⟨b, 0, none⟩ Tryd.underlying100 hj
  go_enter Tryd.func74, Tryd.ntmps74
  go_wp2
  go_end0
  exact ⟨rfl, rfl⟩

set_option maxHeartbeats 1000000 in
set_option maxRecDepth 100000 in
theorem copyCheck_fresh (b : Nat) (w : World) (h0 : w.cell? ⟨b, 0, none⟩ = some (.pointer none)) (hsh : w.shape? b = some (102, 2)) (hfz : w.frozen? ⟨b, 0, none⟩ = false) :
    Calls Tryd.prog 74 #[.pointer (some ⟨b, 0, none⟩)] w fun e w' => e = .returned (.tuple #[]) ∧ w.setCell ⟨b, 0, none⟩ (.pointer (some ⟨b, 0, none⟩)) = w' := by
  obtain ⟨j, hj, hjs⟩ := Option.map_eq_some_iff.1 sizeBuilder
  go_enter Tryd.func74, Tryd.ntmps74
  go_wp2
  rw [Lib.run_to_unsafe w ⟨b, 0, none⟩ Tryd.underlying100 Tryd.underlying130 hj (by rw [hjs]; decide) hsh (Nat.zero_lt_succ 1)]
  simp only [Result.andThen]
  rw [Oper.upon_value]
  go_wp2
  rw [run_callFunc_extern Tryd.func87 (by kernel_rfl) (by kernel_rfl) (by kernel_rfl) (e := Extern.AbiNoEscape.same) (by kernel_rfl)]
  rw [Lib.run_noEscape]
  simp only [Result.andThen]
  rw [Oper.upon_value]
  go_wp2
  rw [Lib.run_from_unsafe w ⟨b, 0, none⟩ Tryd.underlying130 Tryd.underlying100 hj hsh liesBuilder]
  simp only [Result.andThen]
  rw [Oper.upon_value]
  go_wp2
  go_end0
  exact ⟨rfl, rfl⟩
theorem copyCheck_any {B b : Nat} {l : List UInt8} (w : World) (h : Bld B b l w) :
    Calls Tryd.prog 74 #[.pointer (some ⟨b, 0, none⟩)] w fun e w' => e = .returned (.tuple #[]) ∧ Lib.BuilderAt 102 5 B b (.pointer (some ⟨b, 0, none⟩)) (bytesV l) w' ∧ Below B w w' := by
  rcases h with h | h
  · refine (copyCheck_fresh b w h.cell0 h.shape h.frozen0).mono ?_
    rintro e w' ⟨rfl, rfl⟩
    exact ⟨rfl, h.used _, (Below.refl B w).setCell (p := ⟨b, 0, none⟩) h.1 _⟩
  · refine (copyCheck_used b w h.cell0).mono ?_
    rintro e w' ⟨rfl, rfl⟩
    exact ⟨rfl, h, Below.refl B _⟩

set_option maxHeartbeats 1000000 in
set_option maxRecDepth 100000 in
theorem writeByte_any {B b : Nat} {l : List UInt8} (c : UInt8) (w : World) (h : Bld B b l w) (hlen : l.length ≤ 1073741824) (hBw : B ≤ w.heap.size) :
    Calls Tryd.prog 59 #[.pointer (some ⟨b, 0, none⟩), .int .u8 (c.toNat : Int)] w fun e w' => e = .returned .nilIface ∧ Bld B b (l ++ [c]) w' ∧ Below B w w' := by
  go_enter Tryd.func59, Tryd.ntmps59
  go_wp2_with fail
  refine (copyCheck_any _ h).mono ?_
  rintro e w1 ⟨rfl, h1, hb1⟩
  obtain ⟨hB, v, hbk, hown, hne⟩ := h1
  rw [length_bytesV] at hown
  have c0 : w1.cell? ⟨b, 0, none⟩ = some (.pointer (some ⟨b, 0, none⟩)) := by rw [Lib.cell_of_heap hbk]; rfl
  have c1 : w1.cell? ⟨b, 1, none⟩ = some v := by rw [Lib.cell_of_heap hbk]; rfl
  have hz1 := hb1.size
  have hlt : b < w1.heap.size := Lib.BuilderAt.lt ⟨hB, v, hbk, by rw [length_bytesV]; exact hown, hne⟩
  go_wp2_with (at_builtin; refine wpList_push rfl (.tmp 11) (.tmp 13) _ rfl B 5 _ 1 Tryd.underlying22 infoByte rfl v _ _ rfl w1 w1.heap.size rfl (.int .u8 (c.toNat : Int)) rfl hown rfl (by omega) (by omega) (by unfold maxLen; omega) ?_; intro A' c' w2 hown' hb2 hgrow; have hk2 := Lib.hid ((block_kept hgrow hlt hne).trans hbk); have d1 : w2.cell? ⟨b, 1, none⟩ = some v := Lib.cell_of_heap hk2.out 1; have f1 : w2.frozen? ⟨b, 1, none⟩ = false := Lib.frozen_of_heap hk2.out 1)
  go_ret
  refine ⟨rfl, .inr ?_, (hb1.trans hb2).setCell (p := ⟨b, 1, none⟩) hB _⟩
  have hown2 : w2.ownsRow B 5 1 (.slice A' (l.length + 1) c') (bytesV (l ++ [c])).length (bytesV (l ++ [c])) := by
    rw [length_bytesV]
    simpa [bytesV] using hown'
  exact Lib.BuilderAt.put hB hk2.out hown2 (by decide)

theorem row_ne {w w' : World} {B size n c b : Nat} {A : Option Addr} {xs : List Value} (h : RowAt w B size A n c xs) (hk : ∀ k, k ≠ b → w'.heap[k]? = w.heap[k]?) (hne : ∀ g off, A = some ⟨g, off, none⟩ → g ≠ b) : RowAt w' B size A n c xs :=
  ⟨h.1, h.2.1, h.2.2.1, fun hn => by
    obtain ⟨g, off, e, hb, hc⟩ := h.2.2.2 hn
    exact ⟨g, off, e, hb, fun j u hu => (World.cell?_of_block (w := w) (hk g (hne g off e))).trans (hc j u hu)⟩⟩
theorem copyCheck_ne {B b : Nat} {l : List UInt8} (w : World) (h : Bld B b l w) :
    Calls Tryd.prog 74 #[.pointer (some ⟨b, 0, none⟩)] w fun e w' => e = .returned (.tuple #[]) ∧ Lib.BuilderAt 102 5 B b (.pointer (some ⟨b, 0, none⟩)) (bytesV l) w' ∧ Below B w w' ∧ ∀ k, k ≠ b → w'.heap[k]? = w.heap[k]? := by
  rcases h with h | h
  · refine (copyCheck_fresh b w h.cell0 h.shape h.frozen0).mono ?_
    rintro e w' ⟨rfl, rfl⟩
    exact ⟨rfl, h.used _, (Below.refl B w).setCell (p := ⟨b, 0, none⟩) h.1 _, fun k hk => Below.heap_setCell _ _ _ _ hk⟩
  · refine (copyCheck_used b w h.cell0).mono ?_
    rintro e w' ⟨rfl, rfl⟩
    exact ⟨rfl, h, Below.refl B _, fun _ _ => rfl⟩

set_option maxHeartbeats 1000000 in
set_option maxRecDepth 100000 in
theorem write_any {B b B2 n c : Nat} {l m : List UInt8} {A : Option Addr} (w : World) (h : Bld B b l w) (hs : BytesAt w B2 A n c m) (hne : ∀ g off, A = some ⟨g, off, none⟩ → g ≠ b) (hlen : l.length + m.length ≤ 1073741824) (hBw : B ≤ w.heap.size) :
    Calls Tryd.prog 66 #[.pointer (some ⟨b, 0, none⟩), .slice A n c] w fun e w' => e = .returned (.tuple #[.int .i64 n, .nilIface]) ∧ Bld B b (l ++ m) w' ∧ Below B w w' := by
  have hn := Lib.hid hs.len
  go_enter Tryd.func66, Tryd.ntmps66
  go_wp2_with fail
  refine (copyCheck_ne _ h).mono ?_
  rintro e w1 ⟨rfl, h1, hb1, hk1⟩
  have hs1 := row_ne hs hk1 hne
  obtain ⟨hB, v, hbk, hown, hneb⟩ := h1
  rw [length_bytesV] at hown
  have c0 : w1.cell? ⟨b, 0, none⟩ = some (.pointer (some ⟨b, 0, none⟩)) := by rw [Lib.cell_of_heap hbk]; rfl
  have c1 : w1.cell? ⟨b, 1, none⟩ = some v := by rw [Lib.cell_of_heap hbk]; rfl
  have hz1 := hb1.size
  have hlt : b < w1.heap.size := Lib.BuilderAt.lt ⟨hB, v, hbk, by rw [length_bytesV]; exact hown, hneb⟩
  clear hk1
  go_wp2_with (at_builtin; refine wpList_append_row rfl (.tmp 12) (.tmp 13) _ rfl B 5 _ 1 1 Tryd.underlying22 infoByte rfl (by omega) v _ _ rfl hown B2 A n c (bytesV m) rfl hs1 one_bytes (l.length + n) rfl (bytesV (l ++ m)) (by simp [bytesV]) (by have := hn.out; unfold maxLen; omega) (by have := hn.out; omega) (by omega) ?_; intro A' c' w2 hown' hb2 hgrow; have hk2 := Lib.hid ((hgrow.block b hlt (fun e => hneb e.symm)).trans hbk); have d1 : w2.cell? ⟨b, 1, none⟩ = some v := Lib.cell_of_heap hk2.out 1; have f1 : w2.frozen? ⟨b, 1, none⟩ = false := Lib.frozen_of_heap hk2.out 1)
  go_ret2
  refine ⟨rfl, .inr ?_, (hb1.trans hb2).setCell (p := ⟨b, 1, none⟩) hB _⟩
  have hown2 : w2.ownsRow B 5 1 (.slice A' (l.length + n) c') (bytesV (l ++ m)).length (bytesV (l ++ m)) := by
    rw [length_bytesV, List.length_append, ← hn.out]
    exact hown'
  exact Lib.BuilderAt.put hB hk2.out hown2 (by decide)
theorem Bld.new (B : Nat) (w : World) (hB : B ≤ w.heap.size) : Bld B w.heap.size [] (w.alloc (.cells #[.pointer none, .slice none 0 0] 102)) :=
  .inl ⟨hB, _, heap_alloc_new w _, World.ownsRow_nil _ _ _ _, by simp [Value.ownBlock]⟩
end Go.Proofs.YtefhifmilmedhaaDoor
