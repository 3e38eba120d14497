/- The walk of split.Bytes. -/
import Derived.Test.YtkiggpbmlkfdpaaDoorSplitFixed
namespace Go.Proofs.YtkiggpbmlkfdpaaDoor
open Go.RowKit
set_option linter.unusedVariables false
def okT (l : List Int) : Bool := l.all fun s => !markS s
theorem okT_yes {l : List Int} (h : okT l = true) : ∀ s ∈ l, markS s = false := by
  intro s hs
  unfold okT at h
  have := List.all_eq_true.1 h s hs
  simpa using this
def ByT (text : List Int) (w : World) (e : Ending) (w' : World) : Prop :=
  (okT text = true ∧ ∃ A c, e = .returned (.tuple #[.slice A text.length c, .bool true]) ∧ BytesAt w' w'.heap.size A text.length c (text.map byteOf) ∧ Below w.heap.size w w') ∨
  (okT text = false ∧ e = .returned (.tuple #[.slice none 0 0, .bool false]) ∧ Below w.heap.size w w')
theorem okT_take {l : List Int} {k : Nat} {s : Int} (h : k < l.length) (hs : l[k] = s) : okT (l.take (k + 1)) = (okT (l.take k) && !markS s) := by
  unfold okT
  rw [List.take_add_one, List.getElem?_eq_getElem h, hs, List.all_append]
  simp
theorem okT_false {l : List Int} {k : Nat} (h : okT (l.take k) = false) : okT l = false := by
  cases hx : okT l with
  | false => rfl
  | true =>
    exfalso
    have : okT (l.take k) = true := by
      unfold okT at hx ⊢
      rw [List.all_eq_true] at hx ⊢
      exact fun s hs => hx s (List.mem_of_mem_take hs)
    rw [this] at h; cases h
theorem map_take {l : List Int} {k : Nat} {s : Int} (h : k < l.length) (hs : l[k] = s) : (l.take (k + 1)).map byteOf = (l.take k).map byteOf ++ [byteOf s] := by
  rw [List.take_add_one, List.getElem?_eq_getElem h, hs, List.map_append]; rfl
set_option maxRecDepth 100000 in
set_option maxHeartbeats 2000000 in
theorem bytes_any {A : Option Addr} {m c : Nat} {text : List Int} (w : World) (hx : IntsAt w w.heap.size A m c text) (hm : m ≤ 1000) :
    Calls Tryd.prog 33 #[.slice A m c] w (ByT text w) := by
  have hml := hx.len
  have hcm := hx.2.2.1
  have hcn := hx.2.1
  unfold maxLen at hcm
  have HX := Lib.hid hx
  have HML := Lib.hid hml
  clear hx hml
  go_enter Tryd.func33, Tryd.ntmps33
  go_wp2_with fail
  go_loopw [4, 9] (fun v i wr => ∃ (k : Nat) (A1 : Option Addr) (c1 : Nat), v = .slice A1 k c1 ∧ i = .int .i64 k ∧ k ≤ m ∧ Hid (okT (text.take k) = true) ∧ Hid (wr.ownsRow w.heap.size 5 1 (.slice A1 k c1) k (bytesV ((text.take k).map byteOf))) ∧ Hid (Below w.heap.size w wr)) (fun _ i _ => m - (intOf i).toNat)
  case atStart => exact ⟨0, none, 0, rfl, rfl, Nat.zero_le _, Lib.hid rfl, Lib.hid (World.ownsRow_nil _ _ _ _), Lib.hid (Below.refl _ _)⟩
  case round =>
    obtain ⟨k, A1, c1, rfl, rfl, hk, HK, HO, HB⟩ := hrel
    by_cases hlt : k < m
    · obtain ⟨b, off, rfl, hb, hc⟩ := HX.out.cells (Nat.lt_of_le_of_lt (Nat.zero_le _) hlt)
      have hkl : k < text.length := by rw [← HML.out]; exact hlt
      obtain ⟨s, hs⟩ : ∃ s, text[k] = s := ⟨_, rfl⟩
      have hcell : wr.cell? ⟨b, off + k, none⟩ = some (.int .i64 s) := by rw [HB.out.cell (p := ⟨b, off + k, none⟩) hb, hc k hkl, hs]
      have HOK := Lib.hid (okT_take hkl hs)
      have HMP := Lib.hid (map_take hkl hs)
      clear hc hs
      cases hmk : markS s with
      | true =>
        have HNO := Lib.hid (show okT text = false from okT_false (k := k + 1) (by rw [HOK.out, hmk]; simp))
        have HMK := Lib.hid hmk
        clear hmk
        go_wp2_with fail
        refine (mark_any s wr).mono ?_
        rw [HMK.out]
        rintro e w' ⟨rfl, rfl⟩
        go_wp2_with fail
        go_ret2
        exact .inr ⟨HNO.out, rfl, HB.out⟩
      | false =>
        have hbd := mark_no hmk
        have hw8 : IntKind.u8.wrap s = s := wrap_u8 hbd
        have HMK := Lib.hid hmk
        have HSN := Lib.hid (bytes_snoc ((text.take k).map byteOf) s hbd)
        have hzw := HB.out.size
        clear hmk
        go_wp2_with fail
        refine (mark_any s wr).mono ?_
        rw [HMK.out]
        rintro e w' ⟨rfl, rfl⟩
        go_wp2_with (at_builtin; refine wpList_push rfl (.tmp 15) (.tmp 18) _ rfl w.heap.size 5 _ 1 Tryd.underlying23 info8 rfl (.slice A1 k c1) k (bytesV ((text.take k).map byteOf)) rfl wr wr.heap.size rfl (.int .u8 s) rfl HO.out rfl hzw (by omega) (pushN (Nat.le_refl k) hk hm) ?_; intro A' c' w' hown' hb' _; have HO' := Lib.hid hown'; have HB' := Lib.hid (HB.out.trans hb'); clear hown' hb')
        go_roundw
        case rel => exact ⟨k + 1, A', c', rfl, by go_num, by omega, Lib.hid (by rw [HOK.out, HK.out, HMK.out]; rfl), Lib.hid (by rw [HMP.out, ← HSN.out]; exact HO'.out), HB'⟩
        case measure => show m - ((k : Int) + 1).toNat < m - ((k : Int)).toNat; omega
    · have hke : k = text.length := by rw [← HML.out]; omega
      have HT := Lib.hid (show text.take k = text from List.take_of_length_le (by omega))
      have HKE := Lib.hid hke
      clear hke
      go_wp2_with fail
      go_ret2
      have ho := HO.out
      rw [HT.out] at ho
      have hk := HK.out
      rw [HT.out] at hk
      exact .inl ⟨hk, A1, c1, by rw [← HKE.out]; rfl, by rw [← HKE.out]; exact RowAt.of_own ho, HB.out⟩
end Go.Proofs.YtkiggpbmlkfdpaaDoor
