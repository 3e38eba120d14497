/- A row of strings: its length, its cells; equality of strings; draws added up. -/
import Derived.Test.YtefhifmilmedhaaLineParts
import Derived.RangeFuncWrites
import Derived.RangeFuncNested
import Derived.Deep.Onto
import Derived.BigQuiet
import Derived.LoopN
/- The walk of line.Lines. -/
namespace Go.Proofs.Ytefhifmilmedhaa
open Go.RowKit Go.Shelf
attribute [local go_sem] Oper.semAt_some

/-- The cells of a row of strings. -/
def strsV (l : List (List UInt8)) : List Value := l.map fun x => .string (strOf x)
theorem length_strsV (l : List (List UInt8)) : (strsV l).length = l.length := by simp [strsV]
def StrsAt (w : World) (B : Nat) (A : Option Addr) (n c : Nat) (l : List (List UInt8)) : Prop := RowAt w B 1 A n c (strsV l)
theorem strsV_snoc (l : List (List UInt8)) (x : List UInt8) : strsV (l ++ [x]) = strsV l ++ [.string (strOf x)] := by simp [strsV]

theorem infoStr : (Try.prog.info? 9).map (fun i => (i.zero, i.size, i.bytes)) = some (some (.string ⟨#[]⟩), 1, 16) := by kernel_rfl

/-- What a round leaves that has appended one string to the row in a box. -/
theorem boxed_push {W w1 : World} {n₀ n₁ B Bs : Nat} {v v' : Value} {k m : Nat} {xs ys : List Value} {tmp : Obj} {t : TypeId}
    (hv : Boxed W B t v) (hte : t ≠ 9) (hrow : W.ownsRow n₁ 9 1 v k xs) (h01 : n₀ ≤ n₁) (hn₁ : n₁ ≤ W.heap.size) (hB : n₀ ≤ B) (hBs : B < Bs) (hB1 : Bs + 1 < n₁)
    (hown' : w1.ownsRow n₁ 9 1 v' m ys) (hgrow : (W.alloc tmp).grownBy w1 v.ownBlock) :
    Boxed w1 B t v ∧ Boxed (w1.setCell ⟨B, 0, none⟩ v') B t v' ∧ (w1.setCell ⟨B, 0, none⟩ v').ownsRow n₁ 9 1 v' m ys ∧ KeepsOthers W (w1.setCell ⟨B, 0, none⟩ v') ∧ KeepP n₀ Bs W (w1.setCell ⟨B, 0, none⟩ v') := by
  obtain ⟨a1, a2, _, a4, a5⟩ := hv.appended hte (World.ownsRow.mono hrow h01) (by omega) hB (World.ownsRow.mono hown' h01) hgrow
  refine ⟨a1, a2, hown'.kept (grownBy_setCell' w1 B v') (.inr (a1.not_row hte hown').symm), a4, a5, ?_⟩
  have hb := ((Below.refl n₁ W).alloc hn₁ tmp).grown hgrow (by simp; omega) (fun j ej => (hrow.lt j ej).1)
  have key : ∀ j, B < j → j < n₁ → (w1.setCell ⟨B, 0, none⟩ v').heap[j]? = W.heap[j]? := fun j h1 h2 =>
    ((grownBy_setCell' w1 B v').block j (by have := hb.size; omega) (fun e => by injection e with e; omega)).trans (hb.block j h2)
  exact ⟨key _ hBs (by omega), key _ (by omega) hB1⟩

set_option maxRecDepth 100000 in
set_option maxHeartbeats 1000000 in
theorem lines_in (F : Fence) (n : Nat) (h1 : F.fn 13) (h2 : F.fn 22) (h3 : F.fn 31) (hro : F.round = none) (hn : 3 ≤ n) (A : Option Addr) (m c : Nat) (l : List UInt8) (w : World) (hl : BytesAt w w.heap.size A m c l) (hm : m ≤ 1099511627776) :
    CallsIn F n Try.prog 13 #[.slice A m c] w fun e W' => ∃ v, e = .returned v ∧ W'.ownsRow w.heap.size 9 1 v (linesL l).length (strsV (linesL l)) ∧ Below w.heap.size w W' := by
  have hn1 : 1 ≤ n := by omega
  obtain ⟨i0, hi, hz0, hz1, hz2⟩ := info_parts infoStr
  refine callsIn_of_wp_marks Try.func13 rfl h1 ?_ hro
  simp only [Try.ntmps13, List.size_toArray, List.length_cons, List.length_nil, Nat.reduceAdd, Nat.reduceSub, Array.replicate_succ, Array.replicate_zero, List.push_toArray, List.append_toArray, List.nil_append, List.cons_append]
  have hml := hl.len
  by_cases h0 : m = 0
  · have hl0 : l = [] := List.eq_nil_of_length_eq_zero (by omega)
    subst hl0
    subst h0
    clear hml
    gi_wp2
    exact ⟨_, results_tmp rfl _ _ _, _, rfl, World.ownsRow_nil _ _ _ _, (Below.refl _ w).alloc (Nat.le_refl _) _⟩
  · have hp : 0 < m := by omega
    obtain ⟨b, off, rfl, hb, hc⟩ := hl.cells hp
    have hs1 := (Below.refl w.heap.size w).alloc (Nat.le_refl _) (.cells #[.slice none 0 0] 44)
    have L1 := Lib.hid (show BytesAt (w.alloc (.cells #[.slice none 0 0] 44)) w.heap.size _ m c l from RowAt.below hl hs1)
    have hcx := (hs1.cell (p := ⟨b, off + (l.length - 1), none⟩) hb).trans (hc (l.length - 1) (by omega))
    have L2 := Lib.hid (L1.out.to_ (k := l.length - 1) (by omega))
    have cv1 := run_string_bytes (P := Try.prog) 22 9 5 Try.underlying22 Try.underlying5 Try.underlying9 L1.out
    have cv2 := run_string_bytes (P := Try.prog) 22 9 5 Try.underlying22 Try.underlying5 Try.underlying9 L2.out
    have HM := Lib.hid hml
    have HL := Lib.hid hl
    have hl2 : ((l.length : Int) - 1) ≤ (c : Int) := by have := hl.2.1; omega
    subst hml
    clear hl
    by_cases hx : l[l.length - 1]'(by omega) = 10
    · have hx' : ((l[l.length - 1]'(by omega)).toNat : Int) = 10 := by rw [hx]; rfl
      rw [hx'] at hcx
      have HQ := Lib.hid (show linesL l = partsF 10 [] (l.take (l.length - 1)) from by
        unfold linesL
        rw [if_neg (by intro e; subst e; exact h0 rfl), if_pos (by rw [List.getLast?_eq_getElem?, List.getElem?_eq_getElem (by omega), hx]), List.dropLast_eq_take])
      have hQl : (l.take (l.length - 1)).length ≤ l.length := by rw [List.length_take]; omega
      clear hx hx'
      gi_wp2_with (gi_at_call 22; refine (parts_in F (n - 1) h2 hro _ _ _).mono ?_; rintro e w' ⟨rfl, rfl⟩)
      have bO := Boxed.new w 44 (.slice none 0 0)
      have bS := Boxed.new (w.alloc (.cells #[.slice none 0 0] 44)) 9 (.string (strOf (l.take (l.length - 1))))
      have bC := Boxed.new ((w.alloc (.cells #[.slice none 0 0] 44)).alloc (.cells #[.string (strOf (l.take (l.length - 1)))] 9)) 5 (.int .u8 10)
      rw [World.size_alloc] at bS bC
      rw [World.size_alloc] at bC
      have hB0 : Below w.heap.size w (((w.alloc (.cells #[.slice none 0 0] 44)).alloc (.cells #[.string (strOf (l.take (l.length - 1)))] 9)).alloc (.cells #[.int .u8 10] 5)) := (((Below.refl _ w).alloc (Nat.le_refl _) _).alloc (by simp) _).alloc (by simp; omega) _
      obtain ⟨W0, hW0⟩ : ∃ W0, W0 = (((w.alloc (.cells #[.slice none 0 0] 44)).alloc (.cells #[.string (strOf (l.take (l.length - 1)))] 9)).alloc (.cells #[.int .u8 10] 5)) := ⟨_, rfl⟩
      have hz0' : W0.heap.size = w.heap.size + 3 := by rw [hW0]; simp
      have bO' := (bO.alloc (.cells #[.string (strOf (l.take (l.length - 1)))] 9)).alloc (.cells #[.int .u8 10] 5)
      have bS' := bS.alloc (.cells #[.int .u8 10] 5)
      rw [← hW0] at hB0 bC bS' bO' ⊢
      refine wpIn_rangeFunc_ownG hro hn1 (gf := 31) (lb := #[.pointer (some ⟨w.heap.size + 1, 0, none⟩), .pointer (some ⟨w.heap.size + 1 + 1, 0, none⟩)]) rfl h3 (enters_of Try.func31 (by kernel_rfl) rfl)
        (parts_stops F (n - 1) h3 hro (by omega) (w.heap.size + 1) w.heap.size (strOf (l.take (l.length - 1))) 10 (by rw [strOf_size]; unfold maxLen; omega) _ (by omega) bS'.cell bC.cell) (fun h h' => h.trans h') (keepP_b (by omega) (by omega)) (Below.refl _ _) (fun _ => rfl)
        (fun pre W => (∃ v, Boxed W w.heap.size 44 v ∧ W.ownsRow (w.heap.size + 3) 9 1 v pre.length (strsV pre) ∧ True) ∧ Below w.heap.size W0 W)
        (fun _ _ _ => False)
        (OwnFrom.and (Own.from (holdsRow_own (w.heap.size + 3) w.heap.size 44 9 1 (fun pre : List (List UInt8) => pre.length) (fun pre => strsV pre) (fun _ _ => True)) _) (ownFrom_below (by omega) (by omega)))
        (fun _ _ _ _ _ hs _ _ => hs)
        ⟨⟨_, bO', World.ownsRow_nil _ _ _ _, trivial⟩, Below.refl _ _⟩
        (fun x => { tmps := #[.slice (some ⟨b, off, none⟩) (l.length - 1) c, undef, .slice none 0 0, .pointer (some ⟨w.heap.size, 0, none⟩), .string (strOf x), .slice (some ⟨b, off, none⟩) l.length c, .int .i64 ↑l.length, .bool false, .slice (some ⟨b, off, none⟩) l.length c, .slice (some ⟨b, off, none⟩) l.length c, .int .i64 ↑l.length, .int .i64 (↑l.length - 1), .pointer (some ⟨b, off + (l.length - 1), none⟩), .int .u8 10, .bool true, .slice (some ⟨b, off, none⟩) l.length c, .slice (some ⟨b, off, none⟩) l.length c, .int .i64 ↑l.length, .int .i64 (↑l.length - 1), .slice (some ⟨b, off, none⟩) (l.length - 1) c, .slice (some ⟨b, off, none⟩) (l.length - 1) c, .string (strOf (l.take (l.length - 1))), .func (.func 31) #[] #[.pointer (some ⟨w.heap.size + 1, 0, none⟩), .pointer (some ⟨w.heap.size + 1 + 1, 0, none⟩)], .string (strOf x), undef, undef, undef, undef, undef], defers := [] }) ?assign ?body ?done ?stop
      case assign =>
        intro l x W K hK
        gi_wp2
        exact hK
      case body =>
        rintro l pre x W ⟨⟨v, hv, hrow, -⟩, hB⟩ hlt
        have hc := hv.cell
        rw [strOf_size] at hlt
        have hBz := hB.size
        have hz3 : w.heap.size + 3 ≤ W.heap.size := by omega
        gi_wp2_with (gi_at_builtin; refine wpListIn_append_own _ rfl _ _ 44 rfl (w.heap.size + 3) 9 i0 (.string ⟨#[]⟩) 1 16 Try.underlying44 hi hz0 hz1 hz2 rfl (by decide) _ _ _ rfl (hrow.alloc _) ⟨W.heap.size, 0, none⟩ 1 1 [.string (strOf x)] rfl rfl (cell_one_new _ _ _) (by simp [Value.oneCell']) (by unfold maxLen; omega) (by omega) (by simp; omega) ?_; intro v' w1 hown' hgrow _; obtain ⟨g', cap', rfl⟩ := ownsRow_succ hown'; obtain ⟨hv1, hv2, hr2, hk2, hb2⟩ := boxed_push (n₀ := w.heap.size) (Bs := w.heap.size + 1) hv (by decide) hrow (by omega) hz3 (Nat.le_refl _) (by omega) (by omega) hown' hgrow; have hc1 := hv1.cell; have hf1 := hv1.frozen)
        exact ⟨hk2.from _, hb2, ⟨_, hv2, by rw [strsV_snoc, List.length_append]; exact hr2, trivial⟩, hB.trans hb2.1⟩
      case done =>
        rintro D ys W hD rfl ⟨⟨v, hv, hrow, -⟩, hB⟩ hK
        have hc := hv.cell
        rw [strOf_list, ← HQ.out] at hrow
        gi_wp2
        refine ⟨by simp, .inl ⟨_, _, rfl, run_takeDeferred hK, ?_⟩⟩
        exact ⟨_, results_tmp rfl _ _ _, v, rfl, World.ownsRow.mono (ownsRow_putObj hrow _ hK rfl) (by omega), (hB0.trans hB).trans (belowK_b (w := w) (Nat.le_refl _) W D _ _ (by omega) hK rfl rfl)⟩
      case stop =>
        rintro D c pre W _ _ h _
        exact h.elim
    · have hx' := beq_no (a := ((l[l.length - 1]'(by omega)).toNat : Int)) (b := 10) (fun e => hx (UInt8.toNat_inj.1 (by show (l[l.length - 1]'(by omega)).toNat = 10; omega)))
      have HQ := Lib.hid (show linesL l = partsF 10 [] l from by
        unfold linesL
        rw [if_neg (by intro e; subst e; exact h0 rfl), if_neg (by rw [List.getLast?_eq_getElem?, List.getElem?_eq_getElem (by omega)]; intro e; injection e with e; exact hx e)])
      have hQl : l.length ≤ l.length := Nat.le_refl _
      clear hx
      gi_wp2_with (gi_at_call 22; refine (parts_in F (n - 1) h2 hro _ _ _).mono ?_; rintro e w' ⟨rfl, rfl⟩)
      have bO := Boxed.new w 44 (.slice none 0 0)
      have bS := Boxed.new (w.alloc (.cells #[.slice none 0 0] 44)) 9 (.string (strOf l))
      have bC := Boxed.new ((w.alloc (.cells #[.slice none 0 0] 44)).alloc (.cells #[.string (strOf l)] 9)) 5 (.int .u8 10)
      rw [World.size_alloc] at bS bC
      rw [World.size_alloc] at bC
      have hB0 : Below w.heap.size w (((w.alloc (.cells #[.slice none 0 0] 44)).alloc (.cells #[.string (strOf l)] 9)).alloc (.cells #[.int .u8 10] 5)) := (((Below.refl _ w).alloc (Nat.le_refl _) _).alloc (by simp) _).alloc (by simp; omega) _
      obtain ⟨W0, hW0⟩ : ∃ W0, W0 = (((w.alloc (.cells #[.slice none 0 0] 44)).alloc (.cells #[.string (strOf l)] 9)).alloc (.cells #[.int .u8 10] 5)) := ⟨_, rfl⟩
      have hz0' : W0.heap.size = w.heap.size + 3 := by rw [hW0]; simp
      have bO' := (bO.alloc (.cells #[.string (strOf l)] 9)).alloc (.cells #[.int .u8 10] 5)
      have bS' := bS.alloc (.cells #[.int .u8 10] 5)
      rw [← hW0] at hB0 bC bS' bO' ⊢
      refine wpIn_rangeFunc_ownG hro hn1 (gf := 31) (lb := #[.pointer (some ⟨w.heap.size + 1, 0, none⟩), .pointer (some ⟨w.heap.size + 1 + 1, 0, none⟩)]) rfl h3 (enters_of Try.func31 (by kernel_rfl) rfl)
        (parts_stops F (n - 1) h3 hro (by omega) (w.heap.size + 1) w.heap.size (strOf l) 10 (by rw [strOf_size]; unfold maxLen; omega) _ (by omega) bS'.cell bC.cell) (fun h h' => h.trans h') (keepP_b (by omega) (by omega)) (Below.refl _ _) (fun _ => rfl)
        (fun pre W => (∃ v, Boxed W w.heap.size 44 v ∧ W.ownsRow (w.heap.size + 3) 9 1 v pre.length (strsV pre) ∧ True) ∧ Below w.heap.size W0 W)
        (fun _ _ _ => False)
        (OwnFrom.and (Own.from (holdsRow_own (w.heap.size + 3) w.heap.size 44 9 1 (fun pre : List (List UInt8) => pre.length) (fun pre => strsV pre) (fun _ _ => True)) _) (ownFrom_below (by omega) (by omega)))
        (fun _ _ _ _ _ hs _ _ => hs)
        ⟨⟨_, bO', World.ownsRow_nil _ _ _ _, trivial⟩, Below.refl _ _⟩
        (fun x => { tmps := #[.slice (some ⟨b, off, none⟩) l.length c, undef, .slice none 0 0, .pointer (some ⟨w.heap.size, 0, none⟩), .string (strOf x), .slice (some ⟨b, off, none⟩) l.length c, .int .i64 ↑l.length, .bool false, .slice (some ⟨b, off, none⟩) l.length c, .slice (some ⟨b, off, none⟩) l.length c, .int .i64 ↑l.length, .int .i64 (↑l.length - 1), .pointer (some ⟨b, off + (l.length - 1), none⟩), .int .u8 (l[l.length - 1]'(by omega)).toNat, .bool false, undef, undef, undef, undef, undef, .slice (some ⟨b, off, none⟩) l.length c, .string (strOf l), .func (.func 31) #[] #[.pointer (some ⟨w.heap.size + 1, 0, none⟩), .pointer (some ⟨w.heap.size + 1 + 1, 0, none⟩)], .string (strOf x), undef, undef, undef, undef, undef], defers := [] }) ?assign ?body ?done ?stop
      case assign =>
        intro l x W K hK
        gi_wp2
        exact hK
      case body =>
        rintro l pre x W ⟨⟨v, hv, hrow, -⟩, hB⟩ hlt
        have hc := hv.cell
        rw [strOf_size] at hlt
        have hBz := hB.size
        have hz3 : w.heap.size + 3 ≤ W.heap.size := by omega
        gi_wp2_with (gi_at_builtin; refine wpListIn_append_own _ rfl _ _ 44 rfl (w.heap.size + 3) 9 i0 (.string ⟨#[]⟩) 1 16 Try.underlying44 hi hz0 hz1 hz2 rfl (by decide) _ _ _ rfl (hrow.alloc _) ⟨W.heap.size, 0, none⟩ 1 1 [.string (strOf x)] rfl rfl (cell_one_new _ _ _) (by simp [Value.oneCell']) (by unfold maxLen; omega) (by omega) (by simp; omega) ?_; intro v' w1 hown' hgrow _; obtain ⟨g', cap', rfl⟩ := ownsRow_succ hown'; obtain ⟨hv1, hv2, hr2, hk2, hb2⟩ := boxed_push (n₀ := w.heap.size) (Bs := w.heap.size + 1) hv (by decide) hrow (by omega) hz3 (Nat.le_refl _) (by omega) (by omega) hown' hgrow; have hc1 := hv1.cell; have hf1 := hv1.frozen)
        exact ⟨hk2.from _, hb2, ⟨_, hv2, by rw [strsV_snoc, List.length_append]; exact hr2, trivial⟩, hB.trans hb2.1⟩
      case done =>
        rintro D ys W hD rfl ⟨⟨v, hv, hrow, -⟩, hB⟩ hK
        have hc := hv.cell
        rw [strOf_list, ← HQ.out] at hrow
        gi_wp2
        refine ⟨by simp, .inl ⟨_, _, rfl, run_takeDeferred hK, ?_⟩⟩
        exact ⟨_, results_tmp rfl _ _ _, v, rfl, World.ownsRow.mono (ownsRow_putObj hrow _ hK rfl) (by omega), (hB0.trans hB).trans (belowK_b (w := w) (Nat.le_refl _) W D _ _ (by omega) hK rfl rfl)⟩
      case stop =>
        rintro D c pre W _ _ h _
        exact h.elim

theorem lines_any {A : Option Addr} {m c : Nat} {l : List UInt8} (w : World) (hl : BytesAt w w.heap.size A m c l) (hm : m ≤ 1099511627776) :
    Calls Try.prog 13 #[.slice A m c] w fun e W' => ∃ v, e = .returned v ∧ W'.ownsRow w.heap.size 9 1 v (linesL l).length (strsV (linesL l)) ∧ Below w.heap.size w W' :=
  callsIn_wide.1 (lines_in Fence.wide 3 trivial trivial trivial rfl (Nat.le_refl _) A m c l w hl hm)
end Go.Proofs.Ytefhifmilmedhaa
namespace Go.Proofs.Ytefhifmilmedhaa
open Go.RowKit

section
variable {w w' : World} {B B' n c : Nat} {A : Option Addr} {l : List (List UInt8)}
theorem StrsAt.len (h : StrsAt w B A n c l) : n = l.length := by have := h.1; rw [length_strsV] at this; omega
theorem StrsAt.cells (h : StrsAt w B A n c l) (h0 : 0 < n) : ∃ b off, A = some ⟨b, off, none⟩ ∧ b < B ∧ ∀ i (hi : i < l.length), w.cell? ⟨b, off + i, none⟩ = some (.string (strOf l[i])) := by
  obtain ⟨b, off, e, hb, hc⟩ := h.2.2.2 h0
  refine ⟨b, off, e, hb, fun i hi => hc i _ ?_⟩
  simp [strsV, List.getElem?_eq_getElem hi]
end
theorem str_eq_of {a b : List UInt8} (h : a = b) : ((strOf a).toList == (strOf b).toList) = true := by rw [h]; simp
theorem str_ne_of {a b : List UInt8} (h : a ≠ b) : ((strOf a).toList == (strOf b).toList) = false := by
  rw [ByteArray.toList_eq, ByteArray.toList_eq, strOf_list, strOf_list, beq_eq_false_iff_ne]; exact h

theorem drewN_drewN (w : World) (a b : Nat) : (w.drewN a).drewN b = w.drewN (a + b) := by simp [World.drewN, Nat.add_assoc]
end Go.Proofs.Ytefhifmilmedhaa
