/- The walk of add. -/
import Derived.Test.YtohfkpoblebfaaaAhoInsert
import Derived.Test.YtohfkpoblebfaaaAhoStep
import Derived.Test.YtohfkpoblebfaaaAhoKeep
namespace Go.Proofs.Ytohfkpoblebfaaa
open Go.RowKit
set_option linter.unusedVariables false

set_option maxRecDepth 100000 in
set_option maxHeartbeats 1000000 in
/-- add where the symbol leads on. -/
theorem add_yes {B g c i t : Nat} {ns : List Nd} {W : List Wd} {f : Vs} {A : Option Addr} (s : Int) (w : World) (h : Mach w B g ns f A c) (ht : Trie ns W) (hm : W.length ≤ 100000) (hi : i < W.length) (hw : wayOf (nd ns i).ways s = some t) :
    Calls Try.prog 46 #[.pointer (some ⟨g, 0, none⟩), .int .i64 (i : Int), .int .i64 s] w fun e w' => e = .returned (.int .i64 (t : Int)) ∧ Below w.heap.size w w' := by
  have hlen := ht.len
  have hxl : i < ns.length := by omega
  have hcap := h.cap
  unfold maxLen at hcap
  obtain ⟨hcap1, hcap2⟩ := hcap
  have hns : ns.length ≤ 100000 := by omega
  have hwl : (nd ns i).ways.length ≤ 100000 := by have := ht.ways_le hi; omega
  have HR := Lib.hid (ht.rising i hi)
  have m0 := h.cell
  obtain ⟨a, rfl, hal, -, n0, n1, n2, n3, n4⟩ := h.node hxl
  obtain ⟨q1, q2, q3⟩ := way_place HR.out hw
  have HW := Lib.hid hw
  obtain ⟨b, off, hB, hbl, hc⟩ := (h.waysAt hxl).cells (by omega)
  obtain ⟨c0, c1⟩ := hc _ q1
  obtain ⟨P, hP⟩ : ∃ P, posOf (nd ns i).ways s = P := ⟨_, rfl⟩
  rw [hP] at q1 q3 c1
  rw [q3] at c1
  have HWA := Lib.hid (h.waysAt hxl)
  rw [hB] at n0 HWA
  have hwc := HWA.out.2.1
  have hwm := HWA.out.2.2.1
  unfold maxLen at hwm
  have HP := Lib.hid hP
  obtain ⟨ln, hln⟩ : ∃ ln, (nd ns i).ways.length = ln := ⟨_, rfl⟩
  rw [hln] at n0 q1 hwc HWA hwl
  have HLN := Lib.hid hln
  have C1 := Lib.hid c1
  have N0 := Lib.hid n0
  have M0 := Lib.hid m0
  have hgl := h.lt
  clear hw hB hc c0 c1 hP q2 q3 hln hlen h ht
  go_enter Try.func46, Try.ntmps46
  go_wp2_with fail
  refine (find_yes s _ HR.out (by rw [HLN.out]; exact hwl) HWA.out HW.out).mono ?_
  rw [HP.out]
  rintro e w2 ⟨rfl, hb2⟩
  have m0 : w2.cell? ⟨g, 0, none⟩ = some (.slice (some ⟨a, 0, none⟩) ns.length c) := (hb2.cell (p := ⟨g, 0, none⟩) hgl).trans M0.out
  have n0 : w2.cell? ⟨a, i * 5, none⟩ = some (.slice (some ⟨b, off, none⟩) ln (f i).2) := (hb2.cell (p := ⟨a, i * 5, none⟩) hal).trans N0.out
  have c1 : w2.cell? ⟨b, off + P * 2 + 1, none⟩ = some (.int .i64 (t : Int)) := (hb2.cell (p := ⟨b, off + P * 2 + 1, none⟩) hbl).trans C1.out
  have HB2 := Lib.hid hb2
  clear hb2 n1 n2 n3 n4
  go_wp2_with fail
  go_ret
  exact ⟨rfl, HB2.out⟩

/-- A new state's machine. -/
def AddTo (w : World) (B g i : Nat) (ns : List Nd) (s : Int) (e : Ending) (w' : World) : Prop := ∃ f' A' c', e = .returned (.int .i64 (ns.length : Int)) ∧ Mach w' B g (grow ns i s) f' A' c' ∧ Below B w w'

theorem infoNode : (Try.prog.info? 60).map (fun i => (i.zero, i.size, i.bytes)) = some (some (.agg #[.slice none 0 0, .int .i64 0, .int .i64 0, .int .i64 0, .int .i64 0]), 5, 56) := by kernel_rfl
set_option maxRecDepth 100000 in
set_option maxHeartbeats 2000000 in
/-- add where it doesn't. -/
theorem add_no {B g c i : Nat} {ns : List Nd} {W : List Wd} {f : Vs} {A : Option Addr} (s : Int) (w : World) (hBg : B ≤ g) (h : Mach w B g ns f A c) (ht : Trie ns W) (hm : W.length ≤ 90000) (hi : i < W.length) (hdp : (nd ns i).depth ≤ 100000) (hw : wayOf (nd ns i).ways s = none) :
    Calls Try.prog 46 #[.pointer (some ⟨g, 0, none⟩), .int .i64 (i : Int), .int .i64 s] w (AddTo w B g i ns s) := by
  have hlen := ht.len
  have hxl : i < ns.length := by omega
  have hcap := h.cap
  unfold maxLen at hcap
  obtain ⟨hcap1, hcap2⟩ := hcap
  have hns : ns.length ≤ 90000 := by omega
  have hwl : (nd ns i).ways.length ≤ 90000 := by have := ht.ways_le hi; omega
  have HR := Lib.hid (ht.rising i hi)
  have m0 := h.cell
  obtain ⟨a, rfl, hal, hBa, n0, n1, n2, n3, n4⟩ := h.node hxl
  have HW := Lib.hid hw
  obtain ⟨P, hP⟩ : ∃ P, posOf (nd ns i).ways s = P := ⟨_, rfl⟩
  have hPl : P ≤ (nd ns i).ways.length := by rw [← hP]; exact posOf_le _ _
  have HWA := Lib.hid (h.waysAt hxl)
  have HP := Lib.hid hP
  obtain ⟨ln, hln⟩ : ∃ ln, (nd ns i).ways.length = ln := ⟨_, rfl⟩
  rw [hln] at n0 HWA hwl hPl
  have HLN := Lib.hid hln
  have N0 := Lib.hid n0
  have N2 := Lib.hid n2
  have M0 := Lib.hid m0
  have HM := Lib.hid h
  have hgl := h.lt
  have HT := Lib.hid ht
  clear hw hP hln hlen h ht
  go_enter Try.func46, Try.ntmps46
  go_wp2_with fail
  refine (find_no s _ HR.out (by rw [HLN.out]; omega) HWA.out HW.out).mono ?_
  rw [HP.out]
  rintro e w2 ⟨rfl, hb2⟩
  have m0 : w2.cell? ⟨g, 0, none⟩ = some (.slice (some ⟨a, 0, none⟩) ns.length c) := (hb2.cell (p := ⟨g, 0, none⟩) hgl).trans M0.out
  have n0 : w2.cell? ⟨a, i * 5, none⟩ = some (.slice (f i).1 ln (f i).2) := (hb2.cell (p := ⟨a, i * 5, none⟩) hal).trans N0.out
  have n2 : w2.cell? ⟨a, i * 5 + 2, none⟩ = some (.int .i64 ((nd ns i).depth : Int)) := (hb2.cell (p := ⟨a, i * 5 + 2, none⟩) hal).trans N2.out
  have M2 := Lib.hid (HM.out.below hb2)
  have HB2 := Lib.hid hb2
  have hgl2 := M2.out.lt
  have hal2 : a < w2.heap.size := by have := hb2.size; omega
  have hf2 : w2.frozen? ⟨a, i * 5, none⟩ = false := M2.out.nodes.frozenAt _
  have hO := Lib.hid (show w2.ownsRow B 68 2 (.slice (f i).1 ln (f i).2) ln (waysV (nd ns i).ways) from by have := M2.out.ways i hxl; rw [HLN.out] at this; exact this)
  clear hb2 n1 n3 n4
  go_wp2_with fail
  have hZ := Lib.hid (show (w2.alloc (.cells #[.int .i64 s, .int .i64 (ns.length : Int)] 68)).drew.heap.size = w2.heap.size + 1 from by show (w2.alloc _).heap.size = _; simp)
  have hB3 := Lib.hid (show Below w2.heap.size w2 (w2.alloc (.cells #[.int .i64 s, .int .i64 (ns.length : Int)] 68)).drew from ((Below.refl _ w2).alloc (Nat.le_refl _) _).drew)
  have hgB : B ≤ w2.heap.size := by omega
  have HINS := Lib.hid (insert_any (B := B) (vb := w2.heap.size) (x := .int .i64 s) (y := .int .i64 (ns.length : Int)) (i := P) ((w2.alloc (.cells #[.int .i64 s, .int .i64 (ns.length : Int)] 68)).drew) (by rw [hZ.out]; omega) (by omega) hPl (own_kept hO.out hB3.out (Nat.le_refl _)) (heap_alloc_new w2 _)
    (fun e => by have := (hO.out.lt _ e).2; omega) rfl rfl ways_one)
  have KEEP := Lib.hid (fun (w5 : World) (hg5 : (w2.alloc (.cells #[.int .i64 s, .int .i64 (ns.length : Int)] 68)).drew.grownBy w5 (Value.ownBlock (.slice (f i).1 ln (f i).2))) =>
    let h3 := M2.out.below hB3.out
    let hw3 := own_kept hO.out hB3.out (Nat.le_refl _)
    (show w5.cell? ⟨g, 0, none⟩ = some (.slice (some ⟨a, 0, none⟩) ns.length c) ∧ w5.cell? ⟨a, i * 5, none⟩ = some (.slice (f i).1 ln (f i).2) ∧ w5.frozen? ⟨a, i * 5, none⟩ = false ∧ w5.frozen? ⟨g, 0, none⟩ = false ∧ g < w5.heap.size ∧ a < w5.heap.size from by
      have hk := grown_block hw3 hg5 h3.blk (by decide)
      have hn := h3.nodes.kept hg5 (own_apart h3.nodes hw3 (by decide))
      have hc := hn.cellAt (i * 5 + 0) (by omega)
      rw [nodesV_get hxl (by omega)] at hc
      refine ⟨Lib.cell_of_heap hk 0, ?_, hn.frozenAt _, Lib.frozen_of_heap hk 0, (Array.getElem?_eq_some_iff.1 hk).1, (hn.lt a rfl).2⟩
      rw [show i * 5 = i * 5 + 0 from rfl, hc, ← HLN.out]; rfl))
  have hi0 : (0 : Int) ≤ (i : Int) := by omega
  have hi1 : (i : Int) < (ns.length : Int) := by omega
  have z1 := World.new_ne w2 ⟨g, 0, none⟩ m0
  have z2 := World.new_ne w2 ⟨a, i * 5, none⟩ n0
  go_region_with (go_at_call 50; refine HINS.out.mono ?_; rintro e w5 ⟨A5, c5, rfl, ho5, hg5, hl5⟩; obtain ⟨k1, k2, k3, k4, k5, k6⟩ := KEEP.out w5 hg5; have HO5 := Lib.hid ho5; have HG5 := Lib.hid hg5; have HL5 := Lib.hid hl5; clear ho5 hg5 hl5)
  all_goals
    have M6 := Lib.hid (show Mach (w5.setCell ⟨a, i * 5, none⟩ (.slice A5 (ln + 1) c5)) B g (ns.set i (insNd ns i s)) (f.at_ i (A5, c5)) (some ⟨a, 0, none⟩) c from by
      have h5 := ins_mach (A' := A5) (c' := c5) (s := s) M2.out hxl hB3.out (by rw [HLN.out, HP.out]; exact HO5.out) (by rw [HLN.out]; exact HG5.out) HL5.out
      rw [HLN.out] at h5
      exact h5)
    have B6 := Lib.hid (show Below B w (w5.setCell ⟨a, i * 5, none⟩ (.slice A5 (ln + 1) c5)) from
      (((HB2.out.mono (by omega)).trans (hB3.out.mono hgB)).trans ((Below.refl B _).grown HG5.out (by rw [hZ.out]; omega) (fun k hk => (hO.out.lt k hk).1))).setCell (p := ⟨a, i * 5, none⟩) hBa _)
    obtain ⟨w6, hw6⟩ : ∃ w6, w6 = w5.setCell ⟨a, i * 5, none⟩ (.slice A5 (ln + 1) c5) := ⟨_, rfl⟩
    rw [← hw6] at M6 B6 ⊢
    clear hw6 k1 k2 k3 k4 k5 k6 HO5 HG5 HL5 m0 n0 n2 z1 z2
    have hl6 := Lib.hid (show (ns.set i (insNd ns i s)).length = ns.length from List.length_set)
    have m6 : w6.cell? ⟨g, 0, none⟩ = some (.slice (some ⟨a, 0, none⟩) ns.length c) := by have := M6.out.cell; rw [hl6.out] at this; exact this
    have g6 := M6.out.lt
    have hgB6 : B ≤ w6.heap.size := by omega
    have N6 := Lib.hid (show w6.ownsRow B 60 5 (.slice (some ⟨a, 0, none⟩) ns.length c) ns.length (nodesV (ns.set i (insNd ns i s)) (f.at_ i (A5, c5))) from by have := M6.out.nodes; rw [hl6.out] at this; exact this)
    have K6 := Lib.hid (show w6.heap[g]? = some (.cells #[.slice (some ⟨a, 0, none⟩) ns.length c] 63 (0, 0)) from by have := M6.out.blk; rw [hl6.out] at this; exact this)
    have HRB := Lib.hid (new_row_at (w := w6) (cs := #[.slice none 0 0, .int .i64 0, .int .i64 ((nd ns i).depth + 1 : Int), .int .i64 (-1), .int .i64 0]) [.slice none 0 0, .int .i64 0, .int .i64 ((nd ns i).depth + 1 : Int), .int .i64 (-1), .int .i64 0] 60 rfl rfl rfl)
    have HON := Lib.hid (show ∀ u ∈ ([.slice none 0 0, .int .i64 0, .int .i64 ((nd ns i).depth + 1 : Int), .int .i64 (-1), .int .i64 0] : List Value), u.oneCell' = true from one_node (Nd.new ((nd ns i).depth + 1)) (none, 0))
    have L6 := Lib.hid (show B ≤ (w6.alloc (.cells #[.slice none 0 0, .int .i64 0, .int .i64 ((nd ns i).depth + 1 : Int), .int .i64 (-1), .int .i64 0] 60)).heap.size from by simp; omega)
    go_wp2_with (at_builtin; refine wpList_append_row rfl (.tmp 75) (.tmp 78) _ rfl B 60 _ 5 56 Try.underlying61 infoNode rfl (by decide) (.slice (some ⟨a, 0, none⟩) ns.length c) ns.length (nodesV (ns.set i (insNd ns i s)) (f.at_ i (A5, c5))) rfl (N6.out.alloc _) (w6.heap.size + 1) (some ⟨w6.heap.size, 0, none⟩) 1 1 [.slice none 0 0, .int .i64 0, .int .i64 ((nd ns i).depth + 1 : Int), .int .i64 (-1), .int .i64 0] rfl HRB.out HON.out (ns.length + 1) rfl _ rfl (by unfold maxLen; omega) (by omega) L6.out ?_; intro A7 c7 w7 hown7 hb7 hg7; have O7 := Lib.hid hown7; have B7 := Lib.hid (B6.out.trans (((Below.refl B w6).alloc hgB6 _).trans hb7)); have G7 := Lib.hid hg7; have W7 := Lib.hid (grown_block (N6.out.alloc _) hg7 ((Below.heap_alloc w6 _ _ g6).trans K6.out) (by decide)); obtain ⟨p1, q1⟩ : w7.cell? ⟨g, 0, none⟩ = some (.slice (some ⟨a, 0, none⟩) ns.length c) ∧ w7.frozen? ⟨g, 0, none⟩ = false := ⟨Lib.cell_of_heap W7.out 0, Lib.frozen_of_heap W7.out 0⟩; clear hown7 hb7 hg7)
    go_ret
    have h8 := app_mach (w2 := w7) (x := Nd.new ((nd ns i).depth + 1)) (A' := A7) (c' := c7) M6.out ((Below.refl _ w6).alloc (Nat.le_refl _) _) rfl (by rw [hl6.out]; exact O7.out) (by rw [hl6.out]; exact G7.out)
    rw [hl6.out] at h8
    exact ⟨_, A7, c7, rfl, h8, B7.out.setCell (p := ⟨g, 0, none⟩) hBg _⟩
end Go.Proofs.Ytohfkpoblebfaaa
