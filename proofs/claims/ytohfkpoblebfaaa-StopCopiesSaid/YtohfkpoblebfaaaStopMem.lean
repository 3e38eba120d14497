/- A watch in memory: the small functions. -/
import Derived.Test.YtohfkpoblebfaaaStopLaw
import Derived.Test.YtohfkpoblebfaaaAhoAs
namespace Go.Proofs.Ytohfkpoblebfaaa
open Go.RowKit
set_option linter.unusedVariables false

/-- A watch's block. -/
def WBlk (w : World) (q g : Nat) (st sn pl fr : Int) : Prop := w.heap[q]? = some (.cells #[.pointer (some ⟨g, 0, none⟩), .int .i64 st, .int .i64 sn, .int .i64 pl, .int .i64 fr] 70 (0, 0))
section
variable {w : World} {q g : Nat} {st sn pl fr : Int}
theorem WBlk.cells (h : WBlk w q g st sn pl fr) : w.cell? ⟨q, 0, none⟩ = some (.pointer (some ⟨g, 0, none⟩)) ∧ w.cell? ⟨q, 1, none⟩ = some (.int .i64 st) ∧ w.cell? ⟨q, 2, none⟩ = some (.int .i64 sn) ∧ w.cell? ⟨q, 3, none⟩ = some (.int .i64 pl) ∧ w.cell? ⟨q, 4, none⟩ = some (.int .i64 fr) :=
  ⟨Lib.cell_of_heap h 0, Lib.cell_of_heap h 1, Lib.cell_of_heap h 2, Lib.cell_of_heap h 3, Lib.cell_of_heap h 4⟩
theorem WBlk.lt (h : WBlk w q g st sn pl fr) : q < w.heap.size := (Array.getElem?_eq_some_iff.1 h).1
theorem WBlk.below {w' : World} (h : WBlk w q g st sn pl fr) (hb : Below w.heap.size w w') : WBlk w' q g st sn pl fr := (hb.block q h.lt).trans h
end
set_option maxHeartbeats 400000 in
theorem hit_any {q g : Nat} {st sn pl fr : Int} {o : Bool} (w : World) (h : WBlk w q g st sn pl fr) (ho : (pl != -1) = o) : Calls Try.prog 44 #[.pointer (some ⟨q, 0, none⟩)] w fun e w' => e = .returned (.bool o) ∧ w = w' := by
  obtain ⟨c0, c1, c2, c3, c4⟩ := h.cells
  clear h
  go_enter Try.func44, Try.ntmps44
  go_wp2_with fail
  go_ret
  exact ⟨by rw [← ho]; rfl, rfl⟩
set_option maxHeartbeats 400000 in
theorem seen_any {q g : Nat} {st sn pl fr : Int} (w : World) (h : WBlk w q g st sn pl fr) : Calls Try.prog 32 #[.pointer (some ⟨q, 0, none⟩)] w fun e w' => e = .returned (.int .i64 sn) ∧ w = w' := by
  obtain ⟨c0, c1, c2, c3, c4⟩ := h.cells
  clear h
  go_enter Try.func32, Try.ntmps32
  go_wp2_with fail
  go_ret
  exact ⟨rfl, rfl⟩
theorem seen_nil (w : World) : Calls Try.prog 32 #[.pointer none] w fun e w' => e = .returned (.int .i64 0) ∧ w = w' := by
  go_enter Try.func32, Try.ntmps32
  go_wp2_with fail
  go_ret
  exact ⟨rfl, rfl⟩
set_option maxHeartbeats 400000 in
theorem hitm_any {q g : Nat} {st sn pl fr : Int} {o : Bool} (w : World) (h : WBlk w q g st sn pl fr) (ho : (pl != -1) = o) : Calls Try.prog 35 #[.pointer (some ⟨q, 0, none⟩)] w fun e w' => e = .returned (if o then .tuple #[.int .i64 pl, .int .i64 fr] else .tuple #[.int .i64 (-1), .int .i64 0]) ∧ ∃ k, w' = w.drewN k := by
  have HB := Lib.hid h
  obtain ⟨c0, c1, c2, c3, c4⟩ := h.cells
  clear h
  have HO := Lib.hid ho
  clear ho
  cases o with
  | true =>
    go_enter Try.func35, Try.ntmps35
    go_wp2_with fail
    refine (hit_any w HB.out HO.out).mono ?_
    rintro e w' ⟨rfl, rfl⟩
    go_wp2_with fail
    go_quiet (fail)
    go_wp2_with fail
    go_ret2
    exact ⟨rfl, _, rfl⟩
  | false =>
    go_enter Try.func35, Try.ntmps35
    go_wp2_with fail
    refine (hit_any w HB.out HO.out).mono ?_
    rintro e w' ⟨rfl, rfl⟩
    go_wp2_with fail
    go_ret2
    exact ⟨rfl, 0, rfl⟩
theorem hitm_nil (w : World) : Calls Try.prog 35 #[.pointer none] w fun e w' => e = .returned (.tuple #[.int .i64 (-1), .int .i64 0]) ∧ w = w' := by
  go_enter Try.func35, Try.ntmps35
  go_wp2_with fail
  go_ret2
  exact ⟨rfl, rfl⟩
theorem copy_nil (w : World) : Calls Try.prog 36 #[.pointer none] w fun e w' => e = .returned (.pointer none) ∧ w = w' := by
  go_enter Try.func36, Try.ntmps36
  go_wp2_with fail
  go_ret
  exact ⟨rfl, rfl⟩
theorem held_nil (w : World) : Calls Try.prog 33 #[.pointer none] w fun e w' => e = .returned (.int .i64 0) ∧ w = w' := by
  go_enter Try.func33, Try.ntmps33
  go_wp2_with fail
  go_ret
  exact ⟨rfl, rfl⟩
theorem free_nil (w : World) : Calls Try.prog 31 #[.pointer none] w fun e w' => e = .returned (.int .i64 0) ∧ w = w' := by
  go_enter Try.func31, Try.ntmps31
  go_wp2_with fail
  go_ret
  exact ⟨rfl, rfl⟩
theorem feed_nil {A : Option Addr} {n c : Nat} (w : World) : Calls Try.prog 29 #[.pointer none, .slice A n c] w fun e w' => e = .returned (.tuple #[.int .i64 0, .bool false]) ∧ w = w' := by
  go_enter Try.func29, Try.ntmps29
  go_wp2_with fail
  go_ret2
  exact ⟨rfl, rfl⟩
set_option maxHeartbeats 400000 in
theorem copy_any {q g : Nat} {st sn pl fr : Int} (w : World) (h : WBlk w q g st sn pl fr) : Calls Try.prog 36 #[.pointer (some ⟨q, 0, none⟩)] w fun e w' => e = .returned (.pointer (some ⟨w.heap.size, 0, none⟩)) ∧ WBlk w' w.heap.size g st sn pl fr ∧ Below w.heap.size w w' := by
  obtain ⟨c0, c1, c2, c3, c4⟩ := h.cells
  clear h
  go_enter Try.func36, Try.ntmps36
  go_wp2_with fail
  go_ret
  exact ⟨rfl, heap_alloc_new w _, (Below.refl _ w).alloc (Nat.le_refl _) _⟩
set_option maxHeartbeats 1000000 in
theorem depth_quiet {B g c : Nat} {ns : List Nd} {f : Vs} {A : Option Addr} (n : Int) (w : World) (h : Mach w B g ns f A c) (h0 : 0 < ns.length) (hm : ns.length ≤ 100000) :
    Calls Try.prog 23 #[.pointer (some ⟨g, 0, none⟩), .int .i64 n] w fun e w' => e = .returned (.int .i64 ((nd ns (stOf ns n)).depth : Int)) ∧ ∃ k, w' = w.drewN k := by
  obtain ⟨x, hx⟩ : ∃ x, stOf ns n = x := ⟨_, rfl⟩
  have hxl : x < ns.length := by rw [← hx]; exact stOf_lt h0
  rw [hx]
  have m0 := h.cell
  obtain ⟨a, rfl, hal, -, n0, n1, n2, n3, n4⟩ := h.node hxl
  have hcap := h.cap
  unfold maxLen at hcap
  obtain ⟨hcap1, hcap2⟩ := hcap
  have HM := Lib.hid h
  have HX := Lib.hid hx
  clear h hx n0 n1 n3 n4
  go_enter Try.func23, Try.ntmps23
  go_wp2_with fail
  go_quiet ((go_at_call 42; exact Calls.quiet_of_same (state_q _ _ HM.out HX.out)))
  go_wp2_with fail
  go_ret
  exact ⟨rfl, _, rfl⟩
/-- A watch that saw a row of symbols. -/
structure WAt (w0 w : World) (l : List Wd) (q : Nat) (s : Wd) (B g : Nat) (ns : List Nd) (W : List Wd) (f : Vs) (A : Option Addr) (c : Nat) : Prop where
  mac : MkL w0 l B g ns W f A c
  bel : Below w0.heap.size w0 w
  far : w0.heap.size ≤ q
  blk : ∃ st : Int, WBlk w q g st (s.length : Int) (endsOf l s).1 (fromW l s) ∧ Stands ns W st s
section
variable {w0 w w' : World} {l W : List Wd} {B g c q : Nat} {ns : List Nd} {f : Vs} {A : Option Addr} {s : Wd}
theorem WAt.below (h : WAt w0 w l q s B g ns W f A c) (hb : Below w.heap.size w w') : WAt w0 w' l q s B g ns W f A c :=
  ⟨h.mac, h.bel.trans (hb.mono h.bel.size), h.far, by obtain ⟨st, h1, h2⟩ := h.blk; exact ⟨st, h1.below hb, h2⟩⟩
theorem WAt.mkl (h : WAt w0 w l q s B g ns W f A c) : MkL w l B g ns W f A c := h.mac.below h.bel
theorem WAt.lt (h : WAt w0 w l q s B g ns W f A c) : q < w.heap.size := by obtain ⟨st, h1, h2⟩ := h.blk; exact h1.lt
end
theorem hitB_ne (l : List Wd) (s : Wd) : ((endsOf l s).1 != -1) = hitB l s := by
  unfold hitB
  by_cases h : (endsOf l s).1 = -1
  · rw [bne_no h, decide_eq_false (by simpa using h)]
  · rw [bne_yes h, decide_eq_true h]
theorem seen_as {w0 : World} {l W : List Wd} {B g c q : Nat} {ns : List Nd} {f : Vs} {A : Option Addr} {s : Wd} (w : World) (h : WAt w0 w l q s B g ns W f A c) :
    Calls Try.prog 32 #[.pointer (some ⟨q, 0, none⟩)] w fun e w' => e = .returned (.int .i64 (s.length : Int)) ∧ w = w' := by
  obtain ⟨st, hb, hs⟩ := h.blk
  exact seen_any w hb
set_option maxHeartbeats 1000000 in
theorem held_as {w0 : World} {l W : List Wd} {B g c q : Nat} {ns : List Nd} {f : Vs} {A : Option Addr} {s : Wd} (w : World) (h : WAt w0 w l q s B g ns W f A c) :
    Calls Try.prog 33 #[.pointer (some ⟨q, 0, none⟩)] w fun e w' => e = .returned (.int .i64 (heldW l s : Int)) ∧ ∃ k, w' = w.drewN k := by
  have M := Lib.hid h.mkl
  obtain ⟨st, hb, hs⟩ := h.blk
  have hn := hitB_ne l s
  have HB := Lib.hid hb
  have HS := Lib.hid hs
  obtain ⟨c0, c1, c2, c3, c4⟩ := hb.cells
  obtain ⟨o, ho⟩ : ∃ o, hitB l s = o := ⟨_, rfl⟩
  rw [ho] at hn
  have HN := Lib.hid hn
  have HO := Lib.hid ho
  clear h hb hs hn ho c2 c3 c4
  cases o with
  | true =>
    go_enter Try.func33, Try.ntmps33
    go_wp2_with fail
    refine (hit_any w HB.out HN.out).mono ?_
    rintro e w' ⟨rfl, rfl⟩
    go_wp2_with fail
    go_ret
    exact ⟨by unfold heldW; rw [if_pos HO.out]; rfl, 0, rfl⟩
  | false =>
    have CD := Lib.hid (show ∀ k, Calls Try.prog 23 #[.pointer (some ⟨g, 0, none⟩), .int .i64 st] (w.drewN k) fun e w' => e = .returned (.int .i64 (heldL l s : Int)) ∧ ∃ m, w' = (w.drewN k).drewN m from fun k => by
      have M' := M.out.below (below_drewN (Below.refl _ _) k)
      refine (depth_quiet st (w.drewN k) M'.mach M'.ns0 (by have := M'.nsl; have := M'.small; omega)).mono ?_
      rintro e w' ⟨rfl, m, rfl⟩
      exact ⟨by rw [M'.depth HS.out], m, rfl⟩)
    go_enter Try.func33, Try.ntmps33
    go_wp2_with fail
    refine (hit_any w HB.out HN.out).mono ?_
    rintro e w' ⟨rfl, rfl⟩
    go_wp2_with fail
    go_quiet ((go_at_call 23; exact Calls.quiet_of (CD.out _)))
    go_wp2_with fail
    go_ret
    exact ⟨by unfold heldW; rw [if_neg (by rw [HO.out]; decide)]; rfl, _, rfl⟩
set_option maxHeartbeats 1000000 in
theorem free_as {w0 : World} {l W : List Wd} {B g c q : Nat} {ns : List Nd} {f : Vs} {A : Option Addr} {s : Wd} (w : World) (h : WAt w0 w l q s B g ns W f A c) (hl : s.length ≤ 1000000) :
    Calls Try.prog 31 #[.pointer (some ⟨q, 0, none⟩)] w fun e w' => e = .returned (.int .i64 (freeW l s)) ∧ ∃ k, w' = w.drewN k := by
  have HW := Lib.hid h
  obtain ⟨st, hb, hs⟩ := h.blk
  have hn := hitB_ne l s
  have HB := Lib.hid hb
  obtain ⟨c0, c1, c2, c3, c4⟩ := hb.cells
  obtain ⟨o, ho⟩ : ∃ o, hitB l s = o := ⟨_, rfl⟩
  rw [ho] at hn
  have HN := Lib.hid hn
  have HO := Lib.hid ho
  clear h hb hs hn ho c0 c1 c3
  cases o with
  | true =>
    go_enter Try.func31, Try.ntmps31
    go_wp2_with fail
    refine (hit_any w HB.out HN.out).mono ?_
    rintro e w' ⟨rfl, rfl⟩
    go_wp2_with fail
    go_ret
    exact ⟨by unfold freeW fromW; rw [if_pos HO.out, if_pos HO.out]; rfl, 0, rfl⟩
  | false =>
    obtain ⟨hd, hhd⟩ : ∃ x, heldL l s = x := ⟨_, rfl⟩
    have hd64 : hd ≤ 64 := by have := (heldL_le l s).2; omega
    have CH := Lib.hid (show ∀ k, Calls Try.prog 33 #[.pointer (some ⟨q, 0, none⟩)] (w.drewN k) fun e w' => e = .returned (.int .i64 (hd : Int)) ∧ ∃ m, w' = (w.drewN k).drewN m from fun k => by
      refine (held_as (w.drewN k) (HW.out.below (below_drewN (Below.refl _ _) k))).mono ?_
      rintro e w' ⟨rfl, m, rfl⟩
      exact ⟨by unfold heldW; rw [if_neg (by rw [HO.out]; decide), hhd], m, rfl⟩)
    have HHD := Lib.hid hhd
    have hwr : IntKind.i64.wrap ((s.length : Int) - (hd : Int)) = (s.length : Int) - (hd : Int) := by rw [IntKind.wrap_i64]; omega
    clear hhd
    go_enter Try.func31, Try.ntmps31
    go_wp2_with fail
    refine (hit_any w HB.out HN.out).mono ?_
    rintro e w' ⟨rfl, rfl⟩
    go_wp2_with fail
    go_quiet ((go_at_call 33; exact Calls.quiet_of (CH.out _)))
    go_wp2_with fail
    go_ret
    exact ⟨by unfold freeW; rw [if_neg (by rw [HO.out]; decide), HHD.out]; rfl, _, rfl⟩
theorem hitm_as {w0 : World} {l W : List Wd} {B g c q : Nat} {ns : List Nd} {f : Vs} {A : Option Addr} {s : Wd} (w : World) (h : WAt w0 w l q s B g ns W f A c) :
    Calls Try.prog 35 #[.pointer (some ⟨q, 0, none⟩)] w fun e w' => e = .returned (.tuple #[.int .i64 (endsOf l s).1, .int .i64 (fromW l s)]) ∧ ∃ k, w' = w.drewN k := by
  obtain ⟨st, hb, hs⟩ := h.blk
  refine (hitm_any w hb (hitB_ne l s)).mono ?_
  rintro e w' ⟨rfl, k, rfl⟩
  refine ⟨?_, k, rfl⟩
  cases ho : hitB l s with
  | true => rfl
  | false =>
    have h1 := hitB_no.1 ho
    have h2 : fromW l s = 0 := by unfold fromW; rw [if_neg (by rw [ho]; decide)]
    rw [h1, h2]
    rfl
end Go.Proofs.Ytohfkpoblebfaaa
