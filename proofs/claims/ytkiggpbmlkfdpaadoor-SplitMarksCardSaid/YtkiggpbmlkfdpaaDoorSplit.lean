/- The walk of split.Split. -/
import Derived.Test.YtkiggpbmlkfdpaaDoorSplitMem
namespace Go.Proofs.YtkiggpbmlkfdpaaDoor
open Go.RowKit Go.Shelf
attribute [local go_sem] Oper.semAt_some
set_option linter.unusedVariables false

/-- What a run is handed out with. -/
structure RunIt where
  pre : List (List UInt8 × Bool)
  A : Option Addr
  n : Nat
  c : Nat
  l : List UInt8
  b : Bool
abbrev encR (x : RunIt) : Array Value := #[.slice x.A x.n x.c, .bool x.b]
/-- The pieces of these runs, and whether all are decided, in memory. -/
def ConS (kind : Int) (t : List Rg) (fin : Bool) (S : Nat) (W0 : World) (pre : List (List UInt8 × Bool)) (W : World) : Prop :=
  SpSt S W0 W (cumL true (rawsOf kind t fin pre)) ((rawsOf kind t fin pre).all (·.2))
def YS (kind : Int) (t : List Rg) (fin : Bool) (text : List Int) (S : Nat) (W0 : World) (x : RunIt) (W : World) : Prop :=
  ConS kind t fin S W0 x.pre W ∧ W.ownsRow (S + 3) 5 1 (.slice x.A x.n x.c) x.n (bytesV x.l) ∧ ∃ z, x.pre ++ (x.l, x.b) :: z = runsF [] text
theorem others_turn {kind : Int} {t : List Rg} {fin : Bool} {S : Nat} {W0 W W' : World} {pre : List (List UInt8 × Bool)} {row : Option Nat} {B : Nat} (hB : S + 3 ≤ B) (h : ConS kind t fin S W0 pre W) (hg : W.grownBy W' row) (hr : ∀ r, row = some r → B ≤ r ∧ ∃ o : Obj, W.heap[r]? = some o ∧ o.isCells = false) : ConS kind t fin S W0 pre W' :=
  SpSt.turn h hg (fun r e => by
    obtain ⟨h1, o, h2, h3⟩ := hr r e
    exact ⟨by omega, o, h2, fun cs f e => by subst e; cases h3⟩)
theorem runs_len : ∀ (text : List Int) (acc : List UInt8) (pre z : List (List UInt8 × Bool)) (l : List UInt8) (b : Bool), pre ++ (l, b) :: z = runsF acc text → l.length ≤ acc.length + text.length
  | [], acc, pre, z, l, b, h => by
    rw [runsF] at h
    cases pre with
    | nil => simp at h; rw [h.1.1]; omega
    | cons x p => simp at h
  | s :: r, acc, pre, z, l, b, h => by
    rw [runsF] at h
    split at h
    · cases pre with
      | nil => simp at h; rw [h.1.1]; simp
      | cons x p =>
        rw [List.cons_append] at h
        injection h with _ h
        have := runs_len r [] p z l b h
        simp only [List.length_nil, List.length_cons] at this ⊢
        omega
    · have := runs_len r _ pre z l b h
      simp only [List.length_append, List.length_cons, List.length_nil] at this ⊢
      omega
theorem own_not {W : World} {B : Nat} {e : TypeId} {size : Nat} {v : Value} {n : Nat} {xs : List Value} {row : Option Nat} {B' : Nat} (h : W.ownsRow B e size v n xs) (hr : ∀ r, row = some r → B' ≤ r ∧ ∃ o : Obj, W.heap[r]? = some o ∧ o.isCells = false) : v.ownBlock = none ∨ v.ownBlock ≠ row := by
  rcases h.2 with ⟨rfl, _⟩ | ⟨g, cap, cur, rfl, hb, hgb, _⟩
  · exact .inl rfl
  · right
    intro e
    obtain ⟨_, o, h1, h2⟩ := hr g e.symm
    rw [hgb] at h1
    injection h1 with h1
    subst h1
    cases h2
theorem len_sum : ∀ l : List (Nat × Bool), (∀ p ∈ l, 1 ≤ p.1) → l.length ≤ (l.map (·.1)).sum
  | [], _ => Nat.le_refl _
  | p :: l, h => by
    have h1 := h p (by simp)
    have := len_sum l (fun q hq => h q (List.mem_cons_of_mem _ hq))
    rw [List.map_cons, List.sum_cons, List.length_cons]; omega
theorem cnt_le {kind : Int} {t : List Rg} (fin : Bool) {text : List Int} {pre z : List (List UInt8 × Bool)} {l : List UInt8} {b : Bool} (hk0 : 0 ≤ kind) (hk3 : kind ≤ 3) (hv : mayT t = true) (h : pre ++ (l, b) :: z = runsF [] text) :
    (rawsOf kind t fin pre).length + (rawR kind t (b || fin) l).length + (if b = true then 1 else 0) ≤ text.length := by
  have h1 := rawT_sum (fin := fin) hk0 hk3 hv text []
  have h2 := len_sum _ h1.2
  rw [h1.1, ← raws_runs, ← h] at h2
  unfold rawsOf at h2 ⊢
  rw [List.flatMap_append, List.flatMap_cons, List.length_append, List.length_append] at h2
  have h3 : (rawOne kind t fin (l, b)).length = (rawR kind t (b || fin) l).length + (if b = true then 1 else 0) := by
    unfold rawOne
    rw [List.length_append]
    split <;> simp
  rw [h3] at h2
  simp only [List.length_nil] at h2
  omega
theorem len_1000 {a : Nat} (h : a + 1 ≤ 1000) : a + 1 ≤ maxLen := by unfold maxLen; omega
theorem bytes_1000 {a : Nat} (h : a + 1 ≤ 1000) : (a + 1) * 16 ≤ 140737488355328 := by omega
/-- The inner loop's state: so many pieces of the run are done. -/
def InS (kind : Int) (t : List Rg) (fin : Bool) (S : Nat) (W0 : World) (x : RunIt) (W : World) (done : List (Nat × Bool)) (l1 : List UInt8) (wr : World) : Prop :=
  done ++ rawR kind t (x.b || fin) l1 = rawR kind t (x.b || fin) x.l ∧ SpSt S W0 wr (cumL true (rawsOf kind t fin x.pre ++ done)) ((rawsOf kind t fin x.pre ++ done).all (·.2)) ∧ KeepsOthers W wr
theorem InS.step {kind : Int} {t : List Rg} {fin : Bool} {S : Nat} {W0 W wr wr' : World} {x : RunIt} {done : List (Nat × Bool)} {l1 : List UInt8} {n : Nat} {d : Bool} {s : Bool} (hk0 : 0 ≤ kind) (hk3 : kind ≤ 3) (hv : mayT t = true) (h : InS kind t fin S W0 x W done l1 wr) (h0 : l1 ≠ []) (hn : nextP kind t l1 (x.b || fin) = (n, d))
    (hs : (rawsOf kind t fin x.pre ++ done).all (·.2) = s) (h' : SpSt S W0 wr' (cumL true (rawsOf kind t fin x.pre ++ done) ++ [(n, s && d)]) (s && d)) (hk : KeepsOthers wr wr') : InS kind t fin S W0 x W (done ++ [(n, d)]) (l1.drop n) wr' := by
  refine ⟨?_, ?_, h.2.2.trans hk⟩
  · have := h.1
    rw [rawR_step hk0 hk3 hv h0, hn] at this
    rw [← this]; simp
  · have e : (rawsOf kind t fin x.pre ++ done ++ [(n, d)]).all (·.2) = (s && d) := by rw [List.all_append, hs]; simp
    rw [← List.append_assoc, e, cum_app, hs, Bool.true_and]
    simpa [cumL] using h'
set_option maxHeartbeats 1000000 in
/-- runs hands back the iterator over one box. -/
theorem runs_in (F : Fence) (n : Nat) (hf : F.fn 48) (hro : F.round = none) (A : Option Addr) (m c : Nat) (w : World) :
    CallsIn F n Tryd.prog 48 #[.slice A m c] w fun e w' => e = .returned (.func (.func 73) #[] #[.pointer (some ⟨w.heap.size, 0, none⟩)]) ∧ w' = w.alloc (.cells #[.slice A m c] 37) := by
  refine callsIn_of_wp Tryd.func48 rfl hf ?_ hro
  simp only [Tryd.ntmps48, List.size_toArray, List.length_cons, List.length_nil, Nat.reduceAdd, Nat.reduceSub, Array.replicate_succ, Array.replicate_zero, List.push_toArray, List.append_toArray, List.nil_append, List.cons_append]
  gi_wp2
  go_ret
  exact ⟨rfl, rfl⟩
set_option maxRecDepth 100000 in
set_option maxHeartbeats 4000000 in
theorem split_in (F : Fence) (HFW : Hid (F = Fence.wide)) (hro : F.round = none) (hf0 : F.fn 25) (hf1 : F.fn 48) (hf2 : F.fn 73) (hf3 : F.fn 51) (hf4 : F.fn 36) (hf5 : F.fn 16) (n : Nat) (hn : 3 ≤ n)
    {At A : Option Addr} {nt ct m c : Nat} {t : List Rg} {text : List Int} (kind : Int) (fin : Bool) (w : World) (ht : RangesAt w w.heap.size At nt ct t) (hx : IntsAt w w.heap.size A m c text) (hnt : nt ≤ 1000) (hm : m ≤ 1000) (hk0 : 0 ≤ kind) (hk3 : kind ≤ 3) (hv : mayT t = true) :
    CallsIn F n Tryd.prog 25 #[.int .i64 kind, .slice At nt ct, .slice A m c, .bool fin] w fun e W' => ∃ v, e = .returned v ∧ W'.ownsRow w.heap.size 44 2 v (splitL kind t text fin).length (pieceV (splitL kind t text fin)) ∧ Below w.heap.size w W' := by
  have hn1 : 1 ≤ n := by omega
  have hn2 : 1 ≤ n - 1 - 1 := by omega
  obtain ⟨i0, hi, hz0, hz1, hz2⟩ := info_parts infoPiece
  have HT := Lib.hid ht
  have HX := Lib.hid hx
  have HV := Lib.hid hv
  have HML := Lib.hid hx.len
  clear ht hx hv
  refine callsIn_of_wp_marks Tryd.func25 rfl hf0 ?_ hro
  simp only [Tryd.ntmps25, List.size_toArray, List.length_cons, List.length_nil, Nat.reduceAdd, Nat.reduceSub, Array.replicate_succ, Array.replicate_zero, List.push_toArray, List.append_toArray, List.nil_append, List.cons_append]
  obtain ⟨wb, hwb⟩ : ∃ wb, wb = ((w.alloc (.cells #[.int .i64 kind] 3)).alloc (.cells #[.slice At nt ct] 22)).alloc (.cells #[.bool fin] 4) := ⟨_, rfl⟩
  have bK := Boxed.new w 3 (.int .i64 kind)
  have bT := Boxed.new (w.alloc (.cells #[.int .i64 kind] 3)) 22 (.slice At nt ct)
  have bF := Boxed.new ((w.alloc (.cells #[.int .i64 kind] 3)).alloc (.cells #[.slice At nt ct] 22)) 4 (.bool fin)
  have hbw : Below w.heap.size w wb := by rw [hwb]; exact (((Below.refl _ w).alloc (Nat.le_refl _) _).alloc (by simp) _).alloc (by simp; omega) _
  have hzb : wb.heap.size = w.heap.size + 3 := by rw [hwb]; simp
  have HBW := Lib.hid hbw
  have HZB := Lib.hid hzb
  have HWB := Lib.hid hwb
  have BK := Lib.hid (show Boxed wb w.heap.size 3 (.int .i64 kind) from by rw [hwb]; exact (bK.alloc _).alloc _)
  have BT := Lib.hid (show Boxed wb (w.heap.size + 1) 22 (.slice At nt ct) from by rw [hwb]; rw [World.size_alloc] at bT; exact bT.alloc _)
  have BF := Lib.hid (show Boxed wb (w.heap.size + 1 + 1) 4 (.bool fin) from by rw [hwb]; rw [World.size_alloc, World.size_alloc] at bF; exact bF)
  clear bK bT bF hbw hzb hwb
  gi_wp2
  rw [← HWB.out]
  refine (in_wide HFW (may_as wb (RowAt.mono (RowAt.below HT.out HBW.out) HBW.out.size) hnt HV)).mono ?_
  rintro e w1 ⟨rfl, hb1⟩
  have HB1 := Lib.hid (HBW.out.trans (hb1.mono HBW.out.size))
  have hcK := (hb1.block _ BK.out.lt).trans BK.out
  have hcT := (hb1.block _ BT.out.lt).trans BT.out
  have hcF := (hb1.block _ BF.out.lt).trans BF.out
  have HZ1 := Lib.hid (show w.heap.size + 3 ≤ w1.heap.size from by rw [← HZB.out]; exact hb1.size)
  have BK1 := Lib.hid (show Boxed w1 w.heap.size 3 (.int .i64 kind) from hcK)
  have BT1 := Lib.hid (show Boxed w1 (w.heap.size + 1) 22 (.slice At nt ct) from hcT)
  have BF1 := Lib.hid (show Boxed w1 (w.heap.size + 1 + 1) 4 (.bool fin) from hcF)
  clear hb1 hcK hcT hcF
  obtain ⟨S, hS⟩ : ∃ S, w1.heap.size = S := ⟨_, rfl⟩
  have hkd0 : decide (kind < 0) = false := decide_eq_false (by omega)
  have hkd3 : decide (3 < kind) = false := decide_eq_false (by omega)
  have bO := Boxed.new w1 41 (.slice none 0 0)
  have bS := Boxed.new (w1.alloc (.cells #[.slice none 0 0] 41)) 4 (.bool true)
  have bX := Boxed.new ((w1.alloc (.cells #[.slice none 0 0] 41)).alloc (.cells #[.bool true] 4)) 37 (.slice A m c)
  rw [World.size_alloc] at bS bX
  rw [World.size_alloc] at bX
  have hB0 : Below w1.heap.size w1 (((w1.alloc (.cells #[.slice none 0 0] 41)).alloc (.cells #[.bool true] 4)).alloc (.cells #[.slice A m c] 37)) := (((Below.refl _ w1).alloc (Nat.le_refl _) _).alloc (by simp) _).alloc (by simp; omega) _
  rw [hS] at bO bS bX hB0
  obtain ⟨W0, hW0⟩ : ∃ W0, W0 = (((w1.alloc (.cells #[.slice none 0 0] 41)).alloc (.cells #[.bool true] 4)).alloc (.cells #[.slice A m c] 37)) := ⟨_, rfl⟩
  have hz0' : W0.heap.size = S + 3 := by rw [hW0]; simp; omega
  have bO' := (bO.alloc (.cells #[.bool true] 4)).alloc (.cells #[.slice A m c] 37)
  have bS' := bS.alloc (.cells #[.slice A m c] 37)
  rw [← hW0] at bO' bS' bX hB0
  have BO := Lib.hid bO'
  have BS := Lib.hid bS'
  have BX := Lib.hid bX
  have HB0 := Lib.hid hB0
  have HZ0 := Lib.hid hz0'
  have HW0 := Lib.hid hW0
  have HSS := Lib.hid hS
  clear bO bS bX hB0 hW0 bO' bS' hz0'
  gi_wp2_with (gi_at_call 48; refine (runs_in F (n - 1) hf1 hro A m c _).mono ?_; rintro e w' ⟨rfl, rfl⟩)
  rw [← HW0.out]
  have HLOW := Lib.hid (show Below S w1 W0 from HB0.out)
  have HC0 := Lib.hid (show SpSt S W0 W0 [] true from ⟨⟨_, BO.out, World.ownsRow_nil _ _ _ _⟩, BS.out, Below.refl _ _, by rw [HZ0.out]; exact Nat.le_refl _⟩)
  have HK0 := Lib.hid (show W0.cell? ⟨w.heap.size, 0, none⟩ = some (.int .i64 kind) from (HB0.out.cell (p := ⟨w.heap.size, 0, none⟩) (by rw [← HSS.out]; exact BK1.out.lt)).trans BK1.out.cell)
  have HT0 := Lib.hid (show W0.cell? ⟨w.heap.size + 1, 0, none⟩ = some (.slice At nt ct) from (HB0.out.cell (p := ⟨w.heap.size + 1, 0, none⟩) (by rw [← HSS.out]; exact BT1.out.lt)).trans BT1.out.cell)
  have HF0 := Lib.hid (show W0.cell? ⟨w.heap.size + 1 + 1, 0, none⟩ = some (.bool fin) from (HB0.out.cell (p := ⟨w.heap.size + 1 + 1, 0, none⟩) (by rw [← HSS.out]; exact BF1.out.lt)).trans BF1.out.cell)
  have hSz : w.heap.size + 3 ≤ S := by rw [← HSS.out]; exact HZ1.out
  have HRG := Lib.hid (show RangesAt W0 S At nt ct t from RowAt.below (RowAt.mono (RowAt.below HT.out HB1.out) (by omega)) HB0.out)
  have HTX := Lib.hid (show IntsAt W0 S A m c text from RowAt.below (RowAt.mono (RowAt.below HX.out HB1.out) (by omega)) HB0.out)
  clear BK BT BF BK1 BT1 BF1 HZB HWB
  refine wpIn_range_joint hro hn1 (gf := 73) (lb := #[.pointer (some ⟨S + 1 + 1, 0, none⟩)]) rfl hf2 (enters_of Tryd.func73 (by kernel_rfl) rfl) (encs := encR) (fun _ => rfl)
    (YS kind t fin text S W0) (fun x => ConS kind t fin S W0 (x.pre ++ [(x.l, x.b)])) (ConS kind t fin S W0 (runsF [] text))
    (fun x V V' row h hg hr => ⟨others_turn (by rw [HZ0.out]; exact Nat.le_refl _) h.1 hg hr, h.2.1.kept hg (own_not h.2.1 hr), h.2.2⟩)
    (fun x V V' row h hg hr => others_turn (by rw [HZ0.out]; exact Nat.le_refl _) h hg hr)
    (fun _ V V' row h hg hr => others_turn (by rw [HZ0.out]; exact Nat.le_refl _) h hg hr)
    ?seq (fun x => { tmps := #[.int .i64 kind, .slice At nt ct, .slice A m c, .bool fin, .pointer (some ⟨w.heap.size, 0, none⟩), .pointer (some ⟨w.heap.size + 1, 0, none⟩), undef, .pointer (some ⟨w.heap.size + 1 + 1, 0, none⟩), .slice none 0 0, .pointer (some ⟨S, 0, none⟩), .pointer (some ⟨S + 1, 0, none⟩), .slice x.A x.n x.c, .bool x.b, undef, undef, .int .i64 kind, .bool false, .bool false, .int .i64 kind, .bool false, .bool false, .bool false, .slice At nt ct, .bool true, .bool false, .bool false, .slice A m c, .func (.func 73) #[] #[.pointer (some ⟨S + 1 + 1, 0, none⟩)], .slice x.A x.n x.c, .bool x.b, undef, undef, undef, undef, undef, undef, undef, undef, undef, undef, undef, undef, undef, undef, undef, undef, undef, undef, undef, undef, undef, undef, undef, undef, undef, undef, undef, undef, undef, undef, undef, undef, undef, undef], defers := [] }) ?assign ?body ?done
  case seq =>
    intro lb Bk o o' hBk hb hyld
    refine (runs1_in F HFW hro hf2 hf3 (n - 1) (by omega) lb (S + 1 + 1) S (S + 3) text A m c W0 HTX.out (by omega) (by omega) (fun pre W => ConS kind t fin S W0 pre W ∧ Bk W) (fun pre V V' row h hg hr => ⟨?t1, ?t2⟩) (fun pre V h => h.1.low) ?hY _ ?hBs ⟨?hC, hb⟩ ?hz).mono ?_
    case t1 => exact h.1.turn hg (fun r e => by obtain ⟨h1, cs, f, h2⟩ := hr r e; exact ⟨h1, _, h2, fun cs' f' e => by injection e with _ e; exact absurd e (by decide)⟩)
    case t2 => exact hBk _ _ _ h.2 hg (fun r e => by obtain ⟨h1, cs, f, h2⟩ := hr r e; exact ⟨_, h2, rfl⟩)
    case hY =>
      intro pre A' n' c' l b V hJ hown hz hpre
      refine (hyld ⟨pre, A', n', c', l, b⟩ V ⟨hJ.1, hown, hpre⟩ hJ.2).mono ?_
      rintro e V' ⟨h1, h2, h3⟩
      exact ⟨h1, ⟨h2, h3⟩, h2.big⟩
    case hBs => exact (World.cell?_alloc_lt _ _ _ (by rw [World.size_alloc]; have := BX.out.lt; exact Nat.lt_succ_of_lt this)).trans ((World.cell?_alloc_lt _ _ _ BX.out.lt).trans BX.out.cell)
    case hC => exact (HC0.out.below ((Below.refl _ _).alloc (Nat.le_refl _) _)).below ((Below.refl _ _).alloc (Nat.le_refl _) _)
    case hz => rw [World.size_alloc, World.size_alloc, HZ0.out]; omega
    rintro e V ⟨h1, h2, h3⟩
    exact ⟨h1, h2, h3⟩
  case assign =>
    intro l x W K hK
    gi_wp2
    exact hK
  case body =>
    rintro l ⟨pre, A', n', c', lr, b⟩ W ⟨hC, hown, hpre⟩
    have HCNT : Hid ((rawsOf kind t fin pre).length + (rawR kind t (b || fin) lr).length + (if b = true then 1 else 0) ≤ 1000) := Lib.hid (by
      obtain ⟨z, hz⟩ := hpre
      exact Nat.le_trans (cnt_le fin hk0 hk3 HV.out hz) (by rw [← HML.out]; exact hm))
    have hlen : lr.length ≤ text.length := by
      obtain ⟨z, hz⟩ := hpre
      have := runs_len text [] pre z lr b hz
      simpa using this
    clear hpre
    have hlr := hown.1
    rw [length_bytesV, Nat.mul_one] at hlr
    have hm1 : m ≤ 1000 := hm
    have HLT := Lib.hid (show n' ≤ 1000 from by have := HML.out; simp only at hlen hlr; omega)
    have HN1 := Lib.hid (show InS kind t fin S W0 ⟨pre, A', n', c', lr, b⟩ W [] lr W from ⟨rfl, by rw [List.append_nil]; exact hC, KeepsOthers.refl _⟩)
    have HR1 := Lib.hid (show RunAt W (S + 3) A' n' c' lr from RunAt.of_own hown)
    clear hC hown hlen
    have k0 : kind < 0 ↔ False := by simp; omega
    clear k0
    simp only
    gi_wp2
    gi_loopw [11] (fun v wr => ∃ (A1 : Option Addr) (n1 c1 : Nat) (l1 : List UInt8) (done : List (Nat × Bool)), v = .slice A1 n1 c1 ∧ n1 ≤ 1000 ∧ Hid (RunAt wr (S + 3) A1 n1 c1 l1) ∧ Hid (InS kind t fin S W0 ⟨pre, A', n', c', lr, b⟩ W done l1 wr)) (fun v _ => lenOf v)
    case atStart => exact ⟨A', n', c', lr, [], rfl, HLT.out, HR1, HN1⟩
    case round =>
      obtain ⟨A1, n1, c1, l1, done, rfl, hn1', HR, HI⟩ := hrel
      have hl1 := HR.out.1.len
      have hc1n := HR.out.1.2.1
      have hc1m := HR.out.1.2.2.1
      have hlow := HI.out.2.1.low
      have hcK : wr.cell? ⟨w.heap.size, 0, none⟩ = some (.int .i64 kind) := (hlow.cell (p := ⟨w.heap.size, 0, none⟩) (by show w.heap.size < S; omega)).trans HK0.out
      have hcT : wr.cell? ⟨w.heap.size + 1, 0, none⟩ = some (.slice At nt ct) := (hlow.cell (p := ⟨w.heap.size + 1, 0, none⟩) (by show w.heap.size + 1 < S; omega)).trans HT0.out
      have hcF : wr.cell? ⟨w.heap.size + 1 + 1, 0, none⟩ = some (.bool fin) := (hlow.cell (p := ⟨w.heap.size + 1 + 1, 0, none⟩) (by show w.heap.size + 1 + 1 < S; omega)).trans HF0.out
      have HRW := Lib.hid (show RangesAt wr wr.heap.size At nt ct t from RowAt.mono (RowAt.below HRG.out hlow) (by have := HI.out.2.1.big; omega))
      obtain ⟨sb, hsb⟩ : ∃ sb, (rawsOf kind t fin pre ++ done).all (·.2) = sb := ⟨_, rfl⟩
      have HSB := Lib.hid hsb
      have HSP := Lib.hid (show SpSt S W0 wr (cumL true (rawsOf kind t fin pre ++ done)) sb from by rw [← hsb]; exact HI.out.2.1)
      have HLN := Lib.hid (show done.length + (rawR kind t (b || fin) l1).length = (rawR kind t (b || fin) lr).length from by rw [← List.length_append, HI.out.1])
      have HL1 := Lib.hid hl1
      unfold maxLen at hc1m
      clear hsb hlow hl1
      by_cases h0 : n1 = 0
      · have hdn : rawR kind t (b || fin) l1 = [] := by
          have : l1 = [] := List.eq_nil_of_length_eq_zero (by rw [← HL1.out]; exact h0)
          rw [this]; rfl
        have HDN := Lib.hid (show done = rawR kind t (b || fin) lr from by have := HI.out.1; simp only at this; rw [hdn, List.append_nil] at this; exact this)
        clear hdn
        subst h0
        have hs3 := HSP.out
        obtain ⟨v3, hv3, ho3⟩ := hs3.box
        have hsc := hs3.sure.cell
        have hvc := hv3.cell
        cases b with
        | false =>
          gi_wp2
          refine ⟨HI.out.2.2, ?_⟩
          show ConS kind t fin S W0 (pre ++ [(lr, false)]) _
          unfold ConS
          rw [raws_snoc]
          have hro1 : rawOne kind t fin (lr, false) = done := by rw [HDN.out]; simp [rawOne]
          rw [hro1, HSB.out]
          exact hs3
        | true =>
          have HKL := Lib.hid (show (cumL true (rawsOf kind t fin pre ++ done)).length + 1 ≤ 1000 from by
            have h1 := HCNT.out; have h2 := HLN.out
            rw [cum_length, List.length_append]; simp only [if_true] at h1; omega)
          gi_wp2_with (gi_at_builtin; refine wpListIn_append_own _ rfl _ _ 41 rfl (S + 3) 44 i0 (.agg #[.int .i64 0, .bool false]) 2 16 Tryd.underlying41 hi hz0 hz1 hz2 rfl (by decide) _ _ _ rfl (ho3.alloc _) _ 1 1 [.int .i64 1, .bool sb] rfl rfl (cell_two_new _ _ _ _ _ (by simp)) (by simp [Value.oneCell']) (len_1000 HKL.out) (bytes_1000 HKL.out) (by rw [World.size_alloc]; exact Nat.le_succ_of_le hs3.big) ?_; intro v' w4 hown' hgrow _; obtain ⟨g', cap', rfl⟩ := ownsRow_succ hown'; obtain ⟨hb4, hs4, hk4, hz4, hr4⟩ := SpSt.push hs3 hv3 ho3 hown' hgrow; have hb4c := hb4.cell; have hb4f := hb4.frozen)
          refine ⟨HI.out.2.2.trans hk4, ?_⟩
          show ConS kind t fin S W0 (pre ++ [(lr, true)]) _
          unfold ConS
          rw [raws_snoc]
          have hro1 : rawOne kind t fin (lr, true) = done ++ [(1, true)] := by rw [HDN.out]; simp [rawOne]
          have hal : (rawsOf kind t fin pre ++ (done ++ [(1, true)])).all (·.2) = sb := by rw [← List.append_assoc, List.all_append, HSB.out]; simp
          have hcm : cumL true (rawsOf kind t fin pre ++ (done ++ [(1, true)])) = cumL true (rawsOf kind t fin pre ++ done) ++ [(1, sb)] := by rw [← List.append_assoc, cum_app, HSB.out]; simp [cumL]
          rw [hro1, hal, hcm]
          exact hs4
      · have h0' : (0 : Int) < (n1 : Int) := by omega
        obtain ⟨⟨r, d⟩, hr⟩ : ∃ r, nextP kind t l1 (b || fin) = r := ⟨_, rfl⟩
        have hne : l1 ≠ [] := fun e => h0 (by rw [HL1.out, e]; rfl)
        have hbd := next_bounds (kind := kind) (t := t) (l := l1) (b || fin) hne HV.out hk0 hk3
        rw [hr, ← HL1.out] at hbd
        obtain ⟨hbd1, hbd2⟩ := hbd
        simp only at hbd1 hbd2
        have hbd5 : (r : Int) ≤ (n1 : Int) := by omega
        have hbd6 : (r : Int) ≤ (c1 : Int) := by omega
        have HN := Lib.hid hr
        have HNE := Lib.hid hne
        have HLL := Lib.hid (show l1.length ≤ 1000 from by rw [← HL1.out]; exact hn1')
        have HKL := Lib.hid (show (cumL true (rawsOf kind t fin pre ++ done)).length + 1 ≤ 1000 from by
          have h1 := HCNT.out; have h2 := HLN.out
          rw [rawR_step hk0 hk3 HV.out hne, List.length_cons] at h2
          rw [cum_length, List.length_append]; omega)
        clear hr hne
        have key : ∀ W2, Below wr.heap.size wr W2 → SpSt S W0 W2 (cumL true (rawsOf kind t fin pre ++ done)) sb ∧ RunAt W2 (S + 3) A1 n1 c1 l1 ∧ KeepsOthers wr W2 := fun W2 hb => ⟨HSP.out.below hb, HR.out.below hb, KeepsOthers.below hb⟩
        have KEY := Lib.hid key
        clear key
        cases b with
        | false =>
          cases sb with
          | false =>
            gi_wp2_with (first
              | (gi_at_call 16; refine (CallsIn.inRound l (in_wide HFW (next_any kind (false || fin) wr HR.out.1 HRW.out hnt HLL.out HN.out))).mono ?_; rintro e w2 ⟨rfl, hb2⟩; obtain ⟨hs2, hr2, hk2⟩ := KEY.out _ hb2; obtain ⟨v2, hv2, ho2⟩ := hs2.box; have hsc := hs2.sure.cell; have hsf := hs2.sure.frozen; have hvc := hv2.cell; obtain ⟨hv3, ho3⟩ := hs2.set_box false hv2 ho2; have hs3 := hs2.set false; have hvc3 := hv3.cell; have hsc3 := hs3.sure.cell)
              | (gi_at_builtin; refine wpListIn_append_own _ rfl _ _ 41 rfl (S + 3) 44 i0 (.agg #[.int .i64 0, .bool false]) 2 16 Tryd.underlying41 hi hz0 hz1 hz2 rfl (by decide) _ _ _ rfl (ho3.alloc _) _ 1 1 [.int .i64 (r : Int), .bool false] rfl rfl (cell_two_new _ _ _ _ _ (by simp)) (by simp [Value.oneCell']) (len_1000 HKL.out) (bytes_1000 HKL.out) (by rw [World.size_alloc]; exact Nat.le_succ_of_le hs3.big) ?_; intro v' w4 hown' hgrow _; obtain ⟨g', cap', rfl⟩ := ownsRow_succ hown'; obtain ⟨hb4, hs4, hk4, hz4, hr4⟩ := SpSt.push hs3 hv3 ho3 hown' hgrow; have hb4c := hb4.cell; have hb4f := hb4.frozen))
            go_roundw
            case rel => exact ⟨_, _, _, l1.drop r, done ++ [(r, d)], rfl, by omega, Lib.hid (((hr2.set (by omega) _).keep hz4 hr4).from_ hbd2), Lib.hid (InS.step hk0 hk3 HV.out HI.out HNE.out HN.out HSB.out hs4 (hk2.trans ((KeepsOthers.setCell _ _ _).trans hk4)))⟩
            case measure => simp only [lenOf]; omega
          | true =>
            gi_wp2_with (first
              | (gi_at_call 16; refine (CallsIn.inRound l (in_wide HFW (next_any kind (false || fin) wr HR.out.1 HRW.out hnt HLL.out HN.out))).mono ?_; rintro e w2 ⟨rfl, hb2⟩; obtain ⟨hs2, hr2, hk2⟩ := KEY.out _ hb2; obtain ⟨v2, hv2, ho2⟩ := hs2.box; have hsc := hs2.sure.cell; have hsf := hs2.sure.frozen; have hvc := hv2.cell; obtain ⟨hv3, ho3⟩ := hs2.set_box d hv2 ho2; have hs3 := hs2.set d; have hvc3 := hv3.cell; have hsc3 := hs3.sure.cell)
              | (gi_at_builtin; refine wpListIn_append_own _ rfl _ _ 41 rfl (S + 3) 44 i0 (.agg #[.int .i64 0, .bool false]) 2 16 Tryd.underlying41 hi hz0 hz1 hz2 rfl (by decide) _ _ _ rfl (ho3.alloc _) _ 1 1 [.int .i64 (r : Int), .bool d] rfl rfl (cell_two_new _ _ _ _ _ (by simp)) (by simp [Value.oneCell']) (len_1000 HKL.out) (bytes_1000 HKL.out) (by rw [World.size_alloc]; exact Nat.le_succ_of_le hs3.big) ?_; intro v' w4 hown' hgrow _; obtain ⟨g', cap', rfl⟩ := ownsRow_succ hown'; obtain ⟨hb4, hs4, hk4, hz4, hr4⟩ := SpSt.push hs3 hv3 ho3 hown' hgrow; have hb4c := hb4.cell; have hb4f := hb4.frozen))
            go_roundw
            case rel => exact ⟨_, _, _, l1.drop r, done ++ [(r, d)], rfl, by omega, Lib.hid (((hr2.set (by omega) _).keep hz4 hr4).from_ hbd2), Lib.hid (InS.step hk0 hk3 HV.out HI.out HNE.out HN.out HSB.out hs4 (hk2.trans ((KeepsOthers.setCell _ _ _).trans hk4)))⟩
            case measure => simp only [lenOf]; omega
        | true =>
          cases sb with
          | false =>
            gi_wp2_with (first
              | (gi_at_call 16; refine (CallsIn.inRound l (in_wide HFW (next_any kind (true || fin) wr HR.out.1 HRW.out hnt HLL.out HN.out))).mono ?_; rintro e w2 ⟨rfl, hb2⟩; obtain ⟨hs2, hr2, hk2⟩ := KEY.out _ hb2; obtain ⟨v2, hv2, ho2⟩ := hs2.box; have hsc := hs2.sure.cell; have hsf := hs2.sure.frozen; have hvc := hv2.cell; obtain ⟨hv3, ho3⟩ := hs2.set_box false hv2 ho2; have hs3 := hs2.set false; have hvc3 := hv3.cell; have hsc3 := hs3.sure.cell)
              | (gi_at_builtin; refine wpListIn_append_own _ rfl _ _ 41 rfl (S + 3) 44 i0 (.agg #[.int .i64 0, .bool false]) 2 16 Tryd.underlying41 hi hz0 hz1 hz2 rfl (by decide) _ _ _ rfl (ho3.alloc _) _ 1 1 [.int .i64 (r : Int), .bool false] rfl rfl (cell_two_new _ _ _ _ _ (by simp)) (by simp [Value.oneCell']) (len_1000 HKL.out) (bytes_1000 HKL.out) (by rw [World.size_alloc]; exact Nat.le_succ_of_le hs3.big) ?_; intro v' w4 hown' hgrow _; obtain ⟨g', cap', rfl⟩ := ownsRow_succ hown'; obtain ⟨hb4, hs4, hk4, hz4, hr4⟩ := SpSt.push hs3 hv3 ho3 hown' hgrow; have hb4c := hb4.cell; have hb4f := hb4.frozen))
            go_roundw
            case rel => exact ⟨_, _, _, l1.drop r, done ++ [(r, d)], rfl, by omega, Lib.hid (((hr2.set (by omega) _).keep hz4 hr4).from_ hbd2), Lib.hid (InS.step hk0 hk3 HV.out HI.out HNE.out HN.out HSB.out hs4 (hk2.trans ((KeepsOthers.setCell _ _ _).trans hk4)))⟩
            case measure => simp only [lenOf]; omega
          | true =>
            gi_wp2_with (first
              | (gi_at_call 16; refine (CallsIn.inRound l (in_wide HFW (next_any kind (true || fin) wr HR.out.1 HRW.out hnt HLL.out HN.out))).mono ?_; rintro e w2 ⟨rfl, hb2⟩; obtain ⟨hs2, hr2, hk2⟩ := KEY.out _ hb2; obtain ⟨v2, hv2, ho2⟩ := hs2.box; have hsc := hs2.sure.cell; have hsf := hs2.sure.frozen; have hvc := hv2.cell; obtain ⟨hv3, ho3⟩ := hs2.set_box d hv2 ho2; have hs3 := hs2.set d; have hvc3 := hv3.cell; have hsc3 := hs3.sure.cell)
              | (gi_at_builtin; refine wpListIn_append_own _ rfl _ _ 41 rfl (S + 3) 44 i0 (.agg #[.int .i64 0, .bool false]) 2 16 Tryd.underlying41 hi hz0 hz1 hz2 rfl (by decide) _ _ _ rfl (ho3.alloc _) _ 1 1 [.int .i64 (r : Int), .bool d] rfl rfl (cell_two_new _ _ _ _ _ (by simp)) (by simp [Value.oneCell']) (len_1000 HKL.out) (bytes_1000 HKL.out) (by rw [World.size_alloc]; exact Nat.le_succ_of_le hs3.big) ?_; intro v' w4 hown' hgrow _; obtain ⟨g', cap', rfl⟩ := ownsRow_succ hown'; obtain ⟨hb4, hs4, hk4, hz4, hr4⟩ := SpSt.push hs3 hv3 ho3 hown' hgrow; have hb4c := hb4.cell; have hb4f := hb4.frozen))
            go_roundw
            case rel => exact ⟨_, _, _, l1.drop r, done ++ [(r, d)], rfl, by omega, Lib.hid (((hr2.set (by omega) _).keep hz4 hr4).from_ hbd2), Lib.hid (InS.step hk0 hk3 HV.out HI.out HNE.out HN.out HSB.out hs4 (hk2.trans ((KeepsOthers.setCell _ _ _).trans hk4)))⟩
            case measure => simp only [lenOf]; omega
  case done =>
    intro D W hD hE hDD
    have HE := Lib.hid hE
    obtain ⟨v, hv, ho⟩ := hE.box
    have hc := hv.cell
    have HO := Lib.hid ho
    have HSP := Lib.hid (show cumL true (rawsOf kind t fin (runsF [] text)) = splitL kind t text fin from by
      unfold splitL
      rw [if_neg (by rintro (h | h | h); omega; omega; rw [HV.out] at h; cases h), raws_runs])
    clear hv ho hE
    rw [HZ0.out] at hD
    gi_wp2
    refine ⟨by simp, .inl ⟨_, _, rfl, run_takeDeferred hDD, ?_⟩⟩
    refine ⟨_, results_tmp rfl _ _ _, v, rfl, ?_, ?_⟩
    · rw [← HSP.out]
      exact World.ownsRow.mono (ownsRow_putObj HO.out _ hDD rfl) (by omega)
    · have h1 : Below w.heap.size w W := HB1.out.trans ((HB0.out.trans HE.out.low).mono (by omega))
      exact h1.trans (belowK_b (w := w) (Nat.le_refl _) W D _ _ (by omega) hDD rfl rfl)
set_option maxHeartbeats 1000000 in
theorem split_none {At A : Option Addr} {nt ct m c : Nat} {t : List Rg} (kind : Int) (fin : Bool) (w : World) (ht : RangesAt w w.heap.size At nt ct t) (hnt : nt ≤ 1000) (hx : kind < 0 ∨ 3 < kind ∨ mayT t = false) :
    Calls Tryd.prog 25 #[.int .i64 kind, .slice At nt ct, .slice A m c, .bool fin] w fun e W' => e = .returned (.slice none 0 0) ∧ Below w.heap.size w W' := by
  obtain ⟨wb, hwb⟩ : ∃ wb, wb = ((w.alloc (.cells #[.int .i64 kind] 3)).alloc (.cells #[.slice At nt ct] 22)).alloc (.cells #[.bool fin] 4) := ⟨_, rfl⟩
  have hbw : Below w.heap.size w wb := by rw [hwb]; exact (((Below.refl _ w).alloc (Nat.le_refl _) _).alloc (by simp) _).alloc (by simp; omega) _
  have HBW := Lib.hid hbw
  have HWB := Lib.hid hwb
  have HT := Lib.hid ht
  clear ht hbw hwb
  by_cases h1 : kind < 0
  · have hkd0 : decide (kind < 0) = true := decide_eq_true h1
    clear hx
    go_enter Tryd.func25, Tryd.ntmps25
    go_wp2_with fail
    go_ret
    exact ⟨rfl, by rw [← HWB.out]; exact HBW.out⟩
  · have hkd0 : decide (kind < 0) = false := decide_eq_false h1
    by_cases h2 : 3 < kind
    · have hkd3 : decide (3 < kind) = true := decide_eq_true h2
      clear hx
      go_enter Tryd.func25, Tryd.ntmps25
      go_wp2_with fail
      go_ret
      exact ⟨rfl, by rw [← HWB.out]; exact HBW.out⟩
    · have hkd3 : decide (3 < kind) = false := decide_eq_false h2
      have HV := Lib.hid (show mayT t = false from by rcases hx with h | h | h; exact absurd h h1; exact absurd h h2; exact h)
      clear hx
      go_enter Tryd.func25, Tryd.ntmps25
      go_wp2_with fail
      rw [← HWB.out]
      refine (may_as wb (RowAt.mono (RowAt.below HT.out HBW.out) HBW.out.size) hnt HV).mono ?_
      rintro e w1 ⟨rfl, hb1⟩
      have HB1 := Lib.hid (HBW.out.trans (hb1.mono HBW.out.size))
      clear hb1
      go_wp2_with fail
      go_ret
      exact ⟨rfl, HB1.out⟩
/-- split.Split: a text's pieces. -/
theorem split_any {At A : Option Addr} {nt ct m c : Nat} {t : List Rg} {text : List Int} (kind : Int) (fin : Bool) (w : World) (ht : RangesAt w w.heap.size At nt ct t) (hx : IntsAt w w.heap.size A m c text) (hnt : nt ≤ 1000) (hm : m ≤ 1000) :
    Calls Tryd.prog 25 #[.int .i64 kind, .slice At nt ct, .slice A m c, .bool fin] w fun e W' => ∃ v, e = .returned v ∧ W'.ownsRow w.heap.size 44 2 v (splitL kind t text fin).length (pieceV (splitL kind t text fin)) ∧ Below w.heap.size w W' := by
  by_cases hb : kind < 0 ∨ 3 < kind ∨ mayT t = false
  · refine (split_none kind fin w ht hnt hb).mono ?_
    rintro e W' ⟨rfl, hbl⟩
    have : splitL kind t text fin = [] := by unfold splitL; rw [if_pos hb]
    rw [this]
    exact ⟨_, rfl, World.ownsRow_nil _ _ _ _, hbl⟩
  · have hv : mayT t = true := by
      cases h : mayT t with
      | true => rfl
      | false => exact absurd (.inr (.inr h)) hb
    exact callsIn_wide.1 (split_in Fence.wide (Lib.hid rfl) rfl trivial trivial trivial trivial trivial trivial 3 (Nat.le_refl _) kind fin w ht hx hnt hm (by omega) (by omega) hv)
end Go.Proofs.YtkiggpbmlkfdpaaDoor
