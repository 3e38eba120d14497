/- The walks of Step, Walk, Depth, Ends. -/
import Derived.Test.YtohfkpoblebfaaaAhoMem
import Derived.Deep.RegionLaw
import Derived.Deep.RegionHeld3
namespace Go.Proofs.Ytohfkpoblebfaaa
open Go.RowKit
set_option linter.unusedVariables false

theorem rising_nodup : ∀ {ws : List (Int × Nat)}, Rising ws → (∀ a ∈ ws, ∀ b ∈ ws, a.2 = b.2 → a.1 = b.1) → (ws.map (·.2)).Nodup
  | [], _, _ => List.nodup_nil
  | x :: r, h, hi => by
    rw [List.map_cons, List.nodup_cons]
    refine ⟨fun hm => ?_, rising_nodup (rising_tail h) fun a ha b hb => hi a (List.mem_cons_of_mem _ ha) b (List.mem_cons_of_mem _ hb)⟩
    obtain ⟨y, hy, he⟩ := List.mem_map.1 hm
    have h1 := rising_head h y hy
    have h2 := hi x (by simp) y (List.mem_cons_of_mem _ hy) he.symm
    omega
theorem Trie.ways_le {ns : List Nd} {W : List Wd} (h : Trie ns W) {i : Nat} (hi : i < W.length) : (nd ns i).ways.length ≤ W.length := by
  have hn := rising_nodup (h.rising i hi) (fun a ha b hb e => by
    have h1 := ((h.ways i hi a.1 a.2).1 ha).2
    have h2 := ((h.ways i hi b.1 b.2).1 hb).2
    rw [e, h2] at h1
    have := List.append_cancel_left h1
    injection this with this _
    exact this.symm)
  have := nodup_le hn (n := W.length) (fun t ht => by
    obtain ⟨y, hy, rfl⟩ := List.mem_map.1 ht
    exact ((h.ways i hi y.1 y.2).1 hy).1)
  rwa [List.length_map] at this

/-- The falls of the words no longer than d are found. -/
def FallsTo (ns : List Nd) (W : List Wd) (d : Nat) : Prop := ∀ x, x < W.length → (wd W x).length ≤ d → (nd ns x).fall < W.length ∧ wd W (nd ns x).fall = lsuf W (wd W x).tail
/-- What a step answers. -/
def StepTo (W : List Wd) (a : Wd) (s : Int) (w : World) (e : Ending) (w' : World) : Prop := ∃ t : Nat, e = .returned (.int .i64 (t : Int)) ∧ t < W.length ∧ wd W t = lsuf W (a ++ [s]) ∧ Below w.heap.size w w'

set_option maxRecDepth 100000 in
set_option maxHeartbeats 1000000 in
theorem step_any {B g c d : Nat} {ns : List Nd} {W : List Wd} {f : Vs} {A : Option Addr} (n s : Int) (w : World) (h : Mach w B g ns f A c) (ht : Trie ns W) (hm : W.length ≤ 100000) (hf : FallsTo ns W d) (hd : (wd W (stOf ns n)).length ≤ d) :
    Calls Try.prog 19 #[.pointer (some ⟨g, 0, none⟩), .int .i64 n, .int .i64 s] w (StepTo W (wd W (stOf ns n)) s w) := by
  have hlen := ht.len
  have hz := ht.zero.1
  have hx0 : stOf ns n < W.length := by have := stOf_lt (ns := ns) (n := n) (by omega); omega
  obtain ⟨x0, hx⟩ : ∃ x0, stOf ns n = x0 := ⟨_, rfl⟩
  rw [hx] at hx0 hd ⊢
  have HX := Lib.hid (show Ending.returned (.int .i64 (stOf ns n : Int)) = .returned (.int .i64 (x0 : Int)) from by rw [hx])
  have HM := Lib.hid h
  have HT := Lib.hid ht
  have HF := Lib.hid hf
  have HL := Lib.hid hlen
  clear h ht hf hx hlen
  have S0 := Lib.hid (show StepAt W (wd W x0) s x0 from ⟨hx0, rfl, Nat.le_refl _⟩)
  go_enter Try.func19, Try.ntmps19
  go_wp2_with fail
  refine (state_any n _ HM.out).mono ?_
  rw [HX.out]
  rintro e w' ⟨rfl, rfl⟩
  go_wp2_with fail
  go_loopw [7] (fun i wr => ∃ x : Nat, i = .int .i64 x ∧ StepAt W (wd W x0) s x ∧ Below w.heap.size w wr) (fun i _ => (wd W (intOf i).toNat).length)
  case atStart => exact ⟨x0, rfl, S0.out, Below.refl _ _⟩
  case round =>
    obtain ⟨x, rfl, hst, hb⟩ := hrel
    have HS := Lib.hid hst
    have HB := Lib.hid hb
    have hxl : x < ns.length := by have := hst.1; have := HL.out; omega
    have M1 := Lib.hid (HM.out.below hb)
    have hcap := M1.out.cap
    unfold maxLen at hcap
    obtain ⟨hcap1, hcap2⟩ := hcap
    have hns : ns.length ≤ 100000 := by have := HL.out; omega
    have hwl : (nd ns x).ways.length ≤ 100000 := by have := HT.out.ways_le hst.1; omega
    have HR := Lib.hid (HT.out.rising x hst.1)
    have m0 := M1.out.cell
    obtain ⟨a, hA, hal, -, n0, n1, n2, n3, n4⟩ := M1.out.node hxl
    subst hA
    clear hb hst
    cases hw : wayOf (nd ns x).ways s with
    | some t =>
      have hfd := HS.out.found HT.out hw
      obtain ⟨q1, q2, q3⟩ := way_place HR.out hw
      have HFD := Lib.hid hfd
      have HW := Lib.hid hw
      obtain ⟨b, off, hB, hbl, hc⟩ := (M1.out.waysAt hxl).cells (by omega)
      obtain ⟨c0, c1⟩ := hc _ q1
      obtain ⟨P, hP⟩ : ∃ P, posOf (nd ns x).ways s = P := ⟨_, rfl⟩
      rw [hP] at q1 q3 c1
      rw [q3] at c1
      have HWA := Lib.hid (M1.out.waysAt hxl)
      rw [hB] at n0 HWA
      have hwc := HWA.out.2.1
      have hwm := HWA.out.2.2.1
      unfold maxLen at hwm
      have HP := Lib.hid hP
      obtain ⟨ln, hln⟩ : ∃ ln, (nd ns x).ways.length = ln := ⟨_, rfl⟩
      rw [hln] at n0 q1 hwc HWA hwl
      have HLN := Lib.hid hln
      have C1 := Lib.hid c1
      have N0 := Lib.hid n0
      have M0 := Lib.hid m0
      clear hfd hw hB hc c0 c1 hP q2 q3 hln
      go_wp2_with fail
      refine (find_yes s _ HR.out (by rw [HLN.out]; exact hwl) HWA.out HW.out).mono ?_
      rw [HP.out]
      rintro e w2 ⟨rfl, hb2⟩
      have m0 : w2.cell? ⟨g, 0, none⟩ = some (.slice (some ⟨a, 0, none⟩) ns.length c) := (hb2.cell (p := ⟨g, 0, none⟩) M1.out.lt).trans M0.out
      have n0 : w2.cell? ⟨a, x * 5, none⟩ = some (.slice (some ⟨b, off, none⟩) ln (f x).2) := (hb2.cell (p := ⟨a, x * 5, none⟩) hal).trans N0.out
      have c1 : w2.cell? ⟨b, off + P * 2 + 1, none⟩ = some (.int .i64 (t : Int)) := (hb2.cell (p := ⟨b, off + P * 2 + 1, none⟩) hbl).trans C1.out
      have HB2 := Lib.hid (HB.out.trans (hb2.mono HB.out.size))
      clear hb2 n1 n2 n3 n4
      go_wp2_with fail
      go_ret
      exact ⟨t, rfl, HFD.out.1, HFD.out.2, HB2.out⟩
    | none =>
      have HW := Lib.hid hw
      have HWA := Lib.hid (M1.out.waysAt hxl)
      clear hw
      obtain ⟨P, hP⟩ : ∃ P, posOf (nd ns x).ways s = P := ⟨_, rfl⟩
      have HP := Lib.hid hP
      obtain ⟨ln, hln⟩ : ∃ ln, (nd ns x).ways.length = ln := ⟨_, rfl⟩
      rw [hln] at n0 HWA hwl
      have HLN := Lib.hid hln
      have N1 := Lib.hid n1
      have M0 := Lib.hid m0
      clear hP hln
      go_wp2_with fail
      refine (find_no s _ HR.out (by rw [HLN.out]; exact hwl) HWA.out HW.out).mono ?_
      rw [HP.out]
      rintro e w2 ⟨rfl, hb2⟩
      have m0 : w2.cell? ⟨g, 0, none⟩ = some (.slice (some ⟨a, 0, none⟩) ns.length c) := (hb2.cell (p := ⟨g, 0, none⟩) M1.out.lt).trans M0.out
      have n1 : w2.cell? ⟨a, x * 5 + 1, none⟩ = some (.int .i64 ((nd ns x).fall : Int)) := (hb2.cell (p := ⟨a, x * 5 + 1, none⟩) hal).trans N1.out
      have HB2 := Lib.hid (HB.out.trans (hb2.mono HB.out.size))
      clear hb2 n0 n2 n3 n4
      by_cases hx : x = 0
      · have hb0 := beq_yes (a := (x : Int)) (b := 0) (by omega)
        have HE := Lib.hid (show wd W 0 = lsuf W (wd W x0 ++ [s]) from by subst hx; exact HS.out.none HT.out HW.out)
        clear hx
        go_wp2_with fail
        go_ret
        exact ⟨0, rfl, hz, HE.out, HB2.out⟩
      · have hb0 := beq_no (a := (x : Int)) (b := 0) (by omega)
        have hdx : (wd W x).length ≤ d := by have := HS.out.2.2; omega
        have hff := HF.out x HS.out.1 hdx
        have HN := Lib.hid (HS.out.fall HT.out HW.out hx hff.1 hff.2)
        clear hx hff hdx
        go_wp2_with fail
        go_roundw
        case rel => exact ⟨(nd ns x).fall, rfl, HN.out.1, HB2.out⟩
        case measure => show (wd W ((nd ns x).fall : Int).toNat).length < (wd W (x : Int).toNat).length; rw [Int.toNat_natCast, Int.toNat_natCast]; exact HN.out.2

/-- All falls are found. -/
theorem FallsTo.of_all {ns : List Nd} {W : List Wd} (h : ∀ x, x < W.length → (nd ns x).fall < W.length ∧ wd W (nd ns x).fall = lsuf W (wd W x).tail) (d : Nat) : FallsTo ns W d := fun x hx _ => h x hx
theorem Ready.falls {l W : List Wd} {ns : List Nd} (h : Ready l W ns) (d : Nat) : FallsTo ns W d := fun x hx _ => ⟨(h.done x hx).1, (h.done x hx).2.1⟩
/-- What a walk answers. -/
def WalkTo (W : List Wd) (u : Wd) (w : World) (e : Ending) (w' : World) : Prop := ∃ t : Nat, e = .returned (.int .i64 (t : Int)) ∧ t < W.length ∧ wd W t = lsuf W u ∧ Below w.heap.size w w'

set_option maxRecDepth 100000 in
set_option maxHeartbeats 1000000 in
theorem walk_any {B g c : Nat} {ns : List Nd} {l W : List Wd} {f : Vs} {A A1 : Option Addr} {n1 c1 : Nat} {u : Wd} (w : World) (h : Mach w B g ns f A c) (hr : Ready l W ns) (hm : W.length ≤ 100000) (hu : IntsAt w w.heap.size A1 n1 c1 u) :
    Calls Try.prog 22 #[.pointer (some ⟨g, 0, none⟩), .slice A1 n1 c1] w (WalkTo W u w) := by
  have hlen := hr.trie.len
  have hz := hr.trie.zero
  have hn := hu.len
  have hcap := hu.2.2.1
  have hcn := hu.2.1
  unfold maxLen at hcap
  have HZ := Lib.hid hz.2
  have hz1 := hz.1
  have HM := Lib.hid h
  have HR := Lib.hid hr
  have HU := Lib.hid hu
  have HN := Lib.hid hn
  have HL := Lib.hid hlen
  clear h hr hu hn hz hlen
  go_enter Try.func22, Try.ntmps22
  go_wp2_with fail
  go_loopw [5, 10] (fun a i wr => ∃ (k x : Nat), a = .int .i64 x ∧ i = .int .i64 k ∧ k ≤ n1 ∧ x < W.length ∧ wd W x = lsuf W (u.take k) ∧ Below w.heap.size w wr) (fun _ i _ => n1 - (intOf i).toNat)
  case atStart => exact ⟨0, 0, rfl, rfl, Nat.zero_le _, hz1, by rw [HZ.out]; rfl, Below.refl _ _⟩
  case round =>
    obtain ⟨k, x, rfl, rfl, hk, hx, hxe, hb⟩ := hrel
    have HB := Lib.hid hb
    have HXE := Lib.hid hxe
    clear hb hxe
    by_cases hlt : k < n1
    · have hku : k < u.length := by have := HN.out; omega
      obtain ⟨b, off, rfl, hbl, hc⟩ := HU.out.cells (by omega)
      obtain ⟨s, hs⟩ : ∃ s, u[k]'hku = s := ⟨_, rfl⟩
      have e0 : wr.cell? ⟨b, off + k, none⟩ = some (.int .i64 s) := by rw [HB.out.cell (p := ⟨b, off + k, none⟩) hbl, hc k hku, hs]
      have HT := Lib.hid (show u.take (k + 1) = u.take k ++ [s] from by rw [List.take_add_one, List.getElem?_eq_getElem hku, hs]; rfl)
      have hst : stOf ns (x : Int) = x := stOf_nat (by have := HL.out; omega)
      have HST := Lib.hid hst
      clear hc hs hst
      go_wp2_with fail
      refine (step_any (d := (wd W (stOf ns (x : Int))).length) (x : Int) s wr (HM.out.below HB.out) HR.out.trie hm (HR.out.falls _) (Nat.le_refl _)).mono ?_
      rintro e w2 ⟨t, rfl, ht, hte, hb2⟩
      rw [HST.out] at hte
      have HTE := Lib.hid (show wd W t = lsuf W (u.take (k + 1)) from by rw [hte, HXE.out, HT.out, ← lsuf_snoc HR.out.trie.closed])
      have HB2 := Lib.hid (HB.out.trans (hb2.mono HB.out.size))
      clear hte hb2 e0
      go_wp2_with fail
      go_roundw
      case rel => exact ⟨k + 1, t, rfl, by go_num, by omega, ht, HTE.out, HB2.out⟩
      case measure => simp [intOf]; omega
    · obtain rfl : k = n1 := by omega
      have HE := Lib.hid (show wd W x = lsuf W u from by rw [HXE.out, List.take_of_length_le (by have := HN.out; omega)])
      go_wp2_with fail
      go_ret
      exact ⟨x, rfl, hx, HE.out, HB.out⟩

theorem state_q {B g c x : Nat} {ns : List Nd} {f : Vs} {A : Option Addr} {n : Int} (w : World) (k : Nat) (h : Mach w B g ns f A c) (hx : stOf ns n = x) :
    Calls Try.prog 42 #[.pointer (some ⟨g, 0, none⟩), .int .i64 n] (w.drewN k) fun e w' => e = .returned (.int .i64 (x : Int)) ∧ w' = w.drewN k := by
  subst hx
  refine (state_any n (w.drewN k) (h.below (below_drewN (Below.refl _ _) k))).mono ?_
  rintro e w' ⟨rfl, rfl⟩
  exact ⟨rfl, rfl⟩
set_option maxHeartbeats 1000000 in
theorem depth_any {B g c : Nat} {ns : List Nd} {f : Vs} {A : Option Addr} (n : Int) (w : World) (h : Mach w B g ns f A c) (h0 : 0 < ns.length) (hm : ns.length ≤ 100000) :
    Calls Try.prog 23 #[.pointer (some ⟨g, 0, none⟩), .int .i64 n] w fun e w' => e = .returned (.int .i64 ((nd ns (stOf ns n)).depth : Int)) ∧ Below w.heap.size w w' := by
  obtain ⟨x, hx⟩ : ∃ x, stOf ns n = x := ⟨_, rfl⟩
  have hxl : x < ns.length := by rw [← hx]; exact stOf_lt h0
  rw [hx]
  have m0 := h.cell
  obtain ⟨a, rfl, hal, -, n0, n1, n2, n3, n4⟩ := h.node hxl
  have hcap := h.cap
  unfold maxLen at hcap
  obtain ⟨hcap1, hcap2⟩ := hcap
  have HM := Lib.hid h
  have HX := Lib.hid hx
  clear h hx n0 n1 n3 n4
  go_enter Try.func23, Try.ntmps23
  go_wp2_with fail
  go_quiet ((go_at_call 42; exact Calls.quiet_of_same (state_q _ _ HM.out HX.out)))
  go_wp2_with fail
  go_ret
  exact ⟨rfl, below_drewN (Below.refl _ _) _⟩
set_option maxHeartbeats 400000 in
theorem depth_nil (n : Int) (w : World) : Calls Try.prog 23 #[.pointer none, .int .i64 n] w fun e w' => e = .returned (.int .i64 0) ∧ w = w' := by
  go_enter Try.func23, Try.ntmps23
  go_wp2_with fail
  go_ret
  exact ⟨rfl, rfl⟩
set_option maxHeartbeats 400000 in
theorem step_nil (n s : Int) (w : World) : Calls Try.prog 19 #[.pointer none, .int .i64 n, .int .i64 s] w fun e w' => e = .returned (.int .i64 0) ∧ w = w' := by
  go_enter Try.func19, Try.ntmps19
  go_wp2_with fail
  go_ret
  exact ⟨rfl, rfl⟩
set_option maxHeartbeats 400000 in
theorem ends_nil (n : Int) (w : World) : Calls Try.prog 20 #[.pointer none, .int .i64 n] w fun e w' => e = .returned (.tuple #[.int .i64 (-1), .int .i64 0]) ∧ w = w' := by
  go_enter Try.func20, Try.ntmps20
  go_wp2_with fail
  go_ret2
  exact ⟨rfl, rfl⟩
theorem state_at {B g c x : Nat} {ns : List Nd} {f : Vs} {A : Option Addr} {n : Int} {w0 : World} (w : World) (h : Mach w0 B g ns f A c) (hb : Below w0.heap.size w0 w) (hx : stOf ns n = x) :
    Calls Try.prog 42 #[.pointer (some ⟨g, 0, none⟩), .int .i64 n] w fun e w' => e = .returned (.int .i64 (x : Int)) ∧ w = w' := by
  subst hx
  exact state_any n w (h.below hb)
set_option maxRecDepth 100000 in
set_option maxHeartbeats 1000000 in
theorem ends_any {B g c : Nat} {ns : List Nd} {f : Vs} {A : Option Addr} (n : Int) (w : World) (h : Mach w B g ns f A c) (h0 : 0 < ns.length) (hm : ns.length ≤ 100000) :
    Calls Try.prog 20 #[.pointer (some ⟨g, 0, none⟩), .int .i64 n] w fun e w' => e = .returned (.tuple #[.int .i64 (nd ns (stOf ns n)).place, .int .i64 ((nd ns (stOf ns n)).long : Int)]) ∧ Below w.heap.size w w' := by
  obtain ⟨x, hx⟩ : ∃ x, stOf ns n = x := ⟨_, rfl⟩
  have hxl : x < ns.length := by rw [← hx]; exact stOf_lt h0
  rw [hx]
  have m0 := h.cell
  obtain ⟨a, rfl, hal, -, n0, n1, n2, n3, n4⟩ := h.node hxl
  have hcap := h.cap
  unfold maxLen at hcap
  obtain ⟨hcap1, hcap2⟩ := hcap
  have hgl := h.lt
  have HM := Lib.hid h
  have HX := Lib.hid hx
  clear h hx
  go_enter Try.func20, Try.ntmps20
  go_wp2_with fail
  go_region_with (go_at_call 42; refine (state_at _ HM.out (by first | exact Below.refl _ _ | exact Below.drew (Below.refl _ _) | exact ((Below.refl _ _).alloc (Nat.le_refl _) _) | exact Below.drew ((Below.refl _ _).alloc (Nat.le_refl _) _)) HX.out).mono ?_; rintro e w' ⟨rfl, rfl⟩)
  all_goals
    go_wp2_with fail
    go_quiet (fail)
    go_wp2_with fail
    go_ret2
    exact ⟨rfl, below_drewN (((Below.refl _ w).alloc (Nat.le_refl _) _).drew) _⟩
end Go.Proofs.Ytohfkpoblebfaaa
