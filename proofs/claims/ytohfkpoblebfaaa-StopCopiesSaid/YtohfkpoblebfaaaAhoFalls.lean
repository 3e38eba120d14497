/- The walk of falls. -/
import Derived.Test.YtohfkpoblebfaaaAhoKeep
import Derived.Test.YtohfkpoblebfaaaAhoStep
import Derived.Deep.RegionHeld3
namespace Go.Proofs.Ytohfkpoblebfaaa
open Go.RowKit
set_option linter.unusedVariables false

def natsV (l : List Nat) : List Value := l.map fun (x : Nat) => .int .i64 (x : Int)
theorem natsV_len (l : List Nat) : (natsV l).length = l.length := by simp [natsV]
theorem natsV_snoc (l : List Nat) (x : Nat) : natsV (l ++ [x]) = natsV l ++ [.int .i64 (x : Int)] := by simp [natsV]
theorem Mach.grown {w w' : World} {B g c b s n : Nat} {ns : List Nd} {f : Vs} {A : Option Addr} {e : TypeId} {v : Value} {xs : List Value} (h : Mach w B g ns f A c) (ho : w.ownsRow b e s v n xs) (hg : w.grownBy w' v.ownBlock)
    (h1 : 63 ≠ e) (h2 : 60 ≠ e) (h3 : 68 ≠ e) : Mach w' B g ns f A c :=
  ⟨grown_block ho hg h.blk (fun e => h1 e.symm), h.nodes.kept hg (own_apart h.nodes ho h2), fun i hi => (h.ways i hi).kept hg (own_apart (h.ways i hi) ho h3), h.apart⟩
theorem far_cell {w : World} {a i j : Nat} {u v : Value} (h : w.cell? ⟨a, i, none⟩ = some v) (hij : i ≠ j) : (w.setCell ⟨a, j, none⟩ u).drew.cell? ⟨a, i, none⟩ = some v :=
  (World.cell?_setCell_other w _ _ _ (fun e => by injection e with _ e; omega)).trans h
theorem far_block {w : World} {a b i j : Nat} {u v : Value} (h : w.cell? ⟨b, i, none⟩ = some v) (hij : b ≠ a) : (w.setCell ⟨a, j, none⟩ u).drew.cell? ⟨b, i, none⟩ = some v :=
  (World.cell?_setCell_other w _ _ _ (fun e => by injection e with e; omega)).trans h
theorem far_cell' {w : World} {a i j : Nat} {u v : Value} (h : w.cell? ⟨a, i, none⟩ = some v) (hij : i ≠ j) : (w.setCell ⟨a, j, none⟩ u).cell? ⟨a, i, none⟩ = some v := far_cell h hij
theorem far_block' {w : World} {a b i j : Nat} {u v : Value} (h : w.cell? ⟨b, i, none⟩ = some v) (hij : b ≠ a) : (w.setCell ⟨a, j, none⟩ u).cell? ⟨b, i, none⟩ = some v := far_block h hij
/-- The states while the falls are found. -/
structure Falling (w0 wr : World) (B g : Nat) (l W : List Wd) (ns : List Nd) (row : List Nat) (i j : Nat) (f : Vs) (A : Option Addr) (c : Nat) (A2 : Option Addr) (c2 : Nat) : Prop where
  mach : Mach wr B g ns f A c
  bfs : Bfs l W ns row i j
  own : wr.ownsRow B 3 1 (.slice A2 row.length c2) row.length (natsV row)
  below : Below B w0 wr
section
variable {w0 wr w' : World} {B g i j c c2 : Nat} {l W : List Wd} {ns : List Nd} {row : List Nat} {f : Vs} {A A2 : Option Addr}
theorem Falling.kept (h : Falling w0 wr B g l W ns row i j f A c A2 c2) (hB : B ≤ wr.heap.size) (hb : Below wr.heap.size wr w') : Falling w0 w' B g l W ns row i j f A c A2 c2 :=
  ⟨h.mach.below hb, h.bfs, own_kept h.own hb (Nat.le_refl _), h.below.trans (hb.mono hB)⟩
theorem Falling.next (h : Falling w0 wr B g l W ns row i j f A c A2 c2) (hi : i < row.length) (hj : (nd ns row[i]).ways.length ≤ j) : Falling w0 wr B g l W ns row (i + 1) 0 f A c A2 c2 :=
  ⟨h.mach, h.bfs.next hi hj, h.own, h.below⟩
theorem Falling.len (h : Falling w0 wr B g l W ns row i j f A c A2 c2) : row.length ≤ W.length := nodup_le h.bfs.nodup h.bfs.lt
theorem Falling.cell (h : Falling w0 wr B g l W ns row i j f A c A2 c2) {k : Nat} (hk : k < row.length) : ∃ b, A2 = some ⟨b, 0, none⟩ ∧ wr.cell? ⟨b, k, none⟩ = some (.int .i64 (row[k] : Int)) := by
  obtain ⟨b, cap, hv, _, _⟩ := h.own.form (by omega)
  injection hv with hA
  subst hA
  refine ⟨b, rfl, ?_⟩
  rw [h.own.cellAt k (by omega)]
  simp [natsV, List.getElem?_eq_getElem hk]
end
/-- Where a fall leads. -/
theorem Bfs.fall_zero {l W : List Wd} {ns : List Nd} {row : List Nat} {i j to : Nat} {s : Int} (h : Bfs l W ns row i j) (hm : (s, to) ∈ (nd ns 0).ways) : wd W 0 = lsuf W (wd W to).tail := by
  have := ((h.trie.ways 0 h.trie.zero.1 s to).1 hm).2
  rw [this, h.trie.zero.2]
  rfl
theorem Bfs.fall_step {l W : List Wd} {ns : List Nd} {row : List Nat} {i j x to t : Nat} {s : Int} (h : Bfs l W ns row i j) (hx : x < W.length) (hx0 : x ≠ 0) (hm : (s, to) ∈ (nd ns x).ways) (hd : Done l W x (nd ns x)) (ht : wd W t = lsuf W (wd W (nd ns x).fall ++ [s])) : wd W t = lsuf W (wd W to).tail := by
  have h1 := ((h.trie.ways x hx s to).1 hm).2
  have hne : wd W x ≠ [] := fun e => hx0 (h.trie.inj x 0 hx h.trie.zero.1 (by rw [e, h.trie.zero.2]))
  rw [ht, hd.2.1, h1, List.tail_append_of_ne_nil hne, ← lsuf_snoc h.trie.closed]
theorem Bfs.fall_ne {l W : List Wd} {ns : List Nd} {row : List Nat} {i j F at_ : Nat} {s : Int} {to : Nat} (h : Bfs l W ns row i j) (hk : i < row.length) (hat : row[i] = at_) (hj : j < (nd ns at_).ways.length) (hst : (nd ns at_).ways[j] = (s, to)) (hF : F < W.length) (hFe : wd W F = lsuf W (wd W to).tail) :
    Bfs l W (ns.set to (fell ns to F)) (row ++ [to]) i (j + 1) ∧ to < W.length ∧ F ≠ to := by
  subst hat
  have h1 := h.step hk hj hF (by rw [hst]; exact hFe)
  rw [hst] at h1
  have hatW := h.lt _ (List.getElem_mem hk)
  have hm : (s, to) ∈ (nd ns row[i]).ways := by rw [← hst]; exact List.getElem_mem hj
  have hte := ((h.trie.ways _ hatW s to).1 hm).2
  have hle : (wd W F).length ≤ (wd W row[i]).length := by
    rw [hFe]
    have h2 := lsuf_le (W := W) (wd W to).tail
    have h3 := congrArg List.length hte
    rw [List.length_tail] at h2
    rw [List.length_append, List.length_singleton] at h3
    omega
  have hFr := h.short hk _ F hF rfl hle
  exact ⟨h1.1, h1.2.1, fun e => h1.2.2 (e ▸ hFr)⟩
theorem ndV_fall (n : Nd) (F : Nat) (v : Option Addr × Nat) : ndV { n with fall := F } v = (ndV n v).set 1 (.int .i64 (F : Int)) := rfl
theorem fell_no {ns : List Nd} {to F : Nat} (h : (nd ns to).place ≠ -1) : fell ns to F = { nd ns to with fall := F } := by unfold fell; rw [if_neg h, if_neg h]
theorem fell_yes {ns : List Nd} {to F : Nat} (h : (nd ns to).place = -1) : fell ns to F = { nd ns to with fall := F, place := (nd ns F).place, long := (nd ns F).long } := by unfold fell; rw [if_pos h, if_pos h]
/-- What finding the falls leaves. -/
def FallsDone (w : World) (B g : Nat) (l W : List Wd) (f : Vs) (A : Option Addr) (c : Nat) (e : Ending) (w' : World) : Prop := ∃ ns', e = .returned (.tuple #[]) ∧ Mach w' B g ns' f A c ∧ Ready l W ns' ∧ Below B w w'
theorem infoInt1 : (Try.prog.info? 3).map (fun i => (i.zero, i.size, i.bytes)) = some (some (.int .i64 0), 1, 8) := by kernel_rfl

set_option maxRecDepth 100000 in
set_option maxHeartbeats 4000000 in
theorem falls_any {B g c : Nat} {ns : List Nd} {l W : List Wd} {f : Vs} {A : Option Addr} (w : World) (hBg : B ≤ g) (h : Mach w B g ns f A c) (ht : Trie ns W) (ho : Owns l ns W) (hpa : Pats l W) (hm : W.length ≤ 80000) :
    Calls Try.prog 40 #[.pointer (some ⟨g, 0, none⟩)] w (FallsDone w B g l W f A c) := by
  have hgl := h.lt
  have hB0 : B ≤ w.heap.size := by omega
  have F0 := Lib.hid (show Falling w (w.alloc (.cells #[.int .i64 0] 3)) B g l W ns [0] 0 0 f A c (some ⟨w.heap.size, 0, none⟩) 1 from
    ⟨h.below ((Below.refl _ w).alloc (Nat.le_refl _) _), Bfs.start ht hpa ho, ⟨rfl, .inr ⟨w.heap.size, 1, #[.int .i64 0], rfl, hB0, heap_alloc_new w _, Nat.le_refl _, by unfold maxLen; omega, rfl, rfl⟩⟩, (Below.refl B w).alloc hB0 _⟩)
  clear h ht ho hpa
  go_enter Try.func40, Try.ntmps40
  go_wp2_with fail
  go_loopw [2, 3] (fun v i wr => ∃ (k : Nat) (row : List Nat) (ns' : List Nd) (A2 : Option Addr) (c2 : Nat), v = .slice A2 row.length c2 ∧ i = .int .i64 k ∧ Falling w wr B g l W ns' row k 0 f A c A2 c2) (fun _ i _ => W.length - (intOf i).toNat)
  case atStart => exact ⟨0, [0], ns, _, _, rfl, rfl, F0.out⟩
  case round =>
    obtain ⟨k, row, ns', A2, c2, rfl, rfl, hF⟩ := hrel
    have FF := Lib.hid hF
    have hrl := hF.len
    have hgl := hF.mach.lt
    have hBw : B ≤ wr.heap.size := by omega
    clear hF
    by_cases hlt : k < row.length
    · obtain ⟨b2, hA2, e2⟩ := FF.out.cell hlt
      subst hA2
      have hcap2 := (RowAt.of_own FF.out.own).2.1
      have hcapm := (RowAt.of_own FF.out.own).2.2.1
      unfold maxLen at hcapm
      obtain ⟨at_, hat⟩ : ∃ x, row[k] = x := ⟨_, rfl⟩
      rw [hat] at e2
      have hatl : at_ < W.length := by rw [← hat]; exact FF.out.bfs.lt _ (List.getElem_mem hlt)
      have hatn : at_ < ns'.length := by have := FF.out.bfs.trie.len; omega
      have m0 := FF.out.mach.cell
      have hcap' := FF.out.mach.cap
      unfold maxLen at hcap'
      obtain ⟨hcp1, hcp2⟩ := hcap'
      obtain ⟨a, hA, hal, hBa, n0, n1, n2, n3, n4⟩ := FF.out.mach.node hatn
      subst hA
      obtain ⟨ws, hws⟩ : ∃ ws, (nd ns' at_).ways = ws := ⟨_, rfl⟩
      obtain ⟨ln, hln⟩ : ∃ n, ws.length = n := ⟨_, rfl⟩
      obtain ⟨AW, hAW⟩ : ∃ AW, (f at_).1 = AW := ⟨_, rfl⟩
      rw [hws, hln, hAW] at n0
      have HAW := Lib.hid hAW
      clear hAW
      have hlnW : ln ≤ W.length := by have := FF.out.bfs.trie.ways_le hatl; rw [hws, hln] at this; exact this
      have HAT := Lib.hid hat
      have HWS := Lib.hid hws
      have HLN := Lib.hid hln
      clear hat hws hln n1 n2 n3 n4
      go_wp2_with fail
      obtain ⟨wo, hwo⟩ : ∃ wo : World, wo = wr := ⟨_, rfl⟩
      have FFo := Lib.hid FF.out
      rw [← hwo] at FFo
      have X0 := Lib.hid (show ∃ (h : k < row.length), row[k] = at_ from ⟨hlt, HAT.out⟩)
      have HWSo := Lib.hid HWS.out
      clear FF m0 n0 e2 hgl hBw hal hrl hcap2 hcapm hatn hcp1 hcp2 HAT HWS
      subst hwo
      go_loopw [2, 28] (fun v i wr => ∃ (j : Nat) (row : List Nat) (ns' : List Nd) (A2 : Option Addr) (c2 : Nat), v = .slice A2 row.length c2 ∧ i = .int .i64 j ∧ j ≤ ln ∧ Falling w wr B g l W ns' row k j f (some ⟨a, 0, none⟩) c A2 c2 ∧ (∃ (h : k < row.length), row[k] = at_) ∧ (nd ns' at_).ways = ws) (fun _ i _ => ln - (intOf i).toNat)
      case atStart => exact ⟨0, row, ns', _, _, rfl, rfl, Nat.zero_le _, FFo.out, X0.out, HWSo.out⟩
      case round =>
        clear X0 HWSo FFo hlt
        obtain ⟨j, row, ns', A2, c2, rfl, rfl, hj, hF, ⟨hk, hat⟩, hws⟩ := hrel
        have FF := Lib.hid hF
        have HAT := Lib.hid hat
        have HWS := Lib.hid hws
        have hrl := hF.len
        have hgl := hF.mach.lt
        have hBw : B ≤ wr.heap.size := by omega
        have hnl := hF.bfs.trie.len
        have HNL := Lib.hid hnl
        clear hF hat hws hnl
        by_cases hjl : j < ln
        · have hjw : j < ws.length := by have := HLN.out; omega
          have hatn : at_ < ns'.length := by have := HNL.out; omega
          have m0 := FF.out.mach.cell
          have hcap' := FF.out.mach.cap
          unfold maxLen at hcap'
          obtain ⟨hcp1, hcp2⟩ := hcap'
          obtain ⟨a', hA', hal, hBa', n0, n1, n2, n3, n4⟩ := FF.out.mach.node hatn
          obtain rfl : a = a' := by injection hA' with h; injection h
          clear hA'
          have hns : ns'.length ≤ 80000 := by have := HNL.out; omega
          have HWA := Lib.hid (FF.out.mach.waysAt hatn)
          rw [HWS.out, HLN.out, HAW.out] at HWA n0
          obtain ⟨bw, offw, hfw, hbw, hcw⟩ := HWA.out.cells (by omega)
          subst hfw
          obtain ⟨cw0, cw1⟩ := hcw j hjw
          obtain ⟨⟨s, to⟩, hst⟩ : ∃ x, ws[j]'hjw = x := ⟨_, rfl⟩
          have hwy : wy ws j = (s, to) := by unfold wy; rw [List.getD_eq_getElem?_getD, List.getElem?_eq_getElem hjw, hst]; rfl
          rw [hwy] at cw0 cw1
          have hwc := HWA.out.2.1
          have hwm := HWA.out.2.2.1
          unfold maxLen at hwm
          have HST := Lib.hid hst
          have hmem : (s, to) ∈ (nd ns' at_).ways := by rw [HWS.out, ← HST.out]; exact List.getElem_mem hjw
          have HMEM := Lib.hid hmem
          have htoW : to < W.length := ((FF.out.bfs.trie.ways at_ hatl s to).1 hmem).1
          have hton : to < ns'.length := by have := HNL.out; omega
          have hDat := Lib.hid (FF.out.bfs.done at_ (by have := HAT.out; rw [← this]; exact List.getElem_mem hk))
          have hFW : (nd ns' at_).fall < ns'.length := by have := hDat.out.1; have := HNL.out; omega
          have N1 := Lib.hid n1
          have M0 := Lib.hid m0
          clear hcw hst hwy hmem n0 n2 n3 n4 n1 m0
          by_cases hz : at_ = 0
          · have hzb := bne_no (a := (at_ : Int)) (b := 0) (by omega)
            have HZ := Lib.hid hz
            clear hz
            have FA := Lib.hid (FF.out.kept (w' := wr.alloc (.cells #[.int .i64 s, .int .i64 (to : Int)] 68)) hBw ((Below.refl _ wr).alloc (Nat.le_refl _) _))
            have hFl : 0 < W.length := by omega
            have HFE := Lib.hid (show wd W 0 = lsuf W (wd W to).tail from FF.out.bfs.fall_zero (by have := HMEM.out; rw [HZ.out] at this; exact this))
            have q1 : (wr.alloc (.cells #[.int .i64 s, .int .i64 (to : Int)] 68)).cell? ⟨wr.heap.size, 1, none⟩ = some (.int .i64 (to : Int)) := Lib.cell_of_heap (heap_alloc_new wr _) 1
            go_wp2_with fail
            obtain ⟨wA, hwA⟩ : ∃ wA, wA = wr.alloc (.cells #[.int .i64 s, .int .i64 (to : Int)] 68) := ⟨_, rfl⟩
            have hqA : wr.heap.size < wA.heap.size := by rw [hwA]; simp
            rw [← hwA] at FA q1 ⊢
            clear hwA
            have HSTEP := Lib.hid (FA.out.bfs.fall_ne (j := j) hk HAT.out (by rw [HWS.out]; exact hjw) (by simp only [HWS.out]; exact HST.out) hFl HFE.out)
            have hFt := HSTEP.out.2.2
            have hFn : 0 < ns'.length := by have := HNL.out; omega
            have M := FA.out.mach
            have m0 := M.cell
            obtain ⟨a1, hA1, hal1, -, u0, u1, u2, u3, u4⟩ := M.node hton
            obtain rfl : a = a1 := by injection hA1 with h; injection h
            obtain ⟨a2, hA2, -, -, v0, v1, v2, v3, v4⟩ := M.node hFn
            obtain rfl : a = a2 := by injection hA2 with h; injection h
            have hfr1 := M.nodes.frozenAt (to * 5 + 1)
            have hto0 : (0 : Int) ≤ (to : Int) := by omega
            have hto1 : (to : Int) < (ns'.length : Int) := by omega
            have hqa : wr.heap.size ≠ a := by omega
            have hga : g ≠ a := by
              rintro rfl
              obtain ⟨cur, hcur⟩ := own_heap M.nodes
              have := M.blk
              rw [hcur] at this
              injection this with this
              injection this with _ ht
              exact absurd ht (by decide)
            have HV3 := Lib.hid v3
            have HV4 := Lib.hid v4
            have HU3 := Lib.hid u3
            have HU4 := Lib.hid u4
            have HQ1 := Lib.hid q1
            have HM0 := Lib.hid m0
            clear hA1 hA2 u0 u2 v0 v1 v2 u3 u4 v3 v4 M
            go_wp2_with fail
            go_region
            obtain ⟨wB, hwB⟩ : ∃ wB, wB = (wA.setCell ⟨a, to * 5 + 1, none⟩ (.int .i64 (0 : Int))).drew := ⟨_, rfl⟩
            have MB := Lib.hid (show Mach wB B g (ns'.set to { nd ns' to with fall := 0 }) f (some ⟨a, 0, none⟩) c from by
              rw [hwB]
              exact (set_mach (x := { nd ns' to with fall := 0 }) (u := .int .i64 (0 : Int)) FA.out.mach hton (show 1 < 5 by omega) rfl rfl).below (Below.refl _ _).drew)
            have BB := Lib.hid (show Below B w wB from by rw [hwB]; exact (FA.out.below.setCell (p := ⟨a, to * 5 + 1, none⟩) hBa _).drew)
            have hcur := own_heap FA.out.mach.nodes
            have OB := Lib.hid (show wB.ownsRow B 3 1 (.slice A2 row.length c2) row.length (natsV row) from by
              obtain ⟨cur, hcur⟩ := hcur
              rw [hwB]
              exact own_set_other FA.out.own hcur (by decide))
            have q1 : wB.cell? ⟨wr.heap.size, 1, none⟩ = some (.int .i64 (to : Int)) := by rw [hwB]; exact (World.cell?_setCell_other _ _ _ _ (fun e => by injection e with e; exact hqa e.symm)).trans HQ1.out
            have m0 : wB.cell? ⟨g, 0, none⟩ = some (.slice (some ⟨a, 0, none⟩) ns'.length c) := by rw [hwB]; exact (World.cell?_setCell_other _ _ _ _ (fun e => by injection e with e; exact hga e.symm)).trans HM0.out
            have b3 : wB.cell? ⟨a, to * 5 + 3, none⟩ = some (.int .i64 (nd ns' to).place) := by rw [hwB]; exact (World.cell?_setCell_other _ _ _ _ (fun e => by injection e with _ e; omega)).trans HU3.out
            have b4 : wB.cell? ⟨a, to * 5 + 4, none⟩ = some (.int .i64 ((nd ns' to).long : Int)) := by rw [hwB]; exact (World.cell?_setCell_other _ _ _ _ (fun e => by injection e with _ e; omega)).trans HU4.out
            have d3 : wB.cell? ⟨a, 0 * 5 + 3, none⟩ = some (.int .i64 (nd ns' 0).place) := by rw [hwB]; exact (World.cell?_setCell_other _ _ _ _ (fun e => by injection e with _ e; omega)).trans HV3.out
            have d4 : wB.cell? ⟨a, 0 * 5 + 4, none⟩ = some (.int .i64 ((nd ns' 0).long : Int)) := by rw [hwB]; exact (World.cell?_setCell_other _ _ _ _ (fun e => by injection e with _ e; omega)).trans HV4.out
            have hwBz : wB.heap.size = wA.heap.size := by rw [hwB]; simp
            have hqB : wr.heap.size < wB.heap.size := by rw [hwBz]; exact hqA
            rw [← hwB]
            clear hwB HV3 HV4 HU3 HU4 HQ1 HM0 hfr1 u1 hcur
            by_cases hpl : (nd ns' to).place = -1
            · have hb := beq_yes hpl
              have HPL := Lib.hid hpl
              clear hpl
              go_wp2_with fail
              go_quiet (fail)
              obtain ⟨wC, hwC⟩ : ∃ wC, wC = wB.drewN nq := ⟨_, rfl⟩
              have MC := Lib.hid (show Mach wC B g (ns'.set to { nd ns' to with fall := 0 }) f (some ⟨a, 0, none⟩) c from by rw [hwC]; exact MB.out.below (below_drewN (Below.refl _ _) nq))
              have BC := Lib.hid (show Below B w wC from by rw [hwC]; exact below_drewN BB.out nq)
              have OC := Lib.hid (show wC.ownsRow B 3 1 (.slice A2 row.length c2) row.length (natsV row) from by rw [hwC]; exact OB.out)
              have q1' : wC.cell? ⟨wr.heap.size, 1, none⟩ = some (.int .i64 (to : Int)) := by rw [hwC]; exact q1
              have m0' : wC.cell? ⟨g, 0, none⟩ = some (.slice (some ⟨a, 0, none⟩) ns'.length c) := by rw [hwC]; exact m0
              have b3' : wC.cell? ⟨a, to * 5 + 3, none⟩ = some (.int .i64 (nd ns' to).place) := by rw [hwC]; exact b3
              have b4' : wC.cell? ⟨a, to * 5 + 4, none⟩ = some (.int .i64 ((nd ns' to).long : Int)) := by rw [hwC]; exact b4
              have d3' : wC.cell? ⟨a, 3, none⟩ = some (.int .i64 (nd ns' 0).place) := by rw [hwC]; exact d3
              have d4' : wC.cell? ⟨a, 4, none⟩ = some (.int .i64 ((nd ns' 0).long : Int)) := by rw [hwC]; exact d4
              have f3 := MC.out.nodes.frozenAt (to * 5 + 3)
              have f4 := MC.out.nodes.frozenAt (to * 5 + 4)
              have hwCz : wC.heap.size = wB.heap.size := by rw [hwC]; rfl
              have hqC : wr.heap.size < wC.heap.size := by rw [hwCz]; exact hqB
              rw [← hwC]
              clear hwC q1 m0 b3 b4 d3 d4
              have x1 : 0 * 5 + 3 ≠ to * 5 + 3 := by omega
              have x2 : 0 * 5 + 3 ≠ to * 5 + 4 := by omega
              have x3 : 0 * 5 + 4 ≠ to * 5 + 3 := by omega
              have x4 : 0 * 5 + 4 ≠ to * 5 + 4 := by omega
              have hF0 : (0 : Int) ≤ (0 : Int) := by omega
              have hF1 : (0 : Int) < (ns'.length : Int) := by omega
              have haq : a ≠ wr.heap.size := fun e => hqa e.symm
              have hag : a ≠ g := fun e => hga e.symm
              go_wp2_with fail
              go_region_held3 (fun w' => w'.cell? ⟨g, 0, none⟩ = some (.slice (some ⟨a, 0, none⟩) ns'.length c) ∧ w'.cell? ⟨wr.heap.size, 1, none⟩ = some (.int .i64 (to : Int)) ∧ w'.cell? ⟨a, 3, none⟩ = some (.int .i64 (nd ns' 0).place) ∧ w'.cell? ⟨a, 4, none⟩ = some (.int .i64 ((nd ns' 0).long : Int))) (first | (refine ⟨?_, ?_, ?_, ?_⟩ <;> (first | assumption | exact far_block (by assumption) hga | exact far_block' (by assumption) hga | exact far_block (far_block' (by assumption) hga) hga | exact far_block' (far_block' (by assumption) hga) hga | exact far_block (by assumption) hqa | exact far_block' (by assumption) hqa | exact far_block (far_block' (by assumption) hqa) hqa | exact far_block' (far_block' (by assumption) hqa) hqa | exact far_cell (by assumption) (by omega) | exact far_cell' (by assumption) (by omega) | exact far_cell (far_cell' (by assumption) (by omega)) (by omega) | exact far_cell' (far_cell' (by assumption) (by omega)) (by omega))) | go_keep) (fail)
              obtain ⟨wD, hwD⟩ : ∃ wD, wD = ((wC.setCell ⟨a, to * 5 + 3, none⟩ (.int .i64 (nd ns' 0).place)).setCell ⟨a, to * 5 + 4, none⟩ (.int .i64 ((nd ns' 0).long : Int))).drew := ⟨_, rfl⟩
              have MD := Lib.hid (show Mach wD B g (ns'.set to (fell ns' to 0)) f (some ⟨a, 0, none⟩) c from by
                have hs1 : nd (ns'.set to { nd ns' to with fall := 0 }) to = { nd ns' to with fall := 0 } := by rw [nd_set hton, if_pos rfl]
                have h1 := set_mach (i := to) (x := { nd ns' to with fall := 0, place := (nd ns' 0).place }) (u := .int .i64 (nd ns' 0).place) MC.out (by rw [List.length_set]; exact hton) (show 3 < 5 by omega) (by rw [hs1]; rfl) (by rw [hs1])
                rw [List.set_set] at h1
                have hs2 : nd (ns'.set to { nd ns' to with fall := 0, place := (nd ns' 0).place }) to = { nd ns' to with fall := 0, place := (nd ns' 0).place } := by rw [nd_set hton, if_pos rfl]
                have h2 := set_mach (i := to) (x := { nd ns' to with fall := 0, place := (nd ns' 0).place, long := (nd ns' 0).long }) (u := .int .i64 ((nd ns' 0).long : Int)) h1 (by rw [List.length_set]; exact hton) (show 4 < 5 by omega) (by rw [hs2]; rfl) (by rw [hs2])
                rw [List.set_set] at h2
                rw [hwD, fell_yes HPL.out]
                exact h2.below (Below.refl _ _).drew)
              have BD := Lib.hid (show Below B w wD from by rw [hwD]; exact ((BC.out.setCell (p := ⟨a, to * 5 + 3, none⟩) hBa _).setCell (p := ⟨a, to * 5 + 4, none⟩) hBa _).drew)
              have OD := Lib.hid (show wD.ownsRow B 3 1 (.slice A2 row.length c2) row.length (natsV row) from by
                obtain ⟨cur, hcur⟩ := own_heap MC.out.nodes
                have hcur2 := heap_set_at (j := to * 5 + 3) (u := .int .i64 (nd ns' 0).place) hcur
                rw [hwD]
                exact own_set_other (own_set_other OC.out hcur (by decide)) hcur2 (by decide))
              have q1d : wD.cell? ⟨wr.heap.size, 1, none⟩ = some (.int .i64 (to : Int)) := by rw [hwD]; exact far_block (far_block' q1' hqa) hqa
              rw [← hwD]
              clear hwD q1' m0' b3' b4' d3' d4' f3 f4 MC BC OC
              have hBD : B ≤ wD.heap.size := by have := MD.out.lt; omega
              go_wp2_with (at_builtin; refine wpList_push rfl (.tmp 97) (.tmp 100) _ rfl B 3 _ 8 Try.underlying31 infoInt1 rfl (.slice A2 row.length c2) row.length (natsV row) rfl wD wD.heap.size rfl (.int .i64 (to : Int)) rfl OD.out rfl hBD (by omega) (by unfold maxLen; omega) ?_; intro A5 c5 w5 hown5 hb5 hg5; have O5 := Lib.hid hown5; have B5 := Lib.hid (BD.out.trans hb5); have M5 := Lib.hid ((MD.out.below ((Below.refl _ wD).alloc (Nat.le_refl _) (.cells #[.int .i64 (to : Int)] 3))).grown (OD.out.alloc _) hg5 (by decide) (by decide) (by decide)); clear hown5 hb5 hg5)
              go_roundw
              case rel =>
                refine ⟨j + 1, row ++ [to], ns'.set to (fell ns' to 0), A5, c5, by rw [List.length_append]; rfl, by go_num, by omega, ⟨M5.out, HSTEP.out.1, ?_, B5.out⟩, ⟨by rw [List.length_append]; omega, ?_⟩, ?_⟩
                · rw [List.length_append, natsV_snoc]; exact O5.out
                · rw [List.getElem_append_left hk]; exact HAT.out
                · rw [nd_set hton]
                  by_cases e : to = at_
                  · subst e; rw [if_pos rfl]; exact HWS.out
                  · rw [if_neg e]; exact HWS.out
              case measure => simp [intOf]; omega
            · have hb := beq_no hpl
              have HFL := Lib.hid (fell_no (F := 0) hpl)
              clear hpl
              go_wp2_with fail
              go_quiet (fail)
              obtain ⟨wC, hwC⟩ : ∃ wC, wC = wB.drewN nq := ⟨_, rfl⟩
              have MC := Lib.hid (show Mach wC B g (ns'.set to (fell ns' to 0)) f (some ⟨a, 0, none⟩) c from by rw [hwC, HFL.out]; exact MB.out.below (below_drewN (Below.refl _ _) nq))
              have BC := Lib.hid (show Below B w wC from by rw [hwC]; exact below_drewN BB.out nq)
              have OC := Lib.hid (show wC.ownsRow B 3 1 (.slice A2 row.length c2) row.length (natsV row) from by rw [hwC]; exact OB.out)
              have q1' : wC.cell? ⟨wr.heap.size, 1, none⟩ = some (.int .i64 (to : Int)) := by rw [hwC]; exact q1
              rw [← hwC]
              clear hwC q1 m0 b3 b4 d3 d4
              have hBC : B ≤ wC.heap.size := by have := MC.out.lt; omega
              go_wp2_with (at_builtin; refine wpList_push rfl (.tmp 97) (.tmp 100) _ rfl B 3 _ 8 Try.underlying31 infoInt1 rfl (.slice A2 row.length c2) row.length (natsV row) rfl wC wC.heap.size rfl (.int .i64 (to : Int)) rfl OC.out rfl hBC (by omega) (by unfold maxLen; omega) ?_; intro A5 c5 w5 hown5 hb5 hg5; have O5 := Lib.hid hown5; have B5 := Lib.hid (BC.out.trans hb5); have M5 := Lib.hid ((MC.out.below ((Below.refl _ wC).alloc (Nat.le_refl _) (.cells #[.int .i64 (to : Int)] 3))).grown (OC.out.alloc _) hg5 (by decide) (by decide) (by decide)); clear hown5 hb5 hg5)
              go_roundw
              case rel =>
                refine ⟨j + 1, row ++ [to], ns'.set to (fell ns' to 0), A5, c5, by rw [List.length_append]; rfl, by go_num, by omega, ⟨M5.out, HSTEP.out.1, ?_, B5.out⟩, ⟨by rw [List.length_append]; omega, ?_⟩, ?_⟩
                · rw [List.length_append, natsV_snoc]; exact O5.out
                · rw [List.getElem_append_left hk]; exact HAT.out
                · rw [nd_set hton]
                  by_cases e : to = at_
                  · subst e; rw [if_pos rfl]; exact HWS.out
                  · rw [if_neg e]; exact HWS.out
              case measure => simp [intOf]; omega
          · have hzb := bne_yes (a := (at_ : Int)) (b := 0) (by omega)
            have FA := Lib.hid (FF.out.kept (w' := (wr.alloc (.cells #[.int .i64 s, .int .i64 (to : Int)] 68)).drew) hBw (((Below.refl _ wr).alloc (Nat.le_refl _) _).drew))
            have HZ := Lib.hid hz
            clear hz
            have hst : stOf ns' ((nd ns' at_).fall : Int) = (nd ns' at_).fall := stOf_nat hFW
            have HSTC := Lib.hid (step_any (d := (wd W at_).length) ((nd ns' at_).fall : Int) s _ FA.out.mach FA.out.bfs.trie (by omega) (fun x hx hd => ⟨(FA.out.bfs.falls hk hx (by rw [HAT.out]; exact hd)).1, (FA.out.bfs.falls hk hx (by rw [HAT.out]; exact hd)).2.1⟩) (by
              rw [hst, hDat.out.2.1]
              have := lsuf_le (W := W) (wd W at_).tail
              rw [List.length_tail] at this
              omega))
            rw [hst] at HSTC
            have q0 : (wr.alloc (.cells #[.int .i64 s, .int .i64 (to : Int)] 68)).cell? ⟨wr.heap.size, 0, none⟩ = some (.int .i64 s) := Lib.cell_of_heap (heap_alloc_new wr _) 0
            have QB := Lib.hid (show (wr.alloc (.cells #[.int .i64 s, .int .i64 (to : Int)] 68)).drew.heap[wr.heap.size]? = some (.cells #[.int .i64 s, .int .i64 (to : Int)] 68 (0, 0)) from heap_alloc_new wr _)
            have m0 : wr.cell? ⟨g, 0, none⟩ = some (.slice (some ⟨a, 0, none⟩) ns'.length c) := M0.out
            have n1 : wr.cell? ⟨a, at_ * 5 + 1, none⟩ = some (.int .i64 ((nd ns' at_).fall : Int)) := N1.out
            have m0a := (World.cell?_alloc_lt wr (.cells #[.int .i64 s, .int .i64 (to : Int)] 68) ⟨g, 0, none⟩ hgl).trans m0
            have n1a := (World.cell?_alloc_lt wr (.cells #[.int .i64 s, .int .i64 (to : Int)] 68) ⟨a, at_ * 5 + 1, none⟩ hal).trans n1
            have ha0 : (0 : Int) ≤ (at_ : Int) := by omega
            have ha1 : (at_ : Int) < (ns'.length : Int) := by omega
            clear hst
            go_wp2_with fail
            go_region_held3 (fun w' => w'.cell? ⟨g, 0, none⟩ = some (.slice (some ⟨a, 0, none⟩) ns'.length c) ∧ w'.cell? ⟨a, at_ * 5 + 1, none⟩ = some (.int .i64 ((nd ns' at_).fall : Int)) ∧ w'.cell? ⟨wr.heap.size, 0, none⟩ = some (.int .i64 s)) (first | assumption | go_keep) (first | (go_at_call 19; refine HSTC.out.mono ?_; rintro e wA ⟨F, rfl, hFl, hFe, hbA⟩; have HFE0 := Lib.hid hFe; have HBA := Lib.hid hbA; have k1 : wA.cell? ⟨g, 0, none⟩ = some (.slice (some ⟨a, 0, none⟩) ns'.length c) := (hbA.cell (p := ⟨g, 0, none⟩) (by show g < (wr.alloc _).heap.size; simp; omega)).trans m0a; have k2 : wA.cell? ⟨a, at_ * 5 + 1, none⟩ = some (.int .i64 ((nd ns' at_).fall : Int)) := (hbA.cell (p := ⟨a, at_ * 5 + 1, none⟩) (by show a < (wr.alloc _).heap.size; simp; omega)).trans n1a; have k3 : wA.cell? ⟨wr.heap.size, 0, none⟩ = some (.int .i64 s) := (hbA.cell (p := ⟨wr.heap.size, 0, none⟩) (by show wr.heap.size < (wr.alloc _).heap.size; simp)).trans q0; clear hFe hbA))
            have hqA : wr.heap.size < wA.heap.size := Nat.lt_of_lt_of_le (show wr.heap.size < (wr.alloc (.cells #[.int .i64 s, .int .i64 (to : Int)] 68)).drew.heap.size from by show _ < (wr.alloc _).heap.size; simp) HBA.out.size
            have q1 : wA.cell? ⟨wr.heap.size, 1, none⟩ = some (.int .i64 (to : Int)) := (HBA.out.cell (p := ⟨wr.heap.size, 1, none⟩) (by show wr.heap.size < (wr.alloc _).heap.size; simp)).trans (Lib.cell_of_heap QB.out 1)
            have FA0 := Lib.hid FA.out
            clear FA
            have FA := Lib.hid (FA0.out.kept (by show B ≤ (wr.alloc _).heap.size; simp; omega) HBA.out)
            have HFE := Lib.hid (show wd W F = lsuf W (wd W to).tail from FF.out.bfs.fall_step hatl HZ.out HMEM.out hDat.out HFE0.out)
            clear k1 k2 k3 m0 n1 q0 m0a n1a ha0 ha1
            have HSTEP := Lib.hid (FA.out.bfs.fall_ne (j := j) hk HAT.out (by rw [HWS.out]; exact hjw) (by simp only [HWS.out]; exact HST.out) hFl HFE.out)
            have hFt := HSTEP.out.2.2
            have hFn : F < ns'.length := by have := HNL.out; omega
            have M := FA.out.mach
            have m0 := M.cell
            obtain ⟨a1, hA1, hal1, -, u0, u1, u2, u3, u4⟩ := M.node hton
            obtain rfl : a = a1 := by injection hA1 with h; injection h
            obtain ⟨a2, hA2, -, -, v0, v1, v2, v3, v4⟩ := M.node hFn
            obtain rfl : a = a2 := by injection hA2 with h; injection h
            have hfr1 := M.nodes.frozenAt (to * 5 + 1)
            have hto0 : (0 : Int) ≤ (to : Int) := by omega
            have hto1 : (to : Int) < (ns'.length : Int) := by omega
            have hqa : wr.heap.size ≠ a := by omega
            have hga : g ≠ a := by
              rintro rfl
              obtain ⟨cur, hcur⟩ := own_heap M.nodes
              have := M.blk
              rw [hcur] at this
              injection this with this
              injection this with _ ht
              exact absurd ht (by decide)
            have HV3 := Lib.hid v3
            have HV4 := Lib.hid v4
            have HU3 := Lib.hid u3
            have HU4 := Lib.hid u4
            have HQ1 := Lib.hid q1
            have HM0 := Lib.hid m0
            clear hA1 hA2 u0 u2 v0 v1 v2 u3 u4 v3 v4 M
            go_wp2_with fail
            go_region
            obtain ⟨wB, hwB⟩ : ∃ wB, wB = (wA.setCell ⟨a, to * 5 + 1, none⟩ (.int .i64 (F : Int))).drew := ⟨_, rfl⟩
            have MB := Lib.hid (show Mach wB B g (ns'.set to { nd ns' to with fall := F }) f (some ⟨a, 0, none⟩) c from by
              rw [hwB]
              exact (set_mach (x := { nd ns' to with fall := F }) (u := .int .i64 (F : Int)) FA.out.mach hton (show 1 < 5 by omega) rfl rfl).below (Below.refl _ _).drew)
            have BB := Lib.hid (show Below B w wB from by rw [hwB]; exact (FA.out.below.setCell (p := ⟨a, to * 5 + 1, none⟩) hBa _).drew)
            have hcur := own_heap FA.out.mach.nodes
            have OB := Lib.hid (show wB.ownsRow B 3 1 (.slice A2 row.length c2) row.length (natsV row) from by
              obtain ⟨cur, hcur⟩ := hcur
              rw [hwB]
              exact own_set_other FA.out.own hcur (by decide))
            have q1 : wB.cell? ⟨wr.heap.size, 1, none⟩ = some (.int .i64 (to : Int)) := by rw [hwB]; exact (World.cell?_setCell_other _ _ _ _ (fun e => by injection e with e; exact hqa e.symm)).trans HQ1.out
            have m0 : wB.cell? ⟨g, 0, none⟩ = some (.slice (some ⟨a, 0, none⟩) ns'.length c) := by rw [hwB]; exact (World.cell?_setCell_other _ _ _ _ (fun e => by injection e with e; exact hga e.symm)).trans HM0.out
            have b3 : wB.cell? ⟨a, to * 5 + 3, none⟩ = some (.int .i64 (nd ns' to).place) := by rw [hwB]; exact (World.cell?_setCell_other _ _ _ _ (fun e => by injection e with _ e; omega)).trans HU3.out
            have b4 : wB.cell? ⟨a, to * 5 + 4, none⟩ = some (.int .i64 ((nd ns' to).long : Int)) := by rw [hwB]; exact (World.cell?_setCell_other _ _ _ _ (fun e => by injection e with _ e; omega)).trans HU4.out
            have d3 : wB.cell? ⟨a, F * 5 + 3, none⟩ = some (.int .i64 (nd ns' F).place) := by rw [hwB]; exact (World.cell?_setCell_other _ _ _ _ (fun e => by injection e with _ e; omega)).trans HV3.out
            have d4 : wB.cell? ⟨a, F * 5 + 4, none⟩ = some (.int .i64 ((nd ns' F).long : Int)) := by rw [hwB]; exact (World.cell?_setCell_other _ _ _ _ (fun e => by injection e with _ e; omega)).trans HV4.out
            have hwBz : wB.heap.size = wA.heap.size := by rw [hwB]; simp
            have hqB : wr.heap.size < wB.heap.size := by rw [hwBz]; exact hqA
            rw [← hwB]
            clear hwB HV3 HV4 HU3 HU4 HQ1 HM0 hfr1 u1 hcur
            by_cases hpl : (nd ns' to).place = -1
            · have hb := beq_yes hpl
              have HPL := Lib.hid hpl
              clear hpl
              go_wp2_with fail
              go_quiet (fail)
              obtain ⟨wC, hwC⟩ : ∃ wC, wC = wB.drewN nq := ⟨_, rfl⟩
              have MC := Lib.hid (show Mach wC B g (ns'.set to { nd ns' to with fall := F }) f (some ⟨a, 0, none⟩) c from by rw [hwC]; exact MB.out.below (below_drewN (Below.refl _ _) nq))
              have BC := Lib.hid (show Below B w wC from by rw [hwC]; exact below_drewN BB.out nq)
              have OC := Lib.hid (show wC.ownsRow B 3 1 (.slice A2 row.length c2) row.length (natsV row) from by rw [hwC]; exact OB.out)
              have q1' : wC.cell? ⟨wr.heap.size, 1, none⟩ = some (.int .i64 (to : Int)) := by rw [hwC]; exact q1
              have m0' : wC.cell? ⟨g, 0, none⟩ = some (.slice (some ⟨a, 0, none⟩) ns'.length c) := by rw [hwC]; exact m0
              have b3' : wC.cell? ⟨a, to * 5 + 3, none⟩ = some (.int .i64 (nd ns' to).place) := by rw [hwC]; exact b3
              have b4' : wC.cell? ⟨a, to * 5 + 4, none⟩ = some (.int .i64 ((nd ns' to).long : Int)) := by rw [hwC]; exact b4
              have d3' : wC.cell? ⟨a, F * 5 + 3, none⟩ = some (.int .i64 (nd ns' F).place) := by rw [hwC]; exact d3
              have d4' : wC.cell? ⟨a, F * 5 + 4, none⟩ = some (.int .i64 ((nd ns' F).long : Int)) := by rw [hwC]; exact d4
              have f3 := MC.out.nodes.frozenAt (to * 5 + 3)
              have f4 := MC.out.nodes.frozenAt (to * 5 + 4)
              have hwCz : wC.heap.size = wB.heap.size := by rw [hwC]; rfl
              have hqC : wr.heap.size < wC.heap.size := by rw [hwCz]; exact hqB
              rw [← hwC]
              clear hwC q1 m0 b3 b4 d3 d4
              have x1 : F * 5 + 3 ≠ to * 5 + 3 := by omega
              have x2 : F * 5 + 3 ≠ to * 5 + 4 := by omega
              have x3 : F * 5 + 4 ≠ to * 5 + 3 := by omega
              have x4 : F * 5 + 4 ≠ to * 5 + 4 := by omega
              have hF0 : (0 : Int) ≤ (F : Int) := by omega
              have hF1 : (F : Int) < (ns'.length : Int) := by omega
              have haq : a ≠ wr.heap.size := fun e => hqa e.symm
              have hag : a ≠ g := fun e => hga e.symm
              go_wp2_with fail
              go_region_held3 (fun w' => w'.cell? ⟨g, 0, none⟩ = some (.slice (some ⟨a, 0, none⟩) ns'.length c) ∧ w'.cell? ⟨wr.heap.size, 1, none⟩ = some (.int .i64 (to : Int)) ∧ w'.cell? ⟨a, F * 5 + 3, none⟩ = some (.int .i64 (nd ns' F).place) ∧ w'.cell? ⟨a, F * 5 + 4, none⟩ = some (.int .i64 ((nd ns' F).long : Int))) (first | (refine ⟨?_, ?_, ?_, ?_⟩ <;> (first | assumption | exact far_block (by assumption) hga | exact far_block' (by assumption) hga | exact far_block (far_block' (by assumption) hga) hga | exact far_block' (far_block' (by assumption) hga) hga | exact far_block (by assumption) hqa | exact far_block' (by assumption) hqa | exact far_block (far_block' (by assumption) hqa) hqa | exact far_block' (far_block' (by assumption) hqa) hqa | exact far_cell (by assumption) (by omega) | exact far_cell' (by assumption) (by omega) | exact far_cell (far_cell' (by assumption) (by omega)) (by omega) | exact far_cell' (far_cell' (by assumption) (by omega)) (by omega))) | go_keep) (fail)
              obtain ⟨wD, hwD⟩ : ∃ wD, wD = ((wC.setCell ⟨a, to * 5 + 3, none⟩ (.int .i64 (nd ns' F).place)).setCell ⟨a, to * 5 + 4, none⟩ (.int .i64 ((nd ns' F).long : Int))).drew := ⟨_, rfl⟩
              have MD := Lib.hid (show Mach wD B g (ns'.set to (fell ns' to F)) f (some ⟨a, 0, none⟩) c from by
                have hs1 : nd (ns'.set to { nd ns' to with fall := F }) to = { nd ns' to with fall := F } := by rw [nd_set hton, if_pos rfl]
                have h1 := set_mach (i := to) (x := { nd ns' to with fall := F, place := (nd ns' F).place }) (u := .int .i64 (nd ns' F).place) MC.out (by rw [List.length_set]; exact hton) (show 3 < 5 by omega) (by rw [hs1]; rfl) (by rw [hs1])
                rw [List.set_set] at h1
                have hs2 : nd (ns'.set to { nd ns' to with fall := F, place := (nd ns' F).place }) to = { nd ns' to with fall := F, place := (nd ns' F).place } := by rw [nd_set hton, if_pos rfl]
                have h2 := set_mach (i := to) (x := { nd ns' to with fall := F, place := (nd ns' F).place, long := (nd ns' F).long }) (u := .int .i64 ((nd ns' F).long : Int)) h1 (by rw [List.length_set]; exact hton) (show 4 < 5 by omega) (by rw [hs2]; rfl) (by rw [hs2])
                rw [List.set_set] at h2
                rw [hwD, fell_yes HPL.out]
                exact h2.below (Below.refl _ _).drew)
              have BD := Lib.hid (show Below B w wD from by rw [hwD]; exact ((BC.out.setCell (p := ⟨a, to * 5 + 3, none⟩) hBa _).setCell (p := ⟨a, to * 5 + 4, none⟩) hBa _).drew)
              have OD := Lib.hid (show wD.ownsRow B 3 1 (.slice A2 row.length c2) row.length (natsV row) from by
                obtain ⟨cur, hcur⟩ := own_heap MC.out.nodes
                have hcur2 := heap_set_at (j := to * 5 + 3) (u := .int .i64 (nd ns' F).place) hcur
                rw [hwD]
                exact own_set_other (own_set_other OC.out hcur (by decide)) hcur2 (by decide))
              have q1d : wD.cell? ⟨wr.heap.size, 1, none⟩ = some (.int .i64 (to : Int)) := by rw [hwD]; exact far_block (far_block' q1' hqa) hqa
              rw [← hwD]
              clear hwD q1' m0' b3' b4' d3' d4' f3 f4 MC BC OC
              have hBD : B ≤ wD.heap.size := by have := MD.out.lt; omega
              go_wp2_with (at_builtin; refine wpList_push rfl (.tmp 97) (.tmp 100) _ rfl B 3 _ 8 Try.underlying31 infoInt1 rfl (.slice A2 row.length c2) row.length (natsV row) rfl wD wD.heap.size rfl (.int .i64 (to : Int)) rfl OD.out rfl hBD (by omega) (by unfold maxLen; omega) ?_; intro A5 c5 w5 hown5 hb5 hg5; have O5 := Lib.hid hown5; have B5 := Lib.hid (BD.out.trans hb5); have M5 := Lib.hid ((MD.out.below ((Below.refl _ wD).alloc (Nat.le_refl _) (.cells #[.int .i64 (to : Int)] 3))).grown (OD.out.alloc _) hg5 (by decide) (by decide) (by decide)); clear hown5 hb5 hg5)
              go_roundw
              case rel =>
                refine ⟨j + 1, row ++ [to], ns'.set to (fell ns' to F), A5, c5, by rw [List.length_append]; rfl, by go_num, by omega, ⟨M5.out, HSTEP.out.1, ?_, B5.out⟩, ⟨by rw [List.length_append]; omega, ?_⟩, ?_⟩
                · rw [List.length_append, natsV_snoc]; exact O5.out
                · rw [List.getElem_append_left hk]; exact HAT.out
                · rw [nd_set hton]
                  by_cases e : to = at_
                  · subst e; rw [if_pos rfl]; exact HWS.out
                  · rw [if_neg e]; exact HWS.out
              case measure => simp [intOf]; omega
            · have hb := beq_no hpl
              have HFL := Lib.hid (fell_no (F := F) hpl)
              clear hpl
              go_wp2_with fail
              go_quiet (fail)
              obtain ⟨wC, hwC⟩ : ∃ wC, wC = wB.drewN nq := ⟨_, rfl⟩
              have MC := Lib.hid (show Mach wC B g (ns'.set to (fell ns' to F)) f (some ⟨a, 0, none⟩) c from by rw [hwC, HFL.out]; exact MB.out.below (below_drewN (Below.refl _ _) nq))
              have BC := Lib.hid (show Below B w wC from by rw [hwC]; exact below_drewN BB.out nq)
              have OC := Lib.hid (show wC.ownsRow B 3 1 (.slice A2 row.length c2) row.length (natsV row) from by rw [hwC]; exact OB.out)
              have q1' : wC.cell? ⟨wr.heap.size, 1, none⟩ = some (.int .i64 (to : Int)) := by rw [hwC]; exact q1
              rw [← hwC]
              clear hwC q1 m0 b3 b4 d3 d4
              have hBC : B ≤ wC.heap.size := by have := MC.out.lt; omega
              go_wp2_with (at_builtin; refine wpList_push rfl (.tmp 97) (.tmp 100) _ rfl B 3 _ 8 Try.underlying31 infoInt1 rfl (.slice A2 row.length c2) row.length (natsV row) rfl wC wC.heap.size rfl (.int .i64 (to : Int)) rfl OC.out rfl hBC (by omega) (by unfold maxLen; omega) ?_; intro A5 c5 w5 hown5 hb5 hg5; have O5 := Lib.hid hown5; have B5 := Lib.hid (BC.out.trans hb5); have M5 := Lib.hid ((MC.out.below ((Below.refl _ wC).alloc (Nat.le_refl _) (.cells #[.int .i64 (to : Int)] 3))).grown (OC.out.alloc _) hg5 (by decide) (by decide) (by decide)); clear hown5 hb5 hg5)
              go_roundw
              case rel =>
                refine ⟨j + 1, row ++ [to], ns'.set to (fell ns' to F), A5, c5, by rw [List.length_append]; rfl, by go_num, by omega, ⟨M5.out, HSTEP.out.1, ?_, B5.out⟩, ⟨by rw [List.length_append]; omega, ?_⟩, ?_⟩
                · rw [List.length_append, natsV_snoc]; exact O5.out
                · rw [List.getElem_append_left hk]; exact HAT.out
                · rw [nd_set hton]
                  by_cases e : to = at_
                  · subst e; rw [if_pos rfl]; exact HWS.out
                  · rw [if_neg e]; exact HWS.out
              case measure => simp [intOf]; omega
        · obtain rfl : j = ln := by omega
          have FN := Lib.hid (FF.out.next hk (by rw [HAT.out, HWS.out, HLN.out]; exact Nat.le_refl _))
          go_wp2_with fail
          go_roundw
          case rel => exact ⟨k + 1, row, ns', A2, c2, rfl, by go_num, FN.out⟩
          case measure => simp [intOf]; omega
    · have HR := Lib.hid (FF.out.bfs.ready (by omega))
      go_wp2_with fail
      refine bodyPost_ret (results_none rfl _ _ _) rfl ?_
      exact ⟨ns', rfl, FF.out.mach, HR.out, FF.out.below⟩
end Go.Proofs.Ytohfkpoblebfaaa
