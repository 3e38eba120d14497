/- The walk of SplitSums: true for every input. -/
import Derived.Test.YtkiggpbmlkfdpaaDoorSplitBytes
import Derived.IntWalk
namespace Go.Proofs.YtkiggpbmlkfdpaaDoor
open Go.RowKit
set_option linter.unusedVariables false
def sumT (p : List (Nat × Bool)) : Nat := (p.map (·.1)).sum
theorem sumT_take (p : List (Nat × Bool)) (k : Nat) (h : k < p.length) : sumT (p.take (k + 1)) = sumT (p.take k) + p[k].1 := by
  unfold sumT
  rw [List.take_add_one, List.getElem?_eq_getElem h, List.map_append, List.sum_append]
  simp
theorem sumT_le : ∀ (p : List (Nat × Bool)) (k : Nat), sumT (p.take k) ≤ sumT p
  | [], k => by simp [sumT]
  | (a, b) :: p, 0 => Nat.zero_le _
  | (a, b) :: p, k + 1 => by
    have := sumT_le p k
    unfold sumT at this ⊢
    rw [List.take_succ_cons, List.map_cons, List.map_cons, List.sum_cons, List.sum_cons]; omega
theorem split_sums {kind : Int} {t : List Rg} {l : List Int} : (∀ x ∈ splitL kind t l true, x.2 = true ∧ 1 ≤ x.1) ∧ (0 ≤ kind → kind ≤ 3 → mayT t = true → sumT (splitL kind t l true) = l.length) ∧ (kind < 0 ∨ 3 < kind ∨ mayT t = false → sumT (splitL kind t l true) = 0) := by
  refine ⟨?_, fun h0 h3 hv => ?_, fun h => by unfold splitL; rw [if_pos h]; rfl⟩
  · unfold splitL
    split
    · intro p hp; cases hp
    · rename_i g
      have hv : mayT t = true := by
        cases h2 : mayT t with
        | true => rfl
        | false => exact absurd (.inr (.inr h2)) g
      have ha := rawT_true (show 0 ≤ kind by omega) (show kind ≤ 3 by omega) hv l []
      have hs := rawT_sum (fin := true) (show 0 ≤ kind by omega) (show kind ≤ 3 by omega) hv l []
      rw [cum_all _ ha]
      exact fun p hp => ⟨List.all_eq_true.1 ha p hp, hs.2 p hp⟩
  · unfold splitL
    rw [if_neg (by rintro (h | h | h); omega; omega; rw [hv] at h; cases h)]
    have ha := rawT_true h0 h3 hv l []
    have hs := rawT_sum (fin := true) h0 h3 hv l []
    rw [cum_all _ ha]
    unfold sumT
    rw [hs.1]; simp
set_option maxRecDepth 100000 in
set_option maxHeartbeats 8000000 in
theorem walkSplitSums (w : World) (hU : UsualAt w) (kind : Int) {At A : Option Addr} {nt ct n c : Nat} {t : List Rg} {l : List Int} (ht : RangesAt w w.heap.size At nt ct t) (h : IntsAt w w.heap.size A n c l) :
    Calls Tryd.prog 13 #[.int .i64 kind, .slice At nt ct, .slice A n c] w fun e w' => e = .returned (.bool true) ∧ Below w.heap.size w w' := by
  have hcap := ht.2.2.1
  have hcn := ht.2.1
  have hcap' := h.2.2.1
  have hcn' := h.2.1
  unfold maxLen at hcap hcap'
  obtain ⟨o, ho⟩ : ∃ o, (decide (80 < nt) || decide (120 < n)) = o := ⟨_, rfl⟩
  have HO := Lib.hid ho
  have HU := Lib.hid hU
  have HT := Lib.hid ht
  have HB := Lib.hid h
  have HL := Lib.hid h.len
  clear ho hU ht h
  cases o with
  | true =>
    go_enter Tryd.func13, Tryd.ntmps13
    go_wp2_with fail
    refine (great13 w HO.out (by omega) (by omega)).mono ?_
    rintro e w' ⟨rfl, rfl⟩
    go_wp2_with fail
    refine (fixed13 w HU.out).mono ?_
    rintro e w' ⟨rfl, hb⟩
    have HE := Lib.hid hb
    go_wp2_with fail
    go_ret
    exact ⟨rfl, HE.out⟩
  | false =>
    have hsm := HO.out
    rw [Bool.or_eq_false_iff, decide_eq_false_iff_not, decide_eq_false_iff_not] at hsm
    have HS := Lib.hid (show nt ≤ 80 ∧ n ≤ 120 from by omega)
    obtain ⟨p, hp⟩ : ∃ p, splitL kind t l true = p := ⟨_, rfl⟩
    have hsum := split_sums (kind := kind) (t := t) (l := l)
    have hfew := split_few (kind := kind) (t := t) (text := l) (fin := true)
    rw [hp] at hsum hfew
    have HP := Lib.hid hp
    have HSUM := Lib.hid hsum
    have HSL := Lib.hid (show sumT p ≤ 120 from by
      by_cases g : kind < 0 ∨ 3 < kind ∨ mayT t = false
      · rw [hsum.2.2 g]; omega
      · have hv : mayT t = true := by
          cases h2 : mayT t with
          | true => rfl
          | false => exact absurd (.inr (.inr h2)) g
        rw [hsum.2.1 (by omega) (by omega) hv, ← HL.out]; have := HS.out; omega)
    clear hp hsum hsm hfew
    go_enter Tryd.func13, Tryd.ntmps13
    go_wp2_with fail
    refine (great13 w HO.out (by omega) (by omega)).mono ?_
    rintro e w' ⟨rfl, rfl⟩
    go_wp2_with fail
    refine (split_as kind true w HT.out HB.out (by have := HS.out; omega) (by have := HS.out; omega) HP.out).mono ?_
    rintro e w2 ⟨A2, c2, rfl, hpa, hb2⟩
    have HPA := Lib.hid hpa
    have HW2 := Lib.hid hb2
    have hcn2 := hpa.2.1
    have hcm2 := hpa.2.2.1
    unfold maxLen at hcm2
    clear hpa hb2
    go_wp2_with fail
    go_loopw [7, 25] (fun s i wr => ∃ k : Nat, i = .int .i64 k ∧ k ≤ p.length ∧ s = .int .i64 (sumT (p.take k) : Int) ∧ Hid (Below w2.heap.size w2 wr)) (fun _ i _ => p.length - (intOf i).toNat)
    case atStart => exact ⟨0, rfl, Nat.zero_le _, rfl, Lib.hid (Below.refl _ _)⟩
    case round =>
      obtain ⟨k, rfl, hk, rfl, HW⟩ := hrel
      by_cases hlt : k < p.length
      · obtain ⟨b, off, rfl, hb, hc⟩ := HPA.out.cells (by omega)
        obtain ⟨⟨a, d⟩, hx1⟩ : ∃ x, p[k]'hlt = x := ⟨_, rfl⟩
        have hpk := HSUM.out.1 (p[k]'hlt) (List.getElem_mem _)
        rw [hx1] at hpk
        obtain ⟨hdt, ha1⟩ := hpk
        simp only at hdt ha1
        subst hdt
        have c1 : wr.cell? ⟨b, off + k * 2, none⟩ = some (.int .i64 (a : Int)) := by rw [HW.out.cell (p := ⟨b, off + k * 2, none⟩) hb, (hc k hlt).1, hx1]
        have c2 : wr.cell? ⟨b, off + k * 2 + 1, none⟩ = some (.bool true) := by rw [HW.out.cell (p := ⟨b, off + k * 2 + 1, none⟩) hb]; have := (hc k hlt).2; rw [hx1] at this; exact this
        have hst := sumT_take p k hlt
        rw [hx1] at hst
        have hsl : sumT (p.take k) ≤ 120 ∧ a ≤ 120 := by have := sumT_le p (k + 1); have := HSL.out; simp only at hst; omega
        obtain ⟨hsl1, hsl2⟩ := hsl
        have HST := Lib.hid hst
        have HAL := Lib.hid (fun o => HW.out.alloc HW.out.size o)
        have hna : ¬ (a : Int) < 1 := by omega
        have hnd : decide ((a : Int) < 1) = false := decide_eq_false hna
        clear hc hx1 hst
        go_wp2_with fail
        go_roundw
        case rel => exact ⟨k + 1, by go_num, by omega, by rw [HST.out]; go_num, Lib.hid (HAL.out _)⟩
        case measure => show p.length - ((k : Int) + 1).toNat < p.length - ((k : Int)).toNat; omega
      · have HE := Lib.hid (show p.take k = p from List.take_of_length_le (by omega))
        obtain ⟨q, hq⟩ : ∃ q, sumT (p.take k) = q := ⟨_, rfl⟩
        have HQ := Lib.hid (show sumT p = q from by rw [← hq, HE.out])
        have HW3 := Lib.hid (HW2.out.trans (HW.out.mono HW2.out.size))
        have hke : k = p.length := by omega
        have HKE := Lib.hid hke
        clear hke
        rw [hq]
        clear hq
        by_cases g1 : kind < 0
        · have hg1 : decide (0 ≤ kind) = false := decide_eq_false (by omega)
          have hq0 : ((q : Int) != 0) = false := bne_no (by have := HSUM.out.2.2 (.inl g1); have := HQ.out; omega)
          have HWV := HW3
          go_wp2_with fail
          refine (bytes_any wr (RowAt.mono (RowAt.below HB.out HWV.out) HWV.out.size) (by have := HS.out; omega)).mono ?_
          rintro e w6 (⟨hok, Ab, cb, rfl, hbt, hb6⟩ | ⟨hok, rfl, hb6⟩)
          · have HOK := Lib.hid hok
            have HBT := Lib.hid hbt
            have HW6 := Lib.hid (HWV.out.trans (hb6.mono HWV.out.size))
            have hcb := hbt.2.1
            have hcbm := hbt.2.2.1
            unfold maxLen at hcbm
            clear hok hbt hb6
            go_wp2_with fail
            go_loopw [13, 74] (fun v i wr => ∃ k : Nat, k ≤ n ∧ v = .bool true ∧ i = .int .i64 k ∧ Hid (Below w6.heap.size w6 wr)) (fun _ i _ => n - (intOf i).toNat)
            case atStart => exact ⟨0, Nat.zero_le _, rfl, rfl, Lib.hid (Below.refl _ _)⟩
            case round =>
              obtain ⟨k, hk, rfl, rfl, HW⟩ := hrel
              have HWE := Lib.hid (HW6.out.trans (HW.out.mono HW6.out.size))
              by_cases hlt : k < n
              · have hkl : k < l.length := by rw [← HL.out]; exact hlt
                obtain ⟨b, off, rfl, hb, hc⟩ := HB.out.cells (by omega)
                obtain ⟨b2, off2, rfl, hb2, hc2⟩ := HBT.out.cells (by omega)
                obtain ⟨s, hs⟩ : ∃ s, l[k]'hkl = s := ⟨_, rfl⟩
                have hbd := mark_no (okT_yes HOK.out s (by rw [← hs]; exact List.getElem_mem _))
                have k1 : wr.cell? ⟨b, off + k, none⟩ = some (.int .i64 s) := by rw [HWE.out.cell (p := ⟨b, off + k, none⟩) hb, hc k hkl, hs]
                have k2 : wr.cell? ⟨b2, off2 + k, none⟩ = some (.int .u8 s) := by
                  rw [HW.out.cell (p := ⟨b2, off2 + k, none⟩) hb2, hc2 k (by rw [List.length_map]; exact hkl), List.getElem_map, hs, ← (byteOf_eq hbd.1 hbd.2).1 rfl]
                have hd1 : decide (0 ≤ s) = true := decide_eq_true hbd.1
                have hd2 : decide (s < 256) = true := decide_eq_true (by omega)
                have hd3 : decide ((l.length : Int) ≤ (k : Int)) = false := decide_eq_false (by omega)
                have hd3' : decide (l.length ≤ k) = false := decide_eq_false (by omega)
                have hd4 : (s != s) = false := bne_no rfl
                have hd5 : (s == s) = true := beq_self_eq_true _
                have hd6 : IntKind.i64.wrap s = s := IntWalk.i64_in _ (by omega)
                clear hc hc2 hs
                go_wp2_with fail
                go_roundw
                case rel => exact ⟨k + 1, by omega, rfl, by go_num, HW⟩
                case measure => show n - ((k : Int) + 1).toNat < n - ((k : Int)).toNat; omega
              · have hke : k = n := by omega
                have HKE := Lib.hid hke
                have hee : ((l.length : Int) == (n : Int)) = true := beq_yes (by rw [← HL.out])
                clear hke
                go_wp2_with fail
                refine (fixed13 wr (HU.out.later HWE.out)).mono ?_
                rintro e w8 ⟨rfl, hb8⟩
                have HW8 := Lib.hid (HWE.out.trans (hb8.mono HWE.out.size))
                clear hb8
                go_wp2_with fail
                go_ret
                first
                  | exact ⟨rfl, HW8.out⟩
                  | exact ⟨by simp, HW8.out⟩
          · have HOK := Lib.hid hok
            have HW6 := Lib.hid (HWV.out.trans (hb6.mono HWV.out.size))
            clear hok hb6
            go_wp2_with fail
            go_loopw [13, 74] (fun v i wr => ∃ (k : Nat) (pl : Bool), k ≤ n ∧ v = .bool pl ∧ i = .int .i64 k ∧ Hid (okT (l.take k) = pl) ∧ Hid (Below w6.heap.size w6 wr)) (fun _ i _ => n - (intOf i).toNat)
            case atStart => exact ⟨0, true, Nat.zero_le _, rfl, rfl, Lib.hid rfl, Lib.hid (Below.refl _ _)⟩
            case round =>
              obtain ⟨k, pl, hk, rfl, rfl, HPL, HW⟩ := hrel
              have HWE := Lib.hid (HW6.out.trans (HW.out.mono HW6.out.size))
              by_cases hlt : k < n
              · have hkl : k < l.length := by rw [← HL.out]; exact hlt
                obtain ⟨b, off, rfl, hb, hc⟩ := HB.out.cells (by omega)
                obtain ⟨s, hs⟩ : ∃ s, l[k]'hkl = s := ⟨_, rfl⟩
                have k1 : wr.cell? ⟨b, off + k, none⟩ = some (.int .i64 s) := by rw [HWE.out.cell (p := ⟨b, off + k, none⟩) hb, hc k hkl, hs]
                have HTK := Lib.hid (okT_take hkl hs)
                clear hc hs
                cases pl with
                | false =>
                  go_wp2_with fail
                  go_roundw
                  case rel => exact ⟨k + 1, false, by omega, rfl, by go_num, Lib.hid (by rw [HTK.out, HPL.out]; rfl), HW⟩
                  case measure => show n - ((k : Int) + 1).toNat < n - ((k : Int)).toNat; omega
                | true =>
                  by_cases h0 : 0 ≤ s
                  · have hd1 : decide (0 ≤ s) = true := decide_eq_true h0
                    by_cases h2 : s < 256
                    · have hd2 : decide (s < 256) = true := decide_eq_true h2
                      have HMK := Lib.hid (show markS s = false from by unfold markS; exact decide_eq_false (by omega))
                      go_wp2_with fail
                      go_roundw
                      case rel => exact ⟨k + 1, true, by omega, rfl, by go_num, Lib.hid (by rw [HTK.out, HPL.out, HMK.out]; rfl), HW⟩
                      case measure => show n - ((k : Int) + 1).toNat < n - ((k : Int)).toNat; omega
                    · have hd2 : decide (s < 256) = false := decide_eq_false h2
                      have HMK := Lib.hid (show markS s = true from by unfold markS; exact decide_eq_true (by omega))
                      go_wp2_with fail
                      go_roundw
                      case rel => exact ⟨k + 1, false, by omega, rfl, by go_num, Lib.hid (by rw [HTK.out, HPL.out, HMK.out]; rfl), HW⟩
                      case measure => show n - ((k : Int) + 1).toNat < n - ((k : Int)).toNat; omega
                  · have hd1 : decide (0 ≤ s) = false := decide_eq_false h0
                    have HMK := Lib.hid (show markS s = true from by unfold markS; exact decide_eq_true (by omega))
                    go_wp2_with fail
                    go_roundw
                    case rel => exact ⟨k + 1, false, by omega, rfl, by go_num, Lib.hid (by rw [HTK.out, HPL.out, HMK.out]; rfl), HW⟩
                    case measure => show n - ((k : Int) + 1).toNat < n - ((k : Int)).toNat; omega
              · have hke : k = n := by omega
                have HKE := Lib.hid hke
                have hplf : pl = false := by rw [← HPL.out, List.take_of_length_le (by rw [← HL.out]; omega)]; exact HOK.out
                subst hplf
                clear hke
                go_wp2_with fail
                refine (fixed13 wr (HU.out.later HWE.out)).mono ?_
                rintro e w8 ⟨rfl, hb8⟩
                have HW8 := Lib.hid (HWE.out.trans (hb8.mono HWE.out.size))
                clear hb8
                go_wp2_with fail
                go_ret
                first
                  | exact ⟨rfl, HW8.out⟩
                  | exact ⟨by simp, HW8.out⟩
        · have hg1 : decide (0 ≤ kind) = true := decide_eq_true (by omega)
          by_cases g2 : 3 < kind
          · have hg2 : decide (kind ≤ 3) = false := decide_eq_false (by omega)
            have hq0 : ((q : Int) != 0) = false := bne_no (by have := HSUM.out.2.2 (.inr (.inl g2)); have := HQ.out; omega)
            have HWV := HW3
            go_wp2_with fail
            refine (bytes_any wr (RowAt.mono (RowAt.below HB.out HWV.out) HWV.out.size) (by have := HS.out; omega)).mono ?_
            rintro e w6 (⟨hok, Ab, cb, rfl, hbt, hb6⟩ | ⟨hok, rfl, hb6⟩)
            · have HOK := Lib.hid hok
              have HBT := Lib.hid hbt
              have HW6 := Lib.hid (HWV.out.trans (hb6.mono HWV.out.size))
              have hcb := hbt.2.1
              have hcbm := hbt.2.2.1
              unfold maxLen at hcbm
              clear hok hbt hb6
              go_wp2_with fail
              go_loopw [13, 74] (fun v i wr => ∃ k : Nat, k ≤ n ∧ v = .bool true ∧ i = .int .i64 k ∧ Hid (Below w6.heap.size w6 wr)) (fun _ i _ => n - (intOf i).toNat)
              case atStart => exact ⟨0, Nat.zero_le _, rfl, rfl, Lib.hid (Below.refl _ _)⟩
              case round =>
                obtain ⟨k, hk, rfl, rfl, HW⟩ := hrel
                have HWE := Lib.hid (HW6.out.trans (HW.out.mono HW6.out.size))
                by_cases hlt : k < n
                · have hkl : k < l.length := by rw [← HL.out]; exact hlt
                  obtain ⟨b, off, rfl, hb, hc⟩ := HB.out.cells (by omega)
                  obtain ⟨b2, off2, rfl, hb2, hc2⟩ := HBT.out.cells (by omega)
                  obtain ⟨s, hs⟩ : ∃ s, l[k]'hkl = s := ⟨_, rfl⟩
                  have hbd := mark_no (okT_yes HOK.out s (by rw [← hs]; exact List.getElem_mem _))
                  have k1 : wr.cell? ⟨b, off + k, none⟩ = some (.int .i64 s) := by rw [HWE.out.cell (p := ⟨b, off + k, none⟩) hb, hc k hkl, hs]
                  have k2 : wr.cell? ⟨b2, off2 + k, none⟩ = some (.int .u8 s) := by
                    rw [HW.out.cell (p := ⟨b2, off2 + k, none⟩) hb2, hc2 k (by rw [List.length_map]; exact hkl), List.getElem_map, hs, ← (byteOf_eq hbd.1 hbd.2).1 rfl]
                  have hd1 : decide (0 ≤ s) = true := decide_eq_true hbd.1
                  have hd2 : decide (s < 256) = true := decide_eq_true (by omega)
                  have hd3 : decide ((l.length : Int) ≤ (k : Int)) = false := decide_eq_false (by omega)
                  have hd3' : decide (l.length ≤ k) = false := decide_eq_false (by omega)
                  have hd4 : (s != s) = false := bne_no rfl
                  have hd5 : (s == s) = true := beq_self_eq_true _
                  have hd6 : IntKind.i64.wrap s = s := IntWalk.i64_in _ (by omega)
                  clear hc hc2 hs
                  go_wp2_with fail
                  go_roundw
                  case rel => exact ⟨k + 1, by omega, rfl, by go_num, HW⟩
                  case measure => show n - ((k : Int) + 1).toNat < n - ((k : Int)).toNat; omega
                · have hke : k = n := by omega
                  have HKE := Lib.hid hke
                  have hee : ((l.length : Int) == (n : Int)) = true := beq_yes (by rw [← HL.out])
                  clear hke
                  go_wp2_with fail
                  refine (fixed13 wr (HU.out.later HWE.out)).mono ?_
                  rintro e w8 ⟨rfl, hb8⟩
                  have HW8 := Lib.hid (HWE.out.trans (hb8.mono HWE.out.size))
                  clear hb8
                  go_wp2_with fail
                  go_ret
                  first
                    | exact ⟨rfl, HW8.out⟩
                    | exact ⟨by simp, HW8.out⟩
            · have HOK := Lib.hid hok
              have HW6 := Lib.hid (HWV.out.trans (hb6.mono HWV.out.size))
              clear hok hb6
              go_wp2_with fail
              go_loopw [13, 74] (fun v i wr => ∃ (k : Nat) (pl : Bool), k ≤ n ∧ v = .bool pl ∧ i = .int .i64 k ∧ Hid (okT (l.take k) = pl) ∧ Hid (Below w6.heap.size w6 wr)) (fun _ i _ => n - (intOf i).toNat)
              case atStart => exact ⟨0, true, Nat.zero_le _, rfl, rfl, Lib.hid rfl, Lib.hid (Below.refl _ _)⟩
              case round =>
                obtain ⟨k, pl, hk, rfl, rfl, HPL, HW⟩ := hrel
                have HWE := Lib.hid (HW6.out.trans (HW.out.mono HW6.out.size))
                by_cases hlt : k < n
                · have hkl : k < l.length := by rw [← HL.out]; exact hlt
                  obtain ⟨b, off, rfl, hb, hc⟩ := HB.out.cells (by omega)
                  obtain ⟨s, hs⟩ : ∃ s, l[k]'hkl = s := ⟨_, rfl⟩
                  have k1 : wr.cell? ⟨b, off + k, none⟩ = some (.int .i64 s) := by rw [HWE.out.cell (p := ⟨b, off + k, none⟩) hb, hc k hkl, hs]
                  have HTK := Lib.hid (okT_take hkl hs)
                  clear hc hs
                  cases pl with
                  | false =>
                    go_wp2_with fail
                    go_roundw
                    case rel => exact ⟨k + 1, false, by omega, rfl, by go_num, Lib.hid (by rw [HTK.out, HPL.out]; rfl), HW⟩
                    case measure => show n - ((k : Int) + 1).toNat < n - ((k : Int)).toNat; omega
                  | true =>
                    by_cases h0 : 0 ≤ s
                    · have hd1 : decide (0 ≤ s) = true := decide_eq_true h0
                      by_cases h2 : s < 256
                      · have hd2 : decide (s < 256) = true := decide_eq_true h2
                        have HMK := Lib.hid (show markS s = false from by unfold markS; exact decide_eq_false (by omega))
                        go_wp2_with fail
                        go_roundw
                        case rel => exact ⟨k + 1, true, by omega, rfl, by go_num, Lib.hid (by rw [HTK.out, HPL.out, HMK.out]; rfl), HW⟩
                        case measure => show n - ((k : Int) + 1).toNat < n - ((k : Int)).toNat; omega
                      · have hd2 : decide (s < 256) = false := decide_eq_false h2
                        have HMK := Lib.hid (show markS s = true from by unfold markS; exact decide_eq_true (by omega))
                        go_wp2_with fail
                        go_roundw
                        case rel => exact ⟨k + 1, false, by omega, rfl, by go_num, Lib.hid (by rw [HTK.out, HPL.out, HMK.out]; rfl), HW⟩
                        case measure => show n - ((k : Int) + 1).toNat < n - ((k : Int)).toNat; omega
                    · have hd1 : decide (0 ≤ s) = false := decide_eq_false h0
                      have HMK := Lib.hid (show markS s = true from by unfold markS; exact decide_eq_true (by omega))
                      go_wp2_with fail
                      go_roundw
                      case rel => exact ⟨k + 1, false, by omega, rfl, by go_num, Lib.hid (by rw [HTK.out, HPL.out, HMK.out]; rfl), HW⟩
                      case measure => show n - ((k : Int) + 1).toNat < n - ((k : Int)).toNat; omega
                · have hke : k = n := by omega
                  have HKE := Lib.hid hke
                  have hplf : pl = false := by rw [← HPL.out, List.take_of_length_le (by rw [← HL.out]; omega)]; exact HOK.out
                  subst hplf
                  clear hke
                  go_wp2_with fail
                  refine (fixed13 wr (HU.out.later HWE.out)).mono ?_
                  rintro e w8 ⟨rfl, hb8⟩
                  have HW8 := Lib.hid (HWE.out.trans (hb8.mono HWE.out.size))
                  clear hb8
                  go_wp2_with fail
                  go_ret
                  first
                    | exact ⟨rfl, HW8.out⟩
                    | exact ⟨by simp, HW8.out⟩
          · have hg2 : decide (kind ≤ 3) = true := decide_eq_true (by omega)
            cases hv : mayT t with
            | false =>
              have HV := Lib.hid hv
              have hq0 : ((q : Int) != 0) = false := bne_no (by have := HSUM.out.2.2 (.inr (.inr hv)); have := HQ.out; omega)
              clear hv
              go_wp2_with fail
              refine (rmay_as wr (RowAt.mono (RowAt.below HT.out HW3.out) HW3.out.size) HV).mono ?_
              rintro e w5 ⟨rfl, hb5⟩
              have HWV := Lib.hid (HW3.out.trans (hb5.mono HW3.out.size))
              clear hb5
              go_wp2_with fail
              refine (bytes_any w5 (RowAt.mono (RowAt.below HB.out HWV.out) HWV.out.size) (by have := HS.out; omega)).mono ?_
              rintro e w6 (⟨hok, Ab, cb, rfl, hbt, hb6⟩ | ⟨hok, rfl, hb6⟩)
              · have HOK := Lib.hid hok
                have HBT := Lib.hid hbt
                have HW6 := Lib.hid (HWV.out.trans (hb6.mono HWV.out.size))
                have hcb := hbt.2.1
                have hcbm := hbt.2.2.1
                unfold maxLen at hcbm
                clear hok hbt hb6
                go_wp2_with fail
                go_loopw [13, 74] (fun v i wr => ∃ k : Nat, k ≤ n ∧ v = .bool true ∧ i = .int .i64 k ∧ Hid (Below w6.heap.size w6 wr)) (fun _ i _ => n - (intOf i).toNat)
                case atStart => exact ⟨0, Nat.zero_le _, rfl, rfl, Lib.hid (Below.refl _ _)⟩
                case round =>
                  obtain ⟨k, hk, rfl, rfl, HW⟩ := hrel
                  have HWE := Lib.hid (HW6.out.trans (HW.out.mono HW6.out.size))
                  by_cases hlt : k < n
                  · have hkl : k < l.length := by rw [← HL.out]; exact hlt
                    obtain ⟨b, off, rfl, hb, hc⟩ := HB.out.cells (by omega)
                    obtain ⟨b2, off2, rfl, hb2, hc2⟩ := HBT.out.cells (by omega)
                    obtain ⟨s, hs⟩ : ∃ s, l[k]'hkl = s := ⟨_, rfl⟩
                    have hbd := mark_no (okT_yes HOK.out s (by rw [← hs]; exact List.getElem_mem _))
                    have k1 : wr.cell? ⟨b, off + k, none⟩ = some (.int .i64 s) := by rw [HWE.out.cell (p := ⟨b, off + k, none⟩) hb, hc k hkl, hs]
                    have k2 : wr.cell? ⟨b2, off2 + k, none⟩ = some (.int .u8 s) := by
                      rw [HW.out.cell (p := ⟨b2, off2 + k, none⟩) hb2, hc2 k (by rw [List.length_map]; exact hkl), List.getElem_map, hs, ← (byteOf_eq hbd.1 hbd.2).1 rfl]
                    have hd1 : decide (0 ≤ s) = true := decide_eq_true hbd.1
                    have hd2 : decide (s < 256) = true := decide_eq_true (by omega)
                    have hd3 : decide ((l.length : Int) ≤ (k : Int)) = false := decide_eq_false (by omega)
                    have hd3' : decide (l.length ≤ k) = false := decide_eq_false (by omega)
                    have hd4 : (s != s) = false := bne_no rfl
                    have hd5 : (s == s) = true := beq_self_eq_true _
                    have hd6 : IntKind.i64.wrap s = s := IntWalk.i64_in _ (by omega)
                    clear hc hc2 hs
                    go_wp2_with fail
                    go_roundw
                    case rel => exact ⟨k + 1, by omega, rfl, by go_num, HW⟩
                    case measure => show n - ((k : Int) + 1).toNat < n - ((k : Int)).toNat; omega
                  · have hke : k = n := by omega
                    have HKE := Lib.hid hke
                    have hee : ((l.length : Int) == (n : Int)) = true := beq_yes (by rw [← HL.out])
                    clear hke
                    go_wp2_with fail
                    refine (fixed13 wr (HU.out.later HWE.out)).mono ?_
                    rintro e w8 ⟨rfl, hb8⟩
                    have HW8 := Lib.hid (HWE.out.trans (hb8.mono HWE.out.size))
                    clear hb8
                    go_wp2_with fail
                    go_ret
                    first
                      | exact ⟨rfl, HW8.out⟩
                      | exact ⟨by simp, HW8.out⟩
              · have HOK := Lib.hid hok
                have HW6 := Lib.hid (HWV.out.trans (hb6.mono HWV.out.size))
                clear hok hb6
                go_wp2_with fail
                go_loopw [13, 74] (fun v i wr => ∃ (k : Nat) (pl : Bool), k ≤ n ∧ v = .bool pl ∧ i = .int .i64 k ∧ Hid (okT (l.take k) = pl) ∧ Hid (Below w6.heap.size w6 wr)) (fun _ i _ => n - (intOf i).toNat)
                case atStart => exact ⟨0, true, Nat.zero_le _, rfl, rfl, Lib.hid rfl, Lib.hid (Below.refl _ _)⟩
                case round =>
                  obtain ⟨k, pl, hk, rfl, rfl, HPL, HW⟩ := hrel
                  have HWE := Lib.hid (HW6.out.trans (HW.out.mono HW6.out.size))
                  by_cases hlt : k < n
                  · have hkl : k < l.length := by rw [← HL.out]; exact hlt
                    obtain ⟨b, off, rfl, hb, hc⟩ := HB.out.cells (by omega)
                    obtain ⟨s, hs⟩ : ∃ s, l[k]'hkl = s := ⟨_, rfl⟩
                    have k1 : wr.cell? ⟨b, off + k, none⟩ = some (.int .i64 s) := by rw [HWE.out.cell (p := ⟨b, off + k, none⟩) hb, hc k hkl, hs]
                    have HTK := Lib.hid (okT_take hkl hs)
                    clear hc hs
                    cases pl with
                    | false =>
                      go_wp2_with fail
                      go_roundw
                      case rel => exact ⟨k + 1, false, by omega, rfl, by go_num, Lib.hid (by rw [HTK.out, HPL.out]; rfl), HW⟩
                      case measure => show n - ((k : Int) + 1).toNat < n - ((k : Int)).toNat; omega
                    | true =>
                      by_cases h0 : 0 ≤ s
                      · have hd1 : decide (0 ≤ s) = true := decide_eq_true h0
                        by_cases h2 : s < 256
                        · have hd2 : decide (s < 256) = true := decide_eq_true h2
                          have HMK := Lib.hid (show markS s = false from by unfold markS; exact decide_eq_false (by omega))
                          go_wp2_with fail
                          go_roundw
                          case rel => exact ⟨k + 1, true, by omega, rfl, by go_num, Lib.hid (by rw [HTK.out, HPL.out, HMK.out]; rfl), HW⟩
                          case measure => show n - ((k : Int) + 1).toNat < n - ((k : Int)).toNat; omega
                        · have hd2 : decide (s < 256) = false := decide_eq_false h2
                          have HMK := Lib.hid (show markS s = true from by unfold markS; exact decide_eq_true (by omega))
                          go_wp2_with fail
                          go_roundw
                          case rel => exact ⟨k + 1, false, by omega, rfl, by go_num, Lib.hid (by rw [HTK.out, HPL.out, HMK.out]; rfl), HW⟩
                          case measure => show n - ((k : Int) + 1).toNat < n - ((k : Int)).toNat; omega
                      · have hd1 : decide (0 ≤ s) = false := decide_eq_false h0
                        have HMK := Lib.hid (show markS s = true from by unfold markS; exact decide_eq_true (by omega))
                        go_wp2_with fail
                        go_roundw
                        case rel => exact ⟨k + 1, false, by omega, rfl, by go_num, Lib.hid (by rw [HTK.out, HPL.out, HMK.out]; rfl), HW⟩
                        case measure => show n - ((k : Int) + 1).toNat < n - ((k : Int)).toNat; omega
                  · have hke : k = n := by omega
                    have HKE := Lib.hid hke
                    have hplf : pl = false := by rw [← HPL.out, List.take_of_length_le (by rw [← HL.out]; omega)]; exact HOK.out
                    subst hplf
                    clear hke
                    go_wp2_with fail
                    refine (fixed13 wr (HU.out.later HWE.out)).mono ?_
                    rintro e w8 ⟨rfl, hb8⟩
                    have HW8 := Lib.hid (HWE.out.trans (hb8.mono HWE.out.size))
                    clear hb8
                    go_wp2_with fail
                    go_ret
                    first
                      | exact ⟨rfl, HW8.out⟩
                      | exact ⟨by simp, HW8.out⟩
            | true =>
              have HV := Lib.hid hv
              have hq0 : ((q : Int) != (n : Int)) = false := bne_no (by have := HSUM.out.2.1 (by omega) (by omega) hv; have := HQ.out; have := HL.out; omega)
              clear hv
              go_wp2_with fail
              refine (rmay_as wr (RowAt.mono (RowAt.below HT.out HW3.out) HW3.out.size) HV).mono ?_
              rintro e w5 ⟨rfl, hb5⟩
              have HWV := Lib.hid (HW3.out.trans (hb5.mono HW3.out.size))
              clear hb5
              go_wp2_with fail
              refine (bytes_any w5 (RowAt.mono (RowAt.below HB.out HWV.out) HWV.out.size) (by have := HS.out; omega)).mono ?_
              rintro e w6 (⟨hok, Ab, cb, rfl, hbt, hb6⟩ | ⟨hok, rfl, hb6⟩)
              · have HOK := Lib.hid hok
                have HBT := Lib.hid hbt
                have HW6 := Lib.hid (HWV.out.trans (hb6.mono HWV.out.size))
                have hcb := hbt.2.1
                have hcbm := hbt.2.2.1
                unfold maxLen at hcbm
                clear hok hbt hb6
                go_wp2_with fail
                go_loopw [13, 74] (fun v i wr => ∃ k : Nat, k ≤ n ∧ v = .bool true ∧ i = .int .i64 k ∧ Hid (Below w6.heap.size w6 wr)) (fun _ i _ => n - (intOf i).toNat)
                case atStart => exact ⟨0, Nat.zero_le _, rfl, rfl, Lib.hid (Below.refl _ _)⟩
                case round =>
                  obtain ⟨k, hk, rfl, rfl, HW⟩ := hrel
                  have HWE := Lib.hid (HW6.out.trans (HW.out.mono HW6.out.size))
                  by_cases hlt : k < n
                  · have hkl : k < l.length := by rw [← HL.out]; exact hlt
                    obtain ⟨b, off, rfl, hb, hc⟩ := HB.out.cells (by omega)
                    obtain ⟨b2, off2, rfl, hb2, hc2⟩ := HBT.out.cells (by omega)
                    obtain ⟨s, hs⟩ : ∃ s, l[k]'hkl = s := ⟨_, rfl⟩
                    have hbd := mark_no (okT_yes HOK.out s (by rw [← hs]; exact List.getElem_mem _))
                    have k1 : wr.cell? ⟨b, off + k, none⟩ = some (.int .i64 s) := by rw [HWE.out.cell (p := ⟨b, off + k, none⟩) hb, hc k hkl, hs]
                    have k2 : wr.cell? ⟨b2, off2 + k, none⟩ = some (.int .u8 s) := by
                      rw [HW.out.cell (p := ⟨b2, off2 + k, none⟩) hb2, hc2 k (by rw [List.length_map]; exact hkl), List.getElem_map, hs, ← (byteOf_eq hbd.1 hbd.2).1 rfl]
                    have hd1 : decide (0 ≤ s) = true := decide_eq_true hbd.1
                    have hd2 : decide (s < 256) = true := decide_eq_true (by omega)
                    have hd3 : decide ((l.length : Int) ≤ (k : Int)) = false := decide_eq_false (by omega)
                    have hd3' : decide (l.length ≤ k) = false := decide_eq_false (by omega)
                    have hd4 : (s != s) = false := bne_no rfl
                    have hd5 : (s == s) = true := beq_self_eq_true _
                    have hd6 : IntKind.i64.wrap s = s := IntWalk.i64_in _ (by omega)
                    clear hc hc2 hs
                    go_wp2_with fail
                    go_roundw
                    case rel => exact ⟨k + 1, by omega, rfl, by go_num, HW⟩
                    case measure => show n - ((k : Int) + 1).toNat < n - ((k : Int)).toNat; omega
                  · have hke : k = n := by omega
                    have HKE := Lib.hid hke
                    have hee : ((l.length : Int) == (n : Int)) = true := beq_yes (by rw [← HL.out])
                    clear hke
                    go_wp2_with fail
                    refine (fixed13 wr (HU.out.later HWE.out)).mono ?_
                    rintro e w8 ⟨rfl, hb8⟩
                    have HW8 := Lib.hid (HWE.out.trans (hb8.mono HWE.out.size))
                    clear hb8
                    go_wp2_with fail
                    go_ret
                    first
                      | exact ⟨rfl, HW8.out⟩
                      | exact ⟨by simp, HW8.out⟩
              · have HOK := Lib.hid hok
                have HW6 := Lib.hid (HWV.out.trans (hb6.mono HWV.out.size))
                clear hok hb6
                go_wp2_with fail
                go_loopw [13, 74] (fun v i wr => ∃ (k : Nat) (pl : Bool), k ≤ n ∧ v = .bool pl ∧ i = .int .i64 k ∧ Hid (okT (l.take k) = pl) ∧ Hid (Below w6.heap.size w6 wr)) (fun _ i _ => n - (intOf i).toNat)
                case atStart => exact ⟨0, true, Nat.zero_le _, rfl, rfl, Lib.hid rfl, Lib.hid (Below.refl _ _)⟩
                case round =>
                  obtain ⟨k, pl, hk, rfl, rfl, HPL, HW⟩ := hrel
                  have HWE := Lib.hid (HW6.out.trans (HW.out.mono HW6.out.size))
                  by_cases hlt : k < n
                  · have hkl : k < l.length := by rw [← HL.out]; exact hlt
                    obtain ⟨b, off, rfl, hb, hc⟩ := HB.out.cells (by omega)
                    obtain ⟨s, hs⟩ : ∃ s, l[k]'hkl = s := ⟨_, rfl⟩
                    have k1 : wr.cell? ⟨b, off + k, none⟩ = some (.int .i64 s) := by rw [HWE.out.cell (p := ⟨b, off + k, none⟩) hb, hc k hkl, hs]
                    have HTK := Lib.hid (okT_take hkl hs)
                    clear hc hs
                    cases pl with
                    | false =>
                      go_wp2_with fail
                      go_roundw
                      case rel => exact ⟨k + 1, false, by omega, rfl, by go_num, Lib.hid (by rw [HTK.out, HPL.out]; rfl), HW⟩
                      case measure => show n - ((k : Int) + 1).toNat < n - ((k : Int)).toNat; omega
                    | true =>
                      by_cases h0 : 0 ≤ s
                      · have hd1 : decide (0 ≤ s) = true := decide_eq_true h0
                        by_cases h2 : s < 256
                        · have hd2 : decide (s < 256) = true := decide_eq_true h2
                          have HMK := Lib.hid (show markS s = false from by unfold markS; exact decide_eq_false (by omega))
                          go_wp2_with fail
                          go_roundw
                          case rel => exact ⟨k + 1, true, by omega, rfl, by go_num, Lib.hid (by rw [HTK.out, HPL.out, HMK.out]; rfl), HW⟩
                          case measure => show n - ((k : Int) + 1).toNat < n - ((k : Int)).toNat; omega
                        · have hd2 : decide (s < 256) = false := decide_eq_false h2
                          have HMK := Lib.hid (show markS s = true from by unfold markS; exact decide_eq_true (by omega))
                          go_wp2_with fail
                          go_roundw
                          case rel => exact ⟨k + 1, false, by omega, rfl, by go_num, Lib.hid (by rw [HTK.out, HPL.out, HMK.out]; rfl), HW⟩
                          case measure => show n - ((k : Int) + 1).toNat < n - ((k : Int)).toNat; omega
                      · have hd1 : decide (0 ≤ s) = false := decide_eq_false h0
                        have HMK := Lib.hid (show markS s = true from by unfold markS; exact decide_eq_true (by omega))
                        go_wp2_with fail
                        go_roundw
                        case rel => exact ⟨k + 1, false, by omega, rfl, by go_num, Lib.hid (by rw [HTK.out, HPL.out, HMK.out]; rfl), HW⟩
                        case measure => show n - ((k : Int) + 1).toNat < n - ((k : Int)).toNat; omega
                  · have hke : k = n := by omega
                    have HKE := Lib.hid hke
                    have hplf : pl = false := by rw [← HPL.out, List.take_of_length_le (by rw [← HL.out]; omega)]; exact HOK.out
                    subst hplf
                    clear hke
                    go_wp2_with fail
                    refine (fixed13 wr (HU.out.later HWE.out)).mono ?_
                    rintro e w8 ⟨rfl, hb8⟩
                    have HW8 := Lib.hid (HWE.out.trans (hb8.mono HWE.out.size))
                    clear hb8
                    go_wp2_with fail
                    go_ret
                    first
                      | exact ⟨rfl, HW8.out⟩
                      | exact ⟨by simp, HW8.out⟩
end Go.Proofs.YtkiggpbmlkfdpaaDoor
