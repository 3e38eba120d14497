/- The document's scan: its rows of points in memory; the walks of row, spaces, are. -/
import Derived.Test.YtkiggpbmlkfdpaaDoorScanAsk2
namespace Go.Proofs.YtkiggpbmlkfdpaaDoor
open Go.RowKit
set_option linter.unusedVariables false

def codesP (ps : List Pt) : List Int := ps.map Pt.code
def clssP (ps : List Pt) : List Int := ps.map Pt.cls
def numsL (ps : List Pt) : List Int := ps.map fun p => (p.n : Int)
/-- The document's rows. -/
structure LAt (w : World) (B : Nat) (ps : List Pt) (n : Nat) (AP AC AN : Option Addr) (cP cC cN : Nat) : Prop where
  len : n = ps.length
  few : ps.length ≤ 1000
  cod : IntsAt w B AP n cP (codesP ps)
  cls : IntsAt w B AC n cC (clssP ps)
  num : IntsAt w B AN n cN (numsL ps)
/-- The value. -/
def lV (n : Nat) (AP AC AN : Option Addr) (cP cC cN S : Nat) : Array Value := #[.slice AP n cP, .slice AC n cC, .slice AN n cN, .int .i64 (S : Int)]
section
variable {w w' : World} {B B' n cP cC cN : Nat} {ps : List Pt} {AP AC AN : Option Addr}
theorem LAt.later (h : LAt w w.heap.size ps n AP AC AN cP cC cN) (hb : Below w.heap.size w w') : LAt w' w'.heap.size ps n AP AC AN cP cC cN :=
  ⟨h.len, h.few, RowAt.mono (RowAt.below h.cod hb) hb.size, RowAt.mono (RowAt.below h.cls hb) hb.size, RowAt.mono (RowAt.below h.num hb) hb.size⟩
theorem LAt.clsCells (h : LAt w B ps n AP AC AN cP cC cN) (h0 : 0 < n) : ∃ b off, AC = some ⟨b, off, none⟩ ∧ b < B ∧ ∀ i (hi : i < ps.length), w.cell? ⟨b, off + i, none⟩ = some (.int .i64 ps[i].cls) := by
  obtain ⟨b, off, e, hb, hc⟩ := IntsAt.cells h.cls h0
  refine ⟨b, off, e, hb, fun i hi => ?_⟩
  rw [hc i (by simpa [clssP] using hi)]
  simp [clssP]
theorem LAt.codCells (h : LAt w B ps n AP AC AN cP cC cN) (h0 : 0 < n) : ∃ b off, AP = some ⟨b, off, none⟩ ∧ b < B ∧ ∀ i (hi : i < ps.length), w.cell? ⟨b, off + i, none⟩ = some (.int .i64 ps[i].code) := by
  obtain ⟨b, off, e, hb, hc⟩ := IntsAt.cells h.cod h0
  refine ⟨b, off, e, hb, fun i hi => ?_⟩
  rw [hc i (by simpa [codesP] using hi)]
  simp [codesP]
theorem LAt.numCells (h : LAt w B ps n AP AC AN cP cC cN) (h0 : 0 < n) : ∃ b off, AN = some ⟨b, off, none⟩ ∧ b < B ∧ ∀ i (hi : i < ps.length), w.cell? ⟨b, off + i, none⟩ = some (.int .i64 (ps[i].n : Int)) := by
  obtain ⟨b, off, e, hb, hc⟩ := IntsAt.cells h.num h0
  refine ⟨b, off, e, hb, fun i hi => ?_⟩
  rw [hc i (by simpa [numsL] using hi)]
  simp [numsL]
end
set_option maxRecDepth 100000 in
set_option maxHeartbeats 2000000 in
theorem rrow_any {n cP cC cN S i : Nat} {ps : List Pt} {AP AC AN : Option Addr} (c : Int) (w : World) (h : LAt w w.heap.size ps n AP AC AN cP cC cN) (hi : i ≤ 1000) {r : Nat} (hr : rRow ps i c = r) :
    Calls Tryd.prog 68 #[.agg (lV n AP AC AN cP cC cN S), .int .i64 (i : Int), .int .i64 c] w fun e w' => e = .returned (.int .i64 (r : Int)) ∧ Below w.heap.size w w' := by
  unfold lV
  have hn := h.len
  have hf := h.few
  have hcm := h.cls.2.2.1
  have hcn := h.cls.2.1
  unfold maxLen at hcm
  have HR := Lib.hid (show runP ps i c = i + r from by rw [run_row, hr])
  have hn1 : n ≤ 1000 := by omega
  have HN := Lib.hid hn
  have HH := Lib.hid h
  clear h hn hf hr
  go_enter Tryd.func68, Tryd.ntmps68
  go_wp2_with fail
  go_loop [7] (fun z => ∃ j : Nat, z = .int .i64 (j : Int) ∧ Hid (runP ps (i + j) c = i + r) ∧ j ≤ 1000) (fun z => 1001 - (intOf z).toNat)
  case atStart => exact ⟨0, rfl, HR, by omega⟩
  case round =>
    clear HR
    obtain ⟨j, rfl, HJ, hj⟩ := hrel
    by_cases hlt : i + j < n
    · have hlt' : (i : Int) + (j : Int) < (n : Int) := by omega
      have hps : i + j < ps.length := by have := HN.out; omega
      obtain ⟨b, off, rfl, hb, hc⟩ := HH.out.clsCells (by omega)
      have e0 := hc (i + j) hps
      obtain ⟨x, hx⟩ : ∃ x, (ps[i + j]'hps).cls = x := ⟨_, rfl⟩
      rw [hx] at e0
      have HX := Lib.hid (show isP ps (i + j) c = (x == c) from by unfold isP; rw [List.getElem?_eq_getElem hps]; show ((ps[i + j]'hps).cls == c) = (x == c); rw [hx])
      clear hc hx
      by_cases hxc : x = c
      · subst hxc
        have HT := Lib.hid (is_true (ps := ps) (i := i + j) (c := x) (by rw [HX.out]; simp))
        have hq : (x == x) = true := by simp
        go_wp2_with fail
        go_round
        case rel => exact ⟨j + 1, by go_num, Lib.hid (by rw [← Nat.add_assoc, ← HT.out.2]; exact HJ.out), by omega⟩
        case measure => simp [intOf]; omega
      · have hq := beq_no hxc
        have HT := Lib.hid (show j = r from by have h1 := is_false (ps := ps) (i := i + j) (c := c) (by rw [HX.out, hq]); have := HJ.out; omega)
        clear hxc
        go_wp2_with fail
        go_ret
        exact ⟨by rw [← HT.out]; rfl, (Below.refl _ w).alloc (Nat.le_refl _) _⟩
    · have hlt' : ¬ (i : Int) + (j : Int) < (n : Int) := by omega
      have HT := Lib.hid (show j = r from by
        have h1 : runP ps (i + j) c = i + j := while_end (List.getElem?_eq_none (by have := HN.out; omega))
        have := HJ.out; omega)
      go_wp2_with fail
      go_ret
      exact ⟨by rw [← HT.out]; rfl, (Below.refl _ w).alloc (Nat.le_refl _) _⟩
set_option maxRecDepth 100000 in
set_option maxHeartbeats 2000000 in
theorem rspaces_any {n cP cC cN S : Nat} {ps : List Pt} {AP AC AN : Option Addr} (w : World) (h : LAt w w.heap.size ps n AP AC AN cP cC cN) {r : Nat} (hr : blanksP ps = r) :
    Calls Tryd.prog 63 #[.agg (lV n AP AC AN cP cC cN S), .int .i64 0] w fun e w' => e = .returned (.int .i64 (r : Int)) ∧ Below w.heap.size w w' := by
  unfold lV
  have hn := h.len
  have hf := h.few
  have hcm := h.cls.2.2.1
  have hcn := h.cls.2.1
  unfold maxLen at hcm
  have HR := Lib.hid (show whileP (fun p => isSp p.cls) ps 0 = r from hr)
  have hn1 : n ≤ 1000 := by omega
  have HN := Lib.hid hn
  have HH := Lib.hid h
  clear h hn hf hr
  go_enter Tryd.func63, Tryd.ntmps63
  go_wp2_with fail
  go_loop [5] (fun z => ∃ j : Nat, z = .int .i64 (j : Int) ∧ Hid (whileP (fun p => isSp p.cls) ps j = r) ∧ j ≤ 1000) (fun z => 1001 - (intOf z).toNat)
  case atStart => exact ⟨0, rfl, HR, by omega⟩
  case round =>
    clear HR
    obtain ⟨j, rfl, HJ, hj⟩ := hrel
    by_cases hlt : j < n
    · have hps : j < ps.length := by have := HN.out; omega
      obtain ⟨b, off, rfl, hb, hc⟩ := HH.out.clsCells (by omega)
      have e0 := hc j hps
      obtain ⟨x, hx⟩ : ∃ x, (ps[j]'hps).cls = x := ⟨_, rfl⟩
      rw [hx] at e0
      have HX := Lib.hid (show spP ps j = isSp x from by unfold spP; rw [List.getElem?_eq_getElem hps]; show isSp (ps[j]'hps).cls = isSp x; rw [hx])
      clear hc hx
      by_cases h3 : x = 3
      · have HT := Lib.hid (sp_true (ps := ps) (i := j) (by rw [HX.out, h3]; rfl))
        subst h3
        go_wp2_with fail
        go_round
        case rel => exact ⟨j + 1, by go_num, Lib.hid (by rw [← HT.out.2]; exact HJ.out), by omega⟩
        case measure => simp [intOf]; omega
      · by_cases h4 : x = 4
        · have HT := Lib.hid (sp_true (ps := ps) (i := j) (by rw [HX.out, h4]; rfl))
          subst h4
          clear h3
          go_wp2_with fail
          go_round
          case rel => exact ⟨j + 1, by go_num, Lib.hid (by rw [← HT.out.2]; exact HJ.out), by omega⟩
          case measure => simp [intOf]; omega
        · have hq3 := beq_no h3
          have hq4 := beq_no h4
          have HT := Lib.hid (show j = r from by have h1 := sp_false (ps := ps) (i := j) (by rw [HX.out]; unfold isSp; rw [hq3, hq4]; rfl); have := HJ.out; omega)
          clear h3 h4
          go_wp2_with fail
          go_ret
          exact ⟨by rw [← HT.out]; rfl, (Below.refl _ w).alloc (Nat.le_refl _) _⟩
    · have hlt' : ¬ (j : Int) < (n : Int) := by omega
      have HT := Lib.hid (show j = r from by
        have h1 : whileP (fun p => isSp p.cls) ps j = j := while_end (List.getElem?_eq_none (by have := HN.out; omega))
        have := HJ.out; omega)
      go_wp2_with fail
      go_ret
      exact ⟨by rw [← HT.out]; rfl, (Below.refl _ w).alloc (Nat.le_refl _) _⟩
/-- A text's bytes as numbers. -/
def bytesI (s : ByteArray) : List Int := s.data.toList.map fun x => (x.toNat : Int)
theorem bytesI_drop {s : ByteArray} {j : Nat} (h : j < s.size) : (bytesI s).drop j = ((s[j]'h).toNat : Int) :: (bytesI s).drop (j + 1) := by
  unfold bytesI
  have hl : j < s.data.toList.length := by rw [str_len]; exact h
  rw [← List.map_drop, ← List.map_drop, List.drop_eq_getElem_cons hl]
  rfl
theorem are_cons {p : Pt} {ps : List Pt} {x : Int} {s : List Int} {wide : Bool} : areR (p :: ps) (x :: s) wide = (okC wide p.code x && areR ps s wide) := by simp only [areR]
set_option maxRecDepth 100000 in
set_option maxHeartbeats 4000000 in
theorem rare_any {n cP cC cN S : Nat} {ps : List Pt} {AP AC AN : Option Addr} (s : ByteArray) (wide : Bool) (w : World) (h : LAt w w.heap.size ps n AP AC AN cP cC cN) (hs : s.size ≤ 100) {o : Bool} (ho : areR ps (bytesI s) wide = o) :
    Calls Tryd.prog 69 #[.agg (lV n AP AC AN cP cC cN S), .int .i64 0, .string s, .bool wide] w fun e w' => e = .returned (.bool o) ∧ Below w.heap.size w w' := by
  unfold lV
  have hn := h.len
  have hf := h.few
  have hcm := h.cod.2.2.1
  have hcn := h.cod.2.1
  unfold maxLen at hcm
  have HO := Lib.hid ho
  have hn1 : n ≤ 1000 := by omega
  have HN := Lib.hid hn
  have HH := Lib.hid h
  clear h hn hf ho
  go_enter Tryd.func69, Tryd.ntmps69
  go_wp2_with fail
  go_loop [9] (fun z => ∃ j : Nat, z = .int .i64 (j : Int) ∧ Hid (areR (ps.drop j) ((bytesI s).drop j) wide = o) ∧ j ≤ s.size) (fun z => s.size - (intOf z).toNat)
  case atStart => exact ⟨0, rfl, HO, Nat.zero_le _⟩
  case round =>
    clear HO
    obtain ⟨j, rfl, HJ, hj⟩ := hrel
    by_cases hjs : j < s.size
    · have HD := Lib.hid (bytesI_drop hjs)
      obtain ⟨x, hx⟩ : ∃ x, (((s[j]'hjs).toNat : Nat) : Int) = x := ⟨_, rfl⟩
      have hx0 : 0 ≤ x := by rw [← hx]; exact u8_ge _
      have hx1 : x ≤ 255 := by rw [← hx]; exact u8_le _
      rw [hx] at HD
      by_cases hlt : j < n
      · have hps : j < ps.length := by have := HN.out; omega
        obtain ⟨b, off, rfl, hb, hc⟩ := HH.out.codCells (by omega)
        have e0 := hc j hps
        obtain ⟨p, hp⟩ : ∃ p, (ps[j]'hps).code = p := ⟨_, rfl⟩
        rw [hp] at e0
        have HA := Lib.hid (show (okC wide p x && areR (ps.drop (j + 1)) ((bytesI s).drop (j + 1)) wide) = o from by
          have := HJ.out
          rw [HD.out, List.drop_eq_getElem_cons hps, are_cons, hp] at this
          exact this)
        clear hc hp
        have hlt' : ¬ (n : Int) ≤ (j : Int) := by omega
        have hw32 : IntKind.i64.wrap (x - 32) = x - 32 := by rw [IntKind.wrap_i64]; omega
        have hgo : okC wide p x = true ∨ okC wide p x = false := by cases okC wide p x <;> simp
        by_cases h1 : p = x
        · subst h1
          have HT := Lib.hid (show areR (ps.drop (j + 1)) ((bytesI s).drop (j + 1)) wide = o from by
            have := HA.out; unfold okC at this; rw [decide_eq_true rfl] at this; simpa using this)
          have hq : (p != p) = false := bne_no rfl
          clear hgo
          go_wp2_with fail
          go_round
          case rel => exact ⟨j + 1, by go_num, HT, by omega⟩
          case measure => simp [intOf]; omega
        · have hq : (p != x) = true := bne_yes h1
          have OKF : okC wide p x = false → o = false := fun e => by have := HA.out; rw [e] at this; simpa using this.symm
          have OKT : okC wide p x = true → areR (ps.drop (j + 1)) ((bytesI s).drop (j + 1)) wide = o := fun e => by have := HA.out; rw [e] at this; simpa using this
          have d1 : decide (p = x) = false := decide_eq_false h1
          cases wide with
          | false =>
            have HF := Lib.hid (OKF (by unfold okC; rw [d1]; rfl))
            clear hgo OKF OKT d1 h1
            go_wp2_with fail
            go_ret
            exact ⟨by rw [HF.out]; rfl, (Below.refl _ w).alloc (Nat.le_refl _) _⟩
          | true =>
            by_cases h97 : 97 ≤ x
            · by_cases h32 : p = x - 32
              · have HT := Lib.hid (OKT (by unfold okC; rw [d1, decide_eq_true h97, decide_eq_true h32]; rfl))
                have hq2 := beq_yes h32
                clear hgo OKF OKT d1 h1 h32
                go_wp2_with fail
                go_round
                case rel => exact ⟨j + 1, by go_num, HT, by omega⟩
                case measure => simp [intOf]; omega
              · have HF := Lib.hid (OKF (by unfold okC; rw [d1, decide_eq_false h32]; simp))
                have hq2 := beq_no h32
                clear hgo OKF OKT d1 h1 h32
                go_wp2_with fail
                go_ret
                exact ⟨by rw [HF.out]; rfl, (Below.refl _ w).alloc (Nat.le_refl _) _⟩
            · have HF := Lib.hid (OKF (by unfold okC; rw [d1, decide_eq_false h97]; rfl))
              clear hgo OKF OKT d1 h1
              go_wp2_with fail
              go_ret
              exact ⟨by rw [HF.out]; rfl, (Below.refl _ w).alloc (Nat.le_refl _) _⟩
      · have hlt' : (n : Int) ≤ (j : Int) := by omega
        have HF := Lib.hid (show o = false from by
          have := HJ.out
          rw [HD.out, List.drop_eq_nil_of_le (by have := HN.out; omega)] at this
          rw [← this]; rfl)
        go_wp2_with fail
        go_ret
        exact ⟨by rw [HF.out]; rfl, (Below.refl _ w).alloc (Nat.le_refl _) _⟩
    · have hjs' : ¬ (j : Int) < (s.size : Int) := by omega
      have HF := Lib.hid (show o = true from by
        have := HJ.out
        rw [List.drop_eq_nil_of_le (show (bytesI s).length ≤ j by unfold bytesI; rw [List.length_map, str_len]; omega)] at this
        rw [← this]; cases ps.drop j <;> rfl)
      go_wp2_with fail
      go_ret
      exact ⟨by rw [HF.out]; rfl, (Below.refl _ w).alloc (Nat.le_refl _) _⟩
end Go.Proofs.YtkiggpbmlkfdpaaDoor
