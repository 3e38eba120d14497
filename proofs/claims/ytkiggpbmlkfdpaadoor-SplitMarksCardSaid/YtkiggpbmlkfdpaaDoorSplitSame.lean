/- Pieces in memory; the walks of the document's Same, of Decided, the program's and the document's. -/
import Derived.Test.YtkiggpbmlkfdpaaDoorSplit
import Derived.Test.YtkiggpbmlkfdpaaDoorMem
import Derived.BigQuiet
namespace Go.Proofs.YtkiggpbmlkfdpaaDoor
open Go.RowKit
set_option linter.unusedVariables false

def PiecesAt (w : World) (B : Nat) (A : Option Addr) (n c : Nat) (l : List (Nat × Bool)) : Prop := RowAt w B 2 A n c (pieceV l)
theorem pieceV_at : ∀ (l : List (Nat × Bool)) (i : Nat) (hi : i < l.length), (pieceV l)[i * 2]? = some (.int .i64 (l[i].1 : Int)) ∧ (pieceV l)[i * 2 + 1]? = some (.bool l[i].2)
  | x :: r, 0, _ => ⟨rfl, rfl⟩
  | x :: r, i + 1, hi => by
    have h := pieceV_at r i (by simpa using hi)
    have e : pieceV (x :: r) = .int .i64 (x.1 : Int) :: .bool x.2 :: pieceV r := rfl
    rw [e, show (i + 1) * 2 = i * 2 + 1 + 1 from by omega, show i * 2 + 1 + 1 + 1 = (i * 2 + 1) + 1 + 1 from rfl]
    simp only [List.getElem?_cons_succ, List.getElem_cons_succ]
    exact h
section
variable {w : World} {B n c : Nat} {A : Option Addr} {l : List (Nat × Bool)}
theorem PiecesAt.cells (h : PiecesAt w B A n c l) (h0 : 0 < n) : ∃ b off, A = some ⟨b, off, none⟩ ∧ b < B ∧ ∀ i (hi : i < l.length), w.cell? ⟨b, off + i * 2, none⟩ = some (.int .i64 (l[i].1 : Int)) ∧ w.cell? ⟨b, off + (i * 2 + 1), none⟩ = some (.bool l[i].2) := by
  obtain ⟨b, off, e, hb, hc⟩ := h.2.2.2 h0
  exact ⟨b, off, e, hb, fun i hi => ⟨hc _ _ (pieceV_at l i hi).1, hc _ _ (pieceV_at l i hi).2⟩⟩
theorem PiecesAt.len (h : PiecesAt w B A n c l) : n = l.length := by have := h.1; rw [length_pieceV] at this; omega
end
theorem drewN_two (w : World) (a b : Nat) : (w.drewN a).drewN b = w.drewN (a + b) := by unfold World.drewN; simp [Nat.add_assoc]
theorem eq_piece (a b : Int) (c d : Bool) (w : World) : (Op.equalIn 10000 44 (.agg #[.int .i64 a, .bool c]) (.agg #[.int .i64 b, .bool d])).run Tryd.prog w = .ok (a == b && c == d) w := by
  have hS : Tryd.prog.underlying 44 = some (.struct (Tryd.prog.fieldsOf 44)) := by kernel_rfl
  have hp : Tryd.prog.stoodInHeld 44 = false := by kernel_rfl
  have u1 := Tryd.underlying4
  have u3 := Tryd.underlying3
  have a1 := Tryd.isAgg4
  have a3 := Tryd.isAgg3
  rw [show (10000 : Nat) = 9999 + 1 from rfl, run_equalIn_agg w 9999 44 _ _ hS hp]
  simp only [Program.fieldsOf, Tryd.underlying44]
  go_simp
  by_cases h1 : a = b <;> by_cases h2 : c = d <;> simp [h1, h2]
theorem neq_piece {a b : Nat} {c d : Bool} {o : Bool} (h : decide ((a, c) = (b, d)) = o) (w : World) : (binOp .neq 44 (.agg #[.int .i64 (a : Int), .bool c]) (.agg #[.int .i64 (b : Int), .bool d])).run Tryd.prog w = .ok (.bool (!o)) w := by
  subst h
  rw [run_neq_struct, eq_piece, Result.andThen_ok]
  by_cases h1 : a = b
  · subst h1
    by_cases h2 : c = d
    · subst h2; simp
    · simp [h2]
  · have : ((a : Int) == (b : Int)) = false := beq_no (by omega)
    rw [this]; simp [h1]
set_option maxRecDepth 100000 in
set_option maxHeartbeats 1000000 in
theorem sameP_any {A A' : Option Addr} {n n' c c' B B' : Nat} {l l' : List (Nat × Bool)} (w : World) (h : PiecesAt w B A n c l) (h' : PiecesAt w B' A' n' c' l') :
    Calls Tryd.prog 27 #[.slice A n c, .slice A' n' c'] w fun e w' => e = .returned (.bool (decide (l = l'))) ∧ ∃ k, w' = w.drewN k := by
  have e1 := h.len
  have e2 := h'.len
  by_cases hn : n = n'
  · subst hn
    have hcap := h.2.2.1
    have hcn := h.2.1
    unfold maxLen at hcap
    subst e1
    have E2 := Lib.hid e2
    clear e2
    go_enter Tryd.func27, Tryd.ntmps27
    go_wp2_with fail
    go_loopw [13] (fun i wr => ∃ k q : Nat, k ≤ l.length ∧ i = .int .i64 k ∧ l.take k = l'.take k ∧ wr = w.drewN q) (fun i _ => l.length - (intOf i).toNat)
    case atStart => exact ⟨0, 0, Nat.zero_le _, rfl, by simp, rfl⟩
    case round =>
      obtain ⟨k, q, hk, rfl, ht, rfl⟩ := hrel
      by_cases hlt : k < l.length
      · have hk2 : k < l'.length := by have := E2.out; omega
        obtain ⟨b, off, rfl, hb, hc⟩ := h.cells (by omega)
        obtain ⟨b', off', rfl, hb', hc'⟩ := h'.cells (by omega)
        have c1 : w.cell? ⟨b, off + k * 2, none⟩ = some (.int .i64 ((l[k]'hlt).1 : Int)) := (hc k hlt).1
        have c2 : w.cell? ⟨b', off' + k * 2, none⟩ = some (.int .i64 ((l'[k]'hk2).1 : Int)) := (hc' k hk2).1
        have c3 : w.cell? ⟨b, off + k * 2 + 1, none⟩ = some (.bool (l[k]'hlt).2) := (hc k hlt).2
        have c4 : w.cell? ⟨b', off' + k * 2 + 1, none⟩ = some (.bool (l'[k]'hk2).2) := (hc' k hk2).2
        have hti : l.take (k + 1) = l.take k ++ [l[k]'hlt] := by rw [List.take_add_one, List.getElem?_eq_getElem hlt]; rfl
        have hti' : l'.take (k + 1) = l'.take k ++ [l'[k]'hk2] := by rw [List.take_add_one, List.getElem?_eq_getElem hk2]; rfl
        obtain ⟨⟨s1, r1⟩, hx1⟩ : ∃ x, l[k]'hlt = x := ⟨_, rfl⟩
        obtain ⟨⟨s2, r2⟩, hx2⟩ : ∃ x, l'[k]'hk2 = x := ⟨_, rfl⟩
        rw [hx1] at hti c1 c3
        rw [hx2] at hti' c2 c4
        simp only at c1 c2 c3 c4
        have HX1 := Lib.hid hx1
        have HX2 := Lib.hid hx2
        have HT1 := Lib.hid hti
        have HT2 := Lib.hid hti'
        have HTT := Lib.hid ht
        clear hx1 hx2 hti hti' ht hc hc'
        by_cases hx : (s1, r1) = (s2, r2)
        · have hq := neq_piece (o := true) (decide_eq_true hx)
          have HT := Lib.hid (show l.take (k + 1) = l'.take (k + 1) from by rw [HT1.out, HT2.out, HTT.out, hx])
          clear hx
          go_wp2_with fail
          go_quiet (fail)
          go_wp2_with fail
          go_roundw
          case rel => exact ⟨k + 1, q + nq, by omega, rfl, HT.out, rfl⟩
          case measure => show l.length - ((k : Int) + 1).toNat < l.length - ((k : Int)).toNat; omega
        · have hq := neq_piece (o := false) (decide_eq_false hx)
          have HN := Lib.hid (show l ≠ l' from fun e => by subst e; exact hx (HX1.out.symm.trans HX2.out))
          clear hx
          go_wp2_with fail
          go_quiet (fail)
          go_wp2_with fail
          go_ret
          exact ⟨by rw [decide_eq_false HN.out]; rfl, ⟨q + nq, drewN_two _ _ _⟩⟩
      · obtain rfl : k = l.length := by omega
        have HE := Lib.hid (show l = l' from by rw [List.take_of_length_le (Nat.le_refl _), List.take_of_length_le (by have := E2.out; omega)] at ht; exact ht)
        clear ht
        go_wp2_with fail
        go_ret
        exact ⟨by rw [decide_eq_true HE.out]; rfl, ⟨q, rfl⟩⟩
  · have hn' := bne_yes (a := (n : Int)) (b := (n' : Int)) (by omega)
    have HN := Lib.hid (show l ≠ l' from fun e => by subst e; omega)
    clear e1 e2
    go_enter Tryd.func27, Tryd.ntmps27
    go_wp2_with fail
    go_ret
    exact ⟨by rw [decide_eq_false HN.out]; rfl, 0, rfl⟩
theorem sameP_as {A A' : Option Addr} {n n' c c' B B' : Nat} {l l' : List (Nat × Bool)} {o : Bool} (w : World) (h : PiecesAt w B A n c l) (h' : PiecesAt w B' A' n' c' l') (ho : decide (l = l') = o) :
    Calls Tryd.prog 27 #[.slice A n c, .slice A' n' c'] w fun e w' => e = .returned (.bool o) ∧ Below w.heap.size w w' :=
  (sameP_any w h h').mono fun e w' ⟨he, k, hw⟩ => by subst hw; exact ⟨by rw [he, ho], ⟨rfl, rfl, rfl, Nat.le_refl _, fun _ _ => rfl⟩⟩
/-- Split's pieces, told as a slice value that reads as them. -/
theorem split_as {At A : Option Addr} {nt ct m c : Nat} {t : List Rg} {text : List Int} {p : List (Nat × Bool)} (kind : Int) (fin : Bool) (w : World) (ht : RangesAt w w.heap.size At nt ct t) (hx : IntsAt w w.heap.size A m c text) (hnt : nt ≤ 1000) (hm : m ≤ 1000) (hp : splitL kind t text fin = p) :
    Calls Tryd.prog 25 #[.int .i64 kind, .slice At nt ct, .slice A m c, .bool fin] w fun e w' => ∃ A' c', e = .returned (.slice A' p.length c') ∧ PiecesAt w' w'.heap.size A' p.length c' p ∧ Below w.heap.size w w' := by
  subst hp
  refine (split_any kind fin w ht hx hnt hm).mono ?_
  rintro e w' ⟨v, rfl, ho, hb⟩
  obtain ⟨A', c', rfl⟩ := own_form ho
  exact ⟨A', c', rfl, RowAt.of_own ho, hb⟩
theorem split_few {kind : Int} {t : List Rg} {text : List Int} {fin : Bool} : (splitL kind t text fin).length ≤ text.length ∧ decL (splitL kind t text fin) ≤ text.length := by
  unfold splitL
  split
  · exact ⟨Nat.zero_le _, Nat.zero_le _⟩
  · rename_i h
    have hv : mayT t = true := by
      cases h2 : mayT t with
      | true => rfl
      | false => exact absurd (.inr (.inr h2)) h
    have hs := rawT_sum (fin := fin) (show 0 ≤ kind by omega) (show kind ≤ 3 by omega) hv text []
    have hl := len_sum _ hs.2
    rw [hs.1] at hl
    refine ⟨by rw [cum_length]; simpa using hl, ?_⟩
    have : ∀ (x : List (Nat × Bool)) (s : Bool), decL (cumL s x) ≤ (x.map (·.1)).sum := by
      intro x
      induction x with
      | nil => intro s; exact Nat.le_refl _
      | cons p x ih =>
        intro s
        obtain ⟨n, d⟩ := p
        rw [cumL, decL, List.map_cons, List.sum_cons]
        have := ih (s && d)
        split <;> simp only <;> omega
    have := this (rawT kind t fin [] text) true
    rw [hs.1] at this
    simpa using this
theorem decL_take (p : List (Nat × Bool)) (k : Nat) (h : k < p.length) : decL (p.take (k + 1)) = decL (p.take k) + (if p[k].2 = true then p[k].1 else 0) := by
  have app : ∀ x y, decL (x ++ y) = decL x + decL y := by
    intro x y
    induction x with
    | nil => simp [decL]
    | cons q x ih => obtain ⟨a, b⟩ := q; rw [List.cons_append, decL, decL, ih]; omega
  rw [List.take_add_one, List.getElem?_eq_getElem h, app]
  simp only [Option.toList, decL, Nat.add_zero]
theorem decL_take_le : ∀ (p : List (Nat × Bool)) (k : Nat), decL (p.take k) ≤ decL p
  | [], k => by simp [decL]
  | (a, b) :: p, 0 => Nat.zero_le _
  | (a, b) :: p, k + 1 => by rw [List.take_succ_cons, decL, decL]; have := decL_take_le p k; omega
set_option maxRecDepth 100000 in
set_option maxHeartbeats 1000000 in
theorem decided_any {At A : Option Addr} {nt ct m c : Nat} {t : List Rg} {text : List Int} (kind : Int) (w : World) (ht : RangesAt w w.heap.size At nt ct t) (hx : IntsAt w w.heap.size A m c text) (hnt : nt ≤ 1000) (hm : m ≤ 1000) :
    Calls Tryd.prog 31 #[.int .i64 kind, .slice At nt ct, .slice A m c] w fun e w' => e = .returned (.int .i64 (decL (splitL kind t text false) : Int)) ∧ Below w.heap.size w w' := by
  obtain ⟨p, hp⟩ : ∃ p, splitL kind t text false = p := ⟨_, rfl⟩
  have hf := split_few (kind := kind) (t := t) (text := text) (fin := false)
  have hml := hx.len
  rw [hp] at hf ⊢
  have HP := Lib.hid hp
  have HT := Lib.hid ht
  have HX := Lib.hid hx
  have HF := Lib.hid (show p.length ≤ 1000 ∧ decL p ≤ 1000 from by omega)
  clear hp ht hx hf hml
  go_enter Tryd.func31, Tryd.ntmps31
  go_wp2_with fail
  refine (split_as kind false w HT.out HX.out hnt hm HP.out).mono ?_
  rintro e w1 ⟨A1, c1, rfl, hpa, hb1⟩
  have HPA := Lib.hid hpa
  have HB1 := Lib.hid hb1
  have hcn := hpa.2.1
  have hcm := hpa.2.2.1
  unfold maxLen at hcm
  clear hpa hb1
  go_wp2_with fail
  go_loopw [7, 15] (fun s i wr => ∃ k : Nat, i = .int .i64 k ∧ k ≤ p.length ∧ s = .int .i64 (decL (p.take k) : Int) ∧ Hid (Below w1.heap.size w1 wr)) (fun _ i _ => p.length - (intOf i).toNat)
  case atStart => exact ⟨0, rfl, Nat.zero_le _, rfl, Lib.hid (Below.refl _ _)⟩
  case round =>
    obtain ⟨k, rfl, hk, rfl, HW⟩ := hrel
    by_cases hlt : k < p.length
    · obtain ⟨b, off, rfl, hb, hc⟩ := HPA.out.cells (by omega)
      obtain ⟨⟨a, d⟩, hx1⟩ : ∃ x, p[k]'hlt = x := ⟨_, rfl⟩
      have c1 : wr.cell? ⟨b, off + k * 2, none⟩ = some (.int .i64 (a : Int)) := by rw [HW.out.cell (p := ⟨b, off + k * 2, none⟩) hb, (hc k hlt).1, hx1]
      have c2 : wr.cell? ⟨b, off + k * 2 + 1, none⟩ = some (.bool d) := by rw [HW.out.cell (p := ⟨b, off + k * 2 + 1, none⟩) hb]; have := (hc k hlt).2; rw [hx1] at this; exact this
      have hdt := decL_take p k hlt
      rw [hx1] at hdt
      have hdl := decL_take_le p (k + 1)
      have hwz := HW.out.size
      have hd1 : decL (p.take k) ≤ 1000 := by have := decL_take_le p k; have := HF.out; omega
      have ha : d = true → a ≤ 1000 := fun e => by rw [e, if_pos rfl] at hdt; have := HF.out; omega
      have HDT := Lib.hid hdt
      clear hc hx1 hdt hdl
      have hal : ∀ o, Below w1.heap.size w1 (wr.alloc o) := fun o => HW.out.alloc hwz o
      have HAL := Lib.hid hal
      clear hal
      cases d with
      | true =>
        have ha1 := ha rfl
        clear ha
        go_wp2_with fail
        go_roundw
        case rel => exact ⟨k + 1, by go_num, by omega, by rw [HDT.out, if_pos rfl]; go_num, Lib.hid (HAL.out _)⟩
        case measure => show p.length - ((k : Int) + 1).toNat < p.length - ((k : Int)).toNat; omega
      | false =>
        clear ha
        go_wp2_with fail
        go_roundw
        case rel => exact ⟨k + 1, by go_num, by omega, by rw [HDT.out, if_neg (by simp)]; rfl, Lib.hid (HAL.out _)⟩
        case measure => show p.length - ((k : Int) + 1).toNat < p.length - ((k : Int)).toNat; omega
    · have HE := Lib.hid (show p.take k = p from List.take_of_length_le (by omega))
      have hke : k = p.length := by omega
      have HKE := Lib.hid hke
      clear hke
      go_wp2_with fail
      go_ret
      exact ⟨by rw [HE.out]; rfl, HB1.out.trans (HW.out.mono HB1.out.size)⟩
end Go.Proofs.YtkiggpbmlkfdpaaDoor
