/- The walk of footbridgeref08.Same. -/
import Derived.Test.YtefhifmilmedhaaDoorMergePair
import Derived.Test.YtefhifmilmedhaaDoorRankSame
import Derived.Test.YtefhifmilmedhaaDoorMergeRead
namespace Go.Proofs.YtefhifmilmedhaaDoor
open Go.RowKit

theorem length_pairsV (l : PairsL) : (pairsV l).length = l.length * 2 := by
  induction l with
  | nil => rfl
  | cons x r ih => simp only [pairsV, List.flatMap_cons, List.length_append, List.length_cons, List.length_nil] at *; omega
theorem pairsV_at : ∀ (l : PairsL) (i : Nat) (hi : i < l.length), (pairsV l)[i * 2]? = some (.string (strOf l[i].1)) ∧ (pairsV l)[i * 2 + 1]? = some (.string (strOf l[i].2))
  | x :: r, 0, _ => ⟨rfl, rfl⟩
  | x :: r, i + 1, hi => by
    have h := pairsV_at r i (by simpa using hi)
    have e : pairsV (x :: r) = .string (strOf x.1) :: .string (strOf x.2) :: pairsV r := rfl
    rw [e, show (i + 1) * 2 = i * 2 + 1 + 1 from by omega, show i * 2 + 1 + 1 + 1 = (i * 2 + 1) + 1 + 1 from rfl]
    simp only [List.getElem?_cons_succ, List.getElem_cons_succ]
    exact h
theorem pairs_cells {w : World} {B n c : Nat} {A : Option Addr} {l : PairsL} (h : RowAt w B 2 A n c (pairsV l)) (h0 : 0 < n) :
    ∃ b off, A = some ⟨b, off, none⟩ ∧ b < B ∧ ∀ i (hi : i < l.length), w.cell? ⟨b, off + i * 2, none⟩ = some (.string (strOf l[i].1)) ∧ w.cell? ⟨b, off + (i * 2 + 1), none⟩ = some (.string (strOf l[i].2)) := by
  obtain ⟨b, off, e, hb, hc⟩ := h.2.2.2 h0
  exact ⟨b, off, e, hb, fun i hi => ⟨hc _ _ (pairsV_at l i hi).1, hc _ _ (pairsV_at l i hi).2⟩⟩
theorem pairs_len {w : World} {B n c : Nat} {A : Option Addr} {l : PairsL} (h : RowAt w B 2 A n c (pairsV l)) : n = l.length := by
  have := h.1
  rw [length_pairsV] at this
  omega
theorem eq_pair (a b c d : ByteArray) (w : World) : (Op.equalIn 10000 91 (.agg #[.string a, .string c]) (.agg #[.string b, .string d])).run Tryd.prog w = .ok (a.toList == b.toList && c.toList == d.toList) w := by
  have hS : Tryd.prog.underlying 91 = some (.struct (Tryd.prog.fieldsOf 91)) := by kernel_rfl
  have hp : Tryd.prog.stoodInHeld 91 = false := by kernel_rfl
  have u1 := Tryd.underlying9
  have a1 := Tryd.isAgg9
  rw [show (10000 : Nat) = 9999 + 1 from rfl, run_equalIn_agg w 9999 91 _ _ hS hp]
  simp only [Program.fieldsOf, Tryd.underlying91]
  go_simp
  by_cases h1 : a.toList = b.toList <;> by_cases h2 : c.toList = d.toList <;> simp [h1, h2]
theorem neq_pair {s1 s2 t1 t2 : List UInt8} {o : Bool} (h : decide ((s1, t1) = (s2, t2)) = o) (w : World) : (binOp .neq 91 (.agg #[.string (strOf s1), .string (strOf t1)]) (.agg #[.string (strOf s2), .string (strOf t2)])).run Tryd.prog w = .ok (.bool (!o)) w := by
  subst h
  rw [run_neq_struct, eq_pair, Result.andThen_ok]
  by_cases h1 : s1 = s2
  · subst h1
    by_cases h2 : t1 = t2
    · subst h2; simp
    · rw [str_ne_of h2]; simp [h2]
  · rw [str_ne_of h1]; simp [h1]

theorem sameRows_b {A A' : Option Addr} {n n' c c' B B' : Nat} {l l' : List (List UInt8 × Int)} {o : Bool} (w : World) (h : RowAt w B 2 A n c (rowsI l)) (h' : RowAt w B' 2 A' n' c' (rowsI l')) (ho : decide (l = l') = o) :
    Calls Tryd.prog 27 #[.slice A n c, .slice A' n' c'] w fun e w' => e = .returned (.bool o) ∧ Below w.heap.size w w' := by
  subst ho
  refine (sameRows_any w h h').mono ?_
  rintro e w' ⟨rfl, k, rfl⟩
  exact ⟨rfl, below_drewN (Below.refl _ _) k⟩

set_option maxRecDepth 100000 in
set_option maxHeartbeats 1000000 in
theorem sameTabs_any {A A' A2 A2' : Option Addr} {n n' c c' B m m' d d' : Nat} {l l' : List (List UInt8 × Int)} {q q' : PairsL} (w : World) (hB : B ≤ w.heap.size) (h : RowAt w B 2 A n c (rowsI l)) (h' : RowAt w B 2 A' n' c' (rowsI l'))
    (g : RowAt w B 2 A2 m d (pairsV q)) (g' : RowAt w B 2 A2' m' d' (pairsV q')) :
    Calls Tryd.prog 35 #[.agg #[.slice A n c, .slice A2 m d], .agg #[.slice A' n' c', .slice A2' m' d']] w fun e w' => e = .returned (.bool (decide (l = l' ∧ q = q'))) ∧ Below w.heap.size w w' := by
  have HH := Lib.hid h
  have HH' := Lib.hid h'
  have HG := Lib.hid g
  have HG' := Lib.hid g'
  have e1 := pairs_len g
  have e2 := pairs_len g'
  have E1 := Lib.hid e1
  have E2 := Lib.hid e2
  clear h h' g g' e1 e2
  go_enter Tryd.func35, Tryd.ntmps35
  go_wp2_with fail
  obtain ⟨o, ho⟩ : ∃ o, decide (l = l') = o := ⟨_, rfl⟩
  have HO := Lib.hid ho
  clear ho
  have e2 : ∀ (a : Obj), (w.alloc a).heap.size = w.heap.size + 1 := fun a => by simp
  refine (sameRows_b _ (RowAt.alloc (RowAt.alloc HH.out hB _) (by simp; omega) _) (RowAt.alloc (RowAt.alloc HH'.out hB _) (by simp; omega) _) HO.out).mono ?_
  rintro e w1 ⟨rfl, hb1⟩
  have G1 := Lib.hid (show w1.heap[w.heap.size]? = some (.cells #[.slice A n c, .slice A2 m d] 59 (0, 0)) from
    (hb1.block _ (by simp; omega)).trans ((Below.heap_alloc _ _ _ (by simp)).trans (heap_alloc_new w _)))
  have G2 := Lib.hid (show w1.heap[w.heap.size + 1]? = some (.cells #[.slice A' n' c', .slice A2' m' d'] 59 (0, 0)) from by
    refine (hb1.block _ (by simp)).trans ?_
    have h := heap_alloc_new (w.alloc (.cells #[.slice A n c, .slice A2 m d] 59)) (.cells #[.slice A' n' c', .slice A2' m' d'] 59)
    rw [e2] at h
    exact h)
  have B1 := Lib.hid (show Below w.heap.size w w1 from (((Below.refl w.heap.size w).alloc (Nat.le_refl _) _).alloc (by simp) _).trans (hb1.mono (by simp; omega)))
  have P1 := Lib.hid (RowAt.below HG.out (B1.out.mono hB))
  have P2 := Lib.hid (RowAt.below HG'.out (B1.out.mono hB))
  obtain ⟨x0, x1, -, -⟩ := pair_reads G1.out
  obtain ⟨y0, y1, -, -⟩ := pair_reads G2.out
  clear hb1 e2
  cases o with
  | false =>
    go_wp2_with fail
    go_ret
    exact ⟨by rw [decide_eq_false (fun h => of_decide_eq_false HO.out h.1)]; rfl, B1.out⟩
  | true =>
    by_cases hm : m = m'
    · have hmm := bne_no (a := (m : Int)) (b := (m' : Int)) (by omega)
      have hcap := P1.out.2.2.1
      have hmd := P1.out.2.1
      unfold maxLen at hcap
      subst hm
      go_wp2_with fail
      go_loopw [24] (fun i wr => ∃ k z : Nat, k ≤ m ∧ i = .int .i64 k ∧ q.take k = q'.take k ∧ wr = w1.drewN z) (fun i _ => m - (intOf i).toNat)
      case atStart => exact ⟨0, 0, Nat.zero_le _, rfl, by simp, rfl⟩
      case round =>
        obtain ⟨k, z, hk, rfl, ht, rfl⟩ := hrel
        by_cases hlt : k < m
        · have hk1 : k < q.length := by have := E1.out; omega
          have hk2 : k < q'.length := by have := E2.out; omega
          obtain ⟨b, off, rfl, hb, hc⟩ := pairs_cells P1.out (by omega)
          obtain ⟨b', off', rfl, hb', hc'⟩ := pairs_cells P2.out (by omega)
          have c1 : w1.cell? ⟨b, off + k * 2, none⟩ = some (.string (strOf (q[k]'hk1).1)) := (hc k hk1).1
          have c2 : w1.cell? ⟨b', off' + k * 2, none⟩ = some (.string (strOf (q'[k]'hk2).1)) := (hc' k hk2).1
          have c3 : w1.cell? ⟨b, off + k * 2 + 1, none⟩ = some (.string (strOf (q[k]'hk1).2)) := (hc k hk1).2
          have c4 : w1.cell? ⟨b', off' + k * 2 + 1, none⟩ = some (.string (strOf (q'[k]'hk2).2)) := (hc' k hk2).2
          have hti : q.take (k + 1) = q.take k ++ [q[k]'hk1] := by rw [List.take_add_one, List.getElem?_eq_getElem hk1]; rfl
          have hti' : q'.take (k + 1) = q'.take k ++ [q'[k]'hk2] := by rw [List.take_add_one, List.getElem?_eq_getElem hk2]; rfl
          obtain ⟨⟨s1, r1⟩, hx1⟩ : ∃ x, q[k]'hk1 = x := ⟨_, rfl⟩
          obtain ⟨⟨s2, r2⟩, hx2⟩ : ∃ x, q'[k]'hk2 = x := ⟨_, rfl⟩
          rw [hx1] at hti c1 c3
          rw [hx2] at hti' c2 c4
          simp only at c1 c2 c3 c4
          have HX1 := Lib.hid hx1
          have HX2 := Lib.hid hx2
          have HT1 := Lib.hid hti
          have HT2 := Lib.hid hti'
          have HTT := Lib.hid ht
          clear hx1 hx2 hti hti' ht hc hc'
          by_cases hx : (s1, r1) = (s2, r2)
          · have hq := neq_pair (o := true) (decide_eq_true hx)
            have HT := Lib.hid (show q.take (k + 1) = q'.take (k + 1) from by rw [HT1.out, HT2.out, HTT.out, hx])
            clear hx
            go_wp2_with fail
            go_quiet (fail)
            go_wp2_with fail
            go_roundw
            case rel => exact ⟨k + 1, z + nq, by omega, rfl, HT.out, rfl⟩
            case measure => show m - ((k : Int) + 1).toNat < m - ((k : Int)).toNat; omega
          · have hq := neq_pair (o := false) (decide_eq_false hx)
            have HN := Lib.hid (show ¬ (l = l' ∧ q = q') from fun e => by obtain ⟨_, e⟩ := e; subst e; exact hx (HX1.out.symm.trans HX2.out))
            clear hx
            go_wp2_with fail
            go_quiet (fail)
            go_wp2_with fail
            go_ret
            exact ⟨by rw [decide_eq_false HN.out]; rfl, below_drewN (below_drewN B1.out _) _⟩
        · obtain rfl : k = m := by omega
          have HE := Lib.hid (show q = q' from by rw [List.take_of_length_le (by have := E1.out; omega), List.take_of_length_le (by have := E2.out; omega)] at ht; exact ht)
          clear ht
          go_wp2_with fail
          go_ret
          exact ⟨by rw [decide_eq_true ⟨of_decide_eq_true HO.out, HE.out⟩]; rfl, below_drewN B1.out _⟩
    · have hmm := bne_yes (a := (m : Int)) (b := (m' : Int)) (by omega)
      have HN := Lib.hid (show ¬ (l = l' ∧ q = q') from fun e => by obtain ⟨_, e⟩ := e; subst e; exact hm (E1.out.trans E2.out.symm))
      clear hm
      go_wp2_with fail
      go_ret
      exact ⟨by rw [decide_eq_false HN.out]; rfl, B1.out⟩
end Go.Proofs.YtefhifmilmedhaaDoor
