/- The walks of the document's Ends, Held. -/
import Derived.Test.YtohfkpoblebfaaaAhoRef
import Derived.Test.YtohfkpoblebfaaaAhoRefLaw
import Derived.Lib.MinMax
namespace Go.Proofs.Ytohfkpoblebfaaa
open Go.RowKit
set_option linter.unusedVariables false

theorem begins_q {A A' : Option Addr} {n n' c c' B B' : Nat} {p u : Wd} {o : Bool} (w : World) (j : Nat) (h : IntsAt w B A n c p) (h' : IntsAt w B' A' n' c' u) (ho : decide (u <+: p) = o) :
    Calls Try.prog 41 #[.slice A n c, .slice A' n' c'] (w.drewN j) fun e w' => e = .returned (.bool o) ∧ ∃ k, w' = (w.drewN j).drewN k :=
  begins_any (w.drewN j) (RowAt.drewN h j) (RowAt.drewN h' j) ho
theorem quiet_off {P : Program} {f : FuncId} {args : Array Value} {w : World} {q n : Nat} {v : Value}
    (h : Calls P f args (w.drewN (q + n)) fun e w' => e = .returned v ∧ ∃ m, w' = (w.drewN (q + n)).drewN m) : Calls P f args (w.drewN (q + n)) fun e w'' => e = .returned v ∧ ∃ m, w'' = w.drewN (q + m) :=
  h.mono fun _ _ ⟨he, m, hm⟩ => ⟨he, n + m, by rw [hm, World.drewN_drewN, Nat.add_assoc]⟩
/-- The end of a row. -/
theorem IntsAt.end_ {w : World} {B b off n m k c : Nat} {u : Wd} (h : IntsAt w B (some ⟨b, off, none⟩) n c u) (hm : n = m + k) (hk : 0 < k) : IntsAt w B (some ⟨b, off + m, none⟩) k (c - m) (u.drop m) := by
  have h1 := RowAt.from_ h (k := m) (by omega)
  have hc := h.2.1
  rw [if_neg (by omega), Nat.mul_one] at h1
  have e : (Option.map (fun x : Addr => x.add m) (some ⟨b, off, none⟩)) = some ⟨b, off + m, none⟩ := by
    simp only [Option.map_some, Addr.add]
    split
    · rename_i hz; rw [hz]; rfl
    · rfl
  rw [e, show n - m = k by omega] at h1
  unfold IntsAt
  rw [show intsV (u.drop m) = (intsV u).drop m by unfold intsV; rw [List.map_drop]]
  exact h1
theorem endsGo_snoc (u p : Wd) : ∀ (l : List Wd) (k : Nat) (acc : Int × Nat), endsGo u (l ++ [p]) k acc = if (endsGo u l k acc).2 < p.length ∧ p <:+ u then (((k + l.length : Nat) : Int), p.length) else endsGo u l k acc
  | [], k, acc => by
    rw [List.nil_append, endsGo, endsGo, endsGo, List.length_nil, Nat.add_zero]
  | x :: l, k, acc => by
    rw [List.cons_append, endsGo, endsGo_snoc u p l, endsGo, List.length_cons, show k + 1 + l.length = k + (l.length + 1) by omega]
theorem take_wd {l : List Wd} {k : Nat} (h : k < l.length) : l.take (k + 1) = l.take k ++ [wd l k] := by
  rw [List.take_add_one, List.getElem?_eq_getElem h, wd_get h]; rfl
theorem ends_next {u : Wd} {l : List Wd} {k m : Nat} {a : Int} (h : k < l.length) (he : endsGo u (l.take k) 0 (-1, 0) = (a, m)) : endsGo u (l.take (k + 1)) 0 (-1, 0) = if m < (wd l k).length ∧ wd l k <:+ u then ((k : Int), (wd l k).length) else (a, m) := by
  rw [take_wd h, endsGo_snoc, he, List.length_take, Nat.min_eq_left (by omega), Nat.zero_add]
/-- An end of a row that a word begins with, of the same length: the word. -/
theorem end_is {u p : Wd} {m : Nat} (hm : u.length = m + p.length) : (u.drop m <+: p) ↔ p <:+ u := by
  have hl : (u.drop m).length = p.length := by rw [List.length_drop]; omega
  constructor
  · intro h
    have : u.drop m = p := h.eq_of_length hl
    rw [← this]; exact List.drop_suffix _ _
  · intro h
    have : p = u.drop m := suffix_eq h (List.drop_suffix _ _) hl.symm
    rw [← this]; exact List.prefix_refl _

set_option maxRecDepth 100000 in
set_option maxHeartbeats 2000000 in
theorem rends_any {A A' : Option Addr} {B B' n n' c c' : Nat} {l : List Wd} {v : Vs} {u : Wd} (w : World) (h : PatsAt w B A n c l v) (h' : IntsAt w B' A' n' c' u) :
    Calls Try.prog 21 #[.slice A n c, .slice A' n' c'] w fun e w' => e = .returned (.tuple #[.int .i64 (endsOf l u).1, .int .i64 ((endsOf l u).2 : Int)]) ∧ ∃ q, w' = w.drewN q := by
  have hcap := h.cap
  have hcap' := h'.2.2.1
  have hcn' := h'.2.1
  unfold maxLen at hcap hcap'
  obtain ⟨hc1, hc2⟩ := hcap
  have e1 := h.len
  have e2 := h'.len
  have HH := Lib.hid h
  have HU := Lib.hid h'
  have HL := Lib.hid e1
  have HLU := Lib.hid e2
  clear h h' e1 e2
  go_enter Try.func21, Try.ntmps21
  go_wp2_with fail
  go_loopw [6, 7, 12] (fun at_ lo i wr => ∃ (k q m : Nat) (a : Int), k ≤ n ∧ i = .int .i64 k ∧ at_ = .int .i64 a ∧ lo = .int .i64 (m : Int) ∧ Hid (endsGo u (l.take k) 0 (-1, 0) = (a, m)) ∧ wr = w.drewN q) (fun _ _ i _ => n - (intOf i).toNat)
  case atStart => exact ⟨0, 0, 0, -1, Nat.zero_le _, rfl, rfl, rfl, Lib.hid rfl, rfl⟩
  case round =>
    obtain ⟨k, q, m, a, hk, rfl, rfl, rfl, HE, rfl⟩ := hrel
    by_cases hlt : k < n
    · obtain ⟨b, off, rfl, hb, hc⟩ := HH.out.cells (by omega)
      have e0 := hc k hlt
      have HR := Lib.hid (HH.out.rows k hlt)
      obtain ⟨ln, hln⟩ : ∃ x, (wd l k).length = x := ⟨_, rfl⟩
      have hlc := HR.out.2.1
      have hlm := HR.out.2.2.1
      unfold maxLen at hlm
      rw [hln] at e0 HR hlc
      have HLN := Lib.hid hln
      have HN := Lib.hid (ends_next (u := u) (by have := HL.out; omega) HE.out)
      rw [hln] at HN
      clear hc hln
      by_cases hlo : m < ln
      · by_cases hfit : ln ≤ n'
        · obtain ⟨b', off', rfl, hb', hc'⟩ := HU.out.cells (by omega)
          clear hc'
          obtain ⟨mm, hmm⟩ : ∃ mm, n' = mm + ln := ⟨n' - ln, by omega⟩
          have HT := Lib.hid (HU.out.end_ hmm (by omega))
          have hwr : IntKind.i64.wrap ((n' : Int) - (ln : Int)) = (mm : Int) := by rw [IntKind.wrap_i64]; omega
          have h0 : (0 : Int) ≤ (mm : Int) := by omega
          have h1 : (mm : Int) ≤ (n' : Int) := by omega
          have hne : ¬ c' = mm := by omega
          have hsub : n' - mm = ln := by omega
          have d1 : decide ((m : Int) < (ln : Int)) = true := decide_eq_true (by omega)
          have d2 : decide ((ln : Int) ≤ (n' : Int)) = true := decide_eq_true (by omega)
          have HEND := Lib.hid (end_is (u := u) (p := wd l k) (m := mm) (by have := HLU.out; have := HLN.out; omega))
          clear hmm
          by_cases hend : wd l k <:+ u
          · have HO := Lib.hid (show decide (u.drop mm <+: wd l k) = true from decide_eq_true (HEND.out.2 hend))
            have HE' := Lib.hid (show endsGo u (l.take (k + 1)) 0 (-1, 0) = ((k : Int), ln) from by rw [HN.out, if_pos ⟨hlo, hend⟩])
            clear hend HN
            go_wp2_with fail
            go_quiet ((go_at_call 41; exact quiet_off (begins_q w _ HR.out HT.out HO.out)))
            go_wp2_with fail
            go_roundw
            case rel => exact ⟨k + 1, q + nq, ln, k, by omega, by go_num, rfl, rfl, HE', by first | rfl | rw [World.drewN_drewN]⟩
            case measure => simp [intOf]; omega
          · have HO := Lib.hid (show decide (u.drop mm <+: wd l k) = false from decide_eq_false (fun e => hend (HEND.out.1 e)))
            have HE' := Lib.hid (show endsGo u (l.take (k + 1)) 0 (-1, 0) = (a, m) from by rw [HN.out, if_neg (fun e => hend e.2)])
            clear hend HN
            go_wp2_with fail
            go_quiet ((go_at_call 41; exact quiet_off (begins_q w _ HR.out HT.out HO.out)))
            go_wp2_with fail
            go_roundw
            case rel => exact ⟨k + 1, q + nq, m, a, by omega, by go_num, rfl, rfl, HE', by first | rfl | rw [World.drewN_drewN]⟩
            case measure => simp [intOf]; omega
        · have d1 : decide ((m : Int) < (ln : Int)) = true := decide_eq_true (by omega)
          have d2 : decide ((ln : Int) ≤ (n' : Int)) = false := decide_eq_false (by omega)
          have HE' := Lib.hid (show endsGo u (l.take (k + 1)) 0 (-1, 0) = (a, m) from by rw [HN.out, if_neg (fun e => by have := e.2.length_le; have := HLU.out; have := HLN.out; omega)])
          clear HN
          go_wp2_with fail
          go_quiet (fail)
          go_wp2_with fail
          go_roundw
          case rel => exact ⟨k + 1, q + nq, m, a, by omega, by go_num, rfl, rfl, HE', by first | rfl | rw [World.drewN_drewN]⟩
          case measure => simp [intOf]; omega
      · have d1 : decide ((m : Int) < (ln : Int)) = false := decide_eq_false (by omega)
        have HE' := Lib.hid (show endsGo u (l.take (k + 1)) 0 (-1, 0) = (a, m) from by rw [HN.out, if_neg (fun e => hlo e.1)])
        clear HN
        go_wp2_with fail
        go_quiet (fail)
        go_wp2_with fail
        go_roundw
        case rel => exact ⟨k + 1, q + nq, m, a, by omega, by go_num, rfl, rfl, HE', by first | rfl | rw [World.drewN_drewN]⟩
        case measure => simp [intOf]; omega
    · obtain rfl : k = n := by omega
      rw [List.take_of_length_le (by have := HL.out; omega)] at HE
      go_wp2_with fail
      go_ret2
      have he : endsOf l u = (a, m) := HE.out
      rw [he]
      exact ⟨rfl, q, rfl⟩

theorem heldF_yes {l : List Wd} {u : Wd} {m i : Nat} (hi : i < l.length) (h : u.drop (u.length - (m + 1)) <+: wd l i) : heldF l u (m + 1) = m + 1 := by
  rw [heldF, if_pos (anyB_iff.2 ⟨_, wd_mem hi, h⟩)]
theorem heldF_no {l : List Wd} {u : Wd} {m : Nat} (h : ∀ i, i < l.length → ¬ u.drop (u.length - (m + 1)) <+: wd l i) : heldF l u (m + 1) = heldF l u m := by
  rw [heldF, if_neg]
  rw [anyB_iff]
  rintro ⟨p, hp, h2⟩
  obtain ⟨i, hi, rfl⟩ := mem_wd hp
  exact h i hi h2
set_option maxRecDepth 100000 in
set_option maxHeartbeats 2000000 in
theorem rheld_any {A A' : Option Addr} {B B' n n' c c' : Nat} {l : List Wd} {v : Vs} {u : Wd} (w : World) (h : PatsAt w B A n c l v) (h' : IntsAt w B' A' n' c' u) :
    Calls Try.prog 24 #[.slice A n c, .slice A' n' c'] w fun e w' => e = .returned (.int .i64 (heldL l u : Int)) ∧ ∃ q, w' = w.drewN q := by
  have hcap := h.cap
  have hcap' := h'.2.2.1
  have hcn' := h'.2.1
  unfold maxLen at hcap hcap'
  obtain ⟨hc1, hc2⟩ := hcap
  have e1 := h.len
  have e2 := h'.len
  obtain ⟨x0, hx0⟩ : ∃ x, min 64 n' = x := ⟨_, rfl⟩
  have hmin : min (64 : Int) (n' : Int) = (x0 : Int) := by rw [← hx0]; omega
  have hx1 : x0 ≤ n' := by omega
  have HX := Lib.hid (show heldF l u x0 = heldL l u from by unfold heldL; rw [← e2, hx0])
  have HH := Lib.hid h
  have HU := Lib.hid h'
  have HL := Lib.hid e1
  have HLU := Lib.hid e2
  clear h h' e1 e2 hx0
  go_enter Try.func24, Try.ntmps24
  go_wp2_with fail
  go_loopw [5] (fun i wr => ∃ (m q : Nat), m ≤ n' ∧ i = .int .i64 (m : Int) ∧ Hid (heldF l u m = heldL l u) ∧ wr = w.drewN q) (fun i _ => (intOf i).toNat)
  case atStart => exact ⟨x0, 0, hx1, rfl, HX, rfl⟩
  case round =>
    clear HX hmin hx1
    obtain ⟨m, q, hm, rfl, HE, rfl⟩ := hrel
    by_cases hpos : 0 < m
    · obtain ⟨m1, rfl⟩ : ∃ m1, m = m1 + 1 := ⟨m - 1, by omega⟩
      obtain ⟨m, hmx⟩ : ∃ m, m1 + 1 = m := ⟨_, rfl⟩
      rw [hmx] at hm hpos
      rw [hmx]
      have HMX := Lib.hid hmx
      clear hmx
      have hpos' : (0 : Int) < (m : Int) := by omega
      obtain ⟨b', off', rfl, hb', hc'⟩ := HU.out.cells (by omega)
      clear hc'
      obtain ⟨mm, hmm⟩ : ∃ mm, n' = mm + m := ⟨n' - m, by omega⟩
      have HT := Lib.hid (HU.out.end_ hmm (by omega))
      have HMM := Lib.hid (show u.length - (m1 + 1) = mm from by have := HLU.out; have := HMX.out; omega)
      have hwr : IntKind.i64.wrap ((n' : Int) - (m : Int)) = (mm : Int) := by rw [IntKind.wrap_i64]; omega
      have h0 : (0 : Int) ≤ (mm : Int) := by omega
      have h1 : (mm : Int) ≤ (n' : Int) := by omega
      have hne : ¬ c' = mm := by omega
      have hsub : n' - mm = m := by omega
      clear hmm
      obtain ⟨wo, hwo⟩ : ∃ wo : World, wo = w.drewN q := ⟨_, rfl⟩
      have HHo := Lib.hid (show PatsAt wo B A n c l v from by rw [hwo]; exact HH.out.keep fun _ _ => rfl)
      have HTo := Lib.hid (show IntsAt wo B' (some ⟨b', off' + mm, none⟩) m (c' - mm) (u.drop mm) from by rw [hwo]; exact RowAt.drewN HT.out q)
      rw [← hwo]
      have HWO := Lib.hid hwo
      clear HH HT hwo
      go_wp2_with fail
      go_loopw [16] (fun i wr => ∃ (k q : Nat), k ≤ n ∧ i = .int .i64 k ∧ Hid (∀ j, j < k → ¬ u.drop mm <+: wd l j) ∧ wr = wo.drewN q) (fun i _ => n - (intOf i).toNat)
      case atStart => exact ⟨0, 0, Nat.zero_le _, rfl, Lib.hid (fun j hj => absurd hj (by omega)), rfl⟩
      case round =>
        obtain ⟨k, q2, hk, rfl, HK, rfl⟩ := hrel
        by_cases hlt : k < n
        · obtain ⟨b, off, rfl, hb, hc⟩ := HHo.out.cells (by omega)
          have e0 := hc k hlt
          have HR := Lib.hid (HHo.out.rows k hlt)
          obtain ⟨ln, hln⟩ : ∃ x, (wd l k).length = x := ⟨_, rfl⟩
          have hlc := HR.out.2.1
          have hlm := HR.out.2.2.1
          unfold maxLen at hlm
          rw [hln] at e0 HR hlc
          clear hc hln
          by_cases hend : u.drop mm <+: wd l k
          · have HO := Lib.hid (show decide (u.drop mm <+: wd l k) = true from decide_eq_true hend)
            have HY := Lib.hid (show heldL l u = m from by rw [← HE.out, heldF_yes (i := k) (by have := HL.out; omega) (by rw [HMM.out]; exact hend), HMX.out])
            clear hend
            go_wp2_with fail
            go_quiet ((go_at_call 41; exact quiet_off (begins_q wo _ HR.out HTo.out HO.out)))
            go_wp2_with fail
            go_ret
            exact ⟨by rw [HY.out]; rfl, q + (q2 + nq), by rw [HWO.out]; simp [World.drewN_drewN, Nat.add_assoc]⟩
          · have HO := Lib.hid (show decide (u.drop mm <+: wd l k) = false from decide_eq_false hend)
            have HK' := Lib.hid (show ∀ j, j < k + 1 → ¬ u.drop mm <+: wd l j from fun j hj => by
              rcases Nat.lt_or_ge j k with h1 | h1
              · exact HK.out j h1
              · obtain rfl : j = k := by omega
                exact hend)
            clear hend
            go_wp2_with fail
            go_quiet ((go_at_call 41; exact quiet_off (begins_q wo _ HR.out HTo.out HO.out)))
            go_wp2_with fail
            go_roundw
            case rel => exact ⟨k + 1, q2 + nq, by omega, by go_num, HK', by first | rfl | rw [World.drewN_drewN]⟩
            case measure => simp [intOf]; omega
        · obtain rfl : k = n := by omega
          have HN := Lib.hid (show heldF l u m1 = heldL l u from by
            rw [← HE.out]
            exact (heldF_no (fun i hi => by rw [HMM.out]; exact HK.out i (by have := HL.out; omega))).symm)
          have hwm : IntKind.i64.wrap ((m : Int) - 1) = (m1 : Int) := by have := HMX.out; rw [IntKind.wrap_i64]; omega
          go_wp2_with fail
          go_roundw
          case rel => exact ⟨m1, q + q2, by have := HMX.out; omega, by go_num, HN, by rw [HWO.out]; simp [World.drewN_drewN]⟩
          case measure => simp [intOf]; have := HMX.out; omega
    · obtain rfl : m = 0 := by omega
      have HZ := Lib.hid (show heldL l u = 0 from by rw [← HE.out]; rfl)
      go_wp2_with fail
      go_ret
      exact ⟨by rw [HZ.out]; rfl, q, rfl⟩
end Go.Proofs.Ytohfkpoblebfaaa
