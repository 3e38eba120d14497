/- The walks of the document's bad and two. -/
import Derived.Test.YtefhifmilmedhaaMergeRead
import Derived.Test.YtefhifmilmedhaaLetRRead
import Derived.Test.YtefhifmilmedhaaLineRAs
import Derived.BigQuiet
namespace Go.Proofs.Ytefhifmilmedhaa
open Go.RowKit

set_option maxRecDepth 100000 in
theorem bad_any (i e : Int) (w : World) : Calls Try.prog 20 #[.int .i64 i, .int .i64 e] w fun x w' =>
    x = .returned (.agg #[.slice none 0 0, .slice none 0 0, .int .i64 i, .int .i64 e]) ∧ Below w.heap.size w w' := by
  go_enter Try.func20, Try.ntmps20
  go_wp2_with fail
  refine bodyPost_ret (v := .agg #[.slice none 0 0, .slice none 0 0, .int .i64 i, .int .i64 e]) (by simp [results, Try.f20, go_sem]) rfl ?_
  exact ⟨rfl, (Below.refl _ _).alloc (Nat.le_refl _) _⟩

/-- The document's reading of a row's line. -/
theorem rowM_ref {s a b t : List UInt8} {m : Nat} {ok : Bool} {nb : Int} (hw : wordsL s = some [a, b]) (hd : rdAt a 0 = (t, m, ok)) (hnb : refN b = nb) :
    (ok = false ∨ nb < 0 → (rowM s).2.2 = 2) ∧ (¬ (ok = false ∨ nb < 0) → 64 < t.length → (rowM s).2.2 = 7) ∧ (¬ (ok = false ∨ nb < 0) → ¬ 64 < t.length → rowM s = (t, nb.toNat, 0)) := by
  rw [rowM_two hw]
  unfold wrR
  rw [hd]
  subst hnb
  cases hq : numL b with
  | none => rw [refN_none hq]; refine ⟨fun _ => rfl, fun h => absurd (.inr (by decide)) h, fun h => absurd (.inr (by decide)) h⟩
  | some q =>
    rw [refN_some hq]
    have h0 : ¬ ((q : Int) < 0) := by omega
    cases ok with
    | false => exact ⟨fun _ => by simp, fun h => absurd (.inl rfl) h, fun h => absurd (.inl rfl) h⟩
    | true =>
      refine ⟨fun h => absurd h (by simp [h0]), fun _ h => by simp [h], fun _ h => by simp [h]⟩
theorem pairM_ref {s a b t u : List UInt8} {m n : Nat} {oa ob : Bool} (hw : wordsL s = some [a, b]) (hd : rdAt a 0 = (t, m, oa)) (he : rdAt b 0 = (u, n, ob)) :
    pairM s = if (oa && ob) = false then ([], [], 2) else if 64 < t.length ∨ 64 < u.length then ([], [], 7) else (t, u, 0) := by
  rw [pairM_two hw]
  unfold wrR
  rw [hd, he]
  cases oa <;> cases ob <;> simp
  by_cases h : 64 < t.length <;> by_cases h' : 64 < u.length <;> simp [h, h']

theorem lrread_as {s : ByteArray} {b : List UInt8} {n : Nat} {ok : Bool} (w : World) (hm : s.size ≤ 100000) (hres : rdAt s.data.toList 0 = (b, n, ok)) :
    Calls Try.prog 30 #[.string s] w fun e w' => e = .returned (.tuple #[.string (strOf b), .int .i64 (n : Int), .bool ok]) ∧ Below w.heap.size w w' := lrread_any s w hm hres

set_option maxRecDepth 100000 in
set_option maxHeartbeats 1000000 in
theorem two_bad (s : List UInt8) (hm : s.length ≤ 99999) (both : Bool) (w : World) (h : ∀ a b, wordsL s ≠ some [a, b]) : Calls Try.prog 21 #[.string (strOf s), .bool both] w fun e w' =>
    e = .returned (.tuple #[.string ⟨#[]⟩, .string ⟨#[]⟩, .bool false]) ∧ Below w.heap.size w w' := by
  obtain ⟨ws, hws⟩ : ∃ ws, (wordsL s).getD [] = ws := ⟨_, rfl⟩
  obtain ⟨n, hn⟩ : ∃ n, ws.length = n := ⟨_, rfl⟩
  have hn2 : n ≠ 2 := by
    rintro rfl
    obtain ⟨a, b, _, hw⟩ := words_two hws hn rfl
    exact h a b hw
  have HWS := Lib.hid (show (wordsL (strOf s).data.toList).getD [] = ws from hws)
  have HN := Lib.hid hn
  have HM := Lib.hid (show (strOf s).size ≤ 1099511627776 from by rw [strOf_size]; omega)
  have hbn := bne_yes (a := (n : Int)) (b := 2) (by omega)
  clear hws hn h hn2
  go_enter Try.func21, Try.ntmps21
  go_wp2_with fail
  refine (rwords_as HM.out _ HWS.out HN.out).mono ?_
  rintro e w1 ⟨AW, cW, rfl, h1, hb1⟩
  go_wp2_with fail
  go_ret3
  exact ⟨rfl, hb1⟩

set_option maxRecDepth 100000 in
set_option maxHeartbeats 1000000 in
theorem two_one {s a b t : List UInt8} {m : Nat} {ok : Bool} (hm : s.length ≤ 99999) (w : World) (hw : wordsL s = some [a, b]) (hd : rdAt a 0 = (t, m, ok)) : Calls Try.prog 21 #[.string (strOf s), .bool false] w fun e w' =>
    e = .returned (.tuple #[.string (strOf t), .string (strOf b), .bool ok]) ∧ Below w.heap.size w w' := by
  have HWS := Lib.hid (show (wordsL (strOf s).data.toList).getD [] = [a, b] from by rw [strOf_list, hw]; rfl)
  have HM := Lib.hid (show (strOf s).size ≤ 1099511627776 from by rw [strOf_size]; omega)
  have hla := word_le hw a (by simp)
  have HA := Lib.hid (show (strOf a).size ≤ 100000 from by rw [strOf_size]; omega)
  have HD := Lib.hid (show rdAt (strOf a).data.toList 0 = (t, m, ok) from hd)
  clear hw hd
  go_enter Try.func21, Try.ntmps21
  go_wp2_with fail
  refine (rwords_as (n := 2) HM.out _ HWS.out rfl).mono ?_
  rintro e w1 ⟨AW, cW, rfl, h1, hb1⟩
  obtain ⟨gw, ow, rfl, hgw', hcw⟩ := h1.cells (by decide)
  have hcap := h1.2.1
  have e0 : w1.cell? ⟨gw, ow, none⟩ = some (.string (strOf a)) := hcw 0 (Nat.succ_pos _)
  have E1 := Lib.hid (hcw 1 (Nat.lt_succ_self _))
  have B1 := Lib.hid hb1
  clear hcw h1 hb1
  go_wp2_with fail
  refine (lrread_as _ HA.out HD.out).mono ?_
  rintro e w2 ⟨rfl, hb2⟩
  have B2 := Lib.hid (B1.out.trans (hb2.mono B1.out.size))
  have e1 : w2.cell? ⟨gw, ow + 1, none⟩ = some (.string (strOf b)) := (hb2.cell (p := ⟨gw, ow + 1, none⟩) hgw').trans E1.out
  clear hb2 e0
  go_wp2_with fail
  go_quiet (fail)
  go_wp2_with fail
  go_ret3
  exact ⟨rfl, below_drewN B2.out _⟩

set_option maxRecDepth 100000 in
set_option maxHeartbeats 1000000 in
theorem two_both {s a b t u : List UInt8} {m n : Nat} {oa ob : Bool} (hm : s.length ≤ 99999) (w : World) (hw : wordsL s = some [a, b]) (hd : rdAt a 0 = (t, m, oa)) (he : rdAt b 0 = (u, n, ob)) : Calls Try.prog 21 #[.string (strOf s), .bool true] w fun e w' =>
    e = .returned (.tuple #[.string (strOf t), .string (strOf u), .bool (oa && ob)]) ∧ Below w.heap.size w w' := by
  have HWS := Lib.hid (show (wordsL (strOf s).data.toList).getD [] = [a, b] from by rw [strOf_list, hw]; rfl)
  have HM := Lib.hid (show (strOf s).size ≤ 1099511627776 from by rw [strOf_size]; omega)
  have hla := word_le hw a (by simp)
  have hlb := word_le hw b (by simp)
  have HA := Lib.hid (show (strOf a).size ≤ 100000 from by rw [strOf_size]; omega)
  have HB := Lib.hid (show (strOf b).size ≤ 100000 from by rw [strOf_size]; omega)
  have HD := Lib.hid (show rdAt (strOf a).data.toList 0 = (t, m, oa) from hd)
  have HE := Lib.hid (show rdAt (strOf b).data.toList 0 = (u, n, ob) from he)
  clear hw hd he
  go_enter Try.func21, Try.ntmps21
  go_wp2_with fail
  refine (rwords_as (n := 2) HM.out _ HWS.out rfl).mono ?_
  rintro e w1 ⟨AW, cW, rfl, h1, hb1⟩
  obtain ⟨gw, ow, rfl, hgw', hcw⟩ := h1.cells (by decide)
  have hcap := h1.2.1
  have e0 : w1.cell? ⟨gw, ow, none⟩ = some (.string (strOf a)) := hcw 0 (Nat.succ_pos _)
  have E1 := Lib.hid (hcw 1 (Nat.lt_succ_self _))
  have B1 := Lib.hid hb1
  clear hcw h1 hb1
  go_wp2_with fail
  refine (lrread_as _ HA.out HD.out).mono ?_
  rintro e w2 ⟨rfl, hb2⟩
  have B2 := Lib.hid (B1.out.trans (hb2.mono B1.out.size))
  have e1 : w2.cell? ⟨gw, ow + 1, none⟩ = some (.string (strOf b)) := (hb2.cell (p := ⟨gw, ow + 1, none⟩) hgw').trans E1.out
  clear hb2 e0
  go_wp2_with fail
  refine (lrread_as _ HB.out HE.out).mono ?_
  rintro e w3 ⟨rfl, hb3⟩
  have B3 := Lib.hid (B2.out.trans (hb3.mono B2.out.size))
  clear hb3 e1
  cases oa with
  | false =>
    go_wp2_with fail
    go_ret3
    exact ⟨rfl, B3.out⟩
  | true =>
    go_wp2_with fail
    go_ret3
    exact ⟨by simp, B3.out⟩
end Go.Proofs.Ytefhifmilmedhaa
