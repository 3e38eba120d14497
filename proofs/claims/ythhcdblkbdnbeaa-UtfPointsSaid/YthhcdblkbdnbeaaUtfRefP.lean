/- The walks of the reference's Points and Rest. -/
import Derived.Test.YthhcdblkbdnbeaaUtfRefG
import Derived.Test.YthhcdblkbdnbeaaUtfLaw2
import Derived.Test.YthhcdblkbdnbeaaUtfDecode
namespace Go.Proofs.Ythhcdblkbdnbeaa
open Go.RowKit

theorem info_intP : (Try.prog.info? 3).map (fun i => (i.zero, i.size, i.bytes)) = some (some (.int .i64 0), 1, 8) := by kernel_rfl

theorem str_nonempty {t : ByteArray} (h : ¬ t.size = 0) : t.toList.isEmpty = false := by
  rw [ByteArray.toList_eq]
  rcases hl : t.data.toList with _ | ⟨x, r⟩
  · have := str_len t; rw [hl] at this; simp at this; omega
  · rfl

/-- append of one value, the new block's number spelt as the walk spells it. -/
theorem wpList_append_one_at {P : Program} {ops : Array Oper} {rest : List Oper} {o : Oper} {a : Act} {Q : Exit → Act → World → Prop} (hgd : o.guard = none) (s x : Operand) (t : TypeId)
    (ho : o.op = .call { callee := .builtin .append, args := #[s, x], argTypes := #[t, t] })
    (base : Nat) (e : TypeId) (z : Value) (bytes : Nat) (ht : P.underlying t = some (.slice e)) (hinfo : (P.info? e).map (fun i => (i.zero, i.size, i.bytes)) = some (some z, 1, bytes)) (hzs : z.cells.size = 1)
    (v : Value) (n : Nat) (xs : List Value) (hs : a.eval s = v) (w0 : World) (g : Nat) (hg0 : w0.heap.size = g) (u : Value) (hx : a.eval x = .slice (some ⟨g, 0, none⟩) 1 1) (hown : w0.ownsRow base e 1 v n xs) (h1 : u.oneCell' = true)
    (hbase : base ≤ g) (hbytes : (n + 1) * bytes ≤ 140737488355328) (h63 : n + 1 ≤ maxLen)
    (h : ∀ v' w', w'.ownsRow base e 1 v' (n + 1) (xs ++ [u]) → Below base w0 w' → (w0.alloc (.cells #[u] e)).grownBy w' v.ownBlock → wpList P ops Q rest (a.put o.dst v') w') :
    wpList P ops Q (o :: rest) a (w0.alloc (.cells #[u] e)) := by
  subst hg0
  exact wpList_append_one hgd s x t ho base e z bytes ht hinfo hzs v n xs hs w0 u hx hown h1 hbase hbytes h63 h
theorem cell_kept {w2 w1 : World} {X cs : Array Value} {tx e : TypeId} {v : Value} (hg : ((w2.alloc (.cells X tx)).alloc (.cells cs e)).grownBy w1 v.ownBlock) (hlt : ∀ k, v.ownBlock = some k → k < w2.heap.size)
    (j : Nat) (u : Value) (hu : X[j]? = some u) : w1.cell? ⟨w2.heap.size, j, none⟩ = some u := by
  rw [World.cell?_of_block (w := (w2.alloc (.cells X tx)).alloc (.cells cs e)) (hg.block w2.heap.size (by simp; omega) (fun e => by have := hlt _ e.symm; omega)), World.cell?_alloc_past _ _ _ (by simp), World.cell?_alloc_at _ _ _ _ rfl]
  exact hu
theorem own_below {w w' : World} {base : Nat} {e : TypeId} {size : Nat} {v : Value} {n : Nat} {xs : List Value} (h : w.ownsRow base e size v n xs) (hb : Below w.heap.size w w') : w'.ownsRow base e size v n xs :=
  h.kept (row := none) ⟨hb.os, hb.tape, hb.output, hb.size, fun k hk _ => hb.block k hk⟩ (by rcases h.2 with ⟨rfl, _⟩ | ⟨g, cap, cur, rfl, _⟩ <;> simp [Value.ownBlock])
theorem rdecode_as {s : ByteArray} {final : Bool} {l : List UInt8} {p k : Int} {more : Bool} (w : World) (hm : s.size ≤ maxLen) (hl : Hid (s.data.toList = l)) (hd : Hid (dec l final = (p, k, more))) :
    Calls Try.prog 10 #[.string s, .bool final] w fun e w' => e = .returned (.agg #[.int .i64 p, .int .i64 k, .bool more]) ∧ Below w.heap.size w w' := by
  refine (rdecode_any s final w hm).mono ?_
  rintro e w' ⟨he, hb⟩
  rw [hl.out, ← rDecV_of (show rDec l final = (p, k, more) from by rw [← dec_eq]; exact hd.out)] at he
  exact ⟨he, hb⟩

set_option maxRecDepth 100000 in
set_option maxHeartbeats 1000000 in
theorem rrest_any (s : ByteArray) (w : World) (hm : s.size ≤ 1048576) :
    Calls Try.prog 16 #[.string s] w fun e w' => e = .returned (.int .i64 (restOf s.data.toList)) ∧ Below w.heap.size w w' := by
  go_enter Try.func16, Try.ntmps16
  go_wp2_with fail
  go_loopw [0] (fun v wr => ∃ (t : ByteArray), v = .string t ∧ t.size ≤ s.size ∧ Hid (restOf t.data.toList = restOf s.data.toList) ∧ Below w.heap.size w wr) (fun v _ => lenOf v)
  case atStart => exact ⟨s, rfl, Nat.le_refl _, rfl, Below.refl _ _⟩
  case round =>
    obtain ⟨t, rfl, ht, HR, hb⟩ := hrel
    have HB := Lib.hid hb
    clear hb
    by_cases h0 : t.size = 0
    · have hs : t.data.toList = [] := List.eq_nil_of_length_eq_zero (by rw [str_len]; exact h0)
      have hs1 : t.toList = [] := by rw [ByteArray.toList_eq]; exact hs
      have HZ := Lib.hid (show restOf s.data.toList = 0 from by rw [← HR.out, hs, restOf_nil])
      clear hs
      go_wp2_with fail
      go_ret
      exact ⟨ret_int (by rw [HZ.out]; rfl), HB.out⟩
    · have hs1 : t.toList.isEmpty = false := str_nonempty h0
      obtain ⟨p, k, more, hd⟩ := dec_ex t.data.toList false
      have HD := Lib.hid hd
      clear hd
      have hl0 : 0 < t.data.toList.length := by rw [str_len]; omega
      rcases dec_step hl0 HD.out with ⟨rfl, _, rfl, _⟩ | ⟨rfl, hk1, hk2, _, _⟩
      · have HZ := Lib.hid (show restOf s.data.toList = t.size from by rw [← HR.out, restOf_more hl0 HD.out, str_len])
        go_wp2_with fail
        refine (rdecode_as _ (by unfold maxLen; omega) rfl HD).mono ?_
        rintro e w2 ⟨rfl, hb2⟩
        have HB2 := Lib.hid (HB.out.trans (hb2.mono HB.out.size))
        clear hb2
        go_wp2_with fail
        go_ret
        exact ⟨ret_int (by rw [HZ.out]), HB2.out.alloc HB2.out.size _⟩
      · have hk3 : k ≤ (t.size : Int) := by rw [← str_len]; exact hk2
        have hk4 : 0 ≤ k := by omega
        have HZ := Lib.hid (show restOf (t.extract k.toNat t.size).data.toList = restOf s.data.toList from by
          rw [Lib.extract_data, ← HR.out, restOf_step hl0 HD.out, List.take_of_length_le (by rw [List.length_drop, str_len]; omega)])
        have HX := Lib.hid (show (t.extract k.toNat t.size).size = t.size - k.toNat from by rw [ByteArray.size_extract, Nat.min_self])
        clear hk2 hl0
        go_wp2_with fail
        refine (rdecode_as _ (by unfold maxLen; omega) rfl HD).mono ?_
        rintro e w2 ⟨rfl, hb2⟩
        have HB2 := Lib.hid (HB.out.trans (hb2.mono HB.out.size))
        clear hb2
        go_wp2_with fail
        go_roundw
        case rel => exact ⟨_, rfl, by rw [HX.out]; omega, HZ.out, HB2.out.alloc HB2.out.size _⟩
        case measure => simp only [lenOf]; rw [HX.out]; omega

set_option maxRecDepth 100000 in
set_option maxHeartbeats 1000000 in
theorem rpoints_any (s : ByteArray) (w : World) (hm : s.size ≤ 1048576) :
    Calls Try.prog 14 #[.string s] w fun e w' => ∃ v, e = .returned v ∧ w'.ownsRow w.heap.size 3 1 v (pointsOf s.data.toList).length (intsV (pointsOf s.data.toList)) ∧ Below w.heap.size w w' := by
  go_enter Try.func14, Try.ntmps14
  go_wp2_with fail
  go_loopw [0, 3] (fun v out wr => ∃ (t : ByteArray) (d : List Int), v = .string t ∧ t.size + d.length ≤ s.size ∧ Hid (d ++ pointsOf t.data.toList = pointsOf s.data.toList) ∧ wr.ownsRow w.heap.size 3 1 out d.length (intsV d) ∧ Below w.heap.size w wr) (fun v _ _ => lenOf v)
  case atStart => exact ⟨s, [], rfl, by simp, rfl, own_empty _ _ _, (Below.refl _ _).alloc (Nat.le_refl _) _⟩
  case round =>
    obtain ⟨t, d, rfl, ht, HR, hown, hb⟩ := hrel
    have HB := Lib.hid hb
    clear hb
    by_cases h0 : t.size = 0
    · have hs : t.data.toList = [] := List.eq_nil_of_length_eq_zero (by rw [str_len]; exact h0)
      have hs1 : t.toList = [] := by rw [ByteArray.toList_eq]; exact hs
      have HZ := Lib.hid (show d = pointsOf s.data.toList from by rw [← HR.out, hs, pointsOf_nil, List.append_nil])
      clear hs
      go_wp2_with fail
      go_ret
      exact ⟨_, rfl, by rw [← HZ.out]; exact hown, HB.out⟩
    · have hs1 : t.toList.isEmpty = false := str_nonempty h0
      obtain ⟨p, k, more, hd⟩ := dec_ex t.data.toList true
      have HD := Lib.hid hd
      clear hd
      have hl0 : 0 < t.data.toList.length := by rw [str_len]; omega
      rcases dec_step hl0 HD.out with ⟨_, h2, _⟩ | ⟨rfl, hk1, hk2, _, _⟩
      · cases h2
      · have hk3 : k ≤ (t.size : Int) := by rw [← str_len]; exact hk2
        have hk4 : 0 ≤ k := by omega
        have HZ := Lib.hid (show (d ++ [p]) ++ pointsOf (t.extract k.toNat t.size).data.toList = pointsOf s.data.toList from by
          rw [Lib.extract_data, ← HR.out, pointsOf_step hl0 HD.out, List.take_of_length_le (by rw [List.length_drop, str_len]; omega), List.append_assoc]; rfl)
        have HX := Lib.hid (show (t.extract k.toNat t.size).size = t.size - k.toNat from by rw [ByteArray.size_extract, Nat.min_self])
        clear hk2 hl0
        go_wp2_with fail
        refine (rdecode_as _ (by unfold maxLen; omega) rfl HD).mono ?_
        rintro e w2 ⟨rfl, hb2⟩
        have HB2 := Lib.hid (HB.out.trans (hb2.mono HB.out.size))
        have hz2 := HB2.out.size
        have hown2 := own_below hown hb2
        have hown3 := hown2.alloc (.cells #[.int .i64 p, .int .i64 k, .bool false] 27)
        have hz3 := hb2.size
        have HLT := Lib.hid hown.lt
        clear hb2 hown hown2
        go_wp2_with (at_builtin; refine wpList_append_one_at rfl (.tmp 10) (.tmp 13) _ rfl w.heap.size 3 _ 8 Try.underlying37 info_intP rfl _ _ _ rfl (w2.alloc (.cells #[.int .i64 p, .int .i64 k, .bool false] 27)) (w2.heap.size + 1) (World.size_alloc _ _) (.int .i64 p) rfl hown3 rfl (by omega) (by omega) (by unfold maxLen; omega) ?_; intro v1 w1 hown1 hb1 hg1; have hc1 : w1.cell? ⟨w2.heap.size, 1, none⟩ = some (.int .i64 k) := cell_kept hg1 (fun k hk => by have := HLT.out k hk; omega) 1 _ rfl)
        go_roundw
        case rel => exact ⟨_, d ++ [p], rfl, by rw [HX.out, List.length_append, List.length_singleton]; omega, HZ.out, by simpa [intsV] using hown1, (HB2.out.alloc hz2 _).trans hb1⟩
        case measure => simp only [lenOf]; rw [HX.out]; omega
end Go.Proofs.Ythhcdblkbdnbeaa
