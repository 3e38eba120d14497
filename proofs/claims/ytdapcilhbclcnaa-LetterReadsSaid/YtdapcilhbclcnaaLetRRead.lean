/- The walk of letter's reference: Read. -/
import Derived.Test.YtdapcilhbclcnaaLetRByte
import Derived.Test.YtdapcilhbclcnaaLetRead
import Derived.Test.YtdapcilhbclcnaaUtfRefG
namespace Go.Proofs.Ytdapcilhbclcnaa
open Go.RowKit
set_option linter.unusedVariables false

/-- append of one value, the new block's number spelt as the walk spells it. -/
theorem lwp_append_one {P : Program} {ops : Array Oper} {rest : List Oper} {o : Oper} {a : Act} {Q : Exit → Act → World → Prop} (hgd : o.guard = none) (s x : Operand) (t : TypeId)
    (ho : o.op = .call { callee := .builtin .append, args := #[s, x], argTypes := #[t, t] })
    (base : Nat) (e : TypeId) (z : Value) (bytes : Nat) (ht : P.underlying t = some (.slice e)) (hinfo : (P.info? e).map (fun i => (i.zero, i.size, i.bytes)) = some (some z, 1, bytes)) (hzs : z.cells.size = 1)
    (v : Value) (n : Nat) (xs : List Value) (hs : a.eval s = v) (w0 : World) (g : Nat) (hg0 : w0.heap.size = g) (u : Value) (hx : a.eval x = .slice (some ⟨g, 0, none⟩) 1 1) (hown : w0.ownsRow base e 1 v n xs) (h1 : u.oneCell' = true)
    (hbase : base ≤ g) (hbytes : (n + 1) * bytes ≤ 140737488355328) (h63 : n + 1 ≤ maxLen)
    (h : ∀ v' w', w'.ownsRow base e 1 v' (n + 1) (xs ++ [u]) → Below base w0 w' → (w0.alloc (.cells #[u] e)).grownBy w' v.ownBlock → wpList P ops Q rest (a.put o.dst v') w') :
    wpList P ops Q (o :: rest) a (w0.alloc (.cells #[u] e)) := by
  subst hg0
  exact wpList_append_one hgd s x t ho base e z bytes ht hinfo hzs v n xs hs w0 u hx hown h1 hbase hbytes h63 h
theorem lcell_kept {w2 w1 : World} {X cs : Array Value} {tx e : TypeId} {v : Value} (hg : ((w2.alloc (.cells X tx)).alloc (.cells cs e)).grownBy w1 v.ownBlock) (hlt : ∀ k, v.ownBlock = some k → k < w2.heap.size)
    (j : Nat) (u : Value) (hu : X[j]? = some u) : w1.cell? ⟨w2.heap.size, j, none⟩ = some u := by
  rw [World.cell?_of_block (w := (w2.alloc (.cells X tx)).alloc (.cells cs e)) (hg.block w2.heap.size (by simp; omega) (fun e => by have := hlt _ e.symm; omega)), World.cell?_alloc_past _ _ _ (by simp), World.cell?_alloc_at _ _ _ _ rfl]
  exact hu
theorem lrdecode_as {s : ByteArray} {final : Bool} {l : List UInt8} {p k : Int} {more : Bool} (w : World) (hm : s.size ≤ maxLen) (hl : Hid (s.data.toList = l)) (hd : Hid (dec l final = (p, k, more))) :
    Calls Try.prog 38 #[.string s, .bool final] w fun e w' => e = .returned (.agg #[.int .i64 p, .int .i64 k, .bool more]) ∧ Below w.heap.size w w' := by
  refine (rdecode_any s final w hm).mono ?_
  rintro e w' ⟨he, hb⟩
  rw [hl.out, ← rDecV_of (show rDec l final = (p, k, more) from by rw [← dec_eq]; exact hd.out)] at he
  exact ⟨he, hb⟩
theorem ltrip {a b : List UInt8} {m n : Nat} {o p : Bool} (h : (a, m, o) = (b, n, p)) : b = a ∧ n = m ∧ p = o := by simp at h; simp [h]

set_option maxHeartbeats 1000000 in
set_option maxRecDepth 100000 in
theorem lrread_any {b : List UInt8} {n : Nat} {ok : Bool} (s : ByteArray) (w : World) (hm : s.size ≤ 100000) (hres : rdAt s.data.toList 0 = (b, n, ok)) :
    Calls Try.prog 26 #[.string s] w fun e w' => e = .returned (.tuple #[.string (strOf b), .int .i64 (n : Int), .bool ok]) ∧ Below w.heap.size w w' := by
  have HRES := Lib.hid hres
  clear hres
  go_enter Try.func26, Try.ntmps26
  go_wp2_with fail
  go_loopw [5, 6] (fun v i wr => ∃ (a : Nat) (d : List UInt8), i = .int .i64 a ∧ a ≤ s.size ∧ d.length ≤ a ∧ Hid (glue d (rdAt (s.data.toList.drop a) a) = rdAt s.data.toList 0) ∧ wr.ownsRow w.heap.size 5 1 v d.length (bytesV d) ∧ Below w.heap.size w wr) (fun _ i _ => s.size - (intOf i).toNat)
  case atStart => exact ⟨0, [], rfl, Nat.zero_le _, by simp, by show glue _ _ = _; rw [List.drop_zero, glue_nil], ⟨rfl, .inr ⟨w.heap.size, 0, #[], rfl, Nat.le_refl _, heap_alloc_new _ _, Nat.le_refl _, Nat.zero_le _, rfl, rfl⟩⟩, (Below.refl _ _).alloc (Nat.le_refl _) _⟩
  case round =>
    obtain ⟨a, d, rfl, ha, hd, HG, hown, hb⟩ := hrel
    have HB := Lib.hid hb
    have hsz := hb.size
    have HOWN := Lib.hid hown
    obtain ⟨A0, c0, rfl⟩ := own_form hown
    clear hb hown
    by_cases hax : a < s.size
    · have hax1 : (a : Int) < s.size := by omega
      have hl0 : 0 < (s.data.toList.drop a).length := by rw [List.length_drop, str_len]; omega
      obtain ⟨p, k, more, hdd⟩ := dec_ex (s.data.toList.drop a) true
      have HD := Lib.hid hdd
      clear hdd
      have HX := Lib.hid (show (s.extract a s.size).data.toList = s.data.toList.drop a from by rw [Lib.extract_data, List.take_of_length_le (by rw [List.length_drop, str_len]; omega)])
      have HZ := Lib.hid (show (s.extract a s.size).size ≤ maxLen from by rw [ByteArray.size_extract]; unfold maxLen; omega)
      rcases dec_step hl0 HD.out with ⟨_, h2, _⟩ | ⟨rfl, hk1, hk2, hk4, _⟩
      · cases h2
      rw [List.length_drop, str_len] at hk2
      have hk3 : k ≤ (s.size : Int) - a := by omega
      rcases Int.lt_or_le (lByte p) 0 with hp | hp
      · have HF := Lib.hid (show (([], a, false) : List UInt8 × Nat × Bool) = (b, n, ok) from by rw [← HRES.out, ← HG.out, rdAt_bad hl0 HD.out hp]; rfl)
        obtain ⟨q, hq⟩ : ∃ q, lByte p = q := ⟨_, rfl⟩
        have HP := Lib.hid hq
        rw [hq] at hp
        clear hq hk2
        go_wp2_with fail
        refine (lrdecode_as _ HZ.out HX HD).mono ?_
        rintro e w2 ⟨rfl, hb2⟩
        have HB2 := Lib.hid (HB.out.trans (hb2.mono hsz))
        have hz2 := HB2.out.size
        clear hb2
        go_wp2_with fail
        refine (lrbyte_as _ HP).mono ?_
        rintro e w3 ⟨rfl, rfl⟩
        go_wp2_with fail
        go_ret3
        obtain ⟨h1, h2, h3⟩ := ltrip HF.out
        subst h1 h2 h3
        exact ⟨rfl, HB2.out.alloc hz2 _⟩
      · obtain ⟨q, hq⟩ : ∃ q, lByte p = q := ⟨_, rfl⟩
        have HP := Lib.hid hq
        have hr := lByte_range p
        rw [hq] at hp hr
        have hq255 := hr.2
        have HF := Lib.hid (show glue (d ++ [byteOf q]) (rdAt (s.data.toList.drop (a + k.toNat)) (a + k.toNat)) = rdAt s.data.toList 0 from by
          rw [← HG.out, rdAt_good hl0 HD.out (by rw [hq]; exact hp), glue_glue, hq, List.drop_drop])
        have hk5 : 0 ≤ k := by omega
        clear hq hr hk2 hl0
        go_wp2_with fail
        refine (lrdecode_as _ HZ.out HX HD).mono ?_
        rintro e w2 ⟨rfl, hb2⟩
        have HB2 := Lib.hid (HB.out.trans (hb2.mono hsz))
        have hz2 := HB2.out.size
        have hz3 := hb2.size
        have hown3 := (lown_below HOWN.out hb2).alloc (.cells #[.int .i64 p, .int .i64 k, .bool false] 65)
        have HO3 := Lib.hid hown3
        have HLT := Lib.hid HOWN.out.lt
        clear hb2 hown3
        go_wp2_with fail
        refine (lrbyte_as _ HP).mono ?_
        rintro e w3 ⟨rfl, rfl⟩
        go_wp2_with (at_builtin; refine lwp_append_one rfl (.tmp 24) (.tmp 27) _ rfl w.heap.size 5 _ 1 Try.underlying22 linfoByte rfl _ _ _ rfl (w2.alloc (.cells #[.int .i64 p, .int .i64 k, .bool false] 65)) (w2.heap.size + 1) (World.size_alloc _ _) _ rfl HO3.out rfl (by omega) (by omega) (by unfold maxLen; omega) ?_; intro v1 w1 hown1 hb1 hg1; have hc1 : w1.cell? ⟨w2.heap.size, 1, none⟩ = some (.int .i64 k) := lcell_kept hg1 (fun k hk => by have := HLT.out k hk; omega) 1 _ rfl; have HO1 := Lib.hid hown1; have HB1 := Lib.hid ((HB2.out.alloc hz2 _).trans hb1); clear hown1 hb1 hg1)
        go_roundw
        case rel => exact ⟨a + k.toNat, d ++ [byteOf q], congrArg (Value.int .i64) (by omega), by omega, by rw [List.length_append, List.length_singleton]; omega, HF.out, lown_put hp hq255 HO1.out, HB1.out⟩
        case measure => simp [intOf]; omega
    · obtain rfl : a = s.size := by omega
      have hax1 : ¬ (s.size : Int) < s.size := by omega
      have HF := Lib.hid (show ((d, 0, true) : List UInt8 × Nat × Bool) = (b, n, ok) from by rw [← HRES.out, ← HG.out, List.drop_of_length_le (by rw [str_len]; exact Nat.le_refl _), rdAt_nil]; simp [glue])
      have hcv := run_string_bytes 22 9 5 Try.underlying22 Try.underlying5 Try.underlying9 (show BytesAt wr wr.heap.size A0 d.length c0 d from RowAt.of_own HOWN.out)
      go_wp2_with fail
      go_ret3
      obtain ⟨h1, h2, h3⟩ := ltrip HF.out
      subst h1 h2 h3
      exact ⟨rfl, HB.out⟩
end Go.Proofs.Ytdapcilhbclcnaa
