/- The walk of base64's Decode. -/
import Derived.Test.YtefhifmilmedhaaDoorB64Sign2
namespace Go.Proofs.YtefhifmilmedhaaDoor
open Go.RowKit

theorem drop_str {s : ByteArray} {k : Nat} (h : k < s.size) : s.data.toList.drop k = s[k] :: s.data.toList.drop (k + 1) := by
  rw [List.drop_eq_getElem_cons (by rw [str_len]; exact h)]
  rfl
theorem drop_str_end (s : ByteArray) : s.data.toList.drop s.size = [] := List.drop_of_length_le (by rw [str_len]; exact Nat.le_refl _)
theorem step_go {k : Nat} {q : Rd} {s : ByteArray} (h : k < s.size) (he : runAt k q (s.data.toList.drop k) = dec64 s.data.toList) :
    (q.step s[k] = none ∧ dec64 s.data.toList = ([], k, false)) ∨ (∃ q', q.step s[k] = some q' ∧ runAt (k + 1) q' (s.data.toList.drop (k + 1)) = dec64 s.data.toList) := by
  rw [drop_str h] at he
  rcases hs : q.step s[k] with _ | q'
  · exact Or.inl ⟨rfl, by rw [← he, run_none hs]⟩
  · exact Or.inr ⟨q', rfl, by rw [← he, run_some hs]⟩
theorem rd_start : rdCells Rd.start (.slice none 0 0) = #[.int .i64 0, .int .i64 0, .int .i64 0, .int .i64 0, .int .i64 0, .int .i64 0, .slice none 0 0] := rfl

set_option maxHeartbeats 1000000 in
set_option maxRecDepth 100000 in
theorem decode64_any (s : ByteArray) (w : World) (hm : s.size ≤ 100000) :
    Calls Tryd.prog 61 #[.string s] w fun e w' => ∃ v, e = .returned (.tuple #[v, .int .i64 ((dec64 s.data.toList).2.1 : Int), .bool (dec64 s.data.toList).2.2]) ∧
      w'.ownsRow w.heap.size 5 1 v (dec64 s.data.toList).1.length (bytesV (dec64 s.data.toList).1) ∧ Below w.heap.size w w' := by
  go_enter Tryd.func61, Tryd.ntmps61
  go_wp2_with fail
  go_loopw [11] (fun i wr => ∃ (k : Nat) (q : Rd), k ≤ s.size ∧ i = .int .i64 k ∧ RdAt w.heap.size w.heap.size q wr ∧ RdOk q ∧ q.out.length ≤ 3 * k ∧ runAt k q (s.data.toList.drop k) = dec64 s.data.toList ∧ Below w.heap.size w wr) (fun i _ => s.size - (intOf i).toNat)
  case atStart =>
    refine ⟨0, Rd.start, Nat.zero_le _, rfl, ⟨Nat.le_refl _, .slice none 0 0, by exact Array.getElem?_push_size, World.ownsRow_nil _ _ _ _⟩, by simp [RdOk, Rd.start], Nat.le_refl _, ?_, (Below.refl _ _).alloc (Nat.le_refl _) _⟩
    rw [List.drop_zero, run_start]
  case round =>
    obtain ⟨k, q, hk, rfl, hR, hq, hlen, hrun, hbel⟩ := hrel
    have hsz := hbel.size
    have HSZ := Lib.hid hsz
    have HR := Lib.hid hR
    have HQ := Lib.hid hq
    have HB := Lib.hid hbel
    have HL := Lib.hid hlen
    clear hsz hbel hlen
    by_cases hkx : k < s.size
    · have hk1 : (k : Int) < s.size := by omega
      rcases step_go hkx hrun with ⟨hs, hd⟩ | ⟨q', hs, hd⟩
      · have HS := Lib.hid (sign_no _ wr hR hq hs)
        have HD := Lib.hid hd
        clear hs hd hrun hR hq
        go_wp2_with fail
        refine HS.out.mono ?_
        rintro e w' ⟨rfl, rfl⟩
        go_wp2_with fail
        rw [HD.out]
        exact bodyPost_ret (v := .tuple #[(.slice none 0 0), .int .i64 (k : Int), .bool false]) (by simp [results, Tryd.results61, go_sem]) rfl ⟨_, rfl, World.ownsRow_nil _ _ _ _, HB.out⟩
      · have hsm := step_small hq hs
        have HS := Lib.hid (sign_yes _ wr hR hq (by have := HL.out; omega) (HSZ.out) hs)
        have HD := Lib.hid hd
        have HM := Lib.hid hsm
        clear hs hd hrun hR hq hsm
        go_wp2_with fail
        refine HS.out.mono ?_
        rintro e w' ⟨rfl, hR', hB'⟩
        have HR' := Lib.hid hR'
        have HB' := Lib.hid hB'
        clear hR' hB'
        go_wp2_with fail
        go_roundw
        case rel => exact ⟨k + 1, q', by omega, by go_num, HR'.out, HM.out.1, by have := HM.out.2; have := HL.out; omega, HD.out, HB.out.trans HB'.out⟩
        case measure => simp [intOf]; omega
    · obtain rfl : k = s.size := by omega
      have hk1 : ¬ (s.size : Int) < s.size := by omega
      rw [drop_str_end] at hrun
      obtain ⟨_, v, hg, hown⟩ := hR
      have c4 : wr.cell? ⟨w.heap.size, 4, none⟩ = some (.int .i64 (q.n : Int)) := Lib.cell_of_heap hg 4
      have c6 : wr.cell? ⟨w.heap.size, 6, none⟩ = some v := Lib.cell_of_heap hg 6
      by_cases hn : 0 < q.n
      · have hn' : (0 : Int) < q.n := by omega
        have HD := Lib.hid (show dec64 s.data.toList = ([], s.size, false) from by rw [← hrun, run_nil, if_pos hn])
        clear hrun hg hown hq
        go_wp2_with fail
        rw [HD.out]
        exact bodyPost_ret (v := .tuple #[(.slice none 0 0), .int .i64 (s.size : Int), .bool false]) (by simp [results, Tryd.results61, go_sem]) rfl ⟨_, rfl, World.ownsRow_nil _ _ _ _, HB.out⟩
      · have hn' : ¬ (0 : Int) < q.n := by omega
        have HD := Lib.hid (show dec64 s.data.toList = (q.out, 0, true) from by rw [← hrun, run_nil, if_neg hn])
        have HO := Lib.hid hown
        clear hrun hg hown hq
        go_wp2_with fail
        rw [HD.out]
        exact bodyPost_ret (v := .tuple #[v, .int .i64 0, .bool true]) (by simp [results, Tryd.results61, go_sem]) rfl ⟨_, rfl, HO.out, HB.out⟩
end Go.Proofs.YtefhifmilmedhaaDoor
