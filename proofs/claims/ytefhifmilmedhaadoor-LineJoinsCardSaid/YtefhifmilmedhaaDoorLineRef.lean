/- The walks of the document's Lines and Words. -/
import Derived.Test.YtefhifmilmedhaaDoorLineRDig
import Derived.Test.YtefhifmilmedhaaDoorStrs
namespace Go.Proofs.YtefhifmilmedhaaDoor
open Go.RowKit

theorem infoStr1 : (Tryd.prog.info? 9).map (fun i => (i.zero, i.size, i.bytes)) = some (some (.string ⟨#[]⟩), 1, 16) := by kernel_rfl
theorem piece_one (s : ByteArray) (k : Nat) (h : k < s.size) : s.extract k (k + 1) = strOf [s[k]] := by
  rw [strOf_extract, List.drop_eq_getElem_cons (by rw [str_len]; exact h), show k + 1 - k = 1 from by omega]
  rfl

set_option maxRecDepth 100000 in
set_option maxHeartbeats 1000000 in
theorem rlines_any (s : ByteArray) (hm : s.size ≤ 1099511627776) (w : World) : Calls Tryd.prog 16 #[.string s] w fun e w' => ∃ v, e = .returned v ∧ w'.ownsRow w.heap.size 9 1 v (linesL s.data.toList).length (strsV (linesL s.data.toList)) ∧ Below w.heap.size w w' := by
  have HZ := Lib.hid (str_len s)
  go_enter Tryd.func16, Tryd.ntmps16
  go_wp2_with fail
  go_loopw [3, 4, 5] (fun v t i wr => ∃ (k : Nat) (pre : List (List UInt8)) (cur : List UInt8) (A : Option Addr) (c : Nat), k ≤ s.size ∧ v = .slice A pre.length c ∧ t = .string (strOf cur) ∧ i = .int .i64 k ∧
      pre ++ rlines cur (s.data.toList.drop k) = linesL s.data.toList ∧ pre.length + cur.length ≤ k ∧ (cur = [] ↔ (k = 0 ∨ s.data.toList[k - 1]? = some 10)) ∧
      wr.ownsRow w.heap.size 9 1 v pre.length (strsV pre) ∧ Below w.heap.size w wr)
    (fun _ _ i _ => s.size - (intOf i).toNat)
  case atStart => exact ⟨0, [], [], _, _, Nat.zero_le _, rfl, rfl, rfl, by rw [List.drop_zero, rlines_eq]; rfl, Nat.le_refl _, by simp, own_empty w _ _, (Below.refl _ w).alloc (Nat.le_refl _) _⟩
  case round =>
    obtain ⟨k, pre, cur, A, c, hk, rfl, rfl, rfl, hall, hlen, hcur, hown, hB⟩ := hrel
    have hsz := hB.size
    by_cases hlt : k < s.size
    · have hdr : s.data.toList.drop k = s[k] :: s.data.toList.drop (k + 1) := List.drop_eq_getElem_cons (by have := HZ.out; omega)
      have hgk : s.data.toList[k]? = some s[k] := List.getElem?_eq_getElem (by have := HZ.out; omega)
      rw [hdr, rlines] at hall
      by_cases hx : s[k] = 10
      · have hx' : ((s[k]).toNat : Int) = 10 := by rw [hx]; rfl
        rw [if_pos hx] at hall
        have HA := Lib.hid (show (pre ++ [cur]) ++ rlines [] (s.data.toList.drop (k + 1)) = linesL s.data.toList from by rw [← hall]; simp)
        have HC := Lib.hid (show ([] : List UInt8) = [] ↔ (k + 1 = 0 ∨ s.data.toList[k + 1 - 1]? = some 10) from by rw [Nat.add_sub_cancel, hgk, hx]; simp)
        have HO := Lib.hid hown
        clear hall hcur hdr hgk hx hown
        go_wp2_with (at_builtin; refine wpList_push rfl (.tmp 17) (.tmp 19) _ rfl w.heap.size 9 _ 16 Tryd.underlying25 infoStr1 rfl (.slice A pre.length c) pre.length (strsV pre) rfl wr wr.heap.size rfl (.string (strOf cur)) rfl HO.out rfl hsz (by omega) (by unfold maxLen; omega) ?_; intro A' c' w' hown' hb' _; have HO' := Lib.hid hown'; clear hown')
        go_roundw
        case rel => exact ⟨k + 1, pre ++ [cur], [], A', c', by omega, by simp, rfl, by simp, HA.out, by simp; omega, HC.out, by rw [strsV_snoc]; simpa using HO'.out, hB.trans hb'⟩
        case measure => simp [intOf] <;> omega
      · have hx' := beq_no (a := ((s[k]).toNat : Int)) (b := 10) (fun e => hx (UInt8.toNat_inj.1 (by show _ = 10; omega)))
        rw [if_neg hx] at hall
        have HA := Lib.hid hall
        have HC := Lib.hid (show (cur ++ [s[k]] : List UInt8) = [] ↔ (k + 1 = 0 ∨ s.data.toList[k + 1 - 1]? = some 10) from by rw [Nat.add_sub_cancel, hgk]; simp [hx])
        have HO := Lib.hid hown
        have hb : ¬ 9223372036854775807 < (strOf cur).size + (strOf [s[k]]).size := by rw [strOf_size, strOf_size]; simp; omega
        have hp := piece_one s k hlt
        clear hall hcur hdr hgk hx hown
        go_wp2_with fail
        go_roundw
        case rel => exact ⟨k + 1, pre, cur ++ [s[k]], A, c, by omega, rfl, by rw [strOf_append], by simp, HA.out, by simp; omega, HC.out, HO.out, hB⟩
        case measure => simp [intOf] <;> omega
    · obtain rfl : k = s.size := by omega
      have hdr : s.data.toList.drop s.size = [] := List.drop_of_length_le (by have := HZ.out; omega)
      rw [hdr, rlines] at hall
      have HO := Lib.hid hown
      by_cases h0 : s.size = 0
      · have h1 := empty_str h0
        have hc0 : cur = [] := hcur.2 (.inl h0)
        rw [if_pos hc0, List.append_nil] at hall
        have HA := Lib.hid hall
        clear hall hcur hdr hown hc0 hlen
        go_wp2_with fail
        go_ret
        exact ⟨_, rfl, by rw [← HA.out]; exact HO.out, hB⟩
      · have hp : 0 < s.size := by omega
        have h1 := some_str hp
        have h1' : s.toList.isEmpty = false := by rw [List.isEmpty_eq_false_iff]; exact h1
        have hl : s.data.toList[s.size - 1]? = some (s[s.size - 1]'(by omega)) := List.getElem?_eq_getElem (by have := HZ.out; omega)
        by_cases hx : s[s.size - 1]'(by omega) = 10
        · have hc0 : cur = [] := hcur.2 (.inr (by rw [hl, hx]))
          have hx' : ((s[s.size - 1]'(by omega)).toNat : Int) = 10 := by rw [hx]; rfl
          rw [if_pos hc0, List.append_nil] at hall
          have HA := Lib.hid hall
          clear hall hcur hdr hown hc0 hlen hx hl
          go_wp2_with fail
          go_ret
          exact ⟨_, rfl, by rw [← HA.out]; exact HO.out, hB⟩
        · have hc0 : cur ≠ [] := fun e => by
            rcases hcur.1 e with h | h
            · omega
            · rw [hl] at h; injection h with h; exact hx h
          have hx' := beq_no (a := ((s[s.size - 1]'(by omega)).toNat : Int)) (b := 10) (fun e => hx (UInt8.toNat_inj.1 (by show _ = 10; omega)))
          rw [if_neg hc0] at hall
          have HA := Lib.hid hall
          clear hall hcur hdr hown hc0 hx hl
          go_wp2_with (at_builtin; refine wpList_push rfl (.tmp 38) (.tmp 40) _ rfl w.heap.size 9 _ 16 Tryd.underlying25 infoStr1 rfl (.slice A pre.length c) pre.length (strsV pre) rfl wr wr.heap.size rfl (.string (strOf cur)) rfl HO.out rfl hsz (by omega) (by unfold maxLen; omega) ?_; intro A' c' w' hown' hb' _; have HO' := Lib.hid hown'; clear hown')
          go_ret
          exact ⟨_, rfl, by rw [← HA.out, strsV_snoc, List.length_append]; exact HO'.out, hB.trans hb'⟩

set_option maxRecDepth 100000 in
set_option maxHeartbeats 1000000 in
theorem rwords_any (s : ByteArray) (hm : s.size ≤ 1099511627776) (w : World) : Calls Tryd.prog 18 #[.string s] w fun e w' => ∃ v, e = .returned v ∧ w'.ownsRow w.heap.size 9 1 v ((wordsL s.data.toList).getD []).length (strsV ((wordsL s.data.toList).getD [])) ∧ Below w.heap.size w w' := by
  have HZ := Lib.hid (str_len s)
  go_enter Tryd.func18, Tryd.ntmps18
  go_wp2_with fail
  go_loopw [3, 4, 5] (fun v t i wr => ∃ (k : Nat) (pre : List (List UInt8)) (cur : List UInt8) (A : Option Addr) (c : Nat), k ≤ s.size + 1 ∧ v = .slice A pre.length c ∧ t = .string (strOf cur) ∧ i = .int .i64 k ∧
      pre ++ (if k ≤ s.size then partsF 32 cur (s.data.toList.drop k) else []) = partsF 32 [] s.data.toList ∧ pre.length + cur.length ≤ k ∧ [] ∉ pre ∧
      wr.ownsRow w.heap.size 9 1 v pre.length (strsV pre) ∧ Below w.heap.size w wr)
    (fun _ _ i _ => s.size + 1 - (intOf i).toNat)
  case atStart => exact ⟨0, [], [], _, _, Nat.zero_le _, rfl, rfl, rfl, by simp, Nat.le_refl _, by simp, own_empty w _ _, (Below.refl _ w).alloc (Nat.le_refl _) _⟩
  case round =>
    obtain ⟨k, pre, cur, A, c, hk, rfl, rfl, rfl, hall, hlen, hne, hown, hB⟩ := hrel
    have hsz := hB.size
    have HO := Lib.hid hown
    clear hown
    by_cases hle : k ≤ s.size
    · rw [if_pos hle] at hall
      by_cases hlt : k < s.size ∧ s.data.toList[k]? ≠ some 32
      · obtain ⟨hlt, hc⟩ := hlt
        have hkl : k < s.data.toList.length := by have := HZ.out; omega
        have hdr : s.data.toList.drop k = s[k] :: s.data.toList.drop (k + 1) := List.drop_eq_getElem_cons hkl
        have hx : s[k] ≠ 32 := fun e => hc (by rw [List.getElem?_eq_getElem hkl, ← e]; rfl)
        have hx' := beq_no (a := ((s[k]).toNat : Int)) (b := 32) (fun e => hx (UInt8.toNat_inj.1 (by show _ = 32; omega)))
        rw [hdr, partsF, if_neg hx] at hall
        have HA := Lib.hid (show pre ++ (if k + 1 ≤ s.size then partsF 32 (cur ++ [s[k]]) (s.data.toList.drop (k + 1)) else []) = partsF 32 [] s.data.toList from by rw [if_pos (by omega)]; exact hall)
        have hb : ¬ 9223372036854775807 < (strOf cur).size + (strOf [s[k]]).size := by rw [strOf_size, strOf_size]; simp; omega
        have hp := piece_one s k hlt
        clear hall hdr hx hc
        go_wp2_with fail
        go_roundw
        case rel => exact ⟨k + 1, pre, cur ++ [s[k]], A, c, by omega, rfl, by rw [strOf_append], by simp, HA.out, by simp; omega, hne, HO.out, hB⟩
        case measure => simp [intOf] <;> omega
      · have hall' : pre ++ cur :: (if k + 1 ≤ s.size then partsF 32 [] (s.data.toList.drop (k + 1)) else []) = partsF 32 [] s.data.toList := by
          rw [← hall]
          by_cases h : k < s.size
          · have hkl : k < s.data.toList.length := by have := HZ.out; omega
            have hdr : s.data.toList.drop k = s[k] :: s.data.toList.drop (k + 1) := List.drop_eq_getElem_cons hkl
            have hx : s[k] = 32 := by
              rcases Decidable.em (s[k] = 32) with e | e
              · exact e
              · exact absurd ⟨h, fun e' => e (by rw [List.getElem?_eq_getElem hkl] at e'; injection e')⟩ hlt
            rw [hdr, partsF, if_pos hx, if_pos (by omega)]
          · rw [if_neg (by omega), List.drop_of_length_le (by have := HZ.out; omega), partsF]
        have hbr : (k < s.size ∧ ∃ h : k < s.size, ((s[k]).toNat : Int) = 32) ∨ k = s.size := by
          by_cases h : k < s.size
          · left
            refine ⟨h, h, ?_⟩
            have hkl : k < s.data.toList.length := by have := HZ.out; omega
            rcases Decidable.em (s[k] = 32) with e | e
            · rw [e]; rfl
            · exact absurd ⟨h, fun e' => e (by rw [List.getElem?_eq_getElem hkl] at e'; injection e')⟩ hlt
          · right; omega
        have HA := Lib.hid hall'
        clear hall hall' hlt
        by_cases hc0 : cur = []
        · have h2 : (strOf cur).toList.isEmpty = true := by rw [hc0, ByteArray.toList_eq, strOf_list]; rfl
          have HV := Lib.hid (show wordsL s.data.toList = none from by unfold wordsL; rw [if_pos (by rw [← HA.out, hc0]; simp)])
          clear hc0 hne
          rcases hbr with ⟨h1, h1', hx⟩ | h1
          · go_wp2_with fail
            go_ret
            exact ⟨_, rfl, by rw [HV.out]; exact World.ownsRow.mono (own_empty wr _ _) hsz, hB.trans (((Below.refl _ wr).alloc (Nat.le_refl _) _).mono hsz)⟩
          · subst h1
            go_wp2_with fail
            go_ret
            exact ⟨_, rfl, by rw [HV.out]; exact World.ownsRow.mono (own_empty wr _ _) hsz, hB.trans (((Below.refl _ wr).alloc (Nat.le_refl _) _).mono hsz)⟩
        · have h2 : (strOf cur).toList.isEmpty = false := by
            rw [ByteArray.toList_eq, strOf_list]
            cases cur with
            | nil => exact absurd rfl hc0
            | cons => rfl
          have HN := Lib.hid (show [] ∉ pre ++ [cur] from fun e => (List.mem_append.1 e).elim hne (fun e => hc0 (List.mem_singleton.1 e).symm))
          have HA' := Lib.hid (show (pre ++ [cur]) ++ (if k + 1 ≤ s.size then partsF 32 [] (s.data.toList.drop (k + 1)) else []) = partsF 32 [] s.data.toList from by rw [← HA.out]; simp)
          clear hc0 hne HA
          rcases hbr with ⟨h1, h1', hx⟩ | h1
          · go_wp2_with (at_builtin; refine wpList_push rfl (.tmp 33) (.tmp 35) _ rfl w.heap.size 9 _ 16 Tryd.underlying25 infoStr1 rfl (.slice A pre.length c) pre.length (strsV pre) rfl wr wr.heap.size rfl (.string (strOf cur)) rfl HO.out rfl hsz (by omega) (by unfold maxLen; omega) ?_; intro A' c' w' hown' hb' _; have HO' := Lib.hid hown'; clear hown')
            go_roundw
            case rel => exact ⟨k + 1, pre ++ [cur], [], A', c', by omega, by simp, rfl, by simp, HA'.out, by simp; omega, HN.out, by rw [strsV_snoc]; simpa using HO'.out, hB.trans hb'⟩
            case measure => simp [intOf] <;> omega
          · subst h1
            go_wp2_with (at_builtin; refine wpList_push rfl (.tmp 33) (.tmp 35) _ rfl w.heap.size 9 _ 16 Tryd.underlying25 infoStr1 rfl (.slice A pre.length c) pre.length (strsV pre) rfl wr wr.heap.size rfl (.string (strOf cur)) rfl HO.out rfl hsz (by omega) (by unfold maxLen; omega) ?_; intro A' c' w' hown' hb' _; have HO' := Lib.hid hown'; clear hown')
            go_roundw
            case rel => exact ⟨s.size + 1, pre ++ [cur], [], A', c', by omega, by simp, rfl, by simp, HA'.out, by simp; omega, HN.out, by rw [strsV_snoc]; simpa using HO'.out, hB.trans hb'⟩
            case measure => simp [intOf] <;> omega
    · obtain rfl : k = s.size + 1 := by omega
      rw [if_neg hle, List.append_nil] at hall
      have HV := Lib.hid (show wordsL s.data.toList = some pre from by unfold wordsL; rw [if_neg (by rw [← hall]; exact hne), hall])
      clear hall hne
      go_wp2_with fail
      go_ret
      exact ⟨_, rfl, by rw [HV.out]; exact HO.out, hB⟩
end Go.Proofs.YtefhifmilmedhaaDoor
