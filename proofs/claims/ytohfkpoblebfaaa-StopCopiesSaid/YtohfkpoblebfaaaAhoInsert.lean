/- The walk of slices.Insert at a state's ways. -/
import Derived.Test.YtohfkpoblebfaaaAhoCopy
import Derived.Test.YtohfkpoblebfaaaAhoFind
import Derived.Lib.Overlaps
import Derived.Lib.AppendZerosOnto
import Derived.Deep.AppendLies
import Derived.Laws.Externs
namespace Go.Proofs.Ytohfkpoblebfaaa
open Go.RowKit
set_option linter.unusedVariables false

theorem infoWay : (Try.prog.info? 68).map (fun i => (i.zero, i.size, i.bytes)) = some (some (.agg #[.int .i64 0, .int .i64 0]), 2, 16) := by kernel_rfl
theorem sizeWay : (Try.prog.info? 68).map (·.size) = some 2 := by kernel_rfl
/-- What inserting one way answers. -/
def InsTo (w : World) (B n i c : Nat) (A : Option Addr) (xs : List Value) (x y : Value) (e : Ending) (w' : World) : Prop := ∃ A' c', e = .returned (.slice A' (n + 1) c') ∧
  w'.ownsRow B 68 2 (.slice A' (n + 1) c') (n + 1) (xs.take (i * 2) ++ [x, y] ++ xs.drop (i * 2)) ∧ w.grownBy w' (Value.ownBlock (.slice A n c)) ∧ (A' = A ∨ A' = some ⟨w.heap.size, 0, none⟩)

set_option maxRecDepth 100000 in
set_option maxHeartbeats 1000000 in
/-- At the end. -/
theorem insert_end {B n c vb : Nat} {A : Option Addr} {xs : List Value} {x y : Value} (w : World) (hB : B ≤ w.heap.size) (hn : n ≤ 100000) (h : w.ownsRow B 68 2 (.slice A n c) n xs)
    (hv : w.heap[vb]? = some (.cells #[x, y] 68 (0, 0))) (hx : x.oneCell' = true) (hy : y.oneCell' = true) :
    Calls Try.prog 50 #[.slice A n c, .int .i64 (n : Int), .slice (some ⟨vb, 0, none⟩) 1 1] w (InsTo w B n n c A xs x y) := by
  obtain ⟨i0, hi0, hz0, hz1, hz2⟩ := info_parts infoWay
  have hcc : c = n ∨ ¬ c = n := by omega
  have hxl : xs.length = n * 2 := h.1
  have HO := Lib.hid h
  have HV := Lib.hid hv
  have hnews := Lib.hid (World.news_of_block (cs := #[x, y]) hv)
  have h1 : ∀ u ∈ ([x, y] : List Value), u.oneCell' = true := by
    intro u hu
    simp only [List.mem_cons, List.not_mem_nil, or_false] at hu
    rcases hu with rfl | rfl
    · exact hx
    · exact hy
  have H1 := Lib.hid h1
  have hcap : n ≤ c ∧ c ≤ maxLen := ⟨(RowAt.of_own h).2.1, (RowAt.of_own h).2.2.1⟩
  unfold maxLen at hcap
  obtain ⟨hcap1, hcap2⟩ := hcap
  clear h hv h1
  have fin : ∀ (g c2 : Nat) (w1 : World), w1.ownsRow B 68 2 (.slice (some ⟨g, 0, none⟩) (n + 1) c2) (n + 1) (xs ++ [x, y]) → w.grownBy w1 (Value.ownBlock (.slice A n c)) → (Value.ownBlock (.slice A n c) = some g ∨ g = w.heap.size) → InsTo w B n n c A xs x y (.returned (.slice (some ⟨g, 0, none⟩) (n + 1) c2)) w1 := by
    intro g c2 w1 ho hg hl
    refine ⟨some ⟨g, 0, none⟩, c2, rfl, ?_, hg, ?_⟩
    · rw [List.take_of_length_le (by omega), List.drop_of_length_le (by omega), List.append_nil]; exact ho
    · rcases hl with hl | rfl
      · left
        rcases HO.out.2 with ⟨hv, _⟩ | ⟨g', cap', cur, hv, _⟩
        · injection hv with hA; subst hA; simp [Value.ownBlock] at hl
        · injection hv with hA
          subst hA
          simp only [Value.ownBlock, Option.some.injEq] at hl
          rw [hl]
      · right; rfl
  have HF := Lib.hid fin
  clear fin
  rcases hcc with hcc | hcc
  · subst hcc
    go_enter Try.func50, Try.ntmps50
    go_wp2_with (at_builtin; refine wpList_append_lies _ rfl (.tmp 23) (.tmp 24) _ rfl B 68 i0 _ 2 16 Try.underlying58 hi0 hz0 hz1 hz2 rfl (by decide) (.slice A c c) c xs rfl HO.out ⟨vb, 0, none⟩ 1 1 [x, y] rfl rfl hnews.out H1.out (by decide) (by unfold maxLen; omega) (by omega) hB w.heap.size rfl ?_; intro g2 c2 w1 hown1 hgr1 hat1 hlt1; have O1 := Lib.hid hown1; have G1 := Lib.hid hgr1; have T1 := Lib.hid hat1; clear hown1 hgr1 hat1)
    all_goals
      go_wp2_with fail
      go_ret
      exact HF.out _ _ _ O1.out G1.out T1.out
  · go_enter Try.func50, Try.ntmps50
    go_wp2_with (at_builtin; refine wpList_append_lies _ rfl (.tmp 23) (.tmp 24) _ rfl B 68 i0 _ 2 16 Try.underlying58 hi0 hz0 hz1 hz2 rfl (by decide) (.slice A n c) n xs rfl HO.out ⟨vb, 0, none⟩ 1 1 [x, y] rfl rfl hnews.out H1.out (by decide) (by unfold maxLen; omega) (by omega) hB w.heap.size rfl ?_; intro g2 c2 w1 hown1 hgr1 hat1 hlt1; have O1 := Lib.hid hown1; have G1 := Lib.hid hgr1; have T1 := Lib.hid hat1; clear hown1 hgr1 hat1)
    all_goals
      go_wp2_with fail
      go_ret
      exact HF.out _ _ _ O1.out G1.out T1.out

theorem two_one_cells {x y : Value} (hx : x.oneCell' = true) (hy : y.oneCell' = true) : ∀ u ∈ ([x, y] : List Value), u.oneCell' = true := by
  intro u hu
  simp only [List.mem_cons, List.not_mem_nil, or_false] at hu
  rcases hu with rfl | rfl
  · exact hx
  · exact hy
theorem ways_one {t : List (Int × Nat)} : ∀ u ∈ waysV t, u.oneCell' = true := by
  intro u hu
  simp only [waysV, List.mem_flatMap] at hu
  obtain ⟨a, _, ha⟩ := hu
  simp only [List.mem_cons, List.not_mem_nil, or_false] at ha
  rcases ha with rfl | rfl <;> rfl
/-- The row behind the two copies. -/
theorem shifted {cur xs : List Value} {n i : Nat} {x y : Value} (ht : cur.take (n * 2) = xs) (hl : xs.length = n * 2) (hi : i < n) (hc : (n + 1) * 2 ≤ cur.length) :
    let R1 := cur.take ((i + 1) * 2) ++ xs.drop (i * 2) ++ cur.drop ((i + 1) * 2 + (xs.drop (i * 2)).length)
    let R2 := R1.take (i * 2) ++ [x, y] ++ R1.drop (i * 2 + 2)
    R2.take ((n + 1) * 2) = xs.take (i * 2) ++ [x, y] ++ xs.drop (i * 2) ∧ R1.length = cur.length ∧ R2.length = cur.length := by
  intro R1 R2
  have hd : (xs.drop (i * 2)).length = (n - i) * 2 := by rw [List.length_drop, hl]; omega
  have h1 : R1.length = cur.length := by
    simp only [R1, List.length_append, List.length_take, List.length_drop, hl]; omega
  have h2 : R1.take (i * 2) = xs.take (i * 2) := by
    simp only [R1]
    rw [List.append_assoc, List.take_append_of_le_length (by rw [List.length_take]; omega), List.take_take, ← ht, List.take_take]
    congr 1; omega
  have h3 : R1.drop (i * 2 + 2) = xs.drop (i * 2) ++ cur.drop ((n + 1) * 2) := by
    simp only [R1]
    rw [List.append_assoc, List.drop_append, List.drop_of_length_le (by rw [List.length_take]; omega), List.nil_append, List.length_take, show i * 2 + 2 - min ((i + 1) * 2) cur.length = 0 from by omega, List.drop_zero, hd, show (i + 1) * 2 + (n - i) * 2 = (n + 1) * 2 from by omega]
  refine ⟨?_, h1, ?_⟩
  · simp only [R2]
    rw [h2, h3, ← List.append_assoc, List.take_append_of_le_length (by simp only [List.length_append, List.length_take, List.length_cons, List.length_nil, hd, hl]; omega), List.take_of_length_le (by simp only [List.length_append, List.length_take, List.length_cons, List.length_nil, hd, hl]; omega)]
  · simp only [R2, List.length_append, List.length_take, List.length_drop, List.length_cons, List.length_nil, h1]; omega

set_option maxRecDepth 100000 in
set_option maxHeartbeats 1000000 in
/-- Amid the ways, where there is room. -/
theorem insert_room {B n c i vb g : Nat} {xs : List Value} {x y : Value} (w : World) (hB : B ≤ w.heap.size) (hi : i < n) (hroom : n + 1 ≤ c) (h : w.ownsRow B 68 2 (.slice (some ⟨g, 0, none⟩) n c) n xs)
    (hv : w.heap[vb]? = some (.cells #[x, y] 68 (0, 0))) (hvb : vb ≠ g) (hx : x.oneCell' = true) (hy : y.oneCell' = true) (h1 : ∀ u ∈ xs, u.oneCell' = true) :
    Calls Try.prog 50 #[.slice (some ⟨g, 0, none⟩) n c, .int .i64 (i : Int), .slice (some ⟨vb, 0, none⟩) 1 1] w (InsTo w B n i c (some ⟨g, 0, none⟩) xs x y) := by
  have hxl : xs.length = n * 2 := h.1
  obtain ⟨cur, hBg, hg, hcm, hcs, htk⟩ : ∃ cur : Array Value, B ≤ g ∧ w.heap[g]? = some (.cells cur 68 (0, 0)) ∧ c ≤ maxLen ∧ cur.size = c * 2 ∧ cur.toList.take (n * 2) = xs := by
    rcases h.2 with ⟨hv, _⟩ | ⟨g', cap', cur, hv, hb, hg, _, hc, hs, ht⟩
    · cases hv
    · injection hv with a _ b
      injection a with a
      injection a with a _ _
      subst a b
      exact ⟨cur, hb, hg, hc, hs, ht⟩
  unfold maxLen at hcm
  have hov : ∀ lb cb, (callFunc 52 #[.slice (some ⟨vb, 0, none⟩) 1 1, .slice (some ⟨g, (i + 1) * 2, none⟩) lb cb]).run Try.prog w = .ok (.value (.bool false)) w := fun lb cb => by
    rw [run_callFunc_extern Try.func52 (by kernel_rfl) (by kernel_rfl) (by kernel_rfl) (e := Extern.SlicesOverlaps.overlaps #[58, 58] #[4]) (by kernel_rfl),
      Lib.run_overlaps_apart w 58 4 68 Try.underlying58 2 Try.sizeOf68 ⟨vb, 0, none⟩ ⟨g, (i + 1) * 2, none⟩ 1 1 lb cb hvb 68 68 2 cur.size (by simp [World.shape?, hv]) (by simp [World.shape?, hg]) (by omega) (by simp [World.frozen?, hv]) (by simp [World.frozen?, hv])]
    rfl
  obtain ⟨s1, s2, s3⟩ := shifted (x := x) (y := y) htk hxl hi (by rw [Array.length_toList, hcs]; omega)
  have hdl : (xs.drop (i * 2)).length = (n - i) * 2 := by rw [List.length_drop, hxl]; omega
  obtain ⟨R1, hR1⟩ : ∃ R1 : List Value, R1 = cur.toList.take ((i + 1) * 2) ++ xs.drop (i * 2) ++ cur.toList.drop ((i + 1) * 2 + (xs.drop (i * 2)).length) := ⟨_, rfl⟩
  rw [← hR1] at s1 s2 s3
  obtain ⟨R2, hR2⟩ : ∃ R2 : List Value, R2 = R1.take (i * 2) ++ [x, y] ++ R1.drop (i * 2 + 2) := ⟨_, rfl⟩
  rw [← hR2] at s1 s3
  have hxs : ∀ j v, (xs.drop (i * 2))[j]? = some v → w.cell? ((⟨g, i * 2, none⟩ : Addr).add j) = some v := fun j v hj => by
    rw [addr_plus, cell_of_row w g _ cur _ _ hg, ← Array.getElem?_toList]
    rw [List.getElem?_drop, ← htk, List.getElem?_take] at hj
    split at hj
    · exact hj
    · cases hj
  have hcp1 : ∀ ty dc sc, (Builtin.copy_ #[58, 58] ty #[.slice (some ⟨g, (i + 1) * 2, none⟩) (n - i) dc, .slice (some ⟨g, i * 2, none⟩) (n + 1 - i) sc]).run Try.prog w.drew = .ok (goInt ((n - i : Nat) : Int)) (w.drew.setRow g R1.toArray) := fun ty dc sc => by
    have := run_copy_row2 (P := Try.prog) w.drew 58 58 ty 68 g ((i + 1) * 2) (n - i) dc ⟨g, i * 2, none⟩ (n + 1 - i) sc (n - i) cur 68 (xs.drop (i * 2)) Try.underlying58 sizeWay hg
      (by simp only [Nat.min_def]; split <;> omega) hdl hxs (by rw [hdl, hcs]; omega) (fun v hv => h1 v (List.mem_of_mem_drop hv))
    rw [← hR1] at this
    exact this
  have hg1 : (w.drew.setRow g R1.toArray).heap[g]? = some (.cells R1.toArray 68 (0, 0)) := setRow_heap w.drew g cur _ _ _ hg
  have hv1 : (w.drew.setRow g R1.toArray).heap[vb]? = some (.cells #[x, y] 68 (0, 0)) := (setRow_other w.drew g vb _ hvb).trans hv
  have hcp2 : ∀ ty dc, (Builtin.copy_ #[58, 58] ty #[.slice (some ⟨g, i * 2, none⟩) (n + 1 - i) dc, .slice (some ⟨vb, 0, none⟩) 1 1]).run Try.prog (w.drew.setRow g R1.toArray) = .ok (goInt 1) ((w.drew.setRow g R1.toArray).setRow g R2.toArray) := fun ty dc => by
    have := run_copy_row2 (P := Try.prog) (w.drew.setRow g R1.toArray) 58 58 ty 68 g (i * 2) (n + 1 - i) dc ⟨vb, 0, none⟩ 1 1 1 R1.toArray 68 [x, y] Try.underlying58 sizeWay hg1
      (by simp only [Nat.min_def]; split <;> omega) rfl (World.news_of_block (cs := #[x, y]) hv1) (by simp only [List.length_cons, List.length_nil, List.size_toArray, s2, Array.length_toList, hcs]; omega) (two_one_cells hx hy)
    rw [show (R1.toArray.toList.take (i * 2) ++ [x, y] ++ R1.toArray.toList.drop (i * 2 + [x, y].length)) = R2 from by rw [hR2]; rfl] at this
    exact this
  have hw1 : IntKind.i64.wrap ((i : Int) + 1) = (i : Int) + 1 := by rw [IntKind.wrap_i64]; omega
  have hb1 : (0 : Int) ≤ (i : Int) + 1 := by omega
  have hin : i ≤ n := by omega
  have htn : ((i : Int) + 1).toNat = i + 1 := by omega
  have hb2 : ¬ (c = i + 1) := by omega
  have hb3 : (i : Int) ≤ (n : Int) + 1 := by omega
  have hb4 : ¬ (c = i) := by omega
  have hb5 : (i : Int) ≤ (n : Int) := by omega
  have hz2 : ((i : Int) == (n : Int)) = false := beq_no (by omega)
  have HEND := Lib.hid (show InsTo w B n i c (some ⟨g, 0, none⟩) xs x y (.returned (.slice (some ⟨g, 0, none⟩) (n + 1) c)) ((w.drew.setRow g R1.toArray).setRow g R2.toArray) from by
    refine ⟨some ⟨g, 0, none⟩, c, rfl, ⟨?_, .inr ⟨g, c, R2.toArray, rfl, hBg, setRow_heap _ g _ _ _ _ hg1, hroom, by unfold maxLen; omega, ?_, ?_⟩⟩, ⟨rfl, rfl, rfl, by simp [World.setRow], fun k _ hk => ?_⟩, .inl rfl⟩
    · rw [← s1, List.length_take, s3, Array.length_toList, hcs]; omega
    · simp only [List.size_toArray, s3, Array.length_toList, hcs]
    · exact s1
    · have hkg : k ≠ g := fun e => hk (by rw [e]; rfl)
      exact (setRow_other _ g k _ hkg).trans (setRow_other w.drew g k _ hkg))
  have HXL := Lib.hid hxl
  clear s1 s2 s3 hdl hR1 hR2 hxs htk hxl hg hv hg1 hv1 hcs h
  go_enter Try.func50, Try.ntmps50
  go_wp2_with (simp only [hov])
  go_region_law (refine step_copy_run2 rfl _ _ 58 58 rfl _ _ (by simp [Act.eval, Act.put]) (by simp [Act.eval, Act.put]) (hcp1 _ _ _) ?_)
  go_wp2_with (at_builtin; refine wpList_copy_run2 _ rfl _ _ 58 58 rfl _ _ rfl rfl (hcp2 _ _) ?_)
  go_ret
  exact HEND.out

/-- The new row behind the two copies. -/
theorem moved {row xs : List Value} {n i G : Nat} {x y : Value} (hr : row.take (i * 2) = xs.take (i * 2)) (hrl : row.length = G * 2) (hl : xs.length = n * 2) (hi : i < n) (hG : n + 1 ≤ G) :
    let R1 := row.take (i * 2) ++ [x, y] ++ row.drop (i * 2 + 2)
    let R2 := R1.take ((i + 1) * 2) ++ xs.drop (i * 2) ++ R1.drop ((i + 1) * 2 + (xs.drop (i * 2)).length)
    R2.take ((n + 1) * 2) = xs.take (i * 2) ++ [x, y] ++ xs.drop (i * 2) ∧ R1.length = G * 2 ∧ R2.length = G * 2 := by
  intro R1 R2
  have hd : (xs.drop (i * 2)).length = (n - i) * 2 := by rw [List.length_drop, hl]; omega
  have h1 : R1.length = G * 2 := by
    simp only [R1, List.length_append, List.length_take, List.length_drop, hrl, List.length_cons, List.length_nil]; omega
  have h2 : R1.take ((i + 1) * 2) = xs.take (i * 2) ++ [x, y] := by
    simp only [R1]
    rw [hr, List.take_append_of_le_length (by simp only [List.length_append, List.length_take, List.length_cons, List.length_nil, hl]; omega), List.take_of_length_le (by simp only [List.length_append, List.length_take, List.length_cons, List.length_nil, hl]; omega)]
  refine ⟨?_, h1, ?_⟩
  · simp only [R2]
    rw [h2, List.take_append_of_le_length (by simp only [List.length_append, List.length_take, List.length_cons, List.length_nil, hd, hl]; omega), List.take_of_length_le (by simp only [List.length_append, List.length_take, List.length_cons, List.length_nil, hd, hl]; omega)]
  · simp only [R2, List.length_append, List.length_take, List.length_drop, h1, hd]; omega

set_option maxRecDepth 100000 in
set_option maxHeartbeats 1000000 in
/-- Amid the ways, where there is no room. -/
theorem insert_grow {B n c i vb g : Nat} {xs : List Value} {x y : Value} (w : World) (hB : B ≤ w.heap.size) (hn : n ≤ 100000) (hi : i < n) (hroom : c < n + 1) (h : w.ownsRow B 68 2 (.slice (some ⟨g, 0, none⟩) n c) n xs)
    (hv : w.heap[vb]? = some (.cells #[x, y] 68 (0, 0))) (hx : x.oneCell' = true) (hy : y.oneCell' = true) (h1 : ∀ u ∈ xs, u.oneCell' = true) :
    Calls Try.prog 50 #[.slice (some ⟨g, 0, none⟩) n c, .int .i64 (i : Int), .slice (some ⟨vb, 0, none⟩) 1 1] w (InsTo w B n i c (some ⟨g, 0, none⟩) xs x y) := by
  have hxl : xs.length = n * 2 := h.1
  have hnc : n ≤ c := (RowAt.of_own h).2.1
  obtain rfl : c = n := by omega
  have hcell : ∀ j v, xs[j]? = some v → w.cell? ⟨g, j, none⟩ = some v := fun j v hj => by
    rw [h.cellAt j (by rw [← hxl]; exact (List.getElem?_eq_some_iff.1 hj).1)]; exact hj
  have hgw : g < w.heap.size := (h.lt g rfl).2
  have hvw : vb < w.heap.size := (Array.getElem?_eq_some_iff.1 hv).1
  obtain ⟨i0, hi0, hz0, hzs, hzb⟩ := info_parts infoWay
  have htake : ∀ j v, (xs.take (i * 2))[j]? = some v → w.drew.cell? ((⟨g, 0, none⟩ : Addr).add j) = some v := fun j v hj => by
    rw [addr_plus, Nat.zero_add]
    rw [List.getElem?_take] at hj
    split at hj
    · exact hcell j v hj
    · cases hj
  have hdrop : ∀ j v, (xs.drop (i * 2))[j]? = some v → w.cell? ((⟨g, i * 2, none⟩ : Addr).add j) = some v := fun j v hj => by
    rw [addr_plus]
    rw [List.getElem?_drop] at hj
    exact hcell _ v hj
  have htl : (xs.take (i * 2)).length = i * 2 := by rw [List.length_take, hxl]; omega
  have hold : (Builtin.firstCells i0.size i (.slice (some ⟨g, 0, none⟩) i c)).run Try.prog w.drew = .ok (xs.take (i * 2)).toArray w.drew := by
    have := run_loadCells_list (P := Try.prog) w.drew ⟨g, 0, none⟩ (xs.take (i * 2)) htake
    rw [htl] at this
    rw [hzs]
    exact this
  have hik : i + (c + 1 - i) = c + 1 := by omega
  have hkk : (c : Int) + 1 - (i : Int) = ((c + 1 - i : Nat) : Int) := by omega
  have hrz : ∀ ty, (Builtin.append_ #[58, 3] ty #[.slice (some ⟨g, 0, none⟩) i c, .int .i64 ((c : Int) + 1 - (i : Int))]).run Try.prog w = .ok (.slice (some ⟨w.heap.size, 0, none⟩) (c + 1) (grownCap w (c + 1) c 68))
      (w.drew.alloc (.cells ((xs.take (i * 2)).toArray ++ Builtin.zeroCells (Value.agg #[.int .i64 0, .int .i64 0]).cells (c + 1 - i) ++ Builtin.zeroCells (Value.agg #[.int .i64 0, .int .i64 0]).cells (grownCap w (c + 1) c 68 - (c + 1))) 68)) := fun ty => by
    have h := Lib.run_append_grow_zeros (P := Try.prog) w 58 3 ty 68 i0 _ .i64 .i64 Try.underlying58 Try.underlying3 hi0 hz0 (some ⟨g, 0, none⟩) i c (xs.take (i * 2)) hold (c + 1 - i) (by omega) (by omega) (by omega) (by omega) (by rw [hzb]; omega) (by rw [hzb, hik]; exact growslice_fits (by omega) (by omega))
    rw [hik] at h
    rw [hkk]
    exact h
  obtain ⟨G, hG⟩ : ∃ G, G = grownCap w (c + 1) c 68 := ⟨_, rfl⟩
  obtain ⟨ROW, hROW⟩ : ∃ ROW : Array Value, ROW = (xs.take (i * 2)).toArray ++ Builtin.zeroCells (Value.agg #[.int .i64 0, .int .i64 0]).cells (c + 1 - i) ++ Builtin.zeroCells (Value.agg #[.int .i64 0, .int .i64 0]).cells (G - (c + 1)) := ⟨_, rfl⟩
  rw [← hG] at hrz
  rw [← hROW] at hrz
  have hGn : c + 1 ≤ G := by rw [hG]; exact grownCap_ge w _ _ _
  have hGm : G ≤ maxLen := by rw [hG]; exact grownCap_le_maxLen w (c + 1) c 68 (by unfold maxLen; omega)
  have hRl : ROW.toList.length = G * 2 := by
    rw [hROW, Array.length_toList, Array.size_append, Array.size_append, List.size_toArray, size_zeroCells, size_zeroCells, htl, show (Value.agg #[.int .i64 0, .int .i64 0]).cells.size = 2 from rfl]
    omega
  have hRt : ROW.toList.take (i * 2) = xs.take (i * 2) := by
    rw [hROW]
    simp only [Array.toList_append, List.append_assoc]
    rw [List.take_append_of_le_length (by simp [htl]), List.take_of_length_le (by simp [htl])]
  obtain ⟨s1, s2, s3⟩ := moved (x := x) (y := y) hRt hRl hxl hi hGn
  have hdl : (xs.drop (i * 2)).length = (c - i) * 2 := by rw [List.length_drop, hxl]; omega
  obtain ⟨R1, hR1⟩ : ∃ R1 : List Value, R1 = ROW.toList.take (i * 2) ++ [x, y] ++ ROW.toList.drop (i * 2 + 2) := ⟨_, rfl⟩
  rw [← hR1] at s1 s2 s3
  obtain ⟨R2, hR2⟩ : ∃ R2 : List Value, R2 = R1.take ((i + 1) * 2) ++ xs.drop (i * 2) ++ R1.drop ((i + 1) * 2 + (xs.drop (i * 2)).length) := ⟨_, rfl⟩
  rw [← hR2] at s1 s3
  have hgN : (w.alloc (.cells ROW 68)).heap[w.heap.size]? = some (.cells ROW 68 (0, 0)) := heap_alloc_new w _
  have hvN : (w.alloc (.cells ROW 68)).heap[vb]? = some (.cells #[x, y] 68 (0, 0)) := (Below.heap_alloc w _ _ hvw).trans hv
  have cellOf : ∀ (W W' : World) (p : Addr), W.heap = W'.heap → W.cell? p = W'.cell? p := fun W W' p e => by unfold World.cell?; rw [e]
  have hcpA : ∀ (W : World), W.heap = (w.alloc (.cells ROW 68)).heap → ∀ ty dc, (Builtin.copy_ #[58, 58] ty #[.slice (some ⟨w.heap.size, i * 2, none⟩) (c + 1 - i) dc, .slice (some ⟨vb, 0, none⟩) 1 1]).run Try.prog W = .ok (goInt 1) (W.setRow w.heap.size R1.toArray) := fun W hW ty dc => by
    have := run_copy_row2 (P := Try.prog) W 58 58 ty 68 w.heap.size (i * 2) (c + 1 - i) dc ⟨vb, 0, none⟩ 1 1 1 ROW 68 [x, y] Try.underlying58 sizeWay (by rw [hW]; exact hgN)
      (by simp only [Nat.min_def]; split <;> omega) rfl (World.news_of_block (cs := #[x, y]) (by rw [hW]; exact hvN)) (by rw [Array.length_toList] at hRl; simp only [List.length_cons, List.length_nil, hRl]; omega) (two_one_cells hx hy)
    rw [show (ROW.toList.take (i * 2) ++ [x, y] ++ ROW.toList.drop (i * 2 + [x, y].length)) = R1 from by rw [hR1]; rfl] at this
    exact this
  have hg1 : ((w.alloc (.cells ROW 68)).setRow w.heap.size R1.toArray).heap[w.heap.size]? = some (.cells R1.toArray 68 (0, 0)) := setRow_heap _ _ ROW _ _ _ hgN
  have hcpB : ∀ (W : World), W.heap = ((w.alloc (.cells ROW 68)).setRow w.heap.size R1.toArray).heap → ∀ ty dc sc, (Builtin.copy_ #[58, 58] ty #[.slice (some ⟨w.heap.size, (i + 1) * 2, none⟩) (c - i) dc, .slice (some ⟨g, i * 2, none⟩) (c - i) sc]).run Try.prog W = .ok (goInt ((c - i : Nat) : Int)) (W.setRow w.heap.size R2.toArray) := fun W hW ty dc sc => by
    have := run_copy_row2 (P := Try.prog) W 58 58 ty 68 w.heap.size ((i + 1) * 2) (c - i) dc ⟨g, i * 2, none⟩ (c - i) sc (c - i) R1.toArray 68 (xs.drop (i * 2)) Try.underlying58 sizeWay (by rw [hW]; exact hg1)
      (by simp only [Nat.min_def]; split <;> omega) hdl (fun j v hj => by
        have h0 := hdrop j v hj
        rw [cellOf W _ _ hW, addr_plus]
        rw [addr_plus] at h0
        have h2 : ((w.alloc (.cells ROW 68)).setRow w.heap.size R1.toArray).heap[g]? = w.heap[g]? := (setRow_other _ _ _ _ (by omega)).trans (Below.heap_alloc w _ _ hgw)
        exact (World.cell?_of_block (a := ⟨g, i * 2 + j, none⟩) h2).trans h0) (by simp only [hdl, List.size_toArray, s2]; omega) (fun v hv => h1 v (List.mem_of_mem_drop hv))
    rw [show (R1.toArray.toList.take ((i + 1) * 2) ++ xs.drop (i * 2) ++ R1.toArray.toList.drop ((i + 1) * 2 + (xs.drop (i * 2)).length)) = R2 from by rw [hR2]] at this
    exact this
  have HEND := Lib.hid (show ∀ (W : World), W.heap = (((w.alloc (.cells ROW 68)).setRow w.heap.size R1.toArray).setRow w.heap.size R2.toArray).heap → W.os = w.os → W.tape = w.tape → W.output = w.output → InsTo w B c i c (some ⟨g, 0, none⟩) xs x y (.returned (.slice (some ⟨w.heap.size, 0, none⟩) (c + 1) G)) W from by
    intro W hW ho ht hou
    refine ⟨some ⟨w.heap.size, 0, none⟩, G, rfl, ⟨?_, .inr ⟨w.heap.size, G, R2.toArray, rfl, hB, by rw [hW]; exact setRow_heap _ _ _ _ _ _ hg1, hGn, hGm, ?_, s1⟩⟩, ⟨ho, ht, hou, by rw [hW]; simp [World.setRow], fun k hk _ => ?_⟩, .inr rfl⟩
    · rw [← s1, List.length_take, s3]; omega
    · simp only [List.size_toArray, s3]
    · rw [hW]
      exact (setRow_other _ _ _ _ (by omega)).trans ((setRow_other _ _ _ _ (by omega)).trans (Below.heap_alloc w _ _ hk)))
  have hw1 : IntKind.i64.wrap ((i : Int) + 1) = (i : Int) + 1 := by rw [IntKind.wrap_i64]; omega
  have hb1 : (0 : Int) ≤ (i : Int) + 1 := by omega
  have hin : i ≤ c := by omega
  have htn : ((i : Int) + 1).toNat = i + 1 := by omega
  have hb5 : (i : Int) ≤ (c : Int) := by omega
  have hz2 : ((i : Int) == (c : Int)) = false := beq_no (by omega)
  have hz3 : (c : Int) < (c : Int) + 1 := by omega
  have hGi : ¬ (G = i) := by omega
  have hGim : ¬ (G = i + 1) := by omega
  have hci : ¬ (c = i) := by omega
  have hG63 : G ≤ 9223372036854775807 := by unfold maxLen at hGm; omega
  have HCB := Lib.hid hcpB
  have HCA := Lib.hid hcpA
  have HRZ := Lib.hid hrz
  clear s1 s2 s3 hdl hR1 hR2 hRl hRt hROW hG hkk hik hold htl htake hdrop hcell hxl h hv hgN hvN hg1 cellOf hcpA hcpB hrz hi0 hz0 hzs hzb
  go_enter Try.func50, Try.ntmps50
  have hA := HCA.out ((w.alloc (.cells ROW 68)).drew) rfl
  go_wp2_with (at_builtin; refine Lib.wpList_append_run _ rfl _ _ _ _ rfl _ _ rfl rfl _ _ (HRZ.out _) ?_)
  have hBq := HCB.out (((w.alloc (.cells ROW 68)).drew.setRow w.heap.size R1.toArray).drew) rfl
  go_region
  go_wp2_with fail
  go_ret
  exact HEND.out _ rfl rfl rfl rfl

theorem insert_any {B n c i vb : Nat} {A : Option Addr} {xs : List Value} {x y : Value} (w : World) (hB : B ≤ w.heap.size) (hn : n ≤ 100000) (hi : i ≤ n) (h : w.ownsRow B 68 2 (.slice A n c) n xs)
    (hv : w.heap[vb]? = some (.cells #[x, y] 68 (0, 0))) (hvb : Value.ownBlock (.slice A n c) ≠ some vb) (hx : x.oneCell' = true) (hy : y.oneCell' = true) (h1 : ∀ u ∈ xs, u.oneCell' = true) :
    Calls Try.prog 50 #[.slice A n c, .int .i64 (i : Int), .slice (some ⟨vb, 0, none⟩) 1 1] w (InsTo w B n i c A xs x y) := by
  by_cases hin : i = n
  · subst hin; exact insert_end w hB hn h hv hx hy
  · obtain ⟨g, cap, hvv, _, _⟩ := h.form (by omega)
    injection hvv with hA _ hc
    subst hA
    by_cases hr : n + 1 ≤ c
    · exact insert_room w hB (by omega) hr h hv (fun e => hvb (by rw [e]; rfl)) hx hy h1
    · exact insert_grow w hB hn (by omega) (by omega) h hv hx hy h1
end Go.Proofs.Ytohfkpoblebfaaa
