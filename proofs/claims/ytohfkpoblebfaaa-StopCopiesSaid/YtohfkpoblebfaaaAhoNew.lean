/- The walk of New. -/
import Derived.Test.YtohfkpoblebfaaaAhoPats
import Derived.Test.YtohfkpoblebfaaaAhoPut
import Derived.Test.YtohfkpoblebfaaaAhoFalls
namespace Go.Proofs.Ytohfkpoblebfaaa
open Go.RowKit
set_option linter.unusedVariables false

/-- A machine of patterns. -/
def NewTo (l : List Wd) (w : World) (e : Ending) (w' : World) : Prop := ∃ (B g : Nat) (ns : List Nd) (W : List Wd) (f : Vs) (A : Option Addr) (c : Nat), e = .returned (.tuple #[.pointer (some ⟨g, 0, none⟩), .int .i64 0]) ∧ Mach w' B g ns f A c ∧ Ready l W ns ∧ Holds l W ∧ W.length ≤ 3000 ∧ w.heap.size ≤ B ∧ B ≤ g ∧ Below w.heap.size w w'
/-- The machine while the first k patterns are in. -/
structure Made (w0 wr : World) (B g : Nat) (l : List Wd) (k : Nat) (ns : List Nd) (W : List Wd) (f : Vs) (A : Option Addr) (c : Nat) : Prop where
  mach : Mach wr B g ns f A c
  trie : Trie ns W
  owns : Owns (l.take k) ns W
  pats : Pats (l.take k) W
  holds : Holds (l.take k) W
  len : W.length ≤ 1 + 64 * k
  below : Below B w0 wr
theorem first_trie : Trie [Nd.new 0] [[]] := by
  have hz : ∀ i, i < [([] : Wd)].length → i = 0 := fun i hi => by simpa using hi
  refine ⟨rfl, ⟨by decide, rfl⟩, fun i j hi hj _ => by rw [hz i hi, hz j hj], fun i hi => by rw [hz i hi]; trivial, ?_, ?_, fun i hi => by rw [hz i hi]; rfl⟩
  · intro i hi s t
    rw [hz i hi]
    constructor
    · intro h; simp [nd, Nd.new] at h
    · rintro ⟨ht, he⟩
      rw [hz t ht] at he
      simp [wd] at he
  · intro t ht u s he
    rw [hz t ht] at he
    simp [wd] at he
theorem first_made {w : World} {l : List Wd} : Made ((w.alloc (.cells #[.slice none 0 0, .int .i64 0, .int .i64 0, .int .i64 (-1), .int .i64 0] 60)).alloc (.cells #[.slice (some ⟨w.heap.size, 0, none⟩) 1 1] 63))
    ((w.alloc (.cells #[.slice none 0 0, .int .i64 0, .int .i64 0, .int .i64 (-1), .int .i64 0] 60)).alloc (.cells #[.slice (some ⟨w.heap.size, 0, none⟩) 1 1] 63)) w.heap.size (w.heap.size + 1) l 0 [Nd.new 0] [[]] (fun _ => (none, 0)) (some ⟨w.heap.size, 0, none⟩) 1 := by
  have hz : ∀ i, i < [Nd.new 0].length → i = 0 := fun i hi => by simpa using hi
  refine ⟨⟨?_, ?_, ?_, ?_⟩, first_trie, ?_, ?_, ?_, by simp, Below.refl _ _⟩
  · have h := heap_alloc_new (w.alloc (.cells #[.slice none 0 0, .int .i64 0, .int .i64 0, .int .i64 (-1), .int .i64 0] 60)) (.cells #[.slice (some ⟨w.heap.size, 0, none⟩) 1 1] 63)
    rw [World.size_alloc] at h
    exact h
  · refine ⟨rfl, .inr ⟨w.heap.size, 1, #[.slice none 0 0, .int .i64 0, .int .i64 0, .int .i64 (-1), .int .i64 0], rfl, Nat.le_refl _, ?_, Nat.le_refl _, by unfold maxLen; omega, rfl, rfl⟩⟩
    exact (Below.heap_alloc _ _ _ (by simp)).trans (heap_alloc_new w _)
  · intro i hi; rw [hz i hi]; exact World.ownsRow_nil _ _ _ _
  · intro i j hi hj hij; exact absurd ((hz i hi).trans (hz j hj).symm) hij
  · intro j hj
    obtain rfl : j = 0 := by simpa using hj
    exact ⟨rfl, rfl, rfl⟩
  · intro p hp; simp at hp
  · intro u; simp
theorem Made.next {w0 wr w' : World} {B g k c : Nat} {l : List Wd} {ns : List Nd} {W : List Wd} {f : Vs} {A : Option Addr} {p : Wd} {e : Ending} (h : Made w0 wr B g l k ns W f A c) (hp : l.take (k + 1) = l.take k ++ [p]) (hpl : p.length ≤ 64) (hpt : PutTo wr B g (l.take k) W p e w') :
    ∃ (ns' : List Nd) (W' : List Wd) (f' : Vs) (A' : Option Addr) (c' : Nat), e = .returned (.tuple #[]) ∧ Made w0 w' B g l (k + 1) ns' W' f' A' c' := by
  obtain ⟨ns', W', f', A', c', rfl, hm, ht, ho, hpa, hw, hl, hb⟩ := hpt
  refine ⟨ns', W', f', A', c', rfl, hm, ht, by rw [hp]; exact ho, by rw [hp]; exact hpa, ?_, by have := h.len; omega, h.below.trans hb⟩
  intro u
  rw [hw u, h.holds u, hp]
  constructor
  · rintro ((h1 | ⟨q, hq, h1⟩) | h1)
    · exact .inl h1
    · exact .inr ⟨q, List.mem_append.2 (.inl hq), h1⟩
    · exact .inr ⟨p, List.mem_append.2 (.inr (by simp)), h1⟩
  · rintro (h1 | ⟨q, hq, h1⟩)
    · exact .inl (.inl h1)
    · rcases List.mem_append.1 hq with hq | hq
      · exact .inl (.inr ⟨q, hq, h1⟩)
      · rw [List.mem_singleton.1 hq] at h1; exact .inr h1

set_option maxRecDepth 100000 in
set_option maxHeartbeats 1000000 in
theorem new_no {n c : Nat} {A : Option Addr} {l : List Wd} {v : Vs} (w : World) (h : PatsAt w w.heap.size A n c l v) (hm : ¬ mayP l) :
    Calls Try.prog 15 #[.slice A n c] w fun e w' => e = .returned (.tuple #[.pointer none, .int .i64 1]) ∧ Below w.heap.size w w' := by
  have HH := Lib.hid h
  have hl := h.len
  by_cases h1 : 32 < n
  · have h1' : (32 : Int) < (n : Int) := by omega
    clear hl hm h
    go_enter Try.func15, Try.ntmps15
    go_wp2_with fail
    go_ret2
    exact ⟨rfl, Below.refl _ _⟩
  · have h1' : ¬ (32 : Int) < (n : Int) := by omega
    have hok : okAll l = false := by
      cases hx : okAll l with
      | false => rfl
      | true => exact absurd ⟨by omega, hx⟩ hm
    have HOK := Lib.hid hok
    clear hl hm h hok
    go_enter Try.func15, Try.ntmps15
    go_wp2_with fail
    refine (contains_any _ HH.out).mono ?_
    rw [HOK.out]
    rintro e w' ⟨rfl, rfl⟩
    go_wp2_with fail
    go_ret2
    exact ⟨rfl, Below.refl _ _⟩

set_option maxRecDepth 100000 in
set_option maxHeartbeats 2000000 in
theorem new_yes {n c : Nat} {A : Option Addr} {l : List Wd} {v : Vs} (w : World) (h : PatsAt w w.heap.size A n c l v) (hm : mayP l) :
    Calls Try.prog 15 #[.slice A n c] w (NewTo l w) := by
  have HH := Lib.hid h
  have hl := h.len
  have h1 : ¬ (32 : Int) < (n : Int) := by have := hm.1; omega
  have hn32 : n ≤ 32 := by omega
  have hcap := h.cap
  unfold maxLen at hcap
  obtain ⟨hc1, hc2⟩ := hcap
  have HOK := Lib.hid hm.2
  have HL := Lib.hid hl
  clear hl hm h
  go_enter Try.func15, Try.ntmps15
  go_wp2_with fail
  refine (contains_any _ HH.out).mono ?_
  rw [HOK.out]
  rintro e w' ⟨rfl, rfl⟩
  go_wp2_with fail
  obtain ⟨w0, hw0⟩ : ∃ w0, w0 = (w.alloc (.cells #[.slice none 0 0, .int .i64 0, .int .i64 0, .int .i64 (-1), .int .i64 0] 60)).alloc (.cells #[.slice (some ⟨w.heap.size, 0, none⟩) 1 1] 63) := ⟨_, rfl⟩
  have M0 := Lib.hid (first_made (w := w) (l := l))
  have B0 := Lib.hid (show Below w.heap.size w w0 from by rw [hw0]; exact ((Below.refl _ w).alloc (Nat.le_refl _) _).alloc (by simp) _)
  rw [← hw0] at M0 ⊢
  clear hw0
  go_loopw [22] (fun i wr => ∃ (k : Nat) (ns : List Nd) (W : List Wd) (f : Vs) (A1 : Option Addr) (c1 : Nat), i = .int .i64 k ∧ k ≤ n ∧ Made w0 wr w.heap.size (w.heap.size + 1) l k ns W f A1 c1) (fun i _ => n - (intOf i).toNat)
  case atStart => exact ⟨0, _, _, _, _, _, rfl, Nat.zero_le _, M0.out⟩
  case round =>
    obtain ⟨k, ns, W, f, A1, c1, rfl, hk, hmd⟩ := hrel
    have MD := Lib.hid hmd
    have hWl := hmd.len
    clear hmd
    by_cases hlt : k < n
    · have hkl : k < l.length := by have := HL.out; omega
      have BW := Lib.hid (B0.out.trans MD.out.below)
      obtain ⟨b, off, rfl, hb, hc⟩ := HH.out.cells (by omega)
      have e0 : wr.cell? ⟨b, off + k, none⟩ = some (.slice (v k).1 (wd l k).length (v k).2) := (BW.out.cell (p := ⟨b, off + k, none⟩) hb).trans (hc k hlt)
      have hok := okAll_iff.1 HOK.out k hkl
      unfold okP at hok
      have hok := of_decide_eq_true hok
      have HT := Lib.hid (show l.take (k + 1) = l.take k ++ [wd l k] from by rw [List.take_add_one, List.getElem?_eq_getElem hkl, wd_get hkl]; rfl)
      have HPUT := put_any (l := l.take k) (p := wd l k) wr (Nat.le_succ _) MD.out.mach MD.out.trie MD.out.owns MD.out.pats (by omega) (RowAt.below (HH.out.rows k hlt) BW.out) (fun e => by rw [e] at hok; simp at hok) (by omega)
      rw [List.length_take, Nat.min_eq_left (Nat.le_of_lt hkl)] at HPUT
      have HP := Lib.hid HPUT
      have hpl := hok.2
      clear HPUT hc hok
      go_wp2_with fail
      refine HP.out.mono ?_
      intro e w2 hz
      obtain ⟨ns', W', f', A', c', rfl, hm2⟩ := MD.out.next HT.out hpl hz
      have M2 := Lib.hid hm2
      clear hz hm2 e0
      go_wp2_with fail
      go_roundw
      case rel => exact ⟨k + 1, ns', W', f', A', c', by go_num, by omega, M2.out⟩
      case measure => simp [intOf]; omega
    · obtain rfl : k = n := by omega
      have HTK := Lib.hid (show l.take k = l from List.take_of_length_le (by have := HL.out; omega))
      have HOW := Lib.hid (show Owns l ns W from by have := MD.out.owns; rw [HTK.out] at this; exact this)
      have HPA := Lib.hid (show Pats l W from by have := MD.out.pats; rw [HTK.out] at this; exact this)
      have HHO := Lib.hid (show Holds l W from by have := MD.out.holds; rw [HTK.out] at this; exact this)
      go_wp2_with fail
      refine (falls_any (l := l) wr (Nat.le_succ _) MD.out.mach MD.out.trie HOW.out HPA.out (by omega)).mono ?_
      rintro e w2 ⟨ns', rfl, hm2, hr2, hb2⟩
      have M2 := Lib.hid hm2
      have R2 := Lib.hid hr2
      have B2 := Lib.hid hb2
      clear hm2 hr2 hb2
      go_wp2_with fail
      go_ret2
      exact ⟨w.heap.size, w.heap.size + 1, ns', W, f, A1, c1, rfl, M2.out, R2.out, HHO.out, by omega, Nat.le_refl _, Nat.le_succ _, (B0.out.trans MD.out.below).trans B2.out⟩
end Go.Proofs.Ytohfkpoblebfaaa
