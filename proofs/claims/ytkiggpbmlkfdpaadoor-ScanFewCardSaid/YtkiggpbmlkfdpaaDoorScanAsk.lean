/- The walks of scan's is, space, sure, run, blanks. -/
import Derived.Test.YtkiggpbmlkfdpaaDoorScanAt
import Derived.Lib.MinMax
namespace Go.Proofs.YtkiggpbmlkfdpaaDoor
open Go.RowKit
set_option linter.unusedVariables false

/-- What a question leaves: an answer, the reader with so many points read, all below it as it was. -/
def Ask (B q : Nat) (t : List Rg) (ps : List Pt) (wide : Bool) (k0 m : Nat) (w : World) (v : Value) (e : Ending) (w' : World) : Prop :=
  e = .returned v ∧ Below q w w' ∧ ∃ k, RdAt w' B q t ps wide k ∧ k0 ≤ k ∧ min m ps.length ≤ k
theorem at_some {B q k0 i : Nat} {t : List Rg} {ps : List Pt} {wide : Bool} {a b : Int} {c : Nat} {d : Bool} (w : World) (h : RdAt w B q t ps wide k0) (hi : i ≤ 100000) (hp : ps[i]? = some ⟨a, b, c, d⟩) :
    Calls Tryd.prog 53 #[.pointer (some ⟨q, 0, none⟩), .int .i64 (i : Int)] w (Ask B q t ps wide k0 (i + 1) w (.tuple #[.agg #[.int .i64 a, .int .i64 b, .int .i64 (c : Int), .bool d], .bool true])) := by
  refine (at_any w h hi).mono ?_
  rintro e w' ⟨rfl, h1, h2⟩
  obtain ⟨hl, hg⟩ := List.getElem?_eq_some_iff.1 hp
  refine ⟨?_, h1, h2⟩
  rw [ptAt_get hl, hg, decide_eq_true hl]
  rfl
theorem at_none {B q k0 i : Nat} {t : List Rg} {ps : List Pt} {wide : Bool} (w : World) (h : RdAt w B q t ps wide k0) (hi : i ≤ 100000) (hp : ps[i]? = none) :
    Calls Tryd.prog 53 #[.pointer (some ⟨q, 0, none⟩), .int .i64 (i : Int)] w (Ask B q t ps wide k0 (i + 1) w (.tuple #[.agg #[.int .i64 0, .int .i64 0, .int .i64 0, .bool false], .bool false])) := by
  refine (at_any w h hi).mono ?_
  rintro e w' ⟨rfl, h1, h2⟩
  rw [List.getElem?_eq_none_iff] at hp
  refine ⟨?_, h1, h2⟩
  rw [ptAt_none hp, decide_eq_false (by omega)]
  rfl
theorem RdAt.size {w : World} {B q k : Nat} {t : List Rg} {ps : List Pt} {wide : Bool} (h : RdAt w B q t ps wide k) : q < w.heap.size ∧ ps.length ≤ 1000 ∧ k ≤ ps.length := by
  obtain ⟨A, n, c, At, nt, ct, Ar, cr, op, rest, h⟩ := h
  exact ⟨h.lt, h.few.1, h.len⟩
theorem RdAt.alloc {w : World} {B q k : Nat} {t : List Rg} {ps : List Pt} {wide : Bool} (h : RdAt w B q t ps wide k) (o : Obj) : RdAt (w.alloc o) B q t ps wide k := h.later ((Below.refl _ w).alloc (Nat.le_refl _) o)
theorem balloc {q : Nat} {w0 w : World} (h : Below q w0 w) (hq : q < w.heap.size) (o : Obj) : Below q w0 (w.alloc o) := h.alloc (Nat.le_of_lt hq) o
set_option maxHeartbeats 1000000 in
theorem is_any {B q k0 i : Nat} {t : List Rg} {ps : List Pt} {wide : Bool} (c : Int) (w : World) (h : RdAt w B q t ps wide k0) (hi : i ≤ 100000) {o : Bool} (ho : isP ps i c = o) :
    Calls Tryd.prog 60 #[.pointer (some ⟨q, 0, none⟩), .int .i64 (i : Int), .int .i64 c] w (Ask B q t ps wide k0 (i + 1) w (.bool o)) := by
  have H := Lib.hid h
  clear h
  unfold isP at ho
  cases hp : ps[i]? with
  | none =>
    rw [hp] at ho
    have HP := Lib.hid hp
    have HO := Lib.hid ho
    clear hp ho
    go_enter Tryd.func60, Tryd.ntmps60
    go_wp2_with fail
    refine (at_none w H.out hi HP.out).mono ?_
    rintro e w2 ⟨rfl, hb, k, hr, hk⟩
    have HB := Lib.hid hb
    have HR := Lib.hid hr
    have HK := Lib.hid hk
    clear hb hr hk
    go_wp2_with fail
    go_ret
    exact ⟨by rw [← HO.out]; rfl, balloc HB.out HR.out.size.1 _, k, HR.out.alloc _, HK.out⟩
  | some p =>
    rw [hp] at ho
    obtain ⟨a, b, n, d⟩ := p
    have HP := Lib.hid hp
    have HO := Lib.hid ho
    clear hp ho
    go_enter Tryd.func60, Tryd.ntmps60
    go_wp2_with fail
    refine (at_some w H.out hi HP.out).mono ?_
    rintro e w2 ⟨rfl, hb, k, hr, hk⟩
    have HB := Lib.hid hb
    have HR := Lib.hid hr
    have HK := Lib.hid hk
    clear hb hr hk
    go_wp2_with fail
    go_ret
    exact ⟨by rw [← HO.out]; rfl, balloc HB.out HR.out.size.1 _, k, HR.out.alloc _, HK.out⟩
set_option maxHeartbeats 1000000 in
theorem space_any {B q k0 i : Nat} {t : List Rg} {ps : List Pt} {wide : Bool} (w : World) (h : RdAt w B q t ps wide k0) (hi : i ≤ 100000) {o : Bool} (ho : spP ps i = o) :
    Calls Tryd.prog 54 #[.pointer (some ⟨q, 0, none⟩), .int .i64 (i : Int)] w (Ask B q t ps wide k0 (i + 1) w (.bool o)) := by
  have H := Lib.hid h
  clear h
  unfold spP at ho
  cases hp : ps[i]? with
  | none =>
    rw [hp] at ho
    have HP := Lib.hid hp
    have HO := Lib.hid ho
    clear hp ho
    go_enter Tryd.func54, Tryd.ntmps54
    go_wp2_with fail
    refine (at_none w H.out hi HP.out).mono ?_
    rintro e w2 ⟨rfl, hb, k, hr, hk⟩
    have HB := Lib.hid hb
    have HR := Lib.hid hr
    have HK := Lib.hid hk
    clear hb hr hk
    go_wp2_with fail
    go_ret
    exact ⟨by rw [← HO.out]; rfl, balloc HB.out HR.out.size.1 _, k, HR.out.alloc _, HK.out⟩
  | some p =>
    rw [hp] at ho
    obtain ⟨a, b, n, d⟩ := p
    have HP := Lib.hid hp
    have HO := Lib.hid (show isSp b = o from ho)
    clear hp ho
    go_enter Tryd.func54, Tryd.ntmps54
    go_wp2_with fail
    refine (at_some w H.out hi HP.out).mono ?_
    rintro e w2 ⟨rfl, hb, k, hr, hk⟩
    have HB := Lib.hid hb
    have HR := Lib.hid hr
    have HK := Lib.hid hk
    clear hb hr hk
    go_wp2_with fail
    refine (isSpace_as _ HO).mono ?_
    rintro e w' ⟨rfl, rfl⟩
    go_wp2_with fail
    go_ret
    exact ⟨rfl, balloc HB.out HR.out.size.1 _, k, HR.out.alloc _, HK.out⟩
set_option maxHeartbeats 1000000 in
theorem sure_any {B q k0 n : Nat} {t : List Rg} {ps : List Pt} {wide : Bool} (w : World) (h : RdAt w B q t ps wide k0) (hn : n ≤ 100000) {o : Bool} (ho : sureP ps n = o) :
    Calls Tryd.prog 40 #[.pointer (some ⟨q, 0, none⟩), .int .i64 (n : Int)] w (Ask B q t ps wide k0 n w (.bool o)) := by
  have H := Lib.hid h
  clear h
  unfold sureP at ho
  obtain ⟨i, hi⟩ : ∃ i, n - 1 = i := ⟨_, rfl⟩
  rw [hi] at ho
  have hmx : max (0 : Int) ((n : Int) - 1) = (i : Int) := by omega
  have hwi : IntKind.i64.wrap ((n : Int) - 1) = (n : Int) - 1 := by rw [IntKind.wrap_i64]; omega
  have hi1 : i ≤ 100000 := by omega
  have HI := Lib.hid (show n ≤ i + 1 from by omega)
  clear hi
  cases hp : ps[i]? with
  | none =>
    rw [hp] at ho
    have HP := Lib.hid hp
    have HO := Lib.hid ho
    clear hp ho
    go_enter Tryd.func40, Tryd.ntmps40
    go_wp2_with fail
    refine (at_none w H.out hi1 HP.out).mono ?_
    rintro e w2 ⟨rfl, hb, k, hr, hk⟩
    have HB := Lib.hid hb
    have HR := Lib.hid hr
    have HK := Lib.hid hk
    clear hb hr hk
    go_wp2_with fail
    go_ret
    exact ⟨by rw [← HO.out]; rfl, balloc HB.out HR.out.size.1 _, k, HR.out.alloc _, HK.out.1, by have := HK.out.2; have := HI.out; omega⟩
  | some p =>
    rw [hp] at ho
    obtain ⟨a, b, m, d⟩ := p
    have HP := Lib.hid hp
    have HO := Lib.hid (show d = o from ho)
    clear hp ho
    go_enter Tryd.func40, Tryd.ntmps40
    go_wp2_with fail
    refine (at_some w H.out hi1 HP.out).mono ?_
    rintro e w2 ⟨rfl, hb, k, hr, hk⟩
    have HB := Lib.hid hb
    have HR := Lib.hid hr
    have HK := Lib.hid hk
    clear hb hr hk
    go_wp2_with fail
    go_ret
    exact ⟨by rw [← HO.out]; rfl, balloc HB.out HR.out.size.1 _, k, HR.out.alloc _, HK.out.1, by have := HK.out.2; have := HI.out; omega⟩
end Go.Proofs.YtkiggpbmlkfdpaaDoor
