/- Words for memory: a slice value that reads as a list of cells, kept over whatever turns only newer blocks; append onto a row of the call's own. -/
import Derived.Test.YthhcdblkbdnbeaaBase
import Derived.Below
import Derived.Laws.OwnMore
import Derived.Deep.AppendLies
import Derived.Deep.Draws
import Derived.Maps.AppendAt
import Derived.RegionTactic
import Derived.OwnWalk
import Derived.Laws.IdiomStrings
import Derived.Laws.BytesArg
namespace Go.Proofs.Ythhcdblkbdnbeaa
open Go.RowKit

/-- The slice value 'A, n, c' holds the cells xs (size cells an element), below block B. -/
def RowAt (w : World) (B size : Nat) (A : Option Addr) (n c : Nat) (xs : List Value) : Prop :=
  xs.length = n * size ∧ n ≤ c ∧ c ≤ maxLen ∧ (0 < n → ∃ b off, A = some ⟨b, off, none⟩ ∧ b < B ∧ ∀ j u, xs[j]? = some u → w.cell? ⟨b, off + j, none⟩ = some u)

section
variable {w w' : World} {B B' size n c : Nat} {A : Option Addr} {xs : List Value}
theorem RowAt.nil : RowAt w B size none 0 0 [] := ⟨by simp, Nat.le_refl _, Nat.zero_le _, fun h => absurd h (by omega)⟩
theorem RowAt.keep (h : RowAt w B size A n c xs) (hk : ∀ p : Addr, p.block < B → w'.cell? p = w.cell? p) : RowAt w' B size A n c xs :=
  ⟨h.1, h.2.1, h.2.2.1, fun hn => by
    obtain ⟨b, off, e, hb, hc⟩ := h.2.2.2 hn
    exact ⟨b, off, e, hb, fun j u hu => (hk _ hb).trans (hc j u hu)⟩⟩
theorem RowAt.mono (h : RowAt w B size A n c xs) (hB : B ≤ B') : RowAt w B' size A n c xs :=
  ⟨h.1, h.2.1, h.2.2.1, fun hn => by
    obtain ⟨b, off, e, hb, hc⟩ := h.2.2.2 hn
    exact ⟨b, off, e, by omega, hc⟩⟩
theorem RowAt.below (h : RowAt w B size A n c xs) (hb : Below B w w') : RowAt w' B size A n c xs := h.keep fun _ hp => hb.cell hp
theorem RowAt.drew (h : RowAt w B size A n c xs) : RowAt w.drew B size A n c xs := h
theorem RowAt.drewN (h : RowAt w B size A n c xs) (k : Nat) : RowAt (w.drewN k) B size A n c xs := h
theorem RowAt.alloc (h : RowAt w B size A n c xs) (hB : B ≤ w.heap.size) (o : Obj) : RowAt (w.alloc o) B size A n c xs := h.keep fun p hp => World.cell?_alloc_lt w o p (by omega)
theorem RowAt.setCell (h : RowAt w B size A n c xs) {p : Addr} (hB : B ≤ p.block) (u : Value) : RowAt (w.setCell p u) B size A n c xs :=
  h.keep fun q hq => World.cell?_setCell_other w p q u (fun e => by subst e; omega)
theorem RowAt.grown (h : RowAt w B size A n c xs) {row : Option Nat} (hg : w.grownBy w' row) (hB : B ≤ w.heap.size) (hr : ∀ g, row = some g → B ≤ g) : RowAt w' B size A n c xs :=
  h.keep fun p hp => World.cell?_of_block (hg.block p.block (by omega) (fun e => by have := hr _ e.symm; omega))
theorem RowAt.from_ (h : RowAt w B size A n c xs) {k : Nat} (hk : k ≤ n) : RowAt w B size (if c = k then A else A.map (·.add (k * size))) (n - k) (c - k) (xs.drop (k * size)) := by
  refine ⟨by rw [List.length_drop, h.1, Nat.sub_mul], by have := h.2.1; omega, by have := h.2.2.1; omega, fun hn => ?_⟩
  obtain ⟨b, off, rfl, hb, hc⟩ := h.2.2.2 (by omega)
  have hc0 := h.2.1
  rw [if_neg (by omega)]
  have e : (Option.map (fun x : Addr => x.add (k * size)) (some ⟨b, off, none⟩)) = some ⟨b, off + k * size, none⟩ := by
    simp only [Option.map_some, Addr.add]
    split
    · rename_i hz; rw [hz]; rfl
    · rfl
  refine ⟨b, off + k * size, e, hb, fun j u hu => ?_⟩
  rw [Nat.add_assoc]
  exact hc _ u (by rw [← hu, List.getElem?_drop])
theorem RowAt.to_ (h : RowAt w B size A n c xs) {k : Nat} (hk : k ≤ n) : RowAt w B size A k c (xs.take (k * size)) := by
  refine ⟨by rw [List.length_take, h.1]; exact Nat.min_eq_left (Nat.mul_le_mul_right _ hk), by have := h.2.1; omega, h.2.2.1, fun hn => ?_⟩
  obtain ⟨b, off, rfl, hb, hc⟩ := h.2.2.2 (by omega)
  refine ⟨b, off, rfl, hb, fun j u hu => hc j u ?_⟩
  rw [List.getElem?_take] at hu
  split at hu
  · exact hu
  · cases hu
theorem RowAt.of_own {base : Nat} {e : TypeId} (h : w.ownsRow base e size (.slice A n c) n xs) : RowAt w w.heap.size size A n c xs := by
  refine ⟨h.1, ?_, ?_, fun hn => ?_⟩
  · rcases h.2 with ⟨hv, _⟩ | ⟨g, cap, cur, hv, _, _, hnc, _⟩
    · injection hv; omega
    · injection hv; omega
  · rcases h.2 with ⟨hv, _⟩ | ⟨g, cap, cur, hv, _, _, _, hcm, _⟩
    · injection hv; subst_vars; exact Nat.zero_le _
    · injection hv; omega
  · obtain ⟨g, cap, hv, _, hlt⟩ := h.form hn
    have hA : A = some ⟨g, 0, none⟩ := by injection hv
    subst hA
    refine ⟨g, 0, rfl, hlt, fun j u hu => ?_⟩
    have := h.cells (g := g) rfl j u hu
    simp only [Addr.add] at this
    split at this
    · rename_i hj; subst hj; exact this
    · exact this
end

/-- The cells of a row of bytes, of ints. -/
def bytesV (l : List UInt8) : List Value := l.map fun x => .int .u8 (x.toNat : Int)
def intsV (l : List Int) : List Value := l.map fun x => .int .i64 x
theorem length_bytesV (l : List UInt8) : (bytesV l).length = l.length := by simp [bytesV]
theorem length_intsV (l : List Int) : (intsV l).length = l.length := by simp [intsV]
def BytesAt (w : World) (B : Nat) (A : Option Addr) (n c : Nat) (l : List UInt8) : Prop := RowAt w B 1 A n c (bytesV l)
def IntsAt (w : World) (B : Nat) (A : Option Addr) (n c : Nat) (l : List Int) : Prop := RowAt w B 1 A n c (intsV l)
section
variable {w w' : World} {B B' n c : Nat} {A : Option Addr} {l : List UInt8}
theorem BytesAt.len (h : BytesAt w B A n c l) : n = l.length := by have := h.1; rw [length_bytesV] at this; omega
theorem BytesAt.cells (h : BytesAt w B A n c l) (h0 : 0 < n) : ∃ b off, A = some ⟨b, off, none⟩ ∧ b < B ∧ ∀ i (hi : i < l.length), w.cell? ⟨b, off + i, none⟩ = some (.int .u8 (l[i].toNat : Int)) := by
  obtain ⟨b, off, e, hb, hc⟩ := h.2.2.2 h0
  refine ⟨b, off, e, hb, fun i hi => hc i _ ?_⟩
  simp [bytesV, List.getElem?_eq_getElem hi]
theorem BytesAt.from_ (h : BytesAt w B A n c l) {k : Nat} (hk : k ≤ n) : BytesAt w B (if c = k then A else A.map (·.add k)) (n - k) (c - k) (l.drop k) := by
  have := RowAt.from_ h hk
  rw [Nat.mul_one] at this
  unfold BytesAt
  rw [show bytesV (l.drop k) = (bytesV l).drop k from by simp [bytesV, List.map_drop]]
  exact this
theorem BytesAt.to_ (h : BytesAt w B A n c l) {k : Nat} (hk : k ≤ n) : BytesAt w B A k c (l.take k) := by
  have := RowAt.to_ h hk
  rw [Nat.mul_one] at this
  unfold BytesAt
  rw [show bytesV (l.take k) = (bytesV l).take k from by simp [bytesV, List.map_take]]
  exact this
end
section
variable {w w' : World} {B B' n c : Nat} {A : Option Addr} {l : List Int}
theorem IntsAt.len (h : IntsAt w B A n c l) : n = l.length := by have := h.1; rw [length_intsV] at this; omega
theorem IntsAt.cells (h : IntsAt w B A n c l) (h0 : 0 < n) : ∃ b off, A = some ⟨b, off, none⟩ ∧ b < B ∧ ∀ i (hi : i < l.length), w.cell? ⟨b, off + i, none⟩ = some (.int .i64 l[i]) := by
  obtain ⟨b, off, e, hb, hc⟩ := h.2.2.2 h0
  refine ⟨b, off, e, hb, fun i hi => hc i _ ?_⟩
  simp [intsV, List.getElem?_eq_getElem hi]
end

theorem addr_plus (b off i : Nat) : (⟨b, off, none⟩ : Addr).add i = ⟨b, off + i, none⟩ := by
  unfold Addr.add
  split
  · rename_i h; rw [h]; rfl
  · rfl
theorem own_form {w : World} {base : Nat} {e : TypeId} {size : Nat} {v : Value} {n : Nat} {xs : List Value} (h : w.ownsRow base e size v n xs) : ∃ A c, v = .slice A n c := by
  rcases h.2 with ⟨rfl, rfl⟩ | ⟨g, cap, cur, rfl, _⟩
  · exact ⟨_, _, rfl⟩
  · exact ⟨_, _, rfl⟩
theorem own_empty (w : World) (e : TypeId) (size : Nat) : (w.alloc (.cells #[] e)).ownsRow w.heap.size e size (.slice (some ⟨w.heap.size, 0, none⟩) 0 0) 0 [] :=
  World.ownsRow_lit w #[] 0 (Nat.le_refl _) (Nat.zero_le _) (by simp)
theorem run_append_row {P : Program} (w : World) (base : Nat) (t ty e : TypeId) (z : Value) (size bytes : Nat) (ht : P.underlying t = some (.slice e)) (hinfo : (P.info? e).map (fun i => (i.zero, i.size, i.bytes)) = some (some z, size, bytes))
    (hzs : z.cells.size = size) (hsz : 0 < size) (v : Value) (n : Nat) (xs : List Value) (hown : w.ownsRow base e size v n xs) (B : Nat) (A : Option Addr) (m c : Nat) (news : List Value) (hr : RowAt w B size A m c news)
    (h1 : ∀ u ∈ news, u.oneCell' = true) (h63 : n + m ≤ maxLen) (hbytes : (n + m) * bytes ≤ 140737488355328) (hbase : base ≤ w.heap.size) :
    ∃ v' w', (Builtin.append_ #[t, t] ty #[v, .slice A m c]).run P w = .ok v' w' ∧ w'.ownsRow base e size v' (n + m) (xs ++ news) ∧ w.grownBy w' v.ownBlock := by
  obtain ⟨i, hi, hz0, hz1, hz2⟩ := info_parts hinfo
  rcases A with _ | ad
  · have hm : m = 0 := by
      rcases Nat.eq_zero_or_pos m with h0 | h0
      · exact h0
      · obtain ⟨b, off, he, _⟩ := hr.2.2.2 h0
        cases he
    subst hm
    have hn : news = [] := List.eq_nil_of_length_eq_zero (by simpa using hr.1)
    subst hn
    refine ⟨v, w, ?_, by simpa using hown, World.grownBy.refl w _⟩
    rcases hown.2 with ⟨rfl, rfl⟩ | ⟨g, cap, cur, rfl, _, _, hnc, _⟩
    · simp [Builtin.append_, run_underlying ht, sizeOf, typeInfo, hi, Builtin.lenOf, Builtin.firstCells]
    · simp [Builtin.append_, run_underlying ht, sizeOf, typeInfo, hi, Builtin.lenOf, Builtin.firstCells, hnc, storeCells]
  · have hcells : ∀ j u, news[j]? = some u → w.cell? (ad.add j) = some u := by
      intro j u hu
      rcases Nat.eq_zero_or_pos m with h0 | h0
      · subst h0
        have hn : news = [] := List.eq_nil_of_length_eq_zero (by simpa using hr.1)
        subst hn
        simp at hu
      · obtain ⟨b, off, he, _, hc⟩ := hr.2.2.2 h0
        injection he with he
        subst he
        rw [addr_plus]
        exact hc j u hu
    obtain ⟨v', w', hrun, h2, h3, _⟩ := run_append_own (P := P) w base t ty e i z size bytes ht hi hz0 hz1 hz2 hzs hsz v n xs hown ad m c news hr.1 hcells h1 h63 hbytes hbase
    exact ⟨v', w', hrun, h2, h3⟩
/-- append of a whole row, nil or not, onto a row of the call's own. -/
theorem wpList_append_row {P : Program} {ops : Array Oper} {rest : List Oper} {o : Oper} {a : Act} {Q : Exit → Act → World → Prop} {w : World} (hgd : o.guard = none) (s x : Operand) (t : TypeId)
    (ho : o.op = .call { callee := .builtin .append, args := #[s, x], argTypes := #[t, t] })
    (base : Nat) (e : TypeId) (z : Value) (size bytes : Nat) (ht : P.underlying t = some (.slice e)) (hinfo : (P.info? e).map (fun i => (i.zero, i.size, i.bytes)) = some (some z, size, bytes)) (hzs : z.cells.size = size) (hsz : 0 < size)
    (v : Value) (n : Nat) (xs : List Value) (hs : a.eval s = v) (hown : w.ownsRow base e size v n xs) (B : Nat) (A : Option Addr) (m c : Nat) (news : List Value) (hx : a.eval x = .slice A m c) (hr : RowAt w B size A m c news)
    (h1 : ∀ u ∈ news, u.oneCell' = true) (N : Nat) (hN : n + m = N) (ys : List Value) (hys : xs ++ news = ys) (h63 : N ≤ maxLen) (hbytes : N * bytes ≤ 140737488355328) (hbase : base ≤ w.heap.size)
    (h : ∀ A' c' w', w'.ownsRow base e size (.slice A' N c') N ys → Below base w w' → w.grownBy w' v.ownBlock → wpList P ops Q rest (a.put o.dst (.slice A' N c')) w') : wpList P ops Q (o :: rest) a w := by
  subst hN hys
  refine wpList_plain hgd fun _ hK => ?_
  obtain ⟨v', w', hrun, h2, h3⟩ := run_append_row (P := P) w base t o.type e z size bytes ht hinfo hzs hsz v n xs hown B A m c news hr h1 h63 hbytes hbase
  unfold Oper.wp execOp
  simp only [ho, resolve, invoke, builtin, Sem.run_bind, Sem.run_pure, Result.andThen_ok, List.map_toArray, List.map_cons, List.map_nil, hs, hx, hrun]
  obtain ⟨A', c', rfl⟩ := own_form h2
  exact hK _ _ (h A' c' w' h2 ((Below.refl base w).grown h3 hbase (fun k hk => (hown.lt k hk).1)) h3)
theorem one_bytes {l : List UInt8} : ∀ u ∈ bytesV l, u.oneCell' = true := by
  intro u hu
  simp only [bytesV, List.mem_map] at hu
  obtain ⟨x, _, rfl⟩ := hu
  rfl
theorem one_ints {l : List Int} : ∀ u ∈ intsV l, u.oneCell' = true := by
  intro u hu
  simp only [intsV, List.mem_map] at hu
  obtain ⟨x, _, rfl⟩ := hu
  rfl
/-- append of one value (in the new one-cell block that the statement has just laid) onto a row of the call's own. -/
theorem wpList_append_one {P : Program} {ops : Array Oper} {rest : List Oper} {o : Oper} {a : Act} {Q : Exit → Act → World → Prop} (hgd : o.guard = none) (s x : Operand) (t : TypeId)
    (ho : o.op = .call { callee := .builtin .append, args := #[s, x], argTypes := #[t, t] })
    (base : Nat) (e : TypeId) (z : Value) (bytes : Nat) (ht : P.underlying t = some (.slice e)) (hinfo : (P.info? e).map (fun i => (i.zero, i.size, i.bytes)) = some (some z, 1, bytes)) (hzs : z.cells.size = 1)
    (v : Value) (n : Nat) (xs : List Value) (hs : a.eval s = v) (w0 : World) (u : Value) (hx : a.eval x = .slice (some ⟨w0.heap.size, 0, none⟩) 1 1) (hown : w0.ownsRow base e 1 v n xs) (h1 : u.oneCell' = true)
    (hbase : base ≤ w0.heap.size) (hbytes : (n + 1) * bytes ≤ 140737488355328) (h63 : n + 1 ≤ maxLen)
    (h : ∀ v' w', w'.ownsRow base e 1 v' (n + 1) (xs ++ [u]) → Below base w0 w' → (w0.alloc (.cells #[u] e)).grownBy w' v.ownBlock → wpList P ops Q rest (a.put o.dst v') w') :
    wpList P ops Q (o :: rest) a (w0.alloc (.cells #[u] e)) := by
  obtain ⟨i, hi, hz0, hz1, hz2⟩ := info_parts hinfo
  refine wpList_append_own (w0.alloc (.cells #[u] e)) hgd s x t ho base e i z 1 bytes ht hi hz0 hz1 hz2 hzs (by omega) v n xs hs (hown.alloc _) ⟨w0.heap.size, 0, none⟩ 1 1 [u] hx rfl (cell_one_new _ _ _)
    (by intro u' hu; simp only [List.mem_singleton] at hu; subst hu; exact h1) h63 hbytes (by simp; omega) ?_
  intro v' w' hown' hg _
  refine h v' w' hown' ?_ hg
  exact ((Below.refl base w0).alloc hbase _).grown hg (by simp; omega) (fun k hk => (hown.lt k hk).1)

/-- append of one value, the new block's number and the new slice written out. -/
theorem wpList_push {P : Program} {ops : Array Oper} {rest : List Oper} {o : Oper} {a : Act} {Q : Exit → Act → World → Prop} (hgd : o.guard = none) (s x : Operand) (t : TypeId)
    (ho : o.op = .call { callee := .builtin .append, args := #[s, x], argTypes := #[t, t] })
    (base : Nat) (e : TypeId) (z : Value) (bytes : Nat) (ht : P.underlying t = some (.slice e)) (hinfo : (P.info? e).map (fun i => (i.zero, i.size, i.bytes)) = some (some z, 1, bytes)) (hzs : z.cells.size = 1)
    (v : Value) (n : Nat) (xs : List Value) (hs : a.eval s = v) (w0 : World) (g : Nat) (hg0 : w0.heap.size = g) (u : Value) (hx : a.eval x = .slice (some ⟨g, 0, none⟩) 1 1) (hown : w0.ownsRow base e 1 v n xs) (h1 : u.oneCell' = true)
    (hbase : base ≤ g) (hbytes : (n + 1) * bytes ≤ 140737488355328) (h63 : n + 1 ≤ maxLen)
    (h : ∀ A' c' w', w'.ownsRow base e 1 (.slice A' (n + 1) c') (n + 1) (xs ++ [u]) → Below base w0 w' → (w0.alloc (.cells #[u] e)).grownBy w' v.ownBlock → wpList P ops Q rest (a.put o.dst (.slice A' (n + 1) c')) w') :
    wpList P ops Q (o :: rest) a (w0.alloc (.cells #[u] e)) := by
  subst hg0
  refine wpList_append_one hgd s x t ho base e z bytes ht hinfo hzs v n xs hs w0 u hx hown h1 hbase hbytes h63 fun v' w' h2 h3 h4 => ?_
  obtain ⟨A', c', rfl⟩ := own_form h2
  exact h A' c' w' h2 h3 h4
/-- A block that was there, and is not the row appended to, is as it was. -/
theorem block_kept {w0 w' : World} {o : Obj} {v : Value} {b : Nat} (hg : (w0.alloc o).grownBy w' v.ownBlock) (hb : b < w0.heap.size) (hne : v.ownBlock ≠ some b) : w'.heap[b]? = w0.heap[b]? :=
  (hg.block b (by simp; omega) (fun e => hne e.symm)).trans (Below.heap_alloc _ _ _ hb)

/-- 'string(b)' of bytes that read as l. -/
theorem run_string_bytes {P : Program} {w : World} {B n c : Nat} {A : Option Addr} {l : List UInt8} (src dst e : TypeId) (hs : P.underlying src = some (.slice e)) (he : P.underlying e = some (.int .u8)) (hd : P.underlying dst = some .string)
    (h : BytesAt w B A n c l) : (convert src dst (.slice A n c)).run P w = .ok (.string (strOf l)) w := by
  have hn := h.len
  rcases A with _ | a
  · have h0 : n = 0 := by
      rcases Nat.eq_zero_or_pos n with h0 | h0
      · exact h0
      · obtain ⟨b, off, e, _⟩ := h.2.2.2 h0
        cases e
    subst h0
    obtain rfl : l = [] := List.eq_nil_of_length_eq_zero hn.symm
    exact run_convert_bytes_nil w src e hs he _ _ dst hd
  · subst hn
    refine run_convert_bytes_back w src dst e a c l hs he hd fun j hj => ?_
    obtain ⟨b, off, e, _, hc⟩ := h.cells (by omega)
    injection e with e
    subst e
    have hp : (⟨b, off, none⟩ : Addr).add j = ⟨b, off + j, none⟩ := by
      unfold Addr.add
      split
      · rename_i h0; rw [h0]; rfl
      · rfl
    rw [hp]
    exact hc j hj
/-- A new block of bytes. -/
theorem new_bytes_at (w : World) (l : List UInt8) (e : TypeId) (hl : l.length ≤ maxLen) : BytesAt (w.alloc (.cells (bytesV l).toArray e)) (w.heap.size + 1) (some ⟨w.heap.size, 0, none⟩) l.length l.length l := by
  refine ⟨by rw [length_bytesV, Nat.mul_one], Nat.le_refl _, hl, fun _ => ⟨_, _, rfl, by omega, fun j u hu => ?_⟩⟩
  rw [Nat.zero_add, World.cell?_alloc_at _ _ _ _ rfl]
  simpa using hu
/-- 'string(b)' of a new block of bytes, its cells written out. -/
theorem run_string_new {P : Program} (w : World) (src dst e : TypeId) (hs : P.underlying src = some (.slice e)) (he : P.underlying e = some (.int .u8)) (hd : P.underlying dst = some .string) (l : List UInt8) (cs : List Value) (k : Nat)
    (hl : bytesV l = cs) (hk : cs.length = k) (hm : k ≤ maxLen) :
    (convert src dst (.slice (some ⟨w.heap.size, 0, none⟩) k k)).run P (w.alloc (.cells cs.toArray e)) = .ok (.string (strOf l)) (w.alloc (.cells cs.toArray e)) := by
  subst hl
  rw [length_bytesV] at hk
  subst hk
  exact run_string_bytes src dst e hs he hd (new_bytes_at w l e hm)
end Go.Proofs.Ythhcdblkbdnbeaa
