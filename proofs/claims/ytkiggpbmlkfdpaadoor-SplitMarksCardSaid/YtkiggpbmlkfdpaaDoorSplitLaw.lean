/- The plain law of split: the pieces of a text. -/
import Derived.Test.YtkiggpbmlkfdpaaDoorScanFewStep
namespace Go.Proofs.YtkiggpbmlkfdpaaDoor
set_option linter.unusedVariables false

def markS (s : Int) : Bool := decide (s < 0 ∨ 256 ≤ s)
theorem mark_no {s : Int} (h : markS s = false) : 0 ≤ s ∧ s ≤ 255 := by unfold markS at h; rw [decide_eq_false_iff_not] at h; omega
theorem mark_yes {s : Int} (h : markS s = true) : s < 0 ∨ 256 ≤ s := by unfold markS at h; rw [decide_eq_true_iff] at h; exact h
/-- The pieces of a run, each with whether it is decided by itself. -/
def rawF (kind : Int) (t : List Rg) (fin : Bool) : Nat → List UInt8 → List (Nat × Bool)
  | 0, _ => []
  | _ + 1, [] => []
  | k + 1, c :: r => nextP kind t (c :: r) fin :: rawF kind t fin k ((c :: r).drop (nextP kind t (c :: r) fin).1)
def rawR (kind : Int) (t : List Rg) (fin : Bool) (l : List UInt8) : List (Nat × Bool) := rawF kind t fin l.length l
/-- The pieces of a text behind a run that has begun. -/
def rawT (kind : Int) (t : List Rg) (fin : Bool) : List UInt8 → List Int → List (Nat × Bool)
  | acc, [] => rawR kind t fin acc
  | acc, s :: r => if markS s = true then rawR kind t true acc ++ (1, true) :: rawT kind t fin [] r else rawT kind t fin (acc ++ [byteOf s]) r
/-- A piece is decided where all are up to it. -/
def cumL : Bool → List (Nat × Bool) → List (Nat × Bool)
  | _, [] => []
  | s, (n, d) :: r => (n, s && d) :: cumL (s && d) r
def splitL (kind : Int) (t : List Rg) (text : List Int) (fin : Bool) : List (Nat × Bool) :=
  if kind < 0 ∨ 3 < kind ∨ mayT t = false then [] else cumL true (rawT kind t fin [] text)
def decL : List (Nat × Bool) → Nat
  | [] => 0
  | (n, d) :: r => (if d = true then n else 0) + decL r
/-- The runs of a text, each with whether a mark stands behind. -/
def runsF : List UInt8 → List Int → List (List UInt8 × Bool)
  | acc, [] => [(acc, false)]
  | acc, s :: r => if markS s = true then (acc, true) :: runsF [] r else runsF (acc ++ [byteOf s]) r
def rawOne (kind : Int) (t : List Rg) (fin : Bool) (x : List UInt8 × Bool) : List (Nat × Bool) := rawR kind t (x.2 || fin) x.1 ++ if x.2 = true then [(1, true)] else []
def rawsOf (kind : Int) (t : List Rg) (fin : Bool) (p : List (List UInt8 × Bool)) : List (Nat × Bool) := p.flatMap (rawOne kind t fin)
theorem raws_runs (kind : Int) (t : List Rg) (fin : Bool) : ∀ (text : List Int) (acc : List UInt8), rawsOf kind t fin (runsF acc text) = rawT kind t fin acc text
  | [], acc => by simp [rawsOf, runsF, rawT, rawOne]
  | s :: r, acc => by
    rw [runsF, rawT]
    split
    · have := raws_runs kind t fin r []
      unfold rawsOf at this ⊢
      rw [List.flatMap_cons, this]
      simp [rawOne]
    · exact raws_runs kind t fin r _
theorem raws_snoc (kind : Int) (t : List Rg) (fin : Bool) (p : List (List UInt8 × Bool)) (x : List UInt8 × Bool) : rawsOf kind t fin (p ++ [x]) = rawsOf kind t fin p ++ rawOne kind t fin x := by
  simp [rawsOf]
theorem cum_app : ∀ (x y : List (Nat × Bool)) (s : Bool), cumL s (x ++ y) = cumL s x ++ cumL (s && x.all (·.2)) y
  | [], y, s => by simp [cumL]
  | (n, d) :: x, y, s => by
    rw [List.cons_append, cumL, cumL, cum_app x y (s && d), List.all_cons, Bool.and_assoc]; rfl
theorem cum_length : ∀ (x : List (Nat × Bool)) (s : Bool), (cumL s x).length = x.length
  | [], _ => rfl
  | (n, d) :: x, s => by rw [cumL, List.length_cons, List.length_cons, cum_length x]
theorem cum_all : ∀ (x : List (Nat × Bool)), x.all (·.2) = true → cumL true x = x
  | [], _ => rfl
  | (n, d) :: x, h => by
    rw [List.all_cons, Bool.and_eq_true] at h
    have h1 : d = true := h.1
    rw [cumL, h1, Bool.true_and, cum_all x h.2]

section
variable {kind : Int} {t : List Rg} {fin : Bool} (hk0 : 0 ≤ kind) (hk3 : kind ≤ 3) (hv : mayT t = true)
include hk0 hk3 hv
theorem rawF_fuel : ∀ (k m : Nat) (l : List UInt8), l.length ≤ k → l.length ≤ m → rawF kind t fin k l = rawF kind t fin m l
  | 0, m, l, h, _ => by
    obtain rfl : l = [] := List.eq_nil_of_length_eq_zero (by omega)
    cases m <;> rfl
  | k + 1, 0, l, _, h => by
    obtain rfl : l = [] := List.eq_nil_of_length_eq_zero (by omega)
    rfl
  | k + 1, m + 1, [], _, _ => rfl
  | k + 1, m + 1, c :: r, h1, h2 => by
    have hb := next_bounds (kind := kind) (t := t) (l := c :: r) fin (by simp) hv hk0 hk3
    rw [rawF, rawF, rawF_fuel k m _ (by rw [List.length_drop]; simp only [List.length_cons] at *; omega) (by rw [List.length_drop]; simp only [List.length_cons] at *; omega)]
theorem rawR_step {l : List UInt8} (h0 : l ≠ []) : rawR kind t fin l = nextP kind t l fin :: rawR kind t fin (l.drop (nextP kind t l fin).1) := by
  cases l with
  | nil => exact absurd rfl h0
  | cons c r =>
    have hb := next_bounds (kind := kind) (t := t) (l := c :: r) fin (by simp) hv hk0 hk3
    unfold rawR
    rw [List.length_cons, rawF]
    refine congrArg (List.cons _) (rawF_fuel hk0 hk3 hv _ _ _ ?_ (Nat.le_refl _))
    rw [List.length_drop]; simp only [List.length_cons] at *; omega
/-- An induction over the pieces of a run. -/
theorem raw_ind {P : List UInt8 → Prop} (h0 : P []) (h1 : ∀ l, l ≠ [] → 1 ≤ (nextP kind t l fin).1 → (nextP kind t l fin).1 ≤ l.length → P (l.drop (nextP kind t l fin).1) → P l) : ∀ l, P l := by
  have key : ∀ n (l : List UInt8), l.length ≤ n → P l := by
    intro n
    induction n with
    | zero => intro l hl; obtain rfl : l = [] := List.eq_nil_of_length_eq_zero (by omega); exact h0
    | succ n ih =>
      intro l hl
      by_cases hn : l = []
      · rw [hn]; exact h0
      · have hb := next_bounds (kind := kind) (t := t) (l := l) fin hn hv hk0 hk3
        exact h1 l hn hb.1 hb.2 (ih _ (by rw [List.length_drop]; omega))
  exact fun l => key l.length l (Nat.le_refl _)
theorem next_fin {l : List UInt8} (h0 : l ≠ []) : (nextP kind t l true).2 = true := by
  rcases Int.lt_or_le 0 kind with hk | hk
  · rw [next_some h0 hv (by omega) hk3]; rfl
  · obtain rfl : kind = 0 := by omega
    unfold nextP
    rw [if_neg (by rintro (h | h | h | h); exact h0 h; rw [hv] at h; cases h; omega; omega), if_pos rfl]
theorem raw_true : ∀ l, (rawR kind t true l).all (·.2) = true := by
  refine raw_ind (fin := true) hk0 hk3 hv rfl (fun l h0 h1 h2 ih => ?_)
  rw [rawR_step hk0 hk3 hv h0, List.all_cons, ih, next_fin hk0 hk3 hv h0]; rfl
theorem raw_sum : ∀ l, ((rawR kind t fin l).map (·.1)).sum = l.length ∧ ∀ p ∈ rawR kind t fin l, 1 ≤ p.1 := by
  refine raw_ind (fin := fin) hk0 hk3 hv ⟨rfl, fun p hp => by simp [rawR, rawF] at hp⟩ (fun l h0 h1 h2 ih => ?_)
  rw [rawR_step hk0 hk3 hv h0]
  refine ⟨by rw [List.map_cons, List.sum_cons, ih.1, List.length_drop]; omega, fun p hp => ?_⟩
  rcases List.mem_cons.1 hp with h | h
  · rw [h]; exact h1
  · exact ih.2 p h
theorem rawT_sum : ∀ (text : List Int) (acc : List UInt8), ((rawT kind t fin acc text).map (·.1)).sum = acc.length + text.length ∧ ∀ p ∈ rawT kind t fin acc text, 1 ≤ p.1
  | [], acc => by have := raw_sum (fin := fin) hk0 hk3 hv acc; rw [rawT]; exact ⟨by rw [this.1]; rfl, this.2⟩
  | s :: r, acc => by
    rw [rawT]
    split
    · have h1 := raw_sum (fin := true) hk0 hk3 hv acc
      have h2 := rawT_sum r []
      refine ⟨?_, fun p hp => ?_⟩
      · rw [List.map_append, List.sum_append, h1.1, List.map_cons, List.sum_cons, h2.1, List.length_cons, List.length_nil]; omega
      · rcases List.mem_append.1 hp with h | h
        · exact h1.2 p h
        · rcases List.mem_cons.1 h with h | h
          · rw [h]; exact Nat.le_refl _
          · exact h2.2 p h
    · have h2 := rawT_sum r (acc ++ [byteOf s])
      exact ⟨by rw [h2.1, List.length_append, List.length_cons, List.length_cons, List.length_nil]; omega, h2.2⟩
theorem rawT_true : ∀ (text : List Int) (acc : List UInt8), (rawT kind t true acc text).all (·.2) = true
  | [], acc => raw_true hk0 hk3 hv acc
  | s :: r, acc => by
    rw [rawT]
    split
    · rw [List.all_append, raw_true hk0 hk3 hv acc, List.all_cons, rawT_true r []]; rfl
    · exact rawT_true r _
omit hk0 hk3 hv in
/-- The pieces of two texts with a mark between. -/
theorem rawT_mark (m : Int) (hm : markS m = true) (b : List Int) : ∀ (a : List Int) (acc : List UInt8), rawT kind t fin acc (a ++ m :: b) = rawT kind t true acc a ++ (1, true) :: rawT kind t fin [] b
  | [], acc => by simp only [List.nil_append, rawT, if_pos hm]
  | s :: r, acc => by
    rw [List.cons_append, rawT, rawT]
    split
    · rw [rawT_mark m hm b r []]; simp
    · exact rawT_mark m hm b r _
end
/-- What is decided stays. -/
inductive Stays : List (Nat × Bool) → List (Nat × Bool) → Prop
  | nil (y) : Stays [] y
  | no (n x y) : Stays ((n, false) :: x) y
  | yes (n x y) : Stays x y → Stays ((n, true) :: x) ((n, true) :: y)
theorem Stays.trues : ∀ (z x y : List (Nat × Bool)), z.all (·.2) = true → Stays x y → Stays (z ++ x) (z ++ y)
  | [], x, y, _, h => h
  | (n, d) :: z, x, y, hz, h => by
    rw [List.all_cons, Bool.and_eq_true] at hz
    have h1 : d = true := hz.1
    subst h1
    exact .yes n _ _ (Stays.trues z x y hz.2 h)
theorem cum_false : ∀ (x : List (Nat × Bool)) (i n : Nat), (cumL false x)[i]? = some (n, true) → False
  | [], i, n, h => by simp [cumL] at h
  | (m, d) :: x, 0, n, h => by simp [cumL] at h
  | (m, d) :: x, i + 1, n, h => by
    rw [cumL, List.getElem?_cons_succ, Bool.false_and] at h
    exact cum_false x i n h
theorem Stays.cum {x y : List (Nat × Bool)} (h : Stays x y) : ∀ (i n : Nat), (cumL true x)[i]? = some (n, true) → (cumL true y)[i]? = some (n, true) := by
  induction h with
  | nil y => intro i n h; simp [cumL] at h
  | no m x y =>
    intro i n h
    cases i with
    | zero => simp [cumL] at h
    | succ i => rw [cumL, List.getElem?_cons_succ, Bool.and_false] at h; exact (cum_false x i n h).elim
  | yes m x y _ ih =>
    intro i n h
    cases i with
    | zero => simpa [cumL] using h
    | succ i =>
      rw [cumL, List.getElem?_cons_succ, Bool.and_self] at h ⊢
      exact ih i n h
theorem dec_false : ∀ x : List (Nat × Bool), decL (cumL false x) = 0
  | [] => rfl
  | (n, d) :: x => by rw [cumL, decL, Bool.false_and, dec_false x]; rfl
theorem Stays.dec {x y : List (Nat × Bool)} (h : Stays x y) : decL (cumL true x) ≤ decL (cumL true y) := by
  induction h with
  | nil y => exact Nat.zero_le _
  | no m x y => rw [cumL, decL, Bool.and_false, dec_false]; exact Nat.zero_le _
  | yes m x y _ ih => rw [cumL, cumL, decL, decL, Bool.and_self, if_pos rfl]; omega
section
variable {kind : Int} {t : List Rg} {fin : Bool} (hk0 : 0 ≤ kind) (hk3 : kind ≤ 3) (hv : mayT t = true)
include hk0 hk3 hv
theorem raw_stays (over : Bool) (e : List UInt8) (tail : List (Nat × Bool)) : ∀ l, Stays (rawR kind t false l) (rawR kind t over (l ++ e) ++ tail) := by
  refine raw_ind (fin := false) hk0 hk3 hv (.nil _) (fun l h0 h1 h2 ih => ?_)
  rw [rawR_step hk0 hk3 hv h0]
  obtain ⟨⟨n, d⟩, hq⟩ : ∃ q, nextP kind t l false = q := ⟨_, rfl⟩
  rw [hq] at h1 h2 ih ⊢
  cases d with
  | false => exact .no _ _ _
  | true =>
    have hs := (next_stays e over hq).2.1
    rw [rawR_step hk0 hk3 hv (l := l ++ e) (by simp [h0]), hs]
    simp only at h2 ih ⊢
    rw [List.drop_append_of_le_length h2]
    exact .yes _ _ _ ih
omit hk0 hk3 hv in
theorem rawT_form : ∀ (d : List Int) (acc : List UInt8), ∃ over e tail, rawT kind t fin acc d = rawR kind t over (acc ++ e) ++ tail
  | [], acc => ⟨fin, [], [], by rw [rawT, List.append_nil, List.append_nil]⟩
  | s :: r, acc => by
    rw [rawT]
    split
    · exact ⟨true, [], (1, true) :: rawT kind t fin [] r, by rw [List.append_nil]⟩
    · obtain ⟨over, e, tail, h⟩ := rawT_form r (acc ++ [byteOf s])
      exact ⟨over, byteOf s :: e, tail, by rw [h]; simp⟩
theorem rawT_stays (d : List Int) : ∀ (a : List Int) (acc : List UInt8), Stays (rawT kind t false acc a) (rawT kind t fin acc (a ++ d))
  | [], acc => by
    obtain ⟨over, e, tail, h⟩ := rawT_form (kind := kind) (t := t) (fin := fin) d acc
    rw [List.nil_append, h, rawT]
    exact raw_stays hk0 hk3 hv over e tail acc
  | s :: r, acc => by
    rw [List.cons_append, rawT, rawT]
    split
    · exact Stays.trues _ _ _ (raw_true hk0 hk3 hv acc) (.yes _ _ _ (rawT_stays d r []))
    · exact rawT_stays d r _
end
/-- How many pieces aren't decided. -/
def openL : List (Nat × Bool) → Nat
  | [] => 0
  | (_, d) :: r => (if d = true then 0 else 1) + openL r
theorem open_app : ∀ x y : List (Nat × Bool), openL (x ++ y) = openL x + openL y
  | [], y => by simp [openL]
  | (n, d) :: x, y => by rw [List.cons_append, openL, openL, open_app x y]; omega
theorem open_trues : ∀ x : List (Nat × Bool), x.all (·.2) = true → openL x = 0
  | [], _ => rfl
  | (n, d) :: x, h => by
    rw [List.all_cons, Bool.and_eq_true] at h
    rw [openL, open_trues x h.2, if_pos h.1]
/-- The bytes behind the last mark. -/
def lastT : List UInt8 → List Int → List UInt8
  | acc, [] => acc
  | acc, s :: r => if markS s = true then lastT [] r else lastT (acc ++ [byteOf s]) r
section
variable {kind : Int} (hk0 : 0 ≤ kind) (hk3 : kind ≤ 3)
include hk0 hk3
theorem raw_few (R : Nat) : ∀ (l : List UInt8) (u : Nat) (s : Bool), (s = true → u = 0) → (s = false → 0 < u) → FewI kind R u l → u + openL (cumL s (rawR kind usualT false l)) ≤ mostF R := by
  refine raw_ind (fin := false) hk0 hk3 usual_may12 (fun u s h1 h2 h => ?_) (fun l h0 h1 h2 ih u s g1 g2 h => ?_)
  · have := few_end h
    simpa [rawR, rawF, cumL, openL] using this
  · rw [rawR_step hk0 hk3 usual_may12 h0]
    obtain ⟨⟨n, d⟩, hq⟩ : ∃ q, nextP kind usualT l false = q := ⟨_, rfl⟩
    rw [hq] at h1 h2 ih ⊢
    rw [cumL, openL]
    dsimp only at ih h2 ⊢
    cases hs : (s && d) with
    | true =>
      rw [Bool.and_eq_true] at hs
      have hu := g1 hs.1
      subst hu
      have hd := hs.2
      subst hd
      have := ih 0 true (fun _ => rfl) (fun e => by cases e) (few_sure h0 hk0 hk3 hq h)
      rw [if_pos rfl]
      omega
    | false =>
      have := ih (u + 1) false (fun e => by cases e) (fun _ => by omega) (few_more h0 hk0 hk3 hq h (by
        cases s with
        | true => rw [Bool.true_and] at hs; exact .inl hs
        | false => exact .inr (g2 rfl)))
      rw [if_neg (by decide)]
      omega
theorem rawT_few : ∀ (text : List Int) (acc : List UInt8), openL (cumL true (rawT kind usualT false acc text)) ≤ mostF (restOf (lastT acc text))
  | [], acc => by
    have := raw_few hk0 hk3 (restOf acc) acc 0 true (fun _ => rfl) (fun e => by cases e) (.inl ⟨rfl, .inr rfl⟩)
    rw [Nat.zero_add] at this
    exact this
  | s :: r, acc => by
    rw [rawT, lastT]
    split
    · have ha := raw_true hk0 hk3 usual_may12 acc
      rw [cum_app, ha, open_app, cum_all _ ha, open_trues _ ha, Bool.true_and, cumL, openL, Bool.true_and, if_pos rfl]
      have := rawT_few r []
      omega
    · exact rawT_few r _
end

/-! The document's pieces. -/
def runT : List Int → List UInt8
  | [] => []
  | s :: r => if markS s = true then [] else byteOf s :: runT r
def docF (kind : Int) (t : List Rg) (fin : Bool) : Nat → Bool → List Int → List (Nat × Bool)
  | 0, _, _ => []
  | _ + 1, _, [] => []
  | k + 1, op, s :: r => if markS s = true then (1, true) :: docF kind t fin k op r
    else ((nextP kind t (runT (s :: r)) (fin || decide ((runT (s :: r)).length < (s :: r).length))).1, !(op || !(nextP kind t (runT (s :: r)) (fin || decide ((runT (s :: r)).length < (s :: r).length))).2)) ::
      docF kind t fin k (op || !(nextP kind t (runT (s :: r)) (fin || decide ((runT (s :: r)).length < (s :: r).length))).2) ((s :: r).drop (nextP kind t (runT (s :: r)) (fin || decide ((runT (s :: r)).length < (s :: r).length))).1)
theorem runT_len : ∀ text : List Int, (runT text).length ≤ text.length
  | [] => Nat.le_refl _
  | s :: r => by
    rw [runT]
    split
    · exact Nat.zero_le _
    · have := runT_len r; simp only [List.length_cons]; omega
theorem runT_all : ∀ text : List Int, (runT text).length = text.length ↔ ∀ s ∈ text, markS s = false
  | [] => by simp [runT]
  | s :: r => by
    have hr := runT_len r
    have ih := runT_all r
    rw [runT]
    by_cases h : markS s = true
    · rw [if_pos h]
      constructor
      · intro e; simp at e
      · intro e; have := e s (by simp); rw [h] at this; cases this
    · rw [if_neg h, List.length_cons, List.length_cons]
      constructor
      · intro e x hx
        rcases List.mem_cons.1 hx with h1 | h1
        · rw [h1]; simpa using h
        · exact (ih.1 (by omega)) x h1
      · intro e
        have := ih.2 (fun x hx => e x (List.mem_cons_of_mem _ hx))
        omega
/-- A text's pieces behind a run that has begun: those of the run, and of what lies behind its mark. -/
def tailT (kind : Int) (t : List Rg) (fin : Bool) : List Int → List (Nat × Bool)
  | [] => []
  | s :: r => if markS s = true then (1, true) :: rawT kind t fin [] r else tailT kind t fin r
theorem rawT_run (kind : Int) (t : List Rg) (fin : Bool) : ∀ (text : List Int) (acc : List UInt8), rawT kind t fin acc text = rawR kind t (fin || decide ((runT text).length < text.length)) (acc ++ runT text) ++ tailT kind t fin text
  | [], acc => by simp [rawT, runT, tailT]
  | s :: r, acc => by
    have hr := runT_len r
    rw [rawT, runT, tailT]
    by_cases h : markS s = true
    · rw [if_pos h, if_pos h, if_pos h, List.append_nil]
      simp
    · rw [if_neg h, if_neg h, if_neg h, rawT_run kind t fin r, List.append_assoc, List.length_cons, List.length_cons]
      simp
theorem run_drop : ∀ (text : List Int) (n : Nat), n ≤ (runT text).length → runT (text.drop n) = (runT text).drop n
  | text, 0, _ => rfl
  | [], n + 1, h => by simp [runT] at h
  | s :: r, n + 1, h => by
    rw [runT] at h ⊢
    split at h
    · simp at h
    · rename_i g
      rw [if_neg g, List.drop_succ_cons, List.drop_succ_cons]
      exact run_drop r n (by simpa using h)
theorem tail_drop (kind : Int) (t : List Rg) (fin : Bool) : ∀ (text : List Int) (n : Nat), n ≤ (runT text).length → tailT kind t fin (text.drop n) = tailT kind t fin text
  | text, 0, _ => rfl
  | [], n + 1, h => by simp [runT] at h
  | s :: r, n + 1, h => by
    rw [runT] at h
    split at h
    · simp at h
    · rename_i g
      rw [List.drop_succ_cons, tailT, if_neg g]
      exact tail_drop kind t fin r n (by simpa using h)
section
variable {kind : Int} {t : List Rg} {fin : Bool} (hk0 : 0 ≤ kind) (hk3 : kind ≤ 3) (hv : mayT t = true)
include hk0 hk3 hv
/-- A text that begins with a run: its first piece, and those of what lies behind it. -/
theorem rawT_step {text : List Int} (h0 : runT text ≠ []) : rawT kind t fin [] text = nextP kind t (runT text) (fin || decide ((runT text).length < text.length)) :: rawT kind t fin [] (text.drop (nextP kind t (runT text) (fin || decide ((runT text).length < text.length))).1) := by
  obtain ⟨over, ho⟩ : ∃ over, (fin || decide ((runT text).length < text.length)) = over := ⟨_, rfl⟩
  have hb := next_bounds (kind := kind) (t := t) (l := runT text) over h0 hv hk0 hk3
  have hl := runT_len text
  rw [rawT_run, ho, List.nil_append, rawR_step hk0 hk3 hv h0, rawT_run, run_drop _ _ hb.2, tail_drop _ _ _ _ _ hb.2, List.nil_append, List.length_drop, List.length_drop]
  have ho2 : (fin || decide ((runT text).length - (nextP kind t (runT text) over).1 < text.length - (nextP kind t (runT text) over).1)) = over := by
    rw [← ho]
    congr 1
    rw [decide_eq_decide]
    rw [ho]
    omega
  rw [ho2]
  rfl
theorem doc_eq : ∀ (k : Nat) (text : List Int) (op : Bool), text.length ≤ k → (op = false ∨ ∀ s ∈ text, markS s = false) → docF kind t fin k op text = cumL (!op) (rawT kind t fin [] text)
  | 0, text, op, h, _ => by
    obtain rfl : text = [] := List.eq_nil_of_length_eq_zero (by omega)
    simp [docF, rawT, rawR, rawF, cumL]
  | k + 1, [], op, _, _ => by simp [docF, rawT, rawR, rawF, cumL]
  | k + 1, s :: r, op, h, ho => by
    rw [docF]
    by_cases hm : markS s = true
    · have hop : op = false := by
        rcases ho with h | h
        · exact h
        · have := h s (by simp); rw [hm] at this; cases this
      subst hop
      rw [if_pos hm, doc_eq k r false (by simpa using h) (.inl rfl), rawT, if_pos hm]
      simp [rawR, rawF, cumL]
    · rw [if_neg hm]
      have h0 : runT (s :: r) ≠ [] := by rw [runT, if_neg hm]; simp
      rw [rawT_step hk0 hk3 hv h0]
      obtain ⟨over, ho2⟩ : ∃ over, (fin || decide ((runT (s :: r)).length < (s :: r).length)) = over := ⟨_, rfl⟩
      rw [ho2]
      have hb := next_bounds (kind := kind) (t := t) (l := runT (s :: r)) over h0 hv hk0 hk3
      obtain ⟨⟨n, d⟩, hq⟩ : ∃ q, nextP kind t (runT (s :: r)) over = q := ⟨_, rfl⟩
      rw [hq] at hb ⊢
      simp only at hb ⊢
      have hcond : (op || !d) = false ∨ ∀ x ∈ (s :: r).drop n, markS x = false := by
        by_cases hall : ∀ x ∈ s :: r, markS x = false
        · exact .inr fun x hx => hall x (List.mem_of_mem_drop hx)
        · left
          have hop : op = false := by
            rcases ho with h | h
            · exact h
            · exact absurd h hall
          have hlt : (runT (s :: r)).length < (s :: r).length := by
            have := runT_len (s :: r)
            rcases Nat.lt_or_ge (runT (s :: r)).length (s :: r).length with h | h
            · exact h
            · exact absurd ((runT_all (s :: r)).1 (by omega)) hall
          have hov : over = true := by rw [← ho2, decide_eq_true hlt, Bool.or_true]
          have := next_fin hk0 hk3 hv h0
          rw [← hov, hq, hov] at this
          have hd : d = true := this
          rw [hop, hd]; rfl
      rw [cumL, doc_eq k ((s :: r).drop n) (op || !d) (by rw [List.length_drop]; simp only [List.length_cons] at h ⊢; omega) hcond]
      simp
end
end Go.Proofs.YtkiggpbmlkfdpaaDoor
