/- The plain law of Base64Place. -/
import Derived.Test.YtdapcilhbclcnaaB64Law
namespace Go.Proofs.Ytdapcilhbclcnaa
open Go.RowKit

theorem run_ge : ∀ (s : List UInt8) (i : Nat) (q : Rd) (b : List UInt8) (n : Nat), runAt i q s = (b, n, false) → i ≤ n
  | [], i, q, b, n, h => by
    rw [run_nil] at h
    by_cases h0 : 0 < q.n
    · rw [if_pos h0] at h; injection h with _ h; injection h with h _; omega
    · rw [if_neg h0] at h; injection h with _ h; injection h with _ h; cases h
  | c :: r, i, q, b, n, h => by
    rcases hs : q.step c with _ | q'
    · rw [run_none hs] at h; injection h with _ h; injection h with h _; omega
    · rw [run_some hs] at h; have := run_ge r (i + 1) q' b n h; omega
theorem run_stop (more : List UInt8) : ∀ (s : List UInt8) (i : Nat) (q : Rd) (n : Nat), runAt i q s = ([], n, false) → n < i + s.length → runAt i q (s.take (n + 1 - i) ++ more) = ([], n, false)
  | [], i, q, n, h, hn => by
    have := run_ge _ _ _ _ _ h
    simp at hn
    omega
  | c :: r, i, q, n, h, hn => by
    rcases hs : q.step c with _ | q'
    · rw [run_none hs] at h
      injection h with _ h; injection h with h _
      subst h
      rw [show i + 1 - i = 0 + 1 from by omega, List.take_succ_cons, List.cons_append, run_none hs]
    · rw [run_some hs] at h
      have hg := run_ge _ _ _ _ _ h
      rw [show n + 1 - i = (n + 1 - (i + 1)) + 1 from by omega, List.take_succ_cons, List.cons_append, run_some hs]
      exact run_stop more r (i + 1) q' n h (by simp only [List.length_cons] at hn; omega)
theorem dec_stop {s : List UInt8} {n : Nat} (more : List UInt8) (h : dec64 s = ([], n, false)) (hn : n < s.length) : dec64 (s.take (n + 1) ++ more) = ([], n, false) := by
  rw [← run_start] at h ⊢
  have := run_stop more s 0 Rd.start n h (by omega)
  simpa using this

/-- The ends. -/
def endL : List (List UInt8) := [[65], [65, 65], [65, 65, 65], [61], [61, 61]]
theorem val_A : val 65 = 0 := by decide
theorem dec_ends : ∀ (m : Nat) (s : List UInt8), s.length ≤ m → dec64 s = ([], s.length, false) → ∃ j, j < 5 ∧ (dec64 (s ++ endL.getD j [])).2.2 = true := by
  intro m
  induction m with
  | zero =>
    intro s h hd
    obtain rfl : s = [] := List.eq_nil_of_length_eq_zero (by omega)
    rw [dec64_0] at hd; simp at hd
  | succ m ih =>
    intro s h hd
    match s, h, hd with
    | [], _, hd => rw [dec64_0] at hd; simp at hd
    | [a], _, hd =>
      rw [dec64_1] at hd
      by_cases ha : val a < 0
      · rw [if_pos ha] at hd; simp at hd
      · refine ⟨2, by omega, ?_⟩
        show (dec64 [a, 65, 65, 65]).2.2 = true
        rw [dec64_4]; simp [ha, val_A, dec64_0]
    | [a, b], _, hd =>
      rw [dec64_2] at hd
      by_cases ha : val a < 0
      · rw [if_pos ha] at hd; simp at hd
      rw [if_neg ha] at hd
      by_cases hb : val b < 0
      · rw [if_pos hb] at hd; simp at hd
      refine ⟨1, by omega, ?_⟩
      show (dec64 [a, b, 65, 65]).2.2 = true
      rw [dec64_4]; simp [ha, hb, val_A, dec64_0]
    | [a, b, c], _, hd =>
      rw [dec64_3] at hd
      by_cases ha : val a < 0
      · rw [if_pos ha] at hd; simp at hd
      rw [if_neg ha] at hd
      by_cases hb : val b < 0
      · rw [if_pos hb] at hd; simp at hd
      rw [if_neg hb] at hd
      by_cases hc : c = 61
      · rw [if_pos hc] at hd
        by_cases hz : val b % 16 ≠ 0
        · rw [if_pos hz] at hd; simp at hd
        refine ⟨3, by omega, ?_⟩
        show (dec64 [a, b, c, 61]).2.2 = true
        have hz' : val b % 16 = 0 := by omega
        rw [dec64_4]; simp [ha, hb, hc, hz']
      · rw [if_neg hc] at hd
        by_cases hc0 : val c < 0
        · rw [if_pos hc0] at hd; simp at hd
        refine ⟨0, by omega, ?_⟩
        show (dec64 [a, b, c, 65]).2.2 = true
        rw [dec64_4]; simp [ha, hb, hc, hc0, val_A, dec64_0]
    | a :: b :: c :: d :: r, h, hd =>
      rw [dec64_4] at hd
      simp only [List.length_cons] at hd h
      by_cases ha : val a < 0
      · rw [if_pos ha] at hd; simp at hd
      rw [if_neg ha] at hd
      by_cases hb : val b < 0
      · rw [if_pos hb] at hd; simp at hd
      rw [if_neg hb] at hd
      by_cases hc : c = 61
      · rw [if_pos hc] at hd
        (repeat' split at hd) <;> simp at hd <;> first | omega | contradiction | (simp_all; done)
      rw [if_neg hc] at hd
      by_cases hc0 : val c < 0
      · rw [if_pos hc0] at hd; simp at hd
      rw [if_neg hc0] at hd
      by_cases hdd : d = 61
      · rw [if_pos hdd] at hd
        (repeat' split at hd) <;> simp at hd <;> first | omega | contradiction | (simp_all; done)
      rw [if_neg hdd] at hd
      by_cases hd0 : val d < 0
      · rw [if_pos hd0] at hd; simp at hd
      rw [if_neg hd0] at hd
      rcases hk : dec64 r with ⟨b', n', ok⟩
      rw [hk] at hd
      cases ok
      · simp at hd
        obtain ⟨rfl, _⟩ := dec64_no hk
        obtain rfl : n' = r.length := by omega
        obtain ⟨j, hj, he⟩ := ih r (by omega) hk
        refine ⟨j, hj, ?_⟩
        rw [show a :: b :: c :: d :: r ++ endL.getD j [] = a :: b :: c :: d :: (r ++ endL.getD j []) from rfl, dec64_4]
        rw [if_neg ha, if_neg hb, if_neg hc, if_neg hc0, if_neg hdd, if_neg hd0, if_pos he]
      · simp at hd
end Go.Proofs.Ytdapcilhbclcnaa
