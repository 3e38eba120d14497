/- What base64 and its reference compute, as plain functions on lists of bytes. -/
import Derived.Test.YtefhifmilmedhaaDoorBase
namespace Go.Proofs.YtefhifmilmedhaaDoor

/-- The sign of a value, the value of a sign. -/
def sgs : List UInt8 := [65,66,67,68,69,70,71,72,73,74,75,76,77,78,79,80,81,82,83,84,85,86,87,88,89,90,97,98,99,100,101,102,103,104,105,106,107,108,109,110,111,112,113,114,115,116,117,118,119,120,121,122,48,49,50,51,52,53,54,55,56,57,43,47]
def sgn (n : Nat) : UInt8 := sgs.getD n 0
def val (c : UInt8) : Int :=
  if 65 ≤ c.toNat ∧ c.toNat ≤ 90 then c.toNat - 65 else if 97 ≤ c.toNat ∧ c.toNat ≤ 122 then c.toNat - 71 else if 48 ≤ c.toNat ∧ c.toNat ≤ 57 then c.toNat + 4
  else if c.toNat = 43 then 62 else if c.toNat = 47 then 63 else -1

/-- The text of bytes. -/
def enc64 : List UInt8 → List UInt8
  | [] => []
  | [a] => [sgn (a.toNat / 4), sgn (a.toNat % 4 * 16), 61, 61]
  | [a, b] => [sgn (a.toNat / 4), sgn (a.toNat % 4 * 16 + b.toNat / 16), sgn (b.toNat % 16 * 4), 61]
  | a :: b :: c :: r => sgn (a.toNat / 4) :: sgn (a.toNat % 4 * 16 + b.toNat / 16) :: sgn (b.toNat % 16 * 4 + c.toNat / 64) :: sgn (c.toNat % 64) :: enc64 r

/-- The reader: how many signs of a group, how many pads, the group's values, the bytes. -/
structure Rd where
  n : Nat
  p : Nat
  r0 : Nat
  r1 : Nat
  r2 : Nat
  r3 : Nat
  out : List UInt8
def Rd.start : Rd := ⟨0, 0, 0, 0, 0, 0, []⟩
def Rd.put (q : Rd) (v : Nat) : Rd :=
  if q.n = 0 then { q with r0 := v, n := 1 } else if q.n = 1 then { q with r1 := v, n := 2 } else if q.n = 2 then { q with r2 := v, n := 3 } else { q with r3 := v, n := 4 }
/-- The bytes of a group. -/
def group (a b c d : Nat) : List UInt8 := [UInt8.ofNat (a * 4 + b / 16), UInt8.ofNat (b % 16 * 16 + c / 4), UInt8.ofNat (c % 4 * 64 + d)]
def Rd.fin (q : Rd) : Rd := if q.n < 4 then q else { q with n := 0, out := q.out ++ (group q.r0 q.r1 q.r2 q.r3).take (3 - q.p) }
def Rd.step (q : Rd) (c : UInt8) : Option Rd :=
  if q.n = 0 ∧ 0 < q.p then none
  else if c = 61 then
    (if q.n < 2 then none else if q.n = 2 ∧ q.r1 % 16 ≠ 0 then none else if q.n = 3 ∧ q.p = 0 ∧ q.r2 % 4 ≠ 0 then none else some (Rd.fin { (q.put 0) with p := q.p + 1 }))
  else if val c < 0 ∨ 0 < q.p then none else some (q.put (val c).toNat).fin
def runAt : Nat → Rd → List UInt8 → List UInt8 × Nat × Bool
  | i, q, [] => if 0 < q.n then ([], i, false) else (q.out, 0, true)
  | i, q, c :: r => match q.step c with | none => ([], i, false) | some q' => runAt (i + 1) q' r
/-- What a text is read as, group by group. -/
def dec64 : List UInt8 → List UInt8 × Nat × Bool
  | [] => ([], 0, true)
  | a :: s1 =>
    if val a < 0 then ([], 0, false) else
    match s1 with
    | [] => ([], 1, false)
    | b :: s2 =>
      if val b < 0 then ([], 1, false) else
      match s2 with
      | [] => ([], 2, false)
      | c :: s3 =>
        if c = 61 then
          (if val b % 16 ≠ 0 then ([], 2, false) else
            match s3 with
            | [] => ([], 3, false)
            | d :: s4 => if d = 61 then (if s4 = [] then ((group (val a).toNat (val b).toNat 0 0).take 1, 0, true) else ([], 4, false)) else ([], 3, false))
        else if val c < 0 then ([], 2, false) else
          match s3 with
          | [] => ([], 3, false)
          | d :: s4 =>
            if d = 61 then (if val c % 4 ≠ 0 then ([], 3, false) else if s4 = [] then ((group (val a).toNat (val b).toNat (val c).toNat 0).take 2, 0, true) else ([], 4, false))
            else if val d < 0 then ([], 3, false)
            else if (dec64 s4).2.2 then (group (val a).toNat (val b).toNat (val c).toNat (val d).toNat ++ (dec64 s4).1, 0, true) else ([], (dec64 s4).2.1 + 4, false)

/-! The reference. -/
def rSigns (s : List UInt8) : Bool := s.all fun c => decide (0 ≤ val c)
def rLast (g : List UInt8) : Bool :=
  if rSigns g then true
  else if g.length < 3 ∨ rSigns (g.take 2) = false then false
  else if g.getD 2 0 = 61 then decide (val (g.getD 1 0) % 16 = 0) && (decide (g.length = 3) || decide (g.getD 3 0 = 61))
  else decide (g.length = 4) && rSigns (g.take 3) && decide (g.getD 3 0 = 61) && decide (val (g.getD 2 0) % 4 = 0)
def rBegins : List UInt8 → Bool
  | a :: b :: c :: d :: e :: r => if rSigns [a, b, c, d] then rBegins (e :: r) else false
  | s => s.isEmpty || rLast s
def rPlace (s : List UInt8) : Nat → Nat → Nat
  | 0, n => n
  | f + 1, n => if n < s.length then (if rBegins (s.take (n + 1)) then rPlace s f (n + 1) else n) else n
def rOut : List UInt8 → Nat → Nat → List UInt8
  | [], _, _ => []
  | c :: r, bits, many =>
    if c = 61 then [] else
      if 8 ≤ many + 6 then UInt8.ofNat ((bits * 64 + (val c).toNat) % 65536 / 2 ^ (many + 6 - 8)) :: rOut r ((bits * 64 + (val c).toNat) % 65536) (many + 6 - 8)
      else rOut r ((bits * 64 + (val c).toNat) % 65536) (many + 6)
def rDec64 (s : List UInt8) : List UInt8 × Nat × Bool :=
  if rPlace s s.length 0 < s.length ∨ s.length % 4 ≠ 0 then ([], rPlace s s.length 0, false) else (rOut s 0 0, 0, true)
end Go.Proofs.YtefhifmilmedhaaDoor
