/-
  No cell of these rows narrows 'for every input' (looked for: loops, veiled, ifaces, maps, wideKeys, modest, calm, conditions, laid).
  DERIVED. THE GIVEN ROWS OF THIS SEAT. 10 by the template 'for every input the law returns true; each argument reads behind the call as it read before'; 0 by the template 'total and deterministic' (their statements: YtohfkpoblebfaaaTotals.lean).
  GIVEN WITH THE SEED: the statements are not yours to turn. If you find one false, say at which input.
  Laid BY PROGRAM, IN A SANDBOX (cutbox-rows.mjs): the forced cells as the released guide's own fill.sh prints them over the translation 28bb7a1e85c2dd9b… (all of the seat's roots in one cut). By AI agents, Wed Nov 11 2026. No macro, syntax, notation, axiom, sorry.
-/
import Derived.Test.YtohfkpoblebfaaaChecked
import GoSem.Claim
import GoSem.ClaimJoined
import GoSem.ClaimMapViews
import Derived.JoinedTies
import Derived.KernelRfl
namespace Go.Proofs.Ytohfkpoblebfaaa
/- THE CELL 'sum', in the pinned program and in every row, IS THE sha256 OF THE DUMP (.gsa) THAT YtohfkpoblebfaaaProg.lean LOADS. Nothing in Lean hashes anything: it is a label: what it is worth is what the hold of that sum in a sandbox is worth. -/
noncomputable def Try.pinned : Pinned := { name := "ytohfkpoblebfaaa", sum := "28bb7a1e85c2dd9b85a6f5f907ff47a24cdac14e78b68ea21aad583b8996a9ad", checked := Try.checked }
namespace Rows
def none {H : Type} : Left H := { results := [], args := [] }

/-- 'footbridgelaw18.AhoNew': WHATEVER THE INPUT: true; the input reads as it did. -/
def ahoNewSpec : ChangeSpec := { name := "ahoNew", fn := fun _ => fun
  | [d] => { results := [.lit (.bool true)], args := [d] }
  | _ => none }
def ahoNewRow : OpenClaim := { program := "ytohfkpoblebfaaa", sum := "28bb7a1e85c2dd9b85a6f5f907ff47a24cdac14e78b68ea21aad583b8996a9ad", func := "footbridge/footbridgelaw18.AhoNew", spec := "ahoNew", inPlace := ["slices.overlaps[footbridge/aho.way]"], unfollowed := true, recurses := true, apart := false }
def AhoNewSaid : Prop := ahoNewRow.holds Try.pinned (OpenSpec.ofChange ahoNewSpec)

/-- ITS FALSE NEIGHBOUR: 'it returns false'. Refute it at one input. -/
def ahoNewWrong : ChangeSpec := { name := "ahoNew", fn := fun _ => fun
  | [d] => { results := [.lit (.bool false)], args := [d] }
  | _ => none }
def AhoNewWrongFalsely : Prop := ahoNewRow.holds Try.pinned (OpenSpec.ofChange ahoNewWrong)

/-- 'footbridgelaw18.AhoWalks': WHATEVER THE INPUT: true; the input reads as it did. -/
def ahoWalksSpec : ChangeSpec := { name := "ahoWalks", fn := fun _ => fun
  | [d1, d2] => { results := [.lit (.bool true)], args := [d1, d2] }
  | _ => none }
def ahoWalksRow : OpenClaim := { program := "ytohfkpoblebfaaa", sum := "28bb7a1e85c2dd9b85a6f5f907ff47a24cdac14e78b68ea21aad583b8996a9ad", func := "footbridge/footbridgelaw18.AhoWalks", spec := "ahoWalks", inPlace := ["slices.overlaps[footbridge/aho.way]"], unfollowed := true, recurses := true, apart := false }
def AhoWalksSaid : Prop := ahoWalksRow.holds Try.pinned (OpenSpec.ofChange ahoWalksSpec)

/-- ITS FALSE NEIGHBOUR: 'it returns false'. Refute it at one input. -/
def ahoWalksWrong : ChangeSpec := { name := "ahoWalks", fn := fun _ => fun
  | [d1, d2] => { results := [.lit (.bool false)], args := [d1, d2] }
  | _ => none }
def AhoWalksWrongFalsely : Prop := ahoWalksRow.holds Try.pinned (OpenSpec.ofChange ahoWalksWrong)

/-- 'footbridgelaw18.AhoSame': WHATEVER THE INPUT: true; the input reads as it did. -/
def ahoSameSpec : ChangeSpec := { name := "ahoSame", fn := fun _ => fun
  | [d1, d2, d3] => { results := [.lit (.bool true)], args := [d1, d2, d3] }
  | _ => none }
def ahoSameRow : OpenClaim := { program := "ytohfkpoblebfaaa", sum := "28bb7a1e85c2dd9b85a6f5f907ff47a24cdac14e78b68ea21aad583b8996a9ad", func := "footbridge/footbridgelaw18.AhoSame", spec := "ahoSame", inPlace := ["slices.overlaps[footbridge/aho.way]"], unfollowed := true, recurses := true, apart := false }
def AhoSameSaid : Prop := ahoSameRow.holds Try.pinned (OpenSpec.ofChange ahoSameSpec)

/-- ITS FALSE NEIGHBOUR: 'it returns false'. Refute it at one input. -/
def ahoSameWrong : ChangeSpec := { name := "ahoSame", fn := fun _ => fun
  | [d1, d2, d3] => { results := [.lit (.bool false)], args := [d1, d2, d3] }
  | _ => none }
def AhoSameWrongFalsely : Prop := ahoSameRow.holds Try.pinned (OpenSpec.ofChange ahoSameWrong)

/-- 'footbridgelaw18.AhoParts': WHATEVER THE INPUT: true; the input reads as it did. -/
def ahoPartsSpec : ChangeSpec := { name := "ahoParts", fn := fun _ => fun
  | [d1, d2, d3, d4, d5] => { results := [.lit (.bool true)], args := [d1, d2, d3, d4, d5] }
  | _ => none }
def ahoPartsRow : OpenClaim := { program := "ytohfkpoblebfaaa", sum := "28bb7a1e85c2dd9b85a6f5f907ff47a24cdac14e78b68ea21aad583b8996a9ad", func := "footbridge/footbridgelaw18.AhoParts", spec := "ahoParts", inPlace := ["slices.overlaps[footbridge/aho.way]"], unfollowed := true, recurses := true, apart := false }
def AhoPartsSaid : Prop := ahoPartsRow.holds Try.pinned (OpenSpec.ofChange ahoPartsSpec)

/-- ITS FALSE NEIGHBOUR: 'it returns false'. Refute it at one input. -/
def ahoPartsWrong : ChangeSpec := { name := "ahoParts", fn := fun _ => fun
  | [d1, d2, d3, d4, d5] => { results := [.lit (.bool false)], args := [d1, d2, d3, d4, d5] }
  | _ => none }
def AhoPartsWrongFalsely : Prop := ahoPartsRow.holds Try.pinned (OpenSpec.ofChange ahoPartsWrong)

/-- 'footbridgelaw18.AhoOdd': WHATEVER THE INPUT: true; the input reads as it did. -/
def ahoOddSpec : ChangeSpec := { name := "ahoOdd", fn := fun _ => fun
  | [d1, d2, d3] => { results := [.lit (.bool true)], args := [d1, d2, d3] }
  | _ => none }
def ahoOddRow : OpenClaim := { program := "ytohfkpoblebfaaa", sum := "28bb7a1e85c2dd9b85a6f5f907ff47a24cdac14e78b68ea21aad583b8996a9ad", func := "footbridge/footbridgelaw18.AhoOdd", spec := "ahoOdd", inPlace := ["slices.overlaps[footbridge/aho.way]"], unfollowed := true, recurses := true, apart := false }
def AhoOddSaid : Prop := ahoOddRow.holds Try.pinned (OpenSpec.ofChange ahoOddSpec)

/-- ITS FALSE NEIGHBOUR: 'it returns false'. Refute it at one input. -/
def ahoOddWrong : ChangeSpec := { name := "ahoOdd", fn := fun _ => fun
  | [d1, d2, d3] => { results := [.lit (.bool false)], args := [d1, d2, d3] }
  | _ => none }
def AhoOddWrongFalsely : Prop := ahoOddRow.holds Try.pinned (OpenSpec.ofChange ahoOddWrong)

/-- 'footbridgelaw19.StopFeeds': WHATEVER THE INPUT: true; the input reads as it did. -/
def stopFeedsSpec : ChangeSpec := { name := "stopFeeds", fn := fun _ => fun
  | [d1, d2] => { results := [.lit (.bool true)], args := [d1, d2] }
  | _ => none }
def stopFeedsRow : OpenClaim := { program := "ytohfkpoblebfaaa", sum := "28bb7a1e85c2dd9b85a6f5f907ff47a24cdac14e78b68ea21aad583b8996a9ad", func := "footbridge/footbridgelaw19.StopFeeds", spec := "stopFeeds", inPlace := ["slices.overlaps[footbridge/aho.way]"], unfollowed := true, recurses := true, apart := false }
def StopFeedsSaid : Prop := stopFeedsRow.holds Try.pinned (OpenSpec.ofChange stopFeedsSpec)

/-- ITS FALSE NEIGHBOUR: 'it returns false'. Refute it at one input. -/
def stopFeedsWrong : ChangeSpec := { name := "stopFeeds", fn := fun _ => fun
  | [d1, d2] => { results := [.lit (.bool false)], args := [d1, d2] }
  | _ => none }
def StopFeedsWrongFalsely : Prop := stopFeedsRow.holds Try.pinned (OpenSpec.ofChange stopFeedsWrong)

/-- 'footbridgelaw19.StopFree': WHATEVER THE INPUT: true; the input reads as it did. -/
def stopFreeSpec : ChangeSpec := { name := "stopFree", fn := fun _ => fun
  | [d1, d2] => { results := [.lit (.bool true)], args := [d1, d2] }
  | _ => none }
def stopFreeRow : OpenClaim := { program := "ytohfkpoblebfaaa", sum := "28bb7a1e85c2dd9b85a6f5f907ff47a24cdac14e78b68ea21aad583b8996a9ad", func := "footbridge/footbridgelaw19.StopFree", spec := "stopFree", inPlace := ["slices.overlaps[footbridge/aho.way]"], unfollowed := true, recurses := true, apart := false }
def StopFreeSaid : Prop := stopFreeRow.holds Try.pinned (OpenSpec.ofChange stopFreeSpec)

/-- ITS FALSE NEIGHBOUR: 'it returns false'. Refute it at one input. -/
def stopFreeWrong : ChangeSpec := { name := "stopFree", fn := fun _ => fun
  | [d1, d2] => { results := [.lit (.bool false)], args := [d1, d2] }
  | _ => none }
def StopFreeWrongFalsely : Prop := stopFreeRow.holds Try.pinned (OpenSpec.ofChange stopFreeWrong)

/-- 'footbridgelaw19.StopFirst': WHATEVER THE INPUT: true; the input reads as it did. -/
def stopFirstSpec : ChangeSpec := { name := "stopFirst", fn := fun _ => fun
  | [d1, d2] => { results := [.lit (.bool true)], args := [d1, d2] }
  | _ => none }
def stopFirstRow : OpenClaim := { program := "ytohfkpoblebfaaa", sum := "28bb7a1e85c2dd9b85a6f5f907ff47a24cdac14e78b68ea21aad583b8996a9ad", func := "footbridge/footbridgelaw19.StopFirst", spec := "stopFirst", inPlace := ["slices.overlaps[footbridge/aho.way]"], unfollowed := true, recurses := true, apart := false }
def StopFirstSaid : Prop := stopFirstRow.holds Try.pinned (OpenSpec.ofChange stopFirstSpec)

/-- ITS FALSE NEIGHBOUR: 'it returns false'. Refute it at one input. -/
def stopFirstWrong : ChangeSpec := { name := "stopFirst", fn := fun _ => fun
  | [d1, d2] => { results := [.lit (.bool false)], args := [d1, d2] }
  | _ => none }
def StopFirstWrongFalsely : Prop := stopFirstRow.holds Try.pinned (OpenSpec.ofChange stopFirstWrong)

/-- 'footbridgelaw19.StopCopies': WHATEVER THE INPUT: true; the input reads as it did. -/
def stopCopiesSpec : ChangeSpec := { name := "stopCopies", fn := fun _ => fun
  | [d1, d2, d3, d4] => { results := [.lit (.bool true)], args := [d1, d2, d3, d4] }
  | _ => none }
def stopCopiesRow : OpenClaim := { program := "ytohfkpoblebfaaa", sum := "28bb7a1e85c2dd9b85a6f5f907ff47a24cdac14e78b68ea21aad583b8996a9ad", func := "footbridge/footbridgelaw19.StopCopies", spec := "stopCopies", inPlace := ["slices.overlaps[footbridge/aho.way]"], unfollowed := true, recurses := true, apart := false }
def StopCopiesSaid : Prop := stopCopiesRow.holds Try.pinned (OpenSpec.ofChange stopCopiesSpec)

/-- ITS FALSE NEIGHBOUR: 'it returns false'. Refute it at one input. -/
def stopCopiesWrong : ChangeSpec := { name := "stopCopies", fn := fun _ => fun
  | [d1, d2, d3, d4] => { results := [.lit (.bool false)], args := [d1, d2, d3, d4] }
  | _ => none }
def StopCopiesWrongFalsely : Prop := stopCopiesRow.holds Try.pinned (OpenSpec.ofChange stopCopiesWrong)

/-- 'footbridgelaw19.StopNil': WHATEVER THE INPUT: true; the input reads as it did. -/
def stopNilSpec : ChangeSpec := { name := "stopNil", fn := fun _ => fun
  | [d] => { results := [.lit (.bool true)], args := [d] }
  | _ => none }
def stopNilRow : OpenClaim := { program := "ytohfkpoblebfaaa", sum := "28bb7a1e85c2dd9b85a6f5f907ff47a24cdac14e78b68ea21aad583b8996a9ad", func := "footbridge/footbridgelaw19.StopNil", spec := "stopNil", inPlace := ["slices.overlaps[footbridge/aho.way]"], unfollowed := true, recurses := true, apart := false }
def StopNilSaid : Prop := stopNilRow.holds Try.pinned (OpenSpec.ofChange stopNilSpec)

/-- ITS FALSE NEIGHBOUR: 'it returns false'. Refute it at one input. -/
def stopNilWrong : ChangeSpec := { name := "stopNil", fn := fun _ => fun
  | [d] => { results := [.lit (.bool false)], args := [d] }
  | _ => none }
def StopNilWrongFalsely : Prop := stopNilRow.holds Try.pinned (OpenSpec.ofChange stopNilWrong)

/- THE SECOND FORM. 'bulk': how many values and letters a reading holds, each counted each time it is reached (what is shared counts as often as it is met; a slice's spare places count too). A statement '..UptoSaid' is the law's where the arguments, and the package variables that the reading takes, are together of bulk at most 1048576: NARROWER than '..Said'. Prove '..Said' where nothing that the law and all that it calls make is longer than what came in: it says more and counts as full. Else prove '..UptoSaid'. A law counts once. -/
mutual
def uptoBulk {H : Type} : DataW H → Nat
  | .lit (.string bytes) => bytes.length + 1
  | .lit _ => 1
  | .nil => 1
  | .ptr d => uptoBulk d + 1
  | .slice elems spare => uptoBulkAll elems + uptoBulkAll spare + 1
  | .agg parts => uptoBulkAll parts + 1
  | .iface _ d => uptoBulk d + 1
  | .map entries => uptoBulkEntries entries + 1
  | .held _ => 1
def uptoBulkAll {H : Type} : List (DataW H) → Nat
  | [] => 0
  | d :: r => uptoBulk d + uptoBulkAll r
def uptoBulkEntries {H : Type} : List (Lit × DataW H) → Nat
  | [] => 0
  | x :: r => uptoBulkEntry x + uptoBulkEntries r
def uptoBulkEntry {H : Type} : Lit × DataW H → Nat
  | (.string bytes, d) => bytes.length + uptoBulk d + 1
  | (_, d) => uptoBulk d + 1
 end
def uptoSmall : (H : Type) → List (DataW H) → Bool := fun _ ds => decide (uptoBulkAll ds ≤ 1048576)
def OpenSpec.upto (s : _root_.Go.ChangeSpec) : _root_.Go.OpenSpec := { _root_.Go.OpenSpec.ofChange s with cond := some uptoSmall }

/-- 'footbridgelaw18.AhoNew', WHERE WHAT IT READS IS OF BULK AT MOST 1048576: true; the input reads as it did. -/
def ahoNewUptoRow : OpenClaim := { program := "ytohfkpoblebfaaa", sum := "28bb7a1e85c2dd9b85a6f5f907ff47a24cdac14e78b68ea21aad583b8996a9ad", func := "footbridge/footbridgelaw18.AhoNew", spec := "ahoNew", inPlace := ["slices.overlaps[footbridge/aho.way]"], unfollowed := true, recurses := true, apart := false, narrowed := true }
def AhoNewUptoSaid : Prop := ahoNewUptoRow.holds Try.pinned (OpenSpec.upto ahoNewSpec)

/-- 'footbridgelaw18.AhoWalks', WHERE WHAT IT READS IS OF BULK AT MOST 1048576: true; the input reads as it did. -/
def ahoWalksUptoRow : OpenClaim := { program := "ytohfkpoblebfaaa", sum := "28bb7a1e85c2dd9b85a6f5f907ff47a24cdac14e78b68ea21aad583b8996a9ad", func := "footbridge/footbridgelaw18.AhoWalks", spec := "ahoWalks", inPlace := ["slices.overlaps[footbridge/aho.way]"], unfollowed := true, recurses := true, apart := false, narrowed := true }
def AhoWalksUptoSaid : Prop := ahoWalksUptoRow.holds Try.pinned (OpenSpec.upto ahoWalksSpec)

/-- 'footbridgelaw18.AhoSame', WHERE WHAT IT READS IS OF BULK AT MOST 1048576: true; the input reads as it did. -/
def ahoSameUptoRow : OpenClaim := { program := "ytohfkpoblebfaaa", sum := "28bb7a1e85c2dd9b85a6f5f907ff47a24cdac14e78b68ea21aad583b8996a9ad", func := "footbridge/footbridgelaw18.AhoSame", spec := "ahoSame", inPlace := ["slices.overlaps[footbridge/aho.way]"], unfollowed := true, recurses := true, apart := false, narrowed := true }
def AhoSameUptoSaid : Prop := ahoSameUptoRow.holds Try.pinned (OpenSpec.upto ahoSameSpec)

/-- 'footbridgelaw18.AhoParts', WHERE WHAT IT READS IS OF BULK AT MOST 1048576: true; the input reads as it did. -/
def ahoPartsUptoRow : OpenClaim := { program := "ytohfkpoblebfaaa", sum := "28bb7a1e85c2dd9b85a6f5f907ff47a24cdac14e78b68ea21aad583b8996a9ad", func := "footbridge/footbridgelaw18.AhoParts", spec := "ahoParts", inPlace := ["slices.overlaps[footbridge/aho.way]"], unfollowed := true, recurses := true, apart := false, narrowed := true }
def AhoPartsUptoSaid : Prop := ahoPartsUptoRow.holds Try.pinned (OpenSpec.upto ahoPartsSpec)

/-- 'footbridgelaw18.AhoOdd', WHERE WHAT IT READS IS OF BULK AT MOST 1048576: true; the input reads as it did. -/
def ahoOddUptoRow : OpenClaim := { program := "ytohfkpoblebfaaa", sum := "28bb7a1e85c2dd9b85a6f5f907ff47a24cdac14e78b68ea21aad583b8996a9ad", func := "footbridge/footbridgelaw18.AhoOdd", spec := "ahoOdd", inPlace := ["slices.overlaps[footbridge/aho.way]"], unfollowed := true, recurses := true, apart := false, narrowed := true }
def AhoOddUptoSaid : Prop := ahoOddUptoRow.holds Try.pinned (OpenSpec.upto ahoOddSpec)

/-- 'footbridgelaw19.StopFeeds', WHERE WHAT IT READS IS OF BULK AT MOST 1048576: true; the input reads as it did. -/
def stopFeedsUptoRow : OpenClaim := { program := "ytohfkpoblebfaaa", sum := "28bb7a1e85c2dd9b85a6f5f907ff47a24cdac14e78b68ea21aad583b8996a9ad", func := "footbridge/footbridgelaw19.StopFeeds", spec := "stopFeeds", inPlace := ["slices.overlaps[footbridge/aho.way]"], unfollowed := true, recurses := true, apart := false, narrowed := true }
def StopFeedsUptoSaid : Prop := stopFeedsUptoRow.holds Try.pinned (OpenSpec.upto stopFeedsSpec)

/-- 'footbridgelaw19.StopFree', WHERE WHAT IT READS IS OF BULK AT MOST 1048576: true; the input reads as it did. -/
def stopFreeUptoRow : OpenClaim := { program := "ytohfkpoblebfaaa", sum := "28bb7a1e85c2dd9b85a6f5f907ff47a24cdac14e78b68ea21aad583b8996a9ad", func := "footbridge/footbridgelaw19.StopFree", spec := "stopFree", inPlace := ["slices.overlaps[footbridge/aho.way]"], unfollowed := true, recurses := true, apart := false, narrowed := true }
def StopFreeUptoSaid : Prop := stopFreeUptoRow.holds Try.pinned (OpenSpec.upto stopFreeSpec)

/-- 'footbridgelaw19.StopFirst', WHERE WHAT IT READS IS OF BULK AT MOST 1048576: true; the input reads as it did. -/
def stopFirstUptoRow : OpenClaim := { program := "ytohfkpoblebfaaa", sum := "28bb7a1e85c2dd9b85a6f5f907ff47a24cdac14e78b68ea21aad583b8996a9ad", func := "footbridge/footbridgelaw19.StopFirst", spec := "stopFirst", inPlace := ["slices.overlaps[footbridge/aho.way]"], unfollowed := true, recurses := true, apart := false, narrowed := true }
def StopFirstUptoSaid : Prop := stopFirstUptoRow.holds Try.pinned (OpenSpec.upto stopFirstSpec)

/-- 'footbridgelaw19.StopCopies', WHERE WHAT IT READS IS OF BULK AT MOST 1048576: true; the input reads as it did. -/
def stopCopiesUptoRow : OpenClaim := { program := "ytohfkpoblebfaaa", sum := "28bb7a1e85c2dd9b85a6f5f907ff47a24cdac14e78b68ea21aad583b8996a9ad", func := "footbridge/footbridgelaw19.StopCopies", spec := "stopCopies", inPlace := ["slices.overlaps[footbridge/aho.way]"], unfollowed := true, recurses := true, apart := false, narrowed := true }
def StopCopiesUptoSaid : Prop := stopCopiesUptoRow.holds Try.pinned (OpenSpec.upto stopCopiesSpec)

/-- 'footbridgelaw19.StopNil', WHERE WHAT IT READS IS OF BULK AT MOST 1048576: true; the input reads as it did. -/
def stopNilUptoRow : OpenClaim := { program := "ytohfkpoblebfaaa", sum := "28bb7a1e85c2dd9b85a6f5f907ff47a24cdac14e78b68ea21aad583b8996a9ad", func := "footbridge/footbridgelaw19.StopNil", spec := "stopNil", inPlace := ["slices.overlaps[footbridge/aho.way]"], unfollowed := true, recurses := true, apart := false, narrowed := true }
def StopNilUptoSaid : Prop := stopNilUptoRow.holds Try.pinned (OpenSpec.upto stopNilSpec)

end Rows
end Go.Proofs.Ytohfkpoblebfaaa
