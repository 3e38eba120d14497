/-
  No cell of these rows narrows 'for every input' (looked for: loops, veiled, ifaces, maps, wideKeys, modest, calm, conditions, laid).
  DERIVED. THE GIVEN ROWS OF THIS SEAT. 10 by the template 'for every input the law returns true; each argument reads behind the call as it read before'; 0 by the template 'total and deterministic' (their statements: YtdapcilhbclcnaaTotals.lean).
  GIVEN WITH THE SEED: the statements are not yours to turn. If you find one false, say at which input.
  Laid BY PROGRAM, IN A SANDBOX (cutbox-rows.mjs): the forced cells as the released guide's own fill.sh prints them over the translation 2c2ae519d4a4de39… (all of the seat's roots in one cut). By AI agents, Wed Nov 11 2026. No macro, syntax, notation, axiom, sorry.
-/
import Derived.Test.YtdapcilhbclcnaaChecked
import GoSem.Claim
import GoSem.ClaimJoined
import GoSem.ClaimMapViews
import Derived.JoinedTies
import Derived.KernelRfl
namespace Go.Proofs.Ytdapcilhbclcnaa
/- THE CELL 'sum', in the pinned program and in every row, IS THE sha256 OF THE DUMP (.gsa) THAT YtdapcilhbclcnaaProg.lean LOADS. Nothing in Lean hashes anything: it is a label: what it is worth is what the hold of that sum in a sandbox is worth. -/
noncomputable def Try.pinned : Pinned := { name := "ytdapcilhbclcnaa", sum := "2c2ae519d4a4de398693e2ad682b31d5756c7caf5966cfa62d4dffa751dc6c05", checked := Try.checked }
namespace Rows
def none {H : Type} : Left H := { results := [], args := [] }

/-- 'footbridgelaw03.Base64Texts': WHATEVER THE INPUT: true; the input reads as it did. -/
def base64TextsSpec : ChangeSpec := { name := "base64Texts", fn := fun _ => fun
  | [d] => { results := [.lit (.bool true)], args := [d] }
  | _ => none }
def base64TextsRow : OpenClaim := { program := "ytdapcilhbclcnaa", sum := "2c2ae519d4a4de398693e2ad682b31d5756c7caf5966cfa62d4dffa751dc6c05", func := "footbridge/footbridgelaw03.Base64Texts", spec := "base64Texts", inPlace := ["internal/bytealg.IndexByteString", "internal/abi.NoEscape"], apart := false }
def Base64TextsSaid : Prop := base64TextsRow.holds Try.pinned (OpenSpec.ofChange base64TextsSpec)

/-- ITS FALSE NEIGHBOUR: 'it returns false'. Refute it at one input. -/
def base64TextsWrong : ChangeSpec := { name := "base64Texts", fn := fun _ => fun
  | [d] => { results := [.lit (.bool false)], args := [d] }
  | _ => none }
def Base64TextsWrongFalsely : Prop := base64TextsRow.holds Try.pinned (OpenSpec.ofChange base64TextsWrong)

/-- 'footbridgelaw03.Base64Reads': WHATEVER THE INPUT: true; the input reads as it did. -/
def base64ReadsSpec : ChangeSpec := { name := "base64Reads", fn := fun _ => fun
  | [d] => { results := [.lit (.bool true)], args := [d] }
  | _ => none }
def base64ReadsRow : OpenClaim := { program := "ytdapcilhbclcnaa", sum := "2c2ae519d4a4de398693e2ad682b31d5756c7caf5966cfa62d4dffa751dc6c05", func := "footbridge/footbridgelaw03.Base64Reads", spec := "base64Reads", inPlace := ["internal/bytealg.IndexByteString", "internal/abi.NoEscape"], apart := false }
def Base64ReadsSaid : Prop := base64ReadsRow.holds Try.pinned (OpenSpec.ofChange base64ReadsSpec)

/-- ITS FALSE NEIGHBOUR: 'it returns false'. Refute it at one input. -/
def base64ReadsWrong : ChangeSpec := { name := "base64Reads", fn := fun _ => fun
  | [d] => { results := [.lit (.bool false)], args := [d] }
  | _ => none }
def Base64ReadsWrongFalsely : Prop := base64ReadsRow.holds Try.pinned (OpenSpec.ofChange base64ReadsWrong)

/-- 'footbridgelaw03.Base64One': WHATEVER THE INPUT: true; the input reads as it did. -/
def base64OneSpec : ChangeSpec := { name := "base64One", fn := fun _ => fun
  | [d] => { results := [.lit (.bool true)], args := [d] }
  | _ => none }
def base64OneRow : OpenClaim := { program := "ytdapcilhbclcnaa", sum := "2c2ae519d4a4de398693e2ad682b31d5756c7caf5966cfa62d4dffa751dc6c05", func := "footbridge/footbridgelaw03.Base64One", spec := "base64One", inPlace := ["internal/bytealg.IndexByteString", "internal/abi.NoEscape"], apart := false }
def Base64OneSaid : Prop := base64OneRow.holds Try.pinned (OpenSpec.ofChange base64OneSpec)

/-- ITS FALSE NEIGHBOUR: 'it returns false'. Refute it at one input. -/
def base64OneWrong : ChangeSpec := { name := "base64One", fn := fun _ => fun
  | [d] => { results := [.lit (.bool false)], args := [d] }
  | _ => none }
def Base64OneWrongFalsely : Prop := base64OneRow.holds Try.pinned (OpenSpec.ofChange base64OneWrong)

/-- 'footbridgelaw03.Base64Joins': WHATEVER THE INPUT: true; the input reads as it did. -/
def base64JoinsSpec : ChangeSpec := { name := "base64Joins", fn := fun _ => fun
  | [d1, d2] => { results := [.lit (.bool true)], args := [d1, d2] }
  | _ => none }
def base64JoinsRow : OpenClaim := { program := "ytdapcilhbclcnaa", sum := "2c2ae519d4a4de398693e2ad682b31d5756c7caf5966cfa62d4dffa751dc6c05", func := "footbridge/footbridgelaw03.Base64Joins", spec := "base64Joins", inPlace := ["internal/bytealg.IndexByteString", "internal/abi.NoEscape"], apart := false }
def Base64JoinsSaid : Prop := base64JoinsRow.holds Try.pinned (OpenSpec.ofChange base64JoinsSpec)

/-- ITS FALSE NEIGHBOUR: 'it returns false'. Refute it at one input. -/
def base64JoinsWrong : ChangeSpec := { name := "base64Joins", fn := fun _ => fun
  | [d1, d2] => { results := [.lit (.bool false)], args := [d1, d2] }
  | _ => none }
def Base64JoinsWrongFalsely : Prop := base64JoinsRow.holds Try.pinned (OpenSpec.ofChange base64JoinsWrong)

/-- 'footbridgelaw03.Base64Place': WHATEVER THE INPUT: true; the input reads as it did. -/
def base64PlaceSpec : ChangeSpec := { name := "base64Place", fn := fun _ => fun
  | [d1, d2] => { results := [.lit (.bool true)], args := [d1, d2] }
  | _ => none }
def base64PlaceRow : OpenClaim := { program := "ytdapcilhbclcnaa", sum := "2c2ae519d4a4de398693e2ad682b31d5756c7caf5966cfa62d4dffa751dc6c05", func := "footbridge/footbridgelaw03.Base64Place", spec := "base64Place", inPlace := ["internal/bytealg.IndexByteString", "internal/abi.NoEscape"], apart := false }
def Base64PlaceSaid : Prop := base64PlaceRow.holds Try.pinned (OpenSpec.ofChange base64PlaceSpec)

/-- ITS FALSE NEIGHBOUR: 'it returns false'. Refute it at one input. -/
def base64PlaceWrong : ChangeSpec := { name := "base64Place", fn := fun _ => fun
  | [d1, d2] => { results := [.lit (.bool false)], args := [d1, d2] }
  | _ => none }
def Base64PlaceWrongFalsely : Prop := base64PlaceRow.holds Try.pinned (OpenSpec.ofChange base64PlaceWrong)

/-- 'footbridgelaw04.LetterBytes': WHATEVER THE INPUT: true; the input reads as it did. -/
def letterBytesSpec : ChangeSpec := { name := "letterBytes", fn := fun _ => fun
  | [d1, d2] => { results := [.lit (.bool true)], args := [d1, d2] }
  | _ => none }
def letterBytesRow : OpenClaim := { program := "ytdapcilhbclcnaa", sum := "2c2ae519d4a4de398693e2ad682b31d5756c7caf5966cfa62d4dffa751dc6c05", func := "footbridge/footbridgelaw04.LetterBytes", spec := "letterBytes", inPlace := ["internal/abi.NoEscape"], apart := false }
def LetterBytesSaid : Prop := letterBytesRow.holds Try.pinned (OpenSpec.ofChange letterBytesSpec)

/-- ITS FALSE NEIGHBOUR: 'it returns false'. Refute it at one input. -/
def letterBytesWrong : ChangeSpec := { name := "letterBytes", fn := fun _ => fun
  | [d1, d2] => { results := [.lit (.bool false)], args := [d1, d2] }
  | _ => none }
def LetterBytesWrongFalsely : Prop := letterBytesRow.holds Try.pinned (OpenSpec.ofChange letterBytesWrong)

/-- 'footbridgelaw04.LetterTexts': WHATEVER THE INPUT: true; the input reads as it did. -/
def letterTextsSpec : ChangeSpec := { name := "letterTexts", fn := fun _ => fun
  | [d] => { results := [.lit (.bool true)], args := [d] }
  | _ => none }
def letterTextsRow : OpenClaim := { program := "ytdapcilhbclcnaa", sum := "2c2ae519d4a4de398693e2ad682b31d5756c7caf5966cfa62d4dffa751dc6c05", func := "footbridge/footbridgelaw04.LetterTexts", spec := "letterTexts", inPlace := ["internal/abi.NoEscape"], apart := false }
def LetterTextsSaid : Prop := letterTextsRow.holds Try.pinned (OpenSpec.ofChange letterTextsSpec)

/-- ITS FALSE NEIGHBOUR: 'it returns false'. Refute it at one input. -/
def letterTextsWrong : ChangeSpec := { name := "letterTexts", fn := fun _ => fun
  | [d] => { results := [.lit (.bool false)], args := [d] }
  | _ => none }
def LetterTextsWrongFalsely : Prop := letterTextsRow.holds Try.pinned (OpenSpec.ofChange letterTextsWrong)

/-- 'footbridgelaw04.LetterReads': WHATEVER THE INPUT: true; the input reads as it did. -/
def letterReadsSpec : ChangeSpec := { name := "letterReads", fn := fun _ => fun
  | [d] => { results := [.lit (.bool true)], args := [d] }
  | _ => none }
def letterReadsRow : OpenClaim := { program := "ytdapcilhbclcnaa", sum := "2c2ae519d4a4de398693e2ad682b31d5756c7caf5966cfa62d4dffa751dc6c05", func := "footbridge/footbridgelaw04.LetterReads", spec := "letterReads", inPlace := ["internal/abi.NoEscape"], apart := false }
def LetterReadsSaid : Prop := letterReadsRow.holds Try.pinned (OpenSpec.ofChange letterReadsSpec)

/-- ITS FALSE NEIGHBOUR: 'it returns false'. Refute it at one input. -/
def letterReadsWrong : ChangeSpec := { name := "letterReads", fn := fun _ => fun
  | [d] => { results := [.lit (.bool false)], args := [d] }
  | _ => none }
def LetterReadsWrongFalsely : Prop := letterReadsRow.holds Try.pinned (OpenSpec.ofChange letterReadsWrong)

/-- 'footbridgelaw04.LetterOne': WHATEVER THE INPUT: true; the input reads as it did. -/
def letterOneSpec : ChangeSpec := { name := "letterOne", fn := fun _ => fun
  | [d] => { results := [.lit (.bool true)], args := [d] }
  | _ => none }
def letterOneRow : OpenClaim := { program := "ytdapcilhbclcnaa", sum := "2c2ae519d4a4de398693e2ad682b31d5756c7caf5966cfa62d4dffa751dc6c05", func := "footbridge/footbridgelaw04.LetterOne", spec := "letterOne", inPlace := ["internal/abi.NoEscape"], apart := false }
def LetterOneSaid : Prop := letterOneRow.holds Try.pinned (OpenSpec.ofChange letterOneSpec)

/-- ITS FALSE NEIGHBOUR: 'it returns false'. Refute it at one input. -/
def letterOneWrong : ChangeSpec := { name := "letterOne", fn := fun _ => fun
  | [d] => { results := [.lit (.bool false)], args := [d] }
  | _ => none }
def LetterOneWrongFalsely : Prop := letterOneRow.holds Try.pinned (OpenSpec.ofChange letterOneWrong)

/-- 'footbridgelaw04.LetterJoins': WHATEVER THE INPUT: true; the input reads as it did. -/
def letterJoinsSpec : ChangeSpec := { name := "letterJoins", fn := fun _ => fun
  | [d1, d2] => { results := [.lit (.bool true)], args := [d1, d2] }
  | _ => none }
def letterJoinsRow : OpenClaim := { program := "ytdapcilhbclcnaa", sum := "2c2ae519d4a4de398693e2ad682b31d5756c7caf5966cfa62d4dffa751dc6c05", func := "footbridge/footbridgelaw04.LetterJoins", spec := "letterJoins", inPlace := ["internal/abi.NoEscape"], apart := false }
def LetterJoinsSaid : Prop := letterJoinsRow.holds Try.pinned (OpenSpec.ofChange letterJoinsSpec)

/-- ITS FALSE NEIGHBOUR: 'it returns false'. Refute it at one input. -/
def letterJoinsWrong : ChangeSpec := { name := "letterJoins", fn := fun _ => fun
  | [d1, d2] => { results := [.lit (.bool false)], args := [d1, d2] }
  | _ => none }
def LetterJoinsWrongFalsely : Prop := letterJoinsRow.holds Try.pinned (OpenSpec.ofChange letterJoinsWrong)

/- THE SECOND FORM. 'bulk': how many values and letters a reading holds, each counted each time it is reached (what is shared counts as often as it is met; a slice's spare places count too). A statement '..UptoSaid' is the law's where the arguments, and the package variables that the reading takes, are together of bulk at most 1048576: NARROWER than '..Said'. Prove '..Said' where nothing that the law and all that it calls make is longer than what came in: it says more and counts as full. Else prove '..UptoSaid'. A law counts once. -/
mutual
def uptoBulk {H : Type} : DataW H → Nat
  | .lit (.string bytes) => bytes.length + 1
  | .lit _ => 1
  | .nil => 1
  | .ptr d => uptoBulk d + 1
  | .slice elems spare => uptoBulkAll elems + uptoBulkAll spare + 1
  | .agg parts => uptoBulkAll parts + 1
  | .iface _ d => uptoBulk d + 1
  | .map entries => uptoBulkEntries entries + 1
  | .held _ => 1
def uptoBulkAll {H : Type} : List (DataW H) → Nat
  | [] => 0
  | d :: r => uptoBulk d + uptoBulkAll r
def uptoBulkEntries {H : Type} : List (Lit × DataW H) → Nat
  | [] => 0
  | x :: r => uptoBulkEntry x + uptoBulkEntries r
def uptoBulkEntry {H : Type} : Lit × DataW H → Nat
  | (.string bytes, d) => bytes.length + uptoBulk d + 1
  | (_, d) => uptoBulk d + 1
 end
def uptoSmall : (H : Type) → List (DataW H) → Bool := fun _ ds => decide (uptoBulkAll ds ≤ 1048576)
def OpenSpec.upto (s : _root_.Go.ChangeSpec) : _root_.Go.OpenSpec := { _root_.Go.OpenSpec.ofChange s with cond := some uptoSmall }

/-- 'footbridgelaw03.Base64Texts', WHERE WHAT IT READS IS OF BULK AT MOST 1048576: true; the input reads as it did. -/
def base64TextsUptoRow : OpenClaim := { program := "ytdapcilhbclcnaa", sum := "2c2ae519d4a4de398693e2ad682b31d5756c7caf5966cfa62d4dffa751dc6c05", func := "footbridge/footbridgelaw03.Base64Texts", spec := "base64Texts", inPlace := ["internal/bytealg.IndexByteString", "internal/abi.NoEscape"], apart := false, narrowed := true }
def Base64TextsUptoSaid : Prop := base64TextsUptoRow.holds Try.pinned (OpenSpec.upto base64TextsSpec)

/-- 'footbridgelaw03.Base64Reads', WHERE WHAT IT READS IS OF BULK AT MOST 1048576: true; the input reads as it did. -/
def base64ReadsUptoRow : OpenClaim := { program := "ytdapcilhbclcnaa", sum := "2c2ae519d4a4de398693e2ad682b31d5756c7caf5966cfa62d4dffa751dc6c05", func := "footbridge/footbridgelaw03.Base64Reads", spec := "base64Reads", inPlace := ["internal/bytealg.IndexByteString", "internal/abi.NoEscape"], apart := false, narrowed := true }
def Base64ReadsUptoSaid : Prop := base64ReadsUptoRow.holds Try.pinned (OpenSpec.upto base64ReadsSpec)

/-- 'footbridgelaw03.Base64One', WHERE WHAT IT READS IS OF BULK AT MOST 1048576: true; the input reads as it did. -/
def base64OneUptoRow : OpenClaim := { program := "ytdapcilhbclcnaa", sum := "2c2ae519d4a4de398693e2ad682b31d5756c7caf5966cfa62d4dffa751dc6c05", func := "footbridge/footbridgelaw03.Base64One", spec := "base64One", inPlace := ["internal/bytealg.IndexByteString", "internal/abi.NoEscape"], apart := false, narrowed := true }
def Base64OneUptoSaid : Prop := base64OneUptoRow.holds Try.pinned (OpenSpec.upto base64OneSpec)

/-- 'footbridgelaw03.Base64Joins', WHERE WHAT IT READS IS OF BULK AT MOST 1048576: true; the input reads as it did. -/
def base64JoinsUptoRow : OpenClaim := { program := "ytdapcilhbclcnaa", sum := "2c2ae519d4a4de398693e2ad682b31d5756c7caf5966cfa62d4dffa751dc6c05", func := "footbridge/footbridgelaw03.Base64Joins", spec := "base64Joins", inPlace := ["internal/bytealg.IndexByteString", "internal/abi.NoEscape"], apart := false, narrowed := true }
def Base64JoinsUptoSaid : Prop := base64JoinsUptoRow.holds Try.pinned (OpenSpec.upto base64JoinsSpec)

/-- 'footbridgelaw03.Base64Place', WHERE WHAT IT READS IS OF BULK AT MOST 1048576: true; the input reads as it did. -/
def base64PlaceUptoRow : OpenClaim := { program := "ytdapcilhbclcnaa", sum := "2c2ae519d4a4de398693e2ad682b31d5756c7caf5966cfa62d4dffa751dc6c05", func := "footbridge/footbridgelaw03.Base64Place", spec := "base64Place", inPlace := ["internal/bytealg.IndexByteString", "internal/abi.NoEscape"], apart := false, narrowed := true }
def Base64PlaceUptoSaid : Prop := base64PlaceUptoRow.holds Try.pinned (OpenSpec.upto base64PlaceSpec)

/-- 'footbridgelaw04.LetterBytes', WHERE WHAT IT READS IS OF BULK AT MOST 1048576: true; the input reads as it did. -/
def letterBytesUptoRow : OpenClaim := { program := "ytdapcilhbclcnaa", sum := "2c2ae519d4a4de398693e2ad682b31d5756c7caf5966cfa62d4dffa751dc6c05", func := "footbridge/footbridgelaw04.LetterBytes", spec := "letterBytes", inPlace := ["internal/abi.NoEscape"], apart := false, narrowed := true }
def LetterBytesUptoSaid : Prop := letterBytesUptoRow.holds Try.pinned (OpenSpec.upto letterBytesSpec)

/-- 'footbridgelaw04.LetterTexts', WHERE WHAT IT READS IS OF BULK AT MOST 1048576: true; the input reads as it did. -/
def letterTextsUptoRow : OpenClaim := { program := "ytdapcilhbclcnaa", sum := "2c2ae519d4a4de398693e2ad682b31d5756c7caf5966cfa62d4dffa751dc6c05", func := "footbridge/footbridgelaw04.LetterTexts", spec := "letterTexts", inPlace := ["internal/abi.NoEscape"], apart := false, narrowed := true }
def LetterTextsUptoSaid : Prop := letterTextsUptoRow.holds Try.pinned (OpenSpec.upto letterTextsSpec)

/-- 'footbridgelaw04.LetterReads', WHERE WHAT IT READS IS OF BULK AT MOST 1048576: true; the input reads as it did. -/
def letterReadsUptoRow : OpenClaim := { program := "ytdapcilhbclcnaa", sum := "2c2ae519d4a4de398693e2ad682b31d5756c7caf5966cfa62d4dffa751dc6c05", func := "footbridge/footbridgelaw04.LetterReads", spec := "letterReads", inPlace := ["internal/abi.NoEscape"], apart := false, narrowed := true }
def LetterReadsUptoSaid : Prop := letterReadsUptoRow.holds Try.pinned (OpenSpec.upto letterReadsSpec)

/-- 'footbridgelaw04.LetterOne', WHERE WHAT IT READS IS OF BULK AT MOST 1048576: true; the input reads as it did. -/
def letterOneUptoRow : OpenClaim := { program := "ytdapcilhbclcnaa", sum := "2c2ae519d4a4de398693e2ad682b31d5756c7caf5966cfa62d4dffa751dc6c05", func := "footbridge/footbridgelaw04.LetterOne", spec := "letterOne", inPlace := ["internal/abi.NoEscape"], apart := false, narrowed := true }
def LetterOneUptoSaid : Prop := letterOneUptoRow.holds Try.pinned (OpenSpec.upto letterOneSpec)

/-- 'footbridgelaw04.LetterJoins', WHERE WHAT IT READS IS OF BULK AT MOST 1048576: true; the input reads as it did. -/
def letterJoinsUptoRow : OpenClaim := { program := "ytdapcilhbclcnaa", sum := "2c2ae519d4a4de398693e2ad682b31d5756c7caf5966cfa62d4dffa751dc6c05", func := "footbridge/footbridgelaw04.LetterJoins", spec := "letterJoins", inPlace := ["internal/abi.NoEscape"], apart := false, narrowed := true }
def LetterJoinsUptoSaid : Prop := letterJoinsUptoRow.holds Try.pinned (OpenSpec.upto letterJoinsSpec)

end Rows
end Go.Proofs.Ytdapcilhbclcnaa
