/-
  No cell of these rows narrows 'for every input' (looked for: loops, veiled, ifaces, maps, wideKeys, modest, calm, conditions, laid).
  DERIVED. THE GIVEN ROWS OF THIS SEAT. 6 by the template 'for every input the law returns true; each argument reads behind the call as it read before'; 0 by the template 'total and deterministic' (their statements: YtffdhpoljfmjoaaTotals.lean).
  GIVEN WITH THE SEED: the statements are not yours to turn. If you find one false, say at which input.
  Laid BY PROGRAM, IN A SANDBOX (cutbox-rows.mjs): the forced cells as the released guide's own fill.sh prints them over the translation f91dff8f1eac4cbf… (all of the seat's roots in one cut). By AI agents, Wed Nov 11 2026. No macro, syntax, notation, axiom, sorry.
-/
import Derived.Test.YtffdhpoljfmjoaaChecked
import GoSem.Claim
import GoSem.ClaimJoined
import GoSem.ClaimMapViews
import Derived.JoinedTies
import Derived.KernelRfl
namespace Go.Proofs.Ytffdhpoljfmjoaa
/- THE CELL 'sum', in the pinned program and in every row, IS THE sha256 OF THE DUMP (.gsa) THAT YtffdhpoljfmjoaaProg.lean LOADS. Nothing in Lean hashes anything: it is a label: what it is worth is what the hold of that sum in a sandbox is worth. -/
noncomputable def Try.pinned : Pinned := { name := "ytffdhpoljfmjoaa", sum := "f91dff8f1eac4cbf241652c173accbfd53cdf40ce82ca1bd248a80a46f273a91", checked := Try.checked }
namespace Rows
def none {H : Type} : Left H := { results := [], args := [] }

/-- 'tailracelaw06.ClockNames': WHATEVER THE INPUT: true; the input reads as it did. -/
def clockNamesSpec : ChangeSpec := { name := "clockNames", fn := fun _ => fun
  | [] => { results := [.lit (.bool true)], args := [] }
  | _ => none }
def clockNamesRow : OpenClaim := { program := "ytffdhpoljfmjoaa", sum := "f91dff8f1eac4cbf241652c173accbfd53cdf40ce82ca1bd248a80a46f273a91", func := "tailrace/tailracelaw06.ClockNames", spec := "clockNames", unfollowed := true, recurses := true, apart := false }
def ClockNamesSaid : Prop := clockNamesRow.holds Try.pinned (OpenSpec.ofChange clockNamesSpec)

/-- ITS FALSE NEIGHBOUR: 'it returns false'. Refute it at one input. -/
def clockNamesWrong : ChangeSpec := { name := "clockNames", fn := fun _ => fun
  | [] => { results := [.lit (.bool false)], args := [] }
  | _ => none }
def ClockNamesWrongFalsely : Prop := clockNamesRow.holds Try.pinned (OpenSpec.ofChange clockNamesWrong)

/-- 'tailracelaw06.ClockPlays': WHATEVER THE INPUT: true; the input reads as it did. -/
def clockPlaysSpec : ChangeSpec := { name := "clockPlays", fn := fun _ => fun
  | [d1, d2] => { results := [.lit (.bool true)], args := [d1, d2] }
  | _ => none }
def clockPlaysRow : OpenClaim := { program := "ytffdhpoljfmjoaa", sum := "f91dff8f1eac4cbf241652c173accbfd53cdf40ce82ca1bd248a80a46f273a91", func := "tailrace/tailracelaw06.ClockPlays", spec := "clockPlays", unfollowed := true, recurses := true, apart := false }
def ClockPlaysSaid : Prop := clockPlaysRow.holds Try.pinned (OpenSpec.ofChange clockPlaysSpec)

/-- ITS FALSE NEIGHBOUR: 'it returns false'. Refute it at one input. -/
def clockPlaysWrong : ChangeSpec := { name := "clockPlays", fn := fun _ => fun
  | [d1, d2] => { results := [.lit (.bool false)], args := [d1, d2] }
  | _ => none }
def ClockPlaysWrongFalsely : Prop := clockPlaysRow.holds Try.pinned (OpenSpec.ofChange clockPlaysWrong)

/-- 'tailracelaw06.ClockFair': WHATEVER THE INPUT: true; the input reads as it did. -/
def clockFairSpec : ChangeSpec := { name := "clockFair", fn := fun _ => fun
  | [d1, d2] => { results := [.lit (.bool true)], args := [d1, d2] }
  | _ => none }
def clockFairRow : OpenClaim := { program := "ytffdhpoljfmjoaa", sum := "f91dff8f1eac4cbf241652c173accbfd53cdf40ce82ca1bd248a80a46f273a91", func := "tailrace/tailracelaw06.ClockFair", spec := "clockFair", unfollowed := true, recurses := true, apart := false }
def ClockFairSaid : Prop := clockFairRow.holds Try.pinned (OpenSpec.ofChange clockFairSpec)

/-- ITS FALSE NEIGHBOUR: 'it returns false'. Refute it at one input. -/
def clockFairWrong : ChangeSpec := { name := "clockFair", fn := fun _ => fun
  | [d1, d2] => { results := [.lit (.bool false)], args := [d1, d2] }
  | _ => none }
def ClockFairWrongFalsely : Prop := clockFairRow.holds Try.pinned (OpenSpec.ofChange clockFairWrong)

/-- 'tailracelaw06.ClockRounds': WHATEVER THE INPUT: true; the input reads as it did. -/
def clockRoundsSpec : ChangeSpec := { name := "clockRounds", fn := fun _ => fun
  | [d1, d2] => { results := [.lit (.bool true)], args := [d1, d2] }
  | _ => none }
def clockRoundsRow : OpenClaim := { program := "ytffdhpoljfmjoaa", sum := "f91dff8f1eac4cbf241652c173accbfd53cdf40ce82ca1bd248a80a46f273a91", func := "tailrace/tailracelaw06.ClockRounds", spec := "clockRounds", unfollowed := true, recurses := true, apart := false }
def ClockRoundsSaid : Prop := clockRoundsRow.holds Try.pinned (OpenSpec.ofChange clockRoundsSpec)

/-- ITS FALSE NEIGHBOUR: 'it returns false'. Refute it at one input. -/
def clockRoundsWrong : ChangeSpec := { name := "clockRounds", fn := fun _ => fun
  | [d1, d2] => { results := [.lit (.bool false)], args := [d1, d2] }
  | _ => none }
def ClockRoundsWrongFalsely : Prop := clockRoundsRow.holds Try.pinned (OpenSpec.ofChange clockRoundsWrong)

/-- 'tailracelaw06.ClockPins': WHATEVER THE INPUT: true; the input reads as it did. -/
def clockPinsSpec : ChangeSpec := { name := "clockPins", fn := fun _ => fun
  | [d1, d2, d3] => { results := [.lit (.bool true)], args := [d1, d2, d3] }
  | _ => none }
def clockPinsRow : OpenClaim := { program := "ytffdhpoljfmjoaa", sum := "f91dff8f1eac4cbf241652c173accbfd53cdf40ce82ca1bd248a80a46f273a91", func := "tailrace/tailracelaw06.ClockPins", spec := "clockPins", unfollowed := true, recurses := true, apart := false }
def ClockPinsSaid : Prop := clockPinsRow.holds Try.pinned (OpenSpec.ofChange clockPinsSpec)

/-- ITS FALSE NEIGHBOUR: 'it returns false'. Refute it at one input. -/
def clockPinsWrong : ChangeSpec := { name := "clockPins", fn := fun _ => fun
  | [d1, d2, d3] => { results := [.lit (.bool false)], args := [d1, d2, d3] }
  | _ => none }
def ClockPinsWrongFalsely : Prop := clockPinsRow.holds Try.pinned (OpenSpec.ofChange clockPinsWrong)

/-- 'tailracelaw06.ClockNil': WHATEVER THE INPUT: true; the input reads as it did. -/
def clockNilSpec : ChangeSpec := { name := "clockNil", fn := fun _ => fun
  | [d] => { results := [.lit (.bool true)], args := [d] }
  | _ => none }
def clockNilRow : OpenClaim := { program := "ytffdhpoljfmjoaa", sum := "f91dff8f1eac4cbf241652c173accbfd53cdf40ce82ca1bd248a80a46f273a91", func := "tailrace/tailracelaw06.ClockNil", spec := "clockNil", unfollowed := true, recurses := true, apart := false }
def ClockNilSaid : Prop := clockNilRow.holds Try.pinned (OpenSpec.ofChange clockNilSpec)

/-- ITS FALSE NEIGHBOUR: 'it returns false'. Refute it at one input. -/
def clockNilWrong : ChangeSpec := { name := "clockNil", fn := fun _ => fun
  | [d] => { results := [.lit (.bool false)], args := [d] }
  | _ => none }
def ClockNilWrongFalsely : Prop := clockNilRow.holds Try.pinned (OpenSpec.ofChange clockNilWrong)

/- THE SECOND FORM. 'bulk': how many values and letters a reading holds, each counted each time it is reached (what is shared counts as often as it is met; a slice's spare places count too). A statement '..UptoSaid' is the law's where the arguments, and the package variables that the reading takes, are together of bulk at most 1048576: NARROWER than '..Said'. Prove '..Said' where nothing that the law and all that it calls make is longer than what came in: it says more and counts as full. Else prove '..UptoSaid'. A law counts once. -/
mutual
def uptoBulk {H : Type} : DataW H → Nat
  | .lit (.string bytes) => bytes.length + 1
  | .lit _ => 1
  | .nil => 1
  | .ptr d => uptoBulk d + 1
  | .slice elems spare => uptoBulkAll elems + uptoBulkAll spare + 1
  | .agg parts => uptoBulkAll parts + 1
  | .iface _ d => uptoBulk d + 1
  | .map entries => uptoBulkEntries entries + 1
  | .held _ => 1
def uptoBulkAll {H : Type} : List (DataW H) → Nat
  | [] => 0
  | d :: r => uptoBulk d + uptoBulkAll r
def uptoBulkEntries {H : Type} : List (Lit × DataW H) → Nat
  | [] => 0
  | x :: r => uptoBulkEntry x + uptoBulkEntries r
def uptoBulkEntry {H : Type} : Lit × DataW H → Nat
  | (.string bytes, d) => bytes.length + uptoBulk d + 1
  | (_, d) => uptoBulk d + 1
 end
def uptoSmall : (H : Type) → List (DataW H) → Bool := fun _ ds => decide (uptoBulkAll ds ≤ 1048576)
def OpenSpec.upto (s : _root_.Go.ChangeSpec) : _root_.Go.OpenSpec := { _root_.Go.OpenSpec.ofChange s with cond := some uptoSmall }

/-- 'tailracelaw06.ClockNames', WHERE WHAT IT READS IS OF BULK AT MOST 1048576: true; the input reads as it did. -/
def clockNamesUptoRow : OpenClaim := { program := "ytffdhpoljfmjoaa", sum := "f91dff8f1eac4cbf241652c173accbfd53cdf40ce82ca1bd248a80a46f273a91", func := "tailrace/tailracelaw06.ClockNames", spec := "clockNames", unfollowed := true, recurses := true, apart := false, narrowed := true }
def ClockNamesUptoSaid : Prop := clockNamesUptoRow.holds Try.pinned (OpenSpec.upto clockNamesSpec)

/-- 'tailracelaw06.ClockPlays', WHERE WHAT IT READS IS OF BULK AT MOST 1048576: true; the input reads as it did. -/
def clockPlaysUptoRow : OpenClaim := { program := "ytffdhpoljfmjoaa", sum := "f91dff8f1eac4cbf241652c173accbfd53cdf40ce82ca1bd248a80a46f273a91", func := "tailrace/tailracelaw06.ClockPlays", spec := "clockPlays", unfollowed := true, recurses := true, apart := false, narrowed := true }
def ClockPlaysUptoSaid : Prop := clockPlaysUptoRow.holds Try.pinned (OpenSpec.upto clockPlaysSpec)

/-- 'tailracelaw06.ClockFair', WHERE WHAT IT READS IS OF BULK AT MOST 1048576: true; the input reads as it did. -/
def clockFairUptoRow : OpenClaim := { program := "ytffdhpoljfmjoaa", sum := "f91dff8f1eac4cbf241652c173accbfd53cdf40ce82ca1bd248a80a46f273a91", func := "tailrace/tailracelaw06.ClockFair", spec := "clockFair", unfollowed := true, recurses := true, apart := false, narrowed := true }
def ClockFairUptoSaid : Prop := clockFairUptoRow.holds Try.pinned (OpenSpec.upto clockFairSpec)

/-- 'tailracelaw06.ClockRounds', WHERE WHAT IT READS IS OF BULK AT MOST 1048576: true; the input reads as it did. -/
def clockRoundsUptoRow : OpenClaim := { program := "ytffdhpoljfmjoaa", sum := "f91dff8f1eac4cbf241652c173accbfd53cdf40ce82ca1bd248a80a46f273a91", func := "tailrace/tailracelaw06.ClockRounds", spec := "clockRounds", unfollowed := true, recurses := true, apart := false, narrowed := true }
def ClockRoundsUptoSaid : Prop := clockRoundsUptoRow.holds Try.pinned (OpenSpec.upto clockRoundsSpec)

/-- 'tailracelaw06.ClockPins', WHERE WHAT IT READS IS OF BULK AT MOST 1048576: true; the input reads as it did. -/
def clockPinsUptoRow : OpenClaim := { program := "ytffdhpoljfmjoaa", sum := "f91dff8f1eac4cbf241652c173accbfd53cdf40ce82ca1bd248a80a46f273a91", func := "tailrace/tailracelaw06.ClockPins", spec := "clockPins", unfollowed := true, recurses := true, apart := false, narrowed := true }
def ClockPinsUptoSaid : Prop := clockPinsUptoRow.holds Try.pinned (OpenSpec.upto clockPinsSpec)

/-- 'tailracelaw06.ClockNil', WHERE WHAT IT READS IS OF BULK AT MOST 1048576: true; the input reads as it did. -/
def clockNilUptoRow : OpenClaim := { program := "ytffdhpoljfmjoaa", sum := "f91dff8f1eac4cbf241652c173accbfd53cdf40ce82ca1bd248a80a46f273a91", func := "tailrace/tailracelaw06.ClockNil", spec := "clockNil", unfollowed := true, recurses := true, apart := false, narrowed := true }
def ClockNilUptoSaid : Prop := clockNilUptoRow.holds Try.pinned (OpenSpec.upto clockNilSpec)

end Rows
end Go.Proofs.Ytffdhpoljfmjoaa
