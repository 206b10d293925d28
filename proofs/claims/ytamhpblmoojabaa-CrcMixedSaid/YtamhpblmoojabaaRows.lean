/-
  No cell of these rows narrows 'for every input' (looked for: loops, veiled, ifaces, maps, wideKeys, modest, calm, conditions, laid).
  DERIVED. THE GIVEN ROWS OF THIS SEAT. 6 by the template 'for every input the law returns true; each argument reads behind the call as it read before'; 0 by the template 'total and deterministic' (their statements: YtamhpblmoojabaaTotals.lean).
  GIVEN WITH THE SEED: the statements are not yours to turn. If you find one false, say at which input.
  Laid BY PROGRAM, IN A SANDBOX (cutbox-rows.mjs): the forced cells as the released guide's own fill.sh prints them over the translation 5c6c73211c1b9f26… (all of the seat's roots in one cut). By AI agents, Wed Nov 11 2026. No macro, syntax, notation, axiom, sorry.
-/
import Derived.Test.YtamhpblmoojabaaChecked
import GoSem.Claim
import GoSem.ClaimJoined
import GoSem.ClaimMapViews
import Derived.JoinedTies
import Derived.KernelRfl
namespace Go.Proofs.Ytamhpblmoojabaa
/- THE CELL 'sum', in the pinned program and in every row, IS THE sha256 OF THE DUMP (.gsa) THAT YtamhpblmoojabaaProg.lean LOADS. Nothing in Lean hashes anything: it is a label: what it is worth is what the hold of that sum in a sandbox is worth. -/
noncomputable def Try.pinned : Pinned := { name := "ytamhpblmoojabaa", sum := "5c6c73211c1b9f2696b68251268ab5a20a7f0811cfd89c5ac28f033e162d0961", checked := Try.checked }
namespace Rows
def none {H : Type} : Left H := { results := [], args := [] }

/-- 'tailracelaw03.CrcTables': WHATEVER THE INPUT: true; the input reads as it did. -/
def crcTablesSpec : ChangeSpec := { name := "crcTables", fn := fun _ => fun
  | [] => { results := [.lit (.bool true)], args := [] }
  | _ => none }
def crcTablesRow : OpenClaim := { program := "ytamhpblmoojabaa", sum := "5c6c73211c1b9f2696b68251268ab5a20a7f0811cfd89c5ac28f033e162d0961", func := "tailrace/tailracelaw03.CrcTables", spec := "crcTables", unfollowed := true, recurses := true, apart := false }
def CrcTablesSaid : Prop := crcTablesRow.holds Try.pinned (OpenSpec.ofChange crcTablesSpec)

/-- ITS FALSE NEIGHBOUR: 'it returns false'. Refute it at one input. -/
def crcTablesWrong : ChangeSpec := { name := "crcTables", fn := fun _ => fun
  | [] => { results := [.lit (.bool false)], args := [] }
  | _ => none }
def CrcTablesWrongFalsely : Prop := crcTablesRow.holds Try.pinned (OpenSpec.ofChange crcTablesWrong)

/-- 'tailracelaw03.CrcSums': WHATEVER THE INPUT: true; the input reads as it did. -/
def crcSumsSpec : ChangeSpec := { name := "crcSums", fn := fun _ => fun
  | [d1, d2] => { results := [.lit (.bool true)], args := [d1, d2] }
  | _ => none }
def crcSumsRow : OpenClaim := { program := "ytamhpblmoojabaa", sum := "5c6c73211c1b9f2696b68251268ab5a20a7f0811cfd89c5ac28f033e162d0961", func := "tailrace/tailracelaw03.CrcSums", spec := "crcSums", unfollowed := true, recurses := true, apart := false }
def CrcSumsSaid : Prop := crcSumsRow.holds Try.pinned (OpenSpec.ofChange crcSumsSpec)

/-- ITS FALSE NEIGHBOUR: 'it returns false'. Refute it at one input. -/
def crcSumsWrong : ChangeSpec := { name := "crcSums", fn := fun _ => fun
  | [d1, d2] => { results := [.lit (.bool false)], args := [d1, d2] }
  | _ => none }
def CrcSumsWrongFalsely : Prop := crcSumsRow.holds Try.pinned (OpenSpec.ofChange crcSumsWrong)

/-- 'tailracelaw03.CrcJoins': WHATEVER THE INPUT: true; the input reads as it did. -/
def crcJoinsSpec : ChangeSpec := { name := "crcJoins", fn := fun _ => fun
  | [d1, d2, d3] => { results := [.lit (.bool true)], args := [d1, d2, d3] }
  | _ => none }
def crcJoinsRow : OpenClaim := { program := "ytamhpblmoojabaa", sum := "5c6c73211c1b9f2696b68251268ab5a20a7f0811cfd89c5ac28f033e162d0961", func := "tailrace/tailracelaw03.CrcJoins", spec := "crcJoins", unfollowed := true, recurses := true, apart := false }
def CrcJoinsSaid : Prop := crcJoinsRow.holds Try.pinned (OpenSpec.ofChange crcJoinsSpec)

/-- ITS FALSE NEIGHBOUR: 'it returns false'. Refute it at one input. -/
def crcJoinsWrong : ChangeSpec := { name := "crcJoins", fn := fun _ => fun
  | [d1, d2, d3] => { results := [.lit (.bool false)], args := [d1, d2, d3] }
  | _ => none }
def CrcJoinsWrongFalsely : Prop := crcJoinsRow.holds Try.pinned (OpenSpec.ofChange crcJoinsWrong)

/-- 'tailracelaw03.CrcTurns': WHATEVER THE INPUT: true; the input reads as it did. -/
def crcTurnsSpec : ChangeSpec := { name := "crcTurns", fn := fun _ => fun
  | [d1, d2, d3, d4, d5] => { results := [.lit (.bool true)], args := [d1, d2, d3, d4, d5] }
  | _ => none }
def crcTurnsRow : OpenClaim := { program := "ytamhpblmoojabaa", sum := "5c6c73211c1b9f2696b68251268ab5a20a7f0811cfd89c5ac28f033e162d0961", func := "tailrace/tailracelaw03.CrcTurns", spec := "crcTurns", unfollowed := true, recurses := true, apart := false }
def CrcTurnsSaid : Prop := crcTurnsRow.holds Try.pinned (OpenSpec.ofChange crcTurnsSpec)

/-- ITS FALSE NEIGHBOUR: 'it returns false'. Refute it at one input. -/
def crcTurnsWrong : ChangeSpec := { name := "crcTurns", fn := fun _ => fun
  | [d1, d2, d3, d4, d5] => { results := [.lit (.bool false)], args := [d1, d2, d3, d4, d5] }
  | _ => none }
def CrcTurnsWrongFalsely : Prop := crcTurnsRow.holds Try.pinned (OpenSpec.ofChange crcTurnsWrong)

/-- 'tailracelaw03.CrcRows': WHATEVER THE INPUT: true; the input reads as it did. -/
def crcRowsSpec : ChangeSpec := { name := "crcRows", fn := fun _ => fun
  | [d1, d2, d3] => { results := [.lit (.bool true)], args := [d1, d2, d3] }
  | _ => none }
def crcRowsRow : OpenClaim := { program := "ytamhpblmoojabaa", sum := "5c6c73211c1b9f2696b68251268ab5a20a7f0811cfd89c5ac28f033e162d0961", func := "tailrace/tailracelaw03.CrcRows", spec := "crcRows", unfollowed := true, recurses := true, apart := false }
def CrcRowsSaid : Prop := crcRowsRow.holds Try.pinned (OpenSpec.ofChange crcRowsSpec)

/-- ITS FALSE NEIGHBOUR: 'it returns false'. Refute it at one input. -/
def crcRowsWrong : ChangeSpec := { name := "crcRows", fn := fun _ => fun
  | [d1, d2, d3] => { results := [.lit (.bool false)], args := [d1, d2, d3] }
  | _ => none }
def CrcRowsWrongFalsely : Prop := crcRowsRow.holds Try.pinned (OpenSpec.ofChange crcRowsWrong)

/-- 'tailracelaw03.CrcMixed': WHATEVER THE INPUT: true; the input reads as it did. -/
def crcMixedSpec : ChangeSpec := { name := "crcMixed", fn := fun _ => fun
  | [d1, d2, d3] => { results := [.lit (.bool true)], args := [d1, d2, d3] }
  | _ => none }
def crcMixedRow : OpenClaim := { program := "ytamhpblmoojabaa", sum := "5c6c73211c1b9f2696b68251268ab5a20a7f0811cfd89c5ac28f033e162d0961", func := "tailrace/tailracelaw03.CrcMixed", spec := "crcMixed", unfollowed := true, recurses := true, apart := false }
def CrcMixedSaid : Prop := crcMixedRow.holds Try.pinned (OpenSpec.ofChange crcMixedSpec)

/-- ITS FALSE NEIGHBOUR: 'it returns false'. Refute it at one input. -/
def crcMixedWrong : ChangeSpec := { name := "crcMixed", fn := fun _ => fun
  | [d1, d2, d3] => { results := [.lit (.bool false)], args := [d1, d2, d3] }
  | _ => none }
def CrcMixedWrongFalsely : Prop := crcMixedRow.holds Try.pinned (OpenSpec.ofChange crcMixedWrong)

/- THE SECOND FORM. 'bulk': how many values and letters a reading holds, each counted each time it is reached (what is shared counts as often as it is met; a slice's spare places count too). A statement '..UptoSaid' is the law's where the arguments, and the package variables that the reading takes, are together of bulk at most 1048576: NARROWER than '..Said'. Prove '..Said' where nothing that the law and all that it calls make is longer than what came in: it says more and counts as full. Else prove '..UptoSaid'. A law counts once. -/
mutual
def uptoBulk {H : Type} : DataW H → Nat
  | .lit (.string bytes) => bytes.length + 1
  | .lit _ => 1
  | .nil => 1
  | .ptr d => uptoBulk d + 1
  | .slice elems spare => uptoBulkAll elems + uptoBulkAll spare + 1
  | .agg parts => uptoBulkAll parts + 1
  | .iface _ d => uptoBulk d + 1
  | .map entries => uptoBulkEntries entries + 1
  | .held _ => 1
def uptoBulkAll {H : Type} : List (DataW H) → Nat
  | [] => 0
  | d :: r => uptoBulk d + uptoBulkAll r
def uptoBulkEntries {H : Type} : List (Lit × DataW H) → Nat
  | [] => 0
  | x :: r => uptoBulkEntry x + uptoBulkEntries r
def uptoBulkEntry {H : Type} : Lit × DataW H → Nat
  | (.string bytes, d) => bytes.length + uptoBulk d + 1
  | (_, d) => uptoBulk d + 1
 end
def uptoSmall : (H : Type) → List (DataW H) → Bool := fun _ ds => decide (uptoBulkAll ds ≤ 1048576)
def OpenSpec.upto (s : _root_.Go.ChangeSpec) : _root_.Go.OpenSpec := { _root_.Go.OpenSpec.ofChange s with cond := some uptoSmall }

/-- 'tailracelaw03.CrcTables', WHERE WHAT IT READS IS OF BULK AT MOST 1048576: true; the input reads as it did. -/
def crcTablesUptoRow : OpenClaim := { program := "ytamhpblmoojabaa", sum := "5c6c73211c1b9f2696b68251268ab5a20a7f0811cfd89c5ac28f033e162d0961", func := "tailrace/tailracelaw03.CrcTables", spec := "crcTables", unfollowed := true, recurses := true, apart := false, narrowed := true }
def CrcTablesUptoSaid : Prop := crcTablesUptoRow.holds Try.pinned (OpenSpec.upto crcTablesSpec)

/-- 'tailracelaw03.CrcSums', WHERE WHAT IT READS IS OF BULK AT MOST 1048576: true; the input reads as it did. -/
def crcSumsUptoRow : OpenClaim := { program := "ytamhpblmoojabaa", sum := "5c6c73211c1b9f2696b68251268ab5a20a7f0811cfd89c5ac28f033e162d0961", func := "tailrace/tailracelaw03.CrcSums", spec := "crcSums", unfollowed := true, recurses := true, apart := false, narrowed := true }
def CrcSumsUptoSaid : Prop := crcSumsUptoRow.holds Try.pinned (OpenSpec.upto crcSumsSpec)

/-- 'tailracelaw03.CrcJoins', WHERE WHAT IT READS IS OF BULK AT MOST 1048576: true; the input reads as it did. -/
def crcJoinsUptoRow : OpenClaim := { program := "ytamhpblmoojabaa", sum := "5c6c73211c1b9f2696b68251268ab5a20a7f0811cfd89c5ac28f033e162d0961", func := "tailrace/tailracelaw03.CrcJoins", spec := "crcJoins", unfollowed := true, recurses := true, apart := false, narrowed := true }
def CrcJoinsUptoSaid : Prop := crcJoinsUptoRow.holds Try.pinned (OpenSpec.upto crcJoinsSpec)

/-- 'tailracelaw03.CrcTurns', WHERE WHAT IT READS IS OF BULK AT MOST 1048576: true; the input reads as it did. -/
def crcTurnsUptoRow : OpenClaim := { program := "ytamhpblmoojabaa", sum := "5c6c73211c1b9f2696b68251268ab5a20a7f0811cfd89c5ac28f033e162d0961", func := "tailrace/tailracelaw03.CrcTurns", spec := "crcTurns", unfollowed := true, recurses := true, apart := false, narrowed := true }
def CrcTurnsUptoSaid : Prop := crcTurnsUptoRow.holds Try.pinned (OpenSpec.upto crcTurnsSpec)

/-- 'tailracelaw03.CrcRows', WHERE WHAT IT READS IS OF BULK AT MOST 1048576: true; the input reads as it did. -/
def crcRowsUptoRow : OpenClaim := { program := "ytamhpblmoojabaa", sum := "5c6c73211c1b9f2696b68251268ab5a20a7f0811cfd89c5ac28f033e162d0961", func := "tailrace/tailracelaw03.CrcRows", spec := "crcRows", unfollowed := true, recurses := true, apart := false, narrowed := true }
def CrcRowsUptoSaid : Prop := crcRowsUptoRow.holds Try.pinned (OpenSpec.upto crcRowsSpec)

/-- 'tailracelaw03.CrcMixed', WHERE WHAT IT READS IS OF BULK AT MOST 1048576: true; the input reads as it did. -/
def crcMixedUptoRow : OpenClaim := { program := "ytamhpblmoojabaa", sum := "5c6c73211c1b9f2696b68251268ab5a20a7f0811cfd89c5ac28f033e162d0961", func := "tailrace/tailracelaw03.CrcMixed", spec := "crcMixed", unfollowed := true, recurses := true, apart := false, narrowed := true }
def CrcMixedUptoSaid : Prop := crcMixedUptoRow.holds Try.pinned (OpenSpec.upto crcMixedSpec)

end Rows
end Go.Proofs.Ytamhpblmoojabaa
