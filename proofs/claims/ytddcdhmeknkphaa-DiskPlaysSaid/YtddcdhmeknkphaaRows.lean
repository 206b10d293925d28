/-
  No cell of these rows narrows 'for every input' (looked for: loops, veiled, ifaces, maps, wideKeys, modest, calm, conditions, laid).
  DERIVED. THE GIVEN ROWS OF THIS SEAT. 6 by the template 'for every input the law returns true; each argument reads behind the call as it read before'; 0 by the template 'total and deterministic' (their statements: YtddcdhmeknkphaaTotals.lean).
  GIVEN WITH THE SEED: the statements are not yours to turn. If you find one false, say at which input.
  Laid BY PROGRAM, IN A SANDBOX (cutbox-rows.mjs): the forced cells as the released guide's own fill.sh prints them over the translation d588adff66ee707c… (all of the seat's roots in one cut). By AI agents, Wed Nov 11 2026. No macro, syntax, notation, axiom, sorry.
-/
import Derived.Test.YtddcdhmeknkphaaChecked
import GoSem.Claim
import GoSem.ClaimJoined
import GoSem.ClaimMapViews
import Derived.JoinedTies
import Derived.KernelRfl
namespace Go.Proofs.Ytddcdhmeknkphaa
/- THE CELL 'sum', in the pinned program and in every row, IS THE sha256 OF THE DUMP (.gsa) THAT YtddcdhmeknkphaaProg.lean LOADS. Nothing in Lean hashes anything: it is a label: what it is worth is what the hold of that sum in a sandbox is worth. -/
noncomputable def Try.pinned : Pinned := { name := "ytddcdhmeknkphaa", sum := "d588adff66ee707c333f0d1f240cf5dc2053abd88b3100772ac80d26f2232e82", checked := Try.checked }
namespace Rows
def none {H : Type} : Left H := { results := [], args := [] }

/-- 'tailracelaw04.DiskFuses': WHATEVER THE INPUT: true; the input reads as it did. -/
def diskFusesSpec : ChangeSpec := { name := "diskFuses", fn := fun _ => fun
  | [d1, d2] => { results := [.lit (.bool true)], args := [d1, d2] }
  | _ => none }
def diskFusesRow : OpenClaim := { program := "ytddcdhmeknkphaa", sum := "d588adff66ee707c333f0d1f240cf5dc2053abd88b3100772ac80d26f2232e82", func := "tailrace/tailracelaw04.DiskFuses", spec := "diskFuses", apart := false }
def DiskFusesSaid : Prop := diskFusesRow.holds Try.pinned (OpenSpec.ofChange diskFusesSpec)

/-- ITS FALSE NEIGHBOUR: 'it returns false'. Refute it at one input. -/
def diskFusesWrong : ChangeSpec := { name := "diskFuses", fn := fun _ => fun
  | [d1, d2] => { results := [.lit (.bool false)], args := [d1, d2] }
  | _ => none }
def DiskFusesWrongFalsely : Prop := diskFusesRow.holds Try.pinned (OpenSpec.ofChange diskFusesWrong)

/-- 'tailracelaw04.DiskReads': WHATEVER THE INPUT: true; the input reads as it did. -/
def diskReadsSpec : ChangeSpec := { name := "diskReads", fn := fun _ => fun
  | [d1, d2, d3] => { results := [.lit (.bool true)], args := [d1, d2, d3] }
  | _ => none }
def diskReadsRow : OpenClaim := { program := "ytddcdhmeknkphaa", sum := "d588adff66ee707c333f0d1f240cf5dc2053abd88b3100772ac80d26f2232e82", func := "tailrace/tailracelaw04.DiskReads", spec := "diskReads", apart := false }
def DiskReadsSaid : Prop := diskReadsRow.holds Try.pinned (OpenSpec.ofChange diskReadsSpec)

/-- ITS FALSE NEIGHBOUR: 'it returns false'. Refute it at one input. -/
def diskReadsWrong : ChangeSpec := { name := "diskReads", fn := fun _ => fun
  | [d1, d2, d3] => { results := [.lit (.bool false)], args := [d1, d2, d3] }
  | _ => none }
def DiskReadsWrongFalsely : Prop := diskReadsRow.holds Try.pinned (OpenSpec.ofChange diskReadsWrong)

/-- 'tailracelaw04.DiskLasts': WHATEVER THE INPUT: true; the input reads as it did. -/
def diskLastsSpec : ChangeSpec := { name := "diskLasts", fn := fun _ => fun
  | [d1, d2, d3, d4, d5, d6] => { results := [.lit (.bool true)], args := [d1, d2, d3, d4, d5, d6] }
  | _ => none }
def diskLastsRow : OpenClaim := { program := "ytddcdhmeknkphaa", sum := "d588adff66ee707c333f0d1f240cf5dc2053abd88b3100772ac80d26f2232e82", func := "tailrace/tailracelaw04.DiskLasts", spec := "diskLasts", unfollowed := true, recurses := true, apart := false }
def DiskLastsSaid : Prop := diskLastsRow.holds Try.pinned (OpenSpec.ofChange diskLastsSpec)

/-- ITS FALSE NEIGHBOUR: 'it returns false'. Refute it at one input. -/
def diskLastsWrong : ChangeSpec := { name := "diskLasts", fn := fun _ => fun
  | [d1, d2, d3, d4, d5, d6] => { results := [.lit (.bool false)], args := [d1, d2, d3, d4, d5, d6] }
  | _ => none }
def DiskLastsWrongFalsely : Prop := diskLastsRow.holds Try.pinned (OpenSpec.ofChange diskLastsWrong)

/-- 'tailracelaw04.DiskPlays': WHATEVER THE INPUT: true; the input reads as it did. -/
def diskPlaysSpec : ChangeSpec := { name := "diskPlays", fn := fun _ => fun
  | [d1, d2] => { results := [.lit (.bool true)], args := [d1, d2] }
  | _ => none }
def diskPlaysRow : OpenClaim := { program := "ytddcdhmeknkphaa", sum := "d588adff66ee707c333f0d1f240cf5dc2053abd88b3100772ac80d26f2232e82", func := "tailrace/tailracelaw04.DiskPlays", spec := "diskPlays", unfollowed := true, recurses := true, apart := false }
def DiskPlaysSaid : Prop := diskPlaysRow.holds Try.pinned (OpenSpec.ofChange diskPlaysSpec)

/-- ITS FALSE NEIGHBOUR: 'it returns false'. Refute it at one input. -/
def diskPlaysWrong : ChangeSpec := { name := "diskPlays", fn := fun _ => fun
  | [d1, d2] => { results := [.lit (.bool false)], args := [d1, d2] }
  | _ => none }
def DiskPlaysWrongFalsely : Prop := diskPlaysRow.holds Try.pinned (OpenSpec.ofChange diskPlaysWrong)

/-- 'tailracelaw04.DiskNil': WHATEVER THE INPUT: true; the input reads as it did. -/
def diskNilSpec : ChangeSpec := { name := "diskNil", fn := fun _ => fun
  | [d1, d2] => { results := [.lit (.bool true)], args := [d1, d2] }
  | _ => none }
def diskNilRow : OpenClaim := { program := "ytddcdhmeknkphaa", sum := "d588adff66ee707c333f0d1f240cf5dc2053abd88b3100772ac80d26f2232e82", func := "tailrace/tailracelaw04.DiskNil", spec := "diskNil", unfollowed := true, recurses := true, apart := false }
def DiskNilSaid : Prop := diskNilRow.holds Try.pinned (OpenSpec.ofChange diskNilSpec)

/-- ITS FALSE NEIGHBOUR: 'it returns false'. Refute it at one input. -/
def diskNilWrong : ChangeSpec := { name := "diskNil", fn := fun _ => fun
  | [d1, d2] => { results := [.lit (.bool false)], args := [d1, d2] }
  | _ => none }
def DiskNilWrongFalsely : Prop := diskNilRow.holds Try.pinned (OpenSpec.ofChange diskNilWrong)

/-- 'tailracelaw04.DiskCrash': WHATEVER THE INPUT: true; the input reads as it did. -/
def diskCrashSpec : ChangeSpec := { name := "diskCrash", fn := fun _ => fun
  | [d1, d2] => { results := [.lit (.bool true)], args := [d1, d2] }
  | _ => none }
def diskCrashRow : OpenClaim := { program := "ytddcdhmeknkphaa", sum := "d588adff66ee707c333f0d1f240cf5dc2053abd88b3100772ac80d26f2232e82", func := "tailrace/tailracelaw04.DiskCrash", spec := "diskCrash", unfollowed := true, recurses := true, apart := false }
def DiskCrashSaid : Prop := diskCrashRow.holds Try.pinned (OpenSpec.ofChange diskCrashSpec)

/-- ITS FALSE NEIGHBOUR: 'it returns false'. Refute it at one input. -/
def diskCrashWrong : ChangeSpec := { name := "diskCrash", fn := fun _ => fun
  | [d1, d2] => { results := [.lit (.bool false)], args := [d1, d2] }
  | _ => none }
def DiskCrashWrongFalsely : Prop := diskCrashRow.holds Try.pinned (OpenSpec.ofChange diskCrashWrong)

/- THE SECOND FORM. 'bulk': how many values and letters a reading holds, each counted each time it is reached (what is shared counts as often as it is met; a slice's spare places count too). A statement '..UptoSaid' is the law's where the arguments, and the package variables that the reading takes, are together of bulk at most 1048576: NARROWER than '..Said'. Prove '..Said' where nothing that the law and all that it calls make is longer than what came in: it says more and counts as full. Else prove '..UptoSaid'. A law counts once. -/
mutual
def uptoBulk {H : Type} : DataW H → Nat
  | .lit (.string bytes) => bytes.length + 1
  | .lit _ => 1
  | .nil => 1
  | .ptr d => uptoBulk d + 1
  | .slice elems spare => uptoBulkAll elems + uptoBulkAll spare + 1
  | .agg parts => uptoBulkAll parts + 1
  | .iface _ d => uptoBulk d + 1
  | .map entries => uptoBulkEntries entries + 1
  | .held _ => 1
def uptoBulkAll {H : Type} : List (DataW H) → Nat
  | [] => 0
  | d :: r => uptoBulk d + uptoBulkAll r
def uptoBulkEntries {H : Type} : List (Lit × DataW H) → Nat
  | [] => 0
  | x :: r => uptoBulkEntry x + uptoBulkEntries r
def uptoBulkEntry {H : Type} : Lit × DataW H → Nat
  | (.string bytes, d) => bytes.length + uptoBulk d + 1
  | (_, d) => uptoBulk d + 1
 end
def uptoSmall : (H : Type) → List (DataW H) → Bool := fun _ ds => decide (uptoBulkAll ds ≤ 1048576)
def OpenSpec.upto (s : _root_.Go.ChangeSpec) : _root_.Go.OpenSpec := { _root_.Go.OpenSpec.ofChange s with cond := some uptoSmall }

/-- 'tailracelaw04.DiskFuses', WHERE WHAT IT READS IS OF BULK AT MOST 1048576: true; the input reads as it did. -/
def diskFusesUptoRow : OpenClaim := { program := "ytddcdhmeknkphaa", sum := "d588adff66ee707c333f0d1f240cf5dc2053abd88b3100772ac80d26f2232e82", func := "tailrace/tailracelaw04.DiskFuses", spec := "diskFuses", apart := false, narrowed := true }
def DiskFusesUptoSaid : Prop := diskFusesUptoRow.holds Try.pinned (OpenSpec.upto diskFusesSpec)

/-- 'tailracelaw04.DiskReads', WHERE WHAT IT READS IS OF BULK AT MOST 1048576: true; the input reads as it did. -/
def diskReadsUptoRow : OpenClaim := { program := "ytddcdhmeknkphaa", sum := "d588adff66ee707c333f0d1f240cf5dc2053abd88b3100772ac80d26f2232e82", func := "tailrace/tailracelaw04.DiskReads", spec := "diskReads", apart := false, narrowed := true }
def DiskReadsUptoSaid : Prop := diskReadsUptoRow.holds Try.pinned (OpenSpec.upto diskReadsSpec)

/-- 'tailracelaw04.DiskLasts', WHERE WHAT IT READS IS OF BULK AT MOST 1048576: true; the input reads as it did. -/
def diskLastsUptoRow : OpenClaim := { program := "ytddcdhmeknkphaa", sum := "d588adff66ee707c333f0d1f240cf5dc2053abd88b3100772ac80d26f2232e82", func := "tailrace/tailracelaw04.DiskLasts", spec := "diskLasts", unfollowed := true, recurses := true, apart := false, narrowed := true }
def DiskLastsUptoSaid : Prop := diskLastsUptoRow.holds Try.pinned (OpenSpec.upto diskLastsSpec)

/-- 'tailracelaw04.DiskPlays', WHERE WHAT IT READS IS OF BULK AT MOST 1048576: true; the input reads as it did. -/
def diskPlaysUptoRow : OpenClaim := { program := "ytddcdhmeknkphaa", sum := "d588adff66ee707c333f0d1f240cf5dc2053abd88b3100772ac80d26f2232e82", func := "tailrace/tailracelaw04.DiskPlays", spec := "diskPlays", unfollowed := true, recurses := true, apart := false, narrowed := true }
def DiskPlaysUptoSaid : Prop := diskPlaysUptoRow.holds Try.pinned (OpenSpec.upto diskPlaysSpec)

/-- 'tailracelaw04.DiskNil', WHERE WHAT IT READS IS OF BULK AT MOST 1048576: true; the input reads as it did. -/
def diskNilUptoRow : OpenClaim := { program := "ytddcdhmeknkphaa", sum := "d588adff66ee707c333f0d1f240cf5dc2053abd88b3100772ac80d26f2232e82", func := "tailrace/tailracelaw04.DiskNil", spec := "diskNil", unfollowed := true, recurses := true, apart := false, narrowed := true }
def DiskNilUptoSaid : Prop := diskNilUptoRow.holds Try.pinned (OpenSpec.upto diskNilSpec)

/-- 'tailracelaw04.DiskCrash', WHERE WHAT IT READS IS OF BULK AT MOST 1048576: true; the input reads as it did. -/
def diskCrashUptoRow : OpenClaim := { program := "ytddcdhmeknkphaa", sum := "d588adff66ee707c333f0d1f240cf5dc2053abd88b3100772ac80d26f2232e82", func := "tailrace/tailracelaw04.DiskCrash", spec := "diskCrash", unfollowed := true, recurses := true, apart := false, narrowed := true }
def DiskCrashUptoSaid : Prop := diskCrashUptoRow.holds Try.pinned (OpenSpec.upto diskCrashSpec)

end Rows
end Go.Proofs.Ytddcdhmeknkphaa
