/-
  No cell of these rows narrows 'for every input' (looked for: loops, veiled, ifaces, maps, wideKeys, modest, calm, conditions, laid).
  DERIVED. THE GIVEN ROWS OF THIS SEAT. 5 by the template 'for every input the law returns true; each argument reads behind the call as it read before'; 0 by the template 'total and deterministic' (their statements: YtdhfjkikoiifcaaTotals.lean).
  GIVEN WITH THE SEED: the statements are not yours to turn. If you find one false, say at which input.
  Laid BY PROGRAM, IN A SANDBOX (cutbox-rows.mjs): the forced cells as the released guide's own fill.sh prints them over the translation d4c1f610777980c5… (all of the seat's roots in one cut). By AI agents, Wed Nov 11 2026. No macro, syntax, notation, axiom, sorry.
-/
import Derived.Test.YtdhfjkikoiifcaaChecked
import GoSem.Claim
import GoSem.ClaimJoined
import GoSem.ClaimMapViews
import Derived.JoinedTies
import Derived.KernelRfl
namespace Go.Proofs.Ytdhfjkikoiifcaa
/- THE CELL 'sum', in the pinned program and in every row, IS THE sha256 OF THE DUMP (.gsa) THAT YtdhfjkikoiifcaaProg.lean LOADS. Nothing in Lean hashes anything: it is a label: what it is worth is what the hold of that sum in a sandbox is worth. -/
noncomputable def Try.pinned : Pinned := { name := "ytdhfjkikoiifcaa", sum := "d4c1f610777980c50e9e2b3d281e78cad609c01a2a32a12dd0bd4debfc4c050c", checked := Try.checked }
namespace Rows
def none {H : Type} : Left H := { results := [], args := [] }

/-- 'carafelaw2.DescrKept': WHATEVER THE INPUT: true; the input reads as it did. -/
def descrKeptSpec : ChangeSpec := { name := "descrKept", fn := fun _ => fun
  | [] => { results := [.lit (.bool true)], args := [] }
  | _ => none }
def descrKeptRow : OpenClaim := { program := "ytdhfjkikoiifcaa", sum := "d4c1f610777980c50e9e2b3d281e78cad609c01a2a32a12dd0bd4debfc4c050c", func := "carafe/carafelaw2.DescrKept", spec := "descrKept", inPlace := ["internal/bytealg.IndexByteString"], unfollowed := true, recurses := true, apart := false }
def DescrKeptSaid : Prop := descrKeptRow.holds Try.pinned (OpenSpec.ofChange descrKeptSpec)

/-- ITS FALSE NEIGHBOUR: 'it returns false'. Refute it at one input. -/
def descrKeptWrong : ChangeSpec := { name := "descrKept", fn := fun _ => fun
  | [] => { results := [.lit (.bool false)], args := [] }
  | _ => none }
def DescrKeptWrongFalsely : Prop := descrKeptRow.holds Try.pinned (OpenSpec.ofChange descrKeptWrong)

/-- 'carafelaw2.DescrMany': WHATEVER THE INPUT: true; the input reads as it did. -/
def descrManySpec : ChangeSpec := { name := "descrMany", fn := fun _ => fun
  | [d1, d2] => { results := [.lit (.bool true)], args := [d1, d2] }
  | _ => none }
def descrManyRow : OpenClaim := { program := "ytdhfjkikoiifcaa", sum := "d4c1f610777980c50e9e2b3d281e78cad609c01a2a32a12dd0bd4debfc4c050c", func := "carafe/carafelaw2.DescrMany", spec := "descrMany", inPlace := ["internal/bytealg.IndexByteString"], recurses := true, apart := false }
def DescrManySaid : Prop := descrManyRow.holds Try.pinned (OpenSpec.ofChange descrManySpec)

/-- ITS FALSE NEIGHBOUR: 'it returns false'. Refute it at one input. -/
def descrManyWrong : ChangeSpec := { name := "descrMany", fn := fun _ => fun
  | [d1, d2] => { results := [.lit (.bool false)], args := [d1, d2] }
  | _ => none }
def DescrManyWrongFalsely : Prop := descrManyRow.holds Try.pinned (OpenSpec.ofChange descrManyWrong)

/-- 'carafelaw2.DescrReads': WHATEVER THE INPUT: true; the input reads as it did. -/
def descrReadsSpec : ChangeSpec := { name := "descrReads", fn := fun _ => fun
  | [d] => { results := [.lit (.bool true)], args := [d] }
  | _ => none }
def descrReadsRow : OpenClaim := { program := "ytdhfjkikoiifcaa", sum := "d4c1f610777980c50e9e2b3d281e78cad609c01a2a32a12dd0bd4debfc4c050c", func := "carafe/carafelaw2.DescrReads", spec := "descrReads", inPlace := ["internal/bytealg.IndexByteString"], recurses := true, apart := false }
def DescrReadsSaid : Prop := descrReadsRow.holds Try.pinned (OpenSpec.ofChange descrReadsSpec)

/-- ITS FALSE NEIGHBOUR: 'it returns false'. Refute it at one input. -/
def descrReadsWrong : ChangeSpec := { name := "descrReads", fn := fun _ => fun
  | [d] => { results := [.lit (.bool false)], args := [d] }
  | _ => none }
def DescrReadsWrongFalsely : Prop := descrReadsRow.holds Try.pinned (OpenSpec.ofChange descrReadsWrong)

/-- 'carafelaw2.DescrBack': WHATEVER THE INPUT: true; the input reads as it did. -/
def descrBackSpec : ChangeSpec := { name := "descrBack", fn := fun _ => fun
  | [d1, d2, d3, d4] => { results := [.lit (.bool true)], args := [d1, d2, d3, d4] }
  | _ => none }
def descrBackRow : OpenClaim := { program := "ytdhfjkikoiifcaa", sum := "d4c1f610777980c50e9e2b3d281e78cad609c01a2a32a12dd0bd4debfc4c050c", func := "carafe/carafelaw2.DescrBack", spec := "descrBack", inPlace := ["internal/abi.NoEscape", "internal/bytealg.MakeNoZero", "internal/bytealg.IndexByteString"], recurses := true, apart := false }
def DescrBackSaid : Prop := descrBackRow.holds Try.pinned (OpenSpec.ofChange descrBackSpec)

/-- ITS FALSE NEIGHBOUR: 'it returns false'. Refute it at one input. -/
def descrBackWrong : ChangeSpec := { name := "descrBack", fn := fun _ => fun
  | [d1, d2, d3, d4] => { results := [.lit (.bool false)], args := [d1, d2, d3, d4] }
  | _ => none }
def DescrBackWrongFalsely : Prop := descrBackRow.holds Try.pinned (OpenSpec.ofChange descrBackWrong)

/-- 'carafelaw2.DescrNumbers': WHATEVER THE INPUT: true; the input reads as it did. -/
def descrNumbersSpec : ChangeSpec := { name := "descrNumbers", fn := fun _ => fun
  | [] => { results := [.lit (.bool true)], args := [] }
  | _ => none }
def descrNumbersRow : OpenClaim := { program := "ytdhfjkikoiifcaa", sum := "d4c1f610777980c50e9e2b3d281e78cad609c01a2a32a12dd0bd4debfc4c050c", func := "carafe/carafelaw2.DescrNumbers", spec := "descrNumbers", inPlace := ["internal/bytealg.IndexByteString", "internal/abi.NoEscape", "internal/bytealg.MakeNoZero"], recurses := true, apart := false }
def DescrNumbersSaid : Prop := descrNumbersRow.holds Try.pinned (OpenSpec.ofChange descrNumbersSpec)

/-- ITS FALSE NEIGHBOUR: 'it returns false'. Refute it at one input. -/
def descrNumbersWrong : ChangeSpec := { name := "descrNumbers", fn := fun _ => fun
  | [] => { results := [.lit (.bool false)], args := [] }
  | _ => none }
def DescrNumbersWrongFalsely : Prop := descrNumbersRow.holds Try.pinned (OpenSpec.ofChange descrNumbersWrong)

/- THE SECOND FORM. 'bulk': how many values and letters a reading holds, each counted each time it is reached (what is shared counts as often as it is met; a slice's spare places count too). A statement '..UptoSaid' is the law's where the arguments, and the package variables that the reading takes, are together of bulk at most 1048576: NARROWER than '..Said'. Prove '..Said' where nothing that the law and all that it calls make is longer than what came in: it says more and counts as full. Else prove '..UptoSaid'. A law counts once. -/
mutual
def uptoBulk {H : Type} : DataW H → Nat
  | .lit (.string bytes) => bytes.length + 1
  | .lit _ => 1
  | .nil => 1
  | .ptr d => uptoBulk d + 1
  | .slice elems spare => uptoBulkAll elems + uptoBulkAll spare + 1
  | .agg parts => uptoBulkAll parts + 1
  | .iface _ d => uptoBulk d + 1
  | .map entries => uptoBulkEntries entries + 1
  | .held _ => 1
def uptoBulkAll {H : Type} : List (DataW H) → Nat
  | [] => 0
  | d :: r => uptoBulk d + uptoBulkAll r
def uptoBulkEntries {H : Type} : List (Lit × DataW H) → Nat
  | [] => 0
  | x :: r => uptoBulkEntry x + uptoBulkEntries r
def uptoBulkEntry {H : Type} : Lit × DataW H → Nat
  | (.string bytes, d) => bytes.length + uptoBulk d + 1
  | (_, d) => uptoBulk d + 1
 end
def uptoSmall : (H : Type) → List (DataW H) → Bool := fun _ ds => decide (uptoBulkAll ds ≤ 1048576)
def OpenSpec.upto (s : _root_.Go.ChangeSpec) : _root_.Go.OpenSpec := { _root_.Go.OpenSpec.ofChange s with cond := some uptoSmall }

/-- 'carafelaw2.DescrKept', WHERE WHAT IT READS IS OF BULK AT MOST 1048576: true; the input reads as it did. -/
def descrKeptUptoRow : OpenClaim := { program := "ytdhfjkikoiifcaa", sum := "d4c1f610777980c50e9e2b3d281e78cad609c01a2a32a12dd0bd4debfc4c050c", func := "carafe/carafelaw2.DescrKept", spec := "descrKept", inPlace := ["internal/bytealg.IndexByteString"], unfollowed := true, recurses := true, apart := false, narrowed := true }
def DescrKeptUptoSaid : Prop := descrKeptUptoRow.holds Try.pinned (OpenSpec.upto descrKeptSpec)

/-- 'carafelaw2.DescrMany', WHERE WHAT IT READS IS OF BULK AT MOST 1048576: true; the input reads as it did. -/
def descrManyUptoRow : OpenClaim := { program := "ytdhfjkikoiifcaa", sum := "d4c1f610777980c50e9e2b3d281e78cad609c01a2a32a12dd0bd4debfc4c050c", func := "carafe/carafelaw2.DescrMany", spec := "descrMany", inPlace := ["internal/bytealg.IndexByteString"], recurses := true, apart := false, narrowed := true }
def DescrManyUptoSaid : Prop := descrManyUptoRow.holds Try.pinned (OpenSpec.upto descrManySpec)

/-- 'carafelaw2.DescrReads', WHERE WHAT IT READS IS OF BULK AT MOST 1048576: true; the input reads as it did. -/
def descrReadsUptoRow : OpenClaim := { program := "ytdhfjkikoiifcaa", sum := "d4c1f610777980c50e9e2b3d281e78cad609c01a2a32a12dd0bd4debfc4c050c", func := "carafe/carafelaw2.DescrReads", spec := "descrReads", inPlace := ["internal/bytealg.IndexByteString"], recurses := true, apart := false, narrowed := true }
def DescrReadsUptoSaid : Prop := descrReadsUptoRow.holds Try.pinned (OpenSpec.upto descrReadsSpec)

/-- 'carafelaw2.DescrBack', WHERE WHAT IT READS IS OF BULK AT MOST 1048576: true; the input reads as it did. -/
def descrBackUptoRow : OpenClaim := { program := "ytdhfjkikoiifcaa", sum := "d4c1f610777980c50e9e2b3d281e78cad609c01a2a32a12dd0bd4debfc4c050c", func := "carafe/carafelaw2.DescrBack", spec := "descrBack", inPlace := ["internal/abi.NoEscape", "internal/bytealg.MakeNoZero", "internal/bytealg.IndexByteString"], recurses := true, apart := false, narrowed := true }
def DescrBackUptoSaid : Prop := descrBackUptoRow.holds Try.pinned (OpenSpec.upto descrBackSpec)

/-- 'carafelaw2.DescrNumbers', WHERE WHAT IT READS IS OF BULK AT MOST 1048576: true; the input reads as it did. -/
def descrNumbersUptoRow : OpenClaim := { program := "ytdhfjkikoiifcaa", sum := "d4c1f610777980c50e9e2b3d281e78cad609c01a2a32a12dd0bd4debfc4c050c", func := "carafe/carafelaw2.DescrNumbers", spec := "descrNumbers", inPlace := ["internal/bytealg.IndexByteString", "internal/abi.NoEscape", "internal/bytealg.MakeNoZero"], recurses := true, apart := false, narrowed := true }
def DescrNumbersUptoSaid : Prop := descrNumbersUptoRow.holds Try.pinned (OpenSpec.upto descrNumbersSpec)

end Rows
end Go.Proofs.Ytdhfjkikoiifcaa
