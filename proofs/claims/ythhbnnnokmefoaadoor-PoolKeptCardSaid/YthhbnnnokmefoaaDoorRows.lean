/-
  NARROWER THAN 'FOR EVERY INPUT', by the rows' own cells (each row's printed sentence says how): PoolWrites: laid · PoolKept: laid · PoolAdds: laid · PoolReads: laid · PoolAgain: laid · PoolNumbers: laid.
  DERIVED. THE GIVEN ROWS OF THIS SEAT. 6 by the template 'for every input the law returns true; each argument reads behind the call as it read before'; 0 by the template 'total and deterministic' (their statements: YthhbnnnokmefoaaDoorTotals.lean).
  GIVEN WITH THE SEED: the statements are not yours to turn. If you find one false, say at which input.
  Laid BY PROGRAM, IN A SANDBOX (cutbox-rows.mjs): the forced cells as the released guide's own fill.sh prints them over the translation 51819ffee17452fd… (all of the seat's roots in one cut). By AI agents, Wed Nov 11 2026. No macro, syntax, notation, axiom, sorry.
-/
import Derived.Test.YthhbnnnokmefoaaDoorChecked
import GoSem.PinnedTables
import GoSem.Claim
import GoSem.ClaimJoined
import GoSem.ClaimMapViews
import Derived.JoinedTies
import Derived.KernelRfl
namespace Go.Proofs.YthhbnnnokmefoaaDoor
/- THE CELL 'sum', in the pinned program and in every row, IS THE sha256 OF THE DUMP (.gsa) THAT YthhbnnnokmefoaaDoorProg.lean LOADS. Nothing in Lean hashes anything: it is a label: what it is worth is what the hold of that sum in a sandbox is worth. -/
noncomputable def Tryd.pinned : Pinned := { name := "ythhbnnnokmefoaadoor", sum := "51819ffee17452fd160cce8935909b382b608597f5bef208fa75bd949abdd291", checked := Tryd.checked }
namespace Rows
def none {H : Type} : Left H := { results := [], args := [] }

/- WHAT THE LISTED PACKAGE-LEVEL VARIABLES READ AS WHEN THE CALL BEGINS. Each datum BY PROGRAM (the guide's laid-datum.mjs) off the statement by which the dump's own 'gosem.cut.vars' lays the variable. In a bare row this is a premise. The card (YthhbnnnokmefoaaDoorCards.lean) ties it to the program's text. -/
def laid_unicode_utf8_acceptRanges {H : Type} : DataW H := .agg [.agg [.lit (.int .u8 128), .lit (.int .u8 191)], .agg [.lit (.int .u8 160), .lit (.int .u8 191)], .agg [.lit (.int .u8 128), .lit (.int .u8 159)], .agg [.lit (.int .u8 144), .lit (.int .u8 191)], .agg [.lit (.int .u8 128), .lit (.int .u8 143)], .agg [.lit (.int .u8 0), .lit (.int .u8 0)], .agg [.lit (.int .u8 0), .lit (.int .u8 0)], .agg [.lit (.int .u8 0), .lit (.int .u8 0)], .agg [.lit (.int .u8 0), .lit (.int .u8 0)], .agg [.lit (.int .u8 0), .lit (.int .u8 0)], .agg [.lit (.int .u8 0), .lit (.int .u8 0)], .agg [.lit (.int .u8 0), .lit (.int .u8 0)], .agg [.lit (.int .u8 0), .lit (.int .u8 0)], .agg [.lit (.int .u8 0), .lit (.int .u8 0)], .agg [.lit (.int .u8 0), .lit (.int .u8 0)], .agg [.lit (.int .u8 0), .lit (.int .u8 0)]]
/-- One of Go's own tables, pinned by name: the form's constant. -/
def laid_unicode_utf8_first : DataW Unit := Go.Pinned.utf8First

/-- 'carafelaw3.PoolWrites': WHATEVER THE INPUT: true; the input reads as it did. -/
def poolWritesSpec : ChangeSpec := { name := "poolWrites", fn := fun _ => fun
  | [d1, d2, d3, d4] => { results := [.lit (.bool true)], args := [d1, d2, d3, d4] }
  | _ => none }
def poolWritesRow : OpenClaim := { program := "ythhbnnnokmefoaadoor", sum := "51819ffee17452fd160cce8935909b382b608597f5bef208fa75bd949abdd291", func := "carafe/carafelaw3.PoolWrites", spec := "poolWrites", inPlace := ["internal/bytealg.IndexByteString"], unfollowed := true, recurses := true, named := ["unicode/utf8.first", "unicode/utf8.acceptRanges"], apart := false, laid := [("unicode/utf8.acceptRanges", laid_unicode_utf8_acceptRanges), ("unicode/utf8.first", laid_unicode_utf8_first)] }
def PoolWritesSaid : Prop := poolWritesRow.holds Tryd.pinned (OpenSpec.ofChange poolWritesSpec)

/-- ITS FALSE NEIGHBOUR: 'it returns false'. Refute it at one input. -/
def poolWritesWrong : ChangeSpec := { name := "poolWrites", fn := fun _ => fun
  | [d1, d2, d3, d4] => { results := [.lit (.bool false)], args := [d1, d2, d3, d4] }
  | _ => none }
def PoolWritesWrongFalsely : Prop := poolWritesRow.holds Tryd.pinned (OpenSpec.ofChange poolWritesWrong)

/-- 'carafelaw3.PoolKept': WHATEVER THE INPUT: true; the input reads as it did. -/
def poolKeptSpec : ChangeSpec := { name := "poolKept", fn := fun _ => fun
  | [d] => { results := [.lit (.bool true)], args := [d] }
  | _ => none }
def poolKeptRow : OpenClaim := { program := "ythhbnnnokmefoaadoor", sum := "51819ffee17452fd160cce8935909b382b608597f5bef208fa75bd949abdd291", func := "carafe/carafelaw3.PoolKept", spec := "poolKept", inPlace := ["internal/bytealg.IndexByteString"], unfollowed := true, recurses := true, named := ["unicode/utf8.first", "unicode/utf8.acceptRanges"], apart := false, laid := [("unicode/utf8.acceptRanges", laid_unicode_utf8_acceptRanges), ("unicode/utf8.first", laid_unicode_utf8_first)] }
def PoolKeptSaid : Prop := poolKeptRow.holds Tryd.pinned (OpenSpec.ofChange poolKeptSpec)

/-- ITS FALSE NEIGHBOUR: 'it returns false'. Refute it at one input. -/
def poolKeptWrong : ChangeSpec := { name := "poolKept", fn := fun _ => fun
  | [d] => { results := [.lit (.bool false)], args := [d] }
  | _ => none }
def PoolKeptWrongFalsely : Prop := poolKeptRow.holds Tryd.pinned (OpenSpec.ofChange poolKeptWrong)

/-- 'carafelaw3.PoolAdds': WHATEVER THE INPUT: true; the input reads as it did. -/
def poolAddsSpec : ChangeSpec := { name := "poolAdds", fn := fun _ => fun
  | [d] => { results := [.lit (.bool true)], args := [d] }
  | _ => none }
def poolAddsRow : OpenClaim := { program := "ythhbnnnokmefoaadoor", sum := "51819ffee17452fd160cce8935909b382b608597f5bef208fa75bd949abdd291", func := "carafe/carafelaw3.PoolAdds", spec := "poolAdds", inPlace := ["internal/bytealg.IndexByteString"], unfollowed := true, recurses := true, named := ["unicode/utf8.first", "unicode/utf8.acceptRanges"], apart := false, laid := [("unicode/utf8.acceptRanges", laid_unicode_utf8_acceptRanges), ("unicode/utf8.first", laid_unicode_utf8_first)] }
def PoolAddsSaid : Prop := poolAddsRow.holds Tryd.pinned (OpenSpec.ofChange poolAddsSpec)

/-- ITS FALSE NEIGHBOUR: 'it returns false'. Refute it at one input. -/
def poolAddsWrong : ChangeSpec := { name := "poolAdds", fn := fun _ => fun
  | [d] => { results := [.lit (.bool false)], args := [d] }
  | _ => none }
def PoolAddsWrongFalsely : Prop := poolAddsRow.holds Tryd.pinned (OpenSpec.ofChange poolAddsWrong)

/-- 'carafelaw3.PoolReads': WHATEVER THE INPUT: true; the input reads as it did. -/
def poolReadsSpec : ChangeSpec := { name := "poolReads", fn := fun _ => fun
  | [d1, d2, d3, d4] => { results := [.lit (.bool true)], args := [d1, d2, d3, d4] }
  | _ => none }
def poolReadsRow : OpenClaim := { program := "ythhbnnnokmefoaadoor", sum := "51819ffee17452fd160cce8935909b382b608597f5bef208fa75bd949abdd291", func := "carafe/carafelaw3.PoolReads", spec := "poolReads", inPlace := ["internal/bytealg.IndexByteString"], unfollowed := true, recurses := true, named := ["unicode/utf8.first", "unicode/utf8.acceptRanges"], apart := false, laid := [("unicode/utf8.acceptRanges", laid_unicode_utf8_acceptRanges), ("unicode/utf8.first", laid_unicode_utf8_first)] }
def PoolReadsSaid : Prop := poolReadsRow.holds Tryd.pinned (OpenSpec.ofChange poolReadsSpec)

/-- ITS FALSE NEIGHBOUR: 'it returns false'. Refute it at one input. -/
def poolReadsWrong : ChangeSpec := { name := "poolReads", fn := fun _ => fun
  | [d1, d2, d3, d4] => { results := [.lit (.bool false)], args := [d1, d2, d3, d4] }
  | _ => none }
def PoolReadsWrongFalsely : Prop := poolReadsRow.holds Tryd.pinned (OpenSpec.ofChange poolReadsWrong)

/-- 'carafelaw3.PoolAgain': WHATEVER THE INPUT: true; the input reads as it did. -/
def poolAgainSpec : ChangeSpec := { name := "poolAgain", fn := fun _ => fun
  | [d1, d2] => { results := [.lit (.bool true)], args := [d1, d2] }
  | _ => none }
def poolAgainRow : OpenClaim := { program := "ythhbnnnokmefoaadoor", sum := "51819ffee17452fd160cce8935909b382b608597f5bef208fa75bd949abdd291", func := "carafe/carafelaw3.PoolAgain", spec := "poolAgain", inPlace := ["internal/bytealg.IndexByteString"], unfollowed := true, recurses := true, named := ["unicode/utf8.first", "unicode/utf8.acceptRanges"], apart := false, laid := [("unicode/utf8.acceptRanges", laid_unicode_utf8_acceptRanges), ("unicode/utf8.first", laid_unicode_utf8_first)] }
def PoolAgainSaid : Prop := poolAgainRow.holds Tryd.pinned (OpenSpec.ofChange poolAgainSpec)

/-- ITS FALSE NEIGHBOUR: 'it returns false'. Refute it at one input. -/
def poolAgainWrong : ChangeSpec := { name := "poolAgain", fn := fun _ => fun
  | [d1, d2] => { results := [.lit (.bool false)], args := [d1, d2] }
  | _ => none }
def PoolAgainWrongFalsely : Prop := poolAgainRow.holds Tryd.pinned (OpenSpec.ofChange poolAgainWrong)

/-- 'carafelaw3.PoolNumbers': WHATEVER THE INPUT: true; the input reads as it did. -/
def poolNumbersSpec : ChangeSpec := { name := "poolNumbers", fn := fun _ => fun
  | [] => { results := [.lit (.bool true)], args := [] }
  | _ => none }
def poolNumbersRow : OpenClaim := { program := "ythhbnnnokmefoaadoor", sum := "51819ffee17452fd160cce8935909b382b608597f5bef208fa75bd949abdd291", func := "carafe/carafelaw3.PoolNumbers", spec := "poolNumbers", inPlace := ["internal/bytealg.IndexByteString"], unfollowed := true, recurses := true, named := ["unicode/utf8.first", "unicode/utf8.acceptRanges"], apart := false, laid := [("unicode/utf8.acceptRanges", laid_unicode_utf8_acceptRanges), ("unicode/utf8.first", laid_unicode_utf8_first)] }
def PoolNumbersSaid : Prop := poolNumbersRow.holds Tryd.pinned (OpenSpec.ofChange poolNumbersSpec)

/-- ITS FALSE NEIGHBOUR: 'it returns false'. Refute it at one input. -/
def poolNumbersWrong : ChangeSpec := { name := "poolNumbers", fn := fun _ => fun
  | [] => { results := [.lit (.bool false)], args := [] }
  | _ => none }
def PoolNumbersWrongFalsely : Prop := poolNumbersRow.holds Tryd.pinned (OpenSpec.ofChange poolNumbersWrong)

/- THE SECOND FORM. 'bulk': how many values and letters a reading holds, each counted each time it is reached (what is shared counts as often as it is met; a slice's spare places count too). A statement '..UptoSaid' is the law's where the arguments, and the package variables that the reading takes, are together of bulk at most 1048576: NARROWER than '..Said'. Prove '..Said' where nothing that the law and all that it calls make is longer than what came in: it says more and counts as full. Else prove '..UptoSaid'. A law counts once. -/
mutual
def uptoBulk {H : Type} : DataW H → Nat
  | .lit (.string bytes) => bytes.length + 1
  | .lit _ => 1
  | .nil => 1
  | .ptr d => uptoBulk d + 1
  | .slice elems spare => uptoBulkAll elems + uptoBulkAll spare + 1
  | .agg parts => uptoBulkAll parts + 1
  | .iface _ d => uptoBulk d + 1
  | .map entries => uptoBulkEntries entries + 1
  | .held _ => 1
def uptoBulkAll {H : Type} : List (DataW H) → Nat
  | [] => 0
  | d :: r => uptoBulk d + uptoBulkAll r
def uptoBulkEntries {H : Type} : List (Lit × DataW H) → Nat
  | [] => 0
  | x :: r => uptoBulkEntry x + uptoBulkEntries r
def uptoBulkEntry {H : Type} : Lit × DataW H → Nat
  | (.string bytes, d) => bytes.length + uptoBulk d + 1
  | (_, d) => uptoBulk d + 1
 end
def uptoSmall : (H : Type) → List (DataW H) → Bool := fun _ ds => decide (uptoBulkAll ds ≤ 1048576)
def OpenSpec.upto (s : _root_.Go.ChangeSpec) : _root_.Go.OpenSpec := { _root_.Go.OpenSpec.ofChange s with cond := some uptoSmall }

/-- 'carafelaw3.PoolWrites', WHERE WHAT IT READS IS OF BULK AT MOST 1048576: true; the input reads as it did. -/
def poolWritesUptoRow : OpenClaim := { program := "ythhbnnnokmefoaadoor", sum := "51819ffee17452fd160cce8935909b382b608597f5bef208fa75bd949abdd291", func := "carafe/carafelaw3.PoolWrites", spec := "poolWrites", inPlace := ["internal/bytealg.IndexByteString"], unfollowed := true, recurses := true, named := ["unicode/utf8.first", "unicode/utf8.acceptRanges"], apart := false, laid := [("unicode/utf8.acceptRanges", laid_unicode_utf8_acceptRanges), ("unicode/utf8.first", laid_unicode_utf8_first)], narrowed := true }
def PoolWritesUptoSaid : Prop := poolWritesUptoRow.holds Tryd.pinned (OpenSpec.upto poolWritesSpec)

/-- 'carafelaw3.PoolKept', WHERE WHAT IT READS IS OF BULK AT MOST 1048576: true; the input reads as it did. -/
def poolKeptUptoRow : OpenClaim := { program := "ythhbnnnokmefoaadoor", sum := "51819ffee17452fd160cce8935909b382b608597f5bef208fa75bd949abdd291", func := "carafe/carafelaw3.PoolKept", spec := "poolKept", inPlace := ["internal/bytealg.IndexByteString"], unfollowed := true, recurses := true, named := ["unicode/utf8.first", "unicode/utf8.acceptRanges"], apart := false, laid := [("unicode/utf8.acceptRanges", laid_unicode_utf8_acceptRanges), ("unicode/utf8.first", laid_unicode_utf8_first)], narrowed := true }
def PoolKeptUptoSaid : Prop := poolKeptUptoRow.holds Tryd.pinned (OpenSpec.upto poolKeptSpec)

/-- 'carafelaw3.PoolAdds', WHERE WHAT IT READS IS OF BULK AT MOST 1048576: true; the input reads as it did. -/
def poolAddsUptoRow : OpenClaim := { program := "ythhbnnnokmefoaadoor", sum := "51819ffee17452fd160cce8935909b382b608597f5bef208fa75bd949abdd291", func := "carafe/carafelaw3.PoolAdds", spec := "poolAdds", inPlace := ["internal/bytealg.IndexByteString"], unfollowed := true, recurses := true, named := ["unicode/utf8.first", "unicode/utf8.acceptRanges"], apart := false, laid := [("unicode/utf8.acceptRanges", laid_unicode_utf8_acceptRanges), ("unicode/utf8.first", laid_unicode_utf8_first)], narrowed := true }
def PoolAddsUptoSaid : Prop := poolAddsUptoRow.holds Tryd.pinned (OpenSpec.upto poolAddsSpec)

/-- 'carafelaw3.PoolReads', WHERE WHAT IT READS IS OF BULK AT MOST 1048576: true; the input reads as it did. -/
def poolReadsUptoRow : OpenClaim := { program := "ythhbnnnokmefoaadoor", sum := "51819ffee17452fd160cce8935909b382b608597f5bef208fa75bd949abdd291", func := "carafe/carafelaw3.PoolReads", spec := "poolReads", inPlace := ["internal/bytealg.IndexByteString"], unfollowed := true, recurses := true, named := ["unicode/utf8.first", "unicode/utf8.acceptRanges"], apart := false, laid := [("unicode/utf8.acceptRanges", laid_unicode_utf8_acceptRanges), ("unicode/utf8.first", laid_unicode_utf8_first)], narrowed := true }
def PoolReadsUptoSaid : Prop := poolReadsUptoRow.holds Tryd.pinned (OpenSpec.upto poolReadsSpec)

/-- 'carafelaw3.PoolAgain', WHERE WHAT IT READS IS OF BULK AT MOST 1048576: true; the input reads as it did. -/
def poolAgainUptoRow : OpenClaim := { program := "ythhbnnnokmefoaadoor", sum := "51819ffee17452fd160cce8935909b382b608597f5bef208fa75bd949abdd291", func := "carafe/carafelaw3.PoolAgain", spec := "poolAgain", inPlace := ["internal/bytealg.IndexByteString"], unfollowed := true, recurses := true, named := ["unicode/utf8.first", "unicode/utf8.acceptRanges"], apart := false, laid := [("unicode/utf8.acceptRanges", laid_unicode_utf8_acceptRanges), ("unicode/utf8.first", laid_unicode_utf8_first)], narrowed := true }
def PoolAgainUptoSaid : Prop := poolAgainUptoRow.holds Tryd.pinned (OpenSpec.upto poolAgainSpec)

/-- 'carafelaw3.PoolNumbers', WHERE WHAT IT READS IS OF BULK AT MOST 1048576: true; the input reads as it did. -/
def poolNumbersUptoRow : OpenClaim := { program := "ythhbnnnokmefoaadoor", sum := "51819ffee17452fd160cce8935909b382b608597f5bef208fa75bd949abdd291", func := "carafe/carafelaw3.PoolNumbers", spec := "poolNumbers", inPlace := ["internal/bytealg.IndexByteString"], unfollowed := true, recurses := true, named := ["unicode/utf8.first", "unicode/utf8.acceptRanges"], apart := false, laid := [("unicode/utf8.acceptRanges", laid_unicode_utf8_acceptRanges), ("unicode/utf8.first", laid_unicode_utf8_first)], narrowed := true }
def PoolNumbersUptoSaid : Prop := poolNumbersUptoRow.holds Tryd.pinned (OpenSpec.upto poolNumbersSpec)

end Rows
end Go.Proofs.YthhbnnnokmefoaaDoor
