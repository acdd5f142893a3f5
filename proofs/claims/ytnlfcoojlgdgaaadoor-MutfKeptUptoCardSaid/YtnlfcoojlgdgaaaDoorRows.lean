/-
  NARROWER THAN 'FOR EVERY INPUT', by the rows' own cells (each row's printed sentence says how): MutfCodes: laid · MutfBack: laid · MutfJoined: laid · MutfWrites: laid · MutfKept: laid · MutfReads: laid · MutfAgain: laid · MutfNumbers: laid.
  DERIVED. THE GIVEN ROWS OF THIS SEAT. 8 by the template 'for every input the law returns true; each argument reads behind the call as it read before'; 0 by the template 'total and deterministic' (their statements: YtnlfcoojlgdgaaaDoorTotals.lean).
  GIVEN WITH THE SEED: the statements are not yours to turn. If you find one false, say at which input.
  Laid BY PROGRAM, IN A SANDBOX (cutbox-rows.mjs): the forced cells as the released guide's own fill.sh prints them over the translation 03fdd2d480b82d20… (all of the seat's roots in one cut). By AI agents, Wed Nov 11 2026. No macro, syntax, notation, axiom, sorry.
-/
import Derived.Test.YtnlfcoojlgdgaaaDoorChecked
import GoSem.PinnedTables
import GoSem.Claim
import GoSem.ClaimJoined
import GoSem.ClaimMapViews
import Derived.JoinedTies
import Derived.KernelRfl
namespace Go.Proofs.YtnlfcoojlgdgaaaDoor
/- THE CELL 'sum', in the pinned program and in every row, IS THE sha256 OF THE DUMP (.gsa) THAT YtnlfcoojlgdgaaaDoorProg.lean LOADS. Nothing in Lean hashes anything: it is a label: what it is worth is what the hold of that sum in a sandbox is worth. -/
noncomputable def Tryd.pinned : Pinned := { name := "ytnlfcoojlgdgaaadoor", sum := "03fdd2d480b82d20e47e61b816b6b00e5a34dc26f63fdacb83c45fbfb03c5e8f", checked := Tryd.checked }
namespace Rows
def none {H : Type} : Left H := { results := [], args := [] }

/- WHAT THE LISTED PACKAGE-LEVEL VARIABLES READ AS WHEN THE CALL BEGINS. Each datum BY PROGRAM (the guide's laid-datum.mjs) off the statement by which the dump's own 'gosem.cut.vars' lays the variable. In a bare row this is a premise. The card (YtnlfcoojlgdgaaaDoorCards.lean) ties it to the program's text. -/
def laid_unicode_utf8_acceptRanges {H : Type} : DataW H := .agg [.agg [.lit (.int .u8 128), .lit (.int .u8 191)], .agg [.lit (.int .u8 160), .lit (.int .u8 191)], .agg [.lit (.int .u8 128), .lit (.int .u8 159)], .agg [.lit (.int .u8 144), .lit (.int .u8 191)], .agg [.lit (.int .u8 128), .lit (.int .u8 143)], .agg [.lit (.int .u8 0), .lit (.int .u8 0)], .agg [.lit (.int .u8 0), .lit (.int .u8 0)], .agg [.lit (.int .u8 0), .lit (.int .u8 0)], .agg [.lit (.int .u8 0), .lit (.int .u8 0)], .agg [.lit (.int .u8 0), .lit (.int .u8 0)], .agg [.lit (.int .u8 0), .lit (.int .u8 0)], .agg [.lit (.int .u8 0), .lit (.int .u8 0)], .agg [.lit (.int .u8 0), .lit (.int .u8 0)], .agg [.lit (.int .u8 0), .lit (.int .u8 0)], .agg [.lit (.int .u8 0), .lit (.int .u8 0)], .agg [.lit (.int .u8 0), .lit (.int .u8 0)]]
/-- One of Go's own tables, pinned by name: the form's constant. -/
def laid_unicode_utf8_first : DataW Unit := Go.Pinned.utf8First

/-- 'carafelaw1.MutfCodes': WHATEVER THE INPUT: true; the input reads as it did. -/
def mutfCodesSpec : ChangeSpec := { name := "mutfCodes", fn := fun _ => fun
  | [d1, d2] => { results := [.lit (.bool true)], args := [d1, d2] }
  | _ => none }
def mutfCodesRow : OpenClaim := { program := "ytnlfcoojlgdgaaadoor", sum := "03fdd2d480b82d20e47e61b816b6b00e5a34dc26f63fdacb83c45fbfb03c5e8f", func := "carafe/carafelaw1.MutfCodes", spec := "mutfCodes", unfollowed := true, recurses := true, named := ["unicode/utf8.first", "unicode/utf8.acceptRanges"], apart := false, laid := [("unicode/utf8.acceptRanges", laid_unicode_utf8_acceptRanges), ("unicode/utf8.first", laid_unicode_utf8_first)] }
def MutfCodesSaid : Prop := mutfCodesRow.holds Tryd.pinned (OpenSpec.ofChange mutfCodesSpec)

/-- ITS FALSE NEIGHBOUR: 'it returns false'. Refute it at one input. -/
def mutfCodesWrong : ChangeSpec := { name := "mutfCodes", fn := fun _ => fun
  | [d1, d2] => { results := [.lit (.bool false)], args := [d1, d2] }
  | _ => none }
def MutfCodesWrongFalsely : Prop := mutfCodesRow.holds Tryd.pinned (OpenSpec.ofChange mutfCodesWrong)

/-- 'carafelaw1.MutfBack': WHATEVER THE INPUT: true; the input reads as it did. -/
def mutfBackSpec : ChangeSpec := { name := "mutfBack", fn := fun _ => fun
  | [d1, d2] => { results := [.lit (.bool true)], args := [d1, d2] }
  | _ => none }
def mutfBackRow : OpenClaim := { program := "ytnlfcoojlgdgaaadoor", sum := "03fdd2d480b82d20e47e61b816b6b00e5a34dc26f63fdacb83c45fbfb03c5e8f", func := "carafe/carafelaw1.MutfBack", spec := "mutfBack", unfollowed := true, recurses := true, named := ["unicode/utf8.first", "unicode/utf8.acceptRanges"], apart := false, laid := [("unicode/utf8.acceptRanges", laid_unicode_utf8_acceptRanges), ("unicode/utf8.first", laid_unicode_utf8_first)] }
def MutfBackSaid : Prop := mutfBackRow.holds Tryd.pinned (OpenSpec.ofChange mutfBackSpec)

/-- ITS FALSE NEIGHBOUR: 'it returns false'. Refute it at one input. -/
def mutfBackWrong : ChangeSpec := { name := "mutfBack", fn := fun _ => fun
  | [d1, d2] => { results := [.lit (.bool false)], args := [d1, d2] }
  | _ => none }
def MutfBackWrongFalsely : Prop := mutfBackRow.holds Tryd.pinned (OpenSpec.ofChange mutfBackWrong)

/-- 'carafelaw1.MutfJoined': WHATEVER THE INPUT: true; the input reads as it did. -/
def mutfJoinedSpec : ChangeSpec := { name := "mutfJoined", fn := fun _ => fun
  | [d1, d2] => { results := [.lit (.bool true)], args := [d1, d2] }
  | _ => none }
def mutfJoinedRow : OpenClaim := { program := "ytnlfcoojlgdgaaadoor", sum := "03fdd2d480b82d20e47e61b816b6b00e5a34dc26f63fdacb83c45fbfb03c5e8f", func := "carafe/carafelaw1.MutfJoined", spec := "mutfJoined", unfollowed := true, recurses := true, named := ["unicode/utf8.first", "unicode/utf8.acceptRanges"], apart := false, laid := [("unicode/utf8.acceptRanges", laid_unicode_utf8_acceptRanges), ("unicode/utf8.first", laid_unicode_utf8_first)] }
def MutfJoinedSaid : Prop := mutfJoinedRow.holds Tryd.pinned (OpenSpec.ofChange mutfJoinedSpec)

/-- ITS FALSE NEIGHBOUR: 'it returns false'. Refute it at one input. -/
def mutfJoinedWrong : ChangeSpec := { name := "mutfJoined", fn := fun _ => fun
  | [d1, d2] => { results := [.lit (.bool false)], args := [d1, d2] }
  | _ => none }
def MutfJoinedWrongFalsely : Prop := mutfJoinedRow.holds Tryd.pinned (OpenSpec.ofChange mutfJoinedWrong)

/-- 'carafelaw1.MutfWrites': WHATEVER THE INPUT: true; the input reads as it did. -/
def mutfWritesSpec : ChangeSpec := { name := "mutfWrites", fn := fun _ => fun
  | [d] => { results := [.lit (.bool true)], args := [d] }
  | _ => none }
def mutfWritesRow : OpenClaim := { program := "ytnlfcoojlgdgaaadoor", sum := "03fdd2d480b82d20e47e61b816b6b00e5a34dc26f63fdacb83c45fbfb03c5e8f", func := "carafe/carafelaw1.MutfWrites", spec := "mutfWrites", unfollowed := true, recurses := true, named := ["unicode/utf8.first", "unicode/utf8.acceptRanges"], apart := false, laid := [("unicode/utf8.acceptRanges", laid_unicode_utf8_acceptRanges), ("unicode/utf8.first", laid_unicode_utf8_first)] }
def MutfWritesSaid : Prop := mutfWritesRow.holds Tryd.pinned (OpenSpec.ofChange mutfWritesSpec)

/-- ITS FALSE NEIGHBOUR: 'it returns false'. Refute it at one input. -/
def mutfWritesWrong : ChangeSpec := { name := "mutfWrites", fn := fun _ => fun
  | [d] => { results := [.lit (.bool false)], args := [d] }
  | _ => none }
def MutfWritesWrongFalsely : Prop := mutfWritesRow.holds Tryd.pinned (OpenSpec.ofChange mutfWritesWrong)

/-- 'carafelaw1.MutfKept': WHATEVER THE INPUT: true; the input reads as it did. -/
def mutfKeptSpec : ChangeSpec := { name := "mutfKept", fn := fun _ => fun
  | [d1, d2] => { results := [.lit (.bool true)], args := [d1, d2] }
  | _ => none }
def mutfKeptRow : OpenClaim := { program := "ytnlfcoojlgdgaaadoor", sum := "03fdd2d480b82d20e47e61b816b6b00e5a34dc26f63fdacb83c45fbfb03c5e8f", func := "carafe/carafelaw1.MutfKept", spec := "mutfKept", unfollowed := true, recurses := true, named := ["unicode/utf8.first", "unicode/utf8.acceptRanges"], apart := false, laid := [("unicode/utf8.acceptRanges", laid_unicode_utf8_acceptRanges), ("unicode/utf8.first", laid_unicode_utf8_first)] }
def MutfKeptSaid : Prop := mutfKeptRow.holds Tryd.pinned (OpenSpec.ofChange mutfKeptSpec)

/-- ITS FALSE NEIGHBOUR: 'it returns false'. Refute it at one input. -/
def mutfKeptWrong : ChangeSpec := { name := "mutfKept", fn := fun _ => fun
  | [d1, d2] => { results := [.lit (.bool false)], args := [d1, d2] }
  | _ => none }
def MutfKeptWrongFalsely : Prop := mutfKeptRow.holds Tryd.pinned (OpenSpec.ofChange mutfKeptWrong)

/-- 'carafelaw1.MutfReads': WHATEVER THE INPUT: true; the input reads as it did. -/
def mutfReadsSpec : ChangeSpec := { name := "mutfReads", fn := fun _ => fun
  | [d1, d2] => { results := [.lit (.bool true)], args := [d1, d2] }
  | _ => none }
def mutfReadsRow : OpenClaim := { program := "ytnlfcoojlgdgaaadoor", sum := "03fdd2d480b82d20e47e61b816b6b00e5a34dc26f63fdacb83c45fbfb03c5e8f", func := "carafe/carafelaw1.MutfReads", spec := "mutfReads", unfollowed := true, recurses := true, named := ["unicode/utf8.first", "unicode/utf8.acceptRanges"], apart := false, laid := [("unicode/utf8.acceptRanges", laid_unicode_utf8_acceptRanges), ("unicode/utf8.first", laid_unicode_utf8_first)] }
def MutfReadsSaid : Prop := mutfReadsRow.holds Tryd.pinned (OpenSpec.ofChange mutfReadsSpec)

/-- ITS FALSE NEIGHBOUR: 'it returns false'. Refute it at one input. -/
def mutfReadsWrong : ChangeSpec := { name := "mutfReads", fn := fun _ => fun
  | [d1, d2] => { results := [.lit (.bool false)], args := [d1, d2] }
  | _ => none }
def MutfReadsWrongFalsely : Prop := mutfReadsRow.holds Tryd.pinned (OpenSpec.ofChange mutfReadsWrong)

/-- 'carafelaw1.MutfAgain': WHATEVER THE INPUT: true; the input reads as it did. -/
def mutfAgainSpec : ChangeSpec := { name := "mutfAgain", fn := fun _ => fun
  | [d] => { results := [.lit (.bool true)], args := [d] }
  | _ => none }
def mutfAgainRow : OpenClaim := { program := "ytnlfcoojlgdgaaadoor", sum := "03fdd2d480b82d20e47e61b816b6b00e5a34dc26f63fdacb83c45fbfb03c5e8f", func := "carafe/carafelaw1.MutfAgain", spec := "mutfAgain", unfollowed := true, recurses := true, named := ["unicode/utf8.first", "unicode/utf8.acceptRanges"], apart := false, laid := [("unicode/utf8.acceptRanges", laid_unicode_utf8_acceptRanges), ("unicode/utf8.first", laid_unicode_utf8_first)] }
def MutfAgainSaid : Prop := mutfAgainRow.holds Tryd.pinned (OpenSpec.ofChange mutfAgainSpec)

/-- ITS FALSE NEIGHBOUR: 'it returns false'. Refute it at one input. -/
def mutfAgainWrong : ChangeSpec := { name := "mutfAgain", fn := fun _ => fun
  | [d] => { results := [.lit (.bool false)], args := [d] }
  | _ => none }
def MutfAgainWrongFalsely : Prop := mutfAgainRow.holds Tryd.pinned (OpenSpec.ofChange mutfAgainWrong)

/-- 'carafelaw1.MutfNumbers': WHATEVER THE INPUT: true; the input reads as it did. -/
def mutfNumbersSpec : ChangeSpec := { name := "mutfNumbers", fn := fun _ => fun
  | [] => { results := [.lit (.bool true)], args := [] }
  | _ => none }
def mutfNumbersRow : OpenClaim := { program := "ytnlfcoojlgdgaaadoor", sum := "03fdd2d480b82d20e47e61b816b6b00e5a34dc26f63fdacb83c45fbfb03c5e8f", func := "carafe/carafelaw1.MutfNumbers", spec := "mutfNumbers", unfollowed := true, recurses := true, named := ["unicode/utf8.first", "unicode/utf8.acceptRanges"], apart := false, laid := [("unicode/utf8.acceptRanges", laid_unicode_utf8_acceptRanges), ("unicode/utf8.first", laid_unicode_utf8_first)] }
def MutfNumbersSaid : Prop := mutfNumbersRow.holds Tryd.pinned (OpenSpec.ofChange mutfNumbersSpec)

/-- ITS FALSE NEIGHBOUR: 'it returns false'. Refute it at one input. -/
def mutfNumbersWrong : ChangeSpec := { name := "mutfNumbers", fn := fun _ => fun
  | [] => { results := [.lit (.bool false)], args := [] }
  | _ => none }
def MutfNumbersWrongFalsely : Prop := mutfNumbersRow.holds Tryd.pinned (OpenSpec.ofChange mutfNumbersWrong)

/- THE SECOND FORM. 'bulk': how many values and letters a reading holds, each counted each time it is reached (what is shared counts as often as it is met; a slice's spare places count too). A statement '..UptoSaid' is the law's where the arguments, and the package variables that the reading takes, are together of bulk at most 1048576: NARROWER than '..Said'. Prove '..Said' where nothing that the law and all that it calls make is longer than what came in: it says more and counts as full. Else prove '..UptoSaid'. A law counts once. -/
mutual
def uptoBulk {H : Type} : DataW H → Nat
  | .lit (.string bytes) => bytes.length + 1
  | .lit _ => 1
  | .nil => 1
  | .ptr d => uptoBulk d + 1
  | .slice elems spare => uptoBulkAll elems + uptoBulkAll spare + 1
  | .agg parts => uptoBulkAll parts + 1
  | .iface _ d => uptoBulk d + 1
  | .map entries => uptoBulkEntries entries + 1
  | .held _ => 1
def uptoBulkAll {H : Type} : List (DataW H) → Nat
  | [] => 0
  | d :: r => uptoBulk d + uptoBulkAll r
def uptoBulkEntries {H : Type} : List (Lit × DataW H) → Nat
  | [] => 0
  | x :: r => uptoBulkEntry x + uptoBulkEntries r
def uptoBulkEntry {H : Type} : Lit × DataW H → Nat
  | (.string bytes, d) => bytes.length + uptoBulk d + 1
  | (_, d) => uptoBulk d + 1
 end
def uptoSmall : (H : Type) → List (DataW H) → Bool := fun _ ds => decide (uptoBulkAll ds ≤ 1048576)
def OpenSpec.upto (s : _root_.Go.ChangeSpec) : _root_.Go.OpenSpec := { _root_.Go.OpenSpec.ofChange s with cond := some uptoSmall }

/-- 'carafelaw1.MutfCodes', WHERE WHAT IT READS IS OF BULK AT MOST 1048576: true; the input reads as it did. -/
def mutfCodesUptoRow : OpenClaim := { program := "ytnlfcoojlgdgaaadoor", sum := "03fdd2d480b82d20e47e61b816b6b00e5a34dc26f63fdacb83c45fbfb03c5e8f", func := "carafe/carafelaw1.MutfCodes", spec := "mutfCodes", unfollowed := true, recurses := true, named := ["unicode/utf8.first", "unicode/utf8.acceptRanges"], apart := false, laid := [("unicode/utf8.acceptRanges", laid_unicode_utf8_acceptRanges), ("unicode/utf8.first", laid_unicode_utf8_first)], narrowed := true }
def MutfCodesUptoSaid : Prop := mutfCodesUptoRow.holds Tryd.pinned (OpenSpec.upto mutfCodesSpec)

/-- 'carafelaw1.MutfBack', WHERE WHAT IT READS IS OF BULK AT MOST 1048576: true; the input reads as it did. -/
def mutfBackUptoRow : OpenClaim := { program := "ytnlfcoojlgdgaaadoor", sum := "03fdd2d480b82d20e47e61b816b6b00e5a34dc26f63fdacb83c45fbfb03c5e8f", func := "carafe/carafelaw1.MutfBack", spec := "mutfBack", unfollowed := true, recurses := true, named := ["unicode/utf8.first", "unicode/utf8.acceptRanges"], apart := false, laid := [("unicode/utf8.acceptRanges", laid_unicode_utf8_acceptRanges), ("unicode/utf8.first", laid_unicode_utf8_first)], narrowed := true }
def MutfBackUptoSaid : Prop := mutfBackUptoRow.holds Tryd.pinned (OpenSpec.upto mutfBackSpec)

/-- 'carafelaw1.MutfJoined', WHERE WHAT IT READS IS OF BULK AT MOST 1048576: true; the input reads as it did. -/
def mutfJoinedUptoRow : OpenClaim := { program := "ytnlfcoojlgdgaaadoor", sum := "03fdd2d480b82d20e47e61b816b6b00e5a34dc26f63fdacb83c45fbfb03c5e8f", func := "carafe/carafelaw1.MutfJoined", spec := "mutfJoined", unfollowed := true, recurses := true, named := ["unicode/utf8.first", "unicode/utf8.acceptRanges"], apart := false, laid := [("unicode/utf8.acceptRanges", laid_unicode_utf8_acceptRanges), ("unicode/utf8.first", laid_unicode_utf8_first)], narrowed := true }
def MutfJoinedUptoSaid : Prop := mutfJoinedUptoRow.holds Tryd.pinned (OpenSpec.upto mutfJoinedSpec)

/-- 'carafelaw1.MutfWrites', WHERE WHAT IT READS IS OF BULK AT MOST 1048576: true; the input reads as it did. -/
def mutfWritesUptoRow : OpenClaim := { program := "ytnlfcoojlgdgaaadoor", sum := "03fdd2d480b82d20e47e61b816b6b00e5a34dc26f63fdacb83c45fbfb03c5e8f", func := "carafe/carafelaw1.MutfWrites", spec := "mutfWrites", unfollowed := true, recurses := true, named := ["unicode/utf8.first", "unicode/utf8.acceptRanges"], apart := false, laid := [("unicode/utf8.acceptRanges", laid_unicode_utf8_acceptRanges), ("unicode/utf8.first", laid_unicode_utf8_first)], narrowed := true }
def MutfWritesUptoSaid : Prop := mutfWritesUptoRow.holds Tryd.pinned (OpenSpec.upto mutfWritesSpec)

/-- 'carafelaw1.MutfKept', WHERE WHAT IT READS IS OF BULK AT MOST 1048576: true; the input reads as it did. -/
def mutfKeptUptoRow : OpenClaim := { program := "ytnlfcoojlgdgaaadoor", sum := "03fdd2d480b82d20e47e61b816b6b00e5a34dc26f63fdacb83c45fbfb03c5e8f", func := "carafe/carafelaw1.MutfKept", spec := "mutfKept", unfollowed := true, recurses := true, named := ["unicode/utf8.first", "unicode/utf8.acceptRanges"], apart := false, laid := [("unicode/utf8.acceptRanges", laid_unicode_utf8_acceptRanges), ("unicode/utf8.first", laid_unicode_utf8_first)], narrowed := true }
def MutfKeptUptoSaid : Prop := mutfKeptUptoRow.holds Tryd.pinned (OpenSpec.upto mutfKeptSpec)

/-- 'carafelaw1.MutfReads', WHERE WHAT IT READS IS OF BULK AT MOST 1048576: true; the input reads as it did. -/
def mutfReadsUptoRow : OpenClaim := { program := "ytnlfcoojlgdgaaadoor", sum := "03fdd2d480b82d20e47e61b816b6b00e5a34dc26f63fdacb83c45fbfb03c5e8f", func := "carafe/carafelaw1.MutfReads", spec := "mutfReads", unfollowed := true, recurses := true, named := ["unicode/utf8.first", "unicode/utf8.acceptRanges"], apart := false, laid := [("unicode/utf8.acceptRanges", laid_unicode_utf8_acceptRanges), ("unicode/utf8.first", laid_unicode_utf8_first)], narrowed := true }
def MutfReadsUptoSaid : Prop := mutfReadsUptoRow.holds Tryd.pinned (OpenSpec.upto mutfReadsSpec)

/-- 'carafelaw1.MutfAgain', WHERE WHAT IT READS IS OF BULK AT MOST 1048576: true; the input reads as it did. -/
def mutfAgainUptoRow : OpenClaim := { program := "ytnlfcoojlgdgaaadoor", sum := "03fdd2d480b82d20e47e61b816b6b00e5a34dc26f63fdacb83c45fbfb03c5e8f", func := "carafe/carafelaw1.MutfAgain", spec := "mutfAgain", unfollowed := true, recurses := true, named := ["unicode/utf8.first", "unicode/utf8.acceptRanges"], apart := false, laid := [("unicode/utf8.acceptRanges", laid_unicode_utf8_acceptRanges), ("unicode/utf8.first", laid_unicode_utf8_first)], narrowed := true }
def MutfAgainUptoSaid : Prop := mutfAgainUptoRow.holds Tryd.pinned (OpenSpec.upto mutfAgainSpec)

/-- 'carafelaw1.MutfNumbers', WHERE WHAT IT READS IS OF BULK AT MOST 1048576: true; the input reads as it did. -/
def mutfNumbersUptoRow : OpenClaim := { program := "ytnlfcoojlgdgaaadoor", sum := "03fdd2d480b82d20e47e61b816b6b00e5a34dc26f63fdacb83c45fbfb03c5e8f", func := "carafe/carafelaw1.MutfNumbers", spec := "mutfNumbers", unfollowed := true, recurses := true, named := ["unicode/utf8.first", "unicode/utf8.acceptRanges"], apart := false, laid := [("unicode/utf8.acceptRanges", laid_unicode_utf8_acceptRanges), ("unicode/utf8.first", laid_unicode_utf8_first)], narrowed := true }
def MutfNumbersUptoSaid : Prop := mutfNumbersUptoRow.holds Tryd.pinned (OpenSpec.upto mutfNumbersSpec)

end Rows
end Go.Proofs.YtnlfcoojlgdgaaaDoor
