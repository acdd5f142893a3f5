/-
  No cell of these rows narrows 'for every input' (looked for: loops, veiled, ifaces, maps, wideKeys, modest, calm, conditions, laid).
  DERIVED. THE GIVEN ROWS OF THIS SEAT. 5 by the template 'for every input the law returns true; each argument reads behind the call as it read before'; 0 by the template 'total and deterministic' (their statements: YtjbpegggfacojaaTotals.lean).
  GIVEN WITH THE SEED: the statements are not yours to turn. If you find one false, say at which input.
  Laid BY PROGRAM, IN A SANDBOX (cutbox-rows.mjs): the forced cells as the released guide's own fill.sh prints them over the translation 31da8f209553404d… (all of the seat's roots in one cut). By AI agents, Wed Nov 11 2026. No macro, syntax, notation, axiom, sorry.
-/
import Derived.Test.YtjbpegggfacojaaChecked
import GoSem.Claim
import GoSem.ClaimJoined
import GoSem.ClaimMapViews
import Derived.JoinedTies
import Derived.KernelRfl
namespace Go.Proofs.Ytjbpegggfacojaa
/- THE CELL 'sum', in the pinned program and in every row, IS THE sha256 OF THE DUMP (.gsa) THAT YtjbpegggfacojaaProg.lean LOADS. Nothing in Lean hashes anything: it is a label: what it is worth is what the hold of that sum in a sandbox is worth. -/
noncomputable def Try.pinned : Pinned := { name := "ytjbpegggfacojaa", sum := "31da8f209553404d295ec50afa03ed71cda2a3daf9f27d32fd60a122d26e40bf", checked := Try.checked }
namespace Rows
def none {H : Type} : Left H := { results := [], args := [] }

/-- 'carafelaw15.LoaderLine': WHATEVER THE INPUT: true; the input reads as it did. -/
def loaderLineSpec : ChangeSpec := { name := "loaderLine", fn := fun _ => fun
  | [d1, d2, d3] => { results := [.lit (.bool true)], args := [d1, d2, d3] }
  | _ => none }
def loaderLineRow : OpenClaim := { program := "ytjbpegggfacojaa", sum := "31da8f209553404d295ec50afa03ed71cda2a3daf9f27d32fd60a122d26e40bf", func := "carafe/carafelaw15.LoaderLine", spec := "loaderLine", unfollowed := true, recurses := true, plainKeys := false, apart := false }
def LoaderLineSaid : Prop := loaderLineRow.holds Try.pinned (OpenSpec.ofChange loaderLineSpec)

/-- ITS FALSE NEIGHBOUR: 'it returns false'. Refute it at one input. -/
def loaderLineWrong : ChangeSpec := { name := "loaderLine", fn := fun _ => fun
  | [d1, d2, d3] => { results := [.lit (.bool false)], args := [d1, d2, d3] }
  | _ => none }
def LoaderLineWrongFalsely : Prop := loaderLineRow.holds Try.pinned (OpenSpec.ofChange loaderLineWrong)

/-- 'carafelaw15.LoaderAgrees': WHATEVER THE INPUT: true; the input reads as it did. -/
def loaderAgreesSpec : ChangeSpec := { name := "loaderAgrees", fn := fun _ => fun
  | [d1, d2, d3] => { results := [.lit (.bool true)], args := [d1, d2, d3] }
  | _ => none }
def loaderAgreesRow : OpenClaim := { program := "ytjbpegggfacojaa", sum := "31da8f209553404d295ec50afa03ed71cda2a3daf9f27d32fd60a122d26e40bf", func := "carafe/carafelaw15.LoaderAgrees", spec := "loaderAgrees", unfollowed := true, recurses := true, plainKeys := false, apart := false }
def LoaderAgreesSaid : Prop := loaderAgreesRow.holds Try.pinned (OpenSpec.ofChange loaderAgreesSpec)

/-- ITS FALSE NEIGHBOUR: 'it returns false'. Refute it at one input. -/
def loaderAgreesWrong : ChangeSpec := { name := "loaderAgrees", fn := fun _ => fun
  | [d1, d2, d3] => { results := [.lit (.bool false)], args := [d1, d2, d3] }
  | _ => none }
def LoaderAgreesWrongFalsely : Prop := loaderAgreesRow.holds Try.pinned (OpenSpec.ofChange loaderAgreesWrong)

/-- 'carafelaw15.LoaderNumbers': WHATEVER THE INPUT: true; the input reads as it did. -/
def loaderNumbersSpec : ChangeSpec := { name := "loaderNumbers", fn := fun _ => fun
  | [] => { results := [.lit (.bool true)], args := [] }
  | _ => none }
def loaderNumbersRow : OpenClaim := { program := "ytjbpegggfacojaa", sum := "31da8f209553404d295ec50afa03ed71cda2a3daf9f27d32fd60a122d26e40bf", func := "carafe/carafelaw15.LoaderNumbers", spec := "loaderNumbers", unfollowed := true, recurses := true, plainKeys := false, apart := false }
def LoaderNumbersSaid : Prop := loaderNumbersRow.holds Try.pinned (OpenSpec.ofChange loaderNumbersSpec)

/-- ITS FALSE NEIGHBOUR: 'it returns false'. Refute it at one input. -/
def loaderNumbersWrong : ChangeSpec := { name := "loaderNumbers", fn := fun _ => fun
  | [] => { results := [.lit (.bool false)], args := [] }
  | _ => none }
def LoaderNumbersWrongFalsely : Prop := loaderNumbersRow.holds Try.pinned (OpenSpec.ofChange loaderNumbersWrong)

/-- 'carafelaw15.LoaderPlays': WHATEVER THE INPUT: true; the input reads as it did. -/
def loaderPlaysSpec : ChangeSpec := { name := "loaderPlays", fn := fun _ => fun
  | [d] => { results := [.lit (.bool true)], args := [d] }
  | _ => none }
def loaderPlaysRow : OpenClaim := { program := "ytjbpegggfacojaa", sum := "31da8f209553404d295ec50afa03ed71cda2a3daf9f27d32fd60a122d26e40bf", func := "carafe/carafelaw15.LoaderPlays", spec := "loaderPlays", unfollowed := true, recurses := true, plainKeys := false, apart := false }
def LoaderPlaysSaid : Prop := loaderPlaysRow.holds Try.pinned (OpenSpec.ofChange loaderPlaysSpec)

/-- ITS FALSE NEIGHBOUR: 'it returns false'. Refute it at one input. -/
def loaderPlaysWrong : ChangeSpec := { name := "loaderPlays", fn := fun _ => fun
  | [d] => { results := [.lit (.bool false)], args := [d] }
  | _ => none }
def LoaderPlaysWrongFalsely : Prop := loaderPlaysRow.holds Try.pinned (OpenSpec.ofChange loaderPlaysWrong)

/-- 'carafelaw15.LoaderSteady': WHATEVER THE INPUT: true; the input reads as it did. -/
def loaderSteadySpec : ChangeSpec := { name := "loaderSteady", fn := fun _ => fun
  | [d] => { results := [.lit (.bool true)], args := [d] }
  | _ => none }
def loaderSteadyRow : OpenClaim := { program := "ytjbpegggfacojaa", sum := "31da8f209553404d295ec50afa03ed71cda2a3daf9f27d32fd60a122d26e40bf", func := "carafe/carafelaw15.LoaderSteady", spec := "loaderSteady", unfollowed := true, recurses := true, plainKeys := false, apart := false }
def LoaderSteadySaid : Prop := loaderSteadyRow.holds Try.pinned (OpenSpec.ofChange loaderSteadySpec)

/-- ITS FALSE NEIGHBOUR: 'it returns false'. Refute it at one input. -/
def loaderSteadyWrong : ChangeSpec := { name := "loaderSteady", fn := fun _ => fun
  | [d] => { results := [.lit (.bool false)], args := [d] }
  | _ => none }
def LoaderSteadyWrongFalsely : Prop := loaderSteadyRow.holds Try.pinned (OpenSpec.ofChange loaderSteadyWrong)

/- THE SECOND FORM. 'bulk': how many values and letters a reading holds, each counted each time it is reached (what is shared counts as often as it is met; a slice's spare places count too). A statement '..UptoSaid' is the law's where the arguments, and the package variables that the reading takes, are together of bulk at most 1048576: NARROWER than '..Said'. Prove '..Said' where nothing that the law and all that it calls make is longer than what came in: it says more and counts as full. Else prove '..UptoSaid'. A law counts once. -/
mutual
def uptoBulk {H : Type} : DataW H → Nat
  | .lit (.string bytes) => bytes.length + 1
  | .lit _ => 1
  | .nil => 1
  | .ptr d => uptoBulk d + 1
  | .slice elems spare => uptoBulkAll elems + uptoBulkAll spare + 1
  | .agg parts => uptoBulkAll parts + 1
  | .iface _ d => uptoBulk d + 1
  | .map entries => uptoBulkEntries entries + 1
  | .held _ => 1
def uptoBulkAll {H : Type} : List (DataW H) → Nat
  | [] => 0
  | d :: r => uptoBulk d + uptoBulkAll r
def uptoBulkEntries {H : Type} : List (Lit × DataW H) → Nat
  | [] => 0
  | x :: r => uptoBulkEntry x + uptoBulkEntries r
def uptoBulkEntry {H : Type} : Lit × DataW H → Nat
  | (.string bytes, d) => bytes.length + uptoBulk d + 1
  | (_, d) => uptoBulk d + 1
 end
def uptoSmall : (H : Type) → List (DataW H) → Bool := fun _ ds => decide (uptoBulkAll ds ≤ 1048576)
def OpenSpec.upto (s : _root_.Go.ChangeSpec) : _root_.Go.OpenSpec := { _root_.Go.OpenSpec.ofChange s with cond := some uptoSmall }

/-- 'carafelaw15.LoaderLine', WHERE WHAT IT READS IS OF BULK AT MOST 1048576: true; the input reads as it did. -/
def loaderLineUptoRow : OpenClaim := { program := "ytjbpegggfacojaa", sum := "31da8f209553404d295ec50afa03ed71cda2a3daf9f27d32fd60a122d26e40bf", func := "carafe/carafelaw15.LoaderLine", spec := "loaderLine", unfollowed := true, recurses := true, plainKeys := false, apart := false, narrowed := true }
def LoaderLineUptoSaid : Prop := loaderLineUptoRow.holds Try.pinned (OpenSpec.upto loaderLineSpec)

/-- 'carafelaw15.LoaderAgrees', WHERE WHAT IT READS IS OF BULK AT MOST 1048576: true; the input reads as it did. -/
def loaderAgreesUptoRow : OpenClaim := { program := "ytjbpegggfacojaa", sum := "31da8f209553404d295ec50afa03ed71cda2a3daf9f27d32fd60a122d26e40bf", func := "carafe/carafelaw15.LoaderAgrees", spec := "loaderAgrees", unfollowed := true, recurses := true, plainKeys := false, apart := false, narrowed := true }
def LoaderAgreesUptoSaid : Prop := loaderAgreesUptoRow.holds Try.pinned (OpenSpec.upto loaderAgreesSpec)

/-- 'carafelaw15.LoaderNumbers', WHERE WHAT IT READS IS OF BULK AT MOST 1048576: true; the input reads as it did. -/
def loaderNumbersUptoRow : OpenClaim := { program := "ytjbpegggfacojaa", sum := "31da8f209553404d295ec50afa03ed71cda2a3daf9f27d32fd60a122d26e40bf", func := "carafe/carafelaw15.LoaderNumbers", spec := "loaderNumbers", unfollowed := true, recurses := true, plainKeys := false, apart := false, narrowed := true }
def LoaderNumbersUptoSaid : Prop := loaderNumbersUptoRow.holds Try.pinned (OpenSpec.upto loaderNumbersSpec)

/-- 'carafelaw15.LoaderPlays', WHERE WHAT IT READS IS OF BULK AT MOST 1048576: true; the input reads as it did. -/
def loaderPlaysUptoRow : OpenClaim := { program := "ytjbpegggfacojaa", sum := "31da8f209553404d295ec50afa03ed71cda2a3daf9f27d32fd60a122d26e40bf", func := "carafe/carafelaw15.LoaderPlays", spec := "loaderPlays", unfollowed := true, recurses := true, plainKeys := false, apart := false, narrowed := true }
def LoaderPlaysUptoSaid : Prop := loaderPlaysUptoRow.holds Try.pinned (OpenSpec.upto loaderPlaysSpec)

/-- 'carafelaw15.LoaderSteady', WHERE WHAT IT READS IS OF BULK AT MOST 1048576: true; the input reads as it did. -/
def loaderSteadyUptoRow : OpenClaim := { program := "ytjbpegggfacojaa", sum := "31da8f209553404d295ec50afa03ed71cda2a3daf9f27d32fd60a122d26e40bf", func := "carafe/carafelaw15.LoaderSteady", spec := "loaderSteady", unfollowed := true, recurses := true, plainKeys := false, apart := false, narrowed := true }
def LoaderSteadyUptoSaid : Prop := loaderSteadyUptoRow.holds Try.pinned (OpenSpec.upto loaderSteadySpec)

end Rows
end Go.Proofs.Ytjbpegggfacojaa
