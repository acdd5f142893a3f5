-- Printed by a changed copy of the printer (wip/printpatch.py). Not trusted: Lean checks it.
import Derived.Test.YtdhfjkikoiifcaaProg
import Derived.Test.YtdhfjkikoiifcaaShelf
import Derived.Below
import Derived.Deep.Draws
import Derived.Deep.AppendLies
import Derived.Maps.AppendAt
import Derived.OwnWalk
import Derived.Laws.BytesArg
import Derived.Laws.MakeOwn
import Derived.Laws.OwnMore
import Derived.Deep.OwnRows
import Derived.Tactics
import Derived.Lib.ConvBytes
import Derived.Laws.Slices
import Derived.WalkKit
import Derived.KernelRfl
import Derived.RowKit3
import Derived.Deep.LoopGhost
import Derived.Deep.QuietTactic
import Derived.BigQuiet
import Derived.WideLaws
import Derived.Deep.DeepCutAuto
import Derived.Deep.CutBlock
import Derived.Deep.RegionHeld3
import Derived.Laws.Rows
import Derived.Lib.AppendStr
import Derived.ArgAppend
import Derived.Laws.IdiomCopy
import Derived.OrdersHeld
import Derived.Laws.BitsLemmas
import Derived.RowKit
import Derived.Test.YtdhfjkikoiifcaaWWords
import Derived.Test.YtdhfjkikoiifcaaWLast
import Derived.Test.YtdhfjkikoiifcaaWTab
import Derived.Test.YtdhfjkikoiifcaaWFour
import Derived.Test.YtdhfjkikoiifcaaWQPut
import Derived.Test.YtdhfjkikoiifcaaWApart
import Derived.Test.YtdhfjkikoiifcaaWArr
import Derived.Test.YtdhfjkikoiifcaaWZeros
import Derived.Test.YtdhfjkikoiifcaaWFoot
import Derived.Test.YtdhfjkikoiifcaaWKept
import Derived.Test.YtdhfjkikoiifcaaWShare
import Derived.Test.YtdhfjkikoiifcaaWN
import Derived.Test.YtdhfjkikoiifcaaWFootNe
import Derived.Test.YtdhfjkikoiifcaaWAt
import Derived.Test.YtdhfjkikoiifcaaWEqStruct
import Derived.Test.YtdhfjkikoiifcaaWRepsOne
import Derived.Test.YtdhfjkikoiifcaaWInv
import Derived.Test.YtdhfjkikoiifcaaWInvWords
import Derived.Test.YtdhfjkikoiifcaaWGuard
import Derived.Test.YtdhfjkikoiifcaaWNEv
import Derived.Test.YtdhfjkikoiifcaaWMore
namespace Go.Proofs.Ytdhfjkikoiifcaa.PDescrBack
open Go.RowKit Go.Proofs.YtdhfjkikoiifcaaW.PrintWords Go.Proofs.YtdhfjkikoiifcaaW.PrintLast Go.Proofs.YtdhfjkikoiifcaaW.PrintMore
attribute [local go_sem] max2_int min2_int max_two min_two max_three min_three max_four min_four   -- for this text's walks alone
set_option linter.unusedVariables false
set_option linter.unusedSimpArgs false



def errW : Option Int → Value
  | none => .nilIface
  | some c => .iface 0 (.int .i64 c)
theorem errW_none : errW none = .nilIface := rfl
theorem errW_some (c : Int) : errW (some c) = .iface 0 (.int .i64 c) := rfl

theorem info9 : (Try.prog.info? 9).map (fun i => (i.zero, i.size, i.bytes)) = some (some (.string ⟨#[]⟩), 1, 16) := by kernel_rfl
-- the values' own types

end Go.Proofs.Ytdhfjkikoiifcaa.PDescrBack
