/- The machine says of each entry what the entry says. No condition. -/
import Derived.Test.YtedgooajlaeclaaGXEntsKinFinds
import Derived.KernelRfl
namespace Go.Proofs.Ytedgooajlaeclaa.cKinFinds
open GX
set_option maxRecDepth 1000000
theorem ok112 (l : List (Nat × List Int × Int)) : checkEnt (Xs (X1 l) 1000000 es112) 1000000 ent112 = true := by kernel_rfl
theorem ok113 (l : List (Nat × List Int × Int)) : checkEnt (Xs (X1 l) 1000000 es113) 1000000 ent113 = true := by kernel_rfl
theorem ok114 (l : List (Nat × List Int × Int)) : checkEnt (Xs (X1 l) 1000000 es114) 1000000 ent114 = true := by kernel_rfl
theorem ok115 (l : List (Nat × List Int × Int)) : checkEnt (Xs (X1 l) 1000000 es115) 1000000 ent115 = true := by kernel_rfl
theorem ok116 (l : List (Nat × List Int × Int)) : checkEnt (Xs (X1 l) 1000000 es116) 1000000 ent116 = true := by kernel_rfl
theorem ok117 (l : List (Nat × List Int × Int)) : checkEnt (Xs (X1 l) 1000000 es117) 1000000 ent117 = true := by kernel_rfl
end Go.Proofs.Ytedgooajlaeclaa.cKinFinds
