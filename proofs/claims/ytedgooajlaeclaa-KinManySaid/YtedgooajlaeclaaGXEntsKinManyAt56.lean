/- The machine says of each entry what the entry says. No condition. -/
import Derived.Test.YtedgooajlaeclaaGXEntsKinMany
import Derived.KernelRfl
namespace Go.Proofs.Ytedgooajlaeclaa.cKinMany
open GX
set_option maxRecDepth 1000000
theorem ok56 (l : List (Nat × List Int × Int)) : checkEnt (Xs (X1 l) 1000000 es56) 1000000 ent56 = true := by kernel_rfl
theorem ok57 (l : List (Nat × List Int × Int)) : checkEnt (Xs (X1 l) 1000000 es57) 1000000 ent57 = true := by kernel_rfl
end Go.Proofs.Ytedgooajlaeclaa.cKinMany
