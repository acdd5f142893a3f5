/- The machine says of each entry what the entry says. No condition. -/
import Derived.Test.YtedgooajlaeclaaGXEntsKinMany
import Derived.KernelRfl
namespace Go.Proofs.Ytedgooajlaeclaa.cKinMany
open GX
set_option maxRecDepth 1000000
theorem ok40 (l : List (Nat × List Int × Int)) : checkEnt (Xs (X1 l) 1000000 es40) 1000000 ent40 = true := by kernel_rfl
theorem ok41 (l : List (Nat × List Int × Int)) : checkEnt (Xs (X1 l) 1000000 es41) 1000000 ent41 = true := by kernel_rfl
theorem ok42 (l : List (Nat × List Int × Int)) : checkEnt (Xs (X1 l) 1000000 es42) 1000000 ent42 = true := by kernel_rfl
theorem ok43 (l : List (Nat × List Int × Int)) : checkEnt (Xs (X1 l) 1000000 es43) 1000000 ent43 = true := by kernel_rfl
theorem ok44 (l : List (Nat × List Int × Int)) : checkEnt (Xs (X1 l) 1000000 es44) 1000000 ent44 = true := by kernel_rfl
theorem ok45 (l : List (Nat × List Int × Int)) : checkEnt (Xs (X1 l) 1000000 es45) 1000000 ent45 = true := by kernel_rfl
theorem ok46 (l : List (Nat × List Int × Int)) : checkEnt (Xs (X1 l) 1000000 es46) 1000000 ent46 = true := by kernel_rfl
theorem ok47 (l : List (Nat × List Int × Int)) : checkEnt (Xs (X1 l) 1000000 es47) 1000000 ent47 = true := by kernel_rfl
end Go.Proofs.Ytedgooajlaeclaa.cKinMany
