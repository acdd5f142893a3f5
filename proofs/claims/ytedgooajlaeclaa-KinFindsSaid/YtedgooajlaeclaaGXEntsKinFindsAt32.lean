/- The machine says of each entry what the entry says. No condition. -/
import Derived.Test.YtedgooajlaeclaaGXEntsKinFinds
import Derived.KernelRfl
namespace Go.Proofs.Ytedgooajlaeclaa.cKinFinds
open GX
set_option maxRecDepth 1000000
theorem ok32 (l : List (Nat × List Int × Int)) : checkEnt (Xs (X1 l) 1000000 es32) 1000000 ent32 = true := by kernel_rfl
theorem ok33 (l : List (Nat × List Int × Int)) : checkEnt (Xs (X1 l) 1000000 es33) 1000000 ent33 = true := by kernel_rfl
theorem ok34 (l : List (Nat × List Int × Int)) : checkEnt (Xs (X1 l) 1000000 es34) 1000000 ent34 = true := by kernel_rfl
theorem ok35 (l : List (Nat × List Int × Int)) : checkEnt (Xs (X1 l) 1000000 es35) 1000000 ent35 = true := by kernel_rfl
theorem ok36 (l : List (Nat × List Int × Int)) : checkEnt (Xs (X1 l) 1000000 es36) 1000000 ent36 = true := by kernel_rfl
theorem ok37 (l : List (Nat × List Int × Int)) : checkEnt (Xs (X1 l) 1000000 es37) 1000000 ent37 = true := by kernel_rfl
theorem ok38 (l : List (Nat × List Int × Int)) : checkEnt (Xs (X1 l) 1000000 es38) 1000000 ent38 = true := by kernel_rfl
theorem ok39 (l : List (Nat × List Int × Int)) : checkEnt (Xs (X1 l) 1000000 es39) 1000000 ent39 = true := by kernel_rfl
theorem ok40 (l : List (Nat × List Int × Int)) : checkEnt (Xs (X1 l) 1000000 es40) 1000000 ent40 = true := by kernel_rfl
theorem ok41 (l : List (Nat × List Int × Int)) : checkEnt (Xs (X1 l) 1000000 es41) 1000000 ent41 = true := by kernel_rfl
theorem ok42 (l : List (Nat × List Int × Int)) : checkEnt (Xs (X1 l) 1000000 es42) 1000000 ent42 = true := by kernel_rfl
theorem ok43 (l : List (Nat × List Int × Int)) : checkEnt (Xs (X1 l) 1000000 es43) 1000000 ent43 = true := by kernel_rfl
theorem ok44 (l : List (Nat × List Int × Int)) : checkEnt (Xs (X1 l) 1000000 es44) 1000000 ent44 = true := by kernel_rfl
theorem ok45 (l : List (Nat × List Int × Int)) : checkEnt (Xs (X1 l) 1000000 es45) 1000000 ent45 = true := by kernel_rfl
theorem ok46 (l : List (Nat × List Int × Int)) : checkEnt (Xs (X1 l) 1000000 es46) 1000000 ent46 = true := by kernel_rfl
theorem ok47 (l : List (Nat × List Int × Int)) : checkEnt (Xs (X1 l) 1000000 es47) 1000000 ent47 = true := by kernel_rfl
end Go.Proofs.Ytedgooajlaeclaa.cKinFinds
