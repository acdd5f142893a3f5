/- The machine says of each entry what the entry says. No condition. -/
import Derived.Test.YtedgooajlaeclaaGXEntsKinMany
import Derived.KernelRfl
namespace Go.Proofs.Ytedgooajlaeclaa.cKinMany
open GX
set_option maxRecDepth 1000000
theorem ok24 (l : List (Nat × List Int × Int)) : checkEnt (Xs (X1 l) 1000000 es24) 1000000 ent24 = true := by kernel_rfl
theorem ok25 (l : List (Nat × List Int × Int)) : checkEnt (Xs (X1 l) 1000000 es25) 1000000 ent25 = true := by kernel_rfl
theorem ok26 (l : List (Nat × List Int × Int)) : checkEnt (Xs (X1 l) 1000000 es26) 1000000 ent26 = true := by kernel_rfl
theorem ok27 (l : List (Nat × List Int × Int)) : checkEnt (Xs (X1 l) 1000000 es27) 1000000 ent27 = true := by kernel_rfl
theorem ok28 (l : List (Nat × List Int × Int)) : checkEnt (Xs (X1 l) 1000000 es28) 1000000 ent28 = true := by kernel_rfl
theorem ok29 (l : List (Nat × List Int × Int)) : checkEnt (Xs (X1 l) 1000000 es29) 1000000 ent29 = true := by kernel_rfl
theorem ok30 (l : List (Nat × List Int × Int)) : checkEnt (Xs (X1 l) 1000000 es30) 1000000 ent30 = true := by kernel_rfl
theorem ok31 (l : List (Nat × List Int × Int)) : checkEnt (Xs (X1 l) 1000000 es31) 1000000 ent31 = true := by kernel_rfl
end Go.Proofs.Ytedgooajlaeclaa.cKinMany
