/- The machine says of each entry what the entry says. No condition. -/
import Derived.Test.YtedgooajlaeclaaGXEntsKinMany
import Derived.KernelRfl
namespace Go.Proofs.Ytedgooajlaeclaa.cKinMany
open GX
set_option maxRecDepth 1000000
theorem ok0 (l : List (Nat × List Int × Int)) : checkEnt (Xs (X1 l) 1000000 es0) 1000000 ent0 = true := by kernel_rfl
theorem ok1 (l : List (Nat × List Int × Int)) : checkEnt (Xs (X1 l) 1000000 es1) 1000000 ent1 = true := by kernel_rfl
theorem ok2 (l : List (Nat × List Int × Int)) : checkEnt (Xs (X1 l) 1000000 es2) 1000000 ent2 = true := by kernel_rfl
theorem ok3 (l : List (Nat × List Int × Int)) : checkEnt (Xs (X1 l) 1000000 es3) 1000000 ent3 = true := by kernel_rfl
theorem ok4 (l : List (Nat × List Int × Int)) : checkEnt (Xs (X1 l) 1000000 es4) 1000000 ent4 = true := by kernel_rfl
theorem ok5 (l : List (Nat × List Int × Int)) : checkEnt (Xs (X1 l) 1000000 es5) 1000000 ent5 = true := by kernel_rfl
theorem ok6 (l : List (Nat × List Int × Int)) : checkEnt (Xs (X1 l) 1000000 es6) 1000000 ent6 = true := by kernel_rfl
theorem ok7 (l : List (Nat × List Int × Int)) : checkEnt (Xs (X1 l) 1000000 es7) 1000000 ent7 = true := by kernel_rfl
end Go.Proofs.Ytedgooajlaeclaa.cKinMany
