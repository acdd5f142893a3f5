/- The machine says of each entry what the entry says. No condition. -/
import Derived.Test.YtedgooajlaeclaaGXEntsKinFinds
import Derived.KernelRfl
namespace Go.Proofs.Ytedgooajlaeclaa.cKinFinds
open GX
set_option maxRecDepth 1000000
theorem ok0 (l : List (Nat × List Int × Int)) : checkEnt (Xs (X1 l) 1000000 es0) 1000000 ent0 = true := by kernel_rfl
theorem ok1 (l : List (Nat × List Int × Int)) : checkEnt (Xs (X1 l) 1000000 es1) 1000000 ent1 = true := by kernel_rfl
theorem ok2 (l : List (Nat × List Int × Int)) : checkEnt (Xs (X1 l) 1000000 es2) 1000000 ent2 = true := by kernel_rfl
theorem ok3 (l : List (Nat × List Int × Int)) : checkEnt (Xs (X1 l) 1000000 es3) 1000000 ent3 = true := by kernel_rfl
theorem ok4 (l : List (Nat × List Int × Int)) : checkEnt (Xs (X1 l) 1000000 es4) 1000000 ent4 = true := by kernel_rfl
theorem ok5 (l : List (Nat × List Int × Int)) : checkEnt (Xs (X1 l) 1000000 es5) 1000000 ent5 = true := by kernel_rfl
theorem ok6 (l : List (Nat × List Int × Int)) : checkEnt (Xs (X1 l) 1000000 es6) 1000000 ent6 = true := by kernel_rfl
theorem ok7 (l : List (Nat × List Int × Int)) : checkEnt (Xs (X1 l) 1000000 es7) 1000000 ent7 = true := by kernel_rfl
theorem ok8 (l : List (Nat × List Int × Int)) : checkEnt (Xs (X1 l) 1000000 es8) 1000000 ent8 = true := by kernel_rfl
theorem ok9 (l : List (Nat × List Int × Int)) : checkEnt (Xs (X1 l) 1000000 es9) 1000000 ent9 = true := by kernel_rfl
theorem ok10 (l : List (Nat × List Int × Int)) : checkEnt (Xs (X1 l) 1000000 es10) 1000000 ent10 = true := by kernel_rfl
theorem ok11 (l : List (Nat × List Int × Int)) : checkEnt (Xs (X1 l) 1000000 es11) 1000000 ent11 = true := by kernel_rfl
theorem ok12 (l : List (Nat × List Int × Int)) : checkEnt (Xs (X1 l) 1000000 es12) 1000000 ent12 = true := by kernel_rfl
theorem ok13 (l : List (Nat × List Int × Int)) : checkEnt (Xs (X1 l) 1000000 es13) 1000000 ent13 = true := by kernel_rfl
theorem ok14 (l : List (Nat × List Int × Int)) : checkEnt (Xs (X1 l) 1000000 es14) 1000000 ent14 = true := by kernel_rfl
theorem ok15 (l : List (Nat × List Int × Int)) : checkEnt (Xs (X1 l) 1000000 es15) 1000000 ent15 = true := by kernel_rfl
end Go.Proofs.Ytedgooajlaeclaa.cKinFinds
