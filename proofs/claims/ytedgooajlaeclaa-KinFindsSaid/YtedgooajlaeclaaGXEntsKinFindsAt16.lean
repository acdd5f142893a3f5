/- The machine says of each entry what the entry says. No condition. -/
import Derived.Test.YtedgooajlaeclaaGXEntsKinFinds
import Derived.KernelRfl
namespace Go.Proofs.Ytedgooajlaeclaa.cKinFinds
open GX
set_option maxRecDepth 1000000
theorem ok16 (l : List (Nat × List Int × Int)) : checkEnt (Xs (X1 l) 1000000 es16) 1000000 ent16 = true := by kernel_rfl
theorem ok17 (l : List (Nat × List Int × Int)) : checkEnt (Xs (X1 l) 1000000 es17) 1000000 ent17 = true := by kernel_rfl
theorem ok18 (l : List (Nat × List Int × Int)) : checkEnt (Xs (X1 l) 1000000 es18) 1000000 ent18 = true := by kernel_rfl
theorem ok19 (l : List (Nat × List Int × Int)) : checkEnt (Xs (X1 l) 1000000 es19) 1000000 ent19 = true := by kernel_rfl
theorem ok20 (l : List (Nat × List Int × Int)) : checkEnt (Xs (X1 l) 1000000 es20) 1000000 ent20 = true := by kernel_rfl
theorem ok21 (l : List (Nat × List Int × Int)) : checkEnt (Xs (X1 l) 1000000 es21) 1000000 ent21 = true := by kernel_rfl
theorem ok22 (l : List (Nat × List Int × Int)) : checkEnt (Xs (X1 l) 1000000 es22) 1000000 ent22 = true := by kernel_rfl
theorem ok23 (l : List (Nat × List Int × Int)) : checkEnt (Xs (X1 l) 1000000 es23) 1000000 ent23 = true := by kernel_rfl
theorem ok24 (l : List (Nat × List Int × Int)) : checkEnt (Xs (X1 l) 1000000 es24) 1000000 ent24 = true := by kernel_rfl
theorem ok25 (l : List (Nat × List Int × Int)) : checkEnt (Xs (X1 l) 1000000 es25) 1000000 ent25 = true := by kernel_rfl
theorem ok26 (l : List (Nat × List Int × Int)) : checkEnt (Xs (X1 l) 1000000 es26) 1000000 ent26 = true := by kernel_rfl
theorem ok27 (l : List (Nat × List Int × Int)) : checkEnt (Xs (X1 l) 1000000 es27) 1000000 ent27 = true := by kernel_rfl
theorem ok28 (l : List (Nat × List Int × Int)) : checkEnt (Xs (X1 l) 1000000 es28) 1000000 ent28 = true := by kernel_rfl
theorem ok29 (l : List (Nat × List Int × Int)) : checkEnt (Xs (X1 l) 1000000 es29) 1000000 ent29 = true := by kernel_rfl
theorem ok30 (l : List (Nat × List Int × Int)) : checkEnt (Xs (X1 l) 1000000 es30) 1000000 ent30 = true := by kernel_rfl
theorem ok31 (l : List (Nat × List Int × Int)) : checkEnt (Xs (X1 l) 1000000 es31) 1000000 ent31 = true := by kernel_rfl
end Go.Proofs.Ytedgooajlaeclaa.cKinFinds
