/- The machine says of each entry what the entry says. No condition. -/
import Derived.Test.YtedgooajlaeclaaGXEntsKinFinds
import Derived.KernelRfl
namespace Go.Proofs.Ytedgooajlaeclaa.cKinFinds
open GX
set_option maxRecDepth 1000000
theorem ok64 (l : List (Nat × List Int × Int)) : checkEnt (Xs (X1 l) 1000000 es64) 1000000 ent64 = true := by kernel_rfl
theorem ok65 (l : List (Nat × List Int × Int)) : checkEnt (Xs (X1 l) 1000000 es65) 1000000 ent65 = true := by kernel_rfl
theorem ok66 (l : List (Nat × List Int × Int)) : checkEnt (Xs (X1 l) 1000000 es66) 1000000 ent66 = true := by kernel_rfl
theorem ok67 (l : List (Nat × List Int × Int)) : checkEnt (Xs (X1 l) 1000000 es67) 1000000 ent67 = true := by kernel_rfl
theorem ok68 (l : List (Nat × List Int × Int)) : checkEnt (Xs (X1 l) 1000000 es68) 1000000 ent68 = true := by kernel_rfl
theorem ok69 (l : List (Nat × List Int × Int)) : checkEnt (Xs (X1 l) 1000000 es69) 1000000 ent69 = true := by kernel_rfl
theorem ok70 (l : List (Nat × List Int × Int)) : checkEnt (Xs (X1 l) 1000000 es70) 1000000 ent70 = true := by kernel_rfl
theorem ok71 (l : List (Nat × List Int × Int)) : checkEnt (Xs (X1 l) 1000000 es71) 1000000 ent71 = true := by kernel_rfl
theorem ok72 (l : List (Nat × List Int × Int)) : checkEnt (Xs (X1 l) 1000000 es72) 1000000 ent72 = true := by kernel_rfl
theorem ok73 (l : List (Nat × List Int × Int)) : checkEnt (Xs (X1 l) 1000000 es73) 1000000 ent73 = true := by kernel_rfl
theorem ok74 (l : List (Nat × List Int × Int)) : checkEnt (Xs (X1 l) 1000000 es74) 1000000 ent74 = true := by kernel_rfl
theorem ok75 (l : List (Nat × List Int × Int)) : checkEnt (Xs (X1 l) 1000000 es75) 1000000 ent75 = true := by kernel_rfl
theorem ok76 (l : List (Nat × List Int × Int)) : checkEnt (Xs (X1 l) 1000000 es76) 1000000 ent76 = true := by kernel_rfl
theorem ok77 (l : List (Nat × List Int × Int)) : checkEnt (Xs (X1 l) 1000000 es77) 1000000 ent77 = true := by kernel_rfl
theorem ok78 (l : List (Nat × List Int × Int)) : checkEnt (Xs (X1 l) 1000000 es78) 1000000 ent78 = true := by kernel_rfl
theorem ok79 (l : List (Nat × List Int × Int)) : checkEnt (Xs (X1 l) 1000000 es79) 1000000 ent79 = true := by kernel_rfl
end Go.Proofs.Ytedgooajlaeclaa.cKinFinds
