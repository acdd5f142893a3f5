/- The machine says of each entry what the entry says. No condition. -/
import Derived.Test.YtedgooajlaeclaaGXEntsKinFinds
import Derived.KernelRfl
namespace Go.Proofs.Ytedgooajlaeclaa.cKinFinds
open GX
set_option maxRecDepth 1000000
theorem ok48 (l : List (Nat × List Int × Int)) : checkEnt (Xs (X1 l) 1000000 es48) 1000000 ent48 = true := by kernel_rfl
theorem ok49 (l : List (Nat × List Int × Int)) : checkEnt (Xs (X1 l) 1000000 es49) 1000000 ent49 = true := by kernel_rfl
theorem ok50 (l : List (Nat × List Int × Int)) : checkEnt (Xs (X1 l) 1000000 es50) 1000000 ent50 = true := by kernel_rfl
theorem ok51 (l : List (Nat × List Int × Int)) : checkEnt (Xs (X1 l) 1000000 es51) 1000000 ent51 = true := by kernel_rfl
theorem ok52 (l : List (Nat × List Int × Int)) : checkEnt (Xs (X1 l) 1000000 es52) 1000000 ent52 = true := by kernel_rfl
theorem ok53 (l : List (Nat × List Int × Int)) : checkEnt (Xs (X1 l) 1000000 es53) 1000000 ent53 = true := by kernel_rfl
theorem ok54 (l : List (Nat × List Int × Int)) : checkEnt (Xs (X1 l) 1000000 es54) 1000000 ent54 = true := by kernel_rfl
theorem ok55 (l : List (Nat × List Int × Int)) : checkEnt (Xs (X1 l) 1000000 es55) 1000000 ent55 = true := by kernel_rfl
theorem ok56 (l : List (Nat × List Int × Int)) : checkEnt (Xs (X1 l) 1000000 es56) 1000000 ent56 = true := by kernel_rfl
theorem ok57 (l : List (Nat × List Int × Int)) : checkEnt (Xs (X1 l) 1000000 es57) 1000000 ent57 = true := by kernel_rfl
theorem ok58 (l : List (Nat × List Int × Int)) : checkEnt (Xs (X1 l) 1000000 es58) 1000000 ent58 = true := by kernel_rfl
theorem ok59 (l : List (Nat × List Int × Int)) : checkEnt (Xs (X1 l) 1000000 es59) 1000000 ent59 = true := by kernel_rfl
theorem ok60 (l : List (Nat × List Int × Int)) : checkEnt (Xs (X1 l) 1000000 es60) 1000000 ent60 = true := by kernel_rfl
theorem ok61 (l : List (Nat × List Int × Int)) : checkEnt (Xs (X1 l) 1000000 es61) 1000000 ent61 = true := by kernel_rfl
theorem ok62 (l : List (Nat × List Int × Int)) : checkEnt (Xs (X1 l) 1000000 es62) 1000000 ent62 = true := by kernel_rfl
theorem ok63 (l : List (Nat × List Int × Int)) : checkEnt (Xs (X1 l) 1000000 es63) 1000000 ent63 = true := by kernel_rfl
end Go.Proofs.Ytedgooajlaeclaa.cKinFinds
