/- The machine says of each entry what the entry says. No condition. -/
import Derived.Test.YtedgooajlaeclaaGXEntsKinFinds
import Derived.KernelRfl
namespace Go.Proofs.Ytedgooajlaeclaa.cKinFinds
open GX
set_option maxRecDepth 1000000
theorem ok96 (l : List (Nat × List Int × Int)) : checkEnt (Xs (X1 l) 1000000 es96) 1000000 ent96 = true := by kernel_rfl
theorem ok97 (l : List (Nat × List Int × Int)) : checkEnt (Xs (X1 l) 1000000 es97) 1000000 ent97 = true := by kernel_rfl
theorem ok98 (l : List (Nat × List Int × Int)) : checkEnt (Xs (X1 l) 1000000 es98) 1000000 ent98 = true := by kernel_rfl
theorem ok99 (l : List (Nat × List Int × Int)) : checkEnt (Xs (X1 l) 1000000 es99) 1000000 ent99 = true := by kernel_rfl
theorem ok100 (l : List (Nat × List Int × Int)) : checkEnt (Xs (X1 l) 1000000 es100) 1000000 ent100 = true := by kernel_rfl
theorem ok101 (l : List (Nat × List Int × Int)) : checkEnt (Xs (X1 l) 1000000 es101) 1000000 ent101 = true := by kernel_rfl
theorem ok102 (l : List (Nat × List Int × Int)) : checkEnt (Xs (X1 l) 1000000 es102) 1000000 ent102 = true := by kernel_rfl
theorem ok103 (l : List (Nat × List Int × Int)) : checkEnt (Xs (X1 l) 1000000 es103) 1000000 ent103 = true := by kernel_rfl
theorem ok104 (l : List (Nat × List Int × Int)) : checkEnt (Xs (X1 l) 1000000 es104) 1000000 ent104 = true := by kernel_rfl
theorem ok105 (l : List (Nat × List Int × Int)) : checkEnt (Xs (X1 l) 1000000 es105) 1000000 ent105 = true := by kernel_rfl
theorem ok106 (l : List (Nat × List Int × Int)) : checkEnt (Xs (X1 l) 1000000 es106) 1000000 ent106 = true := by kernel_rfl
theorem ok107 (l : List (Nat × List Int × Int)) : checkEnt (Xs (X1 l) 1000000 es107) 1000000 ent107 = true := by kernel_rfl
theorem ok108 (l : List (Nat × List Int × Int)) : checkEnt (Xs (X1 l) 1000000 es108) 1000000 ent108 = true := by kernel_rfl
theorem ok109 (l : List (Nat × List Int × Int)) : checkEnt (Xs (X1 l) 1000000 es109) 1000000 ent109 = true := by kernel_rfl
theorem ok110 (l : List (Nat × List Int × Int)) : checkEnt (Xs (X1 l) 1000000 es110) 1000000 ent110 = true := by kernel_rfl
theorem ok111 (l : List (Nat × List Int × Int)) : checkEnt (Xs (X1 l) 1000000 es111) 1000000 ent111 = true := by kernel_rfl
end Go.Proofs.Ytedgooajlaeclaa.cKinFinds
