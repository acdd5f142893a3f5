/- The machine says of each entry what the entry says. No condition. -/
import Derived.Test.YtedgooajlaeclaaGXEntsKinFinds
import Derived.KernelRfl
namespace Go.Proofs.Ytedgooajlaeclaa.cKinFinds
open GX
set_option maxRecDepth 1000000
theorem ok80 (l : List (Nat × List Int × Int)) : checkEnt (Xs (X1 l) 1000000 es80) 1000000 ent80 = true := by kernel_rfl
theorem ok81 (l : List (Nat × List Int × Int)) : checkEnt (Xs (X1 l) 1000000 es81) 1000000 ent81 = true := by kernel_rfl
theorem ok82 (l : List (Nat × List Int × Int)) : checkEnt (Xs (X1 l) 1000000 es82) 1000000 ent82 = true := by kernel_rfl
theorem ok83 (l : List (Nat × List Int × Int)) : checkEnt (Xs (X1 l) 1000000 es83) 1000000 ent83 = true := by kernel_rfl
theorem ok84 (l : List (Nat × List Int × Int)) : checkEnt (Xs (X1 l) 1000000 es84) 1000000 ent84 = true := by kernel_rfl
theorem ok85 (l : List (Nat × List Int × Int)) : checkEnt (Xs (X1 l) 1000000 es85) 1000000 ent85 = true := by kernel_rfl
theorem ok86 (l : List (Nat × List Int × Int)) : checkEnt (Xs (X1 l) 1000000 es86) 1000000 ent86 = true := by kernel_rfl
theorem ok87 (l : List (Nat × List Int × Int)) : checkEnt (Xs (X1 l) 1000000 es87) 1000000 ent87 = true := by kernel_rfl
theorem ok88 (l : List (Nat × List Int × Int)) : checkEnt (Xs (X1 l) 1000000 es88) 1000000 ent88 = true := by kernel_rfl
theorem ok89 (l : List (Nat × List Int × Int)) : checkEnt (Xs (X1 l) 1000000 es89) 1000000 ent89 = true := by kernel_rfl
theorem ok90 (l : List (Nat × List Int × Int)) : checkEnt (Xs (X1 l) 1000000 es90) 1000000 ent90 = true := by kernel_rfl
theorem ok91 (l : List (Nat × List Int × Int)) : checkEnt (Xs (X1 l) 1000000 es91) 1000000 ent91 = true := by kernel_rfl
theorem ok92 (l : List (Nat × List Int × Int)) : checkEnt (Xs (X1 l) 1000000 es92) 1000000 ent92 = true := by kernel_rfl
theorem ok93 (l : List (Nat × List Int × Int)) : checkEnt (Xs (X1 l) 1000000 es93) 1000000 ent93 = true := by kernel_rfl
theorem ok94 (l : List (Nat × List Int × Int)) : checkEnt (Xs (X1 l) 1000000 es94) 1000000 ent94 = true := by kernel_rfl
theorem ok95 (l : List (Nat × List Int × Int)) : checkEnt (Xs (X1 l) 1000000 es95) 1000000 ent95 = true := by kernel_rfl
end Go.Proofs.Ytedgooajlaeclaa.cKinFinds
