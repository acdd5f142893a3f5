/- The machine says of each entry what the entry says. No condition. -/
import Derived.Test.YtajmgfknhfngjaaGreatGXEntsLayoutNumbers
import Derived.KernelRfl
namespace Go.Proofs.YtajmgfknhfngjaaGreat.cLayoutNumbers
open GX
set_option maxRecDepth 1000000
theorem ok8 : checkEnt (Xs X0 1000000 es8) 1000000 ent8 = true := by kernel_rfl
theorem ok9 : checkEnt (Xs X0 1000000 es9) 1000000 ent9 = true := by kernel_rfl
theorem ok10 : checkEnt (Xs X0 1000000 es10) 1000000 ent10 = true := by kernel_rfl
theorem ok11 : checkEnt (Xs X0 1000000 es11) 1000000 ent11 = true := by kernel_rfl
end Go.Proofs.YtajmgfknhfngjaaGreat.cLayoutNumbers
