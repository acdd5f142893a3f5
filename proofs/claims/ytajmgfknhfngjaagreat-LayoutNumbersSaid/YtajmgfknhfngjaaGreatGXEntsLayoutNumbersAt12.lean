/- The machine says of each entry what the entry says. No condition. -/
import Derived.Test.YtajmgfknhfngjaaGreatGXEntsLayoutNumbers
import Derived.KernelRfl
namespace Go.Proofs.YtajmgfknhfngjaaGreat.cLayoutNumbers
open GX
set_option maxRecDepth 1000000
theorem ok12 : checkEnt (Xs X0 1000000 es12) 1000000 ent12 = true := by kernel_rfl
theorem ok13 : checkEnt (Xs X0 1000000 es13) 1000000 ent13 = true := by kernel_rfl
theorem ok14 : checkEnt (Xs X0 1000000 es14) 1000000 ent14 = true := by kernel_rfl
theorem ok15 : checkEnt (Xs X0 1000000 es15) 1000000 ent15 = true := by kernel_rfl
end Go.Proofs.YtajmgfknhfngjaaGreat.cLayoutNumbers
