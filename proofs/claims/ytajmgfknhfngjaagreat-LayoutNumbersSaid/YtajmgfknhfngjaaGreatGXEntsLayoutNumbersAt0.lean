/- The machine says of each entry what the entry says. No condition. -/
import Derived.Test.YtajmgfknhfngjaaGreatGXEntsLayoutNumbers
import Derived.KernelRfl
namespace Go.Proofs.YtajmgfknhfngjaaGreat.cLayoutNumbers
open GX
set_option maxRecDepth 1000000
theorem ok0 : checkEnt (Xs X0 1000000 es0) 1000000 ent0 = true := by kernel_rfl
theorem ok1 : checkEnt (Xs X0 1000000 es1) 1000000 ent1 = true := by kernel_rfl
theorem ok2 : checkEnt (Xs X0 1000000 es2) 1000000 ent2 = true := by kernel_rfl
theorem ok3 : checkEnt (Xs X0 1000000 es3) 1000000 ent3 = true := by kernel_rfl
end Go.Proofs.YtajmgfknhfngjaaGreat.cLayoutNumbers
