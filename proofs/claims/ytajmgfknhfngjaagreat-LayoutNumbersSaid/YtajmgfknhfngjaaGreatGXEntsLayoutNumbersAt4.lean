/- The machine says of each entry what the entry says. No condition. -/
import Derived.Test.YtajmgfknhfngjaaGreatGXEntsLayoutNumbers
import Derived.KernelRfl
namespace Go.Proofs.YtajmgfknhfngjaaGreat.cLayoutNumbers
open GX
set_option maxRecDepth 1000000
theorem ok4 : checkEnt (Xs X0 1000000 es4) 1000000 ent4 = true := by kernel_rfl
theorem ok5 : checkEnt (Xs X0 1000000 es5) 1000000 ent5 = true := by kernel_rfl
theorem ok6 : checkEnt (Xs X0 1000000 es6) 1000000 ent6 = true := by kernel_rfl
theorem ok7 : checkEnt (Xs X0 1000000 es7) 1000000 ent7 = true := by kernel_rfl
end Go.Proofs.YtajmgfknhfngjaaGreat.cLayoutNumbers
