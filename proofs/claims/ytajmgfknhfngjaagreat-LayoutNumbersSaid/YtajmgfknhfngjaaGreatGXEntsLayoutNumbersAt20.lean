/- The machine says of each entry what the entry says. No condition. -/
import Derived.Test.YtajmgfknhfngjaaGreatGXEntsLayoutNumbers
import Derived.KernelRfl
namespace Go.Proofs.YtajmgfknhfngjaaGreat.cLayoutNumbers
open GX
set_option maxRecDepth 1000000
theorem ok20 : checkEnt (Xs X0 1000000 es20) 1000000 ent20 = true := by kernel_rfl
theorem ok21 : checkEnt (Xs X0 1000000 es21) 1000000 ent21 = true := by kernel_rfl
theorem ok22 : checkEnt (Xs X0 1000000 es22) 1000000 ent22 = true := by kernel_rfl
theorem ok23 : checkEnt (Xs X0 1000000 es23) 1000000 ent23 = true := by kernel_rfl
end Go.Proofs.YtajmgfknhfngjaaGreat.cLayoutNumbers
