/- The machine says of each entry what the entry says. No condition. -/
import Derived.Test.YtajmgfknhfngjaaGreatGXEntsLayoutNumbers
import Derived.KernelRfl
namespace Go.Proofs.YtajmgfknhfngjaaGreat.cLayoutNumbers
open GX
set_option maxRecDepth 1000000
theorem ok16 : checkEnt (Xs X0 1000000 es16) 1000000 ent16 = true := by kernel_rfl
theorem ok17 : checkEnt (Xs X0 1000000 es17) 1000000 ent17 = true := by kernel_rfl
theorem ok18 : checkEnt (Xs X0 1000000 es18) 1000000 ent18 = true := by kernel_rfl
theorem ok19 : checkEnt (Xs X0 1000000 es19) 1000000 ent19 = true := by kernel_rfl
end Go.Proofs.YtajmgfknhfngjaaGreat.cLayoutNumbers
