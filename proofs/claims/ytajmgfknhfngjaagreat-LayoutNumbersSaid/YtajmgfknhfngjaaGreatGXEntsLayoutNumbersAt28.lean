/- The machine says of each entry what the entry says. No condition. -/
import Derived.Test.YtajmgfknhfngjaaGreatGXEntsLayoutNumbers
import Derived.KernelRfl
namespace Go.Proofs.YtajmgfknhfngjaaGreat.cLayoutNumbers
open GX
set_option maxRecDepth 1000000
theorem ok28 : checkEnt (Xs X0 1000000 es28) 1000000 ent28 = true := by kernel_rfl
theorem ok29 : checkEnt (Xs X0 1000000 es29) 1000000 ent29 = true := by kernel_rfl
theorem ok30 : checkEnt (Xs X0 1000000 es30) 1000000 ent30 = true := by kernel_rfl
theorem ok31 : checkEnt (Xs X0 1000000 es31) 1000000 ent31 = true := by kernel_rfl
end Go.Proofs.YtajmgfknhfngjaaGreat.cLayoutNumbers
