/- The machine says of each entry what the entry says. No condition. -/
import Derived.Test.YtajmgfknhfngjaaGreatGXEntsLayoutNumbers
import Derived.KernelRfl
namespace Go.Proofs.YtajmgfknhfngjaaGreat.cLayoutNumbers
open GX
set_option maxRecDepth 1000000
theorem ok24 : checkEnt (Xs X0 1000000 es24) 1000000 ent24 = true := by kernel_rfl
theorem ok25 : checkEnt (Xs X0 1000000 es25) 1000000 ent25 = true := by kernel_rfl
theorem ok26 : checkEnt (Xs X0 1000000 es26) 1000000 ent26 = true := by kernel_rfl
theorem ok27 : checkEnt (Xs X0 1000000 es27) 1000000 ent27 = true := by kernel_rfl
end Go.Proofs.YtajmgfknhfngjaaGreat.cLayoutNumbers
