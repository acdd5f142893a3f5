/- The machine says true of KinMany in each of these cases. No condition. -/
import Derived.Test.YtedgooajlaeclaaGXEntsKinMany
import Derived.KernelRfl
namespace Go.Proofs.Ytedgooajlaeclaa.cKinMany
open GX
set_option maxRecDepth 1000000
theorem case28 : says2 es58 [(0, [0, 30], 28)] 4 [.sym .i64 0] = true := by kernel_rfl
theorem case29 : says2 es58 [(0, [0, 30], 29)] 4 [.sym .i64 0] = true := by kernel_rfl
theorem case30 : says2 es58 [(0, [0, 30], 30)] 4 [.sym .i64 0] = true := by kernel_rfl
end Go.Proofs.Ytedgooajlaeclaa.cKinMany
