/- The machine says true of KinMany in each of these cases. No condition. -/
import Derived.Test.YtedgooajlaeclaaGXEntsKinMany
import Derived.KernelRfl
namespace Go.Proofs.Ytedgooajlaeclaa.cKinMany
open GX
set_option maxRecDepth 1000000
theorem case4 : says2 es58 [(0, [0, 30], 4)] 4 [.sym .i64 0] = true := by kernel_rfl
theorem case5 : says2 es58 [(0, [0, 30], 5)] 4 [.sym .i64 0] = true := by kernel_rfl
theorem case6 : says2 es58 [(0, [0, 30], 6)] 4 [.sym .i64 0] = true := by kernel_rfl
theorem case7 : says2 es58 [(0, [0, 30], 7)] 4 [.sym .i64 0] = true := by kernel_rfl
end Go.Proofs.Ytedgooajlaeclaa.cKinMany
