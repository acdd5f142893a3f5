/- The machine says true of KinMany in each of these cases. No condition. -/
import Derived.Test.YtedgooajlaeclaaGXEntsKinMany
import Derived.KernelRfl
namespace Go.Proofs.Ytedgooajlaeclaa.cKinMany
open GX
set_option maxRecDepth 1000000
theorem case0 : says2 es58 [(0, [0, 30], 0)] 4 [.sym .i64 0] = true := by kernel_rfl
theorem case1 : says2 es58 [(0, [0, 30], 1)] 4 [.sym .i64 0] = true := by kernel_rfl
theorem case2 : says2 es58 [(0, [0, 30], 2)] 4 [.sym .i64 0] = true := by kernel_rfl
theorem case3 : says2 es58 [(0, [0, 30], 3)] 4 [.sym .i64 0] = true := by kernel_rfl
end Go.Proofs.Ytedgooajlaeclaa.cKinMany
