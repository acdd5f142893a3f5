/- The machine says true of KinMany in each of these cases. No condition. -/
import Derived.Test.YtedgooajlaeclaaGXEntsKinMany
import Derived.KernelRfl
namespace Go.Proofs.Ytedgooajlaeclaa.cKinMany
open GX
set_option maxRecDepth 1000000
theorem case8 : says2 es58 [(0, [0, 30], 8)] 4 [.sym .i64 0] = true := by kernel_rfl
theorem case9 : says2 es58 [(0, [0, 30], 9)] 4 [.sym .i64 0] = true := by kernel_rfl
theorem case10 : says2 es58 [(0, [0, 30], 10)] 4 [.sym .i64 0] = true := by kernel_rfl
theorem case11 : says2 es58 [(0, [0, 30], 11)] 4 [.sym .i64 0] = true := by kernel_rfl
end Go.Proofs.Ytedgooajlaeclaa.cKinMany
