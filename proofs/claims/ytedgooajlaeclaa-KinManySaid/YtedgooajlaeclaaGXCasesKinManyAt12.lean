/- The machine says true of KinMany in each of these cases. No condition. -/
import Derived.Test.YtedgooajlaeclaaGXEntsKinMany
import Derived.KernelRfl
namespace Go.Proofs.Ytedgooajlaeclaa.cKinMany
open GX
set_option maxRecDepth 1000000
theorem case12 : says2 es58 [(0, [0, 30], 12)] 4 [.sym .i64 0] = true := by kernel_rfl
theorem case13 : says2 es58 [(0, [0, 30], 13)] 4 [.sym .i64 0] = true := by kernel_rfl
theorem case14 : says2 es58 [(0, [0, 30], 14)] 4 [.sym .i64 0] = true := by kernel_rfl
theorem case15 : says2 es58 [(0, [0, 30], 15)] 4 [.sym .i64 0] = true := by kernel_rfl
end Go.Proofs.Ytedgooajlaeclaa.cKinMany
