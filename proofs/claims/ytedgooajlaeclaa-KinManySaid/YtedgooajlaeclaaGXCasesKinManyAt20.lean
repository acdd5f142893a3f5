/- The machine says true of KinMany in each of these cases. No condition. -/
import Derived.Test.YtedgooajlaeclaaGXEntsKinMany
import Derived.KernelRfl
namespace Go.Proofs.Ytedgooajlaeclaa.cKinMany
open GX
set_option maxRecDepth 1000000
theorem case20 : says2 es58 [(0, [0, 30], 20)] 4 [.sym .i64 0] = true := by kernel_rfl
theorem case21 : says2 es58 [(0, [0, 30], 21)] 4 [.sym .i64 0] = true := by kernel_rfl
theorem case22 : says2 es58 [(0, [0, 30], 22)] 4 [.sym .i64 0] = true := by kernel_rfl
theorem case23 : says2 es58 [(0, [0, 30], 23)] 4 [.sym .i64 0] = true := by kernel_rfl
end Go.Proofs.Ytedgooajlaeclaa.cKinMany
