/- The machine says true of KinMany in each of these cases. No condition. -/
import Derived.Test.YtedgooajlaeclaaGXEntsKinMany
import Derived.KernelRfl
namespace Go.Proofs.Ytedgooajlaeclaa.cKinMany
open GX
set_option maxRecDepth 1000000
theorem case16 : says2 es58 [(0, [0, 30], 16)] 4 [.sym .i64 0] = true := by kernel_rfl
theorem case17 : says2 es58 [(0, [0, 30], 17)] 4 [.sym .i64 0] = true := by kernel_rfl
theorem case18 : says2 es58 [(0, [0, 30], 18)] 4 [.sym .i64 0] = true := by kernel_rfl
theorem case19 : says2 es58 [(0, [0, 30], 19)] 4 [.sym .i64 0] = true := by kernel_rfl
end Go.Proofs.Ytedgooajlaeclaa.cKinMany
