/- The machine says true of KinMany in each of these cases. No condition. -/
import Derived.Test.YtedgooajlaeclaaGXEntsKinMany
import Derived.KernelRfl
namespace Go.Proofs.Ytedgooajlaeclaa.cKinMany
open GX
set_option maxRecDepth 1000000
theorem case24 : says2 es58 [(0, [0, 30], 24)] 4 [.sym .i64 0] = true := by kernel_rfl
theorem case25 : says2 es58 [(0, [0, 30], 25)] 4 [.sym .i64 0] = true := by kernel_rfl
theorem case26 : says2 es58 [(0, [0, 30], 26)] 4 [.sym .i64 0] = true := by kernel_rfl
theorem case27 : says2 es58 [(0, [0, 30], 27)] 4 [.sym .i64 0] = true := by kernel_rfl
end Go.Proofs.Ytedgooajlaeclaa.cKinMany
