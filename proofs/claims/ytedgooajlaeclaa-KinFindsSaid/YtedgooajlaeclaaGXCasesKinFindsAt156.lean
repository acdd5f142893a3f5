/- The machine says true of KinFinds in each of these cases. No condition. -/
import Derived.Test.YtedgooajlaeclaaGXEntsKinFinds
import Derived.KernelRfl
namespace Go.Proofs.Ytedgooajlaeclaa.cKinFinds
open GX
set_option maxRecDepth 1000000
theorem case8at5at1 : says2 es118 [(0, [0, 8], 8), (1, [0, 8], 5), (2, [0, 3], 1)] 3 [.sym .i64 0, .sym .i64 1, .sym .i64 2] = true := by kernel_rfl
theorem case8at5at2 : says2 es118 [(0, [0, 8], 8), (1, [0, 8], 5), (2, [0, 3], 2)] 3 [.sym .i64 0, .sym .i64 1, .sym .i64 2] = true := by kernel_rfl
theorem case8at5at3 : says2 es118 [(0, [0, 8], 8), (1, [0, 8], 5), (2, [0, 3], 3)] 3 [.sym .i64 0, .sym .i64 1, .sym .i64 2] = true := by kernel_rfl
theorem case8at6at0 : says2 es118 [(0, [0, 8], 8), (1, [0, 8], 6), (2, [0, 2], 0)] 3 [.sym .i64 0, .sym .i64 1, .sym .i64 2] = true := by kernel_rfl
theorem case8at6at1 : says2 es118 [(0, [0, 8], 8), (1, [0, 8], 6), (2, [0, 2], 1)] 3 [.sym .i64 0, .sym .i64 1, .sym .i64 2] = true := by kernel_rfl
theorem case8at6at2 : says2 es118 [(0, [0, 8], 8), (1, [0, 8], 6), (2, [0, 2], 2)] 3 [.sym .i64 0, .sym .i64 1, .sym .i64 2] = true := by kernel_rfl
theorem case8at7at0 : says2 es118 [(0, [0, 8], 8), (1, [0, 8], 7), (2, [0, 1], 0)] 3 [.sym .i64 0, .sym .i64 1, .sym .i64 2] = true := by kernel_rfl
theorem case8at7at1 : says2 es118 [(0, [0, 8], 8), (1, [0, 8], 7), (2, [0, 1], 1)] 3 [.sym .i64 0, .sym .i64 1, .sym .i64 2] = true := by kernel_rfl
theorem case8at8at0 : says2 es118 [(0, [0, 8], 8), (1, [0, 8], 8), (2, [0, 0], 0)] 3 [.sym .i64 0, .sym .i64 1, .sym .i64 2] = true := by kernel_rfl
end Go.Proofs.Ytedgooajlaeclaa.cKinFinds
