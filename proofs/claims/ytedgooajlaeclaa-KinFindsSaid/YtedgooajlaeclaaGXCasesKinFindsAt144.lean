/- The machine says true of KinFinds in each of these cases. No condition. -/
import Derived.Test.YtedgooajlaeclaaGXEntsKinFinds
import Derived.KernelRfl
namespace Go.Proofs.Ytedgooajlaeclaa.cKinFinds
open GX
set_option maxRecDepth 1000000
theorem case8at3at0 : says2 es118 [(0, [0, 8], 8), (1, [0, 8], 3), (2, [0, 5], 0)] 3 [.sym .i64 0, .sym .i64 1, .sym .i64 2] = true := by kernel_rfl
theorem case8at3at1 : says2 es118 [(0, [0, 8], 8), (1, [0, 8], 3), (2, [0, 5], 1)] 3 [.sym .i64 0, .sym .i64 1, .sym .i64 2] = true := by kernel_rfl
theorem case8at3at2 : says2 es118 [(0, [0, 8], 8), (1, [0, 8], 3), (2, [0, 5], 2)] 3 [.sym .i64 0, .sym .i64 1, .sym .i64 2] = true := by kernel_rfl
theorem case8at3at3 : says2 es118 [(0, [0, 8], 8), (1, [0, 8], 3), (2, [0, 5], 3)] 3 [.sym .i64 0, .sym .i64 1, .sym .i64 2] = true := by kernel_rfl
theorem case8at3at4 : says2 es118 [(0, [0, 8], 8), (1, [0, 8], 3), (2, [0, 5], 4)] 3 [.sym .i64 0, .sym .i64 1, .sym .i64 2] = true := by kernel_rfl
theorem case8at3at5 : says2 es118 [(0, [0, 8], 8), (1, [0, 8], 3), (2, [0, 5], 5)] 3 [.sym .i64 0, .sym .i64 1, .sym .i64 2] = true := by kernel_rfl
theorem case8at4at0 : says2 es118 [(0, [0, 8], 8), (1, [0, 8], 4), (2, [0, 4], 0)] 3 [.sym .i64 0, .sym .i64 1, .sym .i64 2] = true := by kernel_rfl
theorem case8at4at1 : says2 es118 [(0, [0, 8], 8), (1, [0, 8], 4), (2, [0, 4], 1)] 3 [.sym .i64 0, .sym .i64 1, .sym .i64 2] = true := by kernel_rfl
theorem case8at4at2 : says2 es118 [(0, [0, 8], 8), (1, [0, 8], 4), (2, [0, 4], 2)] 3 [.sym .i64 0, .sym .i64 1, .sym .i64 2] = true := by kernel_rfl
theorem case8at4at3 : says2 es118 [(0, [0, 8], 8), (1, [0, 8], 4), (2, [0, 4], 3)] 3 [.sym .i64 0, .sym .i64 1, .sym .i64 2] = true := by kernel_rfl
theorem case8at4at4 : says2 es118 [(0, [0, 8], 8), (1, [0, 8], 4), (2, [0, 4], 4)] 3 [.sym .i64 0, .sym .i64 1, .sym .i64 2] = true := by kernel_rfl
theorem case8at5at0 : says2 es118 [(0, [0, 8], 8), (1, [0, 8], 5), (2, [0, 3], 0)] 3 [.sym .i64 0, .sym .i64 1, .sym .i64 2] = true := by kernel_rfl
end Go.Proofs.Ytedgooajlaeclaa.cKinFinds
