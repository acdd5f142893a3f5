/- The machine says true of KinFinds in each of these cases. No condition. -/
import Derived.Test.YtedgooajlaeclaaGXEntsKinFinds
import Derived.KernelRfl
namespace Go.Proofs.Ytedgooajlaeclaa.cKinFinds
open GX
set_option maxRecDepth 1000000
theorem case3at0at2 : says2 es118 [(0, [0, 8], 3), (1, [0, 3], 0), (2, [0, 3], 2)] 3 [.sym .i64 0, .sym .i64 1, .sym .i64 2] = true := by kernel_rfl
theorem case3at0at3 : says2 es118 [(0, [0, 8], 3), (1, [0, 3], 0), (2, [0, 3], 3)] 3 [.sym .i64 0, .sym .i64 1, .sym .i64 2] = true := by kernel_rfl
theorem case3at1at0 : says2 es118 [(0, [0, 8], 3), (1, [0, 3], 1), (2, [0, 2], 0)] 3 [.sym .i64 0, .sym .i64 1, .sym .i64 2] = true := by kernel_rfl
theorem case3at1at1 : says2 es118 [(0, [0, 8], 3), (1, [0, 3], 1), (2, [0, 2], 1)] 3 [.sym .i64 0, .sym .i64 1, .sym .i64 2] = true := by kernel_rfl
theorem case3at1at2 : says2 es118 [(0, [0, 8], 3), (1, [0, 3], 1), (2, [0, 2], 2)] 3 [.sym .i64 0, .sym .i64 1, .sym .i64 2] = true := by kernel_rfl
theorem case3at2at0 : says2 es118 [(0, [0, 8], 3), (1, [0, 3], 2), (2, [0, 1], 0)] 3 [.sym .i64 0, .sym .i64 1, .sym .i64 2] = true := by kernel_rfl
theorem case3at2at1 : says2 es118 [(0, [0, 8], 3), (1, [0, 3], 2), (2, [0, 1], 1)] 3 [.sym .i64 0, .sym .i64 1, .sym .i64 2] = true := by kernel_rfl
theorem case3at3at0 : says2 es118 [(0, [0, 8], 3), (1, [0, 3], 3), (2, [0, 0], 0)] 3 [.sym .i64 0, .sym .i64 1, .sym .i64 2] = true := by kernel_rfl
theorem case4at0at0 : says2 es118 [(0, [0, 8], 4), (1, [0, 4], 0), (2, [0, 4], 0)] 3 [.sym .i64 0, .sym .i64 1, .sym .i64 2] = true := by kernel_rfl
theorem case4at0at1 : says2 es118 [(0, [0, 8], 4), (1, [0, 4], 0), (2, [0, 4], 1)] 3 [.sym .i64 0, .sym .i64 1, .sym .i64 2] = true := by kernel_rfl
theorem case4at0at2 : says2 es118 [(0, [0, 8], 4), (1, [0, 4], 0), (2, [0, 4], 2)] 3 [.sym .i64 0, .sym .i64 1, .sym .i64 2] = true := by kernel_rfl
theorem case4at0at3 : says2 es118 [(0, [0, 8], 4), (1, [0, 4], 0), (2, [0, 4], 3)] 3 [.sym .i64 0, .sym .i64 1, .sym .i64 2] = true := by kernel_rfl
end Go.Proofs.Ytedgooajlaeclaa.cKinFinds
