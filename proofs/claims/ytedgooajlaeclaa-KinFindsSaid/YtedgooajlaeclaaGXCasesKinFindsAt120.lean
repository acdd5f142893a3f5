/- The machine says true of KinFinds in each of these cases. No condition. -/
import Derived.Test.YtedgooajlaeclaaGXEntsKinFinds
import Derived.KernelRfl
namespace Go.Proofs.Ytedgooajlaeclaa.cKinFinds
open GX
set_option maxRecDepth 1000000
theorem case8at0at0 : says2 es118 [(0, [0, 8], 8), (1, [0, 8], 0), (2, [0, 8], 0)] 3 [.sym .i64 0, .sym .i64 1, .sym .i64 2] = true := by kernel_rfl
theorem case8at0at1 : says2 es118 [(0, [0, 8], 8), (1, [0, 8], 0), (2, [0, 8], 1)] 3 [.sym .i64 0, .sym .i64 1, .sym .i64 2] = true := by kernel_rfl
theorem case8at0at2 : says2 es118 [(0, [0, 8], 8), (1, [0, 8], 0), (2, [0, 8], 2)] 3 [.sym .i64 0, .sym .i64 1, .sym .i64 2] = true := by kernel_rfl
theorem case8at0at3 : says2 es118 [(0, [0, 8], 8), (1, [0, 8], 0), (2, [0, 8], 3)] 3 [.sym .i64 0, .sym .i64 1, .sym .i64 2] = true := by kernel_rfl
theorem case8at0at4 : says2 es118 [(0, [0, 8], 8), (1, [0, 8], 0), (2, [0, 8], 4)] 3 [.sym .i64 0, .sym .i64 1, .sym .i64 2] = true := by kernel_rfl
theorem case8at0at5 : says2 es118 [(0, [0, 8], 8), (1, [0, 8], 0), (2, [0, 8], 5)] 3 [.sym .i64 0, .sym .i64 1, .sym .i64 2] = true := by kernel_rfl
theorem case8at0at6 : says2 es118 [(0, [0, 8], 8), (1, [0, 8], 0), (2, [0, 8], 6)] 3 [.sym .i64 0, .sym .i64 1, .sym .i64 2] = true := by kernel_rfl
theorem case8at0at7 : says2 es118 [(0, [0, 8], 8), (1, [0, 8], 0), (2, [0, 8], 7)] 3 [.sym .i64 0, .sym .i64 1, .sym .i64 2] = true := by kernel_rfl
theorem case8at0at8 : says2 es118 [(0, [0, 8], 8), (1, [0, 8], 0), (2, [0, 8], 8)] 3 [.sym .i64 0, .sym .i64 1, .sym .i64 2] = true := by kernel_rfl
theorem case8at1at0 : says2 es118 [(0, [0, 8], 8), (1, [0, 8], 1), (2, [0, 7], 0)] 3 [.sym .i64 0, .sym .i64 1, .sym .i64 2] = true := by kernel_rfl
theorem case8at1at1 : says2 es118 [(0, [0, 8], 8), (1, [0, 8], 1), (2, [0, 7], 1)] 3 [.sym .i64 0, .sym .i64 1, .sym .i64 2] = true := by kernel_rfl
theorem case8at1at2 : says2 es118 [(0, [0, 8], 8), (1, [0, 8], 1), (2, [0, 7], 2)] 3 [.sym .i64 0, .sym .i64 1, .sym .i64 2] = true := by kernel_rfl
end Go.Proofs.Ytedgooajlaeclaa.cKinFinds
