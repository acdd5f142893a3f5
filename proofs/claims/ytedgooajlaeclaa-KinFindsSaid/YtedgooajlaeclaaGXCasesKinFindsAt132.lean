/- The machine says true of KinFinds in each of these cases. No condition. -/
import Derived.Test.YtedgooajlaeclaaGXEntsKinFinds
import Derived.KernelRfl
namespace Go.Proofs.Ytedgooajlaeclaa.cKinFinds
open GX
set_option maxRecDepth 1000000
theorem case8at1at3 : says2 es118 [(0, [0, 8], 8), (1, [0, 8], 1), (2, [0, 7], 3)] 3 [.sym .i64 0, .sym .i64 1, .sym .i64 2] = true := by kernel_rfl
theorem case8at1at4 : says2 es118 [(0, [0, 8], 8), (1, [0, 8], 1), (2, [0, 7], 4)] 3 [.sym .i64 0, .sym .i64 1, .sym .i64 2] = true := by kernel_rfl
theorem case8at1at5 : says2 es118 [(0, [0, 8], 8), (1, [0, 8], 1), (2, [0, 7], 5)] 3 [.sym .i64 0, .sym .i64 1, .sym .i64 2] = true := by kernel_rfl
theorem case8at1at6 : says2 es118 [(0, [0, 8], 8), (1, [0, 8], 1), (2, [0, 7], 6)] 3 [.sym .i64 0, .sym .i64 1, .sym .i64 2] = true := by kernel_rfl
theorem case8at1at7 : says2 es118 [(0, [0, 8], 8), (1, [0, 8], 1), (2, [0, 7], 7)] 3 [.sym .i64 0, .sym .i64 1, .sym .i64 2] = true := by kernel_rfl
theorem case8at2at0 : says2 es118 [(0, [0, 8], 8), (1, [0, 8], 2), (2, [0, 6], 0)] 3 [.sym .i64 0, .sym .i64 1, .sym .i64 2] = true := by kernel_rfl
theorem case8at2at1 : says2 es118 [(0, [0, 8], 8), (1, [0, 8], 2), (2, [0, 6], 1)] 3 [.sym .i64 0, .sym .i64 1, .sym .i64 2] = true := by kernel_rfl
theorem case8at2at2 : says2 es118 [(0, [0, 8], 8), (1, [0, 8], 2), (2, [0, 6], 2)] 3 [.sym .i64 0, .sym .i64 1, .sym .i64 2] = true := by kernel_rfl
theorem case8at2at3 : says2 es118 [(0, [0, 8], 8), (1, [0, 8], 2), (2, [0, 6], 3)] 3 [.sym .i64 0, .sym .i64 1, .sym .i64 2] = true := by kernel_rfl
theorem case8at2at4 : says2 es118 [(0, [0, 8], 8), (1, [0, 8], 2), (2, [0, 6], 4)] 3 [.sym .i64 0, .sym .i64 1, .sym .i64 2] = true := by kernel_rfl
theorem case8at2at5 : says2 es118 [(0, [0, 8], 8), (1, [0, 8], 2), (2, [0, 6], 5)] 3 [.sym .i64 0, .sym .i64 1, .sym .i64 2] = true := by kernel_rfl
theorem case8at2at6 : says2 es118 [(0, [0, 8], 8), (1, [0, 8], 2), (2, [0, 6], 6)] 3 [.sym .i64 0, .sym .i64 1, .sym .i64 2] = true := by kernel_rfl
end Go.Proofs.Ytedgooajlaeclaa.cKinFinds
