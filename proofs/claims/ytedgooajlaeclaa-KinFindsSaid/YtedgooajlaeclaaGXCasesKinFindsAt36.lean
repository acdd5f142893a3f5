/- The machine says true of KinFinds in each of these cases. No condition. -/
import Derived.Test.YtedgooajlaeclaaGXEntsKinFinds
import Derived.KernelRfl
namespace Go.Proofs.Ytedgooajlaeclaa.cKinFinds
open GX
set_option maxRecDepth 1000000
theorem case5at0at1 : says2 es118 [(0, [0, 8], 5), (1, [0, 5], 0), (2, [0, 5], 1)] 3 [.sym .i64 0, .sym .i64 1, .sym .i64 2] = true := by kernel_rfl
theorem case5at0at2 : says2 es118 [(0, [0, 8], 5), (1, [0, 5], 0), (2, [0, 5], 2)] 3 [.sym .i64 0, .sym .i64 1, .sym .i64 2] = true := by kernel_rfl
theorem case5at0at3 : says2 es118 [(0, [0, 8], 5), (1, [0, 5], 0), (2, [0, 5], 3)] 3 [.sym .i64 0, .sym .i64 1, .sym .i64 2] = true := by kernel_rfl
theorem case5at0at4 : says2 es118 [(0, [0, 8], 5), (1, [0, 5], 0), (2, [0, 5], 4)] 3 [.sym .i64 0, .sym .i64 1, .sym .i64 2] = true := by kernel_rfl
theorem case5at0at5 : says2 es118 [(0, [0, 8], 5), (1, [0, 5], 0), (2, [0, 5], 5)] 3 [.sym .i64 0, .sym .i64 1, .sym .i64 2] = true := by kernel_rfl
theorem case5at1at0 : says2 es118 [(0, [0, 8], 5), (1, [0, 5], 1), (2, [0, 4], 0)] 3 [.sym .i64 0, .sym .i64 1, .sym .i64 2] = true := by kernel_rfl
theorem case5at1at1 : says2 es118 [(0, [0, 8], 5), (1, [0, 5], 1), (2, [0, 4], 1)] 3 [.sym .i64 0, .sym .i64 1, .sym .i64 2] = true := by kernel_rfl
theorem case5at1at2 : says2 es118 [(0, [0, 8], 5), (1, [0, 5], 1), (2, [0, 4], 2)] 3 [.sym .i64 0, .sym .i64 1, .sym .i64 2] = true := by kernel_rfl
theorem case5at1at3 : says2 es118 [(0, [0, 8], 5), (1, [0, 5], 1), (2, [0, 4], 3)] 3 [.sym .i64 0, .sym .i64 1, .sym .i64 2] = true := by kernel_rfl
theorem case5at1at4 : says2 es118 [(0, [0, 8], 5), (1, [0, 5], 1), (2, [0, 4], 4)] 3 [.sym .i64 0, .sym .i64 1, .sym .i64 2] = true := by kernel_rfl
theorem case5at2at0 : says2 es118 [(0, [0, 8], 5), (1, [0, 5], 2), (2, [0, 3], 0)] 3 [.sym .i64 0, .sym .i64 1, .sym .i64 2] = true := by kernel_rfl
theorem case5at2at1 : says2 es118 [(0, [0, 8], 5), (1, [0, 5], 2), (2, [0, 3], 1)] 3 [.sym .i64 0, .sym .i64 1, .sym .i64 2] = true := by kernel_rfl
end Go.Proofs.Ytedgooajlaeclaa.cKinFinds
