/- The machine says true of KinFinds in each of these cases. No condition. -/
import Derived.Test.YtedgooajlaeclaaGXEntsKinFinds
import Derived.KernelRfl
namespace Go.Proofs.Ytedgooajlaeclaa.cKinFinds
open GX
set_option maxRecDepth 1000000
theorem case5at2at2 : says2 es118 [(0, [0, 8], 5), (1, [0, 5], 2), (2, [0, 3], 2)] 3 [.sym .i64 0, .sym .i64 1, .sym .i64 2] = true := by kernel_rfl
theorem case5at2at3 : says2 es118 [(0, [0, 8], 5), (1, [0, 5], 2), (2, [0, 3], 3)] 3 [.sym .i64 0, .sym .i64 1, .sym .i64 2] = true := by kernel_rfl
theorem case5at3at0 : says2 es118 [(0, [0, 8], 5), (1, [0, 5], 3), (2, [0, 2], 0)] 3 [.sym .i64 0, .sym .i64 1, .sym .i64 2] = true := by kernel_rfl
theorem case5at3at1 : says2 es118 [(0, [0, 8], 5), (1, [0, 5], 3), (2, [0, 2], 1)] 3 [.sym .i64 0, .sym .i64 1, .sym .i64 2] = true := by kernel_rfl
theorem case5at3at2 : says2 es118 [(0, [0, 8], 5), (1, [0, 5], 3), (2, [0, 2], 2)] 3 [.sym .i64 0, .sym .i64 1, .sym .i64 2] = true := by kernel_rfl
theorem case5at4at0 : says2 es118 [(0, [0, 8], 5), (1, [0, 5], 4), (2, [0, 1], 0)] 3 [.sym .i64 0, .sym .i64 1, .sym .i64 2] = true := by kernel_rfl
theorem case5at4at1 : says2 es118 [(0, [0, 8], 5), (1, [0, 5], 4), (2, [0, 1], 1)] 3 [.sym .i64 0, .sym .i64 1, .sym .i64 2] = true := by kernel_rfl
theorem case5at5at0 : says2 es118 [(0, [0, 8], 5), (1, [0, 5], 5), (2, [0, 0], 0)] 3 [.sym .i64 0, .sym .i64 1, .sym .i64 2] = true := by kernel_rfl
theorem case6at0at0 : says2 es118 [(0, [0, 8], 6), (1, [0, 6], 0), (2, [0, 6], 0)] 3 [.sym .i64 0, .sym .i64 1, .sym .i64 2] = true := by kernel_rfl
theorem case6at0at1 : says2 es118 [(0, [0, 8], 6), (1, [0, 6], 0), (2, [0, 6], 1)] 3 [.sym .i64 0, .sym .i64 1, .sym .i64 2] = true := by kernel_rfl
theorem case6at0at2 : says2 es118 [(0, [0, 8], 6), (1, [0, 6], 0), (2, [0, 6], 2)] 3 [.sym .i64 0, .sym .i64 1, .sym .i64 2] = true := by kernel_rfl
theorem case6at0at3 : says2 es118 [(0, [0, 8], 6), (1, [0, 6], 0), (2, [0, 6], 3)] 3 [.sym .i64 0, .sym .i64 1, .sym .i64 2] = true := by kernel_rfl
end Go.Proofs.Ytedgooajlaeclaa.cKinFinds
