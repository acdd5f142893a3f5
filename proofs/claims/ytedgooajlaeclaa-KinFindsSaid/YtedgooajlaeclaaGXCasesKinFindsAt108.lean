/- The machine says true of KinFinds in each of these cases. No condition. -/
import Derived.Test.YtedgooajlaeclaaGXEntsKinFinds
import Derived.KernelRfl
namespace Go.Proofs.Ytedgooajlaeclaa.cKinFinds
open GX
set_option maxRecDepth 1000000
theorem case7at3at3 : says2 es118 [(0, [0, 8], 7), (1, [0, 7], 3), (2, [0, 4], 3)] 3 [.sym .i64 0, .sym .i64 1, .sym .i64 2] = true := by kernel_rfl
theorem case7at3at4 : says2 es118 [(0, [0, 8], 7), (1, [0, 7], 3), (2, [0, 4], 4)] 3 [.sym .i64 0, .sym .i64 1, .sym .i64 2] = true := by kernel_rfl
theorem case7at4at0 : says2 es118 [(0, [0, 8], 7), (1, [0, 7], 4), (2, [0, 3], 0)] 3 [.sym .i64 0, .sym .i64 1, .sym .i64 2] = true := by kernel_rfl
theorem case7at4at1 : says2 es118 [(0, [0, 8], 7), (1, [0, 7], 4), (2, [0, 3], 1)] 3 [.sym .i64 0, .sym .i64 1, .sym .i64 2] = true := by kernel_rfl
theorem case7at4at2 : says2 es118 [(0, [0, 8], 7), (1, [0, 7], 4), (2, [0, 3], 2)] 3 [.sym .i64 0, .sym .i64 1, .sym .i64 2] = true := by kernel_rfl
theorem case7at4at3 : says2 es118 [(0, [0, 8], 7), (1, [0, 7], 4), (2, [0, 3], 3)] 3 [.sym .i64 0, .sym .i64 1, .sym .i64 2] = true := by kernel_rfl
theorem case7at5at0 : says2 es118 [(0, [0, 8], 7), (1, [0, 7], 5), (2, [0, 2], 0)] 3 [.sym .i64 0, .sym .i64 1, .sym .i64 2] = true := by kernel_rfl
theorem case7at5at1 : says2 es118 [(0, [0, 8], 7), (1, [0, 7], 5), (2, [0, 2], 1)] 3 [.sym .i64 0, .sym .i64 1, .sym .i64 2] = true := by kernel_rfl
theorem case7at5at2 : says2 es118 [(0, [0, 8], 7), (1, [0, 7], 5), (2, [0, 2], 2)] 3 [.sym .i64 0, .sym .i64 1, .sym .i64 2] = true := by kernel_rfl
theorem case7at6at0 : says2 es118 [(0, [0, 8], 7), (1, [0, 7], 6), (2, [0, 1], 0)] 3 [.sym .i64 0, .sym .i64 1, .sym .i64 2] = true := by kernel_rfl
theorem case7at6at1 : says2 es118 [(0, [0, 8], 7), (1, [0, 7], 6), (2, [0, 1], 1)] 3 [.sym .i64 0, .sym .i64 1, .sym .i64 2] = true := by kernel_rfl
theorem case7at7at0 : says2 es118 [(0, [0, 8], 7), (1, [0, 7], 7), (2, [0, 0], 0)] 3 [.sym .i64 0, .sym .i64 1, .sym .i64 2] = true := by kernel_rfl
end Go.Proofs.Ytedgooajlaeclaa.cKinFinds
