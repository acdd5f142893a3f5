/- The machine says true of KinFinds in each of these cases. No condition. -/
import Derived.Test.YtedgooajlaeclaaGXEntsKinFinds
import Derived.KernelRfl
namespace Go.Proofs.Ytedgooajlaeclaa.cKinFinds
open GX
set_option maxRecDepth 1000000
theorem case7at1at4 : says2 es118 [(0, [0, 8], 7), (1, [0, 7], 1), (2, [0, 6], 4)] 3 [.sym .i64 0, .sym .i64 1, .sym .i64 2] = true := by kernel_rfl
theorem case7at1at5 : says2 es118 [(0, [0, 8], 7), (1, [0, 7], 1), (2, [0, 6], 5)] 3 [.sym .i64 0, .sym .i64 1, .sym .i64 2] = true := by kernel_rfl
theorem case7at1at6 : says2 es118 [(0, [0, 8], 7), (1, [0, 7], 1), (2, [0, 6], 6)] 3 [.sym .i64 0, .sym .i64 1, .sym .i64 2] = true := by kernel_rfl
theorem case7at2at0 : says2 es118 [(0, [0, 8], 7), (1, [0, 7], 2), (2, [0, 5], 0)] 3 [.sym .i64 0, .sym .i64 1, .sym .i64 2] = true := by kernel_rfl
theorem case7at2at1 : says2 es118 [(0, [0, 8], 7), (1, [0, 7], 2), (2, [0, 5], 1)] 3 [.sym .i64 0, .sym .i64 1, .sym .i64 2] = true := by kernel_rfl
theorem case7at2at2 : says2 es118 [(0, [0, 8], 7), (1, [0, 7], 2), (2, [0, 5], 2)] 3 [.sym .i64 0, .sym .i64 1, .sym .i64 2] = true := by kernel_rfl
theorem case7at2at3 : says2 es118 [(0, [0, 8], 7), (1, [0, 7], 2), (2, [0, 5], 3)] 3 [.sym .i64 0, .sym .i64 1, .sym .i64 2] = true := by kernel_rfl
theorem case7at2at4 : says2 es118 [(0, [0, 8], 7), (1, [0, 7], 2), (2, [0, 5], 4)] 3 [.sym .i64 0, .sym .i64 1, .sym .i64 2] = true := by kernel_rfl
theorem case7at2at5 : says2 es118 [(0, [0, 8], 7), (1, [0, 7], 2), (2, [0, 5], 5)] 3 [.sym .i64 0, .sym .i64 1, .sym .i64 2] = true := by kernel_rfl
theorem case7at3at0 : says2 es118 [(0, [0, 8], 7), (1, [0, 7], 3), (2, [0, 4], 0)] 3 [.sym .i64 0, .sym .i64 1, .sym .i64 2] = true := by kernel_rfl
theorem case7at3at1 : says2 es118 [(0, [0, 8], 7), (1, [0, 7], 3), (2, [0, 4], 1)] 3 [.sym .i64 0, .sym .i64 1, .sym .i64 2] = true := by kernel_rfl
theorem case7at3at2 : says2 es118 [(0, [0, 8], 7), (1, [0, 7], 3), (2, [0, 4], 2)] 3 [.sym .i64 0, .sym .i64 1, .sym .i64 2] = true := by kernel_rfl
end Go.Proofs.Ytedgooajlaeclaa.cKinFinds
