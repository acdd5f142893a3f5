/- The machine says true of KinFinds in each of these cases. No condition. -/
import Derived.Test.YtedgooajlaeclaaGXEntsKinFinds
import Derived.KernelRfl
namespace Go.Proofs.Ytedgooajlaeclaa.cKinFinds
open GX
set_option maxRecDepth 1000000
theorem case7at0at0 : says2 es118 [(0, [0, 8], 7), (1, [0, 7], 0), (2, [0, 7], 0)] 3 [.sym .i64 0, .sym .i64 1, .sym .i64 2] = true := by kernel_rfl
theorem case7at0at1 : says2 es118 [(0, [0, 8], 7), (1, [0, 7], 0), (2, [0, 7], 1)] 3 [.sym .i64 0, .sym .i64 1, .sym .i64 2] = true := by kernel_rfl
theorem case7at0at2 : says2 es118 [(0, [0, 8], 7), (1, [0, 7], 0), (2, [0, 7], 2)] 3 [.sym .i64 0, .sym .i64 1, .sym .i64 2] = true := by kernel_rfl
theorem case7at0at3 : says2 es118 [(0, [0, 8], 7), (1, [0, 7], 0), (2, [0, 7], 3)] 3 [.sym .i64 0, .sym .i64 1, .sym .i64 2] = true := by kernel_rfl
theorem case7at0at4 : says2 es118 [(0, [0, 8], 7), (1, [0, 7], 0), (2, [0, 7], 4)] 3 [.sym .i64 0, .sym .i64 1, .sym .i64 2] = true := by kernel_rfl
theorem case7at0at5 : says2 es118 [(0, [0, 8], 7), (1, [0, 7], 0), (2, [0, 7], 5)] 3 [.sym .i64 0, .sym .i64 1, .sym .i64 2] = true := by kernel_rfl
theorem case7at0at6 : says2 es118 [(0, [0, 8], 7), (1, [0, 7], 0), (2, [0, 7], 6)] 3 [.sym .i64 0, .sym .i64 1, .sym .i64 2] = true := by kernel_rfl
theorem case7at0at7 : says2 es118 [(0, [0, 8], 7), (1, [0, 7], 0), (2, [0, 7], 7)] 3 [.sym .i64 0, .sym .i64 1, .sym .i64 2] = true := by kernel_rfl
theorem case7at1at0 : says2 es118 [(0, [0, 8], 7), (1, [0, 7], 1), (2, [0, 6], 0)] 3 [.sym .i64 0, .sym .i64 1, .sym .i64 2] = true := by kernel_rfl
theorem case7at1at1 : says2 es118 [(0, [0, 8], 7), (1, [0, 7], 1), (2, [0, 6], 1)] 3 [.sym .i64 0, .sym .i64 1, .sym .i64 2] = true := by kernel_rfl
theorem case7at1at2 : says2 es118 [(0, [0, 8], 7), (1, [0, 7], 1), (2, [0, 6], 2)] 3 [.sym .i64 0, .sym .i64 1, .sym .i64 2] = true := by kernel_rfl
theorem case7at1at3 : says2 es118 [(0, [0, 8], 7), (1, [0, 7], 1), (2, [0, 6], 3)] 3 [.sym .i64 0, .sym .i64 1, .sym .i64 2] = true := by kernel_rfl
end Go.Proofs.Ytedgooajlaeclaa.cKinFinds
