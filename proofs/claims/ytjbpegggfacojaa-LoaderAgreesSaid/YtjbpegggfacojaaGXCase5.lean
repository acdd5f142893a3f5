/- The machine says true of LoaderAgrees at 7 loaders: a theorem a case. No condition. -/
import Derived.Test.YtjbpegggfacojaaGXCase
import Derived.KernelRfl
namespace Go.Proofs.Ytjbpegggfacojaa
open GX
set_option maxRecDepth 1000000
theorem case5at0true : says1 [(0, [8], 5), (1, [6], 0)] 4 [.sym .i64 0, .sym .i64 1, .bool true] = true := by kernel_rfl
theorem case5at0false : says1 [(0, [8], 5), (1, [6], 0)] 4 [.sym .i64 0, .sym .i64 1, .bool false] = true := by kernel_rfl
theorem case5at1true : says1 [(0, [8], 5), (1, [6], 1)] 4 [.sym .i64 0, .sym .i64 1, .bool true] = true := by kernel_rfl
theorem case5at1false : says1 [(0, [8], 5), (1, [6], 1)] 4 [.sym .i64 0, .sym .i64 1, .bool false] = true := by kernel_rfl
theorem case5at2true : says1 [(0, [8], 5), (1, [6], 2)] 4 [.sym .i64 0, .sym .i64 1, .bool true] = true := by kernel_rfl
theorem case5at2false : says1 [(0, [8], 5), (1, [6], 2)] 4 [.sym .i64 0, .sym .i64 1, .bool false] = true := by kernel_rfl
theorem case5at3true : says1 [(0, [8], 5), (1, [6], 3)] 4 [.sym .i64 0, .sym .i64 1, .bool true] = true := by kernel_rfl
theorem case5at3false : says1 [(0, [8], 5), (1, [6], 3)] 4 [.sym .i64 0, .sym .i64 1, .bool false] = true := by kernel_rfl
theorem case5at4true : says1 [(0, [8], 5), (1, [6], 4)] 4 [.sym .i64 0, .sym .i64 1, .bool true] = true := by kernel_rfl
theorem case5at4false : says1 [(0, [8], 5), (1, [6], 4)] 4 [.sym .i64 0, .sym .i64 1, .bool false] = true := by kernel_rfl
theorem case5at5true : says1 [(0, [8], 5), (1, [6], 5)] 4 [.sym .i64 0, .sym .i64 1, .bool true] = true := by kernel_rfl
theorem case5at5false : says1 [(0, [8], 5), (1, [6], 5)] 4 [.sym .i64 0, .sym .i64 1, .bool false] = true := by kernel_rfl
theorem case5at6true : says1 [(0, [8], 5), (1, [6], 6)] 4 [.sym .i64 0, .sym .i64 1, .bool true] = true := by kernel_rfl
theorem case5at6false : says1 [(0, [8], 5), (1, [6], 6)] 4 [.sym .i64 0, .sym .i64 1, .bool false] = true := by kernel_rfl
end Go.Proofs.Ytjbpegggfacojaa
