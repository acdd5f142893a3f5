/- The machine says true of LoaderAgrees at 5 loaders: a theorem a case. No condition. -/
import Derived.Test.YtjbpegggfacojaaGXCase
import Derived.KernelRfl
namespace Go.Proofs.Ytjbpegggfacojaa
open GX
set_option maxRecDepth 1000000
theorem case3at0true : says1 [(0, [8], 3), (1, [4], 0)] 4 [.sym .i64 0, .sym .i64 1, .bool true] = true := by kernel_rfl
theorem case3at0false : says1 [(0, [8], 3), (1, [4], 0)] 4 [.sym .i64 0, .sym .i64 1, .bool false] = true := by kernel_rfl
theorem case3at1true : says1 [(0, [8], 3), (1, [4], 1)] 4 [.sym .i64 0, .sym .i64 1, .bool true] = true := by kernel_rfl
theorem case3at1false : says1 [(0, [8], 3), (1, [4], 1)] 4 [.sym .i64 0, .sym .i64 1, .bool false] = true := by kernel_rfl
theorem case3at2true : says1 [(0, [8], 3), (1, [4], 2)] 4 [.sym .i64 0, .sym .i64 1, .bool true] = true := by kernel_rfl
theorem case3at2false : says1 [(0, [8], 3), (1, [4], 2)] 4 [.sym .i64 0, .sym .i64 1, .bool false] = true := by kernel_rfl
theorem case3at3true : says1 [(0, [8], 3), (1, [4], 3)] 4 [.sym .i64 0, .sym .i64 1, .bool true] = true := by kernel_rfl
theorem case3at3false : says1 [(0, [8], 3), (1, [4], 3)] 4 [.sym .i64 0, .sym .i64 1, .bool false] = true := by kernel_rfl
theorem case3at4true : says1 [(0, [8], 3), (1, [4], 4)] 4 [.sym .i64 0, .sym .i64 1, .bool true] = true := by kernel_rfl
theorem case3at4false : says1 [(0, [8], 3), (1, [4], 4)] 4 [.sym .i64 0, .sym .i64 1, .bool false] = true := by kernel_rfl
end Go.Proofs.Ytjbpegggfacojaa
