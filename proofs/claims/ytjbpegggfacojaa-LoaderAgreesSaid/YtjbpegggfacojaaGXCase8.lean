/- The machine says true of LoaderAgrees at 10 loaders: a theorem a case. No condition. -/
import Derived.Test.YtjbpegggfacojaaGXCase
import Derived.KernelRfl
namespace Go.Proofs.Ytjbpegggfacojaa
open GX
set_option maxRecDepth 1000000
theorem case8at0true : says1 [(0, [8], 8), (1, [9], 0)] 4 [.sym .i64 0, .sym .i64 1, .bool true] = true := by kernel_rfl
theorem case8at0false : says1 [(0, [8], 8), (1, [9], 0)] 4 [.sym .i64 0, .sym .i64 1, .bool false] = true := by kernel_rfl
theorem case8at1true : says1 [(0, [8], 8), (1, [9], 1)] 4 [.sym .i64 0, .sym .i64 1, .bool true] = true := by kernel_rfl
theorem case8at1false : says1 [(0, [8], 8), (1, [9], 1)] 4 [.sym .i64 0, .sym .i64 1, .bool false] = true := by kernel_rfl
theorem case8at2true : says1 [(0, [8], 8), (1, [9], 2)] 4 [.sym .i64 0, .sym .i64 1, .bool true] = true := by kernel_rfl
theorem case8at2false : says1 [(0, [8], 8), (1, [9], 2)] 4 [.sym .i64 0, .sym .i64 1, .bool false] = true := by kernel_rfl
theorem case8at3true : says1 [(0, [8], 8), (1, [9], 3)] 4 [.sym .i64 0, .sym .i64 1, .bool true] = true := by kernel_rfl
theorem case8at3false : says1 [(0, [8], 8), (1, [9], 3)] 4 [.sym .i64 0, .sym .i64 1, .bool false] = true := by kernel_rfl
theorem case8at4true : says1 [(0, [8], 8), (1, [9], 4)] 4 [.sym .i64 0, .sym .i64 1, .bool true] = true := by kernel_rfl
theorem case8at4false : says1 [(0, [8], 8), (1, [9], 4)] 4 [.sym .i64 0, .sym .i64 1, .bool false] = true := by kernel_rfl
theorem case8at5true : says1 [(0, [8], 8), (1, [9], 5)] 4 [.sym .i64 0, .sym .i64 1, .bool true] = true := by kernel_rfl
theorem case8at5false : says1 [(0, [8], 8), (1, [9], 5)] 4 [.sym .i64 0, .sym .i64 1, .bool false] = true := by kernel_rfl
theorem case8at6true : says1 [(0, [8], 8), (1, [9], 6)] 4 [.sym .i64 0, .sym .i64 1, .bool true] = true := by kernel_rfl
theorem case8at6false : says1 [(0, [8], 8), (1, [9], 6)] 4 [.sym .i64 0, .sym .i64 1, .bool false] = true := by kernel_rfl
theorem case8at7true : says1 [(0, [8], 8), (1, [9], 7)] 4 [.sym .i64 0, .sym .i64 1, .bool true] = true := by kernel_rfl
theorem case8at7false : says1 [(0, [8], 8), (1, [9], 7)] 4 [.sym .i64 0, .sym .i64 1, .bool false] = true := by kernel_rfl
theorem case8at8true : says1 [(0, [8], 8), (1, [9], 8)] 4 [.sym .i64 0, .sym .i64 1, .bool true] = true := by kernel_rfl
theorem case8at8false : says1 [(0, [8], 8), (1, [9], 8)] 4 [.sym .i64 0, .sym .i64 1, .bool false] = true := by kernel_rfl
theorem case8at9true : says1 [(0, [8], 8), (1, [9], 9)] 4 [.sym .i64 0, .sym .i64 1, .bool true] = true := by kernel_rfl
theorem case8at9false : says1 [(0, [8], 8), (1, [9], 9)] 4 [.sym .i64 0, .sym .i64 1, .bool false] = true := by kernel_rfl
end Go.Proofs.Ytjbpegggfacojaa
