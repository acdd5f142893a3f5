/- The machine says true of LoaderAgrees at 8 loaders: a theorem a case. No condition. -/
import Derived.Test.YtjbpegggfacojaaGXCase
import Derived.KernelRfl
namespace Go.Proofs.Ytjbpegggfacojaa
open GX
set_option maxRecDepth 1000000
theorem case6at0true : says1 [(0, [8], 6), (1, [7], 0)] 4 [.sym .i64 0, .sym .i64 1, .bool true] = true := by kernel_rfl
theorem case6at0false : says1 [(0, [8], 6), (1, [7], 0)] 4 [.sym .i64 0, .sym .i64 1, .bool false] = true := by kernel_rfl
theorem case6at1true : says1 [(0, [8], 6), (1, [7], 1)] 4 [.sym .i64 0, .sym .i64 1, .bool true] = true := by kernel_rfl
theorem case6at1false : says1 [(0, [8], 6), (1, [7], 1)] 4 [.sym .i64 0, .sym .i64 1, .bool false] = true := by kernel_rfl
theorem case6at2true : says1 [(0, [8], 6), (1, [7], 2)] 4 [.sym .i64 0, .sym .i64 1, .bool true] = true := by kernel_rfl
theorem case6at2false : says1 [(0, [8], 6), (1, [7], 2)] 4 [.sym .i64 0, .sym .i64 1, .bool false] = true := by kernel_rfl
theorem case6at3true : says1 [(0, [8], 6), (1, [7], 3)] 4 [.sym .i64 0, .sym .i64 1, .bool true] = true := by kernel_rfl
theorem case6at3false : says1 [(0, [8], 6), (1, [7], 3)] 4 [.sym .i64 0, .sym .i64 1, .bool false] = true := by kernel_rfl
theorem case6at4true : says1 [(0, [8], 6), (1, [7], 4)] 4 [.sym .i64 0, .sym .i64 1, .bool true] = true := by kernel_rfl
theorem case6at4false : says1 [(0, [8], 6), (1, [7], 4)] 4 [.sym .i64 0, .sym .i64 1, .bool false] = true := by kernel_rfl
theorem case6at5true : says1 [(0, [8], 6), (1, [7], 5)] 4 [.sym .i64 0, .sym .i64 1, .bool true] = true := by kernel_rfl
theorem case6at5false : says1 [(0, [8], 6), (1, [7], 5)] 4 [.sym .i64 0, .sym .i64 1, .bool false] = true := by kernel_rfl
theorem case6at6true : says1 [(0, [8], 6), (1, [7], 6)] 4 [.sym .i64 0, .sym .i64 1, .bool true] = true := by kernel_rfl
theorem case6at6false : says1 [(0, [8], 6), (1, [7], 6)] 4 [.sym .i64 0, .sym .i64 1, .bool false] = true := by kernel_rfl
theorem case6at7true : says1 [(0, [8], 6), (1, [7], 7)] 4 [.sym .i64 0, .sym .i64 1, .bool true] = true := by kernel_rfl
theorem case6at7false : says1 [(0, [8], 6), (1, [7], 7)] 4 [.sym .i64 0, .sym .i64 1, .bool false] = true := by kernel_rfl
end Go.Proofs.Ytjbpegggfacojaa
