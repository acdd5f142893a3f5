/- The machine says true of LoaderAgrees at 9 loaders: a theorem a case. No condition. -/
import Derived.Test.YtjbpegggfacojaaGXCase
import Derived.KernelRfl
namespace Go.Proofs.Ytjbpegggfacojaa
open GX
set_option maxRecDepth 1000000
theorem case7at0true : says1 [(0, [8], 7), (1, [8], 0)] 4 [.sym .i64 0, .sym .i64 1, .bool true] = true := by kernel_rfl
theorem case7at0false : says1 [(0, [8], 7), (1, [8], 0)] 4 [.sym .i64 0, .sym .i64 1, .bool false] = true := by kernel_rfl
theorem case7at1true : says1 [(0, [8], 7), (1, [8], 1)] 4 [.sym .i64 0, .sym .i64 1, .bool true] = true := by kernel_rfl
theorem case7at1false : says1 [(0, [8], 7), (1, [8], 1)] 4 [.sym .i64 0, .sym .i64 1, .bool false] = true := by kernel_rfl
theorem case7at2true : says1 [(0, [8], 7), (1, [8], 2)] 4 [.sym .i64 0, .sym .i64 1, .bool true] = true := by kernel_rfl
theorem case7at2false : says1 [(0, [8], 7), (1, [8], 2)] 4 [.sym .i64 0, .sym .i64 1, .bool false] = true := by kernel_rfl
theorem case7at3true : says1 [(0, [8], 7), (1, [8], 3)] 4 [.sym .i64 0, .sym .i64 1, .bool true] = true := by kernel_rfl
theorem case7at3false : says1 [(0, [8], 7), (1, [8], 3)] 4 [.sym .i64 0, .sym .i64 1, .bool false] = true := by kernel_rfl
theorem case7at4true : says1 [(0, [8], 7), (1, [8], 4)] 4 [.sym .i64 0, .sym .i64 1, .bool true] = true := by kernel_rfl
theorem case7at4false : says1 [(0, [8], 7), (1, [8], 4)] 4 [.sym .i64 0, .sym .i64 1, .bool false] = true := by kernel_rfl
theorem case7at5true : says1 [(0, [8], 7), (1, [8], 5)] 4 [.sym .i64 0, .sym .i64 1, .bool true] = true := by kernel_rfl
theorem case7at5false : says1 [(0, [8], 7), (1, [8], 5)] 4 [.sym .i64 0, .sym .i64 1, .bool false] = true := by kernel_rfl
theorem case7at6true : says1 [(0, [8], 7), (1, [8], 6)] 4 [.sym .i64 0, .sym .i64 1, .bool true] = true := by kernel_rfl
theorem case7at6false : says1 [(0, [8], 7), (1, [8], 6)] 4 [.sym .i64 0, .sym .i64 1, .bool false] = true := by kernel_rfl
theorem case7at7true : says1 [(0, [8], 7), (1, [8], 7)] 4 [.sym .i64 0, .sym .i64 1, .bool true] = true := by kernel_rfl
theorem case7at7false : says1 [(0, [8], 7), (1, [8], 7)] 4 [.sym .i64 0, .sym .i64 1, .bool false] = true := by kernel_rfl
theorem case7at8true : says1 [(0, [8], 7), (1, [8], 8)] 4 [.sym .i64 0, .sym .i64 1, .bool true] = true := by kernel_rfl
theorem case7at8false : says1 [(0, [8], 7), (1, [8], 8)] 4 [.sym .i64 0, .sym .i64 1, .bool false] = true := by kernel_rfl
end Go.Proofs.Ytjbpegggfacojaa
