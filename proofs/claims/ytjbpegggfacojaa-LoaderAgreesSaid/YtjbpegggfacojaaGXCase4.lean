/- The machine says true of LoaderAgrees at 6 loaders: a theorem a case. No condition. -/
import Derived.Test.YtjbpegggfacojaaGXCase
import Derived.KernelRfl
namespace Go.Proofs.Ytjbpegggfacojaa
open GX
set_option maxRecDepth 1000000
theorem case4at0true : says1 [(0, [8], 4), (1, [5], 0)] 4 [.sym .i64 0, .sym .i64 1, .bool true] = true := by kernel_rfl
theorem case4at0false : says1 [(0, [8], 4), (1, [5], 0)] 4 [.sym .i64 0, .sym .i64 1, .bool false] = true := by kernel_rfl
theorem case4at1true : says1 [(0, [8], 4), (1, [5], 1)] 4 [.sym .i64 0, .sym .i64 1, .bool true] = true := by kernel_rfl
theorem case4at1false : says1 [(0, [8], 4), (1, [5], 1)] 4 [.sym .i64 0, .sym .i64 1, .bool false] = true := by kernel_rfl
theorem case4at2true : says1 [(0, [8], 4), (1, [5], 2)] 4 [.sym .i64 0, .sym .i64 1, .bool true] = true := by kernel_rfl
theorem case4at2false : says1 [(0, [8], 4), (1, [5], 2)] 4 [.sym .i64 0, .sym .i64 1, .bool false] = true := by kernel_rfl
theorem case4at3true : says1 [(0, [8], 4), (1, [5], 3)] 4 [.sym .i64 0, .sym .i64 1, .bool true] = true := by kernel_rfl
theorem case4at3false : says1 [(0, [8], 4), (1, [5], 3)] 4 [.sym .i64 0, .sym .i64 1, .bool false] = true := by kernel_rfl
theorem case4at4true : says1 [(0, [8], 4), (1, [5], 4)] 4 [.sym .i64 0, .sym .i64 1, .bool true] = true := by kernel_rfl
theorem case4at4false : says1 [(0, [8], 4), (1, [5], 4)] 4 [.sym .i64 0, .sym .i64 1, .bool false] = true := by kernel_rfl
theorem case4at5true : says1 [(0, [8], 4), (1, [5], 5)] 4 [.sym .i64 0, .sym .i64 1, .bool true] = true := by kernel_rfl
theorem case4at5false : says1 [(0, [8], 4), (1, [5], 5)] 4 [.sym .i64 0, .sym .i64 1, .bool false] = true := by kernel_rfl
end Go.Proofs.Ytjbpegggfacojaa
