/- The machine says true of LoaderAgrees at 3 loaders: a theorem a case. No condition. -/
import Derived.Test.YtjbpegggfacojaaGXCase
import Derived.KernelRfl
namespace Go.Proofs.Ytjbpegggfacojaa
open GX
set_option maxRecDepth 1000000
theorem case1at0true : says1 [(0, [8], 1), (1, [2], 0)] 4 [.sym .i64 0, .sym .i64 1, .bool true] = true := by kernel_rfl
theorem case1at0false : says1 [(0, [8], 1), (1, [2], 0)] 4 [.sym .i64 0, .sym .i64 1, .bool false] = true := by kernel_rfl
theorem case1at1true : says1 [(0, [8], 1), (1, [2], 1)] 4 [.sym .i64 0, .sym .i64 1, .bool true] = true := by kernel_rfl
theorem case1at1false : says1 [(0, [8], 1), (1, [2], 1)] 4 [.sym .i64 0, .sym .i64 1, .bool false] = true := by kernel_rfl
theorem case1at2true : says1 [(0, [8], 1), (1, [2], 2)] 4 [.sym .i64 0, .sym .i64 1, .bool true] = true := by kernel_rfl
theorem case1at2false : says1 [(0, [8], 1), (1, [2], 2)] 4 [.sym .i64 0, .sym .i64 1, .bool false] = true := by kernel_rfl
end Go.Proofs.Ytjbpegggfacojaa
