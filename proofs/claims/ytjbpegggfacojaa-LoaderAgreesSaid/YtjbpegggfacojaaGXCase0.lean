/- The machine says true of LoaderAgrees at 2 loaders: a theorem a case. No condition. -/
import Derived.Test.YtjbpegggfacojaaGXCase
import Derived.KernelRfl
namespace Go.Proofs.Ytjbpegggfacojaa
open GX
set_option maxRecDepth 1000000
theorem case0at0true : says1 [(0, [8], 0), (1, [1], 0)] 4 [.sym .i64 0, .sym .i64 1, .bool true] = true := by kernel_rfl
theorem case0at0false : says1 [(0, [8], 0), (1, [1], 0)] 4 [.sym .i64 0, .sym .i64 1, .bool false] = true := by kernel_rfl
theorem case0at1true : says1 [(0, [8], 0), (1, [1], 1)] 4 [.sym .i64 0, .sym .i64 1, .bool true] = true := by kernel_rfl
theorem case0at1false : says1 [(0, [8], 0), (1, [1], 1)] 4 [.sym .i64 0, .sym .i64 1, .bool false] = true := by kernel_rfl
end Go.Proofs.Ytjbpegggfacojaa
