/- A helper of this seat's program brings a number into bounds. No condition. -/
import Derived.Test.YtedgooajlaeclaaProg
import Derived.WalkKit
import Derived.ProofKit
namespace Go.Proofs.Ytedgooajlaeclaa
open Go.RowKit
theorem emod_of_tmod (z k : Int) (hk : 0 < k) : z % k = if z.tmod k < 0 then z.tmod k + k else z.tmod k := by
  have h1 := Int.tmod_lt_of_pos z hk
  have h2 := Int.lt_tmod_of_pos z hk
  have h3 : z % k = z.tmod k % k := by
    conv => lhs; rw [← Int.tmod_add_mul_tdiv z k]
    exact Int.add_mul_emod_self_left ..
  rw [h3]
  split
  · rw [← Int.add_emod_right]; exact Int.emod_eq_of_lt (by omega) (by omega)
  · exact Int.emod_eq_of_lt (by omega) (by omega)
set_option maxHeartbeats 1000000 in
theorem within_any (z m : Int) (hm : 0 ≤ m ∧ m ≤ 1000) (w : World) :
    Calls Try.prog 7 #[.int .i64 z, .int .i64 0, .int .i64 m] w fun e w' => e = .returned (.int .i64 (z % (m + 1))) ∧ w' = w := by
  have t0 : ¬ m + 1 = 0 := by omega
  have t1 : -9223372036854775808 < z.tmod (m + 1) ∧ z.tmod (m + 1) < 9223372036854775807 := by
    have := Int.tmod_lt_of_pos z (show 0 < m + 1 by omega)
    have := Int.lt_tmod_of_pos z (show 0 < m + 1 by omega)
    omega
  have t2 := emod_of_tmod z (m + 1) (by omega)
  go_enter Try.func7, Try.ntmps7
  go_wp2
  all_goals go_ret
  · rename_i hneg
    refine ⟨?_, rfl⟩
    rw [t2, if_pos hneg]
    show Ending.returned (.int .i64 (z.tmod (m + 1) + m + 1)) = _
    rw [Int.add_assoc]
  · rename_i hpos
    refine ⟨?_, rfl⟩
    rw [t2, if_neg (by omega)]
    rfl
end Go.Proofs.Ytedgooajlaeclaa
