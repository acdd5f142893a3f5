/- A helper of this seat's program brings a number into bounds; the machine over answers of that helper, one list a case. No condition. -/
import Derived.Test.YtjbpegggfacojaaGXSeat
import Derived.Test.YtjbpegggfacojaaGXSym
import Derived.WalkKit
import Derived.ProofKit
namespace Go.Proofs.Ytjbpegggfacojaa
open GX Go.RowKit
def wz (z m : Int) : Int := if z < 0 then -((z + 1).tmod (m + 1)) else z % (m + 1)
theorem wz_range (z m : Int) (hm : 0 ≤ m) : 0 ≤ wz z m ∧ wz z m ≤ m := by
  unfold wz
  split
  · have h1 : (z + 1).tmod (m + 1) = -((-(z + 1)) % (m + 1)) := by
      rw [← Int.tmod_eq_emod_of_nonneg (by omega), Int.neg_tmod, Int.neg_neg]
    have h2 := Int.emod_nonneg (-(z + 1)) (show m + 1 ≠ 0 by omega)
    have h3 := Int.emod_lt_of_pos (-(z + 1)) (show 0 < m + 1 by omega)
    omega
  · have h2 := Int.emod_nonneg z (show m + 1 ≠ 0 by omega)
    have h3 := Int.emod_lt_of_pos z (show 0 < m + 1 by omega)
    omega
set_option maxHeartbeats 1000000 in
theorem within_any (z m : Int) (hz : -9223372036854775808 ≤ z ∧ z ≤ 9223372036854775807) (hm : 0 ≤ m ∧ m ≤ 1000) (w : World) :
    Calls Try.prog 9 #[.int .i64 z, .int .i64 m] w fun e w' => e = .returned (.int .i64 (wz z m)) ∧ w' = w := by
  go_enter Try.func9, Try.ntmps9
  go_wp2
  all_goals go_ret
  · rename_i hneg
    exact ⟨by simp [wz, hneg], rfl⟩
  · rename_i hpos
    exact ⟨by simp [wz, show ¬ z < 0 by omega], rfl⟩
def ext1 (l : List (Nat × List Int × Int)) (f : Nat) : Option (List AV → St → Option (AV × St)) := bif Nat.beq f 9 then some (extSym l) else ext0 f
noncomputable abbrev X1 (l : List (Nat × List Int × Int)) : X := mkX Try.prog eqs0 (ext1 l)
theorem xok1 [Val] (l : List (Nat × List Int × Int)) : XOK Try.prog (X1 l) := ⟨xok.ti, xok.fn, xok.gor, xok.mixed, xok.eqs⟩
set_option maxRecDepth 1000000 in
theorem ext1_ok [Val] (l : List (Nat × List Int × Int)) (hl : ∀ i ms c, (i, ms, c) ∈ l → ∀ w, Calls Try.prog 9 (Value.int .i64 (Val.sym i) :: ms.map (Value.int .i64)).toArray w fun e w' => e = .returned (.int .i64 c) ∧ w' = w) :
    ∀ f g, (X1 l).ext f = some g → ExtOK Try.prog f g := by
  intro f g h
  have h' : ext1 l f = some g := h
  by_cases h9 : f = 9
  · subst h9
    have : extSym l = g := by simpa [ext1] using h'
    subst this
    exact extSym_ok Try.func9 (by kernel_rfl) (by kernel_rfl) hl
  · have h2 : ext0 f = some g := by simpa [ext1, nbeq, h9] using h'
    exact ext0_ok f g h2
/-- what the machine says of a call, by answers -/
noncomputable def says1 (l : List (Nat × List Int × Int)) (f : Nat) (args : List AV) : Bool := match call (X1 l) 1000000 f args { h := .leaf, n := 0 } with | some (.bool true, _) => true | _ => false
theorem says1_calls [Val] (l : List (Nat × List Int × Int)) (f : Nat) (args : List AV) (vs : Array Value) (hl : ∀ i ms c, (i, ms, c) ∈ l → ∀ w, Calls Try.prog 9 (Value.int .i64 (Val.sym i) :: ms.map (Value.int .i64)).toArray w fun e w' => e = .returned (.int .i64 c) ∧ w' = w)
    (hext : (X1 l).ext f = none) (h : says1 l f args = true) (hv : vrels φ0 args vs.toList) (w : World) :
    Calls Try.prog f vs w fun e w' => e = .returned (.bool true) ∧ Below w.heap.size w w' := by
  unfold says1 at h
  exact calls_true (xok1 l) (ext1_ok l hl) hext h hv w
end Go.Proofs.Ytjbpegggfacojaa
