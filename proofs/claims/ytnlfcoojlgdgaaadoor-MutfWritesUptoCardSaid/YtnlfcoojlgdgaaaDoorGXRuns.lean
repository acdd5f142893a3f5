/- GX: from a run of the machine to a call in the model: begun on an empty heap. -/
import Derived.Test.YtnlfcoojlgdgaaaDoorGXTop
import Derived.Test.YtnlfcoojlgdgaaaDoorGXW4
namespace GX
open Go
section
variable {P : Program} {X : X}
theorem Runs_true [Val] (hX : XOK P X) (hx : ∀ f g, X.ext f = some g → ExtOK P f g) {f : Nat} {args : List AV} {vs : Array Value} (hext : X.ext f = none) (h : Runs X f args { h := .leaf, n := 0 } fun v _ => v = .bool true) (hv : vrels φ0 args vs.toList) (w : World) (hro : ∀ g o, Val.ro g = some o → w.heap[g]? = some o) :
    Calls P f vs w fun e w' => e = .returned (.bool true) ∧ Go.RowKit.Below w.heap.size w w' := by
  obtain ⟨fuel, v, S', h1, _, rfl⟩ := h.elim
  exact calls_true (fuel := fuel) hX hx hext (by rw [h1]) hv w hro
theorem Sok_leaf : Sok { h := .leaf, n := 0 } := by intro c x h; simp [Tr.get] at h
end
end GX
