/- The machine over answers of that helper, one list a case. No condition. -/
import Derived.Test.YtedgooajlaeclaaGXSeat
import Derived.Test.YtedgooajlaeclaaGXSym
import Derived.Test.YtedgooajlaeclaaGXCase
import Derived.Test.YtedgooajlaeclaaGXCache
namespace Go.Proofs.Ytedgooajlaeclaa
open GX Go.RowKit
def ext1 (l : List (Nat × List Int × Int)) (f : Nat) : Option (List AV → St → Option (AV × St)) := bif Nat.beq f 7 then some (extSym l) else ext0 f
noncomputable abbrev X1 (l : List (Nat × List Int × Int)) : X := mkX Try.prog eqs0 (ext1 l)
theorem xok1 [Val] (l : List (Nat × List Int × Int)) : XOK Try.prog (X1 l) := ⟨xok.ti, xok.fn, xok.gor, xok.mixed, xok.eqs⟩
set_option maxRecDepth 1000000 in
theorem ext1_ok [Val] (l : List (Nat × List Int × Int)) (hl : ∀ i ms c, (i, ms, c) ∈ l → ∀ w, Calls Try.prog 7 (Value.int .i64 (Val.sym i) :: ms.map (Value.int .i64)).toArray w fun e w' => e = .returned (.int .i64 c) ∧ w' = w) :
    ∀ f g, (X1 l).ext f = some g → ExtOK Try.prog f g := by
  intro f g h
  have h' : ext1 l f = some g := h
  by_cases h9 : f = 7
  · subst h9
    have : extSym l = g := by simpa [ext1] using h'
    subst this
    exact extSym_ok Try.func7 (by kernel_rfl) (by kernel_rfl) hl
  · have h2 : ext0 f = some g := by simpa [ext1, nbeq, h9] using h'
    exact ext0_ok f g h2
/-- what the machine says of a call, by answers, with calls worked out beforehand -/
noncomputable def says2 (es : List Ent) (l : List (Nat × List Int × Int)) (f : Nat) (args : List AV) : Bool := match call (Xs (X1 l) 1000000 es) 1000000 f args { h := .leaf, n := 0 } with | some (.bool true, _) => true | _ => false
theorem says2_calls [Val] (es : List Ent) (l : List (Nat × List Int × Int)) (f : Nat) (args : List AV) (vs : Array Value) (hl : ∀ i ms c, (i, ms, c) ∈ l → ∀ w, Calls Try.prog 7 (Value.int .i64 (Val.sym i) :: ms.map (Value.int .i64)).toArray w fun e w' => e = .returned (.int .i64 c) ∧ w' = w)
    (chain : Chain (X1 l) 1000000 es) (hext : (Xs (X1 l) 1000000 es).ext f = none) (h : says2 es l f args = true) (hv : vrels φ0 args vs.toList) (w : World) (hro : ∀ g o, Val.ro g = some o → w.heap[g]? = some o) :
    Calls Try.prog f vs w fun e w' => e = .returned (.bool true) ∧ Below w.heap.size w w' := by
  unfold says2 at h
  obtain ⟨h1, h2⟩ := Xs_sound (xok1 l) (ext1_ok l hl) es chain
  exact calls_true h1 h2 hext h hv w hro
end Go.Proofs.Ytedgooajlaeclaa
