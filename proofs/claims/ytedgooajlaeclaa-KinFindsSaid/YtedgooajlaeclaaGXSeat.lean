/- The machine GX over this seat's program: its tables are the program's own. No condition. -/
import Derived.Test.YtedgooajlaeclaaGXTop
import Derived.Test.YtedgooajlaeclaaGXByte
import Derived.Test.YtedgooajlaeclaaProg
import Derived.KernelRfl
namespace Go.Proofs.Ytedgooajlaeclaa
open GX
def ext0 (f : Nat) : Option (List AV → St → Option (AV × St)) := bif Nat.beq f 79 then some extByte else none
noncomputable def eqs0 (t : Nat) : Bool := !Try.prog.stoodInHeld t && !Try.prog.eqGuardType Try.prog.depth t
noncomputable abbrev X0 : X := mkX Try.prog eqs0 ext0
set_option maxRecDepth 1000000
theorem gor : (Try.prog.funcs.toList.all fun F => !(F.name == "runtime.NumGoroutine")) = true := by kernel_rfl
theorem mixed : Try.prog.follows .mixedOrders = true := by kernel_rfl
theorem xok [Val] : XOK Try.prog X0 where
  ti := fun t i h => mkTI_ok h
  fn := fun f F h => h
  gor := fun F hF => by
    have := List.all_eq_true.1 gor F (by simpa using hF)
    simpa using this
  mixed := mixed
  eqs := fun t h => by
    have h1 : eqs0 t = true := h
    simpa [eqs0] using h1
theorem ext0_ok [Val] : ∀ f g, X0.ext f = some g → ExtOK Try.prog f g := by
  intro f g h
  by_cases h79 : f = 79
  · subst h79; cases h; exact extByte_ok Try.func79 (by kernel_rfl) (by kernel_rfl) (by kernel_rfl) (by kernel_rfl)
  have h' : ext0 f = some g := h
  simp [ext0, nbeq, h79] at h'
/-- what the machine says of a call -/
noncomputable def says (f : Nat) (args : List AV) : Bool := match call X0 1000000 f args { h := .leaf, n := 0 } with | some (.bool true, _) => true | _ => false
theorem says_calls (f : Nat) (args : List AV) (vs : Array Value) (hext : X0.ext f = none) (h : says f args = true) (hv : ∀ _ : Val, vrels φ0 args vs.toList) (w : World) :
    Calls Try.prog f vs w fun e w' => e = .returned (.bool true) ∧ Go.RowKit.Below w.heap.size w w' := by
  letI : Val := ⟨fun _ => 0, fun _ => none⟩
  unfold says at h
  exact calls_true xok ext0_ok hext h (hv _) w (fun _ _ h => by cases h)
end Go.Proofs.Ytedgooajlaeclaa
