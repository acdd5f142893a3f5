/- The machine GX over this seat's program: its tables are the program's own. No condition. -/
import Derived.Test.YtnlfcoojlgdgaaaDoorGXTop
import Derived.Test.YtnlfcoojlgdgaaaDoorGXValid
import Derived.Test.YtnlfcoojlgdgaaaDoorShelf
import Derived.Test.YtnlfcoojlgdgaaaDoorProg
import Derived.KernelRfl
namespace Go.Proofs.YtnlfcoojlgdgaaaDoor
open GX Go.Shelf
def ext0 (f : Nat) : Option (List AV → St → Option (AV × St)) := bif Nat.beq f 42 then some extValid else none
noncomputable def eqs0 (t : Nat) : Bool := !Tryd.prog.stoodInHeld t && !Tryd.prog.eqGuardType Tryd.prog.depth t
noncomputable abbrev X0 : X := mkX Tryd.prog eqs0 ext0
set_option maxRecDepth 1000000
theorem gor : (Tryd.prog.funcs.toList.all fun F => !(F.name == "runtime.NumGoroutine")) = true := by kernel_rfl
theorem mixed : Tryd.prog.follows .mixedOrders = true := by kernel_rfl
theorem xok [Val] : XOK Tryd.prog X0 where
  ti := fun t i h => mkTI_ok h
  fn := fun f F h => h
  gor := fun F hF => by
    have := List.all_eq_true.1 gor F (by simpa using hF)
    simpa using this
  mixed := mixed
  eqs := fun t h => by
    have h1 : eqs0 t = true := h
    simpa [eqs0] using h1
theorem ext0_ok [Val] (hT : ∀ w, (∀ g o, Val.ro g = some o → w.heap[g]? = some o) → Lib.Utf8Tabs (Tryd.laysValid_ren.g 3) (Tryd.laysValid_ren.g 4) w) : ∀ f g, X0.ext f = some g → ExtOK Tryd.prog f g := by
  intro f g h
  by_cases h42 : f = 42
  · subst h42; cases h; exact extValid_ok Tryd.func42 (by kernel_rfl) (by kernel_rfl) (fun s w hs hT => Any.utf8_ValidString Tryd.laysValid s w hs hT) hT
  have h' : ext0 f = some g := h
  simp [ext0, nbeq, h42] at h'
/-- what the machine says of a call -/
noncomputable def says (f : Nat) (args : List AV) : Bool := match call X0 1000000 f args { h := .leaf, n := 0 } with | some (.bool true, _) => true | _ => false
/-- the tables' two blocks stay -/
def roOf (w : World) (g : Nat) : Option Obj := if g = Tryd.laysValid_ren.g 3 ∨ g = Tryd.laysValid_ren.g 4 then w.heap[g]? else none
theorem roOf_here (w : World) : ∀ g o, roOf w g = some o → w.heap[g]? = some o := by
  intro g o h
  unfold roOf at h
  split at h
  · exact h
  · cases h
theorem cell_same {w w' : World} {g i : Nat} {v : Value} (hs : ∀ g o, roOf w g = some o → w'.heap[g]? = some o) (hg : g = Tryd.laysValid_ren.g 3 ∨ g = Tryd.laysValid_ren.g 4) (h : w.cell? ⟨g, i, none⟩ = some v) : w'.cell? ⟨g, i, none⟩ = some v := by
  cases ho : w.heap[g]? with
  | none => simp [World.cell?, ho] at h
  | some o =>
    have h1 := hs g o (by unfold roOf; rw [if_pos hg]; exact ho)
    simpa [World.cell?, ho, h1] using h
theorem tabs_of (w : World) (hT : Lib.Utf8Tabs (Tryd.laysValid_ren.g 3) (Tryd.laysValid_ren.g 4) w) (w' : World) (hs : ∀ g o, roOf w g = some o → w'.heap[g]? = some o) : Lib.Utf8Tabs (Tryd.laysValid_ren.g 3) (Tryd.laysValid_ren.g 4) w' :=
  ⟨fun c hc => cell_same hs (.inl rfl) (hT.1 c hc), fun i hi => ⟨cell_same hs (.inr rfl) (hT.2 i hi).1, cell_same hs (.inr rfl) (hT.2 i hi).2⟩⟩
theorem says_calls (f : Nat) (args : List AV) (vs : Array Value) (hext : X0.ext f = none) (h : says f args = true) (hv : ∀ _ : Val, vrels φ0 args vs.toList) (w : World) (hT : Lib.Utf8Tabs (Tryd.laysValid_ren.g 3) (Tryd.laysValid_ren.g 4) w) :
    Calls Tryd.prog f vs w fun e w' => e = .returned (.bool true) ∧ Go.RowKit.Below w.heap.size w w' := by
  letI : Val := ⟨fun _ => 0, roOf w⟩
  unfold says at h
  exact calls_true xok (ext0_ok (tabs_of w hT)) hext h (hv _) w (roOf_here w)
end Go.Proofs.YtnlfcoojlgdgaaaDoor
