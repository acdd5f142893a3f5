/- 'carafe/carafelaw16.LayoutNumbers' returns true, whatever the world: the row as given, no condition. -/
import Derived.Test.YtajmgfknhfngjaaGreatRows
import Derived.Test.YtajmgfknhfngjaaGreatGXSeat
import Derived.Test.YtajmgfknhfngjaaGreatGXEntsLayoutNumbersAt0
import Derived.Test.YtajmgfknhfngjaaGreatGXEntsLayoutNumbersAt4
import Derived.Test.YtajmgfknhfngjaaGreatGXEntsLayoutNumbersAt8
import Derived.Test.YtajmgfknhfngjaaGreatGXEntsLayoutNumbersAt12
import Derived.Test.YtajmgfknhfngjaaGreatGXEntsLayoutNumbersAt16
import Derived.Test.YtajmgfknhfngjaaGreatGXEntsLayoutNumbersAt20
import Derived.Test.YtajmgfknhfngjaaGreatGXEntsLayoutNumbersAt24
import Derived.Test.YtajmgfknhfngjaaGreatGXEntsLayoutNumbersAt28
import Derived.Test.YtajmgfknhfngjaaGreatGXEntsLayoutNumbersAt32
import Derived.WalkKit
import Derived.ProofKit
import Derived.OpenShut
namespace Go.Proofs.YtajmgfknhfngjaaGreat.layoutNumbers
open Go.ChangeShapes Go.WideShapes Go.ChangeAt Go.RowKit
set_option linter.unusedVariables false      -- a walk need not use every 'w<i>' (that an integer argument fits its kind)

theorem own : ownKnob Tryz.prog.godebug = none := by kernel_rfl

open GX
/-- what the machine says of a call, with calls worked out beforehand -/
noncomputable def saysE (es : List Ent) (f : Nat) : Bool := match call (Xs X0 1000000 es) 1000000 f [] { h := .leaf, n := 0 } with | some (.bool true, _) => true | _ => false
theorem saysE_calls (es : List Ent) (f : Nat) (chain : Chain X0 1000000 es) (hext : (Xs X0 1000000 es).ext f = none) (h : saysE es f = true) (w : World) :
    Calls Tryz.prog f #[] w fun e w' => e = .returned (.bool true) ∧ Go.RowKit.Below w.heap.size w w' := by
  letI : Val := ⟨fun _ => 0, fun _ => none⟩
  unfold saysE at h
  obtain ⟨h1, h2⟩ := Xs_sound xok ext0_ok es chain
  exact calls_true (args := []) (vs := #[]) h1 h2 hext h rfl w (fun _ _ h => by cases h)
set_option maxRecDepth 1000000 in
/-- THE MACHINE SAYS TRUE. -/
theorem said : saysE cLayoutNumbers.es34 4 = true := by kernel_rfl
theorem chain : Chain X0 1000000 cLayoutNumbers.es34 := ⟨cLayoutNumbers.ok33, cLayoutNumbers.ok32, cLayoutNumbers.ok31, cLayoutNumbers.ok30, cLayoutNumbers.ok29, cLayoutNumbers.ok28, cLayoutNumbers.ok27, cLayoutNumbers.ok26, cLayoutNumbers.ok25, cLayoutNumbers.ok24, cLayoutNumbers.ok23, cLayoutNumbers.ok22, cLayoutNumbers.ok21, cLayoutNumbers.ok20, cLayoutNumbers.ok19, cLayoutNumbers.ok18, cLayoutNumbers.ok17, cLayoutNumbers.ok16, cLayoutNumbers.ok15, cLayoutNumbers.ok14, cLayoutNumbers.ok13, cLayoutNumbers.ok12, cLayoutNumbers.ok11, cLayoutNumbers.ok10, cLayoutNumbers.ok9, cLayoutNumbers.ok8, cLayoutNumbers.ok7, cLayoutNumbers.ok6, cLayoutNumbers.ok5, cLayoutNumbers.ok4, cLayoutNumbers.ok3, cLayoutNumbers.ok2, cLayoutNumbers.ok1, cLayoutNumbers.ok0, trivial⟩
set_option maxRecDepth 1000000 in
theorem own_road : (Xs X0 1000000 cLayoutNumbers.es34).ext 4 = none := by kernel_rfl

/-! ### The call -/
theorem walk  (w : World) :
    Calls Tryz.prog 4 #[] w fun e w' => e = .returned (.bool true) ∧ Below w.heap.size w w' :=
  saysE_calls _ 4 chain own_road said w

/-! ### THE ROW's STEP: WRITTEN OUT: LEAVE IT -/
set_option maxRecDepth 100000 in
theorem lifted (os : Os) (started : os.Started) (H : Type) (enc : TypeId × Value → H) :
    ReturnsInHanded {} Tryz.checked os 4 .any (Rows.layoutNumbersSpec.pre6 enc Tryz.prog Tryz.f4 Rows.layoutNumbersRow.domain false) (Rows.layoutNumbersSpec.post enc Tryz.prog Tryz.f4 false true false false) := by
  refine returnsInHanded_of_change (C := Tryz.checked) own started (by kernel_rfl) Tryz.func4
    (ChangeSpec.witness6 (enc := enc) (C := Tryz.checked) false ⟨#[], #[], []⟩ 8 (by kernel_rfl) (by kernel_rfl) (by kernel_rfl) (by kernel_rfl)) ?_
  intro W base args ds gs before hval0 hW hcnd _
  have hval : ∀ (j : Nat) t v, Tryz.f4.params[j]? = some t → args[j]? = some v → Value.okWide Tryz.prog W .any base t v := hval0
  have hW' := hW
  obtain ⟨p, q, hA0, hV, rfl, hfz, hnd⟩ := hW
  have hA : DataW.TrodAll enc Tryz.prog W 0 (fun _ => true) true Tryz.f4.params.toList args.toList ds p := hA0
  rw [Tryz.params4] at hA hval
  obtain ⟨rfl, rfl, rfl⟩ := trodAll_none hA
  obtain ⟨rfl, rfl⟩ := trodVars_none hV
  clear hA0 hval0
  simp only [List.append_nil] at hW'
  refine (walk  W).mono fun e W' ⟨he, hg⟩ => ?_
  subst he
  exact ⟨_, rfl, post_kept (pa := []) (pv := []) hg hW' (fun _ _ _ => (trodAll_cons_mk (shut_bool Tryz.underlying4 _) trodAll_mk0)) (fun sp _ => rfl) (fun _ _ => rfl) rfl
    (ok_one (by kernel_rfl) rfl (okWide_bool_mk Tryz.underlying4 _))⟩

theorem over : Rows.layoutNumbersRow.holds Tryz.pinned (OpenSpec.ofChange Rows.layoutNumbersSpec) :=
  OpenClaim.holds_of_wide 4 Tryz.f4 rfl rfl rfl rfl rfl rfl rfl ⟨rfl, rfl, rfl, rfl, rfl⟩ rfl rfl rfl rfl rfl (by kernel_rfl) Tryz.func4 (by kernel_rfl)
    (of_decide_eq_true (by kernel_rfl)) (by unfold Func.isWrapper; first | (rw [if_pos (by decide +kernel)]; kernel_rfl) | (rw [if_neg (by decide +kernel)]; exact ⟨rfl, rfl⟩))
    (fun os started H enc _ => lifted os started H enc)

/-- ████ THE STATEMENT ████ -/
theorem proved : Rows.LayoutNumbersSaid :=
  over
end Go.Proofs.YtajmgfknhfngjaaGreat.layoutNumbers
