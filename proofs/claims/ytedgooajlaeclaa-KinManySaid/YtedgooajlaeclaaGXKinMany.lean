/- 'carafe/carafelaw7.KinMany' returns true for all arguments: the row as given, no condition. -/
import Derived.Test.YtedgooajlaeclaaRows
import Derived.Test.YtedgooajlaeclaaGXEntsKinManyAt0
import Derived.Test.YtedgooajlaeclaaGXEntsKinManyAt8
import Derived.Test.YtedgooajlaeclaaGXEntsKinManyAt16
import Derived.Test.YtedgooajlaeclaaGXEntsKinManyAt24
import Derived.Test.YtedgooajlaeclaaGXEntsKinManyAt32
import Derived.Test.YtedgooajlaeclaaGXEntsKinManyAt40
import Derived.Test.YtedgooajlaeclaaGXEntsKinManyAt48
import Derived.Test.YtedgooajlaeclaaGXEntsKinManyAt56
import Derived.Test.YtedgooajlaeclaaGXCasesKinManyAt0
import Derived.Test.YtedgooajlaeclaaGXCasesKinManyAt4
import Derived.Test.YtedgooajlaeclaaGXCasesKinManyAt8
import Derived.Test.YtedgooajlaeclaaGXCasesKinManyAt12
import Derived.Test.YtedgooajlaeclaaGXCasesKinManyAt16
import Derived.Test.YtedgooajlaeclaaGXCasesKinManyAt20
import Derived.Test.YtedgooajlaeclaaGXCasesKinManyAt24
import Derived.Test.YtedgooajlaeclaaGXCasesKinManyAt28
import Derived.WalkKit
import Derived.ProofKit
import Derived.OpenShut
namespace Go.Proofs.Ytedgooajlaeclaa.kinMany
open Go.ChangeShapes Go.WideShapes Go.ChangeAt Go.RowKit
set_option linter.unusedVariables false      -- a walk need not use every 'w<i>' (that an integer argument fits its kind)

theorem own : ownKnob Try.prog.godebug = none := by kernel_rfl

/-! ### The call -/
open GX
theorem chain (l : List (Nat × List Int × Int)) : Chain (X1 l) 1000000 cKinMany.es58 := ⟨cKinMany.ok57 l, cKinMany.ok56 l, cKinMany.ok55 l, cKinMany.ok54 l, cKinMany.ok53 l, cKinMany.ok52 l, cKinMany.ok51 l, cKinMany.ok50 l, cKinMany.ok49 l, cKinMany.ok48 l, cKinMany.ok47 l, cKinMany.ok46 l, cKinMany.ok45 l, cKinMany.ok44 l, cKinMany.ok43 l, cKinMany.ok42 l, cKinMany.ok41 l, cKinMany.ok40 l, cKinMany.ok39 l, cKinMany.ok38 l, cKinMany.ok37 l, cKinMany.ok36 l, cKinMany.ok35 l, cKinMany.ok34 l, cKinMany.ok33 l, cKinMany.ok32 l, cKinMany.ok31 l, cKinMany.ok30 l, cKinMany.ok29 l, cKinMany.ok28 l, cKinMany.ok27 l, cKinMany.ok26 l, cKinMany.ok25 l, cKinMany.ok24 l, cKinMany.ok23 l, cKinMany.ok22 l, cKinMany.ok21 l, cKinMany.ok20 l, cKinMany.ok19 l, cKinMany.ok18 l, cKinMany.ok17 l, cKinMany.ok16 l, cKinMany.ok15 l, cKinMany.ok14 l, cKinMany.ok13 l, cKinMany.ok12 l, cKinMany.ok11 l, cKinMany.ok10 l, cKinMany.ok9 l, cKinMany.ok8 l, cKinMany.ok7 l, cKinMany.ok6 l, cKinMany.ok5 l, cKinMany.ok4 l, cKinMany.ok3 l, cKinMany.ok2 l, cKinMany.ok1 l, cKinMany.ok0 l, trivial⟩
set_option maxRecDepth 1000000 in
theorem own_road (l : List (Nat × List Int × Int)) : (Xs (X1 l) 1000000 cKinMany.es58).ext 4 = none := by kernel_rfl
theorem at_case (a0 : Int) (w : World) (c0 m0 : Int) (h0 : a0 % (m0 + 1) = c0) (k0 : 0 ≤ m0 ∧ m0 ≤ 1000)
    (h : says2 cKinMany.es58 [(0, [0, m0], c0)] 4 [.sym .i64 0] = true) :
    Calls Try.prog 4 #[.int .i64 a0] w fun e w' => e = .returned (.bool true) ∧ Below w.heap.size w w' := by
  letI : Val := ⟨fun i => match i with  | _ => a0, fun _ => none⟩
  refine says2_calls _ _ 4 _ _ ?_ (chain _) (own_road _) h ⟨_, _, rfl, rfl, rfl⟩ w (fun _ _ h => by cases h)
  intro i ms c hi w
  simp only [List.mem_cons, Prod.mk.injEq, List.not_mem_nil, or_false] at hi
  obtain ⟨rfl, rfl, rfl⟩ := hi
  · rw [← h0]; exact within_any a0 m0 k0 w
theorem walk (a0 : Int) (_w0 : (Lit.int .i64 a0).wf = true) (w : World) :
    Calls Try.prog 4 #[.int .i64 a0] w fun e w' => e = .returned (.bool true) ∧ Below w.heap.size w w' := by
  have h0 := Int.emod_nonneg a0 (show (30 : Int) + 1 ≠ 0 by omega)
  have g0 := Int.emod_lt_of_pos a0 (show (0 : Int) < 30 + 1 by omega)
  have k0 : a0 % (30 + 1) = 0 ∨ a0 % (30 + 1) = 1 ∨ a0 % (30 + 1) = 2 ∨ a0 % (30 + 1) = 3 ∨ a0 % (30 + 1) = 4 ∨ a0 % (30 + 1) = 5 ∨ a0 % (30 + 1) = 6 ∨ a0 % (30 + 1) = 7 ∨ a0 % (30 + 1) = 8 ∨ a0 % (30 + 1) = 9 ∨ a0 % (30 + 1) = 10 ∨ a0 % (30 + 1) = 11 ∨ a0 % (30 + 1) = 12 ∨ a0 % (30 + 1) = 13 ∨ a0 % (30 + 1) = 14 ∨ a0 % (30 + 1) = 15 ∨ a0 % (30 + 1) = 16 ∨ a0 % (30 + 1) = 17 ∨ a0 % (30 + 1) = 18 ∨ a0 % (30 + 1) = 19 ∨ a0 % (30 + 1) = 20 ∨ a0 % (30 + 1) = 21 ∨ a0 % (30 + 1) = 22 ∨ a0 % (30 + 1) = 23 ∨ a0 % (30 + 1) = 24 ∨ a0 % (30 + 1) = 25 ∨ a0 % (30 + 1) = 26 ∨ a0 % (30 + 1) = 27 ∨ a0 % (30 + 1) = 28 ∨ a0 % (30 + 1) = 29 ∨ a0 % (30 + 1) = 30 := by omega
  rcases k0 with k0 | k0 | k0 | k0 | k0 | k0 | k0 | k0 | k0 | k0 | k0 | k0 | k0 | k0 | k0 | k0 | k0 | k0 | k0 | k0 | k0 | k0 | k0 | k0 | k0 | k0 | k0 | k0 | k0 | k0 | k0
  · exact at_case a0 w 0 30 k0 (by omega) cKinMany.case0
  · exact at_case a0 w 1 30 k0 (by omega) cKinMany.case1
  · exact at_case a0 w 2 30 k0 (by omega) cKinMany.case2
  · exact at_case a0 w 3 30 k0 (by omega) cKinMany.case3
  · exact at_case a0 w 4 30 k0 (by omega) cKinMany.case4
  · exact at_case a0 w 5 30 k0 (by omega) cKinMany.case5
  · exact at_case a0 w 6 30 k0 (by omega) cKinMany.case6
  · exact at_case a0 w 7 30 k0 (by omega) cKinMany.case7
  · exact at_case a0 w 8 30 k0 (by omega) cKinMany.case8
  · exact at_case a0 w 9 30 k0 (by omega) cKinMany.case9
  · exact at_case a0 w 10 30 k0 (by omega) cKinMany.case10
  · exact at_case a0 w 11 30 k0 (by omega) cKinMany.case11
  · exact at_case a0 w 12 30 k0 (by omega) cKinMany.case12
  · exact at_case a0 w 13 30 k0 (by omega) cKinMany.case13
  · exact at_case a0 w 14 30 k0 (by omega) cKinMany.case14
  · exact at_case a0 w 15 30 k0 (by omega) cKinMany.case15
  · exact at_case a0 w 16 30 k0 (by omega) cKinMany.case16
  · exact at_case a0 w 17 30 k0 (by omega) cKinMany.case17
  · exact at_case a0 w 18 30 k0 (by omega) cKinMany.case18
  · exact at_case a0 w 19 30 k0 (by omega) cKinMany.case19
  · exact at_case a0 w 20 30 k0 (by omega) cKinMany.case20
  · exact at_case a0 w 21 30 k0 (by omega) cKinMany.case21
  · exact at_case a0 w 22 30 k0 (by omega) cKinMany.case22
  · exact at_case a0 w 23 30 k0 (by omega) cKinMany.case23
  · exact at_case a0 w 24 30 k0 (by omega) cKinMany.case24
  · exact at_case a0 w 25 30 k0 (by omega) cKinMany.case25
  · exact at_case a0 w 26 30 k0 (by omega) cKinMany.case26
  · exact at_case a0 w 27 30 k0 (by omega) cKinMany.case27
  · exact at_case a0 w 28 30 k0 (by omega) cKinMany.case28
  · exact at_case a0 w 29 30 k0 (by omega) cKinMany.case29
  · exact at_case a0 w 30 30 k0 (by omega) cKinMany.case30

/-! ### THE ROW's STEP: WRITTEN OUT: LEAVE IT -/
set_option maxRecDepth 100000 in
theorem lifted (os : Os) (started : os.Started) (H : Type) (enc : TypeId × Value → H) :
    ReturnsInHanded {} Try.checked os 4 .any (Rows.kinManySpec.pre6 enc Try.prog Try.f4 Rows.kinManyRow.domain false) (Rows.kinManySpec.post enc Try.prog Try.f4 false true false false) := by
  refine returnsInHanded_of_change (C := Try.checked) own started (by kernel_rfl) Try.func4
    (ChangeSpec.witness6 (enc := enc) (C := Try.checked) false ⟨#[], #[.int .i64 0], []⟩ 8 (by kernel_rfl) (by kernel_rfl) (by kernel_rfl) (by kernel_rfl)) ?_
  intro W base args ds gs before hval0 hW hcnd _
  have hval : ∀ (j : Nat) t v, Try.f4.params[j]? = some t → args[j]? = some v → Value.okWide Try.prog W .any base t v := hval0
  have hW' := hW
  obtain ⟨p, q, hA0, hV, rfl, hfz, hnd⟩ := hW
  have hA : DataW.TrodAll enc Try.prog W 0 (fun _ => true) true Try.f4.params.toList args.toList ds p := hA0
  rw [Try.params4] at hA hval
  obtain ⟨v0, vs0, d0, ds0, p0, q0, hargs, rfl, rfl, h0, r0⟩ := trodAll_cons hA
  obtain ⟨rfl, rfl, rfl⟩ := trodAll_nil r0
  obtain rfl : args = #[v0] := by cases args; simp_all
  obtain ⟨rfl, rfl⟩ := trodVars_none hV
  obtain ⟨a0, rfl, rfl, rfl, w0⟩ := open_int Try.underlying3 (hval 0 3 v0 rfl rfl) h0
  clear hA0 hval0
  simp only [List.append_nil] at hW'
  refine (walk a0 w0 W).mono fun e W' ⟨he, hg⟩ => ?_
  subst he
  exact ⟨_, rfl, post_kept (pa := []) (pv := []) hg hW' (fun _ _ _ => (trodAll_cons_mk (shut_bool Try.underlying4 _) trodAll_mk0)) (fun sp _ => (trodAll_cons_mk (shut_int Try.underlying3 w0) trodAll_mk0)) (fun _ _ => rfl) rfl
    (ok_one (by kernel_rfl) rfl (okWide_bool_mk Try.underlying4 _))⟩

theorem over : Rows.kinManyRow.holds Try.pinned (OpenSpec.ofChange Rows.kinManySpec) :=
  OpenClaim.holds_of_wide 4 Try.f4 rfl rfl rfl rfl rfl rfl rfl ⟨rfl, rfl, rfl, rfl, rfl⟩ rfl rfl rfl rfl rfl (by kernel_rfl) Try.func4 (by kernel_rfl)
    (of_decide_eq_true (by kernel_rfl)) (by unfold Func.isWrapper; first | (rw [if_pos (by decide +kernel)]; kernel_rfl) | (rw [if_neg (by decide +kernel)]; exact ⟨rfl, rfl⟩))
    (fun os started H enc _ => lifted os started H enc)

/-- ████ THE STATEMENT ████ -/
theorem proved : Rows.KinManySaid :=
  over
end Go.Proofs.Ytedgooajlaeclaa.kinMany
