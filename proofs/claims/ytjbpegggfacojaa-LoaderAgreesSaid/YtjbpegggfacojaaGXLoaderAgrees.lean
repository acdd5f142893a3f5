/- 'carafe/carafelaw15.LoaderAgrees' returns true for all arguments: the row as given, no condition. -/
import Derived.Test.YtjbpegggfacojaaRows
import Derived.Test.YtjbpegggfacojaaGXCase0
import Derived.Test.YtjbpegggfacojaaGXCase1
import Derived.Test.YtjbpegggfacojaaGXCase2
import Derived.Test.YtjbpegggfacojaaGXCase3
import Derived.Test.YtjbpegggfacojaaGXCase4
import Derived.Test.YtjbpegggfacojaaGXCase5
import Derived.Test.YtjbpegggfacojaaGXCase6
import Derived.Test.YtjbpegggfacojaaGXCase7
import Derived.Test.YtjbpegggfacojaaGXCase8
import Derived.WalkKit
import Derived.ProofKit
import Derived.OpenShut
namespace Go.Proofs.Ytjbpegggfacojaa.loaderAgrees
open Go.ChangeShapes Go.WideShapes Go.ChangeAt Go.RowKit
set_option linter.unusedVariables false      -- a walk need not use every 'w<i>' (that an integer argument fits its kind)

theorem own : ownKnob Try.prog.godebug = none := by kernel_rfl

/-! ### The call -/
open GX
theorem at_case (a0 a1 : Int) (a2 : Bool) (w0 : (Lit.int .i64 a0).wf = true) (w1 : (Lit.int .i64 a1).wf = true) (w : World) (c0 c1 m : Int) (h0 : wz a0 8 = c0) (h1 : wz a1 m = c1) (hm : 0 ≤ m ∧ m ≤ 1000)
    (h : says1 [(0, [8], c0), (1, [m], c1)] 4 [.sym .i64 0, .sym .i64 1, .bool a2] = true) :
    Calls Try.prog 4 #[.int .i64 a0, .int .i64 a1, .bool a2] w fun e w' => e = .returned (.bool true) ∧ Below w.heap.size w w' := by
  letI : Val := ⟨fun i => match i with | 0 => a0 | _ => a1⟩
  have r0 : -9223372036854775808 ≤ a0 ∧ a0 ≤ 9223372036854775807 := by have := w0; simp [Lit.wf, IntKind.min, IntKind.max, IntKind.signed, IntKind.bits] at this; omega
  have r1 : -9223372036854775808 ≤ a1 ∧ a1 ≤ 9223372036854775807 := by have := w1; simp [Lit.wf, IntKind.min, IntKind.max, IntKind.signed, IntKind.bits] at this; omega
  refine says1_calls _ 4 _ _ ?_ rfl h ⟨_, _, rfl, rfl, _, _, rfl, rfl, _, _, rfl, rfl, rfl⟩ w
  intro i ms c hi w
  simp only [List.mem_cons, Prod.mk.injEq, List.not_mem_nil, or_false] at hi
  rcases hi with ⟨rfl, rfl, rfl⟩ | ⟨rfl, rfl, rfl⟩
  · rw [← h0]; exact within_any a0 8 r0 (by omega) w
  · rw [← h1]; exact within_any a1 m r1 hm w

theorem walk (a0 : Int) (a1 : Int) (a2 : Bool) (w0 : (Lit.int .i64 a0).wf = true) (w1 : (Lit.int .i64 a1).wf = true) (w : World) :
    Calls Try.prog 4 #[.int .i64 a0, .int .i64 a1, .bool a2] w fun e w' => e = .returned (.bool true) ∧ Below w.heap.size w w' := by
  have h0 := wz_range a0 8 (by omega)
  have k0 : wz a0 8 = 0 ∨ wz a0 8 = 1 ∨ wz a0 8 = 2 ∨ wz a0 8 = 3 ∨ wz a0 8 = 4 ∨ wz a0 8 = 5 ∨ wz a0 8 = 6 ∨ wz a0 8 = 7 ∨ wz a0 8 = 8 := by omega
  rcases k0 with k0 | k0 | k0 | k0 | k0 | k0 | k0 | k0 | k0
  · have h1 := wz_range a1 1 (by omega)
    have k1 : wz a1 1 = 0 ∨ wz a1 1 = 1 := by omega
    rcases k1 with k1 | k1 <;> cases a2
    · exact at_case a0 a1 false w0 w1 w 0 0 1 k0 k1 (by omega) case0at0false
    · exact at_case a0 a1 true w0 w1 w 0 0 1 k0 k1 (by omega) case0at0true
    · exact at_case a0 a1 false w0 w1 w 0 1 1 k0 k1 (by omega) case0at1false
    · exact at_case a0 a1 true w0 w1 w 0 1 1 k0 k1 (by omega) case0at1true
  · have h1 := wz_range a1 2 (by omega)
    have k1 : wz a1 2 = 0 ∨ wz a1 2 = 1 ∨ wz a1 2 = 2 := by omega
    rcases k1 with k1 | k1 | k1 <;> cases a2
    · exact at_case a0 a1 false w0 w1 w 1 0 2 k0 k1 (by omega) case1at0false
    · exact at_case a0 a1 true w0 w1 w 1 0 2 k0 k1 (by omega) case1at0true
    · exact at_case a0 a1 false w0 w1 w 1 1 2 k0 k1 (by omega) case1at1false
    · exact at_case a0 a1 true w0 w1 w 1 1 2 k0 k1 (by omega) case1at1true
    · exact at_case a0 a1 false w0 w1 w 1 2 2 k0 k1 (by omega) case1at2false
    · exact at_case a0 a1 true w0 w1 w 1 2 2 k0 k1 (by omega) case1at2true
  · have h1 := wz_range a1 3 (by omega)
    have k1 : wz a1 3 = 0 ∨ wz a1 3 = 1 ∨ wz a1 3 = 2 ∨ wz a1 3 = 3 := by omega
    rcases k1 with k1 | k1 | k1 | k1 <;> cases a2
    · exact at_case a0 a1 false w0 w1 w 2 0 3 k0 k1 (by omega) case2at0false
    · exact at_case a0 a1 true w0 w1 w 2 0 3 k0 k1 (by omega) case2at0true
    · exact at_case a0 a1 false w0 w1 w 2 1 3 k0 k1 (by omega) case2at1false
    · exact at_case a0 a1 true w0 w1 w 2 1 3 k0 k1 (by omega) case2at1true
    · exact at_case a0 a1 false w0 w1 w 2 2 3 k0 k1 (by omega) case2at2false
    · exact at_case a0 a1 true w0 w1 w 2 2 3 k0 k1 (by omega) case2at2true
    · exact at_case a0 a1 false w0 w1 w 2 3 3 k0 k1 (by omega) case2at3false
    · exact at_case a0 a1 true w0 w1 w 2 3 3 k0 k1 (by omega) case2at3true
  · have h1 := wz_range a1 4 (by omega)
    have k1 : wz a1 4 = 0 ∨ wz a1 4 = 1 ∨ wz a1 4 = 2 ∨ wz a1 4 = 3 ∨ wz a1 4 = 4 := by omega
    rcases k1 with k1 | k1 | k1 | k1 | k1 <;> cases a2
    · exact at_case a0 a1 false w0 w1 w 3 0 4 k0 k1 (by omega) case3at0false
    · exact at_case a0 a1 true w0 w1 w 3 0 4 k0 k1 (by omega) case3at0true
    · exact at_case a0 a1 false w0 w1 w 3 1 4 k0 k1 (by omega) case3at1false
    · exact at_case a0 a1 true w0 w1 w 3 1 4 k0 k1 (by omega) case3at1true
    · exact at_case a0 a1 false w0 w1 w 3 2 4 k0 k1 (by omega) case3at2false
    · exact at_case a0 a1 true w0 w1 w 3 2 4 k0 k1 (by omega) case3at2true
    · exact at_case a0 a1 false w0 w1 w 3 3 4 k0 k1 (by omega) case3at3false
    · exact at_case a0 a1 true w0 w1 w 3 3 4 k0 k1 (by omega) case3at3true
    · exact at_case a0 a1 false w0 w1 w 3 4 4 k0 k1 (by omega) case3at4false
    · exact at_case a0 a1 true w0 w1 w 3 4 4 k0 k1 (by omega) case3at4true
  · have h1 := wz_range a1 5 (by omega)
    have k1 : wz a1 5 = 0 ∨ wz a1 5 = 1 ∨ wz a1 5 = 2 ∨ wz a1 5 = 3 ∨ wz a1 5 = 4 ∨ wz a1 5 = 5 := by omega
    rcases k1 with k1 | k1 | k1 | k1 | k1 | k1 <;> cases a2
    · exact at_case a0 a1 false w0 w1 w 4 0 5 k0 k1 (by omega) case4at0false
    · exact at_case a0 a1 true w0 w1 w 4 0 5 k0 k1 (by omega) case4at0true
    · exact at_case a0 a1 false w0 w1 w 4 1 5 k0 k1 (by omega) case4at1false
    · exact at_case a0 a1 true w0 w1 w 4 1 5 k0 k1 (by omega) case4at1true
    · exact at_case a0 a1 false w0 w1 w 4 2 5 k0 k1 (by omega) case4at2false
    · exact at_case a0 a1 true w0 w1 w 4 2 5 k0 k1 (by omega) case4at2true
    · exact at_case a0 a1 false w0 w1 w 4 3 5 k0 k1 (by omega) case4at3false
    · exact at_case a0 a1 true w0 w1 w 4 3 5 k0 k1 (by omega) case4at3true
    · exact at_case a0 a1 false w0 w1 w 4 4 5 k0 k1 (by omega) case4at4false
    · exact at_case a0 a1 true w0 w1 w 4 4 5 k0 k1 (by omega) case4at4true
    · exact at_case a0 a1 false w0 w1 w 4 5 5 k0 k1 (by omega) case4at5false
    · exact at_case a0 a1 true w0 w1 w 4 5 5 k0 k1 (by omega) case4at5true
  · have h1 := wz_range a1 6 (by omega)
    have k1 : wz a1 6 = 0 ∨ wz a1 6 = 1 ∨ wz a1 6 = 2 ∨ wz a1 6 = 3 ∨ wz a1 6 = 4 ∨ wz a1 6 = 5 ∨ wz a1 6 = 6 := by omega
    rcases k1 with k1 | k1 | k1 | k1 | k1 | k1 | k1 <;> cases a2
    · exact at_case a0 a1 false w0 w1 w 5 0 6 k0 k1 (by omega) case5at0false
    · exact at_case a0 a1 true w0 w1 w 5 0 6 k0 k1 (by omega) case5at0true
    · exact at_case a0 a1 false w0 w1 w 5 1 6 k0 k1 (by omega) case5at1false
    · exact at_case a0 a1 true w0 w1 w 5 1 6 k0 k1 (by omega) case5at1true
    · exact at_case a0 a1 false w0 w1 w 5 2 6 k0 k1 (by omega) case5at2false
    · exact at_case a0 a1 true w0 w1 w 5 2 6 k0 k1 (by omega) case5at2true
    · exact at_case a0 a1 false w0 w1 w 5 3 6 k0 k1 (by omega) case5at3false
    · exact at_case a0 a1 true w0 w1 w 5 3 6 k0 k1 (by omega) case5at3true
    · exact at_case a0 a1 false w0 w1 w 5 4 6 k0 k1 (by omega) case5at4false
    · exact at_case a0 a1 true w0 w1 w 5 4 6 k0 k1 (by omega) case5at4true
    · exact at_case a0 a1 false w0 w1 w 5 5 6 k0 k1 (by omega) case5at5false
    · exact at_case a0 a1 true w0 w1 w 5 5 6 k0 k1 (by omega) case5at5true
    · exact at_case a0 a1 false w0 w1 w 5 6 6 k0 k1 (by omega) case5at6false
    · exact at_case a0 a1 true w0 w1 w 5 6 6 k0 k1 (by omega) case5at6true
  · have h1 := wz_range a1 7 (by omega)
    have k1 : wz a1 7 = 0 ∨ wz a1 7 = 1 ∨ wz a1 7 = 2 ∨ wz a1 7 = 3 ∨ wz a1 7 = 4 ∨ wz a1 7 = 5 ∨ wz a1 7 = 6 ∨ wz a1 7 = 7 := by omega
    rcases k1 with k1 | k1 | k1 | k1 | k1 | k1 | k1 | k1 <;> cases a2
    · exact at_case a0 a1 false w0 w1 w 6 0 7 k0 k1 (by omega) case6at0false
    · exact at_case a0 a1 true w0 w1 w 6 0 7 k0 k1 (by omega) case6at0true
    · exact at_case a0 a1 false w0 w1 w 6 1 7 k0 k1 (by omega) case6at1false
    · exact at_case a0 a1 true w0 w1 w 6 1 7 k0 k1 (by omega) case6at1true
    · exact at_case a0 a1 false w0 w1 w 6 2 7 k0 k1 (by omega) case6at2false
    · exact at_case a0 a1 true w0 w1 w 6 2 7 k0 k1 (by omega) case6at2true
    · exact at_case a0 a1 false w0 w1 w 6 3 7 k0 k1 (by omega) case6at3false
    · exact at_case a0 a1 true w0 w1 w 6 3 7 k0 k1 (by omega) case6at3true
    · exact at_case a0 a1 false w0 w1 w 6 4 7 k0 k1 (by omega) case6at4false
    · exact at_case a0 a1 true w0 w1 w 6 4 7 k0 k1 (by omega) case6at4true
    · exact at_case a0 a1 false w0 w1 w 6 5 7 k0 k1 (by omega) case6at5false
    · exact at_case a0 a1 true w0 w1 w 6 5 7 k0 k1 (by omega) case6at5true
    · exact at_case a0 a1 false w0 w1 w 6 6 7 k0 k1 (by omega) case6at6false
    · exact at_case a0 a1 true w0 w1 w 6 6 7 k0 k1 (by omega) case6at6true
    · exact at_case a0 a1 false w0 w1 w 6 7 7 k0 k1 (by omega) case6at7false
    · exact at_case a0 a1 true w0 w1 w 6 7 7 k0 k1 (by omega) case6at7true
  · have h1 := wz_range a1 8 (by omega)
    have k1 : wz a1 8 = 0 ∨ wz a1 8 = 1 ∨ wz a1 8 = 2 ∨ wz a1 8 = 3 ∨ wz a1 8 = 4 ∨ wz a1 8 = 5 ∨ wz a1 8 = 6 ∨ wz a1 8 = 7 ∨ wz a1 8 = 8 := by omega
    rcases k1 with k1 | k1 | k1 | k1 | k1 | k1 | k1 | k1 | k1 <;> cases a2
    · exact at_case a0 a1 false w0 w1 w 7 0 8 k0 k1 (by omega) case7at0false
    · exact at_case a0 a1 true w0 w1 w 7 0 8 k0 k1 (by omega) case7at0true
    · exact at_case a0 a1 false w0 w1 w 7 1 8 k0 k1 (by omega) case7at1false
    · exact at_case a0 a1 true w0 w1 w 7 1 8 k0 k1 (by omega) case7at1true
    · exact at_case a0 a1 false w0 w1 w 7 2 8 k0 k1 (by omega) case7at2false
    · exact at_case a0 a1 true w0 w1 w 7 2 8 k0 k1 (by omega) case7at2true
    · exact at_case a0 a1 false w0 w1 w 7 3 8 k0 k1 (by omega) case7at3false
    · exact at_case a0 a1 true w0 w1 w 7 3 8 k0 k1 (by omega) case7at3true
    · exact at_case a0 a1 false w0 w1 w 7 4 8 k0 k1 (by omega) case7at4false
    · exact at_case a0 a1 true w0 w1 w 7 4 8 k0 k1 (by omega) case7at4true
    · exact at_case a0 a1 false w0 w1 w 7 5 8 k0 k1 (by omega) case7at5false
    · exact at_case a0 a1 true w0 w1 w 7 5 8 k0 k1 (by omega) case7at5true
    · exact at_case a0 a1 false w0 w1 w 7 6 8 k0 k1 (by omega) case7at6false
    · exact at_case a0 a1 true w0 w1 w 7 6 8 k0 k1 (by omega) case7at6true
    · exact at_case a0 a1 false w0 w1 w 7 7 8 k0 k1 (by omega) case7at7false
    · exact at_case a0 a1 true w0 w1 w 7 7 8 k0 k1 (by omega) case7at7true
    · exact at_case a0 a1 false w0 w1 w 7 8 8 k0 k1 (by omega) case7at8false
    · exact at_case a0 a1 true w0 w1 w 7 8 8 k0 k1 (by omega) case7at8true
  · have h1 := wz_range a1 9 (by omega)
    have k1 : wz a1 9 = 0 ∨ wz a1 9 = 1 ∨ wz a1 9 = 2 ∨ wz a1 9 = 3 ∨ wz a1 9 = 4 ∨ wz a1 9 = 5 ∨ wz a1 9 = 6 ∨ wz a1 9 = 7 ∨ wz a1 9 = 8 ∨ wz a1 9 = 9 := by omega
    rcases k1 with k1 | k1 | k1 | k1 | k1 | k1 | k1 | k1 | k1 | k1 <;> cases a2
    · exact at_case a0 a1 false w0 w1 w 8 0 9 k0 k1 (by omega) case8at0false
    · exact at_case a0 a1 true w0 w1 w 8 0 9 k0 k1 (by omega) case8at0true
    · exact at_case a0 a1 false w0 w1 w 8 1 9 k0 k1 (by omega) case8at1false
    · exact at_case a0 a1 true w0 w1 w 8 1 9 k0 k1 (by omega) case8at1true
    · exact at_case a0 a1 false w0 w1 w 8 2 9 k0 k1 (by omega) case8at2false
    · exact at_case a0 a1 true w0 w1 w 8 2 9 k0 k1 (by omega) case8at2true
    · exact at_case a0 a1 false w0 w1 w 8 3 9 k0 k1 (by omega) case8at3false
    · exact at_case a0 a1 true w0 w1 w 8 3 9 k0 k1 (by omega) case8at3true
    · exact at_case a0 a1 false w0 w1 w 8 4 9 k0 k1 (by omega) case8at4false
    · exact at_case a0 a1 true w0 w1 w 8 4 9 k0 k1 (by omega) case8at4true
    · exact at_case a0 a1 false w0 w1 w 8 5 9 k0 k1 (by omega) case8at5false
    · exact at_case a0 a1 true w0 w1 w 8 5 9 k0 k1 (by omega) case8at5true
    · exact at_case a0 a1 false w0 w1 w 8 6 9 k0 k1 (by omega) case8at6false
    · exact at_case a0 a1 true w0 w1 w 8 6 9 k0 k1 (by omega) case8at6true
    · exact at_case a0 a1 false w0 w1 w 8 7 9 k0 k1 (by omega) case8at7false
    · exact at_case a0 a1 true w0 w1 w 8 7 9 k0 k1 (by omega) case8at7true
    · exact at_case a0 a1 false w0 w1 w 8 8 9 k0 k1 (by omega) case8at8false
    · exact at_case a0 a1 true w0 w1 w 8 8 9 k0 k1 (by omega) case8at8true
    · exact at_case a0 a1 false w0 w1 w 8 9 9 k0 k1 (by omega) case8at9false
    · exact at_case a0 a1 true w0 w1 w 8 9 9 k0 k1 (by omega) case8at9true

/-! ### THE ROW's STEP: WRITTEN OUT: LEAVE IT -/
set_option maxRecDepth 100000 in
theorem lifted (os : Os) (started : os.Started) (H : Type) (enc : TypeId × Value → H) :
    ReturnsInHanded {} Try.checked os 4 .any (Rows.loaderAgreesSpec.pre6 enc Try.prog Try.f4 Rows.loaderAgreesRow.domain false) (Rows.loaderAgreesSpec.post enc Try.prog Try.f4 false true false false) := by
  refine returnsInHanded_of_change (C := Try.checked) own started (by kernel_rfl) Try.func4
    (ChangeSpec.witness6 (enc := enc) (C := Try.checked) false ⟨#[], #[.int .i64 0, .int .i64 0, .bool false], []⟩ 8 (by kernel_rfl) (by kernel_rfl) (by kernel_rfl) (by kernel_rfl)) ?_
  intro W base args ds gs before hval0 hW hcnd _
  have hval : ∀ (j : Nat) t v, Try.f4.params[j]? = some t → args[j]? = some v → Value.okWide Try.prog W .any base t v := hval0
  have hW' := hW
  obtain ⟨p, q, hA0, hV, rfl, hfz, hnd⟩ := hW
  have hA : DataW.TrodAll enc Try.prog W 0 (fun _ => true) true Try.f4.params.toList args.toList ds p := hA0
  rw [Try.params4] at hA hval
  obtain ⟨v0, vs0, d0, ds0, p0, q0, hargs, rfl, rfl, h0, r0⟩ := trodAll_cons hA
  obtain ⟨v1, vs1, d1, ds1, p1, q1, rfl, rfl, rfl, h1, r1⟩ := trodAll_cons r0
  obtain ⟨v2, vs2, d2, ds2, p2, q2, rfl, rfl, rfl, h2, r2⟩ := trodAll_cons r1
  obtain ⟨rfl, rfl, rfl⟩ := trodAll_nil r2
  obtain rfl : args = #[v0, v1, v2] := by cases args; simp_all
  obtain ⟨rfl, rfl⟩ := trodVars_none hV
  obtain ⟨a0, rfl, rfl, rfl, w0⟩ := open_int Try.underlying3 (hval 0 3 v0 rfl rfl) h0
  obtain ⟨a1, rfl, rfl, rfl, w1⟩ := open_int Try.underlying3 (hval 1 3 v1 rfl rfl) h1
  obtain ⟨a2, rfl, rfl, rfl⟩ := open_bool Try.underlying4 (hval 2 4 v2 rfl rfl) h2
  clear hA0 hval0
  simp only [List.append_nil] at hW'
  refine (walk a0 a1 a2 w0 w1 W).mono fun e W' ⟨he, hg⟩ => ?_
  subst he
  exact ⟨_, rfl, post_kept (pa := []) (pv := []) hg hW' (fun _ _ _ => (trodAll_cons_mk (shut_bool Try.underlying4 _) trodAll_mk0)) (fun sp _ => (trodAll_cons_mk (shut_int Try.underlying3 w0) (trodAll_cons_mk (shut_int Try.underlying3 w1) (trodAll_cons_mk (shut_bool Try.underlying4 _) trodAll_mk0)))) (fun _ _ => rfl) rfl
    (ok_one (by kernel_rfl) rfl (okWide_bool_mk Try.underlying4 _))⟩

theorem over : Rows.loaderAgreesRow.holds Try.pinned (OpenSpec.ofChange Rows.loaderAgreesSpec) :=
  OpenClaim.holds_of_wide 4 Try.f4 rfl rfl rfl rfl rfl rfl rfl ⟨rfl, rfl, rfl, rfl, rfl⟩ rfl rfl rfl rfl rfl (by kernel_rfl) Try.func4 (by kernel_rfl)
    (of_decide_eq_true (by kernel_rfl)) (by unfold Func.isWrapper; first | (rw [if_pos (by decide +kernel)]; kernel_rfl) | (rw [if_neg (by decide +kernel)]; exact ⟨rfl, rfl⟩))
    (fun os started H enc _ => lifted os started H enc)

/-- ████ THE STATEMENT ████ -/
theorem proved : Rows.LoaderAgreesSaid :=
  over
end Go.Proofs.Ytjbpegggfacojaa.loaderAgrees
