/- 'carafe/carafelaw7.KinFinds' returns true for all arguments: the row as given, no condition. -/
import Derived.Test.YtedgooajlaeclaaRows
import Derived.Test.YtedgooajlaeclaaGXEntsKinFindsAt0
import Derived.Test.YtedgooajlaeclaaGXEntsKinFindsAt16
import Derived.Test.YtedgooajlaeclaaGXEntsKinFindsAt32
import Derived.Test.YtedgooajlaeclaaGXEntsKinFindsAt48
import Derived.Test.YtedgooajlaeclaaGXEntsKinFindsAt64
import Derived.Test.YtedgooajlaeclaaGXEntsKinFindsAt80
import Derived.Test.YtedgooajlaeclaaGXEntsKinFindsAt96
import Derived.Test.YtedgooajlaeclaaGXEntsKinFindsAt112
import Derived.Test.YtedgooajlaeclaaGXCasesKinFindsAt0
import Derived.Test.YtedgooajlaeclaaGXCasesKinFindsAt12
import Derived.Test.YtedgooajlaeclaaGXCasesKinFindsAt24
import Derived.Test.YtedgooajlaeclaaGXCasesKinFindsAt36
import Derived.Test.YtedgooajlaeclaaGXCasesKinFindsAt48
import Derived.Test.YtedgooajlaeclaaGXCasesKinFindsAt60
import Derived.Test.YtedgooajlaeclaaGXCasesKinFindsAt72
import Derived.Test.YtedgooajlaeclaaGXCasesKinFindsAt84
import Derived.Test.YtedgooajlaeclaaGXCasesKinFindsAt96
import Derived.Test.YtedgooajlaeclaaGXCasesKinFindsAt108
import Derived.Test.YtedgooajlaeclaaGXCasesKinFindsAt120
import Derived.Test.YtedgooajlaeclaaGXCasesKinFindsAt132
import Derived.Test.YtedgooajlaeclaaGXCasesKinFindsAt144
import Derived.Test.YtedgooajlaeclaaGXCasesKinFindsAt156
import Derived.WalkKit
import Derived.ProofKit
import Derived.OpenShut
namespace Go.Proofs.Ytedgooajlaeclaa.kinFinds
open Go.ChangeShapes Go.WideShapes Go.ChangeAt Go.RowKit
set_option linter.unusedVariables false      -- a walk need not use every 'w<i>' (that an integer argument fits its kind)

theorem own : ownKnob Try.prog.godebug = none := by kernel_rfl

/-! ### The call -/
open GX
theorem chain (l : List (Nat × List Int × Int)) : Chain (X1 l) 1000000 cKinFinds.es118 := ⟨cKinFinds.ok117 l, cKinFinds.ok116 l, cKinFinds.ok115 l, cKinFinds.ok114 l, cKinFinds.ok113 l, cKinFinds.ok112 l, cKinFinds.ok111 l, cKinFinds.ok110 l, cKinFinds.ok109 l, cKinFinds.ok108 l, cKinFinds.ok107 l, cKinFinds.ok106 l, cKinFinds.ok105 l, cKinFinds.ok104 l, cKinFinds.ok103 l, cKinFinds.ok102 l, cKinFinds.ok101 l, cKinFinds.ok100 l, cKinFinds.ok99 l, cKinFinds.ok98 l, cKinFinds.ok97 l, cKinFinds.ok96 l, cKinFinds.ok95 l, cKinFinds.ok94 l, cKinFinds.ok93 l, cKinFinds.ok92 l, cKinFinds.ok91 l, cKinFinds.ok90 l, cKinFinds.ok89 l, cKinFinds.ok88 l, cKinFinds.ok87 l, cKinFinds.ok86 l, cKinFinds.ok85 l, cKinFinds.ok84 l, cKinFinds.ok83 l, cKinFinds.ok82 l, cKinFinds.ok81 l, cKinFinds.ok80 l, cKinFinds.ok79 l, cKinFinds.ok78 l, cKinFinds.ok77 l, cKinFinds.ok76 l, cKinFinds.ok75 l, cKinFinds.ok74 l, cKinFinds.ok73 l, cKinFinds.ok72 l, cKinFinds.ok71 l, cKinFinds.ok70 l, cKinFinds.ok69 l, cKinFinds.ok68 l, cKinFinds.ok67 l, cKinFinds.ok66 l, cKinFinds.ok65 l, cKinFinds.ok64 l, cKinFinds.ok63 l, cKinFinds.ok62 l, cKinFinds.ok61 l, cKinFinds.ok60 l, cKinFinds.ok59 l, cKinFinds.ok58 l, cKinFinds.ok57 l, cKinFinds.ok56 l, cKinFinds.ok55 l, cKinFinds.ok54 l, cKinFinds.ok53 l, cKinFinds.ok52 l, cKinFinds.ok51 l, cKinFinds.ok50 l, cKinFinds.ok49 l, cKinFinds.ok48 l, cKinFinds.ok47 l, cKinFinds.ok46 l, cKinFinds.ok45 l, cKinFinds.ok44 l, cKinFinds.ok43 l, cKinFinds.ok42 l, cKinFinds.ok41 l, cKinFinds.ok40 l, cKinFinds.ok39 l, cKinFinds.ok38 l, cKinFinds.ok37 l, cKinFinds.ok36 l, cKinFinds.ok35 l, cKinFinds.ok34 l, cKinFinds.ok33 l, cKinFinds.ok32 l, cKinFinds.ok31 l, cKinFinds.ok30 l, cKinFinds.ok29 l, cKinFinds.ok28 l, cKinFinds.ok27 l, cKinFinds.ok26 l, cKinFinds.ok25 l, cKinFinds.ok24 l, cKinFinds.ok23 l, cKinFinds.ok22 l, cKinFinds.ok21 l, cKinFinds.ok20 l, cKinFinds.ok19 l, cKinFinds.ok18 l, cKinFinds.ok17 l, cKinFinds.ok16 l, cKinFinds.ok15 l, cKinFinds.ok14 l, cKinFinds.ok13 l, cKinFinds.ok12 l, cKinFinds.ok11 l, cKinFinds.ok10 l, cKinFinds.ok9 l, cKinFinds.ok8 l, cKinFinds.ok7 l, cKinFinds.ok6 l, cKinFinds.ok5 l, cKinFinds.ok4 l, cKinFinds.ok3 l, cKinFinds.ok2 l, cKinFinds.ok1 l, cKinFinds.ok0 l, trivial⟩
set_option maxRecDepth 1000000 in
theorem own_road (l : List (Nat × List Int × Int)) : (Xs (X1 l) 1000000 cKinFinds.es118).ext 3 = none := by kernel_rfl
theorem at_case (a0 : Int) (a1 : Int) (a2 : Int) (w : World) (c0 c1 c2 m0 m1 m2 : Int) (h0 : a0 % (m0 + 1) = c0) (k0 : 0 ≤ m0 ∧ m0 ≤ 1000) (h1 : a1 % (m1 + 1) = c1) (k1 : 0 ≤ m1 ∧ m1 ≤ 1000) (h2 : a2 % (m2 + 1) = c2) (k2 : 0 ≤ m2 ∧ m2 ≤ 1000)
    (h : says2 cKinFinds.es118 [(0, [0, m0], c0), (1, [0, m1], c1), (2, [0, m2], c2)] 3 [.sym .i64 0, .sym .i64 1, .sym .i64 2] = true) :
    Calls Try.prog 3 #[.int .i64 a0, .int .i64 a1, .int .i64 a2] w fun e w' => e = .returned (.bool true) ∧ Below w.heap.size w w' := by
  letI : Val := ⟨fun i => match i with | 0 => a0 | 1 => a1 | _ => a2, fun _ => none⟩
  refine says2_calls _ _ 3 _ _ ?_ (chain _) (own_road _) h ⟨_, _, rfl, rfl, ⟨_, _, rfl, rfl, ⟨_, _, rfl, rfl, rfl⟩⟩⟩ w (fun _ _ h => by cases h)
  intro i ms c hi w
  simp only [List.mem_cons, Prod.mk.injEq, List.not_mem_nil, or_false] at hi
  rcases hi with ⟨rfl, rfl, rfl⟩ | ⟨rfl, rfl, rfl⟩ | ⟨rfl, rfl, rfl⟩
  · rw [← h0]; exact within_any a0 m0 k0 w
  · rw [← h1]; exact within_any a1 m1 k1 w
  · rw [← h2]; exact within_any a2 m2 k2 w
theorem walk (a0 : Int) (a1 : Int) (a2 : Int) (_w0 : (Lit.int .i64 a0).wf = true) (_w1 : (Lit.int .i64 a1).wf = true) (_w2 : (Lit.int .i64 a2).wf = true) (w : World) :
    Calls Try.prog 3 #[.int .i64 a0, .int .i64 a1, .int .i64 a2] w fun e w' => e = .returned (.bool true) ∧ Below w.heap.size w w' := by
  have h0 := Int.emod_nonneg a0 (show (8 : Int) + 1 ≠ 0 by omega)
  have g0 := Int.emod_lt_of_pos a0 (show (0 : Int) < 8 + 1 by omega)
  have k0 : a0 % (8 + 1) = 0 ∨ a0 % (8 + 1) = 1 ∨ a0 % (8 + 1) = 2 ∨ a0 % (8 + 1) = 3 ∨ a0 % (8 + 1) = 4 ∨ a0 % (8 + 1) = 5 ∨ a0 % (8 + 1) = 6 ∨ a0 % (8 + 1) = 7 ∨ a0 % (8 + 1) = 8 := by omega
  rcases k0 with k0 | k0 | k0 | k0 | k0 | k0 | k0 | k0 | k0
  · have h1 := Int.emod_nonneg a1 (show (0 : Int) + 1 ≠ 0 by omega)
    have g1 := Int.emod_lt_of_pos a1 (show (0 : Int) < 0 + 1 by omega)
    have k1 : a1 % (0 + 1) = 0 := by omega
    have h2 := Int.emod_nonneg a2 (show (0 : Int) + 1 ≠ 0 by omega)
    have g2 := Int.emod_lt_of_pos a2 (show (0 : Int) < 0 + 1 by omega)
    have k2 : a2 % (0 + 1) = 0 := by omega
    exact at_case a0 a1 a2 w 0 0 0 8 0 0 k0 (by omega) k1 (by omega) k2 (by omega) cKinFinds.case0at0at0
  · have h1 := Int.emod_nonneg a1 (show (1 : Int) + 1 ≠ 0 by omega)
    have g1 := Int.emod_lt_of_pos a1 (show (0 : Int) < 1 + 1 by omega)
    have k1 : a1 % (1 + 1) = 0 ∨ a1 % (1 + 1) = 1 := by omega
    rcases k1 with k1 | k1
    · have h2 := Int.emod_nonneg a2 (show (1 : Int) + 1 ≠ 0 by omega)
      have g2 := Int.emod_lt_of_pos a2 (show (0 : Int) < 1 + 1 by omega)
      have k2 : a2 % (1 + 1) = 0 ∨ a2 % (1 + 1) = 1 := by omega
      rcases k2 with k2 | k2
      · exact at_case a0 a1 a2 w 1 0 0 8 1 1 k0 (by omega) k1 (by omega) k2 (by omega) cKinFinds.case1at0at0
      · exact at_case a0 a1 a2 w 1 0 1 8 1 1 k0 (by omega) k1 (by omega) k2 (by omega) cKinFinds.case1at0at1
    · have h2 := Int.emod_nonneg a2 (show (0 : Int) + 1 ≠ 0 by omega)
      have g2 := Int.emod_lt_of_pos a2 (show (0 : Int) < 0 + 1 by omega)
      have k2 : a2 % (0 + 1) = 0 := by omega
      exact at_case a0 a1 a2 w 1 1 0 8 1 0 k0 (by omega) k1 (by omega) k2 (by omega) cKinFinds.case1at1at0
  · have h1 := Int.emod_nonneg a1 (show (2 : Int) + 1 ≠ 0 by omega)
    have g1 := Int.emod_lt_of_pos a1 (show (0 : Int) < 2 + 1 by omega)
    have k1 : a1 % (2 + 1) = 0 ∨ a1 % (2 + 1) = 1 ∨ a1 % (2 + 1) = 2 := by omega
    rcases k1 with k1 | k1 | k1
    · have h2 := Int.emod_nonneg a2 (show (2 : Int) + 1 ≠ 0 by omega)
      have g2 := Int.emod_lt_of_pos a2 (show (0 : Int) < 2 + 1 by omega)
      have k2 : a2 % (2 + 1) = 0 ∨ a2 % (2 + 1) = 1 ∨ a2 % (2 + 1) = 2 := by omega
      rcases k2 with k2 | k2 | k2
      · exact at_case a0 a1 a2 w 2 0 0 8 2 2 k0 (by omega) k1 (by omega) k2 (by omega) cKinFinds.case2at0at0
      · exact at_case a0 a1 a2 w 2 0 1 8 2 2 k0 (by omega) k1 (by omega) k2 (by omega) cKinFinds.case2at0at1
      · exact at_case a0 a1 a2 w 2 0 2 8 2 2 k0 (by omega) k1 (by omega) k2 (by omega) cKinFinds.case2at0at2
    · have h2 := Int.emod_nonneg a2 (show (1 : Int) + 1 ≠ 0 by omega)
      have g2 := Int.emod_lt_of_pos a2 (show (0 : Int) < 1 + 1 by omega)
      have k2 : a2 % (1 + 1) = 0 ∨ a2 % (1 + 1) = 1 := by omega
      rcases k2 with k2 | k2
      · exact at_case a0 a1 a2 w 2 1 0 8 2 1 k0 (by omega) k1 (by omega) k2 (by omega) cKinFinds.case2at1at0
      · exact at_case a0 a1 a2 w 2 1 1 8 2 1 k0 (by omega) k1 (by omega) k2 (by omega) cKinFinds.case2at1at1
    · have h2 := Int.emod_nonneg a2 (show (0 : Int) + 1 ≠ 0 by omega)
      have g2 := Int.emod_lt_of_pos a2 (show (0 : Int) < 0 + 1 by omega)
      have k2 : a2 % (0 + 1) = 0 := by omega
      exact at_case a0 a1 a2 w 2 2 0 8 2 0 k0 (by omega) k1 (by omega) k2 (by omega) cKinFinds.case2at2at0
  · have h1 := Int.emod_nonneg a1 (show (3 : Int) + 1 ≠ 0 by omega)
    have g1 := Int.emod_lt_of_pos a1 (show (0 : Int) < 3 + 1 by omega)
    have k1 : a1 % (3 + 1) = 0 ∨ a1 % (3 + 1) = 1 ∨ a1 % (3 + 1) = 2 ∨ a1 % (3 + 1) = 3 := by omega
    rcases k1 with k1 | k1 | k1 | k1
    · have h2 := Int.emod_nonneg a2 (show (3 : Int) + 1 ≠ 0 by omega)
      have g2 := Int.emod_lt_of_pos a2 (show (0 : Int) < 3 + 1 by omega)
      have k2 : a2 % (3 + 1) = 0 ∨ a2 % (3 + 1) = 1 ∨ a2 % (3 + 1) = 2 ∨ a2 % (3 + 1) = 3 := by omega
      rcases k2 with k2 | k2 | k2 | k2
      · exact at_case a0 a1 a2 w 3 0 0 8 3 3 k0 (by omega) k1 (by omega) k2 (by omega) cKinFinds.case3at0at0
      · exact at_case a0 a1 a2 w 3 0 1 8 3 3 k0 (by omega) k1 (by omega) k2 (by omega) cKinFinds.case3at0at1
      · exact at_case a0 a1 a2 w 3 0 2 8 3 3 k0 (by omega) k1 (by omega) k2 (by omega) cKinFinds.case3at0at2
      · exact at_case a0 a1 a2 w 3 0 3 8 3 3 k0 (by omega) k1 (by omega) k2 (by omega) cKinFinds.case3at0at3
    · have h2 := Int.emod_nonneg a2 (show (2 : Int) + 1 ≠ 0 by omega)
      have g2 := Int.emod_lt_of_pos a2 (show (0 : Int) < 2 + 1 by omega)
      have k2 : a2 % (2 + 1) = 0 ∨ a2 % (2 + 1) = 1 ∨ a2 % (2 + 1) = 2 := by omega
      rcases k2 with k2 | k2 | k2
      · exact at_case a0 a1 a2 w 3 1 0 8 3 2 k0 (by omega) k1 (by omega) k2 (by omega) cKinFinds.case3at1at0
      · exact at_case a0 a1 a2 w 3 1 1 8 3 2 k0 (by omega) k1 (by omega) k2 (by omega) cKinFinds.case3at1at1
      · exact at_case a0 a1 a2 w 3 1 2 8 3 2 k0 (by omega) k1 (by omega) k2 (by omega) cKinFinds.case3at1at2
    · have h2 := Int.emod_nonneg a2 (show (1 : Int) + 1 ≠ 0 by omega)
      have g2 := Int.emod_lt_of_pos a2 (show (0 : Int) < 1 + 1 by omega)
      have k2 : a2 % (1 + 1) = 0 ∨ a2 % (1 + 1) = 1 := by omega
      rcases k2 with k2 | k2
      · exact at_case a0 a1 a2 w 3 2 0 8 3 1 k0 (by omega) k1 (by omega) k2 (by omega) cKinFinds.case3at2at0
      · exact at_case a0 a1 a2 w 3 2 1 8 3 1 k0 (by omega) k1 (by omega) k2 (by omega) cKinFinds.case3at2at1
    · have h2 := Int.emod_nonneg a2 (show (0 : Int) + 1 ≠ 0 by omega)
      have g2 := Int.emod_lt_of_pos a2 (show (0 : Int) < 0 + 1 by omega)
      have k2 : a2 % (0 + 1) = 0 := by omega
      exact at_case a0 a1 a2 w 3 3 0 8 3 0 k0 (by omega) k1 (by omega) k2 (by omega) cKinFinds.case3at3at0
  · have h1 := Int.emod_nonneg a1 (show (4 : Int) + 1 ≠ 0 by omega)
    have g1 := Int.emod_lt_of_pos a1 (show (0 : Int) < 4 + 1 by omega)
    have k1 : a1 % (4 + 1) = 0 ∨ a1 % (4 + 1) = 1 ∨ a1 % (4 + 1) = 2 ∨ a1 % (4 + 1) = 3 ∨ a1 % (4 + 1) = 4 := by omega
    rcases k1 with k1 | k1 | k1 | k1 | k1
    · have h2 := Int.emod_nonneg a2 (show (4 : Int) + 1 ≠ 0 by omega)
      have g2 := Int.emod_lt_of_pos a2 (show (0 : Int) < 4 + 1 by omega)
      have k2 : a2 % (4 + 1) = 0 ∨ a2 % (4 + 1) = 1 ∨ a2 % (4 + 1) = 2 ∨ a2 % (4 + 1) = 3 ∨ a2 % (4 + 1) = 4 := by omega
      rcases k2 with k2 | k2 | k2 | k2 | k2
      · exact at_case a0 a1 a2 w 4 0 0 8 4 4 k0 (by omega) k1 (by omega) k2 (by omega) cKinFinds.case4at0at0
      · exact at_case a0 a1 a2 w 4 0 1 8 4 4 k0 (by omega) k1 (by omega) k2 (by omega) cKinFinds.case4at0at1
      · exact at_case a0 a1 a2 w 4 0 2 8 4 4 k0 (by omega) k1 (by omega) k2 (by omega) cKinFinds.case4at0at2
      · exact at_case a0 a1 a2 w 4 0 3 8 4 4 k0 (by omega) k1 (by omega) k2 (by omega) cKinFinds.case4at0at3
      · exact at_case a0 a1 a2 w 4 0 4 8 4 4 k0 (by omega) k1 (by omega) k2 (by omega) cKinFinds.case4at0at4
    · have h2 := Int.emod_nonneg a2 (show (3 : Int) + 1 ≠ 0 by omega)
      have g2 := Int.emod_lt_of_pos a2 (show (0 : Int) < 3 + 1 by omega)
      have k2 : a2 % (3 + 1) = 0 ∨ a2 % (3 + 1) = 1 ∨ a2 % (3 + 1) = 2 ∨ a2 % (3 + 1) = 3 := by omega
      rcases k2 with k2 | k2 | k2 | k2
      · exact at_case a0 a1 a2 w 4 1 0 8 4 3 k0 (by omega) k1 (by omega) k2 (by omega) cKinFinds.case4at1at0
      · exact at_case a0 a1 a2 w 4 1 1 8 4 3 k0 (by omega) k1 (by omega) k2 (by omega) cKinFinds.case4at1at1
      · exact at_case a0 a1 a2 w 4 1 2 8 4 3 k0 (by omega) k1 (by omega) k2 (by omega) cKinFinds.case4at1at2
      · exact at_case a0 a1 a2 w 4 1 3 8 4 3 k0 (by omega) k1 (by omega) k2 (by omega) cKinFinds.case4at1at3
    · have h2 := Int.emod_nonneg a2 (show (2 : Int) + 1 ≠ 0 by omega)
      have g2 := Int.emod_lt_of_pos a2 (show (0 : Int) < 2 + 1 by omega)
      have k2 : a2 % (2 + 1) = 0 ∨ a2 % (2 + 1) = 1 ∨ a2 % (2 + 1) = 2 := by omega
      rcases k2 with k2 | k2 | k2
      · exact at_case a0 a1 a2 w 4 2 0 8 4 2 k0 (by omega) k1 (by omega) k2 (by omega) cKinFinds.case4at2at0
      · exact at_case a0 a1 a2 w 4 2 1 8 4 2 k0 (by omega) k1 (by omega) k2 (by omega) cKinFinds.case4at2at1
      · exact at_case a0 a1 a2 w 4 2 2 8 4 2 k0 (by omega) k1 (by omega) k2 (by omega) cKinFinds.case4at2at2
    · have h2 := Int.emod_nonneg a2 (show (1 : Int) + 1 ≠ 0 by omega)
      have g2 := Int.emod_lt_of_pos a2 (show (0 : Int) < 1 + 1 by omega)
      have k2 : a2 % (1 + 1) = 0 ∨ a2 % (1 + 1) = 1 := by omega
      rcases k2 with k2 | k2
      · exact at_case a0 a1 a2 w 4 3 0 8 4 1 k0 (by omega) k1 (by omega) k2 (by omega) cKinFinds.case4at3at0
      · exact at_case a0 a1 a2 w 4 3 1 8 4 1 k0 (by omega) k1 (by omega) k2 (by omega) cKinFinds.case4at3at1
    · have h2 := Int.emod_nonneg a2 (show (0 : Int) + 1 ≠ 0 by omega)
      have g2 := Int.emod_lt_of_pos a2 (show (0 : Int) < 0 + 1 by omega)
      have k2 : a2 % (0 + 1) = 0 := by omega
      exact at_case a0 a1 a2 w 4 4 0 8 4 0 k0 (by omega) k1 (by omega) k2 (by omega) cKinFinds.case4at4at0
  · have h1 := Int.emod_nonneg a1 (show (5 : Int) + 1 ≠ 0 by omega)
    have g1 := Int.emod_lt_of_pos a1 (show (0 : Int) < 5 + 1 by omega)
    have k1 : a1 % (5 + 1) = 0 ∨ a1 % (5 + 1) = 1 ∨ a1 % (5 + 1) = 2 ∨ a1 % (5 + 1) = 3 ∨ a1 % (5 + 1) = 4 ∨ a1 % (5 + 1) = 5 := by omega
    rcases k1 with k1 | k1 | k1 | k1 | k1 | k1
    · have h2 := Int.emod_nonneg a2 (show (5 : Int) + 1 ≠ 0 by omega)
      have g2 := Int.emod_lt_of_pos a2 (show (0 : Int) < 5 + 1 by omega)
      have k2 : a2 % (5 + 1) = 0 ∨ a2 % (5 + 1) = 1 ∨ a2 % (5 + 1) = 2 ∨ a2 % (5 + 1) = 3 ∨ a2 % (5 + 1) = 4 ∨ a2 % (5 + 1) = 5 := by omega
      rcases k2 with k2 | k2 | k2 | k2 | k2 | k2
      · exact at_case a0 a1 a2 w 5 0 0 8 5 5 k0 (by omega) k1 (by omega) k2 (by omega) cKinFinds.case5at0at0
      · exact at_case a0 a1 a2 w 5 0 1 8 5 5 k0 (by omega) k1 (by omega) k2 (by omega) cKinFinds.case5at0at1
      · exact at_case a0 a1 a2 w 5 0 2 8 5 5 k0 (by omega) k1 (by omega) k2 (by omega) cKinFinds.case5at0at2
      · exact at_case a0 a1 a2 w 5 0 3 8 5 5 k0 (by omega) k1 (by omega) k2 (by omega) cKinFinds.case5at0at3
      · exact at_case a0 a1 a2 w 5 0 4 8 5 5 k0 (by omega) k1 (by omega) k2 (by omega) cKinFinds.case5at0at4
      · exact at_case a0 a1 a2 w 5 0 5 8 5 5 k0 (by omega) k1 (by omega) k2 (by omega) cKinFinds.case5at0at5
    · have h2 := Int.emod_nonneg a2 (show (4 : Int) + 1 ≠ 0 by omega)
      have g2 := Int.emod_lt_of_pos a2 (show (0 : Int) < 4 + 1 by omega)
      have k2 : a2 % (4 + 1) = 0 ∨ a2 % (4 + 1) = 1 ∨ a2 % (4 + 1) = 2 ∨ a2 % (4 + 1) = 3 ∨ a2 % (4 + 1) = 4 := by omega
      rcases k2 with k2 | k2 | k2 | k2 | k2
      · exact at_case a0 a1 a2 w 5 1 0 8 5 4 k0 (by omega) k1 (by omega) k2 (by omega) cKinFinds.case5at1at0
      · exact at_case a0 a1 a2 w 5 1 1 8 5 4 k0 (by omega) k1 (by omega) k2 (by omega) cKinFinds.case5at1at1
      · exact at_case a0 a1 a2 w 5 1 2 8 5 4 k0 (by omega) k1 (by omega) k2 (by omega) cKinFinds.case5at1at2
      · exact at_case a0 a1 a2 w 5 1 3 8 5 4 k0 (by omega) k1 (by omega) k2 (by omega) cKinFinds.case5at1at3
      · exact at_case a0 a1 a2 w 5 1 4 8 5 4 k0 (by omega) k1 (by omega) k2 (by omega) cKinFinds.case5at1at4
    · have h2 := Int.emod_nonneg a2 (show (3 : Int) + 1 ≠ 0 by omega)
      have g2 := Int.emod_lt_of_pos a2 (show (0 : Int) < 3 + 1 by omega)
      have k2 : a2 % (3 + 1) = 0 ∨ a2 % (3 + 1) = 1 ∨ a2 % (3 + 1) = 2 ∨ a2 % (3 + 1) = 3 := by omega
      rcases k2 with k2 | k2 | k2 | k2
      · exact at_case a0 a1 a2 w 5 2 0 8 5 3 k0 (by omega) k1 (by omega) k2 (by omega) cKinFinds.case5at2at0
      · exact at_case a0 a1 a2 w 5 2 1 8 5 3 k0 (by omega) k1 (by omega) k2 (by omega) cKinFinds.case5at2at1
      · exact at_case a0 a1 a2 w 5 2 2 8 5 3 k0 (by omega) k1 (by omega) k2 (by omega) cKinFinds.case5at2at2
      · exact at_case a0 a1 a2 w 5 2 3 8 5 3 k0 (by omega) k1 (by omega) k2 (by omega) cKinFinds.case5at2at3
    · have h2 := Int.emod_nonneg a2 (show (2 : Int) + 1 ≠ 0 by omega)
      have g2 := Int.emod_lt_of_pos a2 (show (0 : Int) < 2 + 1 by omega)
      have k2 : a2 % (2 + 1) = 0 ∨ a2 % (2 + 1) = 1 ∨ a2 % (2 + 1) = 2 := by omega
      rcases k2 with k2 | k2 | k2
      · exact at_case a0 a1 a2 w 5 3 0 8 5 2 k0 (by omega) k1 (by omega) k2 (by omega) cKinFinds.case5at3at0
      · exact at_case a0 a1 a2 w 5 3 1 8 5 2 k0 (by omega) k1 (by omega) k2 (by omega) cKinFinds.case5at3at1
      · exact at_case a0 a1 a2 w 5 3 2 8 5 2 k0 (by omega) k1 (by omega) k2 (by omega) cKinFinds.case5at3at2
    · have h2 := Int.emod_nonneg a2 (show (1 : Int) + 1 ≠ 0 by omega)
      have g2 := Int.emod_lt_of_pos a2 (show (0 : Int) < 1 + 1 by omega)
      have k2 : a2 % (1 + 1) = 0 ∨ a2 % (1 + 1) = 1 := by omega
      rcases k2 with k2 | k2
      · exact at_case a0 a1 a2 w 5 4 0 8 5 1 k0 (by omega) k1 (by omega) k2 (by omega) cKinFinds.case5at4at0
      · exact at_case a0 a1 a2 w 5 4 1 8 5 1 k0 (by omega) k1 (by omega) k2 (by omega) cKinFinds.case5at4at1
    · have h2 := Int.emod_nonneg a2 (show (0 : Int) + 1 ≠ 0 by omega)
      have g2 := Int.emod_lt_of_pos a2 (show (0 : Int) < 0 + 1 by omega)
      have k2 : a2 % (0 + 1) = 0 := by omega
      exact at_case a0 a1 a2 w 5 5 0 8 5 0 k0 (by omega) k1 (by omega) k2 (by omega) cKinFinds.case5at5at0
  · have h1 := Int.emod_nonneg a1 (show (6 : Int) + 1 ≠ 0 by omega)
    have g1 := Int.emod_lt_of_pos a1 (show (0 : Int) < 6 + 1 by omega)
    have k1 : a1 % (6 + 1) = 0 ∨ a1 % (6 + 1) = 1 ∨ a1 % (6 + 1) = 2 ∨ a1 % (6 + 1) = 3 ∨ a1 % (6 + 1) = 4 ∨ a1 % (6 + 1) = 5 ∨ a1 % (6 + 1) = 6 := by omega
    rcases k1 with k1 | k1 | k1 | k1 | k1 | k1 | k1
    · have h2 := Int.emod_nonneg a2 (show (6 : Int) + 1 ≠ 0 by omega)
      have g2 := Int.emod_lt_of_pos a2 (show (0 : Int) < 6 + 1 by omega)
      have k2 : a2 % (6 + 1) = 0 ∨ a2 % (6 + 1) = 1 ∨ a2 % (6 + 1) = 2 ∨ a2 % (6 + 1) = 3 ∨ a2 % (6 + 1) = 4 ∨ a2 % (6 + 1) = 5 ∨ a2 % (6 + 1) = 6 := by omega
      rcases k2 with k2 | k2 | k2 | k2 | k2 | k2 | k2
      · exact at_case a0 a1 a2 w 6 0 0 8 6 6 k0 (by omega) k1 (by omega) k2 (by omega) cKinFinds.case6at0at0
      · exact at_case a0 a1 a2 w 6 0 1 8 6 6 k0 (by omega) k1 (by omega) k2 (by omega) cKinFinds.case6at0at1
      · exact at_case a0 a1 a2 w 6 0 2 8 6 6 k0 (by omega) k1 (by omega) k2 (by omega) cKinFinds.case6at0at2
      · exact at_case a0 a1 a2 w 6 0 3 8 6 6 k0 (by omega) k1 (by omega) k2 (by omega) cKinFinds.case6at0at3
      · exact at_case a0 a1 a2 w 6 0 4 8 6 6 k0 (by omega) k1 (by omega) k2 (by omega) cKinFinds.case6at0at4
      · exact at_case a0 a1 a2 w 6 0 5 8 6 6 k0 (by omega) k1 (by omega) k2 (by omega) cKinFinds.case6at0at5
      · exact at_case a0 a1 a2 w 6 0 6 8 6 6 k0 (by omega) k1 (by omega) k2 (by omega) cKinFinds.case6at0at6
    · have h2 := Int.emod_nonneg a2 (show (5 : Int) + 1 ≠ 0 by omega)
      have g2 := Int.emod_lt_of_pos a2 (show (0 : Int) < 5 + 1 by omega)
      have k2 : a2 % (5 + 1) = 0 ∨ a2 % (5 + 1) = 1 ∨ a2 % (5 + 1) = 2 ∨ a2 % (5 + 1) = 3 ∨ a2 % (5 + 1) = 4 ∨ a2 % (5 + 1) = 5 := by omega
      rcases k2 with k2 | k2 | k2 | k2 | k2 | k2
      · exact at_case a0 a1 a2 w 6 1 0 8 6 5 k0 (by omega) k1 (by omega) k2 (by omega) cKinFinds.case6at1at0
      · exact at_case a0 a1 a2 w 6 1 1 8 6 5 k0 (by omega) k1 (by omega) k2 (by omega) cKinFinds.case6at1at1
      · exact at_case a0 a1 a2 w 6 1 2 8 6 5 k0 (by omega) k1 (by omega) k2 (by omega) cKinFinds.case6at1at2
      · exact at_case a0 a1 a2 w 6 1 3 8 6 5 k0 (by omega) k1 (by omega) k2 (by omega) cKinFinds.case6at1at3
      · exact at_case a0 a1 a2 w 6 1 4 8 6 5 k0 (by omega) k1 (by omega) k2 (by omega) cKinFinds.case6at1at4
      · exact at_case a0 a1 a2 w 6 1 5 8 6 5 k0 (by omega) k1 (by omega) k2 (by omega) cKinFinds.case6at1at5
    · have h2 := Int.emod_nonneg a2 (show (4 : Int) + 1 ≠ 0 by omega)
      have g2 := Int.emod_lt_of_pos a2 (show (0 : Int) < 4 + 1 by omega)
      have k2 : a2 % (4 + 1) = 0 ∨ a2 % (4 + 1) = 1 ∨ a2 % (4 + 1) = 2 ∨ a2 % (4 + 1) = 3 ∨ a2 % (4 + 1) = 4 := by omega
      rcases k2 with k2 | k2 | k2 | k2 | k2
      · exact at_case a0 a1 a2 w 6 2 0 8 6 4 k0 (by omega) k1 (by omega) k2 (by omega) cKinFinds.case6at2at0
      · exact at_case a0 a1 a2 w 6 2 1 8 6 4 k0 (by omega) k1 (by omega) k2 (by omega) cKinFinds.case6at2at1
      · exact at_case a0 a1 a2 w 6 2 2 8 6 4 k0 (by omega) k1 (by omega) k2 (by omega) cKinFinds.case6at2at2
      · exact at_case a0 a1 a2 w 6 2 3 8 6 4 k0 (by omega) k1 (by omega) k2 (by omega) cKinFinds.case6at2at3
      · exact at_case a0 a1 a2 w 6 2 4 8 6 4 k0 (by omega) k1 (by omega) k2 (by omega) cKinFinds.case6at2at4
    · have h2 := Int.emod_nonneg a2 (show (3 : Int) + 1 ≠ 0 by omega)
      have g2 := Int.emod_lt_of_pos a2 (show (0 : Int) < 3 + 1 by omega)
      have k2 : a2 % (3 + 1) = 0 ∨ a2 % (3 + 1) = 1 ∨ a2 % (3 + 1) = 2 ∨ a2 % (3 + 1) = 3 := by omega
      rcases k2 with k2 | k2 | k2 | k2
      · exact at_case a0 a1 a2 w 6 3 0 8 6 3 k0 (by omega) k1 (by omega) k2 (by omega) cKinFinds.case6at3at0
      · exact at_case a0 a1 a2 w 6 3 1 8 6 3 k0 (by omega) k1 (by omega) k2 (by omega) cKinFinds.case6at3at1
      · exact at_case a0 a1 a2 w 6 3 2 8 6 3 k0 (by omega) k1 (by omega) k2 (by omega) cKinFinds.case6at3at2
      · exact at_case a0 a1 a2 w 6 3 3 8 6 3 k0 (by omega) k1 (by omega) k2 (by omega) cKinFinds.case6at3at3
    · have h2 := Int.emod_nonneg a2 (show (2 : Int) + 1 ≠ 0 by omega)
      have g2 := Int.emod_lt_of_pos a2 (show (0 : Int) < 2 + 1 by omega)
      have k2 : a2 % (2 + 1) = 0 ∨ a2 % (2 + 1) = 1 ∨ a2 % (2 + 1) = 2 := by omega
      rcases k2 with k2 | k2 | k2
      · exact at_case a0 a1 a2 w 6 4 0 8 6 2 k0 (by omega) k1 (by omega) k2 (by omega) cKinFinds.case6at4at0
      · exact at_case a0 a1 a2 w 6 4 1 8 6 2 k0 (by omega) k1 (by omega) k2 (by omega) cKinFinds.case6at4at1
      · exact at_case a0 a1 a2 w 6 4 2 8 6 2 k0 (by omega) k1 (by omega) k2 (by omega) cKinFinds.case6at4at2
    · have h2 := Int.emod_nonneg a2 (show (1 : Int) + 1 ≠ 0 by omega)
      have g2 := Int.emod_lt_of_pos a2 (show (0 : Int) < 1 + 1 by omega)
      have k2 : a2 % (1 + 1) = 0 ∨ a2 % (1 + 1) = 1 := by omega
      rcases k2 with k2 | k2
      · exact at_case a0 a1 a2 w 6 5 0 8 6 1 k0 (by omega) k1 (by omega) k2 (by omega) cKinFinds.case6at5at0
      · exact at_case a0 a1 a2 w 6 5 1 8 6 1 k0 (by omega) k1 (by omega) k2 (by omega) cKinFinds.case6at5at1
    · have h2 := Int.emod_nonneg a2 (show (0 : Int) + 1 ≠ 0 by omega)
      have g2 := Int.emod_lt_of_pos a2 (show (0 : Int) < 0 + 1 by omega)
      have k2 : a2 % (0 + 1) = 0 := by omega
      exact at_case a0 a1 a2 w 6 6 0 8 6 0 k0 (by omega) k1 (by omega) k2 (by omega) cKinFinds.case6at6at0
  · have h1 := Int.emod_nonneg a1 (show (7 : Int) + 1 ≠ 0 by omega)
    have g1 := Int.emod_lt_of_pos a1 (show (0 : Int) < 7 + 1 by omega)
    have k1 : a1 % (7 + 1) = 0 ∨ a1 % (7 + 1) = 1 ∨ a1 % (7 + 1) = 2 ∨ a1 % (7 + 1) = 3 ∨ a1 % (7 + 1) = 4 ∨ a1 % (7 + 1) = 5 ∨ a1 % (7 + 1) = 6 ∨ a1 % (7 + 1) = 7 := by omega
    rcases k1 with k1 | k1 | k1 | k1 | k1 | k1 | k1 | k1
    · have h2 := Int.emod_nonneg a2 (show (7 : Int) + 1 ≠ 0 by omega)
      have g2 := Int.emod_lt_of_pos a2 (show (0 : Int) < 7 + 1 by omega)
      have k2 : a2 % (7 + 1) = 0 ∨ a2 % (7 + 1) = 1 ∨ a2 % (7 + 1) = 2 ∨ a2 % (7 + 1) = 3 ∨ a2 % (7 + 1) = 4 ∨ a2 % (7 + 1) = 5 ∨ a2 % (7 + 1) = 6 ∨ a2 % (7 + 1) = 7 := by omega
      rcases k2 with k2 | k2 | k2 | k2 | k2 | k2 | k2 | k2
      · exact at_case a0 a1 a2 w 7 0 0 8 7 7 k0 (by omega) k1 (by omega) k2 (by omega) cKinFinds.case7at0at0
      · exact at_case a0 a1 a2 w 7 0 1 8 7 7 k0 (by omega) k1 (by omega) k2 (by omega) cKinFinds.case7at0at1
      · exact at_case a0 a1 a2 w 7 0 2 8 7 7 k0 (by omega) k1 (by omega) k2 (by omega) cKinFinds.case7at0at2
      · exact at_case a0 a1 a2 w 7 0 3 8 7 7 k0 (by omega) k1 (by omega) k2 (by omega) cKinFinds.case7at0at3
      · exact at_case a0 a1 a2 w 7 0 4 8 7 7 k0 (by omega) k1 (by omega) k2 (by omega) cKinFinds.case7at0at4
      · exact at_case a0 a1 a2 w 7 0 5 8 7 7 k0 (by omega) k1 (by omega) k2 (by omega) cKinFinds.case7at0at5
      · exact at_case a0 a1 a2 w 7 0 6 8 7 7 k0 (by omega) k1 (by omega) k2 (by omega) cKinFinds.case7at0at6
      · exact at_case a0 a1 a2 w 7 0 7 8 7 7 k0 (by omega) k1 (by omega) k2 (by omega) cKinFinds.case7at0at7
    · have h2 := Int.emod_nonneg a2 (show (6 : Int) + 1 ≠ 0 by omega)
      have g2 := Int.emod_lt_of_pos a2 (show (0 : Int) < 6 + 1 by omega)
      have k2 : a2 % (6 + 1) = 0 ∨ a2 % (6 + 1) = 1 ∨ a2 % (6 + 1) = 2 ∨ a2 % (6 + 1) = 3 ∨ a2 % (6 + 1) = 4 ∨ a2 % (6 + 1) = 5 ∨ a2 % (6 + 1) = 6 := by omega
      rcases k2 with k2 | k2 | k2 | k2 | k2 | k2 | k2
      · exact at_case a0 a1 a2 w 7 1 0 8 7 6 k0 (by omega) k1 (by omega) k2 (by omega) cKinFinds.case7at1at0
      · exact at_case a0 a1 a2 w 7 1 1 8 7 6 k0 (by omega) k1 (by omega) k2 (by omega) cKinFinds.case7at1at1
      · exact at_case a0 a1 a2 w 7 1 2 8 7 6 k0 (by omega) k1 (by omega) k2 (by omega) cKinFinds.case7at1at2
      · exact at_case a0 a1 a2 w 7 1 3 8 7 6 k0 (by omega) k1 (by omega) k2 (by omega) cKinFinds.case7at1at3
      · exact at_case a0 a1 a2 w 7 1 4 8 7 6 k0 (by omega) k1 (by omega) k2 (by omega) cKinFinds.case7at1at4
      · exact at_case a0 a1 a2 w 7 1 5 8 7 6 k0 (by omega) k1 (by omega) k2 (by omega) cKinFinds.case7at1at5
      · exact at_case a0 a1 a2 w 7 1 6 8 7 6 k0 (by omega) k1 (by omega) k2 (by omega) cKinFinds.case7at1at6
    · have h2 := Int.emod_nonneg a2 (show (5 : Int) + 1 ≠ 0 by omega)
      have g2 := Int.emod_lt_of_pos a2 (show (0 : Int) < 5 + 1 by omega)
      have k2 : a2 % (5 + 1) = 0 ∨ a2 % (5 + 1) = 1 ∨ a2 % (5 + 1) = 2 ∨ a2 % (5 + 1) = 3 ∨ a2 % (5 + 1) = 4 ∨ a2 % (5 + 1) = 5 := by omega
      rcases k2 with k2 | k2 | k2 | k2 | k2 | k2
      · exact at_case a0 a1 a2 w 7 2 0 8 7 5 k0 (by omega) k1 (by omega) k2 (by omega) cKinFinds.case7at2at0
      · exact at_case a0 a1 a2 w 7 2 1 8 7 5 k0 (by omega) k1 (by omega) k2 (by omega) cKinFinds.case7at2at1
      · exact at_case a0 a1 a2 w 7 2 2 8 7 5 k0 (by omega) k1 (by omega) k2 (by omega) cKinFinds.case7at2at2
      · exact at_case a0 a1 a2 w 7 2 3 8 7 5 k0 (by omega) k1 (by omega) k2 (by omega) cKinFinds.case7at2at3
      · exact at_case a0 a1 a2 w 7 2 4 8 7 5 k0 (by omega) k1 (by omega) k2 (by omega) cKinFinds.case7at2at4
      · exact at_case a0 a1 a2 w 7 2 5 8 7 5 k0 (by omega) k1 (by omega) k2 (by omega) cKinFinds.case7at2at5
    · have h2 := Int.emod_nonneg a2 (show (4 : Int) + 1 ≠ 0 by omega)
      have g2 := Int.emod_lt_of_pos a2 (show (0 : Int) < 4 + 1 by omega)
      have k2 : a2 % (4 + 1) = 0 ∨ a2 % (4 + 1) = 1 ∨ a2 % (4 + 1) = 2 ∨ a2 % (4 + 1) = 3 ∨ a2 % (4 + 1) = 4 := by omega
      rcases k2 with k2 | k2 | k2 | k2 | k2
      · exact at_case a0 a1 a2 w 7 3 0 8 7 4 k0 (by omega) k1 (by omega) k2 (by omega) cKinFinds.case7at3at0
      · exact at_case a0 a1 a2 w 7 3 1 8 7 4 k0 (by omega) k1 (by omega) k2 (by omega) cKinFinds.case7at3at1
      · exact at_case a0 a1 a2 w 7 3 2 8 7 4 k0 (by omega) k1 (by omega) k2 (by omega) cKinFinds.case7at3at2
      · exact at_case a0 a1 a2 w 7 3 3 8 7 4 k0 (by omega) k1 (by omega) k2 (by omega) cKinFinds.case7at3at3
      · exact at_case a0 a1 a2 w 7 3 4 8 7 4 k0 (by omega) k1 (by omega) k2 (by omega) cKinFinds.case7at3at4
    · have h2 := Int.emod_nonneg a2 (show (3 : Int) + 1 ≠ 0 by omega)
      have g2 := Int.emod_lt_of_pos a2 (show (0 : Int) < 3 + 1 by omega)
      have k2 : a2 % (3 + 1) = 0 ∨ a2 % (3 + 1) = 1 ∨ a2 % (3 + 1) = 2 ∨ a2 % (3 + 1) = 3 := by omega
      rcases k2 with k2 | k2 | k2 | k2
      · exact at_case a0 a1 a2 w 7 4 0 8 7 3 k0 (by omega) k1 (by omega) k2 (by omega) cKinFinds.case7at4at0
      · exact at_case a0 a1 a2 w 7 4 1 8 7 3 k0 (by omega) k1 (by omega) k2 (by omega) cKinFinds.case7at4at1
      · exact at_case a0 a1 a2 w 7 4 2 8 7 3 k0 (by omega) k1 (by omega) k2 (by omega) cKinFinds.case7at4at2
      · exact at_case a0 a1 a2 w 7 4 3 8 7 3 k0 (by omega) k1 (by omega) k2 (by omega) cKinFinds.case7at4at3
    · have h2 := Int.emod_nonneg a2 (show (2 : Int) + 1 ≠ 0 by omega)
      have g2 := Int.emod_lt_of_pos a2 (show (0 : Int) < 2 + 1 by omega)
      have k2 : a2 % (2 + 1) = 0 ∨ a2 % (2 + 1) = 1 ∨ a2 % (2 + 1) = 2 := by omega
      rcases k2 with k2 | k2 | k2
      · exact at_case a0 a1 a2 w 7 5 0 8 7 2 k0 (by omega) k1 (by omega) k2 (by omega) cKinFinds.case7at5at0
      · exact at_case a0 a1 a2 w 7 5 1 8 7 2 k0 (by omega) k1 (by omega) k2 (by omega) cKinFinds.case7at5at1
      · exact at_case a0 a1 a2 w 7 5 2 8 7 2 k0 (by omega) k1 (by omega) k2 (by omega) cKinFinds.case7at5at2
    · have h2 := Int.emod_nonneg a2 (show (1 : Int) + 1 ≠ 0 by omega)
      have g2 := Int.emod_lt_of_pos a2 (show (0 : Int) < 1 + 1 by omega)
      have k2 : a2 % (1 + 1) = 0 ∨ a2 % (1 + 1) = 1 := by omega
      rcases k2 with k2 | k2
      · exact at_case a0 a1 a2 w 7 6 0 8 7 1 k0 (by omega) k1 (by omega) k2 (by omega) cKinFinds.case7at6at0
      · exact at_case a0 a1 a2 w 7 6 1 8 7 1 k0 (by omega) k1 (by omega) k2 (by omega) cKinFinds.case7at6at1
    · have h2 := Int.emod_nonneg a2 (show (0 : Int) + 1 ≠ 0 by omega)
      have g2 := Int.emod_lt_of_pos a2 (show (0 : Int) < 0 + 1 by omega)
      have k2 : a2 % (0 + 1) = 0 := by omega
      exact at_case a0 a1 a2 w 7 7 0 8 7 0 k0 (by omega) k1 (by omega) k2 (by omega) cKinFinds.case7at7at0
  · have h1 := Int.emod_nonneg a1 (show (8 : Int) + 1 ≠ 0 by omega)
    have g1 := Int.emod_lt_of_pos a1 (show (0 : Int) < 8 + 1 by omega)
    have k1 : a1 % (8 + 1) = 0 ∨ a1 % (8 + 1) = 1 ∨ a1 % (8 + 1) = 2 ∨ a1 % (8 + 1) = 3 ∨ a1 % (8 + 1) = 4 ∨ a1 % (8 + 1) = 5 ∨ a1 % (8 + 1) = 6 ∨ a1 % (8 + 1) = 7 ∨ a1 % (8 + 1) = 8 := by omega
    rcases k1 with k1 | k1 | k1 | k1 | k1 | k1 | k1 | k1 | k1
    · have h2 := Int.emod_nonneg a2 (show (8 : Int) + 1 ≠ 0 by omega)
      have g2 := Int.emod_lt_of_pos a2 (show (0 : Int) < 8 + 1 by omega)
      have k2 : a2 % (8 + 1) = 0 ∨ a2 % (8 + 1) = 1 ∨ a2 % (8 + 1) = 2 ∨ a2 % (8 + 1) = 3 ∨ a2 % (8 + 1) = 4 ∨ a2 % (8 + 1) = 5 ∨ a2 % (8 + 1) = 6 ∨ a2 % (8 + 1) = 7 ∨ a2 % (8 + 1) = 8 := by omega
      rcases k2 with k2 | k2 | k2 | k2 | k2 | k2 | k2 | k2 | k2
      · exact at_case a0 a1 a2 w 8 0 0 8 8 8 k0 (by omega) k1 (by omega) k2 (by omega) cKinFinds.case8at0at0
      · exact at_case a0 a1 a2 w 8 0 1 8 8 8 k0 (by omega) k1 (by omega) k2 (by omega) cKinFinds.case8at0at1
      · exact at_case a0 a1 a2 w 8 0 2 8 8 8 k0 (by omega) k1 (by omega) k2 (by omega) cKinFinds.case8at0at2
      · exact at_case a0 a1 a2 w 8 0 3 8 8 8 k0 (by omega) k1 (by omega) k2 (by omega) cKinFinds.case8at0at3
      · exact at_case a0 a1 a2 w 8 0 4 8 8 8 k0 (by omega) k1 (by omega) k2 (by omega) cKinFinds.case8at0at4
      · exact at_case a0 a1 a2 w 8 0 5 8 8 8 k0 (by omega) k1 (by omega) k2 (by omega) cKinFinds.case8at0at5
      · exact at_case a0 a1 a2 w 8 0 6 8 8 8 k0 (by omega) k1 (by omega) k2 (by omega) cKinFinds.case8at0at6
      · exact at_case a0 a1 a2 w 8 0 7 8 8 8 k0 (by omega) k1 (by omega) k2 (by omega) cKinFinds.case8at0at7
      · exact at_case a0 a1 a2 w 8 0 8 8 8 8 k0 (by omega) k1 (by omega) k2 (by omega) cKinFinds.case8at0at8
    · have h2 := Int.emod_nonneg a2 (show (7 : Int) + 1 ≠ 0 by omega)
      have g2 := Int.emod_lt_of_pos a2 (show (0 : Int) < 7 + 1 by omega)
      have k2 : a2 % (7 + 1) = 0 ∨ a2 % (7 + 1) = 1 ∨ a2 % (7 + 1) = 2 ∨ a2 % (7 + 1) = 3 ∨ a2 % (7 + 1) = 4 ∨ a2 % (7 + 1) = 5 ∨ a2 % (7 + 1) = 6 ∨ a2 % (7 + 1) = 7 := by omega
      rcases k2 with k2 | k2 | k2 | k2 | k2 | k2 | k2 | k2
      · exact at_case a0 a1 a2 w 8 1 0 8 8 7 k0 (by omega) k1 (by omega) k2 (by omega) cKinFinds.case8at1at0
      · exact at_case a0 a1 a2 w 8 1 1 8 8 7 k0 (by omega) k1 (by omega) k2 (by omega) cKinFinds.case8at1at1
      · exact at_case a0 a1 a2 w 8 1 2 8 8 7 k0 (by omega) k1 (by omega) k2 (by omega) cKinFinds.case8at1at2
      · exact at_case a0 a1 a2 w 8 1 3 8 8 7 k0 (by omega) k1 (by omega) k2 (by omega) cKinFinds.case8at1at3
      · exact at_case a0 a1 a2 w 8 1 4 8 8 7 k0 (by omega) k1 (by omega) k2 (by omega) cKinFinds.case8at1at4
      · exact at_case a0 a1 a2 w 8 1 5 8 8 7 k0 (by omega) k1 (by omega) k2 (by omega) cKinFinds.case8at1at5
      · exact at_case a0 a1 a2 w 8 1 6 8 8 7 k0 (by omega) k1 (by omega) k2 (by omega) cKinFinds.case8at1at6
      · exact at_case a0 a1 a2 w 8 1 7 8 8 7 k0 (by omega) k1 (by omega) k2 (by omega) cKinFinds.case8at1at7
    · have h2 := Int.emod_nonneg a2 (show (6 : Int) + 1 ≠ 0 by omega)
      have g2 := Int.emod_lt_of_pos a2 (show (0 : Int) < 6 + 1 by omega)
      have k2 : a2 % (6 + 1) = 0 ∨ a2 % (6 + 1) = 1 ∨ a2 % (6 + 1) = 2 ∨ a2 % (6 + 1) = 3 ∨ a2 % (6 + 1) = 4 ∨ a2 % (6 + 1) = 5 ∨ a2 % (6 + 1) = 6 := by omega
      rcases k2 with k2 | k2 | k2 | k2 | k2 | k2 | k2
      · exact at_case a0 a1 a2 w 8 2 0 8 8 6 k0 (by omega) k1 (by omega) k2 (by omega) cKinFinds.case8at2at0
      · exact at_case a0 a1 a2 w 8 2 1 8 8 6 k0 (by omega) k1 (by omega) k2 (by omega) cKinFinds.case8at2at1
      · exact at_case a0 a1 a2 w 8 2 2 8 8 6 k0 (by omega) k1 (by omega) k2 (by omega) cKinFinds.case8at2at2
      · exact at_case a0 a1 a2 w 8 2 3 8 8 6 k0 (by omega) k1 (by omega) k2 (by omega) cKinFinds.case8at2at3
      · exact at_case a0 a1 a2 w 8 2 4 8 8 6 k0 (by omega) k1 (by omega) k2 (by omega) cKinFinds.case8at2at4
      · exact at_case a0 a1 a2 w 8 2 5 8 8 6 k0 (by omega) k1 (by omega) k2 (by omega) cKinFinds.case8at2at5
      · exact at_case a0 a1 a2 w 8 2 6 8 8 6 k0 (by omega) k1 (by omega) k2 (by omega) cKinFinds.case8at2at6
    · have h2 := Int.emod_nonneg a2 (show (5 : Int) + 1 ≠ 0 by omega)
      have g2 := Int.emod_lt_of_pos a2 (show (0 : Int) < 5 + 1 by omega)
      have k2 : a2 % (5 + 1) = 0 ∨ a2 % (5 + 1) = 1 ∨ a2 % (5 + 1) = 2 ∨ a2 % (5 + 1) = 3 ∨ a2 % (5 + 1) = 4 ∨ a2 % (5 + 1) = 5 := by omega
      rcases k2 with k2 | k2 | k2 | k2 | k2 | k2
      · exact at_case a0 a1 a2 w 8 3 0 8 8 5 k0 (by omega) k1 (by omega) k2 (by omega) cKinFinds.case8at3at0
      · exact at_case a0 a1 a2 w 8 3 1 8 8 5 k0 (by omega) k1 (by omega) k2 (by omega) cKinFinds.case8at3at1
      · exact at_case a0 a1 a2 w 8 3 2 8 8 5 k0 (by omega) k1 (by omega) k2 (by omega) cKinFinds.case8at3at2
      · exact at_case a0 a1 a2 w 8 3 3 8 8 5 k0 (by omega) k1 (by omega) k2 (by omega) cKinFinds.case8at3at3
      · exact at_case a0 a1 a2 w 8 3 4 8 8 5 k0 (by omega) k1 (by omega) k2 (by omega) cKinFinds.case8at3at4
      · exact at_case a0 a1 a2 w 8 3 5 8 8 5 k0 (by omega) k1 (by omega) k2 (by omega) cKinFinds.case8at3at5
    · have h2 := Int.emod_nonneg a2 (show (4 : Int) + 1 ≠ 0 by omega)
      have g2 := Int.emod_lt_of_pos a2 (show (0 : Int) < 4 + 1 by omega)
      have k2 : a2 % (4 + 1) = 0 ∨ a2 % (4 + 1) = 1 ∨ a2 % (4 + 1) = 2 ∨ a2 % (4 + 1) = 3 ∨ a2 % (4 + 1) = 4 := by omega
      rcases k2 with k2 | k2 | k2 | k2 | k2
      · exact at_case a0 a1 a2 w 8 4 0 8 8 4 k0 (by omega) k1 (by omega) k2 (by omega) cKinFinds.case8at4at0
      · exact at_case a0 a1 a2 w 8 4 1 8 8 4 k0 (by omega) k1 (by omega) k2 (by omega) cKinFinds.case8at4at1
      · exact at_case a0 a1 a2 w 8 4 2 8 8 4 k0 (by omega) k1 (by omega) k2 (by omega) cKinFinds.case8at4at2
      · exact at_case a0 a1 a2 w 8 4 3 8 8 4 k0 (by omega) k1 (by omega) k2 (by omega) cKinFinds.case8at4at3
      · exact at_case a0 a1 a2 w 8 4 4 8 8 4 k0 (by omega) k1 (by omega) k2 (by omega) cKinFinds.case8at4at4
    · have h2 := Int.emod_nonneg a2 (show (3 : Int) + 1 ≠ 0 by omega)
      have g2 := Int.emod_lt_of_pos a2 (show (0 : Int) < 3 + 1 by omega)
      have k2 : a2 % (3 + 1) = 0 ∨ a2 % (3 + 1) = 1 ∨ a2 % (3 + 1) = 2 ∨ a2 % (3 + 1) = 3 := by omega
      rcases k2 with k2 | k2 | k2 | k2
      · exact at_case a0 a1 a2 w 8 5 0 8 8 3 k0 (by omega) k1 (by omega) k2 (by omega) cKinFinds.case8at5at0
      · exact at_case a0 a1 a2 w 8 5 1 8 8 3 k0 (by omega) k1 (by omega) k2 (by omega) cKinFinds.case8at5at1
      · exact at_case a0 a1 a2 w 8 5 2 8 8 3 k0 (by omega) k1 (by omega) k2 (by omega) cKinFinds.case8at5at2
      · exact at_case a0 a1 a2 w 8 5 3 8 8 3 k0 (by omega) k1 (by omega) k2 (by omega) cKinFinds.case8at5at3
    · have h2 := Int.emod_nonneg a2 (show (2 : Int) + 1 ≠ 0 by omega)
      have g2 := Int.emod_lt_of_pos a2 (show (0 : Int) < 2 + 1 by omega)
      have k2 : a2 % (2 + 1) = 0 ∨ a2 % (2 + 1) = 1 ∨ a2 % (2 + 1) = 2 := by omega
      rcases k2 with k2 | k2 | k2
      · exact at_case a0 a1 a2 w 8 6 0 8 8 2 k0 (by omega) k1 (by omega) k2 (by omega) cKinFinds.case8at6at0
      · exact at_case a0 a1 a2 w 8 6 1 8 8 2 k0 (by omega) k1 (by omega) k2 (by omega) cKinFinds.case8at6at1
      · exact at_case a0 a1 a2 w 8 6 2 8 8 2 k0 (by omega) k1 (by omega) k2 (by omega) cKinFinds.case8at6at2
    · have h2 := Int.emod_nonneg a2 (show (1 : Int) + 1 ≠ 0 by omega)
      have g2 := Int.emod_lt_of_pos a2 (show (0 : Int) < 1 + 1 by omega)
      have k2 : a2 % (1 + 1) = 0 ∨ a2 % (1 + 1) = 1 := by omega
      rcases k2 with k2 | k2
      · exact at_case a0 a1 a2 w 8 7 0 8 8 1 k0 (by omega) k1 (by omega) k2 (by omega) cKinFinds.case8at7at0
      · exact at_case a0 a1 a2 w 8 7 1 8 8 1 k0 (by omega) k1 (by omega) k2 (by omega) cKinFinds.case8at7at1
    · have h2 := Int.emod_nonneg a2 (show (0 : Int) + 1 ≠ 0 by omega)
      have g2 := Int.emod_lt_of_pos a2 (show (0 : Int) < 0 + 1 by omega)
      have k2 : a2 % (0 + 1) = 0 := by omega
      exact at_case a0 a1 a2 w 8 8 0 8 8 0 k0 (by omega) k1 (by omega) k2 (by omega) cKinFinds.case8at8at0

/-! ### THE ROW's STEP: WRITTEN OUT: LEAVE IT -/
set_option maxRecDepth 100000 in
theorem lifted (os : Os) (started : os.Started) (H : Type) (enc : TypeId × Value → H) :
    ReturnsInHanded {} Try.checked os 3 .any (Rows.kinFindsSpec.pre6 enc Try.prog Try.f3 Rows.kinFindsRow.domain false) (Rows.kinFindsSpec.post enc Try.prog Try.f3 false true false false) := by
  refine returnsInHanded_of_change (C := Try.checked) own started (by kernel_rfl) Try.func3
    (ChangeSpec.witness6 (enc := enc) (C := Try.checked) false ⟨#[], #[.int .i64 0, .int .i64 0, .int .i64 0], []⟩ 8 (by kernel_rfl) (by kernel_rfl) (by kernel_rfl) (by kernel_rfl)) ?_
  intro W base args ds gs before hval0 hW hcnd _
  have hval : ∀ (j : Nat) t v, Try.f3.params[j]? = some t → args[j]? = some v → Value.okWide Try.prog W .any base t v := hval0
  have hW' := hW
  obtain ⟨p, q, hA0, hV, rfl, hfz, hnd⟩ := hW
  have hA : DataW.TrodAll enc Try.prog W 0 (fun _ => true) true Try.f3.params.toList args.toList ds p := hA0
  rw [Try.params3] at hA hval
  obtain ⟨v0, vs0, d0, ds0, p0, q0, hargs, rfl, rfl, h0, r0⟩ := trodAll_cons hA
  obtain ⟨v1, vs1, d1, ds1, p1, q1, rfl, rfl, rfl, h1, r1⟩ := trodAll_cons r0
  obtain ⟨v2, vs2, d2, ds2, p2, q2, rfl, rfl, rfl, h2, r2⟩ := trodAll_cons r1
  obtain ⟨rfl, rfl, rfl⟩ := trodAll_nil r2
  obtain rfl : args = #[v0, v1, v2] := by cases args; simp_all
  obtain ⟨rfl, rfl⟩ := trodVars_none hV
  obtain ⟨a0, rfl, rfl, rfl, w0⟩ := open_int Try.underlying3 (hval 0 3 v0 rfl rfl) h0
  obtain ⟨a1, rfl, rfl, rfl, w1⟩ := open_int Try.underlying3 (hval 1 3 v1 rfl rfl) h1
  obtain ⟨a2, rfl, rfl, rfl, w2⟩ := open_int Try.underlying3 (hval 2 3 v2 rfl rfl) h2
  clear hA0 hval0
  simp only [List.append_nil] at hW'
  refine (walk a0 a1 a2 w0 w1 w2 W).mono fun e W' ⟨he, hg⟩ => ?_
  subst he
  exact ⟨_, rfl, post_kept (pa := []) (pv := []) hg hW' (fun _ _ _ => (trodAll_cons_mk (shut_bool Try.underlying4 _) trodAll_mk0)) (fun sp _ => (trodAll_cons_mk (shut_int Try.underlying3 w0) (trodAll_cons_mk (shut_int Try.underlying3 w1) (trodAll_cons_mk (shut_int Try.underlying3 w2) trodAll_mk0)))) (fun _ _ => rfl) rfl
    (ok_one (by kernel_rfl) rfl (okWide_bool_mk Try.underlying4 _))⟩

theorem over : Rows.kinFindsRow.holds Try.pinned (OpenSpec.ofChange Rows.kinFindsSpec) :=
  OpenClaim.holds_of_wide 3 Try.f3 rfl rfl rfl rfl rfl rfl rfl ⟨rfl, rfl, rfl, rfl, rfl⟩ rfl rfl rfl rfl rfl (by kernel_rfl) Try.func3 (by kernel_rfl)
    (of_decide_eq_true (by kernel_rfl)) (by unfold Func.isWrapper; first | (rw [if_pos (by decide +kernel)]; kernel_rfl) | (rw [if_neg (by decide +kernel)]; exact ⟨rfl, rfl⟩))
    (fun os started H enc _ => lifted os started H enc)

/-- ████ THE STATEMENT ████ -/
theorem proved : Rows.KinFindsSaid :=
  over
end Go.Proofs.Ytedgooajlaeclaa.kinFinds
