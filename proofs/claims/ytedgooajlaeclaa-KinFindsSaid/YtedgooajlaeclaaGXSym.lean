/- GX: a helper that brings a symbol into bounds: it answers from a list of answers, one list a case. -/
import Derived.Test.YtedgooajlaeclaaGXTop
namespace GX
open Go
def intsOf : List AV → Option (List Int)
  | [] => some []
  | .int .i64 n :: l => match intsOf l with | some r => some (n :: r) | none => none
  | _ => none
def isame : List Int → List Int → Bool
  | [], [] => true
  | a :: l, b :: r => ieq a b && isame l r
  | _, _ => false
def answer : List (Nat × List Int × Int) → Nat → List Int → Option Int
  | [], _, _ => none
  | (i, ms, c) :: l, j, ns => bif Nat.beq i j && isame ms ns then some c else answer l j ns
def extSym (l : List (Nat × List Int × Int)) (args : List AV) (S : St) : Option (AV × St) :=
  match args with
  | .sym .i64 i :: rest => match intsOf rest with
    | none => none
    | some ms => match answer l i ms with
      | none => none
      | some c => some (.int .i64 c, S)
  | _ => none
theorem isame_ok : ∀ {a b : List Int}, isame a b = true → a = b
  | [], [], _ => rfl
  | [], _ :: _, h => by simp [isame] at h
  | _ :: _, [], h => by simp [isame] at h
  | x :: a, y :: b, h => by
    simp only [isame, Bool.and_eq_true, ieq_eq] at h
    rw [eq_of_beq h.1, isame_ok h.2]
theorem answer_ok : ∀ {l : List (Nat × List Int × Int)} {i : Nat} {ms : List Int} {c : Int}, answer l i ms = some c → (i, ms, c) ∈ l
  | [], _, _, _, h => by cases h
  | (j, ns, d) :: l, i, ms, c, h => by
    unfold answer at h
    cases hq : (Nat.beq j i && isame ns ms) with
    | true =>
      rw [hq] at h
      simp only [cond_true, Option.some.injEq] at h
      simp only [Bool.and_eq_true] at hq
      rw [Nat.eq_of_beq_eq_true hq.1, isame_ok hq.2, h]
      exact List.mem_cons_self ..
    | false =>
      rw [hq] at h
      exact List.mem_cons_of_mem _ (answer_ok h)
theorem intsOf_ok [Val] {φ : Phi} : ∀ {l : List AV} {ms : List Int} {vs : List Value}, intsOf l = some ms → vrels φ l vs → vs = ms.map (Value.int .i64)
  | [], ms, vs, h, hv => by
    simp only [vrels] at hv
    simp only [intsOf, Option.some.injEq] at h
    subst h; subst hv; rfl
  | a :: l, ms, vs, h, hv => by
    simp only [vrels] at hv
    obtain ⟨v, vs1, rfl, h1, h2⟩ := hv
    unfold intsOf at h
    split at h
    · simp at *
    · rename_i n r heq
      cases heq
      split at h
      · rename_i q hq
        simp only [Option.some.injEq] at h; subst h
        simp only [vrel] at h1; subst h1
        rw [intsOf_ok hq h2]; rfl
      · cases h
    · cases h
theorem extSym_ok [Val] {P : Program} {f : FuncId} {fn : Func} {l : List (Nat × List Int × Int)} (hf : P.funcs[f]? = some fn) (hname : (fn.name == "runtime.NumGoroutine") = false) (hb : fn.body.isNone = false)
    (hl : ∀ i ms c, (i, ms, c) ∈ l → ∀ w, Calls P f (Value.int .i64 (Val.sym i) :: ms.map (Value.int .i64)).toArray w fun e w' => e = .returned (.int .i64 c) ∧ w' = w) : ExtOK P f (extSym l) := by
  intro args S r S' h
  unfold extSym at h
  split at h
  · rename_i i rest
    split at h
    · cases h
    · rename_i ms hms
      split at h
      · cases h
      · rename_i c hc
        simp only [Option.some.injEq, Prod.mk.injEq] at h
        obtain ⟨rfl, rfl⟩ := h
        refine ⟨Nat.le_refl _, ?_⟩
        intro φ w vs hv hw _
        simp only [vrels] at hv
        obtain ⟨v1, vs1, e1, h1, h2⟩ := hv
        simp only [vrel] at h1
        subst h1
        have h3 := intsOf_ok hms h2
        subst h3
        have hvs : vs = (Value.int .i64 (Val.sym i) :: ms.map (Value.int .i64)).toArray := by
          apply Array.ext'; simpa using e1
        subst hvs
        intro o a next Q hq
        have hrun : ∀ vs, (callFunc f vs).run P w = .ok (.enter f vs) w := by
          intro vs; simp only [callFunc, hf, hname, hb, Sem.run_bind, run_program, Result.andThen]; rfl
        rw [hrun]
        show Calls P f _ w _
        refine (hl i ms c (answer_ok hc) w).mono ?_
        rintro e w' ⟨rfl, rfl⟩
        exact hq _ _ ⟨φ, rfl, hw, Ext.refl _ _ _ _⟩
  · cases h
end GX
