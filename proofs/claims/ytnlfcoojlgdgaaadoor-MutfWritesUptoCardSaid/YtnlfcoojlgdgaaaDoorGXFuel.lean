/- GX: more fuel does no harm. -/
import Derived.Test.YtnlfcoojlgdgaaaDoorGXExec
namespace GX
open Go
def RecLe (rec rec' : Rec) : Prop := ∀ n c e S x e' S', rec n c e S = .ok x e' S' → rec' n c e S = .ok x e' S'
section
variable {X : X} {rec rec' : Rec} (hr : RecLe rec rec')
include hr
theorem enter_le {f : Nat} {args : List AV} {S : St} {r} (h : enter X rec f args S = some r) : enter X rec' f args S = some r := by
  unfold enter at h ⊢
  split at h
  · exact h
  · split at h
    · exact h
    · split at h
      · exact h
      · rename_i F hF _ c hc
        dsimp only at h ⊢
        rw [nblt, cond_dec] at h ⊢
        split at h
        · rename_i hs
          rw [if_pos hs]
          split at h
          · cases h
          · rename_i x e S1 h1
            rw [hr _ _ _ _ _ _ _ h1]
            exact h
        · cases h
theorem oper_le {e : Env} {S : St} {op : Op} {r} (h : oper X rec e S op = some r) : oper X rec' e S op = some r := by
  unfold oper at h ⊢
  split at h
  · exact h
  · exact h
  · exact h
  · exact h
  · split at h
    · cases h
    · rename_i f as hc
      split at h
      · cases h
      · rename_i v S' he
        rw [enter_le hr he]
        exact h
theorem opers_le {n : Nat} {all : List Oper} : ∀ {os : List Oper} {e : Env} {S : St} {x e' S'}, opers X rec n all os e S = .ok x e' S' → opers X rec' n all os e S = .ok x e' S'
  | [], _, _, _, _, _, h => h
  | o :: os, e, S, x, e', S', h => by
    unfold opers at h ⊢
    cases hw : wanted all e o with
    | true =>
      rw [hw] at h
      simp only [cond_true] at h ⊢
      split at h
      · cases h
      · rename_i v S1 ho
        rw [oper_le hr ho]
        dsimp only
        split at h
        · cases h
        · exact opers_le h
    | false =>
      rw [hw] at h
      simp only [cond_false] at h ⊢
      split at h
      · cases h
      · exact opers_le h
theorem plan_le {n : Nat} {ops : List Oper} {ms : List Nat} {e : Env} : ∀ {os : List Oper} {i : Nat} {acc : List R} {lds : List Nat} {h : Tr AB} {N : Nat} {r}, plan X rec n ops ms e os i acc lds h N = some r → plan X rec' n ops ms e os i acc lds h N = some r
  | [], _, _, _, _, _, _, h => h
  | o :: os, i, acc, lds, hh, N, r, h => by
    unfold plan at h ⊢
    split at h
    · cases h
    · rename_i re hre
      cases hw : wanted ops re o with
      | true =>
        rw [hw] at h
        simp only [cond_true] at h ⊢
        cases hc : cls X re o.op with
        | pure =>
          rw [hc] at h; dsimp only at h ⊢
          split at h
          · cases h
          · exact plan_le h
        | read =>
          rw [hc] at h; dsimp only at h ⊢
          split at h
          · cases h
          · exact plan_le h
        | alloc =>
          rw [hc] at h; dsimp only at h ⊢
          cases hb : Nat.blt N 1000000000 with
          | true =>
            rw [hb] at h; simp only [cond_true] at h ⊢
            split at h
            · cases h
            · exact plan_le h
          | false => rw [hb] at h; cases h
        | loud =>
          rw [hc] at h; dsimp only at h ⊢
          cases hb : lds.all (fun j => inM ms i j) with
          | true =>
            rw [hb] at h; simp only [cond_true] at h ⊢
            split at h
            · cases h
            · rename_i v S ho
              rw [oper_le hr ho]
              exact plan_le h
          | false => rw [hb] at h; cases h
        | call =>
          rw [hc] at h; dsimp only at h ⊢
          cases hb : lds.all (fun j => inM ms i j) with
          | true =>
            rw [hb] at h; simp only [cond_true] at h ⊢
            split at h
            · cases h
            · rename_i v S ho
              rw [oper_le hr ho]
              exact plan_le h
          | false => rw [hb] at h; cases h
      | false =>
        rw [hw] at h
        simp only [cond_false] at h ⊢
        exact plan_le h
theorem drawn_le {n : Nat} {ops : List Oper} {e : Env} {S : St} {x e' S'} (h : drawn X rec n ops e S = .ok x e' S') : drawn X rec' n ops e S = .ok x e' S' := by
  unfold drawn at h ⊢
  dsimp only at h ⊢
  cases hb : (edgesOk ops 0 && dstsOk n ops && noSelect ops) with
  | true =>
    rw [hb] at h; simp only [cond_true] at h ⊢
    split at h
    · cases h
    · rename_i recs lds N hp
      rw [plan_le hr hp]
      exact h
  | false => rw [hb] at h; cases h
theorem step_le : RecLe (step X rec) (step X rec') := by
  intro n c e S x e' S' h
  cases c with
  | seq a b =>
    unfold step at h ⊢
    dsimp only at h ⊢
    split at h
    · cases h
    · rename_i x1 e1 S1 h1
      rw [hr _ _ _ _ _ _ _ h1]
      cases x1 with
      | nor => exact hr _ _ _ _ _ _ _ h
      | exit id => exact h
      | ret => exact h
  | cond c a b =>
    unfold step at h ⊢
    dsimp only at h ⊢
    split at h
    · split at h
      · exact hr _ _ _ _ _ _ _ h
      · exact hr _ _ _ _ _ _ _ h
    · cases h
  | block id b =>
    unfold step at h ⊢
    dsimp only at h ⊢
    split at h
    · cases h
    · rename_i x1 e1 S1 h1
      rw [hr _ _ _ _ _ _ _ h1]
      exact h
  | loop b =>
    unfold step at h ⊢
    dsimp only at h ⊢
    split at h
    · cases h
    · rename_i x1 e1 S1 h1
      rw [hr _ _ _ _ _ _ _ h1]
      cases x1 with
      | nor => exact hr _ _ _ _ _ _ _ h
      | exit id => exact h
      | ret => exact h
  | scope b => exact hr _ _ _ _ _ _ _ h
  | region id ops d =>
    unfold step at h ⊢
    dsimp only at h ⊢
    cases d with
    | true => simp only [cond_true] at h ⊢; exact drawn_le hr h
    | false => simp only [cond_false] at h ⊢; exact opers_le hr h
  | skip => exact h
  | label _ => exact h
  | ret => exact h
  | exit _ => exact h
  | rangeFunc _ _ _ _ => cases h
  | goto _ => cases h
  | refuse _ => cases h
end
section
variable {X : X}
theorem exec_le1 : ∀ f, RecLe (exec X f) (exec X (f + 1))
  | 0 => by intro n c e S x e' S' h; cases h
  | f + 1 => step_le (exec_le1 f)
theorem exec_le {f g : Nat} (h : f ≤ g) : RecLe (exec X f) (exec X g) := by
  obtain ⟨k, rfl⟩ := Nat.exists_eq_add_of_le h
  induction k with
  | zero => intro n c e S x e' S' h; exact h
  | succ k ih => intro n c e S x e' S' h; exact exec_le1 _ _ _ _ _ _ _ _ (ih (by omega) _ _ _ _ _ _ _ h)
end
end GX
