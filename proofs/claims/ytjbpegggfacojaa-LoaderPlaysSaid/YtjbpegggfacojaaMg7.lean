/- What the row leans on, part 7: texts one behind the other. No condition. -/
import Derived.Test.YtjbpegggfacojaaMg6
import Derived.Test.YtjbpegggfacojaaProg
import Derived.KernelRfl
import Derived.Test.YtjbpegggfacojaaMg4
import Derived.Test.YtjbpegggfacojaaMg5
import Derived.Test.YtjbpegggfacojaaMg2
import Derived.Test.YtjbpegggfacojaaMg3
/- The machine GX over this seat's program: its tables are the program's own. No condition. -/



namespace Go.Proofs.Ytjbpegggfacojaa
open GX
def ext0 (_ : Nat) : Option (List AV → St → Option (AV × St)) := none
noncomputable def eqs0 (t : Nat) : Bool := !Try.prog.stoodInHeld t && !Try.prog.eqGuardType Try.prog.depth t
noncomputable abbrev X0 : X := mkX Try.prog eqs0 ext0
set_option maxRecDepth 1000000
theorem gor : (Try.prog.funcs.toList.all fun F => !(F.name == "runtime.NumGoroutine")) = true := by kernel_rfl
theorem mixed : Try.prog.follows .mixedOrders = true := by kernel_rfl
theorem xok [Val] : XOK Try.prog X0 where
  ti := fun t i h => mkTI_ok h
  fn := fun f F h => h
  gor := fun F hF => by
    have := List.all_eq_true.1 gor F (by simpa using hF)
    simpa using this
  mixed := mixed
  eqs := fun t h => by
    have h1 : eqs0 t = true := h
    simpa [eqs0] using h1
theorem ext0_ok [Val] : ∀ f g, X0.ext f = some g → ExtOK Try.prog f g := by
  intro f g h
  have h' : (none : Option (List AV → St → Option (AV × St))) = some g := h
  cases h'
/-- what the machine says of a call -/
noncomputable def says (f : Nat) (args : List AV) : Bool := match call X0 1000000 f args { h := .leaf, n := 0 } with | some (.bool true, _) => true | _ => false
theorem says_calls (f : Nat) (args : List AV) (vs : Array Value) (hext : X0.ext f = none) (h : says f args = true) (hv : ∀ _ : Val, vrels φ0 args vs.toList) (w : World) :
    Calls Try.prog f vs w fun e w' => e = .returned (.bool true) ∧ Go.RowKit.Below w.heap.size w w' := by
  letI : Val := ⟨fun _ => 0, fun _ => none⟩
  unfold says at h
  exact calls_true xok ext0_ok hext h (hv _) w (fun _ _ h => by cases h)
end Go.Proofs.Ytjbpegggfacojaa
/- GX: more fuel does no harm. -/

namespace GX
open Go
def RecLe (rec rec' : Rec) : Prop := ∀ n c e S x e' S', rec n c e S = .ok x e' S' → rec' n c e S = .ok x e' S'
section
variable {X : X} {rec rec' : Rec} (hr : RecLe rec rec')
include hr
theorem enter_le {f : Nat} {args : List AV} {S : St} {r} (h : enter X rec f args S = some r) : enter X rec' f args S = some r := by
  unfold enter at h ⊢
  split at h
  · exact h
  · split at h
    · exact h
    · split at h
      · exact h
      · rename_i F hF _ c hc
        dsimp only at h ⊢
        rw [nblt, cond_dec] at h ⊢
        split at h
        · rename_i hs
          rw [if_pos hs]
          split at h
          · cases h
          · rename_i x e S1 h1
            rw [hr _ _ _ _ _ _ _ h1]
            exact h
        · cases h
theorem oper_le {e : Env} {S : St} {op : Op} {r} (h : oper X rec e S op = some r) : oper X rec' e S op = some r := by
  unfold oper at h ⊢
  split at h
  · exact h
  · exact h
  · exact h
  · exact h
  · split at h
    · cases h
    · rename_i f asx hc
      split at h
      · cases h
      · rename_i v S' he
        rw [enter_le hr he]
        exact h
theorem opers_le {n : Nat} {all : List Oper} : ∀ {os : List Oper} {e : Env} {S : St} {x e' S'}, opers X rec n all os e S = .ok x e' S' → opers X rec' n all os e S = .ok x e' S'
  | [], _, _, _, _, _, h => h
  | o :: os, e, S, x, e', S', h => by
    unfold opers at h ⊢
    cases hw : wanted all e o with
    | true =>
      rw [hw] at h
      simp only [cond_true] at h ⊢
      split at h
      · cases h
      · rename_i v S1 ho
        rw [oper_le hr ho]
        dsimp only
        split at h
        · cases h
        · exact opers_le h
    | false =>
      rw [hw] at h
      simp only [cond_false] at h ⊢
      split at h
      · cases h
      · exact opers_le h
theorem plan_le {n : Nat} {ops : List Oper} {ms : List Nat} {e : Env} : ∀ {os : List Oper} {i : Nat} {acc : List R} {lds : List Nat} {h : Tr AB} {N : Nat} {r}, plan X rec n ops ms e os i acc lds h N = some r → plan X rec' n ops ms e os i acc lds h N = some r
  | [], _, _, _, _, _, _, h => h
  | o :: os, i, acc, lds, hh, N, r, h => by
    unfold plan at h ⊢
    split at h
    · cases h
    · rename_i re hre
      cases hw : wanted ops re o with
      | true =>
        rw [hw] at h
        simp only [cond_true] at h ⊢
        cases hc : cls X re o.op with
        | pure =>
          rw [hc] at h; dsimp only at h ⊢
          split at h
          · cases h
          · exact plan_le h
        | read =>
          rw [hc] at h; dsimp only at h ⊢
          split at h
          · cases h
          · exact plan_le h
        | alloc =>
          rw [hc] at h; dsimp only at h ⊢
          cases hb : Nat.blt N 1000000000 with
          | true =>
            rw [hb] at h; simp only [cond_true] at h ⊢
            split at h
            · cases h
            · exact plan_le h
          | false => rw [hb] at h; cases h
        | loud =>
          rw [hc] at h; dsimp only at h ⊢
          cases hb : lds.all (fun j => inM ms i j) with
          | true =>
            rw [hb] at h; simp only [cond_true] at h ⊢
            split at h
            · cases h
            · rename_i v S ho
              rw [oper_le hr ho]
              exact plan_le h
          | false => rw [hb] at h; cases h
        | call =>
          rw [hc] at h; dsimp only at h ⊢
          cases hb : lds.all (fun j => inM ms i j) with
          | true =>
            rw [hb] at h; simp only [cond_true] at h ⊢
            split at h
            · cases h
            · rename_i v S ho
              rw [oper_le hr ho]
              exact plan_le h
          | false => rw [hb] at h; cases h
      | false =>
        rw [hw] at h
        simp only [cond_false] at h ⊢
        exact plan_le h
theorem drawn_le {n : Nat} {ops : List Oper} {e : Env} {S : St} {x e' S'} (h : drawn X rec n ops e S = .ok x e' S') : drawn X rec' n ops e S = .ok x e' S' := by
  unfold drawn at h ⊢
  dsimp only at h ⊢
  cases hb : (edgesOk ops 0 && dstsOk n ops && noSelect ops) with
  | true =>
    rw [hb] at h; simp only [cond_true] at h ⊢
    split at h
    · cases h
    · rename_i recs lds N hp
      rw [plan_le hr hp]
      exact h
  | false => rw [hb] at h; cases h
theorem step_le : RecLe (step X rec) (step X rec') := by
  intro n c e S x e' S' h
  cases c with
  | seq a b =>
    unfold step at h ⊢
    dsimp only at h ⊢
    split at h
    · cases h
    · rename_i x1 e1 S1 h1
      rw [hr _ _ _ _ _ _ _ h1]
      cases x1 with
      | nor => exact hr _ _ _ _ _ _ _ h
      | exit id => exact h
      | ret => exact h
  | cond c a b =>
    unfold step at h ⊢
    dsimp only at h ⊢
    split at h
    · split at h
      · exact hr _ _ _ _ _ _ _ h
      · exact hr _ _ _ _ _ _ _ h
    · cases h
  | block id b =>
    unfold step at h ⊢
    dsimp only at h ⊢
    split at h
    · cases h
    · rename_i x1 e1 S1 h1
      rw [hr _ _ _ _ _ _ _ h1]
      exact h
  | loop b =>
    unfold step at h ⊢
    dsimp only at h ⊢
    split at h
    · cases h
    · rename_i x1 e1 S1 h1
      rw [hr _ _ _ _ _ _ _ h1]
      cases x1 with
      | nor => exact hr _ _ _ _ _ _ _ h
      | exit id => exact h
      | ret => exact h
  | scope b => exact hr _ _ _ _ _ _ _ h
  | region id ops d =>
    unfold step at h ⊢
    dsimp only at h ⊢
    cases d with
    | true => simp only [cond_true] at h ⊢; exact drawn_le hr h
    | false => simp only [cond_false] at h ⊢; exact opers_le hr h
  | skip => exact h
  | label _ => exact h
  | ret => exact h
  | exit _ => exact h
  | rangeFunc _ _ _ _ => cases h
  | goto _ => cases h
  | refuse _ => cases h
end
section
variable {X : X}
theorem exec_le1 : ∀ f, RecLe (exec X f) (exec X (f + 1))
  | 0 => by intro n c e S x e' S' h; cases h
  | f + 1 => step_le (exec_le1 f)
theorem exec_le {f g : Nat} (h : f ≤ g) : RecLe (exec X f) (exec X g) := by
  obtain ⟨k, rfl⟩ := Nat.exists_eq_add_of_le h
  induction k with
  | zero => intro n c e S x e' S' h; exact h
  | succ k ih => intro n c e S x e' S' h; exact exec_le1 _ _ _ _ _ _ _ _ (ih (by omega) _ _ _ _ _ _ _ h)
end
end GX
/- GX: a region that draws its order, where every order gives what the text's order gives. -/


namespace GX
open Go
def OE (e e' : Env) (op : Op) : Prop := ∀ x ∈ op.operands.toList, opd e x = opd e' x
theorem opds_congr {e e' : Env} : ∀ {l : List Operand}, (∀ x ∈ l, opd e x = opd e' x) → opds e l = opds e' l
  | [], _ => rfl
  | x :: l, h => by
    unfold opds
    rw [h x (by simp), opds_congr fun y hy => h y (by simp [hy])]
theorem opparts_congr {e e' : Env} : ∀ {l : List (Nat × Operand)}, (∀ x ∈ l, opd e x.2 = opd e' x.2) → opparts e l = opparts e' l
  | [], _ => rfl
  | (i, x) :: l, h => by
    unfold opparts
    rw [h (i, x) (by simp), opparts_congr fun y hy => h y (by simp [hy])]
theorem optOpd_congr {e e' : Env} {x : Option Operand} (h : ∀ y, x = some y → opd e y = opd e' y) : optOpd e x = optOpd e' x := by
  cases x with
  | none => rfl
  | some y => unfold optOpd; dsimp only; rw [h y rfl]
theorem pureOp_congr {X : X} {e e' : Env} {op : Op} (h : OE e e' op) : pureOp X e op = pureOp X e' op := by
  unfold OE at h
  cases op with
  | makeFunc fn a b =>
    unfold pureOp
    dsimp only
    rw [opds_congr (e := e) (e' := e') (l := a.toList) (fun x hx => h x (by simp only [Op.operands, Array.toList_append, List.mem_append]; exact .inl hx)), opds_congr (e := e) (e' := e') (l := b.toList) (fun x hx => h x (by simp only [Op.operands, Array.toList_append, List.mem_append]; exact .inr hx))]
  | build t ps =>
    unfold pureOp
    dsimp only
    rw [opparts_congr (e := e) (e' := e') (l := ps.toList) (fun x hx => h x.2 (by simp only [Op.operands]; exact List.mem_map.2 ⟨x, hx, rfl⟩))]
  | slice t x lo hi mx =>
    unfold pureOp
    dsimp only
    have hm : ∀ y, (y ∈ lo.toArray ∨ y ∈ hi.toArray ∨ y ∈ mx.toArray ∨ y = x) → opd e y = opd e' y := by
      intro y hy
      apply h
      simp only [Op.operands, Array.toList_append, List.mem_append, Array.mem_toList_iff]
      rcases hy with h | h | h | h
      · exact .inl (.inl (.inr h))
      · exact .inl (.inr h)
      · exact .inr h
      · exact .inl (.inl (.inl (by simp [h])))
    rw [hm x (by simp), optOpd_congr (x := lo) (fun y hy => hm y (by subst hy; simp)), optOpd_congr (x := hi) (fun y hy => hm y (by subst hy; simp)), optOpd_congr (x := mx) (fun y hy => hm y (by subst hy; simp))]
  | call c =>
    obtain ⟨callee, args, argTypes⟩ := c
    have ha : ∀ x ∈ args.toList, opd e x = opd e' x := fun x hx => h x (by simp only [Op.operands, Call.operands, Array.toList_append, List.mem_append]; exact .inr hx)
    cases callee with
    | value f => rfl
    | invoke r m => rfl
    | builtin b =>
      cases b <;> try rfl
      all_goals
        simp only [pureOp]
        split
        · rename_i heq
          simp [heq] at ha
          simp [ha]
        · rfl
  | move x => simp only [Op.operands, List.mem_singleton, forall_eq] at h; unfold pureOp; dsimp only; rw [h]
  | assign x => simp only [Op.operands, List.mem_singleton, forall_eq] at h; unfold pureOp; dsimp only; rw [h]
  | pick c a b =>
    have h1 := h c (by simp [Op.operands]); have h2 := h a (by simp [Op.operands]); have h3 := h b (by simp [Op.operands])
    unfold pureOp; dsimp only; rw [h1, h2, h3]
  | nilCheck x => have h1 := h x (by simp [Op.operands]); unfold pureOp; dsimp only; rw [h1]
  | unOp o t x => have h1 := h x (by simp [Op.operands]); unfold pureOp; dsimp only; rw [h1]
  | convert s d x => have h1 := h x (by simp [Op.operands]); unfold pureOp; dsimp only; rw [h1]
  | makeInterface t x => have h1 := h x (by simp [Op.operands]); unfold pureOp; dsimp only; rw [h1]
  | fieldAddr s x f => have h1 := h x (by simp [Op.operands]); unfold pureOp; dsimp only; rw [h1]
  | field s x f => have h1 := h x (by simp [Op.operands]); unfold pureOp; dsimp only; rw [h1]
  | extract x f => have h1 := h x (by simp [Op.operands]); unfold pureOp; dsimp only; rw [h1]
  | binOp o t x y _ => have h1 := h x (by simp [Op.operands]); have h2 := h y (by simp [Op.operands]); unfold pureOp; dsimp only; rw [h1, h2]
  | indexAddr t x y => have h1 := h x (by simp [Op.operands]); have h2 := h y (by simp [Op.operands]); unfold pureOp; dsimp only; rw [h1, h2]
  | index t x y => have h1 := h x (by simp [Op.operands]); have h2 := h y (by simp [Op.operands]); unfold pureOp; dsimp only; rw [h1, h2]
  | _ => rfl
theorem readOp_congr {X : X} {e e' : Env} {H : Tr AB} {op : Op} (h : OE e e' op) : readOp X e H op = readOp X e' H op := by
  unfold OE at h
  cases op with
  | load t x => have h1 := h x (by simp [Op.operands]); unfold readOp; dsimp only; rw [h1]
  | convert s d x => have h1 := h x (by simp [Op.operands]); unfold readOp; dsimp only; rw [h1]
  | binOp o t x y _ => have h1 := h x (by simp [Op.operands]); have h2 := h y (by simp [Op.operands]); unfold readOp; dsimp only; rw [h1, h2]
  | lookup t x y _ => have h1 := h x (by simp [Op.operands]); have h2 := h y (by simp [Op.operands]); unfold readOp; dsimp only; rw [h1, h2]
  | call c =>
    obtain ⟨callee, args, argTypes⟩ := c
    have ha : ∀ x ∈ args.toList, opd e x = opd e' x := fun x hx => h x (by simp only [Op.operands, Call.operands, Array.toList_append, List.mem_append]; exact .inr hx)
    cases callee with
    | value f => rfl
    | invoke r m => rfl
    | builtin b =>
      cases b <;> try rfl
      all_goals
        simp only [readOp]
        split
        · rename_i heq
          simp [heq] at ha
          simp [ha]
        · rfl
  | _ => rfl
theorem allocOp_congr {X : X} {e e' : Env} {id : Nat} {op : Op} (h : OE e e' op) : allocOp X e id op = allocOp X e' id op := by
  unfold OE at h
  cases op with
  | box t x => have h1 := h x (by simp [Op.operands]); unfold allocOp; dsimp only; rw [h1]
  | convert s d x => have h1 := h x (by simp [Op.operands]); unfold allocOp; dsimp only; rw [h1]
  | range t x => have h1 := h x (by simp [Op.operands]); unfold allocOp; dsimp only; rw [h1]
  | makeSlice t x y => have h1 := h x (by simp [Op.operands]); have h2 := h y (by simp [Op.operands]); unfold allocOp; dsimp only; rw [h1, h2]
  | buildSlice t n ps =>
    unfold allocOp
    dsimp only
    rw [opparts_congr (e := e) (e' := e') (l := ps.toList) (fun x hx => h x.2 (by simp only [Op.operands]; exact List.mem_map.2 ⟨x, hx, rfl⟩))]
  | _ => rfl
theorem loudOp_congr {X : X} {e e' : Env} {S : St} {op : Op} (h : OE e e' op) : loudOp X e S op = loudOp X e' S op := by
  unfold OE at h
  cases op with
  | store t x y => have h1 := h x (by simp [Op.operands]); have h2 := h y (by simp [Op.operands]); unfold loudOp; dsimp only; rw [h1, h2]
  | convert s d x => have h1 := h x (by simp [Op.operands]); unfold loudOp; dsimp only; rw [h1]
  | next x b => have h1 := h x (by simp [Op.operands]); unfold loudOp; dsimp only; rw [h1]
  | mapEntry t x y => have h1 := h x (by simp [Op.operands]); have h2 := h y (by simp [Op.operands]); unfold loudOp; dsimp only; rw [h1, h2]
  | mapUpdate t x y z => have h1 := h x (by simp [Op.operands]); have h2 := h y (by simp [Op.operands]); have h3 := h z (by simp [Op.operands]); unfold loudOp; dsimp only; rw [h1, h2, h3]
  | insert t x y z => have h1 := h x (by simp [Op.operands]); have h2 := h y (by simp [Op.operands]); have h3 := h z (by simp [Op.operands]); unfold loudOp; dsimp only; rw [h1, h2, h3]
  | entryStore t x y z => have h1 := h x (by simp [Op.operands]); have h2 := h y (by simp [Op.operands]); have h3 := h z (by simp [Op.operands]); unfold loudOp; dsimp only; rw [h1, h2, h3]
  | call c =>
    obtain ⟨callee, args, argTypes⟩ := c
    have ha : ∀ x ∈ args.toList, opd e x = opd e' x := fun x hx => h x (by simp only [Op.operands, Call.operands, Array.toList_append, List.mem_append]; exact .inr hx)
    cases callee with
    | value f => rfl
    | invoke r m => rfl
    | builtin b =>
      cases b <;> try rfl
      all_goals
        simp only [loudOp]
        split
        · rename_i heq _
          simp [heq] at ha
          simp [ha]
        · rfl
  | _ => rfl
theorem callee_congr {e e' : Env} {op : Op} (h : OE e e' op) : callee e op = callee e' op := by
  unfold OE at h
  cases op with
  | call c =>
    obtain ⟨c1, args, argTypes⟩ := c
    have ha : ∀ x ∈ args.toList, opd e x = opd e' x := fun x hx => h x (by simp only [Op.operands, Call.operands, Array.toList_append, List.mem_append]; exact .inr hx)
    cases c1 with
    | value f =>
      have hf := h f (by simp [Op.operands, Call.operands])
      unfold callee
      dsimp only
      rw [hf, opds_congr ha]
    | invoke r m => rfl
    | builtin b => rfl
  | _ => rfl
theorem cls_congr {X : X} {e e' : Env} {op : Op} (h : OE e e' op) : cls X e op = cls X e' op := by
  unfold OE at h
  cases op with
  | binOp o t x y _ => have h1 := h x (by simp [Op.operands]); have h2 := h y (by simp [Op.operands]); unfold cls; dsimp only; rw [h1, h2]
  | call c =>
    obtain ⟨callee, args, argTypes⟩ := c
    have ha : ∀ x ∈ args.toList, opd e x = opd e' x := fun x hx => h x (by simp only [Op.operands, Call.operands, Array.toList_append, List.mem_append]; exact .inr hx)
    cases callee with
    | value f => rfl
    | invoke r m => rfl
    | builtin b =>
      cases b <;> try rfl
      all_goals
        simp only [cls]
        split
        · rename_i heq
          simp [heq] at ha
          simp [ha]
        · rfl
  | _ => rfl
theorem oper_congr {X : X} {rec : Rec} {e e' : Env} {S : St} {op : Op} (h : OE e e' op) : oper X rec e S op = oper X rec e' S op := by
  unfold oper
  rw [cls_congr h, pureOp_congr h, readOp_congr h, allocOp_congr h, loudOp_congr h, callee_congr h]
end GX
/- GX: a region that draws its order is run in the text's order, where the edges say enough. -/

namespace GX
noncomputable section
open Go
/-- what class an operation may be of, but a pure one -/
def sk (X : X) : Op → Cls
  | .binOp _ t _ _ _ => match X.ti t with | some i => (match i.desc with | .pointer _ => .read | _ => .pure) | none => .pure
  | .call c => match c.callee with
    | .builtin .len => match c.argTypes.toList with | t :: _ => (match X.ti t with | some i => (match i.desc with | .map _ _ => .read | _ => .pure) | none => .pure) | _ => .pure
    | _ => cls X .leaf (.call c)
  | op => cls X .leaf op
theorem sk_ok {X : X} {rec : Rec} {e : Env} {S : St} {op : Op} {r} (h : oper X rec e S op = some r) : cls X e op = .pure ∨ cls X e op = sk X op := by
  cases op with
  | binOp o t x y z =>
    cases hc : cls X e (.binOp o t x y z) with
    | pure => exact .inl rfl
    | read =>
      right
      unfold oper at h
      rw [hc] at h
      dsimp only at h
      split at h
      · cases h
      · rename_i v hv
        unfold readOp at hv
        dsimp only at hv
        split at hv
        · split at hv
          · split at hv
            · cases hv
            · rename_i i hi
              unfold sk
              dsimp only
              rw [hi]
              dsimp only
              split at hv
              · rename_i hd; rw [hd]
              · cases hv
          · cases hv
        · cases hv
    | alloc => simp only [cls] at hc; split at hc <;> (try split at hc) <;> simp at hc
    | loud => simp only [cls] at hc; split at hc <;> (try split at hc) <;> simp at hc
    | call => simp only [cls] at hc; split at hc <;> (try split at hc) <;> simp at hc
  | call c =>
    obtain ⟨callee, args, argTypes⟩ := c
    cases callee with
    | value f => exact .inr rfl
    | invoke r m => exact .inr rfl
    | builtin b =>
      cases b <;> try exact .inr rfl
      all_goals
        cases hc : cls X e (.call { callee := .builtin .len, args, argTypes }) with
        | pure => exact .inl rfl
        | read =>
          right
          unfold oper at h
          rw [hc] at h
          dsimp only at h
          split at h
          · cases h
          · rename_i v hv
            unfold readOp at hv
            dsimp only at hv
            split at hv
            · split at hv
              · rename_i hat
                split at hv
                · cases hv
                · rename_i i hi
                  unfold sk
                  dsimp only
                  rw [hat]
                  dsimp only
                  rw [hi]
                  dsimp only
                  split at hv
                  · rename_i hd _; rw [hd]
                  · cases hv
              · cases hv
            · cases hv
        | alloc => simp only [cls] at hc; split at hc <;> (try split at hc) <;> simp at hc
        | loud => simp only [cls] at hc; split at hc <;> (try split at hc) <;> simp at hc
        | call => simp only [cls] at hc; split at hc <;> (try split at hc) <;> simp at hc
  | _ => exact .inr rfl
def rdv (c : Cls) (v : AV) : Bool := match c with | .read => veq v v | _ => true
/-- 'opers', where each value that is read is like itself -/
def opersR (X : X) (rec : Rec) (n : Nat) (all : List Oper) : List Oper → Env → St → Res
  | [], e, S => .ok .nor e S
  | o :: os, e, S =>
    bif wanted all e o then
      match oper X rec e S o.op with
      | none => .fail
      | some (v, S) => bif rdv (cls X e o.op) v then
        (match setDst n e o.dst v with
        | none => .fail
        | some e => opersR X rec n all os e S) else .fail
    else match setDst n e o.dst (.tup []) with
      | none => .fail
      | some e => opersR X rec n all os e S
theorem opersR_opers {X : X} {rec : Rec} {n : Nat} {all : List Oper} : ∀ {os : List Oper} {e : Env} {S : St} {x e' S'}, opersR X rec n all os e S = .ok x e' S' → opers X rec n all os e S = .ok x e' S'
  | [], _, _, _, _, _, h => h
  | o :: os, e, S, x, e', S', h => by
    unfold opersR at h
    unfold opers
    cases hw : wanted all e o with
    | true =>
      rw [hw] at h
      simp only [cond_true] at h ⊢
      split at h
      · cases h
      · rename_i v S1 ho
        rw [ho]
        dsimp only
        cases hb : rdv (cls X e o.op) v with
        | true =>
          rw [hb] at h
          simp only [cond_true] at h
          split at h
          · cases h
          · rename_i e1 he1
            rw [he1]
            exact opersR_opers h
        | false => rw [hb] at h; cases h
    | false =>
      rw [hw] at h
      simp only [cond_false] at h ⊢
      split at h
      · cases h
      · rename_i e1 he1
        rw [he1]
        exact opersR_opers h
def isPure : Cls → Bool | .pure => true | _ => false
def isAll : Cls → Bool | .alloc => true | .loud => true | .call => true | _ => false
def isLC : Cls → Bool | .loud => true | .call => true | _ => false
def bef (ms : List Nat) (sks : List Cls) (i : Nat) (p : Cls → Bool) : Bool := (List.range i).all fun k => !p (sks.getD k .pure) || inM ms i k
def seqOK1 (ops : List Oper) (ms : List Nat) (sks : List Cls) (n : Nat) : List Oper → Nat → Bool
  | [], _ => true
  | o :: os, i => (looks ops o).all (fun t => Nat.blt t n && (match writer t ops 0 with | none => true | some j => inM ms i j || Nat.beq i j || inM ms j i)) &&
      (match sks.getD i .pure with | .pure => true | .read => bef ms sks i isAll | .alloc => true | _ => bef ms sks i (fun c => !isPure c)) && seqOK1 ops ms sks n os (i + 1)
def seqOK (X : X) (n : Nat) (ops : List Oper) : Bool :=
  edgesOk ops 0 && dstsOk n ops && noSelect ops && Nat.blt n 1000001 && seqOK1 ops (masks ops []) (ops.map (fun o => sk X o.op)) n ops 0
theorem gh_snoc {ms lds : List Nat} {p : Nat → Bool} {r : R} : ∀ {a : List R} {k : Nat} {h : Tr AB}, gh ms lds p (a ++ [r]) k h = ghStep ms lds p r (k + a.length) (gh ms lds p a k h)
  | [], k, h => by simp [gh]
  | x :: a, k, h => by
    simp only [List.cons_append, gh]
    rw [gh_snoc (a := a)]
    simp only [List.length_cons]
    rw [show k + 1 + a.length = k + (a.length + 1) by omega]
theorem gh_had {ms lds : List Nat} {p : Nat → Bool} {i : Nat} : ∀ {a : List R} {k : Nat} {h : Tr AB}, (∀ (q : Nat) (r : R) b, a[q]? = some r → r.k = .mk b → inM ms i (k + q) = true) → gh ms (lds ++ [i]) p a k h = h
  | [], _, _, _ => rfl
  | r :: a, k, h, hp => by
    simp only [gh]
    have : ghStep ms (lds ++ [i]) p r k h = h := by
      unfold ghStep
      split
      · rename_i b hb
        have := hp 0 r b (by simp) hb
        simp at this
        simp [this]
      · rfl
    rw [this]
    exact gh_had fun q r' b h1 h2 => by
      have := hp (q + 1) r' b (by simpa using h1) h2
      rw [show k + 1 + q = k + (q + 1) by omega]; exact this
theorem putAll_snoc {n : Nat} {o : Oper} {r : R} : ∀ {os : List Oper} {rs : List R} {e e1 e2 : Env}, putAll n os rs e = some e1 → setDst n e1 o.dst r.v = some e2 → putAll n (os ++ [o]) (rs ++ [r]) e = some e2
  | [], [], e, e1, e2, h, h2 => by simp [putAll] at h; subst h; simp [putAll, h2]
  | [], _ :: _, _, _, _, h, _ => by simp [putAll] at h
  | _ :: _, [], _, _, _, h, _ => by simp [putAll] at h
  | x :: os, y :: rs, e, e1, e2, h, h2 => by
    simp only [putAll, List.cons_append] at h ⊢
    split at h
    · cases h
    · rename_i e3 h3
      exact putAll_snoc h h2
theorem renv_good {ms : List Nat} {ops : List Oper} {acc : List R} {e es : Env} {n i : Nat} (hn : n < 1000001) : ∀ {ts : List Nat}, (∀ t ∈ ts, t < n ∧ lookT ms ops acc e i t = some (es.at t)) → ∃ re, renv ms ops acc e n i ts = some re ∧ ∀ t ∈ ts, re.at t = es.at t
  | [], _ => ⟨.leaf, rfl, fun _ h => by simp at h⟩
  | t :: ts, h => by
    obtain ⟨re, h1, h2⟩ := renv_good hn (ts := ts) (fun t' ht => h t' (by simp [ht]))
    obtain ⟨k1, k2⟩ := h t (by simp)
    refine ⟨re.put t (es.at t), ?_, ?_⟩
    · unfold renv
      rw [nblt, decide_eq_true k1]
      simp only [cond_true]
      rw [k2]; dsimp only; rw [h1]
    · intro t' ht'
      rw [Env.at_put _ _ _ _ (by omega)]
      by_cases hh : t' = t
      · rw [if_pos hh, hh]
      · rw [if_neg hh]; exact h2 t' (by simpa [hh] using ht')
theorem seqOK1_at {ops : List Oper} {ms : List Nat} {sks : List Cls} {n : Nat} : ∀ {os : List Oper} {i : Nat}, seqOK1 ops ms sks n os i = true → ∀ k o, os[k]? = some o →
    (∀ t ∈ looks ops o, t < n ∧ ∀ j, writer t ops 0 = some j → inM ms (i + k) j = true ∨ i + k = j ∨ inM ms j (i + k) = true) ∧
    (match sks.getD (i + k) .pure with | .pure => true | .read => bef ms sks (i + k) isAll | .alloc => true | _ => bef ms sks (i + k) (fun c => !isPure c)) = true
  | [], _, _, k, o, h => by simp at h
  | x :: os, i, h, k, o, hk => by
    unfold seqOK1 at h
    simp only [Bool.and_eq_true] at h
    obtain ⟨⟨h1, h2⟩, h3⟩ := h
    cases k with
    | zero =>
      simp at hk; subst hk
      refine ⟨fun t ht => ?_, by simpa using h2⟩
      have := List.all_eq_true.1 h1 t ht
      simp only [Bool.and_eq_true, nblt, decide_eq_true_eq] at this
      refine ⟨this.1, fun j hj => ?_⟩
      have h4 := this.2
      rw [hj] at h4
      simp only [Bool.or_eq_true, nbeq, decide_eq_true_eq] at h4
      simp only [Nat.add_zero]
      rcases h4 with (h4 | h4) | h4
      · exact .inl h4
      · exact .inr (.inl h4)
      · exact .inr (.inr h4)
    | succ k =>
      have := seqOK1_at h3 k o (by simpa using hk)
      rw [show i + (k + 1) = i + 1 + k by omega]
      exact this
theorem bef_at {ms : List Nat} {sks : List Cls} {i : Nat} {p : Cls → Bool} (h : bef ms sks i p = true) {k : Nat} (hk : k < i) (hp : p (sks.getD k .pure) = true) : inM ms i k = true := by
  have := List.all_eq_true.1 h k (by simpa using hk)
  rw [hp] at this
  simpa using this
theorem mem_looks {ops : List Oper} {o : Oper} {t : Nat} (h : .tmp t ∈ o.op.operands.toList) : t ∈ looks ops o := by
  unfold looks
  rw [List.mem_append]
  left
  exact List.mem_filterMap.2 ⟨.tmp t, h, rfl⟩
theorem wanted_congr {ops : List Oper} {o : Oper} {e e' : Env} (h : ∀ t ∈ looks ops o, e.at t = e'.at t) : wanted ops e o = wanted ops e' o := by
  unfold wanted
  unfold looks at h
  split
  · rfl
  · rename_i j want hg
    rw [hg] at h
    dsimp only at h
    split
    · rfl
    · rename_i p hp
      rw [hp] at h
      dsimp only at h
      split
      · rfl
      · rename_i d hd
        rw [hd] at h
        rw [h d (by simp)]
end
end GX
/- GX: a region that draws its order: the plan follows the text's order. -/

namespace GX
open Go
section
variable {X : X} {rec : Rec} {n : Nat} {ops : List Oper} {e : Env} {h0 : Tr AB}
def RF (X : _root_.GX.X) (n : Nat) (ops : List Oper) (e : Env) (h0 : Tr AB) (recs : List R) (lds : List Nat) (i : Nat) (o : Oper) (r : R) : Prop :=
  r.k = .rd → ∃ l1 l2 ei, lds = l1 ++ l2 ∧ (∀ j ∈ l1, j < i) ∧ (∀ j ∈ l2, i < j) ∧ (∀ t ∈ looks ops o, lookT (masks ops []) ops (recs.take i) e i t = some (ei.at t)) ∧ (∀ t ∈ looks ops o, t < n) ∧
    sk X o.op = .read ∧ readOp X ei (gh (masks ops []) l1 (fun _ => true) (recs.take i) 0 (hOf (recs.take i) h0 l1)) o.op = some r.v ∧ veq r.v r.v = true
theorem OE_of {ops : List Oper} {o : Oper} {re ei : Env} (h : ∀ t ∈ looks ops o, re.at t = ei.at t) : OE re ei o.op := by
  intro x hx
  cases x with
  | tmp t => simp only [opd]; rw [h t (mem_looks hx)]
  | _ => rfl
theorem looks_seq (hn : n < 1000001) (hE : edgesOk ops 0 = true) (hD : dstsOk n ops = true) {pre os : List Oper} {o : Oper} {acc : List R} {ei : Env} (hp : ops = pre ++ o :: os) (hl : acc.length = pre.length) (hput : putAll n pre acc e = some ei)
    (hk : ∀ t ∈ looks ops o, t < n ∧ ∀ j, writer t ops 0 = some j → inM (masks ops []) pre.length j = true ∨ pre.length = j ∨ inM (masks ops []) j pre.length = true) :
    ∀ t ∈ looks ops o, t < n ∧ lookT (masks ops []) ops acc e pre.length t = some (ei.at t) := by
  intro t ht
  obtain ⟨h1, h2⟩ := hk t ht
  refine ⟨h1, ?_⟩
  have hpre : ∀ (q : Nat) (o' : Oper), pre[q]? = some o' → ops[q]? = some o' := by
    intro q o' hq
    rw [hp, List.getElem?_append_left (List.getElem?_eq_some_iff.1 hq).1]; exact hq
  obtain ⟨_, d2⟩ := dsts_spec hD
  obtain ⟨k1, k2⟩ := putAll_at hn hput (fun i j o1 o2 d a b c1 c2 => d2 i j o1 o2 d (hpre _ _ a) (hpre _ _ b) c1 c2) t
  unfold lookT
  cases hw : writer t ops 0 with
  | none =>
    dsimp only
    rw [k2 (fun j o' hj hd => writer_none hw j o' (hpre _ _ hj) hd)]
  | some j =>
    dsimp only
    obtain ⟨_, o', h3, h4⟩ := writer_some hw
    simp only [Nat.sub_zero] at h3
    cases hm : inM (masks ops []) pre.length j with
    | true =>
      simp only [cond_true]
      have hlt := inM_lt hE _ _ hm
      have hpj : pre[j]? = some o' := by
        rw [hp, List.getElem?_append_left hlt] at h3; exact h3
      have haj : acc[j]? = some (acc[j]'(by omega)) := List.getElem?_eq_getElem _
      rw [haj]; dsimp only
      rw [k1 j o' _ hpj h4 haj]
    | false =>
      simp only [cond_false]
      have hge : pre.length ≤ j := by
        rcases h2 j hw with h | h | h
        · rw [hm] at h; cases h
        · omega
        · exact Nat.le_of_lt (inM_lt hE _ _ h)
      have hb : (Nat.beq pre.length j || inM (masks ops []) j pre.length) = true := by
        rcases h2 j hw with h | h | h
        · rw [hm] at h; cases h
        · rw [nbeq]; simp [h]
        · simp [h]
      rw [hb]
      simp only [cond_true]
      rw [k2 (fun q o2 hq hd => by
        have h5 := d2 q j o2 o' t (hpre _ _ hq) h3 hd h4
        have : q < pre.length := (List.getElem?_eq_some_iff.1 hq).1
        omega)]
theorem plan_seq (hn : n < 1000001) (hE : edgesOk ops 0 = true) (hD : dstsOk n ops = true) (hK : seqOK1 ops (masks ops []) (ops.map (fun o => sk X o.op)) n ops 0 = true) :
    ∀ (os pre : List Oper) (acc : List R) (lds : List Nat) (S : St) (ei : Env) (x : Ex) (e' : Env) (S' : St), ops = pre ++ os → acc.length = pre.length → putAll n pre acc e = some ei →
    (∀ (k : Nat) (r : R) b, acc[k]? = some r → r.k = .mk b → (ops.map (fun o => sk X o.op)).getD k .pure = .alloc) →
    (∀ j ∈ lds, j < pre.length ∧ isLC ((ops.map (fun o => sk X o.op)).getD j .pure) = true) →
    lds.Pairwise (· < ·) →
    S.h = gh (masks ops []) lds (fun _ => true) acc 0 (hOf acc h0 lds) →
    opersR X rec n ops os ei S = .ok x e' S' →
    ∃ tl l2, plan X rec n ops (masks ops []) e os pre.length acc lds (hOf acc h0 lds) S.n = some (acc ++ tl, lds ++ l2, S'.n) ∧
      (∀ j ∈ l2, pre.length ≤ j ∧ isLC ((ops.map (fun o => sk X o.op)).getD j .pure) = true) ∧ putAll n ops (acc ++ tl) e = some e' ∧
      S'.h = gh (masks ops []) (lds ++ l2) (fun _ => true) (acc ++ tl) 0 (hOf (acc ++ tl) h0 (lds ++ l2)) ∧ tl.length = os.length ∧ (lds ++ l2).Pairwise (· < ·) ∧ (∀ (k : Nat) (r : R) b, (acc ++ tl)[k]? = some r → r.k = .mk b → (ops.map (fun o => sk X o.op)).getD k .pure = .alloc) ∧
      ∀ (k : Nat) (o : Oper) (r : R), os[k]? = some o → tl[k]? = some r → RF X n ops e h0 (acc ++ tl) (lds ++ l2) (pre.length + k) o r
  | [], pre, acc, lds, S, ei, x, e', S', hp, hl, hput, hmk, _, hpw, hh, h => by
    unfold opersR at h
    cases h
    refine ⟨[], [], ?_, fun j hj => by simp at hj, ?_, ?_, rfl, by simpa using hpw, by simpa using hmk, fun k o r hk => by simp at hk⟩
    · simp [plan]
    · simp only [List.append_nil] at hp ⊢; rw [hp]; exact hput
    · simpa using hh
  | o :: os, pre, acc, lds, S, ei, x, e', S', hp, hl, hput, hmk, hld, hpw, hh, h => by
    have ho : ops[pre.length]? = some o := by rw [hp]; simp
    have hsk : (ops.map (fun o => sk X o.op)).getD pre.length .pure = sk X o.op := by
      rw [List.getD_eq_getElem?_getD, List.getElem?_map, ho]; rfl
    obtain ⟨hk1, hk2⟩ := seqOK1_at hK pre.length o ho
    simp only [Nat.zero_add] at hk1 hk2
    rw [hsk] at hk2
    have hlk := looks_seq hn hE hD hp hl hput hk1
    obtain ⟨re, hre, hag⟩ := renv_good (es := ei) hn hlk
    have hoe : OE re ei o.op := OE_of hag
    have hp' : ops = (pre ++ [o]) ++ os := by rw [hp]; simp
    -- what goes on behind
    have fin : ∀ (r : R) (ldn : List Nat) (S1 : St) (e1 : Env), setDst n ei o.dst r.v = some e1 → (∀ b, r.k = .mk b → sk X o.op = .alloc) → (ldn = [] ∨ ldn = [pre.length] ∧ isLC (sk X o.op) = true) →
        S1.h = gh (masks ops []) (lds ++ ldn) (fun _ => true) (acc ++ [r]) 0 (hOf (acc ++ [r]) h0 (lds ++ ldn)) →
        (r.k = .rd → ldn = [] ∧ sk X o.op = .read ∧ readOp X ei S.h o.op = some r.v ∧ veq r.v r.v = true) →
        opersR X rec n ops os e1 S1 = .ok x e' S' →
        plan X rec n ops (masks ops []) e (o :: os) pre.length acc lds (hOf acc h0 lds) S.n = plan X rec n ops (masks ops []) e os (pre.length + 1) (acc ++ [r]) (lds ++ ldn) (hOf (acc ++ [r]) h0 (lds ++ ldn)) S1.n →
        ∃ tl l2, plan X rec n ops (masks ops []) e (o :: os) pre.length acc lds (hOf acc h0 lds) S.n = some (acc ++ tl, lds ++ l2, S'.n) ∧
          (∀ j ∈ l2, pre.length ≤ j ∧ isLC ((ops.map (fun o => sk X o.op)).getD j .pure) = true) ∧ putAll n ops (acc ++ tl) e = some e' ∧
          S'.h = gh (masks ops []) (lds ++ l2) (fun _ => true) (acc ++ tl) 0 (hOf (acc ++ tl) h0 (lds ++ l2)) ∧ tl.length = (o :: os).length ∧ (lds ++ l2).Pairwise (· < ·) ∧ (∀ (k : Nat) (r : R) b, (acc ++ tl)[k]? = some r → r.k = .mk b → (ops.map (fun o => sk X o.op)).getD k .pure = .alloc) ∧
          ∀ (k : Nat) (o' : Oper) (r : R), (o :: os)[k]? = some o' → tl[k]? = some r → RF X n ops e h0 (acc ++ tl) (lds ++ l2) (pre.length + k) o' r := by
      intro r ldn S1 e1 hset hmk1 hldn hh1 hrd hrun hplan
      obtain ⟨tl, l2, p1, p2, p3, p4, p5, ppw, pmk, p6⟩ := plan_seq hn hE hD hK os (pre ++ [o]) (acc ++ [r]) (lds ++ ldn) S1 e1 x e' S' hp' (by simp [hl]) (putAll_snoc hput hset)
        (by
          intro k r' b hk hb
          by_cases hlt : k < acc.length
          · rw [List.getElem?_append_left hlt] at hk; exact hmk k r' b hk hb
          · have : k = acc.length := by
              have := (List.getElem?_eq_some_iff.1 hk).1
              simp at this; omega
            subst this
            simp at hk; subst hk
            rw [hl, hsk]; exact hmk1 b hb)
        (by
          intro j hj
          rw [List.mem_append] at hj
          rcases hj with hj | hj
          · have := hld j hj; exact ⟨by simp; omega, this.2⟩
          · rcases hldn with hq | ⟨hq, hq2⟩
            · rw [hq] at hj; simp at hj
            · rw [hq] at hj; simp at hj; subst hj; exact ⟨by simp, by rw [hsk]; exact hq2⟩)
        (by
          rw [List.pairwise_append]
          refine ⟨hpw, ?_, fun a ha b hb => ?_⟩
          · rcases hldn with hq | ⟨hq, _⟩ <;> rw [hq] <;> simp
          · rcases hldn with hq | ⟨hq, _⟩
            · rw [hq] at hb; simp at hb
            · rw [hq] at hb; simp at hb; subst hb; exact (hld a ha).1)
        hh1 hrun
      rw [List.length_append, List.length_singleton] at p1
      refine ⟨r :: tl, ldn ++ l2, ?_, ?_, ?_, ?_, by simp [p5], by simpa using ppw, by simpa using pmk, ?_⟩
      · rw [hplan, p1]; simp
      · intro j hj
        rw [List.mem_append] at hj
        rcases hj with hj | hj
        · rcases hldn with hq | ⟨hq, hq2⟩
          · rw [hq] at hj; simp at hj
          · rw [hq] at hj; simp at hj; subst hj; exact ⟨Nat.le_refl _, by rw [hsk]; exact hq2⟩
        · have h1 := (p2 j hj).1; simp only [List.length_append, List.length_singleton] at h1; exact ⟨by omega, (p2 j hj).2⟩
      · rw [← p3]; simp
      · rw [p4]; simp
      · intro k o' r' hk hr'
        cases k with
        | zero =>
          simp at hk hr'; subst hk; subst hr'
          intro hrk
          obtain ⟨q1, q2, q3, q4⟩ := hrd hrk
          subst q1
          refine ⟨lds, l2, ei, by simp, fun j hj => by have := (hld j hj).1; simpa using this, fun j hj => by have := (p2 j hj).1; simp only [List.length_append, List.length_singleton] at this; omega, ?_, fun t ht => (hlk t ht).1, q2, ?_, q4⟩
          · intro t ht
            have : (acc ++ r :: tl).take (pre.length + 0) = acc := by rw [Nat.add_zero, ← hl]; simp
            rw [this]
            exact (hlk t ht).2
          · have : (acc ++ r :: tl).take (pre.length + 0) = acc := by rw [Nat.add_zero, ← hl]; simp
            rw [this, ← hh]; exact q3
        | succ k =>
          have := p6 k o' r' (by simpa using hk) (by simpa using hr')
          simp only [List.length_append, List.length_singleton, List.append_assoc, List.singleton_append] at this
          rw [show pre.length + (k + 1) = pre.length + 1 + k by omega]
          exact this
    unfold opersR at h
    have hwc : wanted ops re o = wanted ops ei o := wanted_congr hag
    have hldlt : ∀ j ∈ lds, j < (acc).length := fun j hj => by rw [hl]; exact (hld j hj).1
    have hOfs : ∀ r : R, hOf (acc ++ [r]) h0 lds = hOf acc h0 lds := fun r => hOf_append hldlt
    have hgs : ∀ r : R, (∀ b, r.k ≠ .mk b) → gh (masks ops []) lds (fun _ => true) (acc ++ [r]) 0 (hOf (acc ++ [r]) h0 lds) = S.h := by
      intro r hr
      rw [hOfs, gh_snoc, ← hh]
      unfold ghStep
      split
      · rename_i b hb; exact absurd hb (hr b)
      · rfl
    have hgc : (∀ (k : Nat), k < pre.length → (ops.map (fun o => sk X o.op)).getD k .pure = .alloc → inM (masks ops []) pre.length k = true) → gh (masks ops []) lds (inM (masks ops []) pre.length) acc 0 (hOf acc h0 lds) = S.h := by
      intro hq
      rw [hh]
      apply gh_congr
      intro k r b h1 h2
      have hkl : k < pre.length := by have := (List.getElem?_eq_some_iff.1 h1).1; omega
      simp only [Nat.zero_add]
      exact hq k hkl (hmk k r b h1 h2)
    cases hw : wanted ops ei o with
    | false =>
      rw [hw] at h
      simp only [cond_false] at h
      split at h
      · cases h
      · rename_i e1 he1
        refine fin ⟨.tup [], S.n, .val⟩ [] S e1 he1 (fun b hb => by cases hb) (.inl rfl) ?_ (fun hb => by cases hb) h ?_
        · rw [List.append_nil, hgs _ (fun b hb => by cases hb)]
        · conv => lhs; unfold plan
          rw [hre]; dsimp only; rw [hwc, hw]; simp only [cond_false, List.append_nil]
          rw [hOfs]
    | true =>
      rw [hw] at h
      simp only [cond_true] at h
      split at h
      · cases h
      · rename_i v S1 hop
        cases hb : rdv (cls X ei o.op) v with
        | false => rw [hb] at h; cases h
        | true =>
          rw [hb] at h
          simp only [cond_true] at h
          split at h
          · cases h
          · rename_i e1 he1
            have hck := sk_ok hop
            have hclr : cls X re o.op = cls X ei o.op := cls_congr hoe
            have hloud : isLC (cls X ei o.op) = true →
              ∃ tl l2, plan X rec n ops (masks ops []) e (o :: os) pre.length acc lds (hOf acc h0 lds) S.n = some (acc ++ tl, lds ++ l2, S'.n) ∧
                (∀ j ∈ l2, pre.length ≤ j ∧ isLC ((ops.map (fun o => sk X o.op)).getD j .pure) = true) ∧ putAll n ops (acc ++ tl) e = some e' ∧
                S'.h = gh (masks ops []) (lds ++ l2) (fun _ => true) (acc ++ tl) 0 (hOf (acc ++ tl) h0 (lds ++ l2)) ∧ tl.length = (o :: os).length ∧ (lds ++ l2).Pairwise (· < ·) ∧ (∀ (k : Nat) (r : R) b, (acc ++ tl)[k]? = some r → r.k = .mk b → (ops.map (fun o => sk X o.op)).getD k .pure = .alloc) ∧
                ∀ (k : Nat) (o' : Oper) (r : R), (o :: os)[k]? = some o' → tl[k]? = some r → RF X n ops e h0 (acc ++ tl) (lds ++ l2) (pre.length + k) o' r := by
              intro hlc
              have hs : cls X ei o.op = sk X o.op := by
                rcases hck with hq | hq
                · rw [hq] at hlc; cases hlc
                · exact hq
              rw [hs] at hlc
              have hbef : bef (masks ops []) (ops.map (fun o => sk X o.op)) pre.length (fun c => !isPure c) = true := by
                cases hskc : sk X o.op with
                | loud => rw [hskc] at hk2; exact hk2
                | call => rw [hskc] at hk2; exact hk2
                | _ => rw [hskc] at hlc; cases hlc
              have hg := hgc (fun k hk hq => bef_at hbef hk (by rw [hq]; rfl))
              have hall : lds.all (fun j => inM (masks ops []) pre.length j) = true := by
                apply List.all_eq_true.2
                intro j hj
                obtain ⟨q1, q2⟩ := hld j hj
                exact bef_at hbef q1 (by cases hq : (ops.map (fun o => sk X o.op)).getD j .pure <;> rw [hq] at q2 <;> first | rfl | cases q2)
              have hop' : oper X rec re { h := gh (masks ops []) lds (inM (masks ops []) pre.length) acc 0 (hOf acc h0 lds), n := S.n } o.op = some (v, S1) := by
                rw [hg, oper_congr hoe]; exact hop
              refine fin ⟨v, S.n, .ld S1.h S1.n⟩ [pre.length] S1 e1 he1 (fun b hb => by cases hb) (.inr ⟨rfl, hlc⟩) ?_ (fun hb => by cases hb) h ?_
              · rw [gh_snoc]
                have : hOf (acc ++ [(⟨v, S.n, .ld S1.h S1.n⟩ : R)]) h0 (lds ++ [pre.length]) = S1.h := hOf_snoc (r := ⟨v, S.n, .ld S1.h S1.n⟩) (m := S1.n) (by rw [← hl]; simp) rfl
                rw [this, gh_had (fun q r b h1 h2 => by
                  have hkl : q < pre.length := by have := (List.getElem?_eq_some_iff.1 h1).1; omega
                  rw [Nat.zero_add]
                  exact bef_at hbef hkl (by rw [hmk q r b h1 h2]; rfl))]
                rfl
              · conv => lhs; unfold plan
                rw [hre]; dsimp only; rw [hwc, hw]; simp only [cond_true]
                have : hOf (acc ++ [(⟨v, S.n, .ld S1.h S1.n⟩ : R)]) h0 (lds ++ [pre.length]) = S1.h := hOf_snoc (r := ⟨v, S.n, .ld S1.h S1.n⟩) (m := S1.n) (by rw [← hl]; simp) rfl
                rw [hclr, hs]
                cases hskc : sk X o.op with
                | loud => dsimp only; rw [hall]; simp only [cond_true]; rw [hop']; dsimp only; rw [this]
                | call => dsimp only; rw [hall]; simp only [cond_true]; rw [hop']; dsimp only; rw [this]
                | _ => rw [hskc] at hlc; cases hlc
            cases hc : cls X ei o.op with
            | loud => exact hloud (by rw [hc]; rfl)
            | call => exact hloud (by rw [hc]; rfl)
            | pure =>
              unfold oper at hop
              rw [hc] at hop
              dsimp only at hop
              split at hop
              · cases hop
              · rename_i v' hv
                cases hop
                refine fin ⟨v, S.n, .val⟩ [] S e1 he1 (fun b hb => by cases hb) (.inl rfl) ?_ (fun hb => by cases hb) h ?_
                · rw [List.append_nil, hgs _ (fun b hb => by cases hb)]
                · conv => lhs; unfold plan
                  rw [hre]; dsimp only; rw [hwc, hw]; simp only [cond_true, List.append_nil]
                  rw [hclr, hc]; dsimp only; rw [pureOp_congr hoe, hv]; dsimp only; rw [hOfs]
            | read =>
              have hs : sk X o.op = .read := by
                rcases hck with hq | hq
                · rw [hq] at hc; cases hc
                · rw [← hq]; exact hc
              rw [hs] at hk2
              dsimp only at hk2
              unfold oper at hop
              rw [hc] at hop
              dsimp only at hop
              split at hop
              · cases hop
              · rename_i v' hv
                cases hop
                rw [hc] at hb
                have hg := hgc (fun k hk hq => bef_at hk2 hk (by rw [hq]; rfl))
                refine fin ⟨v, S.n, .rd⟩ [] S e1 he1 (fun b hb => by cases hb) (.inl rfl) ?_ (fun _ => ⟨rfl, hs, hv, hb⟩) h ?_
                · rw [List.append_nil, hgs _ (fun b hb => by cases hb)]
                · conv => lhs; unfold plan
                  rw [hre]; dsimp only; rw [hwc, hw]; simp only [cond_true, List.append_nil]
                  rw [hclr, hc]; dsimp only; rw [hg, readOp_congr hoe, hv]; dsimp only; rw [hOfs]
            | alloc =>
              have hs : sk X o.op = .alloc := by
                rcases hck with hq | hq
                · rw [hq] at hc; cases hc
                · rw [← hq]; exact hc
              unfold oper at hop
              rw [hc] at hop
              dsimp only at hop
              cases hlt : Nat.blt S.n 1000000000 with
              | false => rw [hlt] at hop; cases hop
              | true =>
                rw [hlt] at hop
                simp only [cond_true] at hop
                split at hop
                · cases hop
                · rename_i b' v' hv
                  cases hop
                  refine fin ⟨v, S.n, .mk b'⟩ [] (S.new b') e1 he1 (fun _ _ => hs) (.inl rfl) ?_ (fun hb => by cases hb) h ?_
                  · rw [List.append_nil, hOfs, gh_snoc, ← hh]
                    unfold ghStep
                    dsimp only
                    have : lds.all (fun j => !inM (masks ops []) j (0 + acc.length)) = true := by
                      apply List.all_eq_true.2
                      intro j hj
                      have h1 := (hld j hj).1
                      cases hq : inM (masks ops []) j (0 + acc.length) with
                      | false => rfl
                      | true => have := inM_lt hE _ _ hq; omega
                    rw [this]
                    rfl
                  · conv => lhs; unfold plan
                    rw [hre]; dsimp only; rw [hwc, hw]; simp only [cond_true, List.append_nil]
                    rw [hclr, hc]; dsimp only; rw [hlt]; simp only [cond_true]; rw [allocOp_congr hoe, hv]; dsimp only; rw [hOfs]
                    rfl

theorem rdOk_of {i : Nat} {op : Op} {v : AV} {re : Env} {lds : List Nat} {recs : List R} {ms : List Nat} : ∀ {js pf : List Nat}, (∀ a b, js = a ++ b → rdOk.rd1 X ms recs h0 re i op v lds (pf ++ a) = true) → rdOk X ops ms recs h0 re i op v lds pf js = true
  | [], pf, h => by unfold rdOk; simpa using h [] [] rfl
  | j :: js, pf, h => by
    unfold rdOk
    rw [Bool.and_eq_true]
    refine ⟨by simpa using h [] (j :: js) rfl, rdOk_of fun a b hab => ?_⟩
    have := h (j :: a) b (by rw [hab]; rfl)
    simpa using this
theorem rdsOk_of {recs : List R} {lds : List Nat} {ms : List Nat} : ∀ {os : List Oper} {k : Nat}, (∀ (i : Nat) (o : Oper), os[i]? = some o → ∃ r, recs[k + i]? = some r ∧ (r.k = .rd → ∃ re, renv ms ops recs e n (k + i) (looks ops o) = some re ∧ rdOk X ops ms recs h0 re (k + i) o.op r.v lds [] lds = true)) → rdsOk X n ops ms recs e h0 lds os k = true
  | [], _, _ => rfl
  | o :: os, k, h => by
    unfold rdsOk
    rw [Bool.and_eq_true]
    refine ⟨?_, rdsOk_of fun i o' ho => ?_⟩
    · obtain ⟨r, h1, h2⟩ := h 0 o (by simp)
      simp only [Nat.add_zero] at h1 h2
      rw [h1]; dsimp only
      split
      · rename_i hk
        obtain ⟨re, h3, h4⟩ := h2 hk
        rw [h3]; exact h4
      · rfl
    · have := h (i + 1) o' (by simpa using ho)
      rw [show k + 1 + i = k + (i + 1) by omega]; exact this
/-- WHERE THE EDGES SAY ENOUGH, a region that draws its order gives what the text's order gives. -/
theorem drawn_seq {S : St} {x : Ex} {e' : Env} {S' : St} (hs : seqOK X n ops = true) (h : opersR X rec n ops ops e S = .ok x e' S') : drawn X rec n ops e S = .ok x e' S' := by
  unfold seqOK at hs
  simp only [Bool.and_eq_true, nblt, decide_eq_true_eq] at hs
  obtain ⟨⟨⟨⟨hE, hD⟩, hN⟩, hn⟩, hK⟩ := hs
  obtain ⟨hle, hx⟩ := opers_n (opersR_opers h)
  subst hx
  obtain ⟨tl, l2, p1, p2, p3, p4, p5, ppw, pmk, p6⟩ := plan_seq (h0 := S.h) (e := e) hn hE hD hK ops [] [] [] S e .nor e' S' (by simp) rfl (by simp [putAll]) (fun k r b hk => by simp at hk) (fun j hj => by simp at hj) List.Pairwise.nil (by simp [gh, hOf]) h
  simp only [List.nil_append, List.length_nil, hOf, Nat.zero_add] at p1 p2 p3 p4 p6 ppw pmk
  unfold drawn
  dsimp only
  rw [hE, hD, hN]
  simp only [Bool.and_self, cond_true]
  rw [p1]
  dsimp only
  have hrd : rdsOk X n ops (masks ops []) tl e S.h l2 ops 0 = true := by
    apply rdsOk_of
    intro i o ho
    have hi : i < ops.length := (List.getElem?_eq_some_iff.1 ho).1
    have hr : tl[i]? = some (tl[i]'(by omega)) := List.getElem?_eq_getElem _
    rw [Nat.zero_add]
    refine ⟨_, hr, fun hk => ?_⟩
    obtain ⟨l1, l3, ei, q1, q2, q3, q4, q5, q6, q7, q8⟩ := p6 i o _ ho hr hk
    have hlt : ∀ j, inM (masks ops []) i j = true → j < (tl.take i).length := fun j hj => by
      have := inM_lt hE _ _ hj
      simp; omega
    have htl : tl = tl.take i ++ tl.drop i := (List.take_append_drop i tl).symm
    obtain ⟨re, r1, r2⟩ := renv_good (ms := masks ops []) (ops := ops) (acc := tl) (e := e) (es := ei) (n := n) (i := i) hn (ts := looks ops o) (fun t ht => ⟨q5 t ht, by
      rw [htl, lookT_append hlt]; exact q4 t ht⟩)
    refine ⟨re, r1, rdOk_of fun a b hab => ?_⟩
    have hoe : OE re ei o.op := OE_of r2
    obtain ⟨_, hk2⟩ := seqOK1_at hK i o ho
    have hski : (ops.map (fun o => sk X o.op)).getD i .pure = sk X o.op := by
      rw [List.getD_eq_getElem?_getD, List.getElem?_map, ho]; rfl
    rw [Nat.zero_add, hski, q6] at hk2
    dsimp only at hk2
    rw [List.nil_append]
    unfold rdOk.rd1
    cases hc : (a.all (fun j => !inM (masks ops []) j i) && l2.all (fun j => !inM (masks ops []) i j || a.contains j)) with
    | false => rfl
    | true =>
      simp only [cond_true]
      simp only [Bool.and_eq_true] at hc
      obtain ⟨c1, c2⟩ := hc
      have hal : a = l1 := by
        have hpre : a ++ b = l1 ++ l3 := by rw [← hab, q1]
        have hin1 : ∀ j ∈ l1, j ∈ a := by
          intro j hj
          have hj2 : j ∈ l2 := by rw [q1]; exact List.mem_append_left _ hj
          have h1 := List.all_eq_true.1 c2 j hj2
          have h2 : inM (masks ops []) i j = true := by
            apply bef_at hk2 (q2 j hj)
            have := (p2 j hj2).2
            cases hq : (ops.map (fun o => sk X o.op)).getD j .pure <;> rw [hq] at this <;> first | rfl | cases this
          rw [h2] at h1
          simpa using h1
        have hin3 : ∀ j ∈ l3, j ∉ a := by
          intro j hj hja
          have hj2 : j ∈ l2 := by rw [q1]; exact List.mem_append_right _ hj
          have h1 := List.all_eq_true.1 c1 j hja
          have hjl : j < ops.length := by
            have := (p2 j hj2).2
            rw [List.getD_eq_getElem?_getD] at this
            by_cases hlt : j < ops.length
            · exact hlt
            · rw [List.getElem?_eq_none (by simpa using hlt)] at this; cases this
          obtain ⟨oj, hoj⟩ : ∃ oj, ops[j]? = some oj := ⟨_, List.getElem?_eq_getElem hjl⟩
          obtain ⟨_, hk3⟩ := seqOK1_at hK j oj hoj
          rw [Nat.zero_add] at hk3
          have hl := (p2 j hj2).2
          have hb : bef (masks ops []) (ops.map (fun o => sk X o.op)) j (fun c => !isPure c) = true := by
            cases hq : (ops.map (fun o => sk X o.op)).getD j .pure <;> rw [hq] at hl hk3 <;> first | exact hk3 | cases hl
          have := bef_at hb (q3 j hj) (by rw [hski, q6]; rfl)
          rw [this] at h1
          cases h1
        rcases List.append_eq_append_iff.1 hpre with ⟨m, hm1, hm2⟩ | ⟨m, hm1, hm2⟩
        · -- l1 = a ++ m
          cases m with
          | nil => simpa using hm1.symm
          | cons y m =>
            exfalso
            have hy : y ∈ a := hin1 y (by rw [hm1]; simp)
            rw [q1, hm1, List.append_assoc, List.pairwise_append] at ppw
            have := ppw.2.2 y hy y (by simp)
            omega
        · cases m with
          | nil => simpa using hm1
          | cons y m =>
            exfalso
            exact hin3 y (by rw [hm2]; simp) (by rw [hm1]; simp)
      subst hal
      have hh : gh (masks ops []) a (inM (masks ops []) i) tl 0 (hOf tl S.h a) = gh (masks ops []) a (fun _ => true) (tl.take i) 0 (hOf (tl.take i) S.h a) := by
        conv => lhs; rw [htl]
        rw [gh_append (fun q hq => by
          cases hm : inM (masks ops []) i q with
          | false => rfl
          | true => have := hlt q hm; omega)]
        rw [hOf_append (fun j hj => by have := q2 j hj; simp; omega)]
        apply gh_congr
        intro k r b h1 h2
        rw [Nat.zero_add]
        have hki : k < i := by have := (List.getElem?_eq_some_iff.1 h1).1; simp at this; omega
        apply bef_at hk2 hki
        have : (ops.map (fun o => sk X o.op)).getD k .pure = .alloc := by
          have hkr : tl[k]? = some r := by rw [htl, List.getElem?_append_left (List.getElem?_eq_some_iff.1 h1).1]; exact h1
          exact pmk k r b hkr h2
        rw [this]; rfl
      rw [hh, readOp_congr hoe, q7]
      exact q8
  rw [hrd]
  simp only [cond_true]
  rw [p3]
  dsimp only
  rw [nble, decide_eq_true hle]
  simp only [cond_true]
  rw [← p4]
end
end GX
/- GX: reasoning about runs of the machine: rules, one an operation. -/


namespace GX
noncomputable section
open Go
abbrev L := List (Nat × AV)
def lk : L → Nat → Option AV
  | [], _ => none
  | (d, v) :: l, t => bif Nat.beq d t then some v else lk l t
def Ag (l : L) (e : Env) : Prop := ∀ t v, lk l t = some v → e.at t = v
def od (l : L) : Operand → Option AV
  | .tmp t => lk l t
  | .const v => ofVal 100 v
  | .func f => some (.func (.func f) [] [])
  | .global _ => none
def ods (l : L) : List Operand → Option (List AV)
  | [] => some []
  | x :: xs => match od l x with
    | none => none
    | some a => match ods l xs with | none => none | some asx => some (a :: asx)
def odparts (l : L) : List (Nat × Operand) → Option (List (Nat × AV))
  | [] => some []
  | (i, x) :: xs => match od l x with
    | none => none
    | some a => match odparts l xs with | none => none | some asx => some ((i, a) :: asx)
def odopt (l : L) : Option Operand → Option (Option AV)
  | none => some none
  | some x => match od l x with | none => none | some a => some (some a)
section
variable {l : L} {e : Env}
theorem od_ok (h : Ag l e) {x : Operand} {v : AV} (hx : od l x = some v) : opd e x = some v := by
  cases x with
  | tmp t => simp only [od] at hx; simp only [opd]; rw [h t v hx]
  | const c => exact hx
  | func f => exact hx
  | global g => cases hx
theorem ods_ok (h : Ag l e) : ∀ {xs : List Operand} {vs : List AV}, ods l xs = some vs → opds e xs = some vs
  | [], _, hx => hx
  | x :: xs, vs, hx => by
    unfold ods at hx
    split at hx
    · cases hx
    · rename_i a ha
      split at hx
      · cases hx
      · rename_i asx has
        unfold opds
        rw [od_ok h ha]; dsimp only; rw [ods_ok h has]; exact hx
theorem odparts_ok (h : Ag l e) : ∀ {xs : List (Nat × Operand)} {vs : List (Nat × AV)}, odparts l xs = some vs → opparts e xs = some vs
  | [], _, hx => hx
  | (i, x) :: xs, vs, hx => by
    unfold odparts at hx
    split at hx
    · cases hx
    · rename_i a ha
      split at hx
      · cases hx
      · rename_i asx has
        unfold opparts
        rw [od_ok h ha]; dsimp only; rw [odparts_ok h has]; exact hx
theorem odopt_ok (h : Ag l e) {x : Option Operand} {v : Option AV} (hx : odopt l x = some v) : optOpd e x = some v := by
  cases x with
  | none => exact hx
  | some x =>
    unfold odopt at hx
    dsimp only at hx
    split at hx
    · cases hx
    · rename_i a ha
      unfold optOpd
      dsimp only
      rw [od_ok h ha]; exact hx
theorem Ag.put {n d : Nat} {v : AV} (h : Ag l e) (hn : n < 1000001) (hd : d < n) : Ag ((d, v) :: l) (e.put d v) := by
  intro t u hu
  unfold lk at hu
  rw [nbeq, cond_dec] at hu
  rw [Env.at_put _ _ _ _ (by omega)]
  by_cases ht : d = t
  · subst ht; rw [if_pos rfl] at hu; rw [if_pos rfl]; exact (Option.some.inj hu)
  · rw [if_neg ht] at hu; rw [if_neg (Ne.symm ht)]; exact h t u hu
end
/-- what is still to be done behind a piece of code -/
inductive Kt where
  | seq (b : Code)
  | block (id : Nat)
  | loop (b : Code)
def QK (X : X) (n : Nat) : List Kt → (Ex → Env → St → Prop) → Ex → Env → St → Prop
  | [], Q => Q
  | .seq b :: ks, Q => fun x e S => match x with
    | .nor => ∃ f x' e' S', exec X f n b e S = .ok x' e' S' ∧ QK X n ks Q x' e' S'
    | x => QK X n ks Q x e S
  | .block id :: ks, Q => fun x e S => match x with
    | .exit i => bif Nat.beq i id then QK X n ks Q .nor e S else QK X n ks Q (.exit i) e S
    | x => QK X n ks Q x e S
  | .loop b :: ks, Q => fun x e S => match x with
    | .nor => ∃ f x' e' S', exec X f n (.loop b) e S = .ok x' e' S' ∧ QK X n ks Q x' e' S'
    | x => QK X n ks Q x e S
/-- a run of a piece of code, and of what is behind it -/
def W (X : X) (n : Nat) (c : Code) (ks : List Kt) (Q : Ex → Env → St → Prop) (l : L) (S : St) : Prop :=
  ∀ e, Ag l e → ∃ f x e' S', exec X f n c e S = .ok x e' S' ∧ QK X n ks Q x e' S'
def V (X : X) (n : Nat) (x : Ex) (ks : List Kt) (Q : Ex → Env → St → Prop) (l : L) (S : St) : Prop :=
  ∀ e, Ag l e → QK X n ks Q x e S
def WO (X : X) (n : Nat) (all os : List Oper) (ks : List Kt) (Q : Ex → Env → St → Prop) (l : L) (S : St) : Prop :=
  ∀ e, Ag l e → ∃ f e' S', opersR X (exec X f) n all os e S = .ok .nor e' S' ∧ QK X n ks Q .nor e' S'
section
variable {X : X} {n : Nat} {ks : List Kt} {Q : Ex → Env → St → Prop} {l : L} {S : St} {a b c : Code}
theorem W_seq (h : W X n a (.seq b :: ks) Q l S) : W X n (.seq a b) ks Q l S := by
  intro e he
  obtain ⟨f, x, e1, S1, h1, h2⟩ := h e he
  cases x with
  | nor =>
    obtain ⟨g, x2, e2, S2, h3, h4⟩ := h2
    refine ⟨max f g + 1, x2, e2, S2, ?_, h4⟩
    show step X (exec X (max f g)) n (.seq a b) e S = _
    unfold step
    dsimp only
    rw [exec_le (Nat.le_max_left f g) _ _ _ _ _ _ _ h1]
    exact exec_le (Nat.le_max_right f g) _ _ _ _ _ _ _ h3
  | exit i => exact ⟨f + 1, .exit i, e1, S1, by show step X (exec X f) n (.seq a b) e S = _; unfold step; dsimp only; rw [h1], h2⟩
  | ret => exact ⟨f + 1, .ret, e1, S1, by show step X (exec X f) n (.seq a b) e S = _; unfold step; dsimp only; rw [h1], h2⟩
theorem W_block {id : Nat} (h : W X n b (.block id :: ks) Q l S) : W X n (.block id b) ks Q l S := by
  intro e he
  obtain ⟨f, x, e1, S1, h1, h2⟩ := h e he
  cases x with
  | nor => exact ⟨f + 1, .nor, e1, S1, by show step X (exec X f) n (.block id b) e S = _; unfold step; dsimp only; rw [h1], h2⟩
  | ret => exact ⟨f + 1, .ret, e1, S1, by show step X (exec X f) n (.block id b) e S = _; unfold step; dsimp only; rw [h1], h2⟩
  | exit i =>
    have h2 : bif Nat.beq i id then QK X n ks Q .nor e1 S1 else QK X n ks Q (.exit i) e1 S1 := h2
    cases hb : Nat.beq i id with
    | true =>
      rw [hb] at h2
      exact ⟨f + 1, .nor, e1, S1, by show step X (exec X f) n (.block id b) e S = _; unfold step; dsimp only; rw [h1]; dsimp only; rw [hb]; rfl, h2⟩
    | false =>
      rw [hb] at h2
      exact ⟨f + 1, .exit i, e1, S1, by show step X (exec X f) n (.block id b) e S = _; unfold step; dsimp only; rw [h1]; dsimp only; rw [hb]; rfl, h2⟩
theorem W_loop (h : W X n b (.loop b :: ks) Q l S) : W X n (.loop b) ks Q l S := by
  intro e he
  obtain ⟨f, x, e1, S1, h1, h2⟩ := h e he
  cases x with
  | nor =>
    obtain ⟨g, x2, e2, S2, h3, h4⟩ := h2
    refine ⟨max f g + 1, x2, e2, S2, ?_, h4⟩
    show step X (exec X (max f g)) n (.loop b) e S = _
    unfold step
    dsimp only
    rw [exec_le (Nat.le_max_left f g) _ _ _ _ _ _ _ h1]
    exact exec_le (Nat.le_max_right f g) _ _ _ _ _ _ _ h3
  | exit i => exact ⟨f + 1, .exit i, e1, S1, by show step X (exec X f) n (.loop b) e S = _; unfold step; dsimp only; rw [h1], h2⟩
  | ret => exact ⟨f + 1, .ret, e1, S1, by show step X (exec X f) n (.loop b) e S = _; unfold step; dsimp only; rw [h1], h2⟩
theorem W_scope (h : W X n b ks Q l S) : W X n (.scope b) ks Q l S := by
  intro e he
  obtain ⟨f, x, e1, S1, h1, h2⟩ := h e he
  exact ⟨f + 1, x, e1, S1, h1, h2⟩
theorem W_skip (h : V X n .nor ks Q l S) : W X n .skip ks Q l S := fun e he => ⟨1, .nor, e, S, rfl, h e he⟩
theorem W_label {i : Nat} (h : V X n .nor ks Q l S) : W X n (.label i) ks Q l S := fun e he => ⟨1, .nor, e, S, rfl, h e he⟩
theorem W_ret (h : V X n .ret ks Q l S) : W X n .ret ks Q l S := fun e he => ⟨1, .ret, e, S, rfl, h e he⟩
theorem W_exit {i : Nat} (h : V X n (.exit i) ks Q l S) : W X n (.exit i) ks Q l S := fun e he => ⟨1, .exit i, e, S, rfl, h e he⟩
theorem W_cond_t {o : Operand} (ho : od l o = some (.bool true)) (h : W X n a ks Q l S) : W X n (.cond o a b) ks Q l S := by
  intro e he
  obtain ⟨f, x, e1, S1, h1, h2⟩ := h e he
  exact ⟨f + 1, x, e1, S1, by show step X (exec X f) n (.cond o a b) e S = _; unfold step; dsimp only; rw [od_ok he ho]; exact h1, h2⟩
theorem W_cond_f {o : Operand} (ho : od l o = some (.bool false)) (h : W X n b ks Q l S) : W X n (.cond o a b) ks Q l S := by
  intro e he
  obtain ⟨f, x, e1, S1, h1, h2⟩ := h e he
  exact ⟨f + 1, x, e1, S1, by show step X (exec X f) n (.cond o a b) e S = _; unfold step; dsimp only; rw [od_ok he ho]; exact h1, h2⟩
theorem W_cond {o : Operand} {p : Prop} [Decidable p] (ho : od l o = some (.bool (decide p))) (ht : p → W X n a ks Q l S) (hf : ¬ p → W X n b ks Q l S) : W X n (.cond o a b) ks Q l S := by
  by_cases h : p
  · exact W_cond_t (by rw [ho, decide_eq_true h]) (ht h)
  · exact W_cond_f (by rw [ho, decide_eq_false h]) (hf h)
theorem W_condb {o : Operand} {p : Bool} (ho : od l o = some (.bool p)) (ht : p = true → W X n a ks Q l S) (hf : p = false → W X n b ks Q l S) : W X n (.cond o a b) ks Q l S := by
  cases p with
  | true => exact W_cond_t ho (ht rfl)
  | false => exact W_cond_f ho (hf rfl)
theorem W_region {id : Nat} {ops : Array Oper} (h : WO X n ops.toList ops.toList ks Q l S) : W X n (.region id ops false) ks Q l S := by
  intro e he
  obtain ⟨f, e1, S1, h1, h2⟩ := h e he
  exact ⟨f + 1, .nor, e1, S1, by show step X (exec X f) n (.region id ops false) e S = _; unfold step; exact opersR_opers h1, h2⟩
theorem W_drawn {id : Nat} {ops : Array Oper} (hs : seqOK X n ops.toList = true) (h : WO X n ops.toList ops.toList ks Q l S) : W X n (.region id ops true) ks Q l S := by
  intro e he
  obtain ⟨f, e1, S1, h1, h2⟩ := h e he
  exact ⟨f + 1, .nor, e1, S1, by show step X (exec X f) n (.region id ops true) e S = _; unfold step; exact drawn_seq hs h1, h2⟩
theorem WO_nil {all : List Oper} (h : V X n .nor ks Q l S) : WO X n all [] ks Q l S := fun e he => ⟨0, e, S, rfl, h e he⟩
theorem V_seq (h : W X n b ks Q l S) : V X n .nor (.seq b :: ks) Q l S := fun e he => h e he
theorem V_seq_x {i : Nat} (h : V X n (.exit i) ks Q l S) : V X n (.exit i) (.seq b :: ks) Q l S := fun e he => h e he
theorem V_ret {k : Kt} (h : V X n .ret ks Q l S) : V X n .ret (k :: ks) Q l S := by
  intro e he
  cases k with
  | seq b => exact h e he
  | block id => exact h e he
  | loop b => exact h e he
theorem V_block {id : Nat} (h : V X n .nor ks Q l S) : V X n .nor (.block id :: ks) Q l S := fun e he => h e he
theorem V_block_x {id i : Nat} (hi : Nat.beq i id = true) (h : V X n .nor ks Q l S) : V X n (.exit i) (.block id :: ks) Q l S := by
  intro e he
  show bif Nat.beq i id then QK X n ks Q .nor e S else QK X n ks Q (.exit i) e S
  rw [hi]; exact h e he
theorem V_block_y {id i : Nat} (hi : Nat.beq i id = false) (h : V X n (.exit i) ks Q l S) : V X n (.exit i) (.block id :: ks) Q l S := by
  intro e he
  show bif Nat.beq i id then QK X n ks Q .nor e S else QK X n ks Q (.exit i) e S
  rw [hi]; exact h e he
theorem V_loop (h : W X n (.loop b) ks Q l S) : V X n .nor (.loop b :: ks) Q l S := fun e he => h e he
theorem V_loop_x {i : Nat} (h : V X n (.exit i) ks Q l S) : V X n (.exit i) (.loop b :: ks) Q l S := fun e he => h e he
/-- what is known may be forgotten -/
def sub : L → L → Prop
  | [], _ => True
  | (t, v) :: l, l' => lk l' t = some v ∧ sub l l'
theorem sub_ok {l' : L} : ∀ {l : L} {e : Env}, sub l l' → Ag l' e → Ag l e
  | [], e, _, _ => fun t v h => by cases h
  | (t, v) :: l, e, h, he => by
    intro t' v' h'
    unfold lk at h'
    rw [nbeq, cond_dec] at h'
    by_cases ht : t = t'
    · subst ht; rw [if_pos rfl] at h'; cases h'; exact he t v h.1
    · rw [if_neg ht] at h'; exact sub_ok h.2 he t' v' h'
theorem W_weak {l' : L} (hs : sub l l') (h : W X n c ks Q l S) : W X n c ks Q l' S := fun e he => h e (sub_ok hs he)
theorem V_weak {x : Ex} {l' : L} (hs : sub l l') (h : V X n x ks Q l S) : V X n x ks Q l' S := fun e he => h e (sub_ok hs he)
/-- a loop, by what is kept -/
theorem W_inv {α : Type} (lf : α → L) (I : α → St → Prop) (m : α → Nat) (stp : ∀ a S, I a S → (∀ a' S' l', m a' < m a → I a' S' → sub (lf a') l' → V X n .nor (.loop b :: ks) Q l' S') → W X n b (.loop b :: ks) Q (lf a) S)
    (a0 : α) (h0 : I a0 S) (hs : sub (lf a0) l) : W X n (.loop b) ks Q l S := by
  have : ∀ k a S, m a = k → I a S → W X n (.loop b) ks Q (lf a) S := by
    intro k
    induction k using Nat.strongRecOn with
    | ind k ih =>
      intro a S hk hI
      apply W_loop
      apply stp a S hI
      intro a' S' l' hm hI' hs'
      exact V_loop (W_weak hs' (ih (m a') (by omega) a' S' rfl hI'))
  exact W_weak hs (this _ a0 S rfl h0)
/-! operations -/
/-- an operation yields -/
def Ev (X : _root_.GX.X) (l : L) (S : St) (op : Op) (R : AV → St → Prop) : Prop :=
  ∀ e, Ag l e → ∃ f v S', oper X (exec X f) e S op = some (v, S') ∧ rdv (cls X e op) v = true ∧ R v S'
theorem opersR_le {rec rec' : Rec} (hr : RecLe rec rec') {all : List Oper} : ∀ {os : List Oper} {e : Env} {S : St} {x e' S'}, opersR X rec n all os e S = .ok x e' S' → opersR X rec' n all os e S = .ok x e' S'
  | [], _, _, _, _, _, h => h
  | o :: os, e, S, x, e', S', h => by
    unfold opersR at h ⊢
    cases hw : wanted all e o with
    | true =>
      rw [hw] at h
      simp only [cond_true] at h ⊢
      split at h
      · cases h
      · rename_i v S1 ho
        rw [oper_le hr ho]
        dsimp only
        cases hb : rdv (cls X e o.op) v with
        | true =>
          rw [hb] at h
          simp only [cond_true] at h ⊢
          split at h
          · cases h
          · exact opersR_le hr h
        | false => rw [hb] at h; cases h
    | false =>
      rw [hw] at h
      simp only [cond_false] at h ⊢
      split at h
      · cases h
      · exact opersR_le hr h
variable {all os : List Oper} {o : Oper}
theorem WO_go {v : AV} {S' : St} {e e1 : Env} {f g : Nat} {x : Ex} {e' : Env} {S1 : St} (hw : wanted all e o = true) (h1 : oper X (exec X f) e S o.op = some (v, S')) (h2 : rdv (cls X e o.op) v = true) (h3 : setDst n e o.dst v = some e1)
    (h4 : opersR X (exec X g) n all os e1 S' = .ok x e' S1) : opersR X (exec X (max f g)) n all (o :: os) e S = .ok x e' S1 := by
  unfold opersR
  rw [hw]
  simp only [cond_true]
  rw [oper_le (exec_le (Nat.le_max_left f g)) h1]
  dsimp only
  rw [h2]
  simp only [cond_true]
  rw [h3]
  exact opersR_le (exec_le (Nat.le_max_right f g)) h4
theorem wanted_none {e : Env} (hg : o.guard = none) : wanted all e o = true := by unfold wanted; rw [hg]
/-- an operation that has a place for what it yields -/
theorem WO_dst {d : Nat} (hg : o.guard = none) (hd : o.dst = some d) (hn : Nat.blt d n = true) (hn' : Nat.blt n 1000001 = true) (h : Ev X l S o.op fun v S' => WO X n all os ks Q ((d, v) :: l) S') : WO X n all (o :: os) ks Q l S := by
  intro e he
  obtain ⟨f, v, S1, h1, h2, h3⟩ := h e he
  rw [nblt, decide_eq_true_eq] at hn hn'
  obtain ⟨g, e2, S2, h4, h5⟩ := h3 _ (he.put hn' hn)
  refine ⟨max f g, e2, S2, WO_go (wanted_none hg) h1 h2 ?_ h4, h5⟩
  rw [hd]; unfold setDst; dsimp only; rw [nblt, decide_eq_true hn]; rfl
theorem WO_no (hg : o.guard = none) (hd : o.dst = none) (h : Ev X l S o.op fun _ S' => WO X n all os ks Q l S') : WO X n all (o :: os) ks Q l S := by
  intro e he
  obtain ⟨f, v, S1, h1, h2, h3⟩ := h e he
  obtain ⟨g, e2, S2, h4, h5⟩ := h3 _ he
  refine ⟨max f g, e2, S2, WO_go (wanted_none hg) h1 h2 ?_ h4, h5⟩
  rw [hd]; rfl
/-- a guarded operation -/
theorem WO_guard {j d0 : Nat} {want : Bool} {p : Oper} {c : Bool} {d : Nat} (hg : o.guard = some (j, want)) (hp : all[j]? = some p) (hd0 : p.dst = some d0) (hl : lk l d0 = some (.bool c)) (hd : o.dst = some d) (hn : Nat.blt d n = true) (hn' : Nat.blt n 1000001 = true)
    (h1 : c = want → WO X n all ({ o with guard := none } :: os) ks Q ((d0, .bool want) :: l) S) (h2 : c = (!want) → WO X n all os ks Q ((d, .tup []) :: (d0, .bool (!want)) :: l) S) : WO X n all (o :: os) ks Q l S := by
  intro e he
  rw [nblt, decide_eq_true_eq] at hn hn'
  have hat : e.at d0 = .bool c := he d0 _ hl
  have hag : ∀ b, c = b → Ag ((d0, .bool b) :: l) e := by
    intro b hb t v ht
    unfold lk at ht
    rw [nbeq, cond_dec] at ht
    by_cases hh : d0 = t
    · subst hh; rw [if_pos rfl] at ht; cases ht; rw [hat, hb]
    · rw [if_neg hh] at ht; exact he t v ht
  have hw : wanted all e o = (c == want) := by unfold wanted; rw [hg]; dsimp only; rw [hp]; dsimp only; rw [hd0]; dsimp only; rw [hat]
  by_cases hc : c = want
  · obtain ⟨f, e2, S2, h3, h4⟩ := h1 hc e (hag want hc)
    refine ⟨f, e2, S2, ?_, h4⟩
    have hw' : wanted all e o = true := by rw [hw, hc]; cases want <;> rfl
    unfold opersR at h3 ⊢
    rw [wanted_none rfl] at h3
    rw [hw']
    exact h3
  · have hc' : c = (!want) := by cases c <;> cases want <;> simp_all
    obtain ⟨f, e2, S2, h3, h4⟩ := h2 hc' _ ((hag _ hc').put hn' hn)
    refine ⟨f, e2, S2, ?_, h4⟩
    have hw' : wanted all e o = false := by rw [hw, hc']; cases want <;> rfl
    unfold opersR
    rw [hw']
    simp only [cond_false]
    rw [hd]; unfold setDst; dsimp only; rw [nblt, decide_eq_true hn]
    exact h3
theorem WO_guard_t {j d0 : Nat} {want : Bool} {p : Oper} {d : Nat} (hg : o.guard = some (j, want)) (hp : all[j]? = some p) (hd0 : p.dst = some d0) (hl : lk l d0 = some (.bool want)) (hd : o.dst = some d) (hn : Nat.blt d n = true) (hn' : Nat.blt n 1000001 = true)
    (h1 : WO X n all ({ o with guard := none } :: os) ks Q l S) : WO X n all (o :: os) ks Q l S := by
  refine WO_guard hg hp hd0 hl hd hn hn' (fun _ => ?_) (fun h => ?_)
  · intro e he
    exact h1 e (fun t v ht => he t v (by
      unfold lk; rw [nbeq, cond_dec]
      by_cases hh : d0 = t
      · subst hh; rw [hl] at ht; cases ht; rw [if_pos rfl]
      · rw [if_neg hh]; exact ht))
  · cases want <;> cases h
theorem WO_guard_f {j d0 : Nat} {want c : Bool} {p : Oper} {d : Nat} (hg : o.guard = some (j, want)) (hp : all[j]? = some p) (hd0 : p.dst = some d0) (hl : lk l d0 = some (.bool c)) (hc : (c == want) = false) (hd : o.dst = some d) (hn : Nat.blt d n = true) (hn' : Nat.blt n 1000001 = true)
    (h2 : WO X n all os ks Q ((d, .tup []) :: l) S) : WO X n all (o :: os) ks Q l S := by
  intro e he
  rw [nblt, decide_eq_true_eq] at hn hn'
  have hat : e.at d0 = .bool c := he d0 _ hl
  have hw : wanted all e o = false := by unfold wanted; rw [hg]; dsimp only; rw [hp]; dsimp only; rw [hd0]; dsimp only; rw [hat]; exact hc
  obtain ⟨f, e2, S2, h3, h4⟩ := h2 _ (he.put hn' hn)
  refine ⟨f, e2, S2, ?_, h4⟩
  unfold opersR
  rw [hw]
  simp only [cond_false]
  rw [hd]; unfold setDst; dsimp only; rw [nblt, decide_eq_true hn]
  exact h3
theorem WO_guard_x {j d0 : Nat} {want : Bool} {p : Oper} {d : Nat} (hg : o.guard = some (j, want)) (hp : all[j]? = some p) (hd0 : p.dst = some d0) (hl : lk l d0 = some (.tup [])) (hd : o.dst = some d) (hn : Nat.blt d n = true) (hn' : Nat.blt n 1000001 = true)
    (h2 : WO X n all os ks Q ((d, .tup []) :: l) S) : WO X n all (o :: os) ks Q l S := by
  intro e he
  rw [nblt, decide_eq_true_eq] at hn hn'
  have hat : e.at d0 = .tup [] := he d0 _ hl
  have hw : wanted all e o = false := by unfold wanted; rw [hg]; dsimp only; rw [hp]; dsimp only; rw [hd0]; dsimp only; rw [hat]
  obtain ⟨f, e2, S2, h3, h4⟩ := h2 _ (he.put hn' hn)
  refine ⟨f, e2, S2, ?_, h4⟩
  unfold opersR
  rw [hw]
  simp only [cond_false]
  rw [hd]; unfold setDst; dsimp only; rw [nblt, decide_eq_true hn]
  exact h3
/-- a call's run -/
def Runs (X : _root_.GX.X) (f : Nat) (args : List AV) (S : St) (R : AV → St → Prop) : Prop := ∃ fuel v S', call X fuel f args S = some (v, S') ∧ S.n ≤ S'.n ∧ R v S'
theorem Runs.mono {f : Nat} {args : List AV} {R R' : AV → St → Prop} (h : Runs X f args S R) (hR : ∀ v S', S.n ≤ S'.n → R v S' → R' v S') : Runs X f args S R' := by
  obtain ⟨fuel, v, S', h1, h2, h3⟩ := h
  exact ⟨fuel, v, S', h1, h2, hR v S' h2 h3⟩
theorem Runs_ext {f : Nat} {args : List AV} {g} {v : AV} {S' : St} {R : AV → St → Prop} (hg : X.ext f = some g) (h : g args S = some (v, S')) (hn : S.n ≤ S'.n) (hR : R v S') : Runs X f args S R :=
  ⟨0, v, S', by unfold call enter; rw [hg]; exact h, hn, hR⟩
theorem Runs.elim {f : Nat} {args : List AV} {R : AV → St → Prop} (h : Runs X f args S R) : ∃ fuel v S', call X fuel f args S = some (v, S') ∧ S.n ≤ S'.n ∧ R v S' := h
def QF (X : _root_.GX.X) (rs : List ResultVar) (R : AV → St → Prop) (x : Ex) (e : Env) (S : St) : Prop :=
  (∀ i, x ≠ .exit i) ∧ ∃ vs, rets X e S.h rs = some vs ∧ R (tupled vs) S
def argL : List AV → Nat → L
  | [], _ => []
  | a :: asx, i => (i, a) :: argL asx (i + 1)
theorem lk_argL : ∀ {asx : List AV} {i t : Nat} {v : AV}, lk (argL asx i) t = some v → i ≤ t ∧ asx[t - i]? = some v
  | [], _, _, _, h => by cases h
  | a :: asx, i, t, v, h => by
    unfold argL lk at h
    rw [nbeq, cond_dec] at h
    by_cases ht : i = t
    · subst ht; rw [if_pos rfl] at h; cases h; simp
    · rw [if_neg ht] at h
      obtain ⟨h1, h2⟩ := lk_argL h
      refine ⟨by omega, ?_⟩
      rw [show t - i = (t - (i + 1)) + 1 by omega]; simpa using h2
theorem Runs_fn {f : Nat} {args : List AV} {F : Func} {c : Code} {m : Nat} {R : AV → St → Prop} (hx : X.ext f = none) (hf : X.fn f = some F) (hb : F.body = some c) (hm : args.length + (F.ntmps - args.length) = m) (hm' : Nat.blt m 1000000 = true)
    (h : W X m c [] (QF X F.results.toList R) (argL args 0) S) : Runs X f args S R := by
  have hm2 : m < 1000000 := by rw [nblt, decide_eq_true_eq] at hm'; exact hm'
  obtain ⟨fuel, x, e', S', h1, h2, vs, h3, h4⟩ := h (argEnv args 0 .leaf) (by
    intro t v ht
    obtain ⟨_, k2⟩ := lk_argL ht
    have hlt := (List.getElem?_eq_some_iff.1 k2).1
    rw [argEnv_at args 0 .leaf t (by omega), dif_pos ⟨by omega, hlt⟩]
    exact (List.getElem?_eq_some_iff.1 k2).2)
  refine ⟨fuel, tupled vs, S', ?_, exec_mono fuel _ _ _ _ _ _ _ h1, h4⟩
  unfold call enter
  rw [hx]; dsimp only; rw [hf]; dsimp only; rw [hb]; dsimp only
  rw [hm, hm']
  simp only [cond_true]
  rw [h1]
  cases x with
  | exit i => exact absurd rfl (h2 i)
  | nor => dsimp only; rw [h3]
  | ret => dsimp only; rw [h3]
def retL (l : L) : List ResultVar → Option (List AV)
  | [] => some []
  | .tmp t :: rs => match lk l t with
    | none => none
    | some v => match retL l rs with | none => none | some vs => some (v :: vs)
  | _ => none
theorem retL_ok {e : Env} (he : Ag l e) {H : Tr AB} : ∀ {rs : List ResultVar} {vs : List AV}, retL l rs = some vs → rets X e H rs = some vs
  | [], _, h => h
  | .tmp t :: rs, vs, h => by
    unfold retL at h
    split at h
    · cases h
    · rename_i v hv
      split at h
      · cases h
      · rename_i us hu
        unfold rets
        rw [retL_ok he hu]; dsimp only; rw [he t v hv]; exact h
  | .cell _ _ :: _, _, h => by cases h
theorem V_done {x : Ex} {rs : List ResultVar} {vs : List AV} {R : AV → St → Prop} (hx : (match x with | .exit _ => false | _ => true) = true) (hr : retL l rs = some vs) (h : R (tupled vs) S) : V X n x [] (QF X rs R) l S := by
  intro e he
  refine ⟨fun i hi => ?_, vs, retL_ok he hr, h⟩
  subst hi; cases hx
/-! each operation -/
variable {R : AV → St → Prop}
theorem Ev_pure {op : Op} {v : AV} (h : ∀ e, Ag l e → cls X e op = .pure ∧ pureOp X e op = some v) (hR : R v S) : Ev X l S op R := by
  intro e he
  obtain ⟨h1, h2⟩ := h e he
  exact ⟨0, v, S, by unfold oper; rw [h1]; dsimp only; rw [h2], by rw [h1]; rfl, hR⟩
theorem Ev_read {op : Op} {v : AV} (h : ∀ e, Ag l e → cls X e op = .read ∧ readOp X e S.h op = some v) (hv : veq v v = true) (hR : R v S) : Ev X l S op R := by
  intro e he
  obtain ⟨h1, h2⟩ := h e he
  exact ⟨0, v, S, by unfold oper; rw [h1]; dsimp only; rw [h2], by rw [h1]; exact hv, hR⟩
theorem Ev_alloc {op : Op} {b : AB} {v : AV} (h : ∀ e, Ag l e → cls X e op = .alloc ∧ allocOp X e S.n op = some (b, v)) (hn : S.n < 1000000000) (hR : R v (S.new b)) : Ev X l S op R := by
  intro e he
  obtain ⟨h1, h2⟩ := h e he
  exact ⟨0, v, S.new b, by unfold oper; rw [h1]; dsimp only; rw [nblt, decide_eq_true hn]; simp only [cond_true]; rw [h2], by rw [h1]; rfl, hR⟩
theorem Ev_loud {op : Op} {v : AV} {S' : St} (h : ∀ e, Ag l e → cls X e op = .loud ∧ loudOp X e S op = some (v, S')) (hn : S.n ≤ S'.n) (hR : R v S') : Ev X l S op R := by
  intro e he
  obtain ⟨h1, h2⟩ := h e he
  exact ⟨0, v, S', by unfold oper; rw [h1]; dsimp only; rw [h2]; dsimp only; rw [nble, decide_eq_true hn]; rfl, by rw [h1]; rfl, hR⟩
theorem Ev_call {fo : Operand} {args : Array Operand} {ts : Array TypeId} {g : Nat} {first captured asx : List AV} (hf : od l fo = some (.func (.func g) first captured)) (ha : ods l args.toList = some asx) (hR : Runs X g (first ++ asx ++ captured) S R) :
    Ev X l S (.call { callee := .value fo, args := args, argTypes := ts }) R := by
  intro e he
  obtain ⟨f, v, S', h1, h2, h3⟩ := hR
  refine ⟨f, v, S', ?_, rfl, h3⟩
  have hc : callee e (.call { callee := .value fo, args := args, argTypes := ts }) = some (g, first ++ asx ++ captured) := by
    unfold callee; dsimp only; rw [od_ok he hf]; dsimp only; rw [ods_ok he ha]
  unfold oper
  have hcl : cls X e (.call { callee := .value fo, args := args, argTypes := ts }) = .call := rfl
  rw [hcl]; dsimp only; rw [hc]; dsimp only
  have h1' : enter X (exec X f) g (first ++ asx ++ captured) S = some (v, S') := h1
  rw [h1']; dsimp only; rw [nble, decide_eq_true h2]; rfl
theorem Ev_move {x : Operand} {v : AV} (hx : od l x = some v) (hR : R v S) : Ev X l S (.move x) R := Ev_pure (fun _ he => ⟨rfl, od_ok he hx⟩) hR
theorem Ev_assign {x : Operand} {v : AV} (hx : od l x = some v) (hR : R v S) : Ev X l S (.assign x) R := Ev_pure (fun _ he => ⟨rfl, od_ok he hx⟩) hR
theorem Ev_pick_t {c x y : Operand} {v u : AV} (hc : od l c = some (.bool true)) (hx : od l x = some v) (hy : od l y = some u) (hR : R v S) : Ev X l S (.pick c x y) R :=
  Ev_pure (fun _ he => ⟨rfl, by unfold pureOp; dsimp only; rw [od_ok he hc, od_ok he hy]; exact od_ok he hx⟩) hR
theorem Ev_pick_f {c x y : Operand} {v u : AV} (hc : od l c = some (.bool false)) (hx : od l x = some u) (hy : od l y = some v) (hR : R v S) : Ev X l S (.pick c x y) R :=
  Ev_pure (fun _ he => ⟨rfl, by unfold pureOp; dsimp only; rw [od_ok he hc, od_ok he hx]; exact od_ok he hy⟩) hR
theorem Ev_nilCheck {x : Operand} {b o : Nat} (hx : od l x = some (.ptr b o)) (hR : R (.ptr b o) S) : Ev X l S (.nilCheck x) R :=
  Ev_pure (fun _ he => ⟨rfl, by unfold pureOp; dsimp only; rw [od_ok he hx]⟩) hR
def notPtr : AV → Bool | .ptr _ _ => false | _ => true
theorem Ev_bin {op : BinOp} {t u : Nat} {x y : Operand} {a b v : AV} (hx : od l x = some a) (hy : od l y = some b) (hp : notPtr a = true) (hv : abin X op t a b = some v) (hR : R v S) : Ev X l S (.binOp op t x y u) R := by
  refine Ev_pure (fun _ he => ⟨?_, ?_⟩) hR
  · unfold cls; dsimp only; rw [od_ok he hx]; cases a <;> first | rfl | cases hp
  · unfold pureOp; dsimp only; rw [od_ok he hx]; dsimp only; rw [od_ok he hy]; exact hv
theorem Ev_un {op : UnOp} {t : Nat} {x : Operand} {a v : AV} (hx : od l x = some a) (hv : aun op a = some v) (hR : R v S) : Ev X l S (.unOp op t x) R :=
  Ev_pure (fun _ he => ⟨rfl, by unfold pureOp; dsimp only; rw [od_ok he hx]; exact hv⟩) hR
end
end
attribute [irreducible] W V WO Ev Runs
end GX
/- GX: reasoning about runs: numbers, texts, memory. -/


namespace GX
noncomputable section
open Go
def inR : IntKind → Int → Prop
  | .i8, z => -128 ≤ z ∧ z < 128
  | .i16, z => -32768 ≤ z ∧ z < 32768
  | .i32, z => -2147483648 ≤ z ∧ z < 2147483648
  | .i64, z => -9223372036854775808 ≤ z ∧ z < 9223372036854775808
  | .u8, z => 0 ≤ z ∧ z < 256
  | .u16, z => 0 ≤ z ∧ z < 65536
  | .u32, z => 0 ≤ z ∧ z < 4294967296
  | .u64, z => 0 ≤ z ∧ z < 18446744073709551616
theorem wrp_in {k : IntKind} {z : Int} (h : inR k z) : wrp k z = z := by
  rw [wrp_eq]
  cases k <;> simp only [inR] at h <;> apply wrap_in <;> simp [lim, IntKind.signed] <;> omega
theorem wrp_u8 (z : Int) : wrp .u8 z = z % 256 := by rw [wrp_eq]; rfl
theorem wrp_u64 (z : Int) : wrp .u64 z = z % 18446744073709551616 := by rw [wrp_eq]; rfl
theorem seq_eq (a b : List Nat) : seq a b = decide (a = b) := by
  induction a generalizing b with
  | nil => cases b <;> simp [seq]
  | cons x a ih =>
    cases b with
    | nil => simp [seq]
    | cons y b =>
      unfold seq
      rw [nbeq, ih]
      by_cases h : x = y <;> simp [h]
section
variable {X : X} {l : L} {S : St} {R : AV → St → Prop}
section
variable {t u : Nat} {x y : Operand} {k : IntKind} {a b : Int}
theorem Ev_ibin {op : BinOp} {v : AV} (hx : od l x = some (.int k a)) (hy : od l y = some (.int k b)) (hop : op ≠ .shl ∧ op ≠ .shr) (hv : ibin op k a b = some v) (hR : R v S) : Ev X l S (.binOp op t x y u) R := by
  refine Ev_bin hx hy rfl ?_ hR
  unfold abin
  cases op <;> first | exact absurd rfl hop.1 | exact absurd rfl hop.2 | (dsimp only; rw [decide_eq_true rfl]; exact hv)
theorem Ev_add (hx : od l x = some (.int k a)) (hy : od l y = some (.int k b)) (h : inR k (a + b)) (hR : R (.int k (a + b)) S) : Ev X l S (.binOp .add t x y u) R :=
  Ev_ibin hx hy ⟨by simp, by simp⟩ (by unfold ibin; dsimp only; rw [wrp_in h]) hR
theorem Ev_sub (hx : od l x = some (.int k a)) (hy : od l y = some (.int k b)) (h : inR k (a - b)) (hR : R (.int k (a - b)) S) : Ev X l S (.binOp .sub t x y u) R :=
  Ev_ibin hx hy ⟨by simp, by simp⟩ (by unfold ibin; dsimp only; rw [wrp_in h]) hR
theorem Ev_mul (hx : od l x = some (.int k a)) (hy : od l y = some (.int k b)) (h : inR k (a * b)) (hR : R (.int k (a * b)) S) : Ev X l S (.binOp .mul t x y u) R :=
  Ev_ibin hx hy ⟨by simp, by simp⟩ (by unfold ibin; dsimp only; rw [wrp_in h]) hR
theorem Ev_lss (hx : od l x = some (.int k a)) (hy : od l y = some (.int k b)) (hR : R (.bool (decide (a < b))) S) : Ev X l S (.binOp .lss t x y u) R :=
  Ev_ibin hx hy ⟨by simp, by simp⟩ (by unfold ibin; dsimp only; rw [ilt_eq]) hR
theorem Ev_leq (hx : od l x = some (.int k a)) (hy : od l y = some (.int k b)) (hR : R (.bool (decide (a ≤ b))) S) : Ev X l S (.binOp .leq t x y u) R :=
  Ev_ibin hx hy ⟨by simp, by simp⟩ (by unfold ibin; dsimp only; rw [ilt_eq]; congr 2; by_cases h : b < a <;> simp [h] <;> omega) hR
theorem Ev_gtr (hx : od l x = some (.int k a)) (hy : od l y = some (.int k b)) (hR : R (.bool (decide (b < a))) S) : Ev X l S (.binOp .gtr t x y u) R :=
  Ev_ibin hx hy ⟨by simp, by simp⟩ (by unfold ibin; dsimp only; rw [ilt_eq]) hR
theorem Ev_geq (hx : od l x = some (.int k a)) (hy : od l y = some (.int k b)) (hR : R (.bool (decide (b ≤ a))) S) : Ev X l S (.binOp .geq t x y u) R :=
  Ev_ibin hx hy ⟨by simp, by simp⟩ (by unfold ibin; dsimp only; rw [ilt_eq]; congr 2; by_cases h : a < b <;> simp [h] <;> omega) hR
theorem Ev_eql (hx : od l x = some (.int k a)) (hy : od l y = some (.int k b)) (hR : R (.bool (decide (a = b))) S) : Ev X l S (.binOp .eql t x y u) R :=
  Ev_ibin hx hy ⟨by simp, by simp⟩ (by unfold ibin; dsimp only; rw [ieq_eq]; congr 2) hR
theorem Ev_neq (hx : od l x = some (.int k a)) (hy : od l y = some (.int k b)) (hR : R (.bool (decide (a ≠ b))) S) : Ev X l S (.binOp .neq t x y u) R :=
  Ev_ibin hx hy ⟨by simp, by simp⟩ (by unfold ibin; dsimp only; rw [ieq_eq]; congr 2; by_cases h : a = b <;> simp [h]) hR
theorem Ev_seql {a b : List Nat} (hx : od l x = some (.str a)) (hy : od l y = some (.str b)) (hR : R (.bool (decide (a = b))) S) : Ev X l S (.binOp .eql t x y u) R :=
  Ev_bin hx hy rfl (by unfold abin sbin; dsimp only; rw [seq_eq]) hR
theorem Ev_sneq {a b : List Nat} (hx : od l x = some (.str a)) (hy : od l y = some (.str b)) (hR : R (.bool (decide (a ≠ b))) S) : Ev X l S (.binOp .neq t x y u) R :=
  Ev_bin hx hy rfl (by unfold abin sbin; dsimp only; rw [seq_eq]; congr 2; by_cases h : a = b <;> simp [h]) hR
theorem Ev_sadd {a b : List Nat} (hx : od l x = some (.str a)) (hy : od l y = some (.str b)) (hl : a.length + b.length < 9223372036854775808) (hR : R (.str (a ++ b)) S) : Ev X l S (.binOp .add t x y u) R :=
  Ev_bin hx hy rfl (by unfold abin sbin; dsimp only; rw [nblt, decide_eq_true hl]; rfl) hR
/-- a shift to the right by a constant: 'q' is the power of two -/
theorem Ev_shr {k' : IntKind} {m q : Nat} (hx : od l x = some (.int k a)) (hy : od l y = some (.int k' ((m : Nat) : Int))) (hm : Nat.ble m k.bits = true) (hq : 2 ^ m = q) (hR : R (.int k (a / (q : Int))) S) : Ev X l S (.binOp .shr t x y u) R := by
  refine Ev_bin hx hy rfl ?_ hR
  unfold abin ishift
  dsimp only
  rw [hm]
  simp only [cond_true]
  rw [hq]
  show some (AV.int k (a.fdiv ((q : Nat) : Int))) = _
  rw [Int.fdiv_eq_ediv_of_nonneg _ (by omega)]
theorem Ev_shl {k' : IntKind} {m q : Nat} (hx : od l x = some (.int k a)) (hy : od l y = some (.int k' ((m : Nat) : Int))) (hm : Nat.ble m k.bits = true) (hq : 2 ^ m = q) (h : inR k (a * (q : Int))) (hR : R (.int k (a * (q : Int))) S) : Ev X l S (.binOp .shl t x y u) R := by
  refine Ev_bin hx hy rfl ?_ hR
  unfold abin ishift
  dsimp only
  rw [hm]
  simp only [cond_true]
  rw [hq]
  show some (AV.int k (wrp k (a * ((q : Nat) : Int)))) = _
  rw [wrp_in h]
theorem Ev_conv {s d : Nat} {k' : IntKind} {di si : TI} (hx : od l x = some (.int k a)) (hs : X.ti s = some si) (hd : X.ti d = some di) (hsd : si.desc = .int k) (hdd : di.desc = .int k') (h : inR k' a) (hR : R (.int k' a) S) : Ev X l S (.convert s d x) R := by
  refine Ev_pure (fun e he => ⟨?_, ?_⟩) hR
  · unfold cls; dsimp only; rw [hs]; dsimp only; rw [hsd]
  · unfold pureOp; dsimp only; rw [od_ok he hx, hd, hs]; dsimp only; rw [hdd]; dsimp only; rw [wrp_in h]
theorem Ev_convw {s d : Nat} {k' : IntKind} {di si : TI} (hx : od l x = some (.int k a)) (hs : X.ti s = some si) (hd : X.ti d = some di) (hsd : si.desc = .int k) (hdd : di.desc = .int k') (hR : R (.int k' (wrp k' a)) S) : Ev X l S (.convert s d x) R := by
  refine Ev_pure (fun e he => ⟨?_, ?_⟩) hR
  · unfold cls; dsimp only; rw [hs]; dsimp only; rw [hsd]
  · unfold pureOp; dsimp only; rw [od_ok he hx, hd, hs]; dsimp only; rw [hdd]
/-- a rune as a text -/
theorem Ev_conv_rune {s d : Nat} {di si : TI} (hx : od l x = some (.int k a)) (hs : X.ti s = some si) (hd : X.ti d = some di) (hsd : si.desc = .int k) (hdd : di.desc = .string) (hR : R (.str (encodeR a)) S) : Ev X l S (.convert s d x) R := by
  refine Ev_pure (fun e he => ⟨?_, ?_⟩) hR
  · unfold cls; dsimp only; rw [hs]; dsimp only; rw [hsd]
  · unfold pureOp; dsimp only; rw [od_ok he hx, hd, hs]; dsimp only; rw [hdd]
theorem Ev_conv_str {s d : Nat} {di si : TI} {z : List Nat} (hx : od l x = some (.str z)) (hs : X.ti s = some si) (hd : X.ti d = some di) (hsd : si.desc = .string) (hdd : di.desc = .string) (hR : R (.str z) S) : Ev X l S (.convert s d x) R := by
  refine Ev_pure (fun e he => ⟨?_, ?_⟩) hR
  · unfold cls; dsimp only; rw [hs]; dsimp only; rw [hsd]; dsimp only; rw [hd]; dsimp only; rw [hdd]
  · unfold pureOp; dsimp only; rw [od_ok he hx, hd, hs]; dsimp only; rw [hdd]
theorem Ev_not {p : Prop} [Decidable p] (hx : od l x = some (.bool (decide p))) (hR : R (.bool (decide (¬ p))) S) : Ev X l S (.unOp .not t x) R :=
  Ev_un hx (by unfold aun; dsimp only; simp) hR
theorem Ev_notb {b : Bool} (hx : od l x = some (.bool b)) (hR : R (.bool (!b)) S) : Ev X l S (.unOp .not t x) R :=
  Ev_un hx (by unfold aun; dsimp only) hR
end
section
variable {t u : Nat} {x y : Operand}
theorem Ev_extract {i : Nat} {vs : List AV} {v : AV} (hx : od l x = some (.tup vs)) (hv : vs[i]? = some v) (hR : R v S) : Ev X l S (.extract x i) R :=
  Ev_pure (fun e he => ⟨rfl, by unfold pureOp; dsimp only; rw [od_ok he hx]; exact hv⟩) hR
theorem Ev_makeFunc {fn : Fn} {p q : Array Operand} {vs us : List AV} (hp : ods l p.toList = some vs) (hq : ods l q.toList = some us) (hR : R (.func fn vs us) S) : Ev X l S (.makeFunc fn p q) R :=
  Ev_pure (fun e he => ⟨rfl, by unfold pureOp; dsimp only; rw [ods_ok he hp, ods_ok he hq]⟩) hR
theorem Ev_build {ps : Array (Nat × Operand)} {vs : List (Nat × AV)} {v : AV} (hp : odparts l ps.toList = some vs) (hv : abuild X t vs = some v) (hR : R v S) : Ev X l S (.build t ps) R :=
  Ev_pure (fun e he => ⟨rfl, by unfold pureOp; dsimp only; rw [odparts_ok he hp]; exact hv⟩) hR
theorem Ev_field {f : Nat} {cs : List AV} {i : TI} {fs : Array Field} {fd : Field} {v : AV} (hx : od l x = some (.agg cs)) (hi : X.ti t = some i) (hd : i.desc = .struct fs) (hf : fs.toList[f]? = some fd) (hv : getPart X fd.type cs fd.offset = some v) (hR : R v S) : Ev X l S (.field t x f) R :=
  Ev_pure (fun e he => ⟨rfl, by unfold pureOp; dsimp only; rw [od_ok he hx]; dsimp only; rw [hi]; dsimp only; rw [hd]; dsimp only; rw [hf]; exact hv⟩) hR
theorem Ev_fieldAddr {f b o : Nat} {i fi : TI} {fs : Array Field} {fd : Field} (hx : od l x = some (.ptr b o)) (hi : X.ti t = some i) (hd : i.desc = .struct fs) (hf : fs.toList[f]? = some fd) (hfi : X.ti fd.type = some fi) (hz : Nat.beq fi.size 0 = false) (hR : R (.ptr b (o + fd.offset)) S) : Ev X l S (.fieldAddr t x f) R :=
  Ev_pure (fun e he => ⟨rfl, by unfold pureOp; dsimp only; rw [od_ok he hx]; dsimp only; rw [hi]; dsimp only; rw [hd]; dsimp only; rw [hf]; dsimp only; rw [hfi]; dsimp only; rw [hz]; rfl⟩) hR
theorem Ev_indexAddr {k : IntKind} {i b o len : Nat} {cap : Cap} {ti ei : TI} {el : Nat} (hy : od l y = some (.int k ((i : Nat) : Int))) (hx : od l x = some (.slice b o len cap)) (hi : X.ti t = some ti) (hd : ti.desc = .slice el) (he' : X.ti el = some ei) (hlt : i < len) (hR : R (.ptr b (o + i * ei.size)) S) : Ev X l S (.indexAddr t x y) R :=
  Ev_pure (fun e he => ⟨rfl, by unfold pureOp; dsimp only; rw [od_ok he hy]; dsimp only; rw [od_ok he hx]; dsimp only; rw [hi]; dsimp only; rw [hd]; dsimp only; rw [he']; dsimp only; rw [nblt, decide_eq_true hlt]; rfl⟩) hR
theorem Ev_index {k : IntKind} {i c : Nat} {s : List Nat} {ti : TI} (hy : od l y = some (.int k ((i : Nat) : Int))) (hx : od l x = some (.str s)) (hi : X.ti t = some ti) (hd : ti.desc = .string) (hc : s[i]? = some c) (hR : R (.int .u8 ((c : Nat) : Int)) S) : Ev X l S (.index t x y) R :=
  Ev_pure (fun e he => ⟨rfl, by unfold pureOp; dsimp only; rw [od_ok he hy]; dsimp only; rw [od_ok he hx]; dsimp only; rw [hi]; dsimp only; rw [hd]; dsimp only; rw [hc]; rfl⟩) hR
theorem Ev_len_str {s : List Nat} {ti : TI} {ts : Array TypeId} {xs : Array Operand} {tr : List TypeId} (hxs : xs.toList = [x]) (hts : ts.toList = t :: tr) (hx : od l x = some (.str s)) (hi : X.ti t = some ti) (hd : ti.desc = .string) (hR : R (.int .i64 ((s.length : Nat) : Int)) S) : Ev X l S (.call { callee := .builtin .len, args := xs, argTypes := ts }) R := by
  refine Ev_pure (fun e he => ⟨?_, ?_⟩) hR
  · unfold cls; dsimp only; rw [hxs]; dsimp only; rw [od_ok he hx]
  · unfold pureOp; dsimp only; rw [hxs]; dsimp only; rw [hts]; dsimp only; rw [hi]; dsimp only; rw [hd, od_ok he hx]; rfl
def slen : AV → Option Nat
  | .slice _ _ n _ => some n
  | .rsl _ n _ => some n
  | .nils => some 0
  | .emp => some 0
  | _ => none
theorem Ev_len {v : AV} {m : Nat} {ti : TI} {ts : Array TypeId} {xs : Array Operand} {tr : List TypeId} {el : Nat} (hxs : xs.toList = [x]) (hts : ts.toList = t :: tr) (hx : od l x = some v) (hi : X.ti t = some ti) (hd : ti.desc = .slice el) (hm : slen v = some m) (hR : R (.int .i64 ((m : Nat) : Int)) S) : Ev X l S (.call { callee := .builtin .len, args := xs, argTypes := ts }) R := by
  refine Ev_pure (fun e he => ⟨?_, ?_⟩) hR
  · unfold cls; dsimp only; rw [hxs]; dsimp only; rw [od_ok he hx]; cases v <;> first | rfl | cases hm
  · unfold pureOp; dsimp only; rw [hxs]; dsimp only; rw [hts]; dsimp only; rw [hi]; dsimp only; rw [hd, od_ok he hx]; cases v <;> cases hm <;> rfl
theorem Ev_min {k : IntKind} {a b : Int} {ts : Array TypeId} {xs : Array Operand} (hxs : xs.toList = [x, y]) (hx : od l x = some (.int k a)) (hy : od l y = some (.int k b)) (hR : R (.int k (min a b)) S) : Ev X l S (.call { callee := .builtin .min, args := xs, argTypes := ts }) R := by
  refine Ev_pure (fun e he => ⟨rfl, ?_⟩) hR
  unfold pureOp; dsimp only; rw [hxs]; dsimp only; rw [od_ok he hx, od_ok he hy]; dsimp only; rw [ilt_eq, cond_dec]; congr 2; split <;> omega
theorem Ev_max {k : IntKind} {a b : Int} {ts : Array TypeId} {xs : Array Operand} (hxs : xs.toList = [x, y]) (hx : od l x = some (.int k a)) (hy : od l y = some (.int k b)) (hR : R (.int k (max a b)) S) : Ev X l S (.call { callee := .builtin .max, args := xs, argTypes := ts }) R := by
  refine Ev_pure (fun e he => ⟨rfl, ?_⟩) hR
  unfold pureOp; dsimp only; rw [hxs]; dsimp only; rw [od_ok he hx, od_ok he hy]; dsimp only; rw [ilt_eq, cond_dec]; congr 2; split <;> omega
/-- a slicing -/
theorem Ev_slice {el : Nat} {v r : AV} {lo hi mx : Option Operand} {lo' hi' mx' : Option AV} {ti ei : TI} (hx : od l x = some v) (hlo : odopt l lo = some lo') (hhi : odopt l hi = some hi') (hmx : odopt l mx = some mx') (hti : X.ti t = some ti) (hd : ti.desc = .slice el) (he' : X.ti el = some ei)
    (hns : (match v with | .str _ => false | _ => true) = true) (hr : aslice X t v lo' hi' mx' = some r) (hR : R r S) : Ev X l S (.slice t x lo hi mx) R := by
  refine Ev_pure (fun e he => ⟨rfl, ?_⟩) hR
  unfold pureOp; dsimp only; rw [od_ok he hx]; dsimp only; rw [odopt_ok he hlo]; dsimp only; rw [odopt_ok he hhi]; dsimp only; rw [odopt_ok he hmx]; dsimp only; rw [hti]; dsimp only; rw [hd]; dsimp only; rw [he']; dsimp only
  cases v <;> first | exact hr | cases hns
theorem Ev_slice_str {s : List Nat} {r : AV} {lo hi mx : Option Operand} {lo' hi' mx' : Option AV} {ti : TI} (hx : od l x = some (.str s)) (hlo : odopt l lo = some lo') (hhi : odopt l hi = some hi') (hmx : odopt l mx = some mx') (hti : X.ti t = some ti) (hd : ti.desc = .string)
    (hr : aslice X t (.str s) lo' hi' mx' = some r) (hR : R r S) : Ev X l S (.slice t x lo hi mx) R := by
  refine Ev_pure (fun e he => ⟨rfl, ?_⟩) hR
  unfold pureOp; dsimp only; rw [od_ok he hx]; dsimp only; rw [odopt_ok he hlo]; dsimp only; rw [odopt_ok he hhi]; dsimp only; rw [odopt_ok he hmx]; dsimp only; rw [hti]; dsimp only; rw [hd]; exact hr
/-! memory -/
/-- every block is below the next number -/
def Sok (S : St) : Prop := ∀ c x, S.h.get c = some x → c < S.n
theorem get_new (hn : S.n < 1000000000) (b : AB) (c : Nat) : (S.new b).h.get c = if c = S.n then some b else S.h.get c := by
  unfold St.new; dsimp only; rw [Tr.get_set 40 _ _ _ _ (by omega)]
theorem get_put {id : Nat} (hn : id < 1000000000) (b : AB) (c : Nat) : (S.put id b).h.get c = if c = id then some b else S.h.get c := by
  unfold St.put; dsimp only; rw [Tr.get_set 40 _ _ _ _ (by omega)]
theorem Ev_load {b o : Nat} {i : TI} {ty : Nat} {cs : List AV} {sp : Bool} {v : AV} (hx : od l x = some (.ptr b o)) (hi : X.ti t = some i) (hag : aggD i.desc = false) (hb : S.h.get b = some (.cells ty cs sp)) (hv : cs[o]? = some v) (hvv : veq v v = true) (hR : R v S) : Ev X l S (.load t x) R := by
  refine Ev_read (fun e he => ⟨rfl, ?_⟩) hvv hR
  unfold readOp; dsimp only; rw [od_ok he hx]; dsimp only; unfold loadAt; rw [hi]; dsimp only
  split
  · rename_i h; rw [h] at hag; cases hag
  · rename_i h; rw [h] at hag; cases hag
  · rw [hb]; exact hv
theorem Ev_load_agg {b o : Nat} {i : TI} {ty : Nat} {cs ds : List AV} {sp : Bool} (hx : od l x = some (.ptr b o)) (hi : X.ti t = some i) (hag : aggD i.desc = true) (hb : S.h.get b = some (.cells ty cs sp)) (hle : o + i.size ≤ cs.length) (hv : (cs.drop o).take i.size = ds) (hvv : veqs ds ds = true) (hR : R (.agg ds) S) : Ev X l S (.load t x) R := by
  refine Ev_read (fun e he => ⟨rfl, ?_⟩) (by unfold veq; exact hvv) hR
  have hrow : row S.h b o i.size = some ds := by unfold row; rw [hb]; dsimp only; rw [nble, decide_eq_true hle]; simp only [cond_true]; rw [hv]
  unfold readOp; dsimp only; rw [od_ok he hx]; dsimp only; unfold loadAt; rw [hi]; dsimp only
  split
  · rw [hrow]
  · rw [hrow]
  · rename_i h1 h2
    cases hd : i.desc with
    | struct f => exact absurd hd (h1 f)
    | array a b => exact absurd hd (h2 a b)
    | _ => rw [hd] at hag; cases hag
theorem Ev_store {b o : Nat} {i : TI} {ty : Nat} {cs : List AV} {sp : Bool} {v : AV} (hx : od l x = some (.ptr b o)) (hy : od l y = some v) (hi : X.ti t = some i) (hz : Nat.beq v.cells.length i.size = true) (hone : v.cells.all AV.one = true) (hb : S.h.get b = some (.cells ty cs sp)) (hle : o + v.cells.length ≤ cs.length) (hn : b < 1000000000)
    (hR : ∀ S', S'.n = S.n → S'.h.get b = some (.cells ty (lput cs o v.cells) sp) → (∀ c, c ≠ b → S'.h.get c = S.h.get c) → R (.tup []) S') : Ev X l S (.store t x y) R := by
  have hst : storeAt S b o v.cells = some (S.put b (.cells ty (lput cs o v.cells) sp)) := by
    unfold storeAt; rw [hb]; dsimp only; rw [nble, decide_eq_true hle, hone]; rfl
  refine Ev_loud (S' := S.put b (.cells ty (lput cs o v.cells) sp)) (v := .tup []) (fun e he => ⟨rfl, ?_⟩) (Nat.le_refl _) (hR _ rfl ?_ ?_)
  · unfold loudOp; dsimp only; rw [od_ok he hx]; dsimp only; rw [od_ok he hy]; dsimp only; rw [hi]; dsimp only; rw [hz]; simp only [cond_true]; rw [hst]
  · rw [get_put hn, if_pos rfl]
  · intro c hc; rw [get_put hn, if_neg hc]
/-- a new block -/
theorem Ev_mk {op : Op} {b : AB} {v : AV} (h : ∀ e, Ag l e → cls X e op = .alloc ∧ allocOp X e S.n op = some (b, v)) (hok : Sok S) (hn : S.n < 1000000000)
    (hR : ∀ S', S'.n = S.n + 1 → Sok S' → S'.h.get S.n = some b → (∀ c, c < S.n → S'.h.get c = S.h.get c) → R v S') : Ev X l S op R := by
  refine Ev_alloc h hn (hR _ rfl ?_ ?_ ?_)
  · intro c x hc
    rw [get_new hn] at hc
    by_cases h : c = S.n
    · rw [h]; exact Nat.lt_succ_self _
    · rw [if_neg h] at hc; exact Nat.lt_succ_of_lt (hok c x hc)
  · rw [get_new hn, if_pos rfl]
  · intro c hc; rw [get_new hn, if_neg (by omega)]
theorem Ev_alloc_ {i : TI} (hi : X.ti t = some i) (hok : Sok S) (hn : S.n < 1000000000)
    (hR : ∀ S', S'.n = S.n + 1 → Sok S' → S'.h.get S.n = some (.cells t i.zero false) → (∀ c, c < S.n → S'.h.get c = S.h.get c) → R (.ptr S.n 0) S') : Ev X l S (.alloc t) R :=
  Ev_mk (fun e _ => ⟨rfl, by unfold allocOp; dsimp only; rw [hi]⟩) hok hn hR
theorem Ev_box {v : AV} (hx : od l x = some v) (hok : Sok S) (hn : S.n < 1000000000)
    (hR : ∀ S', S'.n = S.n + 1 → Sok S' → S'.h.get S.n = some (.cells t v.cells false) → (∀ c, c < S.n → S'.h.get c = S.h.get c) → R (.ptr S.n 0) S') : Ev X l S (.box t x) R :=
  Ev_mk (fun e he => ⟨rfl, by unfold allocOp; dsimp only; rw [od_ok he hx]⟩) hok hn hR
theorem Ev_range {i : TI} {s : List Nat} (hx : od l x = some (.str s)) (hi : X.ti t = some i) (hd : i.desc = .string) (hok : Sok S) (hn : S.n < 1000000000)
    (hR : ∀ S', S'.n = S.n + 1 → Sok S' → S'.h.get S.n = some (.sit s 0) → (∀ c, c < S.n → S'.h.get c = S.h.get c) → R (.ptr S.n 0) S') : Ev X l S (.range t x) R :=
  Ev_mk (fun e he => ⟨rfl, by unfold allocOp; dsimp only; rw [hi]; dsimp only; rw [hd]; dsimp only; rw [od_ok he hx]⟩) hok hn hR
theorem Ev_buildSlice {len el : Nat} {i ei : TI} {ps : Array (Nat × Operand)} {vs : List (Nat × AV)} {cs : List AV} (hi : X.ti t = some i) (hd : i.desc = .slice el) (he' : X.ti el = some ei) (hz : (Nat.beq ei.size 0 || Nat.blt 16777216 (len * ei.size) || !(Nat.beq ei.zero.length ei.size)) = false)
    (hp : odparts l ps.toList = some vs) (hcs : afill (fun i => some (i * ei.size, ei.size)) (rep ei.zero len) vs = some cs) (hok : Sok S) (hn : S.n < 1000000000)
    (hR : ∀ S', S'.n = S.n + 1 → Sok S' → S'.h.get S.n = some (.cells el cs false) → (∀ c, c < S.n → S'.h.get c = S.h.get c) → R (.slice S.n 0 len (.ex len)) S') : Ev X l S (.buildSlice t len ps) R :=
  Ev_mk (fun e he => ⟨rfl, by unfold allocOp; dsimp only; rw [hi]; dsimp only; rw [hd]; dsimp only; rw [he']; dsimp only; rw [hz]; simp only [cond_false]; rw [odparts_ok he hp]; dsimp only; rw [hcs]⟩) hok hn hR
theorem Ev_conv_bytes {s d el : Nat} {si di ei : TI} {z : List Nat} (hx : od l x = some (.str z)) (hs : X.ti s = some si) (hd : X.ti d = some di) (hsd : si.desc = .string) (hdd : di.desc = .slice el) (he' : X.ti el = some ei) (hz : Nat.beq ei.size 1 = true) (hk : ei.desc = .int .u8) (hok : Sok S) (hn : S.n < 1000000000)
    (hR : ∀ S', S'.n = S.n + 1 → Sok S' → S'.h.get S.n = some (.cells el (sbytes z) true) → (∀ c, c < S.n → S'.h.get c = S.h.get c) → R (.slice S.n 0 z.length (.op 1)) S') (hlim : z.length < 9223372036854775808 := by omega) : Ev X l S (.convert s d x) R :=
  Ev_mk (fun e he => ⟨by unfold cls; dsimp only; rw [hs]; dsimp only; rw [hsd]; dsimp only; rw [hd]; dsimp only; rw [hdd], by unfold allocOp; dsimp only; rw [od_ok he hx]; dsimp only; rw [hd]; dsimp only; rw [hs]; dsimp only; rw [hdd]; dsimp only; rw [he']; dsimp only; rw [hz, hk]; simp only [Bool.not_true, cond_false]; rw [nblt, decide_eq_true hlim]; rfl⟩) hok hn hR
theorem Ev_conv_runes {s d el : Nat} {si di ei : TI} {z : List Nat} (hx : od l x = some (.str z)) (hs : X.ti s = some si) (hd : X.ti d = some di) (hsd : si.desc = .string) (hdd : di.desc = .slice el) (he' : X.ti el = some ei) (hz : Nat.beq ei.size 1 = true) (hk : ei.desc = .int .i32) (hok : Sok S) (hn : S.n < 1000000000)
    (hR : ∀ S', S'.n = S.n + 1 → Sok S' → S'.h.get S.n = some (.cells el (runesFrom z.length z) true) → (∀ c, c < S.n → S'.h.get c = S.h.get c) → R (.slice S.n 0 (runesFrom z.length z).length (.op 1)) S') (hlim : z.length < 9223372036854775808 := by omega) : Ev X l S (.convert s d x) R :=
  Ev_mk (fun e he => ⟨by unfold cls; dsimp only; rw [hs]; dsimp only; rw [hsd]; dsimp only; rw [hd]; dsimp only; rw [hdd], by unfold allocOp; dsimp only; rw [od_ok he hx]; dsimp only; rw [hd]; dsimp only; rw [hs]; dsimp only; rw [hdd]; dsimp only; rw [he']; dsimp only; rw [hz, hk]; simp only [Bool.not_true, cond_false]; rw [nblt, decide_eq_true hlim]; rfl⟩) hok hn hR
end
end
end
end GX
/- GX: reasoning about runs: append, texts out of bytes and runes, a text's runes one by one. -/

namespace GX
noncomputable section
open Go
def blkOf : AV → Option Nat
  | .slice b _ _ _ => some b
  | .ptr b _ => some b
  | .map b => some b
  | _ => none
/-- a slice whose block is its own, and that is as long as its block -/
def Own (S : St) (v : AV) (el sz : Nat) (cs : List AV) (m : Nat) : Prop :=
  (v = .nils ∧ cs = [] ∧ m = 0) ∨ ∃ b, v = .slice b 0 m (.op sz) ∧ S.h.get b = some (.cells el cs true) ∧ cs.length = m * sz
def isSl : AV → Bool
  | .slice _ _ _ _ => true
  | .rsl _ _ _ => true
  | .nils => true
  | .emp => true
  | _ => false
def capW : AV → Nat → Bool
  | .slice _ _ n (.ex k), _ => Nat.ble n k
  | .slice _ _ _ (.op z), sz => Nat.beq z sz
  | .rsl cs n z, sz => Nat.beq z sz && Nat.beq cs.length (n * z)
  | _, _ => true
/-- a slice that may be read -/
structure Rd (S : St) (v : AV) (sz : Nat) (cs : List AV) (m : Nat) : Prop where
  cap : capW v sz = true
  self : veq v v = true
  sl : isSl v = true
  len : slen v = some m
  cells : srcCells S.h sz m v = some cs
  size : cs.length = m * sz
theorem veq_slice (b o n : Nat) (k : Cap) : veq (.slice b o n k) (.slice b o n k) = true := by cases k <;> simp [veq]
theorem veqs_take : ∀ {l : List AV} (n : Nat), veqs l l = true → veqs (l.take n) (l.take n) = true
  | [], n, _ => by simp [veqs]
  | a :: l, 0, _ => by simp [veqs]
  | a :: l, n + 1, h => by
    simp only [veqs, Bool.and_eq_true, List.take_succ_cons] at h ⊢
    exact ⟨h.1, veqs_take n h.2⟩
theorem veqs_drop : ∀ {l : List AV} (n : Nat), veqs l l = true → veqs (l.drop n) (l.drop n) = true
  | [], n, _ => by simp [veqs]
  | a :: l, 0, h => h
  | a :: l, n + 1, h => by
    simp only [veqs, Bool.and_eq_true, List.drop_succ_cons] at h ⊢
    exact veqs_drop n h.2
theorem srcLen_of {v : AV} {m : Nat} (h : slen v = some m) : srcLen v = some m := by
  cases v <;> first | exact h | cases h
theorem row_congr {H H' : Tr AB} {b o n : Nat} (h : H'.get b = H.get b) : row H' b o n = row H b o n := by unfold row; rw [h]
theorem row_len {H : Tr AB} {b o n : Nat} {cs : List AV} (h : row H b o n = some cs) : cs.length = n := by
  unfold row at h
  split at h
  · rename_i t ds sp _
    rw [nble, cond_dec] at h
    split at h
    · cases h; simp; omega
    · cases h
  · cases h
theorem Rd.keep {S S' : St} {v : AV} {sz : Nat} {cs : List AV} {m : Nat} (h : Rd S v sz cs m) (hk : ∀ b, blkOf v = some b → S'.h.get b = S.h.get b) : Rd S' v sz cs m := by
  refine ⟨h.cap, h.self, h.sl, h.len, ?_, h.size⟩
  have h2 := h.cells
  cases v with
  | slice b o n k => unfold srcCells at h2 ⊢; dsimp only at h2 ⊢; rw [row_congr (hk b rfl)]; exact h2
  | nils => exact h2
  | emp => exact h2
  | rsl _ _ _ => exact h2
  | _ => have := h.sl; cases this
theorem Own.keep {S S' : St} {v : AV} {el sz : Nat} {cs : List AV} {m : Nat} (h : Own S v el sz cs m) (hk : ∀ b, blkOf v = some b → S'.h.get b = S.h.get b) : Own S' v el sz cs m := by
  rcases h with h | ⟨b, h1, h2, h3⟩
  · exact .inl h
  · exact .inr ⟨b, h1, by rw [hk b (by rw [h1]; rfl)]; exact h2, h3⟩
theorem Own.rd {S : St} {v : AV} {el sz : Nat} {cs : List AV} {m : Nat} (h : Own S v el sz cs m) : Rd S v sz cs m := by
  rcases h with ⟨h1, h2, h3⟩ | ⟨b, h1, h2, h3⟩
  · subst h1; subst h2; subst h3; exact ⟨rfl, rfl, rfl, rfl, rfl, by simp⟩
  · subst h1
    refine ⟨by simp [capW], veq_slice _ _ _ _, rfl, rfl, ?_, h3⟩
    unfold srcCells row; dsimp only; rw [h2]; dsimp only
    rw [nble, decide_eq_true (by omega)]
    simp only [cond_true, List.drop_zero]; rw [List.take_of_length_le (by omega)]
theorem Own.lt {S : St} {v : AV} {el sz : Nat} {cs : List AV} {m : Nat} (h : Own S v el sz cs m) (hok : Sok S) {b : Nat} (hb : blkOf v = some b) : b < S.n := by
  rcases h with ⟨h1, _, _⟩ | ⟨b', h1, h2, _⟩
  · subst h1; cases hb
  · subst h1; cases hb; exact hok _ _ h2
theorem Rd.lt {S : St} {v : AV} {sz : Nat} {cs : List AV} {m : Nat} (h : Rd S v sz cs m) (hok : Sok S) {b : Nat} (hb : blkOf v = some b) : b < S.n := by
  have h2 := h.cells
  cases v with
  | slice b' o n k =>
    cases hb
    unfold srcCells row at h2; dsimp only at h2
    split at h2
    · rename_i h3; exact hok _ _ h3
    · cases h2
  | nils => cases hb
  | emp => cases hb
  | rsl _ _ _ => cases hb
  | _ => have := h.sl; cases this
section
variable {X : X} {l : L} {S : St} {R : AV → St → Prop} {t t' u : Nat} {x y : Operand}
def appBody (S : St) (el size bytes k : Nat) (new : List AV) (vs : AV) : Option (AV × St) :=
  match vs with
            | .nils => bif Nat.beq k 0 then some (.nils, S) else grow S el size bytes new k
            | .emp => bif Nat.beq k 0 then some (.emp, S) else none
            | .slice b o len (.ex q) =>
              bif Nat.ble (len + k) q then
                match storeAt S b (o + len * size) new with
                | none => none
                | some S => some (.slice b o (len + k) (.ex q), S)
              else match row S.h b o (len * size) with
                | none => none
                | some old => grow S el size bytes (old ++ new) (len + k)
            | .slice b o len (.op z) =>
              bif Nat.beq k 0 then some (.slice b o len (.op z), S) else bif !(Nat.beq z size) then none else
              match S.h.get b with
              | some (.cells t' cs sp) =>
                bif Nat.ble (o + (len + k) * size) cs.length then
                  match storeAt S b (o + len * size) new with
                  | none => none
                  | some S => some (.slice b o (len + k) (.op z), S)
                else bif Nat.blt S.n 1000000000 && sp && Nat.beq t' el && Nat.beq (o + len * size) cs.length && Nat.ble ((2 * (len + k) + 1000) * bytes) 140737488355328 && Nat.ble (len + k) 140737488355328 && new.all AV.one then
                  some (.slice S.n 0 (len + k) (.op z), { h := Tr.set 40 (S.h.del b) S.n (.cells el (cs.drop o ++ new) true), n := S.n + 1 })
                else none
              | _ => none
            | _ => none
theorem app_eq {i ei : TI} {el k : Nat} {vs vx : AV} {new : List AV} (hi : X.ti t = some i) (hd : i.desc = .slice el) (he' : X.ti el = some ei) (hz : (Nat.beq ei.size 0 || !(Nat.beq ei.zero.length ei.size)) = false) (hl : srcLen vx = some k) (hc : srcCells S.h ei.size k vx = some new) :
    aappend X S t vs vx = appBody S el ei.size ei.bytes k new vs := by
  unfold aappend appBody
  rw [hi]; dsimp only; rw [hd]; dsimp only; rw [he']; dsimp only; rw [hz]; simp only [cond_false]; rw [hl]; dsimp only; rw [hc]
  cases vs with
  | slice b o n q => cases q <;> rfl
  | _ => rfl
theorem Ev_append {xs : Array Operand} {ts : Array TypeId} {tr : List TypeId} {i i' ei : TI} {el m k : Nat} {vs vx : AV} {cs new : List AV} (hxs : xs.toList = [x, y]) (hts : ts.toList = t :: t' :: tr) (hi' : X.ti t' = some i') (hni : (match i'.desc with | .int _ => false | _ => true) = true)
    (hx : od l x = some vs) (hy : od l y = some vx) (hi : X.ti t = some i) (hd : i.desc = .slice el) (he' : X.ti el = some ei) (hz : (Nat.beq ei.size 0 || !(Nat.beq ei.zero.length ei.size)) = false)
    (hown : Own S vs el ei.size cs m) (hnew : Rd S vx ei.size new k) (hone : new.all AV.one = true) (hok : Sok S) (hn : S.n < 1000000000) (hlim : (2 * (m + k) + 1000) * ei.bytes ≤ 140737488355328) (hlim2 : m + k ≤ 140737488355328)
    (hR : ∀ v' S', S.n ≤ S'.n → S'.n ≤ S.n + 1 → Sok S' → Own S' v' el ei.size (cs ++ new) (m + k) → (∀ c, blkOf vs ≠ some c → c < S.n → S'.h.get c = S.h.get c) → (∀ c, blkOf v' = some c → blkOf vs = some c ∨ S.n ≤ c) → R v' S') :
    Ev X l S (.call { callee := .builtin .append, args := xs, argTypes := ts }) R := by
  have key : ∀ v' S', aappend X S t vs vx = some (v', S') → S.n ≤ S'.n → R v' S' → Ev X l S (.call { callee := .builtin .append, args := xs, argTypes := ts }) R := by
    intro v' S' ha hle hr
    refine Ev_loud (fun e he => ⟨rfl, ?_⟩) hle hr
    unfold loudOp; dsimp only; rw [hxs, hts]; dsimp only; rw [hi']; dsimp only
    split
    · rename_i hdd; rw [hdd] at hni; cases hni
    · rw [od_ok he hx, od_ok he hy]; exact ha
  have hz0 : ei.size ≠ 0 := by intro h; rw [h] at hz; simp [nbeq] at hz
  have hl := srcLen_of hnew.len
  have ha0 : aappend X S t vs vx = appBody S el ei.size ei.bytes k new vs := app_eq hi hd he' hz hl hnew.cells
  by_cases hk : k = 0
  · subst hk
    have hnil : new = [] := List.eq_nil_of_length_eq_zero (by rw [hnew.size]; omega)
    subst hnil
    rcases hown with ⟨h1, h2, h3⟩ | ⟨b, h1, h2, h3⟩
    · subst h1; subst h2; subst h3
      exact key .nils S (by rw [ha0]; rfl) (Nat.le_refl _) (hR _ _ (Nat.le_refl _) (Nat.le_succ _) hok (.inl ⟨rfl, rfl, rfl⟩) (fun _ _ _ => rfl) (fun c hc => by cases hc))
    · subst h1
      exact key _ S (by rw [ha0]; rfl) (Nat.le_refl _) (hR _ _ (Nat.le_refl _) (Nat.le_succ _) hok (.inr ⟨b, rfl, by simpa using h2, by simpa using h3⟩) (fun _ _ _ => rfl) (fun c hc => .inl hc))
  · have hkb : Nat.beq k 0 = false := by rw [nbeq]; simp [hk]
    rcases hown with ⟨h1, h2, h3⟩ | ⟨b, h1, h2, h3⟩
    · subst h1; subst h2; subst h3
      rw [Nat.zero_add] at hlim hlim2
      refine key (.slice S.n 0 k (.op ei.size)) (S.new (.cells el new true)) ?_ (Nat.le_succ _) (hR _ _ (Nat.le_succ _) (Nat.le_refl _) ?_ (.inr ⟨S.n, by rw [Nat.zero_add], ?_, ?_⟩) ?_ (fun c hc => by cases hc; exact .inr (Nat.le_refl _)))
      · rw [ha0]; unfold appBody; dsimp only; rw [hkb]; simp only [cond_false]; unfold grow
        rw [nblt, nble, nble, decide_eq_true hn, decide_eq_true hlim, decide_eq_true hlim2]; rfl
      · intro c x hc
        rw [get_new hn] at hc
        by_cases h : c = S.n
        · rw [h]; exact Nat.lt_succ_self _
        · rw [if_neg h] at hc; exact Nat.lt_succ_of_lt (hok c x hc)
      · rw [get_new hn, if_pos rfl]; rfl
      · simpa using hnew.size
      · intro c _ hc; rw [get_new hn, if_neg (by omega)]
    · subst h1
      have hbn : b < S.n := hok _ _ h2
      have hns : ¬ (0 + (m + k) * ei.size ≤ cs.length) := by
        rw [h3, Nat.zero_add, Nat.add_mul]
        have : 0 < k * ei.size := Nat.mul_pos (by omega) (by omega)
        omega
      refine key (.slice S.n 0 (m + k) (.op ei.size)) { h := Tr.set 40 (S.h.del b) S.n (.cells el (cs.drop 0 ++ new) true), n := S.n + 1 } ?_ (Nat.le_succ _) (hR _ _ (Nat.le_succ _) (Nat.le_refl _) ?_ (.inr ⟨S.n, rfl, ?_, ?_⟩) ?_ (fun c hc => by cases hc; exact .inr (Nat.le_refl _)))
      · rw [ha0]; unfold appBody; dsimp only; rw [hkb]; simp only [cond_false]
        rw [nbeq, decide_eq_true rfl]; simp only [Bool.not_true, cond_false]
        rw [h2]; dsimp only
        rw [nble, decide_eq_false hns]; simp only [cond_false]
        rw [nblt, nble, nble, nbeq, nbeq, decide_eq_true hn, decide_eq_true hlim, decide_eq_true hlim2, decide_eq_true rfl, decide_eq_true (by omega : 0 + m * ei.size = cs.length), hone]; rfl
      · intro c x hc
        dsimp only at hc
        rw [Tr.get_set 40 _ _ _ _ (by omega)] at hc
        by_cases h : c = S.n
        · rw [h]; exact Nat.lt_succ_self _
        · rw [if_neg h, Tr.get_del] at hc
          split at hc
          · cases hc
          · exact Nat.lt_succ_of_lt (hok c x hc)
      · dsimp only; rw [Tr.get_set 40 _ _ _ _ (by omega), if_pos rfl]; rfl
      · rw [List.length_append, h3, hnew.size, Nat.add_mul]
      · intro c hcb hc
        dsimp only
        rw [Tr.get_set 40 _ _ _ _ (by omega), if_neg (by omega), Tr.get_del, if_neg (fun h => hcb (by rw [h]; rfl))]
/-- what is appended to a slice that is full -/
theorem Ev_append_ex {xs : Array Operand} {ts : Array TypeId} {tr : List TypeId} {i i' ei : TI} {el m k b o : Nat} {vx : AV} {old new : List AV} (hxs : xs.toList = [x, y]) (hts : ts.toList = t :: t' :: tr) (hi' : X.ti t' = some i') (hni : (match i'.desc with | .int _ => false | _ => true) = true)
    (hx : od l x = some (.slice b o m (.ex m))) (hy : od l y = some vx) (hi : X.ti t = some i) (hd : i.desc = .slice el) (he' : X.ti el = some ei) (hz : (Nat.beq ei.size 0 || !(Nat.beq ei.zero.length ei.size)) = false)
    (hold : Rd S (.slice b o m (.ex m)) ei.size old m) (hnew : Rd S vx ei.size new k) (hok : Sok S) (hn : S.n < 1000000000) (hlim : (2 * (m + k) + 1000) * ei.bytes ≤ 140737488355328) (hlim2 : m + k ≤ 140737488355328)
    (hR : ∀ v' S', S.n ≤ S'.n → S'.n ≤ S.n + 1 → Sok S' → Rd S' v' ei.size (old ++ new) (m + k) → (k = 0 ∨ Own S' v' el ei.size (old ++ new) (m + k)) → (∀ c, c < S.n → S'.h.get c = S.h.get c) → (∀ c, blkOf v' = some c → c = b ∨ S.n ≤ c) → R v' S') :
    Ev X l S (.call { callee := .builtin .append, args := xs, argTypes := ts }) R := by
  have key : ∀ v' S', aappend X S t (.slice b o m (.ex m)) vx = some (v', S') → S.n ≤ S'.n → R v' S' → Ev X l S (.call { callee := .builtin .append, args := xs, argTypes := ts }) R := by
    intro v' S' ha hle hr
    refine Ev_loud (fun e he => ⟨rfl, ?_⟩) hle hr
    unfold loudOp; dsimp only; rw [hxs, hts]; dsimp only; rw [hi']; dsimp only
    split
    · rename_i hdd; rw [hdd] at hni; cases hni
    · rw [od_ok he hx, od_ok he hy]; exact ha
  have hl := srcLen_of hnew.len
  have hrow : row S.h b o (m * ei.size) = some old := hold.cells
  have ha0 : aappend X S t (.slice b o m (.ex m)) vx = (bif Nat.ble (m + k) m then
                (match storeAt S b (o + m * ei.size) new with
                | none => none
                | some S => some (.slice b o (m + k) (.ex m), S))
              else grow S el ei.size ei.bytes (old ++ new) (m + k)) := by
    rw [app_eq hi hd he' hz hl hnew.cells]; unfold appBody; dsimp only; rw [hrow]
  by_cases hk : k = 0
  · subst hk
    have hnil : new = [] := List.eq_nil_of_length_eq_zero (by rw [hnew.size]; omega)
    subst hnil
    unfold row at hrow
    split at hrow
    · rename_i ty cs sp hb
      rw [nble, cond_dec] at hrow
      split at hrow
      · rename_i hle
        have hbn : b < S.n := hok _ _ hb
        have hsame : ∀ c, (S.put b (.cells ty (lput cs (o + m * ei.size) []) sp)).h.get c = S.h.get c := by
          intro c
          rw [get_put (by omega), lput_nil]
          split
          · rename_i h; rw [h, hb]
          · rfl
        refine key (.slice b o (m + 0) (.ex m)) (S.put b (.cells ty (lput cs (o + m * ei.size) []) sp)) ?_ (Nat.le_refl _) (hR _ _ (Nat.le_refl _) (Nat.le_succ _) ?_ ?_ (.inl rfl) (fun c _ => hsame c) (fun c hc => by cases hc; exact .inl rfl))
        · rw [ha0, nble, decide_eq_true (by omega)]; simp only [cond_true]
          unfold storeAt; rw [hb]; dsimp only
          rw [nble, decide_eq_true (by simpa using hle)]; rfl
        · intro c x hc; rw [hsame] at hc; exact hok c x hc
        · rw [List.append_nil]
          refine ⟨by simp [capW], veq_slice _ _ _ _, rfl, rfl, ?_, by simpa using hold.size⟩
          show row _ b o ((m + 0) * ei.size) = _
          rw [row_congr (hsame b)]; exact hold.cells
      · cases hrow
    · cases hrow
  · refine key (.slice S.n 0 (m + k) (.op ei.size)) (S.new (.cells el (old ++ new) true)) ?_ (Nat.le_succ _) ?_
    · rw [ha0, nble, decide_eq_false (by omega)]; simp only [cond_false]; unfold grow
      rw [nblt, nble, nble, decide_eq_true hn, decide_eq_true hlim, decide_eq_true hlim2]; rfl
    · have hown : Own (S.new (.cells el (old ++ new) true)) (.slice S.n 0 (m + k) (.op ei.size)) el ei.size (old ++ new) (m + k) := by
        refine .inr ⟨S.n, rfl, ?_, ?_⟩
        · rw [get_new hn, if_pos rfl]
        · rw [List.length_append, hold.size, hnew.size, Nat.add_mul]
      refine hR _ _ (Nat.le_succ _) (Nat.le_refl _) ?_ hown.rd (.inr hown) ?_ (fun c hc => by cases hc; exact .inr (Nat.le_refl _))
      · intro c x hc
        rw [get_new hn] at hc
        by_cases h : c = S.n
        · rw [h]; exact Nat.lt_succ_self _
        · rw [if_neg h] at hc; exact Nat.lt_succ_of_lt (hok c x hc)
      · intro c hc; rw [get_new hn, if_neg (by omega)]
/-- a part of a slice -/
theorem slice_rd {i ei : TI} {el m lo hi : Nat} {v : AV} {cs : List AV} {lo' hi' : Option AV} (hi0 : X.ti t = some i) (hd : i.desc = .slice el) (he' : X.ti el = some ei) (hrd : Rd S v ei.size cs m) (hlo : lo ≤ hi) (hhi : hi ≤ m)
    (hl : (lo' = none ∧ lo = 0) ∨ ∃ k, lo' = some (.int k ((lo : Nat) : Int))) (hh : (hi' = none ∧ hi = m) ∨ ∃ k, hi' = some (.int k ((hi : Nat) : Int))) :
    ∃ v', aslice X t v lo' hi' none = some v' ∧ Rd S v' ei.size ((cs.take (hi * ei.size)).drop (lo * ei.size)) (hi - lo) ∧ ∀ b, blkOf v' = some b → blkOf v = some b := by
  have hb : ∀ lim, m ≤ lim → bounds m lim lo' hi' = some (lo, hi) := by
    intro lim hm
    unfold bounds
    rcases hh with ⟨h1, h2⟩ | ⟨k, h1⟩
    · subst h1; subst h2
      rcases hl with ⟨h3, h4⟩ | ⟨k, h3⟩
      · subst h3; subst h4; rfl
      · subst h3
        have : bound (.int k ((lo : Nat) : Int)) hi = some lo := by
          show (bif Nat.ble lo hi then some lo else none) = _
          rw [nble, decide_eq_true hlo]; rfl
        dsimp only; rw [this]
    · subst h1
      have : bound (.int k ((hi : Nat) : Int)) lim = some hi := by
        show (bif Nat.ble hi lim then some hi else none) = _
        rw [nble, decide_eq_true (by omega)]; rfl
      dsimp only; rw [this]
      rcases hl with ⟨h3, h4⟩ | ⟨k, h3⟩
      · subst h3; subst h4; rfl
      · subst h3
        have : bound (.int k ((lo : Nat) : Int)) hi = some lo := by
          show (bif Nat.ble lo hi then some lo else none) = _
          rw [nble, decide_eq_true hlo]; rfl
        dsimp only; rw [this]
  have hs := hrd.size
  have hmz : hi * ei.size ≤ m * ei.size := Nat.mul_le_mul_right _ hhi
  have hlz : lo * ei.size ≤ hi * ei.size := Nat.mul_le_mul_right _ hlo
  have hlen : ((cs.take (hi * ei.size)).drop (lo * ei.size)).length = (hi - lo) * ei.size := by
    rw [List.length_drop, List.length_take, hs, Nat.sub_mul]; omega
  have hle := hrd.len
  cases v with
  | slice b o n cap =>
    cases hle
    have hrow : row S.h b o (m * ei.size) = some cs := hrd.cells
    unfold row at hrow
    split at hrow
    · rename_i ty cs0 sp hb0
      rw [nble, cond_dec] at hrow
      split at hrow
      · rename_i hfit
        cases hrow
        have hrow2 : ∀ o', (o' = o + lo * ei.size ∨ lo = hi ∧ o' = o) → row S.h b o' ((hi - lo) * ei.size) = some (((((cs0.drop o).take (m * ei.size))).take (hi * ei.size)).drop (lo * ei.size)) := by
          intro o' ho
          unfold row; rw [hb0]; dsimp only
          have hsm : (hi - lo) * ei.size = hi * ei.size - lo * ei.size := Nat.sub_mul _ _ _
          rcases ho with rfl | ⟨rfl, rfl⟩
          · rw [nble, decide_eq_true (by rw [hsm]; omega)]
            simp only [cond_true]
            rw [hsm, List.take_take, Nat.min_eq_left hmz, List.drop_take, List.drop_drop]
          · rw [nble, decide_eq_true (by rw [hsm]; omega)]
            simp only [cond_true]
            rw [Nat.sub_self, Nat.zero_mul, List.take_zero]
            have hnil := List.eq_nil_of_length_eq_zero (by rw [hlen, Nat.sub_self, Nat.zero_mul])
            rw [hnil]
        cases cap with
        | ex k =>
          have hk : m ≤ k := by have := hrd.cap; simpa [capW] using this
          refine ⟨.slice b (bif Nat.beq k lo then o else o + lo * ei.size) (hi - lo) (.ex (k - lo)), ?_, ⟨by simp [capW]; omega, veq_slice _ _ _ _, rfl, rfl, ?_, hlen⟩, fun b h => h⟩
          · unfold aslice; dsimp only; rw [hi0]; dsimp only; rw [hd]; dsimp only; rw [he']; dsimp only; rw [hb k hk]
          · unfold srcCells; dsimp only
            apply hrow2
            rw [nbeq, cond_dec]
            by_cases h : k = lo
            · rw [if_pos h]; exact .inr ⟨by omega, rfl⟩
            · rw [if_neg h]; exact .inl rfl
        | op z =>
          have hz : z = ei.size := by have := hrd.cap; simpa [capW] using this
          by_cases hlt : lo < m
          · refine ⟨.slice b (o + lo * ei.size) (hi - lo) (.op z), ?_, ⟨by simp [capW, hz], veq_slice _ _ _ _, rfl, rfl, ?_, hlen⟩, fun b h => h⟩
            · unfold aslice; dsimp only; rw [hi0]; dsimp only; rw [hd]; dsimp only; rw [he']; dsimp only; rw [hb m (Nat.le_refl _)]; dsimp only
              rw [nblt, nbeq, decide_eq_true hlt, decide_eq_true hz]; rfl
            · unfold srcCells; dsimp only
              exact hrow2 _ (.inl rfl)
          · refine ⟨.emp, ?_, ⟨rfl, rfl, rfl, ?_, ?_, hlen⟩, fun b h => by cases h⟩
            · unfold aslice; dsimp only; rw [hi0]; dsimp only; rw [hd]; dsimp only; rw [he']; dsimp only; rw [hb m (Nat.le_refl _)]; dsimp only
              rw [nblt, nbeq, nbeq, decide_eq_false hlt, decide_eq_true (by omega : hi = lo)]; rfl
            · unfold slen; rw [show hi - lo = 0 by omega]
            · unfold srcCells; dsimp only; rw [show hi - lo = 0 by omega]
              have hnil := List.eq_nil_of_length_eq_zero (by rw [hlen, show hi - lo = 0 by omega, Nat.zero_mul])
              rw [hnil]; rfl
      · cases hrow
    · cases hrow
  | nils =>
    cases hle
    have h0 : hi = 0 := by omega
    have h1 : lo = 0 := by omega
    subst h0; subst h1
    refine ⟨.nils, ?_, ⟨rfl, rfl, rfl, rfl, ?_, hlen⟩, fun b h => h⟩
    · unfold aslice; dsimp only; rw [hb 0 (Nat.le_refl _)]
    · simp [srcCells]
  | emp =>
    cases hle
    have h0 : hi = 0 := by omega
    have h1 : lo = 0 := by omega
    subst h0; subst h1
    refine ⟨.emp, ?_, ⟨rfl, rfl, rfl, rfl, ?_, hlen⟩, fun b h => h⟩
    · unfold aslice; dsimp only; rw [hb 0 (Nat.le_refl _)]
    · simp [srcCells]
  | rsl cs0 n z =>
    cases hle
    have hz : z = ei.size := by have := hrd.cap; simp [capW] at this; exact this.1
    subst hz
    have hc : srcCells S.h ei.size m (.rsl cs0 m ei.size) = some cs := hrd.cells
    unfold srcCells at hc
    dsimp only at hc
    rw [nbeq, nble, ← Bool.decide_and, cond_dec] at hc
    split at hc
    · rename_i h1
      cases hc
      have hself : veqs cs0 cs0 = true := by have := hrd.self; simp [veq] at this; exact this
      refine ⟨.rsl ((cs0.take (hi * ei.size)).drop (lo * ei.size)) (hi - lo) ei.size, ?_, ⟨by rw [List.take_take, Nat.min_eq_left hmz] at hlen; simp only [capW, nbeq, decide_true, Bool.true_and, decide_eq_true_eq]; exact hlen, ?_, rfl, rfl, ?_, hlen⟩, fun b h => h⟩
      · unfold aslice; dsimp only; rw [hi0]; dsimp only; rw [hd]; dsimp only; rw [he']; dsimp only; rw [nbeq, decide_eq_true rfl]; simp only [cond_true]; rw [hb m (Nat.le_refl _)]
      · simp [veq, veqs_drop _ (veqs_take _ hself)]
      · rw [List.take_take, Nat.min_eq_left hmz] at hlen ⊢
        unfold srcCells; dsimp only
        rw [nbeq, nble, decide_eq_true rfl, decide_eq_true (by rw [hlen]; exact Nat.le_refl _)]
        simp only [Bool.and_self, cond_true]
        rw [List.take_of_length_le (by rw [hlen]; exact Nat.le_refl _)]
    · cases hc
  | _ => have := hrd.sl; cases this
theorem Ev_slice_lo {k : IntKind} {i ei : TI} {el m lo : Nat} {v : AV} {cs : List AV} (hx : od l x = some v) (hy : od l y = some (.int k ((lo : Nat) : Int))) (hi0 : X.ti t = some i) (hd : i.desc = .slice el) (he' : X.ti el = some ei) (hrd : Rd S v ei.size cs m) (hlo : lo ≤ m)
    (hR : ∀ v', Rd S v' ei.size (cs.drop (lo * ei.size)) (m - lo) → (∀ b, blkOf v' = some b → blkOf v = some b) → R v' S) : Ev X l S (.slice t x (some y) none none) R := by
  obtain ⟨v', h1, h2, h3⟩ := slice_rd (hi := m) hi0 hd he' hrd hlo (Nat.le_refl _) (.inr ⟨k, rfl⟩) (.inl ⟨rfl, rfl⟩)
  rw [List.take_of_length_le (by rw [hrd.size]; exact Nat.le_refl _)] at h2
  exact Ev_slice hx (by unfold odopt; dsimp only; rw [hy]) rfl rfl hi0 hd he' (by have := hrd.sl; cases v <;> first | rfl | cases this) h1 (hR v' h2 h3)
theorem Ev_slice_hi {k : IntKind} {i ei : TI} {el m hi : Nat} {v : AV} {cs : List AV} (hx : od l x = some v) (hy : od l y = some (.int k ((hi : Nat) : Int))) (hi0 : X.ti t = some i) (hd : i.desc = .slice el) (he' : X.ti el = some ei) (hrd : Rd S v ei.size cs m) (hhi : hi ≤ m)
    (hR : ∀ v', Rd S v' ei.size (cs.take (hi * ei.size)) hi → (∀ b, blkOf v' = some b → blkOf v = some b) → R v' S) : Ev X l S (.slice t x none (some y) none) R := by
  obtain ⟨v', h1, h2, h3⟩ := slice_rd (lo := 0) hi0 hd he' hrd (Nat.zero_le _) hhi (.inl ⟨rfl, rfl⟩) (.inr ⟨k, rfl⟩)
  rw [Nat.zero_mul, List.drop_zero, Nat.sub_zero] at h2
  exact Ev_slice hx rfl (by unfold odopt; dsimp only; rw [hy]) rfl hi0 hd he' (by have := hrd.sl; cases v <;> first | rfl | cases this) h1 (hR v' h2 h3)
theorem Ev_slice_lh {z : Operand} {k k' : IntKind} {i ei : TI} {el m lo hi : Nat} {v : AV} {cs : List AV} (hx : od l x = some v) (hy : od l y = some (.int k ((lo : Nat) : Int))) (hz : od l z = some (.int k' ((hi : Nat) : Int))) (hi0 : X.ti t = some i) (hd : i.desc = .slice el) (he' : X.ti el = some ei) (hrd : Rd S v ei.size cs m) (hlo : lo ≤ hi) (hhi : hi ≤ m)
    (hR : ∀ v', Rd S v' ei.size ((cs.take (hi * ei.size)).drop (lo * ei.size)) (hi - lo) → (∀ b, blkOf v' = some b → blkOf v = some b) → R v' S) : Ev X l S (.slice t x (some y) (some z) none) R := by
  obtain ⟨v', h1, h2, h3⟩ := slice_rd hi0 hd he' hrd hlo hhi (.inr ⟨k, rfl⟩) (.inr ⟨k', rfl⟩)
  exact Ev_slice hx (by unfold odopt; dsimp only; rw [hy]) (by unfold odopt; dsimp only; rw [hz]) rfl hi0 hd he' (by have := hrd.sl; cases v <;> first | rfl | cases this) h1 (hR v' h2 h3)
/-! texts -/
theorem bytesOf_sbytes {s : List Nat} (h : ∀ c ∈ s, c < 256) : bytesOf (sbytes s) = some s := by
  induction s with
  | nil => rfl
  | cons c s ih =>
    show bytesOf (AV.int .u8 (.ofNat c) :: sbytes s) = _
    unfold bytesOf
    rw [nblt, decide_eq_true (h c (by simp)), ih fun d hd => h d (by simp [hd])]
    rfl
theorem Ev_conv_to_str {s d el m : Nat} {si di ei : TI} {v : AV} {cs : List AV} {z : List Nat} (hx : od l x = some v) (hs : X.ti s = some si) (hd : X.ti d = some di) (hdd : di.desc = .string) (hsd : si.desc = .slice el) (he' : X.ti el = some ei) (hk : ei.desc = .int .u8) (hrd : Rd S v 1 cs m) (hz : bytesOf cs = some z) (hR : R (.str z) S) : Ev X l S (.convert s d x) R := by
  refine Ev_read (v := .str z) (fun e he => ⟨?_, ?_⟩) (by unfold veq; rw [seq_eq]; simp) hR
  · unfold cls; dsimp only; rw [hs]; dsimp only; rw [hsd]; dsimp only; rw [hd]; dsimp only; rw [hdd]
  · unfold readOp; dsimp only; rw [od_ok he hx]; dsimp only; rw [hd]; dsimp only; rw [hs]; dsimp only; rw [hdd]; dsimp only; rw [hsd]; dsimp only; rw [he']; dsimp only; rw [hk]
    have h2 := hrd.cells
    have h3 := hrd.len
    have h4 := hrd.size
    cases v with
    | slice b o n k =>
      cases h3
      unfold srcCells at h2; dsimp only at h2 ⊢
      rw [Nat.mul_one] at h2; rw [h2]; dsimp only; rw [hz]
    | rsl cs0 n z0 =>
      cases h3
      have hz0 : z0 = 1 ∧ cs0.length = m * z0 := by have := hrd.cap; simpa [capW] using this
      obtain ⟨hz0, hl0⟩ := hz0
      subst hz0
      unfold srcCells at h2; dsimp only at h2 ⊢
      rw [nbeq, nble, ← Bool.decide_and, cond_dec] at h2
      split at h2
      · rename_i h1
        cases h2
        rw [List.take_of_length_le (by omega)] at hz
        rw [show Nat.beq 1 1 = true from rfl]
        simp only [cond_true]
        rw [hz]
      · cases h2
    | nils => cases h3; cases List.eq_nil_of_length_eq_zero (by omega : cs.length = 0); cases hz; rfl
    | emp => cases h3; cases List.eq_nil_of_length_eq_zero (by omega : cs.length = 0); cases hz; rfl
    | _ => have := hrd.sl; cases this
theorem Ev_conv_to_str_r {s d el m : Nat} {si di ei : TI} {v : AV} {cs : List AV} {z : List Nat} (hx : od l x = some v) (hs : X.ti s = some si) (hd : X.ti d = some di) (hdd : di.desc = .string) (hsd : si.desc = .slice el) (he' : X.ti el = some ei) (hk : ei.desc = .int .i32) (hrd : Rd S v 1 cs m) (hz : runesOf cs = some z) (hR : R (.str z) S) : Ev X l S (.convert s d x) R := by
  refine Ev_read (v := .str z) (fun e he => ⟨?_, ?_⟩) (by unfold veq; rw [seq_eq]; simp) hR
  · unfold cls; dsimp only; rw [hs]; dsimp only; rw [hsd]; dsimp only; rw [hd]; dsimp only; rw [hdd]
  · unfold readOp; dsimp only; rw [od_ok he hx]; dsimp only; rw [hd]; dsimp only; rw [hs]; dsimp only; rw [hdd]; dsimp only; rw [hsd]; dsimp only; rw [he']; dsimp only; rw [hk]
    have h2 := hrd.cells
    have h3 := hrd.len
    have h4 := hrd.size
    cases v with
    | slice b o n k =>
      cases h3
      unfold srcCells at h2; dsimp only at h2 ⊢
      rw [Nat.mul_one] at h2; rw [h2]; dsimp only; rw [hz]
    | rsl cs0 n z0 =>
      cases h3
      have hz0 : z0 = 1 ∧ cs0.length = m * z0 := by have := hrd.cap; simpa [capW] using this
      obtain ⟨hz0, hl0⟩ := hz0
      subst hz0
      unfold srcCells at h2; dsimp only at h2 ⊢
      rw [nbeq, nble, ← Bool.decide_and, cond_dec] at h2
      split at h2
      · rename_i h1
        cases h2
        rw [List.take_of_length_le (by omega)] at hz
        rw [show Nat.beq 1 1 = true from rfl]
        simp only [cond_true]
        rw [hz]
      · cases h2
    | nils => cases h3; cases List.eq_nil_of_length_eq_zero (by omega : cs.length = 0); cases hz; rfl
    | emp => cases h3; cases List.eq_nil_of_length_eq_zero (by omega : cs.length = 0); cases hz; rfl
    | _ => have := hrd.sl; cases this
theorem Ev_next_end {r pos : Nat} {s : List Nat} (hx : od l x = some (.ptr r 0)) (hr : S.h.get r = some (.sit s pos)) (hd : s.drop pos = []) (hR : R (.tup [.bool false]) S) : Ev X l S (.next x true) R := by
  refine Ev_loud (fun e he => ⟨rfl, ?_⟩) (Nat.le_refl _) hR
  unfold loudOp; dsimp only; simp only [cond_true]; rw [od_ok he hx]; dsimp only; simp only [anext, hr, hd]
theorem Ev_next {r pos c w : Nat} {s : List Nat} (hx : od l x = some (.ptr r 0)) (hr : S.h.get r = some (.sit s pos)) (hd : s.drop pos ≠ []) (hc : decodeR (s.drop pos) = (c, w)) (hn : r < 1000000000)
    (hR : ∀ S', S'.n = S.n → S'.h.get r = some (.sit s (pos + w)) → (∀ c, c ≠ r → S'.h.get c = S.h.get c) → R (.tup [.bool true, .int .i64 ((pos : Nat) : Int), .int .i32 ((c : Nat) : Int)]) S') : Ev X l S (.next x true) R := by
  refine Ev_loud (S' := S.put r (.sit s (pos + w))) (v := .tup [.bool true, .int .i64 (.ofNat pos), .int .i32 (.ofNat c)]) (fun e he => ⟨rfl, ?_⟩) (Nat.le_refl _) (hR _ rfl (by rw [get_put hn, if_pos rfl]) (fun c hc => by rw [get_put hn, if_neg hc]))
  unfold loudOp; dsimp only; simp only [cond_true]; rw [od_ok he hx]; dsimp only; simp only [anext, hr]
  cases hdd : s.drop pos with
  | nil => exact absurd hdd hd
  | cons b l' => dsimp only; rw [hdd] at hc; rw [hc]
end
end
end GX
/- GX: reasoning about runs: numbers that are not negative; bits. -/

namespace GX
noncomputable section
open Go
theorem bits_lim (k : IntKind) : lim k ≤ 2 ^ k.bits := by cases k <;> decide
theorem inR_nat {k : IntKind} {a : Nat} (h : a < lim k) : inR k (a : Int) := by
  cases k <;> simp only [inR, lim] at * <;> omega
theorem ibits_nat {k : IntKind} {f : Nat → Nat → Nat} {a b c : Nat} (ha : a < lim k) (hb : b < lim k) (hf : f a b = c) (hc : c < lim k) : ibits k f (a : Int) (b : Int) = (c : Int) := by
  have hl := bits_lim k
  have h1 : ∀ x : Nat, x < lim k → (BitVec.ofInt k.bits (x : Int)).toNat = x := by
    intro x hx
    rw [BitVec.ofInt_natCast, BitVec.toNat_ofNat, Nat.mod_eq_of_lt (by omega)]
  unfold ibits
  rw [h1 a ha, h1 b hb, hf, ← wrp_eq, wrp_in (inR_nat hc)]
theorem lor_add {a b m q : Nat} (hq : 2 ^ m = q) (ha : a % q = 0) (hb : b < q) : Nat.lor a b = a + b := by
  obtain ⟨c, hc⟩ := Nat.dvd_of_mod_eq_zero ha
  subst hc
  subst hq
  show 2 ^ m * c ||| b = _
  rw [Nat.two_pow_add_eq_or_of_lt hb]
theorem land_mask {a m q : Nat} (hq : 2 ^ m = q + 1) : Nat.land a q = a % (q + 1) := by
  have : q = 2 ^ m - 1 := by omega
  show a &&& q = _
  rw [← hq, this, Nat.and_two_pow_sub_one_eq_mod]
section
variable {X : X} {l : L} {S : St} {R : AV → St → Prop} {t u : Nat} {x y : Operand} {k : IntKind} {a b : Nat}
theorem Ev_addN (hx : od l x = some (.int k (a : Int))) (hy : od l y = some (.int k (b : Int))) (h : a + b < lim k) (hR : R (.int k ((a + b : Nat) : Int)) S) : Ev X l S (.binOp .add t x y u) R :=
  Ev_add hx hy (by have := inR_nat h; rwa [Int.natCast_add] at this) (by rwa [Int.natCast_add] at hR)
theorem Ev_subN (hx : od l x = some (.int k (a : Int))) (hy : od l y = some (.int k (b : Int))) (h : a < lim k) (hle : b ≤ a) (hR : R (.int k ((a - b : Nat) : Int)) S) : Ev X l S (.binOp .sub t x y u) R :=
  Ev_sub hx hy (by have := inR_nat (k := k) (a := a - b) (by omega); rwa [Int.natCast_sub hle] at this) (by rwa [Int.natCast_sub hle] at hR)
theorem Ev_mulN (hx : od l x = some (.int k (a : Int))) (hy : od l y = some (.int k (b : Int))) (h : a * b < lim k) (hR : R (.int k ((a * b : Nat) : Int)) S) : Ev X l S (.binOp .mul t x y u) R :=
  Ev_mul hx hy (by have := inR_nat h; rwa [Int.natCast_mul] at this) (by rwa [Int.natCast_mul] at hR)
theorem Ev_lssN (hx : od l x = some (.int k (a : Int))) (hy : od l y = some (.int k (b : Int))) (hR : R (.bool (decide (a < b))) S) : Ev X l S (.binOp .lss t x y u) R :=
  Ev_lss hx hy (by rwa [decide_eq_decide.2 (Int.ofNat_lt (n := a) (m := b))])
theorem Ev_leqN (hx : od l x = some (.int k (a : Int))) (hy : od l y = some (.int k (b : Int))) (hR : R (.bool (decide (a ≤ b))) S) : Ev X l S (.binOp .leq t x y u) R :=
  Ev_leq hx hy (by rwa [decide_eq_decide.2 (Int.ofNat_le (m := a) (n := b))])
theorem Ev_gtrN (hx : od l x = some (.int k (a : Int))) (hy : od l y = some (.int k (b : Int))) (hR : R (.bool (decide (b < a))) S) : Ev X l S (.binOp .gtr t x y u) R :=
  Ev_gtr hx hy (by rwa [decide_eq_decide.2 (Int.ofNat_lt (n := b) (m := a))])
theorem Ev_geqN (hx : od l x = some (.int k (a : Int))) (hy : od l y = some (.int k (b : Int))) (hR : R (.bool (decide (b ≤ a))) S) : Ev X l S (.binOp .geq t x y u) R :=
  Ev_geq hx hy (by rwa [decide_eq_decide.2 (Int.ofNat_le (m := b) (n := a))])
theorem Ev_eqlN (hx : od l x = some (.int k (a : Int))) (hy : od l y = some (.int k (b : Int))) (hR : R (.bool (decide (a = b))) S) : Ev X l S (.binOp .eql t x y u) R :=
  Ev_eql hx hy (by rwa [decide_eq_decide.2 (Int.ofNat_inj (m := a) (n := b))])
theorem Ev_neqN (hx : od l x = some (.int k (a : Int))) (hy : od l y = some (.int k (b : Int))) (hR : R (.bool (decide (a ≠ b))) S) : Ev X l S (.binOp .neq t x y u) R :=
  Ev_neq hx hy (by rwa [decide_eq_decide.2 (not_congr (Int.ofNat_inj (m := a) (n := b)))])
theorem Ev_shrN {k' : IntKind} {m q : Nat} (hx : od l x = some (.int k (a : Int))) (hy : od l y = some (.int k' ((m : Nat) : Int))) (hm : Nat.ble m k.bits = true) (hq : 2 ^ m = q) (hR : R (.int k ((a / q : Nat) : Int)) S) : Ev X l S (.binOp .shr t x y u) R :=
  Ev_shr hx hy hm hq (by rwa [Int.natCast_ediv] at hR)
theorem Ev_shlN {k' : IntKind} {m q : Nat} (hx : od l x = some (.int k (a : Int))) (hy : od l y = some (.int k' ((m : Nat) : Int))) (hm : Nat.ble m k.bits = true) (hq : 2 ^ m = q) (h : a * q < lim k) (hR : R (.int k ((a * q : Nat) : Int)) S) : Ev X l S (.binOp .shl t x y u) R :=
  Ev_shl hx hy hm hq (by have := inR_nat h; rwa [Int.natCast_mul] at this) (by rwa [Int.natCast_mul] at hR)
theorem Ev_andN {q : Nat} (m p : Nat) (hx : od l x = some (.int k (a : Int))) (hy : od l y = some (.int k (q : Int))) (hp : 2 ^ m = p) (hq : p = q + 1) (ha : a < lim k) (hq2 : q < lim k) (hR : R (.int k ((a % p : Nat) : Int)) S) : Ev X l S (.binOp .and t x y u) R :=
  Ev_ibin hx hy ⟨by simp, by simp⟩ (by
    subst hq
    have hq := hp
    unfold ibin; dsimp only
    rw [ibits_nat (f := Nat.land) (c := a % (q + 1)) ha hq2 (land_mask hq) (by have := Nat.mod_le a (q + 1); omega)]) hR
/-- an 'and' by a table of all bytes -/
theorem Ev_and8 {c q : Nat} (hx : od l x = some (.int .u8 (a : Int))) (hy : od l y = some (.int .u8 (q : Int))) (ha : a < 256) (hq : q < 256) (hc : Nat.land a q = c) (hc2 : c < 256) (hR : R (.int .u8 (c : Int)) S) : Ev X l S (.binOp .and t x y u) R :=
  Ev_ibin hx hy ⟨by simp, by simp⟩ (by unfold ibin; dsimp only; rw [ibits_nat (k := .u8) ha hq hc hc2]) hR
theorem Ev_orN (m : Nat) {q : Nat} (hx : od l x = some (.int k (a : Int))) (hy : od l y = some (.int k (b : Int))) (hq : 2 ^ m = q) (ha : a % q = 0) (hb : b < q) (h : a + b < lim k) (hR : R (.int k ((a + b : Nat) : Int)) S) : Ev X l S (.binOp .or t x y u) R :=
  Ev_ibin hx hy ⟨by simp, by simp⟩ (by
    unfold ibin; dsimp only
    rw [ibits_nat (f := Nat.lor) (c := a + b) (by omega) (by omega) (lor_add hq ha hb) h]) hR
theorem Ev_conv8 {s d : Nat} {di si : TI} (hx : od l x = some (.int k (a : Int))) (hs : X.ti s = some si) (hd : X.ti d = some di) (hsd : si.desc = .int k) (hdd : di.desc = .int .u8) (hR : R (.int .u8 ((a % 256 : Nat) : Int)) S) : Ev X l S (.convert s d x) R :=
  Ev_convw hx hs hd hsd hdd (by rw [wrp_u8]; exact hR)
theorem Ev_convN {s d : Nat} {k' : IntKind} {di si : TI} (hx : od l x = some (.int k (a : Int))) (hs : X.ti s = some si) (hd : X.ti d = some di) (hsd : si.desc = .int k) (hdd : di.desc = .int k') (h : a < lim k') (hR : R (.int k' (a : Int)) S) : Ev X l S (.convert s d x) R :=
  Ev_conv hx hs hd hsd hdd (inR_nat h) hR
section
variable {n : Nat} {ks : List Kt} {Q : Ex → Env → St → Prop} {all os : List Oper} {o : Oper}
theorem WO_guard_dt {j d0 : Nat} {q : Oper} {p : Prop} [Decidable p] {d : Nat} (hg : o.guard = some (j, true)) (hp : all[j]? = some q) (hd0 : q.dst = some d0) (hl : lk l d0 = some (.bool (decide p))) (hd : o.dst = some d) (hn : Nat.blt d n = true) (hn' : Nat.blt n 1000001 = true)
    (h1 : p → WO X n all ({ o with guard := none } :: os) ks Q ((d0, .bool true) :: l) S) (h2 : ¬ p → WO X n all os ks Q ((d, .tup []) :: (d0, .bool false) :: l) S) : WO X n all (o :: os) ks Q l S :=
  WO_guard hg hp hd0 hl hd hn hn' (fun h => h1 (of_decide_eq_true h)) (fun h => h2 (of_decide_eq_false h))
theorem WO_guard_df {j d0 : Nat} {q : Oper} {p : Prop} [Decidable p] {d : Nat} (hg : o.guard = some (j, false)) (hp : all[j]? = some q) (hd0 : q.dst = some d0) (hl : lk l d0 = some (.bool (decide p))) (hd : o.dst = some d) (hn : Nat.blt d n = true) (hn' : Nat.blt n 1000001 = true)
    (h1 : ¬ p → WO X n all ({ o with guard := none } :: os) ks Q ((d0, .bool false) :: l) S) (h2 : p → WO X n all os ks Q ((d, .tup []) :: (d0, .bool true) :: l) S) : WO X n all (o :: os) ks Q l S :=
  WO_guard hg hp hd0 hl hd hn hn' (fun h => h1 (of_decide_eq_false h)) (fun h => h2 (of_decide_eq_true h))
end
theorem Rd_lit {S : St} {q el sz m : Nat} {cs : List AV} {sp : Bool} {cap : Cap} (h : S.h.get q = some (.cells el cs sp)) (hm : cs.length = m * sz) (hc : capW (.slice q 0 m cap) sz = true) : Rd S (.slice q 0 m cap) sz cs m := by
  refine ⟨hc, veq_slice _ _ _ _, rfl, rfl, ?_, hm⟩
  unfold srcCells row; dsimp only; rw [h]; dsimp only
  rw [nble, decide_eq_true (by omega)]
  simp only [cond_true, List.drop_zero]; rw [List.take_of_length_le (by omega)]
theorem Own.eq {S : St} {v : AV} {el sz m m' : Nat} {cs cs' : List AV} (h : Own S v el sz cs m) (h1 : cs = cs') (h2 : m = m') : Own S v el sz cs' m' := by subst h1; subst h2; exact h
theorem Rd.eq {S : St} {v : AV} {sz m m' : Nat} {cs cs' : List AV} (h : Rd S v sz cs m) (h1 : cs = cs') (h2 : m = m') : Rd S v sz cs' m' := by subst h1; subst h2; exact h
theorem land_192 {a : Nat} (h : a < 256) : Nat.land a 192 = a / 64 * 64 := by
  have : ∀ a : Fin 256, Nat.land a.1 192 = a.1 / 64 * 64 := by decide +kernel
  exact this ⟨a, h⟩
theorem land_224 {a : Nat} (h : a < 256) : Nat.land a 224 = a / 32 * 32 := by
  have : ∀ a : Fin 256, Nat.land a.1 224 = a.1 / 32 * 32 := by decide +kernel
  exact this ⟨a, h⟩
theorem land_240 {a : Nat} (h : a < 256) : Nat.land a 240 = a / 16 * 16 := by
  have : ∀ a : Fin 256, Nat.land a.1 240 = a.1 / 16 * 16 := by decide +kernel
  exact this ⟨a, h⟩
theorem Rd.cell {S : St} {b o m sz : Nat} {cap : Cap} {cs : List AV} (h : Rd S (.slice b o m cap) sz cs m) : ∃ ty cs0 sp, S.h.get b = some (.cells ty cs0 sp) ∧ o + cs.length ≤ cs0.length ∧ ∀ i, i < cs.length → cs0[o + i]? = cs[i]? := by
  have h1 : row S.h b o (m * sz) = some cs := h.cells
  unfold row at h1
  split at h1
  · rename_i ty cs0 sp hb
    rw [nble, cond_dec] at h1
    split at h1
    · rename_i hle
      cases h1
      have hl : ((cs0.drop o).take (m * sz)).length = m * sz := by simp; omega
      refine ⟨ty, cs0, sp, hb, by rw [hl]; exact hle, fun i hi => ?_⟩
      rw [hl] at hi
      rw [List.getElem?_take, if_pos hi, List.getElem?_drop]
    · cases h1
  · cases h1
/-- a pointer into cells that may be read -/
def Pt (S : St) (p : AV) (cs : List AV) (o : Nat) : Prop :=
  (∃ b o0 ty cs0 sp, p = .ptr b (o0 + o) ∧ S.h.get b = some (.cells ty cs0 sp) ∧ o0 + cs.length ≤ cs0.length ∧ ∀ i, i < cs.length → cs0[o0 + i]? = cs[i]?) ∨ p = .rptr cs o
theorem Pt.keep {S S' : St} {p : AV} {cs : List AV} {o : Nat} (h : Pt S p cs o) (hk : ∀ b, blkOf p = some b → S'.h.get b = S.h.get b) : Pt S' p cs o := by
  rcases h with ⟨b, o0, ty, cs0, sp, h1, h2, h3⟩ | h
  · exact .inl ⟨b, o0, ty, cs0, sp, h1, by rw [hk b (by rw [h1]; rfl)]; exact h2, h3⟩
  · exact .inr h
theorem drop_take_eq {cs0 cs : List AV} {o0 o n : Nat} (h2 : ∀ i, i < cs.length → cs0[o0 + i]? = cs[i]?) (h3 : o + n ≤ cs.length) : (cs0.drop (o0 + o)).take n = (cs.drop o).take n := by
  apply List.ext_getElem?
  intro i
  rw [List.getElem?_take, List.getElem?_take]
  split
  · rw [List.getElem?_drop, List.getElem?_drop, Nat.add_assoc]
    exact h2 (o + i) (by omega)
  · rfl
section
variable {X : _root_.GX.X} {l : L} {S : St} {R : AV → St → Prop} {t : Nat} {x y : Operand}
theorem Ev_indexAddr_rd {v : AV} {k : IntKind} {i m : Nat} {ti ei : TI} {el : Nat} {cs : List AV} (hy : od l y = some (.int k ((i : Nat) : Int))) (hx : od l x = some v) (hi : X.ti t = some ti) (hd : ti.desc = .slice el) (he' : X.ti el = some ei) (hrd : Rd S v ei.size cs m) (hlt : i < m)
    (hR : ∀ p, Pt S p cs (i * ei.size) → R p S) : Ev X l S (.indexAddr t x y) R := by
  have hc := hrd.cells
  have hl := hrd.len
  cases v with
  | slice b o n cap =>
    cases hl
    obtain ⟨ty, cs0, sp, h1, h2, h3⟩ := hrd.cell
    exact Ev_indexAddr hy hx hi hd he' hlt (hR _ (.inl ⟨b, o, ty, cs0, sp, rfl, h1, h2, h3⟩))
  | rsl cs0 n z =>
    cases hl
    have hz : z = ei.size ∧ cs0.length = m * z := by have := hrd.cap; simpa [capW] using this
    obtain ⟨hz, hl0⟩ := hz
    subst hz
    have hcs : cs = cs0 := by
      unfold srcCells at hc; dsimp only at hc
      rw [nbeq, nble, ← Bool.decide_and, cond_dec] at hc
      split at hc
      · cases hc; rw [List.take_of_length_le (by omega)]
      · cases hc
    subst hcs
    refine Ev_pure (v := .rptr cs (i * ei.size)) (fun e he => ⟨rfl, ?_⟩) (hR _ (.inr rfl))
    unfold pureOp; dsimp only; rw [od_ok he hy]; show (match opd e x with | some (.slice b o len _) => _ | some (.rsl cs len sz) => _ | _ => none) = _
    rw [od_ok he hx]; dsimp only; rw [hi]; dsimp only; rw [hd]; dsimp only; rw [he']; dsimp only; rw [nblt, nbeq, decide_eq_true hlt, decide_eq_true rfl]; rfl
  | nils => cases hl; omega
  | emp => cases hl; omega
  | _ => cases hl
theorem Ev_load_pt {p : AV} {o : Nat} {i : TI} {cs : List AV} {v : AV} (hx : od l x = some p) (hi : X.ti t = some i) (hag : aggD i.desc = false) (hp : Pt S p cs o) (hv : cs[o]? = some v) (hvv : veq v v = true) (hR : R v S) : Ev X l S (.load t x) R := by
  have hlt := (List.getElem?_eq_some_iff.1 hv).1
  rcases hp with ⟨b, o0, ty, cs0, sp, rfl, h2, h3, h4⟩ | rfl
  · exact Ev_load hx hi hag h2 (by rw [h4 o hlt]; exact hv) hvv hR
  · refine Ev_read (fun e he => ⟨rfl, ?_⟩) hvv hR
    unfold readOp; dsimp only; rw [od_ok he hx]; dsimp only; unfold loadR; rw [hi]; dsimp only
    split
    · rename_i h; rw [h] at hag; cases hag
    · rename_i h; rw [h] at hag; cases hag
    · exact hv
theorem Ev_load_pt_agg {p : AV} {o : Nat} {i : TI} {cs ds : List AV} (hx : od l x = some p) (hi : X.ti t = some i) (hag : aggD i.desc = true) (hp : Pt S p cs o) (hle : o + i.size ≤ cs.length) (hv : (cs.drop o).take i.size = ds) (hvv : veqs ds ds = true) (hR : R (.agg ds) S) : Ev X l S (.load t x) R := by
  rcases hp with ⟨b, o0, ty, cs0, sp, rfl, h2, h3, h4⟩ | rfl
  · exact Ev_load_agg hx hi hag h2 (by omega) (by rw [drop_take_eq h4 hle]; exact hv) hvv hR
  · refine Ev_read (v := .agg ds) (fun e he => ⟨rfl, ?_⟩) (by unfold veq; exact hvv) hR
    unfold readOp; dsimp only; rw [od_ok he hx]; dsimp only; unfold loadR; rw [hi]; dsimp only
    split
    · rw [nble, decide_eq_true hle]; simp only [cond_true]; rw [hv]
    · rw [nble, decide_eq_true hle]; simp only [cond_true]; rw [hv]
    · rename_i h1 h2
      cases hd : i.desc with
      | struct f => exact absurd hd (h1 f)
      | array a b => exact absurd hd (h2 a b)
      | _ => rw [hd] at hag; cases hag
theorem Ev_fieldAddr_pt {p : AV} {f o : Nat} {i fi : TI} {fs : Array Field} {fd : Field} {cs : List AV} (hx : od l x = some p) (hi : X.ti t = some i) (hd : i.desc = .struct fs) (hf : fs.toList[f]? = some fd) (hfi : X.ti fd.type = some fi) (hz : Nat.beq fi.size 0 = false) (hp : Pt S p cs o)
    (hR : ∀ p', Pt S p' cs (o + fd.offset) → R p' S) : Ev X l S (.fieldAddr t x f) R := by
  rcases hp with ⟨b, o0, ty, cs0, sp, rfl, h2, h3, h4⟩ | rfl
  · exact Ev_fieldAddr hx hi hd hf hfi hz (hR _ (.inl ⟨b, o0, ty, cs0, sp, by rw [Nat.add_assoc], h2, h3, h4⟩))
  · exact Ev_pure (fun e he => ⟨rfl, by unfold pureOp; dsimp only; rw [od_ok he hx]; dsimp only; rw [hi]; dsimp only; rw [hd]; dsimp only; rw [hf]; dsimp only; rw [hfi]; dsimp only; rw [hz]; rfl⟩) (hR _ (.inr rfl))
end
theorem veqs_sbytes : ∀ (l : List Nat), veqs (sbytes l) (sbytes l) = true
  | [] => rfl
  | a :: l => by
    show veqs (AV.int .u8 (.ofNat a) :: sbytes l) (AV.int .u8 (.ofNat a) :: sbytes l) = true
    simp only [veqs, veqs_sbytes l, veq, ieq_eq]; simp
/-- bytes that came in -/
theorem Rd_rsl (S : St) (l : List Nat) : Rd S (.rsl (sbytes l) l.length 1) 1 (sbytes l) l.length := by
  refine ⟨by simp [capW, sbytes], by simp [veq, veqs_sbytes], rfl, rfl, ?_, by simp [sbytes]⟩
  unfold srcCells; dsimp only
  rw [nble, decide_eq_true (by simp [sbytes])]
  simp only [nbeq, decide_true, Bool.true_and, cond_true]
  rw [List.take_of_length_le (by simp [sbytes])]
theorem sbytes_get {l : List Nat} {i : Nat} (h : i < l.length) : (sbytes l)[i]? = some (.int .u8 ((l.getD i 0 : Nat) : Int)) := by
  unfold sbytes
  rw [List.getElem?_map, List.getElem?_eq_getElem h, List.getD_eq_getElem?_getD, List.getElem?_eq_getElem h]; rfl
theorem getD_lt {l : List Nat} {i n : Nat} (h : ∀ c ∈ l, c < n) (hn : 0 < n) : l.getD i 0 < n := by
  rw [List.getD_eq_getElem?_getD]
  cases hi : l[i]? with
  | none => exact hn
  | some c => exact h c (List.mem_of_getElem? hi)
theorem veq_int (k : IntKind) (n : Int) : veq (.int k n) (.int k n) = true := by simp [veq, ieq_eq]
theorem veq_str (s : List Nat) : veq (.str s) (.str s) = true := by simp [veq, seq_eq]
theorem veq_ptr (b o : Nat) : veq (.ptr b o) (.ptr b o) = true := by simp [veq]
theorem sbytes_app (a b : List Nat) : sbytes (a ++ b) = sbytes a ++ sbytes b := List.map_append
theorem sbytes_len (a : List Nat) : (sbytes a).length = a.length := List.length_map _
theorem sbytes_one (a : List Nat) : (sbytes a).all AV.one = true := by
  apply List.all_eq_true.2; intro x hx; obtain ⟨c, _, rfl⟩ := List.mem_map.1 hx; rfl
end
end
end GX
/- GX: from a run of the machine to a call in the model: begun on an empty heap. -/


namespace GX
open Go
section
variable {P : Program} {X : X}
theorem Runs_true [Val] (hX : XOK P X) (hx : ∀ f g, X.ext f = some g → ExtOK P f g) {f : Nat} {args : List AV} {vs : Array Value} (hext : X.ext f = none) (h : Runs X f args { h := .leaf, n := 0 } fun v _ => v = .bool true) (hv : vrels φ0 args vs.toList) (w : World) (hro : ∀ g o, Val.ro g = some o → w.heap[g]? = some o) :
    Calls P f vs w fun e w' => e = .returned (.bool true) ∧ Go.RowKit.Below w.heap.size w w' := by
  obtain ⟨fuel, v, S', h1, _, rfl⟩ := h.elim
  exact calls_true (fuel := fuel) hX hx hext (by rw [h1]) hv w hro
theorem Sok_leaf : Sok { h := .leaf, n := 0 } := by intro c x h; simp [Tr.get] at h
end
end GX
/- The machine GX over this seat's program, with its types' table in full. No condition. -/


namespace Go.Proofs.Ytjbpegggfacojaa
open GX
def TT : List (Option TI) := [
  none,
  none,
  some ⟨1, 8, .int .i64, [.int .i64 0]⟩,
  some ⟨1, 8, .int .i64, [.int .i64 0]⟩,
  some ⟨1, 1, .bool, [.bool false]⟩,
  some ⟨1, 1, .int .u8, [.int .u8 0]⟩,
  some ⟨1, 1, .int .u8, [.int .u8 0]⟩,
  some ⟨4, 24, .struct #[⟨"x", 2, 0, false, "", "runtime", 0⟩, ⟨"y", 3, 1, false, "", "runtime", 8⟩, ⟨"signed", 4, 2, false, "", "runtime", 16⟩, ⟨"code", 6, 3, false, "", "runtime", 17⟩], [.int .i64 0, .int .i64 0, .bool false, .int .u8 0]⟩,
  some ⟨4, 24, .struct #[⟨"x", 2, 0, false, "", "runtime", 0⟩, ⟨"y", 3, 1, false, "", "runtime", 8⟩, ⟨"signed", 4, 2, false, "", "runtime", 16⟩, ⟨"code", 6, 3, false, "", "runtime", 17⟩], [.int .i64 0, .int .i64 0, .bool false, .int .u8 0]⟩,
  some ⟨1, 16, .string, [.str []]⟩,
  some ⟨1, 16, .string, [.str []]⟩,
  some ⟨1, 16, .string, [.str []]⟩,
  some ⟨1, 8, .int .u64, [.int .u64 0]⟩,
  some ⟨2, 24, .struct #[⟨"msg", 9, 0, false, "", "runtime", 0⟩, ⟨"addr", 12, 1, false, "", "runtime", 16⟩], [.str [], .int .u64 0]⟩,
  some ⟨2, 24, .struct #[⟨"msg", 9, 0, false, "", "runtime", 0⟩, ⟨"addr", 12, 1, false, "", "runtime", 16⟩], [.str [], .int .u64 0]⟩,
  some ⟨1, 8, .pointer 105, [.nilp]⟩,
  some ⟨1, 8, .pointer 108, [.nilp]⟩,
  some ⟨1, 8, .pointer 118, [.nilp]⟩,
  some ⟨1, 8, .struct #[⟨"typ", 17, 0, false, "", "internal/runtime/maps", 0⟩], [.nilp]⟩,
  some ⟨1, 8, .struct #[⟨"typ", 17, 0, false, "", "internal/runtime/maps", 0⟩], [.nilp]⟩,
  none,
  some ⟨1, 4, .int .i32, [.int .i32 0]⟩,
  some ⟨1, 8, .pointer 57, [.nilp]⟩,
  none,
  none,
  some ⟨1, 8, .int .i64, [.int .i64 0]⟩,
  none,
  none,
  none,
  none,
  none,
  none,
  none,
  none,
  none,
  none,
  none,
  some ⟨1, 24, .slice 41, [.nils]⟩,
  some ⟨1, 8, .pointer 81, [.nilp]⟩,
  none,
  some ⟨6, 64, .struct #[⟨"Kind", 3, 0, false, "", "", 0⟩, ⟨"N", 3, 1, false, "", "", 8⟩, ⟨"M", 3, 2, false, "", "", 16⟩, ⟨"Id", 3, 3, false, "", "", 24⟩, ⟨"Name", 9, 4, false, "", "", 32⟩, ⟨"Super", 9, 5, false, "", "", 48⟩], [.int .i64 0, .int .i64 0, .int .i64 0, .int .i64 0, .str [], .str []]⟩,
  some ⟨6, 64, .struct #[⟨"Kind", 3, 0, false, "", "", 0⟩, ⟨"N", 3, 1, false, "", "", 8⟩, ⟨"M", 3, 2, false, "", "", 16⟩, ⟨"Id", 3, 3, false, "", "", 24⟩, ⟨"Name", 9, 4, false, "", "", 32⟩, ⟨"Super", 9, 5, false, "", "", 48⟩], [.int .i64 0, .int .i64 0, .int .i64 0, .int .i64 0, .str [], .str []]⟩,
  none,
  none,
  none,
  none,
  none,
  none,
  none,
  none,
  some ⟨1, 24, .slice 52, [.nils]⟩,
  some ⟨3, 32, .struct #[⟨"n", 3, 0, false, "", "carafe/carafelaw15", 0⟩, ⟨"id", 3, 1, false, "", "carafe/carafelaw15", 8⟩, ⟨"name", 9, 2, false, "", "carafe/carafelaw15", 16⟩], [.int .i64 0, .int .i64 0, .str []]⟩,
  some ⟨3, 32, .struct #[⟨"n", 3, 0, false, "", "carafe/carafelaw15", 0⟩, ⟨"id", 3, 1, false, "", "carafe/carafelaw15", 8⟩, ⟨"name", 9, 2, false, "", "carafe/carafelaw15", 16⟩], [.int .i64 0, .int .i64 0, .str []]⟩,
  some ⟨1, 8, .map 76 3, [.nilm]⟩,
  some ⟨1, 24, .slice 68, [.nils]⟩,
  some ⟨1, 24, .slice 3, [.nils]⟩,
  some ⟨4, 80, .struct #[⟨"l", 54, 0, false, "", "carafe/loader", 0⟩, ⟨"keys", 53, 1, false, "", "carafe/loader", 24⟩, ⟨"parents", 55, 2, false, "", "carafe/loader", 32⟩, ⟨"ids", 55, 3, false, "", "carafe/loader", 56⟩], [.nils, .nilm, .nils, .nils]⟩,
  some ⟨4, 80, .struct #[⟨"l", 54, 0, false, "", "carafe/loader", 0⟩, ⟨"keys", 53, 1, false, "", "carafe/loader", 24⟩, ⟨"parents", 55, 2, false, "", "carafe/loader", 32⟩, ⟨"ids", 55, 3, false, "", "carafe/loader", 56⟩], [.nils, .nilm, .nils, .nils]⟩,
  none,
  none,
  none,
  some ⟨2, 24, .struct #[⟨"super", 9, 0, false, "", "carafe/loader", 0⟩, ⟨"id", 3, 1, false, "", "carafe/loader", 16⟩], [.str [], .int .i64 0]⟩,
  some ⟨2, 24, .struct #[⟨"super", 9, 0, false, "", "carafe/loader", 0⟩, ⟨"id", 3, 1, false, "", "carafe/loader", 16⟩], [.str [], .int .i64 0]⟩,
  none,
  some ⟨1, 8, .map 9 62, [.nilm]⟩,
  some ⟨1, 8, .map 9 70, [.nilm]⟩,
  some ⟨3, 24, .struct #[⟨"parent", 3, 0, false, "", "carafe/loader", 0⟩, ⟨"offers", 64, 1, false, "", "carafe/loader", 8⟩, ⟨"loaded", 65, 2, false, "", "carafe/loader", 16⟩], [.int .i64 0, .nilm, .nilm]⟩,
  some ⟨3, 24, .struct #[⟨"parent", 3, 0, false, "", "carafe/loader", 0⟩, ⟨"offers", 64, 1, false, "", "carafe/loader", 8⟩, ⟨"loaded", 65, 2, false, "", "carafe/loader", 16⟩], [.int .i64 0, .nilm, .nilm]⟩,
  some ⟨1, 8, .pointer 67, [.nilp]⟩,
  some ⟨2, 16, .struct #[⟨"id", 3, 0, false, "", "carafe/loader", 0⟩, ⟨"by", 3, 1, false, "", "carafe/loader", 8⟩], [.int .i64 0, .int .i64 0]⟩,
  some ⟨2, 16, .struct #[⟨"id", 3, 0, false, "", "carafe/loader", 0⟩, ⟨"by", 3, 1, false, "", "carafe/loader", 8⟩], [.int .i64 0, .int .i64 0]⟩,
  none,
  none,
  none,
  none,
  some ⟨2, 24, .struct #[⟨"n", 3, 0, false, "", "carafe/loader", 0⟩, ⟨"name", 9, 1, false, "", "carafe/loader", 8⟩], [.int .i64 0, .str []]⟩,
  some ⟨2, 24, .struct #[⟨"n", 3, 0, false, "", "carafe/loader", 0⟩, ⟨"name", 9, 1, false, "", "carafe/loader", 8⟩], [.int .i64 0, .str []]⟩,
  some ⟨1, 24, .slice 87, [.nils]⟩,
  some ⟨1, 24, .slice 101, [.nils]⟩,
  some ⟨1, 24, .slice 93, [.nils]⟩,
  some ⟨4, 96, .struct #[⟨"parent", 55, 0, false, "", "carafe/caraferef15", 0⟩, ⟨"offers", 77, 1, false, "", "carafe/caraferef15", 24⟩, ⟨"done", 78, 2, false, "", "carafe/caraferef15", 48⟩, ⟨"pacts", 79, 3, false, "", "carafe/caraferef15", 72⟩], [.nils, .nils, .nils, .nils]⟩,
  some ⟨4, 96, .struct #[⟨"parent", 55, 0, false, "", "carafe/caraferef15", 0⟩, ⟨"offers", 77, 1, false, "", "carafe/caraferef15", 24⟩, ⟨"done", 78, 2, false, "", "carafe/caraferef15", 48⟩, ⟨"pacts", 79, 3, false, "", "carafe/caraferef15", 72⟩], [.nils, .nils, .nils, .nils]⟩,
  some ⟨1, 24, .slice 9, [.nils]⟩,
  some ⟨3, 40, .struct #[⟨"name", 9, 0, false, "", "carafe/caraferef15", 0⟩, ⟨"super", 9, 1, false, "", "carafe/caraferef15", 16⟩, ⟨"id", 3, 2, false, "", "carafe/caraferef15", 32⟩], [.str [], .str [], .int .i64 0]⟩,
  some ⟨3, 40, .struct #[⟨"name", 9, 0, false, "", "carafe/caraferef15", 0⟩, ⟨"super", 9, 1, false, "", "carafe/caraferef15", 16⟩, ⟨"id", 3, 2, false, "", "carafe/caraferef15", 32⟩], [.str [], .str [], .int .i64 0]⟩,
  none,
  none,
  some ⟨1, 24, .slice 84, [.nils]⟩,
  none,
  none,
  some ⟨1, 24, .slice 4, [.nils]⟩,
  none,
  some ⟨3, 32, .struct #[⟨"a", 3, 0, false, "", "carafe/caraferef15", 0⟩, ⟨"b", 3, 1, false, "", "carafe/caraferef15", 8⟩, ⟨"name", 9, 2, false, "", "carafe/caraferef15", 16⟩], [.int .i64 0, .int .i64 0, .str []]⟩,
  some ⟨3, 32, .struct #[⟨"a", 3, 0, false, "", "carafe/caraferef15", 0⟩, ⟨"b", 3, 1, false, "", "carafe/caraferef15", 8⟩, ⟨"name", 9, 2, false, "", "carafe/caraferef15", 16⟩], [.int .i64 0, .int .i64 0, .str []]⟩,
  some ⟨3, 32, .struct #[⟨"name", 9, 0, false, "", "carafe/caraferef15", 0⟩, ⟨"id", 3, 1, false, "", "carafe/caraferef15", 16⟩, ⟨"who", 3, 2, false, "", "carafe/caraferef15", 24⟩], [.str [], .int .i64 0, .int .i64 0]⟩,
  some ⟨3, 32, .struct #[⟨"name", 9, 0, false, "", "carafe/caraferef15", 0⟩, ⟨"id", 3, 1, false, "", "carafe/caraferef15", 16⟩, ⟨"who", 3, 2, false, "", "carafe/caraferef15", 24⟩], [.str [], .int .i64 0, .int .i64 0]⟩,
  none,
  none,
  none,
  none,
  none,
  some ⟨1, 24, .slice 95, [.nils]⟩,
  none,
  none,
  some ⟨4, 40, .struct #[⟨"_interface", 17, 0, false, "", "runtime", 0⟩, ⟨"concrete", 17, 1, false, "", "runtime", 8⟩, ⟨"asserted", 17, 2, false, "", "runtime", 16⟩, ⟨"missingMethod", 9, 3, false, "", "runtime", 24⟩], [.nilp, .nilp, .nilp, .str []]⟩,
  some ⟨4, 40, .struct #[⟨"_interface", 17, 0, false, "", "runtime", 0⟩, ⟨"concrete", 17, 1, false, "", "runtime", 8⟩, ⟨"asserted", 17, 2, false, "", "runtime", 16⟩, ⟨"missingMethod", 9, 3, false, "", "runtime", 24⟩], [.nilp, .nilp, .nilp, .str []]⟩,
  some ⟨0, 0, .array 0 16, []⟩,
  some ⟨0, 0, .struct #[⟨"_", 106, 0, false, "", "runtime", 0⟩], []⟩,
  some ⟨0, 0, .struct #[⟨"_", 106, 0, false, "", "runtime", 0⟩], []⟩,
  none,
  some ⟨1, 4, .int .u32, [.int .u32 0]⟩,
  some ⟨1, 1, .int .u8, [.int .u8 0]⟩,
  some ⟨1, 1, .int .u8, [.int .u8 0]⟩,
  none,
  some ⟨1, 8, .pointer 5, [.nilp]⟩,
  some ⟨1, 4, .int .i32, [.int .i32 0]⟩,
  some ⟨1, 4, .int .i32, [.int .i32 0]⟩,
  some ⟨11, 48, .struct #[⟨"Size_", 12, 0, false, "", "", 0⟩, ⟨"PtrBytes", 12, 1, false, "", "", 8⟩, ⟨"Hash", 110, 2, false, "", "", 16⟩, ⟨"TFlag", 111, 3, false, "", "", 20⟩, ⟨"Align_", 5, 4, false, "", "", 21⟩, ⟨"FieldAlign_", 5, 5, false, "", "", 22⟩, ⟨"Kind_", 112, 6, false, "", "", 23⟩, ⟨"Equal", 113, 7, false, "", "", 24⟩, ⟨"GCData", 114, 8, false, "", "", 32⟩, ⟨"Str", 115, 9, false, "", "", 40⟩, ⟨"PtrToThis", 116, 10, false, "", "", 44⟩], [.int .u64 0, .int .u64 0, .int .u32 0, .int .u8 0, .int .u8 0, .int .u8 0, .int .u8 0, .nilf, .nilp, .int .i32 0, .int .i32 0]⟩,
  some ⟨11, 48, .struct #[⟨"Size_", 12, 0, false, "", "", 0⟩, ⟨"PtrBytes", 12, 1, false, "", "", 8⟩, ⟨"Hash", 110, 2, false, "", "", 16⟩, ⟨"TFlag", 111, 3, false, "", "", 20⟩, ⟨"Align_", 5, 4, false, "", "", 21⟩, ⟨"FieldAlign_", 5, 5, false, "", "", 22⟩, ⟨"Kind_", 112, 6, false, "", "", 23⟩, ⟨"Equal", 113, 7, false, "", "", 24⟩, ⟨"GCData", 114, 8, false, "", "", 32⟩, ⟨"Str", 115, 9, false, "", "", 40⟩, ⟨"PtrToThis", 116, 10, false, "", "", 44⟩], [.int .u64 0, .int .u64 0, .int .u32 0, .int .u8 0, .int .u8 0, .int .u8 0, .int .u8 0, .nilf, .nilp, .int .i32 0, .int .i32 0]⟩,
  none]
set_option maxRecDepth 1000000
theorem tt_eq : TT = (List.range 120).map (fun t => bif (TT.getD t none).isSome then mkTI Try.prog t else none) := by kernel_rfl
/-- a function without arguments that answers true -/
def extTrue (args : List AV) (S : St) : Option (AV × St) := match args with | [] => some (.bool true, S) | _ => none
theorem extTrue_ok [Val] {P : Program} {f : FuncId} {fn : Func} (hf : P.funcs[f]? = some fn) (hname : (fn.name == "runtime.NumGoroutine") = false) (hb : fn.body.isNone = false)
    (calls : ∀ (w : World), (∀ g o, Val.ro g = some o → w.heap[g]? = some o) → Calls P f #[] w fun e w' => e = .returned (.bool true) ∧ Go.RowKit.Below w.heap.size w w') : ExtOK P f extTrue := by
  intro args S r S' h
  unfold extTrue at h
  split at h
  · simp only [Option.some.injEq, Prod.mk.injEq] at h
    obtain ⟨rfl, rfl⟩ := h
    refine ⟨Nat.le_refl _, ?_⟩
    intro φ w vs hv hw _
    simp only [vrels] at hv
    have hvs : vs = #[] := by apply Array.ext'; simpa using hv
    subst hvs
    intro od a0 next Q hq
    have hrun : ∀ vs, (callFunc f vs).run P w = .ok (.enter f vs) w := by
      intro vs; simp only [callFunc, hf, hname, hb, Sem.run_bind, run_program, Result.andThen]; rfl
    rw [hrun]
    show Calls P f _ w _
    refine (calls w fun g o ho => (hw.ro g o ho).1).mono ?_
    rintro e w' ⟨rfl, hbw⟩
    obtain ⟨p1, p2⟩ := kept_below (n := S.n) hw hbw
    exact hq _ _ ⟨φ, rfl, p1, p2⟩
  · cases h
set_option maxRecDepth 1000000 in
theorem said13 : says 13 [] = true := by kernel_rfl
def ext1 (f : Nat) : Option (List AV → St → Option (AV × St)) := bif Nat.beq f 13 then some extTrue else none
noncomputable def X1 : X := { ti := fun t => TT.getD t none, fn := fun f => Try.prog.funcs[f]?, eqs := eqs0, ext := ext1 }
theorem xok1 [Val] : XOK Try.prog X1 where
  ti := fun t i h => by
    have h : TT.getD t none = some i := h
    have h2 := congrArg (fun l => l.getD t none) tt_eq
    rw [h, List.getD_eq_getElem?_getD, List.getElem?_map] at h2
    by_cases ht : t < 120
    · rw [List.getElem?_range ht] at h2
      simp only [Option.map_some, Option.getD_some] at h2
      rw [List.getD_eq_getElem?_getD] at h
      simp only [List.getD_eq_getElem?_getD, h, Option.isSome_some, cond_true] at h2
      exact mkTI_ok h2.symm
    · rw [List.getElem?_eq_none (by simpa using ht)] at h2
      simp at h2
  fn := fun f F h => h
  gor := fun F hF => by
    have := List.all_eq_true.1 gor F (by simpa using hF)
    simpa using this
  mixed := mixed
  eqs := fun t h => by
    have h1 : eqs0 t = true := h
    simpa [eqs0] using h1
theorem ext1_ok [Val] : ∀ f g, X1.ext f = some g → ExtOK Try.prog f g := by
  intro f g h
  by_cases h13 : f = 13
  · subst h13; cases h; exact extTrue_ok Try.func13 (by kernel_rfl) (by kernel_rfl) (fun w h => says_calls 13 [] #[] rfl said13 (fun _ => rfl) w)
  have h' : ext1 f = some g := h
  simp [ext1, nbeq, h13] at h'
end Go.Proofs.Ytjbpegggfacojaa
/- Texts as runes, and their bytes in mutf: plain definitions. -/

namespace Go.Proofs.Ytjbpegggfacojaa
open GX
theorem dec_pos (l : List Nat) : 1 ≤ (decodeR l).2 := by
  unfold decodeR
  split
  · exact Nat.le_refl _
  · dsimp only
    repeat' split
    all_goals simp
theorem dec_lt (l : List Nat) : (decodeR l).1 < 1114112 := by
  unfold decodeR
  split
  · simp [Utf8.runeError]
  · dsimp only
    split
    · rename_i h; dsimp only; omega
    · split
      · split
        · dsimp only; omega
        · simp [Utf8.runeError]
      · split
        · split
          · dsimp only; omega
          · simp [Utf8.runeError]
        · split
          · split
            · rename_i h
              simp only [Bool.and_eq_true, Utf8.valid] at h
              dsimp only
              simp at h ⊢
              omega
            · simp [Utf8.runeError]
          · simp [Utf8.runeError]
theorem cont_len {l : List Nat} {k : Nat} (h : (l.getD k 0 / 64 == 2) = true) : k < l.length := by
  rcases Nat.lt_or_ge k l.length with hk | hk
  · exact hk
  · rw [List.getD_eq_getElem?_getD, List.getElem?_eq_none hk] at h; cases h
theorem dec_le {l : List Nat} (h : l ≠ []) : (decodeR l).2 ≤ l.length := by
  cases l with
  | nil => exact absurd rfl h
  | cons b t =>
    unfold decodeR
    dsimp only
    split
    · simp
    · split
      · rename_i h1
        simp only [Bool.and_eq_true] at h1
        have := cont_len h1.2
        split <;> simp <;> omega
      · split
        · rename_i h1
          simp only [Bool.and_eq_true] at h1
          have := cont_len h1.2
          split <;> simp <;> omega
        · split
          · rename_i h1
            simp only [Bool.and_eq_true] at h1
            have := cont_len h1.2
            split <;> simp <;> omega
          · simp
/-- the runes of a text -/
def runesS (l : List Nat) : List Nat :=
  match l with
  | [] => []
  | b :: t => (decodeR (b :: t)).1 :: runesS ((b :: t).drop (decodeR (b :: t)).2)
termination_by l.length
decreasing_by have := dec_pos (b :: t); simp only [List.length_drop, List.length_cons]; omega
theorem runesS_nil : runesS [] = [] := by unfold runesS; rfl
theorem runesS_ne {l : List Nat} (h : l ≠ []) : runesS l = (decodeR l).1 :: runesS (l.drop (decodeR l).2) := by
  cases l with
  | nil => exact absurd rfl h
  | cons b t => rw [runesS]
theorem runesS_lt {l : List Nat} : ∀ c ∈ runesS l, c < 1114112 := by
  induction l using runesS.induct with
  | case1 => rw [runesS_nil]; simp
  | case2 b t ih =>
    rw [runesS_ne (by simp)]
    intro c hc
    rcases List.mem_cons.1 hc with h | h
    · rw [h]; exact dec_lt _
    · exact ih c h
theorem runesS_len {l : List Nat} : (runesS l).length ≤ l.length := by
  induction l using runesS.induct with
  | case1 => rw [runesS_nil]; simp
  | case2 b t ih =>
    rw [runesS_ne (by simp)]
    have := dec_pos (b :: t)
    simp only [List.length_cons, List.length_drop] at ih ⊢
    omega
theorem runesFrom_eq {n : Nat} {l : List Nat} (h : l.length ≤ n) : runesFrom n l = (runesS l).map fun c => .int .i32 ((c : Nat) : Int) := by
  induction n generalizing l with
  | zero => cases List.eq_nil_of_length_eq_zero (Nat.le_zero.1 h); rw [runesS_nil]; rfl
  | succ n ih =>
    cases l with
    | nil => rw [runesS_nil]; rfl
    | cons b t =>
      rw [runesS_ne (by simp)]
      unfold runesFrom
      dsimp only
      rw [ih (by have := dec_pos (b :: t); simp only [List.length_cons, List.length_drop] at h ⊢; omega)]
      rfl
def unitL (r : Nat) : List Nat :=
  if 0 < r ∧ r < 128 then [r] else if r < 2048 then [192 + r / 64, 128 + r % 64] else [224 + r / 4096, 128 + r / 64 % 64, 128 + r % 64]
def enc1 (r : Nat) : List Nat :=
  if 65535 < r then unitL (55296 + (r - 65536) / 1024) ++ unitL (56320 + (r - 65536) % 1024) else unitL r
/-- a text's bytes in mutf -/
def encS (l : List Nat) : List Nat := (runesS l).flatMap enc1
theorem encS_nil : encS [] = [] := by unfold encS; rw [runesS_nil]; rfl
theorem encS_ne {l : List Nat} (h : l ≠ []) : encS l = enc1 (decodeR l).1 ++ encS (l.drop (decodeR l).2) := by
  unfold encS; rw [runesS_ne h]; rfl
theorem unitL_len (r : Nat) : (unitL r).length ≤ 3 := by unfold unitL; (repeat' split) <;> simp
theorem enc1_len (r : Nat) : (enc1 r).length ≤ 6 := by
  unfold enc1
  split
  · have h1 := unitL_len (55296 + (r - 65536) / 1024); have h2 := unitL_len (56320 + (r - 65536) % 1024); simp only [List.length_append]; omega
  · have := unitL_len r; omega
theorem encS_len (l : List Nat) : (encS l).length ≤ 6 * l.length := by
  induction l using runesS.induct with
  | case1 => rw [encS_nil]; simp
  | case2 b t ih =>
    rw [encS_ne (by simp)]
    have := dec_pos (b :: t)
    have := enc1_len (decodeR (b :: t)).1
    simp only [List.length_cons, List.length_drop, List.length_append] at ih ⊢
    omega
/-! memory -/
/-- a slice of bytes of its own -/
abbrev Ow (S : St) (v : AV) (l : List Nat) : Prop := Own S v 5 1 (sbytes l) l.length
/-- what a run leaves as it was: the blocks below the number, but one slice's -/
structure Fr (S S' : St) (v : AV) (k : Nat) : Prop where
  le : S.n ≤ S'.n
  n : S'.n ≤ S.n + k
  ok : Sok S'
  same : ∀ c, blkOf v ≠ some c → c < S.n → S'.h.get c = S.h.get c
end Go.Proofs.Ytjbpegggfacojaa
/- GX: reasoning about runs: a piece of code on its own; parts of texts. -/

namespace GX
noncomputable section
open Go
section
variable {X : X} {n : Nat} {ks : List Kt} {Q : Ex → Env → St → Prop} {l : L} {S : St} {c : Code}
/-- a piece of code that ends as code does, and what is known behind it -/
def Mid (I : L → St → Prop) (x : Ex) (e : Env) (S : St) : Prop := x = .nor ∧ ∃ l', Ag l' e ∧ I l' S
theorem W_cut (I : L → St → Prop) (h : W X n c [] (Mid I) l S) (hk : ∀ l' S', I l' S' → V X n .nor ks Q l' S') : W X n c ks Q l S := by
  unfold W at h ⊢
  intro e he
  obtain ⟨f, x, e', S', h1, rfl, l', h2, h3⟩ := h e he
  have := hk l' S' h3
  unfold V at this
  exact ⟨f, .nor, e', S', h1, this e' h2⟩
theorem V_mid {I : L → St → Prop} (h : I l S) : V X n .nor [] (Mid I) l S := by
  unfold V
  intro e he
  exact ⟨rfl, l, he, h⟩
end
theorem str_hi {X : X} {t : Nat} {k : IntKind} {s : List Nat} {hi : Nat} (h : hi ≤ s.length) : aslice X t (.str s) none (some (.int k ((hi : Nat) : Int))) none = some (.str (s.take hi)) := by
  unfold aslice bounds
  have : bound (.int k ((hi : Nat) : Int)) s.length = some hi := by
    show (bif Nat.ble hi s.length then some hi else none) = _
    rw [nble, decide_eq_true h]; rfl
  dsimp only; rw [this]; rfl
theorem str_lo {X : X} {t : Nat} {k : IntKind} {s : List Nat} {lo : Nat} (h : lo ≤ s.length) : aslice X t (.str s) (some (.int k ((lo : Nat) : Int))) none none = some (.str (s.drop lo)) := by
  unfold aslice bounds
  have : bound (.int k ((lo : Nat) : Int)) s.length = some lo := by
    show (bif Nat.ble lo s.length then some lo else none) = _
    rw [nble, decide_eq_true h]; rfl
  dsimp only; rw [this]; dsimp only; rw [List.take_of_length_le (Nat.le_refl _)]
end
end GX
/- GX: a region that draws its order, where a read may come ahead of or behind a loud operation that leaves alone what it reads. -/

namespace GX
open Go
/-- is this read ordered with every operation that it might meet? -/
def rdStat (ms : List Nat) (sks : List Cls) (i : Nat) : Bool :=
  bef ms sks i isAll && (List.range sks.length).all (fun j => Nat.ble j i || !isLC (sks.getD j .pure) || inM ms j i)
noncomputable def seqB1 (ops : List Oper) (ms : List Nat) (sks : List Cls) (n : Nat) : List Oper → Nat → Bool
  | [], _ => true
  | o :: os, i => (looks ops o).all (fun t => Nat.blt t n && (match writer t ops 0 with | none => true | some j => inM ms i j || Nat.beq i j || inM ms j i)) &&
      (!isLC (sks.getD i .pure) || bef ms sks i isAll) && seqB1 ops ms sks n os (i + 1)
noncomputable def seqB (X : X) (n : Nat) (ops : List Oper) : Bool :=
  edgesOk ops 0 && dstsOk n ops && noSelect ops && Nat.blt n 1000001 && seqB1 ops (masks ops []) (ops.map (fun o => sk X o.op)) n ops 0
theorem seqB1_at {ops : List Oper} {ms : List Nat} {sks : List Cls} {n : Nat} : ∀ {os : List Oper} {i : Nat}, seqB1 ops ms sks n os i = true → ∀ k o, os[k]? = some o →
    (∀ t ∈ looks ops o, t < n ∧ ∀ j, writer t ops 0 = some j → inM ms (i + k) j = true ∨ i + k = j ∨ inM ms j (i + k) = true) ∧
    (isLC (sks.getD (i + k) .pure) = true → bef ms sks (i + k) isAll = true)
  | [], _, _, k, o, h => by simp at h
  | x :: os, i, h, k, o, hk => by
    unfold seqB1 at h
    simp only [Bool.and_eq_true] at h
    obtain ⟨⟨h1, h2⟩, h3⟩ := h
    cases k with
    | zero =>
      simp at hk; subst hk
      refine ⟨fun t ht => ?_, fun hl => by simp only [Nat.add_zero] at hl ⊢; rw [hl] at h2; simpa using h2⟩
      have := List.all_eq_true.1 h1 t ht
      simp only [Bool.and_eq_true, nblt, decide_eq_true_eq] at this
      refine ⟨this.1, fun j hj => ?_⟩
      have h4 := this.2
      rw [hj] at h4
      simp only [Bool.or_eq_true, nbeq, decide_eq_true_eq] at h4
      simp only [Nat.add_zero]
      rcases h4 with (h4 | h4) | h4
      · exact .inl h4
      · exact .inr (.inl h4)
      · exact .inr (.inr h4)
    | succ k =>
      have := seqB1_at h3 k o (by simpa using hk)
      rw [show i + (k + 1) = i + 1 + k by omega]
      exact this
/-- a read that looks at these blocks alone -/
def FP (X : X) (B : List Nat) (h0 : Tr AB) (e : Env) (op : Op) (v : AV) : Prop := ∀ H : Tr AB, (∀ b ∈ B, H.get b = h0.get b) → readOp X e H op = some v
/-- a run in the text's order, where reads that are not ordered look at blocks 'B' alone, and loud operations leave these alone -/
def RunB (X : X) (rec : Rec) (n : Nat) (all : List Oper) (B : List Nat) (h0 : Tr AB) : List Oper → Nat → Env → St → Env → St → Prop
  | [], _, e, S, e', S' => e' = e ∧ S' = S
  | o :: os, i, e, S, e', S' =>
    (wanted all e o = true ∧ ∃ v S1 e1, oper X rec e S o.op = some (v, S1) ∧ setDst n e o.dst v = some e1 ∧ rdv (cls X e o.op) v = true ∧
      (cls X e o.op = .read → rdStat (masks all []) (all.map (fun o => sk X o.op)) i = true ∨ FP X B h0 e o.op v) ∧
      (isLC (cls X e o.op) = true → ∀ b ∈ B, S1.h.get b = h0.get b) ∧ RunB X rec n all B h0 os (i + 1) e1 S1 e' S') ∨
    (wanted all e o = false ∧ ∃ e1, setDst n e o.dst (.tup []) = some e1 ∧ RunB X rec n all B h0 os (i + 1) e1 S e' S')
theorem RunB_le {X : X} {rec rec' : Rec} (hr : RecLe rec rec') {n : Nat} {all : List Oper} {B : List Nat} {h0 : Tr AB} : ∀ {os : List Oper} {i : Nat} {e : Env} {S : St} {e' S'}, RunB X rec n all B h0 os i e S e' S' → RunB X rec' n all B h0 os i e S e' S'
  | [], _, _, _, _, _, h => h
  | o :: os, i, e, S, e', S', h => by
    unfold RunB at h ⊢
    rcases h with ⟨hw, v, S1, e1, h1, h2, h3, h4, h5, h6⟩ | ⟨hw, e1, h1, h2⟩
    · exact .inl ⟨hw, v, S1, e1, oper_le hr h1, h2, h3, h4, h5, RunB_le hr h6⟩
    · exact .inr ⟨hw, e1, h1, RunB_le hr h2⟩
theorem RunB_n {X : X} {rec : Rec} {n : Nat} {all : List Oper} {B : List Nat} {h0 : Tr AB} : ∀ {os : List Oper} {i : Nat} {e : Env} {S : St} {e' S'}, RunB X rec n all B h0 os i e S e' S' → S.n ≤ S'.n
  | [], _, _, _, _, _, h => by unfold RunB at h; rw [h.2]; exact Nat.le_refl _
  | o :: os, i, e, S, e', S', h => by
    unfold RunB at h
    rcases h with ⟨_, v, S1, e1, h1, _, _, _, _, h6⟩ | ⟨_, e1, _, h2⟩
    · exact Nat.le_trans (oper_n h1) (RunB_n h6)
    · exact RunB_n h2
theorem hOf_kept {recs : List R} {b : Nat} {h0 : Tr AB} (hk : ∀ (k : Nat) (r : R) h' m, recs[k]? = some r → r.k = .ld h' m → h'.get b = h0.get b) : ∀ {js : List Nat} {h : Tr AB}, h.get b = h0.get b → (hOf recs h js).get b = h0.get b
  | [], _, h => h
  | j :: js, h, hh => by
    unfold hOf
    apply hOf_kept hk
    split
    · rename_i r hr
      split
      · rename_i h' m hk'
        exact hk j r h' m hr hk'
      · exact hh
    · exact hh
section
variable {X : X} {rec : Rec} {n : Nat} {ops : List Oper} {e : Env} {h0 : Tr AB}
def RFB (X : _root_.GX.X) (n : Nat) (ops : List Oper) (B : List Nat) (e : Env) (h0 : Tr AB) (recs : List R) (lds : List Nat) (i : Nat) (o : Oper) (r : R) : Prop :=
  r.k = .rd → ∃ l1 l2 ei, lds = l1 ++ l2 ∧ (∀ j ∈ l1, j < i) ∧ (∀ j ∈ l2, i < j) ∧ (∀ t ∈ looks ops o, lookT (masks ops []) ops (recs.take i) e i t = some (ei.at t)) ∧ (∀ t ∈ looks ops o, t < n) ∧
    sk X o.op = .read ∧ veq r.v r.v = true ∧ ((rdStat (masks ops []) (ops.map (fun o => sk X o.op)) i = true ∧ readOp X ei (gh (masks ops []) l1 (fun _ => true) (recs.take i) 0 (hOf (recs.take i) h0 l1)) o.op = some r.v) ∨ FP X B h0 ei o.op r.v)
theorem plan_seqB {B : List Nat} {N0 : Nat} (hB : ∀ b ∈ B, b < N0) (hn : n < 1000001) (hE : edgesOk ops 0 = true) (hD : dstsOk n ops = true) (hK : seqB1 ops (masks ops []) (ops.map (fun o => sk X o.op)) n ops 0 = true) :
    ∀ (os pre : List Oper) (acc : List R) (lds : List Nat) (S : St) (ei : Env) (e' : Env) (S' : St), ops = pre ++ os → acc.length = pre.length → putAll n pre acc e = some ei →
    (∀ (k : Nat) (r : R) b, acc[k]? = some r → r.k = .mk b → (ops.map (fun o => sk X o.op)).getD k .pure = .alloc ∧ N0 ≤ r.n0 ∧ r.n0 < 1000000000) →
    (∀ (k : Nat) (r : R) h' m, acc[k]? = some r → r.k = .ld h' m → ∀ b ∈ B, h'.get b = h0.get b) →
    N0 ≤ S.n →
    (∀ j ∈ lds, j < pre.length ∧ isLC ((ops.map (fun o => sk X o.op)).getD j .pure) = true) →
    lds.Pairwise (· < ·) →
    S.h = gh (masks ops []) lds (fun _ => true) acc 0 (hOf acc h0 lds) →
    RunB X rec n ops B h0 os pre.length ei S e' S' →
    ∃ tl l2, plan X rec n ops (masks ops []) e os pre.length acc lds (hOf acc h0 lds) S.n = some (acc ++ tl, lds ++ l2, S'.n) ∧
      (∀ j ∈ l2, pre.length ≤ j ∧ isLC ((ops.map (fun o => sk X o.op)).getD j .pure) = true) ∧ putAll n ops (acc ++ tl) e = some e' ∧
      S'.h = gh (masks ops []) (lds ++ l2) (fun _ => true) (acc ++ tl) 0 (hOf (acc ++ tl) h0 (lds ++ l2)) ∧ tl.length = os.length ∧ (lds ++ l2).Pairwise (· < ·) ∧ (∀ (k : Nat) (r : R) b, (acc ++ tl)[k]? = some r → r.k = .mk b → (ops.map (fun o => sk X o.op)).getD k .pure = .alloc ∧ N0 ≤ r.n0 ∧ r.n0 < 1000000000) ∧ (∀ (k : Nat) (r : R) h' m, (acc ++ tl)[k]? = some r → r.k = .ld h' m → ∀ b ∈ B, h'.get b = h0.get b) ∧
      ∀ (k : Nat) (o : Oper) (r : R), os[k]? = some o → tl[k]? = some r → RFB X n ops B e h0 (acc ++ tl) (lds ++ l2) (pre.length + k) o r
  | [], pre, acc, lds, S, ei, e', S', hp, hl, hput, hmk, hlb, _, _, hpw, hh, h => by
    unfold RunB at h
    obtain ⟨rfl, rfl⟩ := h
    refine ⟨[], [], ?_, fun j hj => by simp at hj, ?_, ?_, rfl, by simpa using hpw, by simpa using hmk, by simpa using hlb, fun k o r hk => by simp at hk⟩
    · simp [plan]
    · simp only [List.append_nil] at hp ⊢; rw [hp]; exact hput
    · simpa using hh
  | o :: os, pre, acc, lds, S, ei, e', S', hp, hl, hput, hmk, hlb, hN, hld, hpw, hh, h => by
    have ho : ops[pre.length]? = some o := by rw [hp]; simp
    have hsk : (ops.map (fun o => sk X o.op)).getD pre.length .pure = sk X o.op := by
      rw [List.getD_eq_getElem?_getD, List.getElem?_map, ho]; rfl
    obtain ⟨hk1, hk2⟩ := seqB1_at hK pre.length o ho
    simp only [Nat.zero_add] at hk1 hk2
    rw [hsk] at hk2
    have hlk := looks_seq hn hE hD hp hl hput hk1
    obtain ⟨re, hre, hag⟩ := renv_good (es := ei) hn hlk
    have hoe : OE re ei o.op := OE_of hag
    have hp' : ops = (pre ++ [o]) ++ os := by rw [hp]; simp
    -- what goes on behind
    have fin : ∀ (r : R) (ldn : List Nat) (S1 : St) (e1 : Env), setDst n ei o.dst r.v = some e1 → (∀ b, r.k = .mk b → sk X o.op = .alloc ∧ N0 ≤ r.n0 ∧ r.n0 < 1000000000) → (∀ h' m, r.k = .ld h' m → ∀ b ∈ B, h'.get b = h0.get b) → N0 ≤ S1.n → (ldn = [] ∨ ldn = [pre.length] ∧ isLC (sk X o.op) = true) →
        S1.h = gh (masks ops []) (lds ++ ldn) (fun _ => true) (acc ++ [r]) 0 (hOf (acc ++ [r]) h0 (lds ++ ldn)) →
        (r.k = .rd → ldn = [] ∧ sk X o.op = .read ∧ veq r.v r.v = true ∧ ((rdStat (masks ops []) (ops.map (fun o => sk X o.op)) pre.length = true ∧ readOp X ei S.h o.op = some r.v) ∨ FP X B h0 ei o.op r.v)) →
        RunB X rec n ops B h0 os (pre.length + 1) e1 S1 e' S' →
        plan X rec n ops (masks ops []) e (o :: os) pre.length acc lds (hOf acc h0 lds) S.n = plan X rec n ops (masks ops []) e os (pre.length + 1) (acc ++ [r]) (lds ++ ldn) (hOf (acc ++ [r]) h0 (lds ++ ldn)) S1.n →
        ∃ tl l2, plan X rec n ops (masks ops []) e (o :: os) pre.length acc lds (hOf acc h0 lds) S.n = some (acc ++ tl, lds ++ l2, S'.n) ∧
          (∀ j ∈ l2, pre.length ≤ j ∧ isLC ((ops.map (fun o => sk X o.op)).getD j .pure) = true) ∧ putAll n ops (acc ++ tl) e = some e' ∧
          S'.h = gh (masks ops []) (lds ++ l2) (fun _ => true) (acc ++ tl) 0 (hOf (acc ++ tl) h0 (lds ++ l2)) ∧ tl.length = (o :: os).length ∧ (lds ++ l2).Pairwise (· < ·) ∧ (∀ (k : Nat) (r : R) b, (acc ++ tl)[k]? = some r → r.k = .mk b → (ops.map (fun o => sk X o.op)).getD k .pure = .alloc ∧ N0 ≤ r.n0 ∧ r.n0 < 1000000000) ∧ (∀ (k : Nat) (r : R) h' m, (acc ++ tl)[k]? = some r → r.k = .ld h' m → ∀ b ∈ B, h'.get b = h0.get b) ∧
          ∀ (k : Nat) (o' : Oper) (r : R), (o :: os)[k]? = some o' → tl[k]? = some r → RFB X n ops B e h0 (acc ++ tl) (lds ++ l2) (pre.length + k) o' r := by
      intro r ldn S1 e1 hset hmk1 hlb1 hN1 hldn hh1 hrd hrun hplan
      obtain ⟨tl, l2, p1, p2, p3, p4, p5, ppw, pmk, plb, p6⟩ := plan_seqB hB hn hE hD hK os (pre ++ [o]) (acc ++ [r]) (lds ++ ldn) S1 e1 e' S' hp' (by simp [hl]) (putAll_snoc hput hset)
        (by
          intro k r' b hk hb
          by_cases hlt : k < acc.length
          · rw [List.getElem?_append_left hlt] at hk; exact hmk k r' b hk hb
          · have : k = acc.length := by
              have := (List.getElem?_eq_some_iff.1 hk).1
              simp at this; omega
            subst this
            simp at hk; subst hk
            rw [hl, hsk]; exact hmk1 b hb)
        (by
          intro k r' h' m hk hb
          by_cases hlt : k < acc.length
          · rw [List.getElem?_append_left hlt] at hk; exact hlb k r' h' m hk hb
          · have : k = acc.length := by
              have := (List.getElem?_eq_some_iff.1 hk).1
              simp at this; omega
            subst this
            simp at hk; subst hk
            exact hlb1 h' m hb)
        hN1
        (by
          intro j hj
          rw [List.mem_append] at hj
          rcases hj with hj | hj
          · have := hld j hj; exact ⟨by simp; omega, this.2⟩
          · rcases hldn with hq | ⟨hq, hq2⟩
            · rw [hq] at hj; simp at hj
            · rw [hq] at hj; simp at hj; subst hj; exact ⟨by simp, by rw [hsk]; exact hq2⟩)
        (by
          rw [List.pairwise_append]
          refine ⟨hpw, ?_, fun a ha b hb => ?_⟩
          · rcases hldn with hq | ⟨hq, _⟩ <;> rw [hq] <;> simp
          · rcases hldn with hq | ⟨hq, _⟩
            · rw [hq] at hb; simp at hb
            · rw [hq] at hb; simp at hb; subst hb; exact (hld a ha).1)
        hh1 (by rw [List.length_append, List.length_singleton]; exact hrun)
      rw [List.length_append, List.length_singleton] at p1
      refine ⟨r :: tl, ldn ++ l2, ?_, ?_, ?_, ?_, by simp [p5], by simpa using ppw, by simpa using pmk, by simpa using plb, ?_⟩
      · rw [hplan, p1]; simp
      · intro j hj
        rw [List.mem_append] at hj
        rcases hj with hj | hj
        · rcases hldn with hq | ⟨hq, hq2⟩
          · rw [hq] at hj; simp at hj
          · rw [hq] at hj; simp at hj; subst hj; exact ⟨Nat.le_refl _, by rw [hsk]; exact hq2⟩
        · have h1 := (p2 j hj).1; simp only [List.length_append, List.length_singleton] at h1; exact ⟨by omega, (p2 j hj).2⟩
      · rw [← p3]; simp
      · rw [p4]; simp
      · intro k o' r' hk hr'
        cases k with
        | zero =>
          simp at hk hr'; subst hk; subst hr'
          intro hrk
          obtain ⟨q1, q2, q4, q3⟩ := hrd hrk
          subst q1
          refine ⟨lds, l2, ei, by simp, fun j hj => by have := (hld j hj).1; simpa using this, fun j hj => by have := (p2 j hj).1; simp only [List.length_append, List.length_singleton] at this; omega, ?_, fun t ht => (hlk t ht).1, q2, q4, q3.imp (fun q => ⟨by simpa using q.1, ?_⟩) (fun q => q)⟩
          · intro t ht
            have : (acc ++ r :: tl).take (pre.length + 0) = acc := by rw [Nat.add_zero, ← hl]; simp
            rw [this]
            exact (hlk t ht).2
          · have : (acc ++ r :: tl).take (pre.length + 0) = acc := by rw [Nat.add_zero, ← hl]; simp
            rw [this, ← hh]; exact q.2
        | succ k =>
          have := p6 k o' r' (by simpa using hk) (by simpa using hr')
          simp only [List.length_append, List.length_singleton, List.append_assoc, List.singleton_append] at this
          rw [show pre.length + (k + 1) = pre.length + 1 + k by omega]
          exact this
    have hwc : wanted ops re o = wanted ops ei o := wanted_congr hag
    have hldlt : ∀ j ∈ lds, j < (acc).length := fun j hj => by rw [hl]; exact (hld j hj).1
    have hOfs : ∀ r : R, hOf (acc ++ [r]) h0 lds = hOf acc h0 lds := fun r => hOf_append hldlt
    have hgs : ∀ r : R, (∀ b, r.k ≠ .mk b) → gh (masks ops []) lds (fun _ => true) (acc ++ [r]) 0 (hOf (acc ++ [r]) h0 lds) = S.h := by
      intro r hr
      rw [hOfs, gh_snoc, ← hh]
      unfold ghStep
      split
      · rename_i b hb; exact absurd hb (hr b)
      · rfl
    have hgc : (∀ (k : Nat), k < pre.length → (ops.map (fun o => sk X o.op)).getD k .pure = .alloc → inM (masks ops []) pre.length k = true) → gh (masks ops []) lds (inM (masks ops []) pre.length) acc 0 (hOf acc h0 lds) = S.h := by
      intro hq
      rw [hh]
      apply gh_congr
      intro k r b h1 h2
      have hkl : k < pre.length := by have := (List.getElem?_eq_some_iff.1 h1).1; omega
      simp only [Nat.zero_add]
      exact hq k hkl (hmk k r b h1 h2).1
    have hgB : ∀ b ∈ B, (gh (masks ops []) lds (inM (masks ops []) pre.length) acc 0 (hOf acc h0 lds)).get b = h0.get b := by
      intro b hb
      rw [gh_miss (fun k r b' h1 h2 => (hmk k r b' h1 h2).2.2) (fun k r b' h1 h2 _ _ => by have := (hmk k r b' h1 h2).2.1; have := hB b hb; omega)]
      exact hOf_kept (fun k r h' m h1 h2 => hlb k r h' m h1 h2 b hb) rfl
    unfold RunB at h
    rcases h with ⟨hw, v, S1, e1, hop, he1, hb, hrdc, hlc, h⟩ | ⟨hw, e1, he1, h⟩
    case inr =>
      refine fin ⟨.tup [], S.n, .val⟩ [] S e1 he1 (fun b hb => by cases hb) (fun h' m hb => by cases hb) hN (.inl rfl) ?_ (fun hb => by cases hb) h ?_
      · rw [List.append_nil, hgs _ (fun b hb => by cases hb)]
      · conv => lhs; unfold plan
        rw [hre]; dsimp only; rw [hwc, hw]; simp only [cond_false, List.append_nil]
        rw [hOfs]
    case inl =>
      have hck := sk_ok hop
      have hclr : cls X re o.op = cls X ei o.op := cls_congr hoe
      have hN1 : N0 ≤ S1.n := Nat.le_trans hN (oper_n hop)
      have hloud : isLC (cls X ei o.op) = true →
        ∃ tl l2, plan X rec n ops (masks ops []) e (o :: os) pre.length acc lds (hOf acc h0 lds) S.n = some (acc ++ tl, lds ++ l2, S'.n) ∧
          (∀ j ∈ l2, pre.length ≤ j ∧ isLC ((ops.map (fun o => sk X o.op)).getD j .pure) = true) ∧ putAll n ops (acc ++ tl) e = some e' ∧
          S'.h = gh (masks ops []) (lds ++ l2) (fun _ => true) (acc ++ tl) 0 (hOf (acc ++ tl) h0 (lds ++ l2)) ∧ tl.length = (o :: os).length ∧ (lds ++ l2).Pairwise (· < ·) ∧ (∀ (k : Nat) (r : R) b, (acc ++ tl)[k]? = some r → r.k = .mk b → (ops.map (fun o => sk X o.op)).getD k .pure = .alloc ∧ N0 ≤ r.n0 ∧ r.n0 < 1000000000) ∧ (∀ (k : Nat) (r : R) h' m, (acc ++ tl)[k]? = some r → r.k = .ld h' m → ∀ b ∈ B, h'.get b = h0.get b) ∧
          ∀ (k : Nat) (o' : Oper) (r : R), (o :: os)[k]? = some o' → tl[k]? = some r → RFB X n ops B e h0 (acc ++ tl) (lds ++ l2) (pre.length + k) o' r := by
        intro hlc0
        have hs : cls X ei o.op = sk X o.op := by
          rcases hck with hq | hq
          · rw [hq] at hlc0; cases hlc0
          · exact hq
        have hlc1 := hlc hlc0
        rw [hs] at hlc0
        have hbef : bef (masks ops []) (ops.map (fun o => sk X o.op)) pre.length isAll = true := hk2 hlc0
        have hg := hgc (fun k hk hq => bef_at hbef hk (by rw [hq]; rfl))
        have hall : lds.all (fun j => inM (masks ops []) pre.length j) = true := by
          apply List.all_eq_true.2
          intro j hj
          obtain ⟨q1, q2⟩ := hld j hj
          exact bef_at hbef q1 (by cases hq : (ops.map (fun o => sk X o.op)).getD j .pure <;> rw [hq] at q2 <;> first | rfl | cases q2)
        have hop' : oper X rec re { h := gh (masks ops []) lds (inM (masks ops []) pre.length) acc 0 (hOf acc h0 lds), n := S.n } o.op = some (v, S1) := by
          rw [hg, oper_congr hoe]; exact hop
        refine fin ⟨v, S.n, .ld S1.h S1.n⟩ [pre.length] S1 e1 he1 (fun b hb => by cases hb) (fun h' m hb => by cases hb; exact hlc1) hN1 (.inr ⟨rfl, hlc0⟩) ?_ (fun hb => by cases hb) h ?_
        · rw [gh_snoc]
          have : hOf (acc ++ [(⟨v, S.n, .ld S1.h S1.n⟩ : R)]) h0 (lds ++ [pre.length]) = S1.h := hOf_snoc (r := ⟨v, S.n, .ld S1.h S1.n⟩) (m := S1.n) (by rw [← hl]; simp) rfl
          rw [this, gh_had (fun q r b h1 h2 => by
            have hkl : q < pre.length := by have := (List.getElem?_eq_some_iff.1 h1).1; omega
            rw [Nat.zero_add]
            exact bef_at hbef hkl (by rw [(hmk q r b h1 h2).1]; rfl))]
          rfl
        · conv => lhs; unfold plan
          rw [hre]; dsimp only; rw [hwc, hw]; simp only [cond_true]
          have : hOf (acc ++ [(⟨v, S.n, .ld S1.h S1.n⟩ : R)]) h0 (lds ++ [pre.length]) = S1.h := hOf_snoc (r := ⟨v, S.n, .ld S1.h S1.n⟩) (m := S1.n) (by rw [← hl]; simp) rfl
          rw [hclr, hs]
          cases hskc : sk X o.op with
          | loud => dsimp only; rw [hall]; simp only [cond_true]; rw [hop']; dsimp only; rw [this]
          | call => dsimp only; rw [hall]; simp only [cond_true]; rw [hop']; dsimp only; rw [this]
          | _ => rw [hskc] at hlc0; cases hlc0
      cases hc : cls X ei o.op with
      | loud => exact hloud (by rw [hc]; rfl)
      | call => exact hloud (by rw [hc]; rfl)
      | pure =>
        unfold oper at hop
        rw [hc] at hop
        dsimp only at hop
        split at hop
        · cases hop
        · rename_i v' hv
          cases hop
          refine fin ⟨v, S.n, .val⟩ [] S e1 he1 (fun b hb => by cases hb) (fun h' m hb => by cases hb) hN (.inl rfl) ?_ (fun hb => by cases hb) h ?_
          · rw [List.append_nil, hgs _ (fun b hb => by cases hb)]
          · conv => lhs; unfold plan
            rw [hre]; dsimp only; rw [hwc, hw]; simp only [cond_true, List.append_nil]
            rw [hclr, hc]; dsimp only; rw [pureOp_congr hoe, hv]; dsimp only; rw [hOfs]
      | read =>
        have hs : sk X o.op = .read := by
          rcases hck with hq | hq
          · rw [hq] at hc; cases hc
          · rw [← hq]; exact hc
        have hrdc' := hrdc hc
        unfold oper at hop
        rw [hc] at hop
        dsimp only at hop
        split at hop
        · cases hop
        · rename_i v' hv
          cases hop
          rw [hc] at hb
          have hrd2 : readOp X ei (gh (masks ops []) lds (inM (masks ops []) pre.length) acc 0 (hOf acc h0 lds)) o.op = some v := by
            rcases hrdc' with hst | hfp
            · have hst' := hst
              unfold rdStat at hst'
              rw [Bool.and_eq_true] at hst'
              rw [hgc (fun k hk hq => bef_at hst'.1 hk (by rw [hq]; rfl))]; exact hv
            · exact hfp _ hgB
          refine fin ⟨v, S.n, .rd⟩ [] S e1 he1 (fun b hb => by cases hb) (fun h' m hb => by cases hb) hN (.inl rfl) ?_ (fun _ => ⟨rfl, hs, hb, hrdc'.imp (fun q => ⟨q, hv⟩) (fun q => q)⟩) h ?_
          · rw [List.append_nil, hgs _ (fun b hb => by cases hb)]
          · conv => lhs; unfold plan
            rw [hre]; dsimp only; rw [hwc, hw]; simp only [cond_true, List.append_nil]
            rw [hclr, hc]; dsimp only; rw [readOp_congr hoe, hrd2]; dsimp only; rw [hOfs]
      | alloc =>
        have hs : sk X o.op = .alloc := by
          rcases hck with hq | hq
          · rw [hq] at hc; cases hc
          · rw [← hq]; exact hc
        unfold oper at hop
        rw [hc] at hop
        dsimp only at hop
        cases hlt : Nat.blt S.n 1000000000 with
        | false => rw [hlt] at hop; cases hop
        | true =>
          rw [hlt] at hop
          simp only [cond_true] at hop
          have hlt2 : S.n < 1000000000 := by rw [nblt, decide_eq_true_eq] at hlt; exact hlt
          split at hop
          · cases hop
          · rename_i b' v' hv
            cases hop
            refine fin ⟨v, S.n, .mk b'⟩ [] (S.new b') e1 he1 (fun _ _ => ⟨hs, hN, hlt2⟩) (fun h' m hb => by cases hb) hN1 (.inl rfl) ?_ (fun hb => by cases hb) h ?_
            · rw [List.append_nil, hOfs, gh_snoc, ← hh]
              unfold ghStep
              dsimp only
              have : lds.all (fun j => !inM (masks ops []) j (0 + acc.length)) = true := by
                apply List.all_eq_true.2
                intro j hj
                have h1 := (hld j hj).1
                cases hq : inM (masks ops []) j (0 + acc.length) with
                | false => rfl
                | true => have := inM_lt hE _ _ hq; omega
              rw [this]
              rfl
            · conv => lhs; unfold plan
              rw [hre]; dsimp only; rw [hwc, hw]; simp only [cond_true, List.append_nil]
              rw [hclr, hc]; dsimp only; rw [hlt]; simp only [cond_true]; rw [allocOp_congr hoe, hv]; dsimp only; rw [hOfs]
              rfl
/-- WHERE THE EDGES SAY ENOUGH but for reads that loud operations leave alone, a region that draws its order gives what the text's order gives. -/
theorem drawn_B {B : List Nat} {S : St} {e' : Env} {S' : St} (hB : ∀ b ∈ B, b < S.n) (hs : seqB X n ops = true) (h : RunB X rec n ops B S.h ops 0 e S e' S') : drawn X rec n ops e S = .ok .nor e' S' := by
  unfold seqB at hs
  simp only [Bool.and_eq_true, nblt, decide_eq_true_eq] at hs
  obtain ⟨⟨⟨⟨hE, hD⟩, hN⟩, hn⟩, hK⟩ := hs
  have hle := RunB_n h
  obtain ⟨tl, l2, p1, p2, p3, p4, p5, ppw, pmk, plb, p6⟩ := plan_seqB (h0 := S.h) (e := e) (B := B) (N0 := S.n) hB hn hE hD hK ops [] [] [] S e e' S' (by simp) rfl (by simp [putAll]) (fun k r b hk => by simp at hk) (fun k r h' m hk => by simp at hk) (Nat.le_refl _) (fun j hj => by simp at hj) List.Pairwise.nil (by simp [gh, hOf]) h
  simp only [List.nil_append, List.length_nil, hOf, Nat.zero_add] at p1 p2 p3 p4 p6 ppw pmk plb
  unfold drawn
  dsimp only
  rw [hE, hD, hN]
  simp only [Bool.and_self, cond_true]
  rw [p1]
  dsimp only
  have hrd : rdsOk X n ops (masks ops []) tl e S.h l2 ops 0 = true := by
    apply rdsOk_of
    intro i o ho
    have hi : i < ops.length := (List.getElem?_eq_some_iff.1 ho).1
    have hr : tl[i]? = some (tl[i]'(by omega)) := List.getElem?_eq_getElem _
    rw [Nat.zero_add]
    refine ⟨_, hr, fun hk => ?_⟩
    obtain ⟨l1, l3, ei, q1, q2, q3, q4, q5, q6, q8, q9⟩ := p6 i o _ ho hr hk
    have hlt : ∀ j, inM (masks ops []) i j = true → j < (tl.take i).length := fun j hj => by
      have := inM_lt hE _ _ hj
      simp; omega
    have htl : tl = tl.take i ++ tl.drop i := (List.take_append_drop i tl).symm
    obtain ⟨re, r1, r2⟩ := renv_good (ms := masks ops []) (ops := ops) (acc := tl) (e := e) (es := ei) (n := n) (i := i) hn (ts := looks ops o) (fun t ht => ⟨q5 t ht, by
      rw [htl, lookT_append hlt]; exact q4 t ht⟩)
    refine ⟨re, r1, rdOk_of fun a b hab => ?_⟩
    have hoe : OE re ei o.op := OE_of r2
    have hski : (ops.map (fun o => sk X o.op)).getD i .pure = sk X o.op := by
      rw [List.getD_eq_getElem?_getD, List.getElem?_map, ho]; rfl
    rw [List.nil_append]
    unfold rdOk.rd1
    cases hc : (a.all (fun j => !inM (masks ops []) j i) && l2.all (fun j => !inM (masks ops []) i j || a.contains j)) with
    | false => rfl
    | true =>
      simp only [cond_true]
      simp only [Bool.and_eq_true] at hc
      obtain ⟨c1, c2⟩ := hc
      rcases q9 with ⟨hst, q7⟩ | hfp
      case inr =>
        have hg : ∀ b ∈ B, (gh (masks ops []) a (inM (masks ops []) i) tl 0 (hOf tl S.h a)).get b = S.h.get b := by
          intro b hb
          rw [gh_miss (fun k r b' h1 h2 => (pmk k r b' h1 h2).2.2) (fun k r b' h1 h2 _ _ => by have := (pmk k r b' h1 h2).2.1; have := hB b hb; omega)]
          exact hOf_kept (fun k r h' m h1 h2 => plb k r h' m h1 h2 b hb) rfl
        rw [readOp_congr hoe, hfp _ hg]
        exact q8
      unfold rdStat at hst
      rw [Bool.and_eq_true] at hst
      obtain ⟨hk2, hk3⟩ := hst
      have hal : a = l1 := by
        have hpre : a ++ b = l1 ++ l3 := by rw [← hab, q1]
        have hin1 : ∀ j ∈ l1, j ∈ a := by
          intro j hj
          have hj2 : j ∈ l2 := by rw [q1]; exact List.mem_append_left _ hj
          have h1 := List.all_eq_true.1 c2 j hj2
          have h2 : inM (masks ops []) i j = true := by
            apply bef_at hk2 (q2 j hj)
            have := (p2 j hj2).2
            cases hq : (ops.map (fun o => sk X o.op)).getD j .pure <;> rw [hq] at this <;> first | rfl | cases this
          rw [h2] at h1
          simpa using h1
        have hin3 : ∀ j ∈ l3, j ∉ a := by
          intro j hj hja
          have hj2 : j ∈ l2 := by rw [q1]; exact List.mem_append_right _ hj
          have h1 := List.all_eq_true.1 c1 j hja
          have hjl : j < ops.length := by
            have := (p2 j hj2).2
            rw [List.getD_eq_getElem?_getD] at this
            by_cases hlt : j < ops.length
            · exact hlt
            · rw [List.getElem?_eq_none (by simpa using hlt)] at this; cases this
          have hl := (p2 j hj2).2
          have h3 := List.all_eq_true.1 hk3 j (by simpa using hjl)
          rw [hl, nble, decide_eq_false (by have := q3 j hj; omega)] at h3
          have : inM (masks ops []) j i = true := by simpa using h3
          rw [this] at h1
          cases h1
        rcases List.append_eq_append_iff.1 hpre with ⟨m, hm1, hm2⟩ | ⟨m, hm1, hm2⟩
        · -- l1 = a ++ m
          cases m with
          | nil => simpa using hm1.symm
          | cons y m =>
            exfalso
            have hy : y ∈ a := hin1 y (by rw [hm1]; simp)
            rw [q1, hm1, List.append_assoc, List.pairwise_append] at ppw
            have := ppw.2.2 y hy y (by simp)
            omega
        · cases m with
          | nil => simpa using hm1
          | cons y m =>
            exfalso
            exact hin3 y (by rw [hm2]; simp) (by rw [hm1]; simp)
      subst hal
      have hh : gh (masks ops []) a (inM (masks ops []) i) tl 0 (hOf tl S.h a) = gh (masks ops []) a (fun _ => true) (tl.take i) 0 (hOf (tl.take i) S.h a) := by
        conv => lhs; rw [htl]
        rw [gh_append (fun q hq => by
          cases hm : inM (masks ops []) i q with
          | false => rfl
          | true => have := hlt q hm; omega)]
        rw [hOf_append (fun j hj => by have := q2 j hj; simp; omega)]
        apply gh_congr
        intro k r b h1 h2
        rw [Nat.zero_add]
        have hki : k < i := by have := (List.getElem?_eq_some_iff.1 h1).1; simp at this; omega
        apply bef_at hk2 hki
        have : (ops.map (fun o => sk X o.op)).getD k .pure = .alloc := by
          have hkr : tl[k]? = some r := by rw [htl, List.getElem?_append_left (List.getElem?_eq_some_iff.1 h1).1]; exact h1
          exact (pmk k r b hkr h2).1
        rw [this]; rfl
      rw [hh, readOp_congr hoe, q7]
      exact q8
  rw [hrd]
  simp only [cond_true]
  rw [p3]
  dsimp only
  rw [nble, decide_eq_true hle]
  simp only [cond_true]
  rw [← p4]
end
end GX
/- GX: reasoning about runs: regions that draw their order, where a read may come ahead of or behind a loud operation that leaves alone what it reads. -/


namespace GX
noncomputable section
open Go
def WD (X : X) (n : Nat) (all : List Oper) (B : List Nat) (h0 : Tr AB) (os : List Oper) (i : Nat) (ks : List Kt) (Q : Ex → Env → St → Prop) (l : L) (S : St) : Prop :=
  ∀ e, Ag l e → ∃ f e' S', RunB X (exec X f) n all B h0 os i e S e' S' ∧ QK X n ks Q .nor e' S'
section
variable {X : X} {n : Nat} {ks : List Kt} {Q : Ex → Env → St → Prop} {l : L} {S : St} {B : List Nat} {h0 : Tr AB} {all os : List Oper} {o : Oper} {i : Nat}
theorem W_drawnB (B : List Nat) {id : Nat} {ops : Array Oper} (hB : ∀ b ∈ B, b < S.n) (hs : seqB X n ops.toList = true) (h : WD X n ops.toList B S.h ops.toList 0 ks Q l S) : W X n (.region id ops true) ks Q l S := by
  unfold W
  intro e he
  obtain ⟨f, e1, S1, h1, h2⟩ := h e he
  exact ⟨f + 1, .nor, e1, S1, by show step X (exec X f) n (.region id ops true) e S = _; unfold step; exact drawn_B hB hs h1, h2⟩
theorem WD_nil (h : V X n .nor ks Q l S) : WD X n all B h0 [] i ks Q l S := by
  unfold V at h
  exact fun e he => ⟨0, e, S, ⟨rfl, rfl⟩, h e he⟩
/-- a step -/
theorem WD_go {d : Nat} {C : AV → St → Prop} (hg : o.guard = none) (hd : o.dst = some d) (hn : Nat.blt d n = true) (hn' : Nat.blt n 1000001 = true)
    (h : Ev X l S o.op fun v S' => C v S' ∧ WD X n all B h0 os (i + 1) ks Q ((d, v) :: l) S')
    (hr : ∀ e v S', Ag l e → C v S' → cls X e o.op = .read → rdStat (masks all []) (all.map (fun o => sk X o.op)) i = true ∨ FP X B h0 e o.op v)
    (hlc : ∀ (rec : Rec) e v S', Ag l e → oper X rec e S o.op = some (v, S') → C v S' → isLC (cls X e o.op) = true → ∀ b ∈ B, S'.h.get b = h0.get b) : WD X n all B h0 (o :: os) i ks Q l S := by
  intro e he
  unfold Ev at h
  obtain ⟨f, v, S1, h1, h2, hC, h3⟩ := h e he
  rw [nblt, decide_eq_true_eq] at hn hn'
  obtain ⟨g, e2, S2, h4, h5⟩ := h3 _ (he.put hn' hn)
  refine ⟨max f g, e2, S2, .inl ⟨wanted_none hg, v, S1, e.put d v, oper_le (exec_le (Nat.le_max_left f g)) h1, ?_, h2, fun hc => hr e v S1 he hC hc, fun hc => hlc _ e v S1 he h1 hC hc, RunB_le (exec_le (Nat.le_max_right f g)) h4⟩, h5⟩
  rw [hd]; unfold setDst; dsimp only; rw [nblt, decide_eq_true hn]; rfl
def isPA : Cls → Bool | .pure => true | .alloc => true | _ => false
theorem WD_pa {d : Nat} (hg : o.guard = none) (hd : o.dst = some d) (hn : Nat.blt d n = true) (hn' : Nat.blt n 1000001 = true) (hsk : isPA (sk X o.op) = true)
    (h : Ev X l S o.op fun v S' => WD X n all B h0 os (i + 1) ks Q ((d, v) :: l) S') : WD X n all B h0 (o :: os) i ks Q l S := by
  intro e he
  unfold Ev at h
  obtain ⟨f, v, S1, h1, h2, h3⟩ := h e he
  rw [nblt, decide_eq_true_eq] at hn hn'
  obtain ⟨g, e2, S2, h4, h5⟩ := h3 _ (he.put hn' hn)
  have hck := sk_ok h1
  refine ⟨max f g, e2, S2, .inl ⟨wanted_none hg, v, S1, e.put d v, oper_le (exec_le (Nat.le_max_left f g)) h1, ?_, h2, fun hc => ?_, fun hc => ?_, RunB_le (exec_le (Nat.le_max_right f g)) h4⟩, h5⟩
  · rw [hd]; unfold setDst; dsimp only; rw [nblt, decide_eq_true hn]; rfl
  · rcases hck with hq | hq
    · rw [hq] at hc; cases hc
    · rw [hq] at hc; rw [hc] at hsk; cases hsk
  · rcases hck with hq | hq
    · rw [hq] at hc; cases hc
    · rw [hq] at hc
      exfalso
      cases hs : sk X o.op <;> rw [hs] at hc hsk <;> first | (cases hc; done) | (cases hsk; done)
/-- a read that is ordered with all loud operations -/
theorem WD_rs {d : Nat} (hg : o.guard = none) (hd : o.dst = some d) (hn : Nat.blt d n = true) (hn' : Nat.blt n 1000001 = true) (hsk : isLC (sk X o.op) = false) (hst : rdStat (masks all []) (all.map (fun o => sk X o.op)) i = true)
    (h : Ev X l S o.op fun v S' => WD X n all B h0 os (i + 1) ks Q ((d, v) :: l) S') : WD X n all B h0 (o :: os) i ks Q l S := by
  intro e he
  unfold Ev at h
  obtain ⟨f, v, S1, h1, h2, h3⟩ := h e he
  rw [nblt, decide_eq_true_eq] at hn hn'
  obtain ⟨g, e2, S2, h4, h5⟩ := h3 _ (he.put hn' hn)
  have hck := sk_ok h1
  refine ⟨max f g, e2, S2, .inl ⟨wanted_none hg, v, S1, e.put d v, oper_le (exec_le (Nat.le_max_left f g)) h1, ?_, h2, fun _ => .inl hst, fun hc => ?_, RunB_le (exec_le (Nat.le_max_right f g)) h4⟩, h5⟩
  · rw [hd]; unfold setDst; dsimp only; rw [nblt, decide_eq_true hn]; rfl
  · rcases hck with hq | hq
    · rw [hq] at hc; cases hc
    · rw [hq, hsk] at hc; cases hc
/-- a read that looks at the blocks 'B' alone -/
theorem WD_rf {d : Nat} {v : AV} (hg : o.guard = none) (hd : o.dst = some d) (hn : Nat.blt d n = true) (hn' : Nat.blt n 1000001 = true) (hS : ∀ b ∈ B, S.h.get b = h0.get b)
    (hfp : ∀ e, Ag l e → cls X e o.op = .read ∧ FP X B h0 e o.op v) (hvv : veq v v = true) (h : WD X n all B h0 os (i + 1) ks Q ((d, v) :: l) S) : WD X n all B h0 (o :: os) i ks Q l S := by
  intro e he
  obtain ⟨hc, hf⟩ := hfp e he
  rw [nblt, decide_eq_true_eq] at hn hn'
  obtain ⟨g, e2, S2, h4, h5⟩ := h _ (he.put hn' hn)
  refine ⟨g, e2, S2, .inl ⟨wanted_none hg, v, S, e.put d v, ?_, ?_, by rw [hc]; exact hvv, fun _ => .inr hf, fun hl => (by rw [hc] at hl; cases hl), h4⟩, h5⟩
  · unfold oper; rw [hc]; dsimp only; rw [hf S.h hS]
  · rw [hd]; unfold setDst; dsimp only; rw [nblt, decide_eq_true hn]; rfl
/-- a loud operation, or a call, that leaves 'B' alone -/
theorem WD_ld {d : Nat} (hg : o.guard = none) (hd : o.dst = some d) (hn : Nat.blt d n = true) (hn' : Nat.blt n 1000001 = true) (hsk : isLC (sk X o.op) = true)
    (h : Ev X l S o.op fun v S' => (∀ b ∈ B, S'.h.get b = h0.get b) ∧ WD X n all B h0 os (i + 1) ks Q ((d, v) :: l) S') : WD X n all B h0 (o :: os) i ks Q l S := by
  intro e he
  unfold Ev at h
  obtain ⟨f, v, S1, h1, h2, hB, h3⟩ := h e he
  rw [nblt, decide_eq_true_eq] at hn hn'
  obtain ⟨g, e2, S2, h4, h5⟩ := h3 _ (he.put hn' hn)
  have hck := sk_ok h1
  refine ⟨max f g, e2, S2, .inl ⟨wanted_none hg, v, S1, e.put d v, oper_le (exec_le (Nat.le_max_left f g)) h1, ?_, h2, fun hc => ?_, fun _ => hB, RunB_le (exec_le (Nat.le_max_right f g)) h4⟩, h5⟩
  · rw [hd]; unfold setDst; dsimp only; rw [nblt, decide_eq_true hn]; rfl
  · rcases hck with hq | hq
    · rw [hq] at hc; cases hc
    · rw [hq] at hc; rw [hc] at hsk; cases hsk
theorem WD_ld0 (hg : o.guard = none) (hd : o.dst = none) (hsk : isLC (sk X o.op) = true)
    (h : Ev X l S o.op fun _ S' => (∀ b ∈ B, S'.h.get b = h0.get b) ∧ WD X n all B h0 os (i + 1) ks Q l S') : WD X n all B h0 (o :: os) i ks Q l S := by
  intro e he
  unfold Ev at h
  obtain ⟨f, v, S1, h1, h2, hB, h3⟩ := h e he
  obtain ⟨g, e2, S2, h4, h5⟩ := h3 _ he
  have hck := sk_ok h1
  refine ⟨max f g, e2, S2, .inl ⟨wanted_none hg, v, S1, e, oper_le (exec_le (Nat.le_max_left f g)) h1, ?_, h2, fun hc => ?_, fun _ => hB, RunB_le (exec_le (Nat.le_max_right f g)) h4⟩, h5⟩
  · rw [hd]; rfl
  · rcases hck with hq | hq
    · rw [hq] at hc; cases hc
    · rw [hq] at hc; rw [hc] at hsk; cases hsk
theorem WD_guard {j d0 : Nat} {want : Bool} {p : Oper} {c : Bool} {d : Nat} (hg : o.guard = some (j, want)) (hp : all[j]? = some p) (hd0 : p.dst = some d0) (hl : lk l d0 = some (.bool c)) (hd : o.dst = some d) (hn : Nat.blt d n = true) (hn' : Nat.blt n 1000001 = true)
    (h1 : c = want → WD X n all B h0 ({ o with guard := none } :: os) i ks Q ((d0, .bool want) :: l) S) (h2 : c = (!want) → WD X n all B h0 os (i + 1) ks Q ((d, .tup []) :: (d0, .bool (!want)) :: l) S) : WD X n all B h0 (o :: os) i ks Q l S := by
  intro e he
  rw [nblt, decide_eq_true_eq] at hn hn'
  have hat : e.at d0 = .bool c := he d0 _ hl
  have hag : ∀ b, c = b → Ag ((d0, .bool b) :: l) e := by
    intro b hb t v ht
    unfold lk at ht
    rw [nbeq, cond_dec] at ht
    by_cases hh : d0 = t
    · subst hh; rw [if_pos rfl] at ht; cases ht; rw [hat, hb]
    · rw [if_neg hh] at ht; exact he t v ht
  have hw : wanted all e o = (c == want) := by unfold wanted; rw [hg]; dsimp only; rw [hp]; dsimp only; rw [hd0]; dsimp only; rw [hat]
  by_cases hc : c = want
  · obtain ⟨f, e2, S2, h3, h4⟩ := h1 hc e (hag want hc)
    refine ⟨f, e2, S2, ?_, h4⟩
    have hw' : wanted all e o = true := by rw [hw, hc]; cases want <;> rfl
    unfold RunB at h3 ⊢
    rcases h3 with ⟨_, h3⟩ | ⟨h3, _⟩
    · exact .inl ⟨hw', h3⟩
    · rw [wanted_none rfl] at h3; cases h3
  · have hc' : c = (!want) := by cases c <;> cases want <;> simp_all
    obtain ⟨f, e2, S2, h3, h4⟩ := h2 hc' _ ((hag _ hc').put hn' hn)
    refine ⟨f, e2, S2, ?_, h4⟩
    have hw' : wanted all e o = false := by rw [hw, hc']; cases want <;> rfl
    refine .inr ⟨hw', e.put d (.tup []), ?_, h3⟩
    rw [hd]; unfold setDst; dsimp only; rw [nblt, decide_eq_true hn]; rfl
theorem WD_guard_dt {j d0 : Nat} {q : Oper} {p : Prop} [Decidable p] {d : Nat} (hg : o.guard = some (j, true)) (hp : all[j]? = some q) (hd0 : q.dst = some d0) (hl : lk l d0 = some (.bool (decide p))) (hd : o.dst = some d) (hn : Nat.blt d n = true) (hn' : Nat.blt n 1000001 = true)
    (h1 : p → WD X n all B h0 ({ o with guard := none } :: os) i ks Q ((d0, .bool true) :: l) S) (h2 : ¬ p → WD X n all B h0 os (i + 1) ks Q ((d, .tup []) :: (d0, .bool false) :: l) S) : WD X n all B h0 (o :: os) i ks Q l S :=
  WD_guard hg hp hd0 hl hd hn hn' (fun h => h1 (of_decide_eq_true h)) (fun h => h2 (of_decide_eq_false h))
theorem WD_guard_df {j d0 : Nat} {q : Oper} {p : Prop} [Decidable p] {d : Nat} (hg : o.guard = some (j, false)) (hp : all[j]? = some q) (hd0 : q.dst = some d0) (hl : lk l d0 = some (.bool (decide p))) (hd : o.dst = some d) (hn : Nat.blt d n = true) (hn' : Nat.blt n 1000001 = true)
    (h1 : ¬ p → WD X n all B h0 ({ o with guard := none } :: os) i ks Q ((d0, .bool false) :: l) S) (h2 : p → WD X n all B h0 os (i + 1) ks Q ((d, .tup []) :: (d0, .bool true) :: l) S) : WD X n all B h0 (o :: os) i ks Q l S :=
  WD_guard hg hp hd0 hl hd hn hn' (fun h => h1 (of_decide_eq_false h)) (fun h => h2 (of_decide_eq_true h))
theorem WD_guard_t {j d0 : Nat} {want : Bool} {p : Oper} {d : Nat} (hg : o.guard = some (j, want)) (hp : all[j]? = some p) (hd0 : p.dst = some d0) (hl : lk l d0 = some (.bool want)) (hd : o.dst = some d) (hn : Nat.blt d n = true) (hn' : Nat.blt n 1000001 = true)
    (h1 : WD X n all B h0 ({ o with guard := none } :: os) i ks Q l S) : WD X n all B h0 (o :: os) i ks Q l S := by
  refine WD_guard hg hp hd0 hl hd hn hn' (fun _ => ?_) (fun h => ?_)
  · intro e he
    exact h1 e (fun t v ht => he t v (by
      unfold lk; rw [nbeq, cond_dec]
      by_cases hh : d0 = t
      · subst hh; rw [hl] at ht; cases ht; rw [if_pos rfl]
      · rw [if_neg hh]; exact ht))
  · cases want <;> cases h
theorem WD_skip {d : Nat} (hd : o.dst = some d) (hn : Nat.blt d n = true) (hn' : Nat.blt n 1000001 = true) (hw : ∀ e, Ag l e → wanted all e o = false) (h2 : WD X n all B h0 os (i + 1) ks Q ((d, .tup []) :: l) S) : WD X n all B h0 (o :: os) i ks Q l S := by
  intro e he
  rw [nblt, decide_eq_true_eq] at hn hn'
  obtain ⟨f, e2, S2, h3, h4⟩ := h2 _ (he.put hn' hn)
  refine ⟨f, e2, S2, .inr ⟨hw e he, e.put d (.tup []), ?_, h3⟩, h4⟩
  rw [hd]; unfold setDst; dsimp only; rw [nblt, decide_eq_true hn]; rfl
theorem WD_guard_f {j d0 : Nat} {want c : Bool} {p : Oper} {d : Nat} (hg : o.guard = some (j, want)) (hp : all[j]? = some p) (hd0 : p.dst = some d0) (hl : lk l d0 = some (.bool c)) (hc : (c == want) = false) (hd : o.dst = some d) (hn : Nat.blt d n = true) (hn' : Nat.blt n 1000001 = true)
    (h2 : WD X n all B h0 os (i + 1) ks Q ((d, .tup []) :: l) S) : WD X n all B h0 (o :: os) i ks Q l S :=
  WD_skip hd hn hn' (fun e he => by unfold wanted; rw [hg]; dsimp only; rw [hp]; dsimp only; rw [hd0]; dsimp only; rw [he d0 _ hl]; exact hc) h2
theorem WD_guard_x {j d0 : Nat} {want : Bool} {p : Oper} {d : Nat} (hg : o.guard = some (j, want)) (hp : all[j]? = some p) (hd0 : p.dst = some d0) (hl : lk l d0 = some (.tup [])) (hd : o.dst = some d) (hn : Nat.blt d n = true) (hn' : Nat.blt n 1000001 = true)
    (h2 : WD X n all B h0 os (i + 1) ks Q ((d, .tup []) :: l) S) : WD X n all B h0 (o :: os) i ks Q l S :=
  WD_skip hd hn hn' (fun e he => by unfold wanted; rw [hg]; dsimp only; rw [hp]; dsimp only; rw [hd0]; dsimp only; rw [he d0 _ hl]) h2
/-! footprints -/
theorem load_eq {e : Env} {H : Tr AB} {t : Nat} {x : Operand} {p : AV} {o : Nat} {i : TI} {cs : List AV} {v : AV} {m : Nat} (hx : opd e x = some p) (hi : X.ti t = some i) (hag : aggD i.desc = false) (hp : Pt { h := H, n := m } p cs o) (hv : cs[o]? = some v) : readOp X e H (.load t x) = some v := by
  have hlt := (List.getElem?_eq_some_iff.1 hv).1
  unfold readOp; dsimp only; rw [hx]
  rcases hp with ⟨b, o0, ty, cs0, sp, rfl, h2, h3, h4⟩ | rfl
  · dsimp only; unfold loadAt; rw [hi]; dsimp only
    split
    · rename_i h; rw [h] at hag; cases hag
    · rename_i h; rw [h] at hag; cases hag
    · rw [h2]; dsimp only; rw [h4 o hlt]; exact hv
  · dsimp only; unfold loadR; rw [hi]; dsimp only
    split
    · rename_i h; rw [h] at hag; cases hag
    · rename_i h; rw [h] at hag; cases hag
    · exact hv
theorem FP_load {t : Nat} {x : Operand} {p : AV} {o : Nat} {i : TI} {cs : List AV} {v : AV} (hx : od l x = some p) (hi : X.ti t = some i) (hag : aggD i.desc = false) (hS : ∀ b ∈ B, S.h.get b = h0.get b) (hb : ∀ b, blkOf p = some b → b ∈ B) (hp : Pt S p cs o) (hv : cs[o]? = some v) :
    ∀ e, Ag l e → cls X e (.load t x) = .read ∧ FP X B h0 e (.load t x) v := fun _ he =>
  ⟨rfl, fun H hH => load_eq (m := S.n) (od_ok he hx) hi hag (hp.keep fun b h => by show H.get b = _; rw [hH b (hb b h), hS b (hb b h)]) hv⟩
theorem conv_eq {e : Env} {H : Tr AB} {x : Operand} {s d el m m' : Nat} {si di ei : TI} {v : AV} {cs : List AV} {z : List Nat} (hx : opd e x = some v) (hs : X.ti s = some si) (hd : X.ti d = some di) (hdd : di.desc = .string) (hsd : si.desc = .slice el) (he' : X.ti el = some ei) (hk : ei.desc = .int .u8) (hrd : Rd { h := H, n := m' } v 1 cs m) (hz : bytesOf cs = some z) : readOp X e H (.convert s d x) = some (.str z) := by
  unfold readOp; dsimp only; rw [hx]; dsimp only; rw [hd]; dsimp only; rw [hs]; dsimp only; rw [hdd]; dsimp only; rw [hsd]; dsimp only; rw [he']; dsimp only; rw [hk]
  have h2 := hrd.cells
  have h3 := hrd.len
  have h4 := hrd.size
  cases v with
  | slice b o n k =>
    cases h3
    unfold srcCells at h2; dsimp only at h2 ⊢
    rw [Nat.mul_one] at h2; rw [h2]; dsimp only; rw [hz]
  | rsl cs0 n z0 =>
    cases h3
    have hz0 : z0 = 1 ∧ cs0.length = m * z0 := by have := hrd.cap; simpa [capW] using this
    obtain ⟨hz0, hl0⟩ := hz0
    subst hz0
    unfold srcCells at h2; dsimp only at h2 ⊢
    rw [nbeq, nble, ← Bool.decide_and, cond_dec] at h2
    split at h2
    · cases h2
      rw [List.take_of_length_le (by omega)] at hz
      rw [show Nat.beq 1 1 = true from rfl]
      simp only [cond_true]
      rw [hz]
    · cases h2
  | nils => cases h3; cases List.eq_nil_of_length_eq_zero (by omega : cs.length = 0); cases hz; rfl
  | emp => cases h3; cases List.eq_nil_of_length_eq_zero (by omega : cs.length = 0); cases hz; rfl
  | _ => have := hrd.sl; cases this
theorem FP_conv {x : Operand} {s d el m : Nat} {si di ei : TI} {v : AV} {cs : List AV} {z : List Nat} (hx : od l x = some v) (hs : X.ti s = some si) (hd : X.ti d = some di) (hdd : di.desc = .string) (hsd : si.desc = .slice el) (he' : X.ti el = some ei) (hk : ei.desc = .int .u8) (hS : ∀ b ∈ B, S.h.get b = h0.get b) (hb : ∀ b, blkOf v = some b → b ∈ B) (hrd : Rd S v 1 cs m) (hz : bytesOf cs = some z) :
    ∀ e, Ag l e → cls X e (.convert s d x) = .read ∧ FP X B h0 e (.convert s d x) (.str z) := fun _ he =>
  ⟨by unfold cls; dsimp only; rw [hs]; dsimp only; rw [hsd]; dsimp only; rw [hd]; dsimp only; rw [hdd], fun H hH => conv_eq (m' := S.n) (od_ok he hx) hs hd hdd hsd he' hk (hrd.keep fun b h => by show H.get b = _; rw [hH b (hb b h), hS b (hb b h)]) hz⟩
end
end
end GX
/- GX: a region that draws its order, where a read may look at what operations ahead of it have made, if later loud operations leave that alone. -/

namespace GX
open Go
/-- what a block holds, from one operation on (or from the start) -/
structure Fct where
  id : Nat
  x : AB
  src : Option Nat
def FPD (X : X) (D : List Fct) (ms : List Nat) (i : Nat) (e : Env) (op : Op) (v : AV) : Prop := ∀ H : Tr AB, (∀ f ∈ D, (∀ j, f.src = some j → inM ms i j = true) → H.get f.id = some f.x) → readOp X e H op = some v
/-- a run in the text's order, where reads that are not ordered look at known blocks, and loud operations leave these alone -/
def RunF (X : X) (rec : Rec) (n : Nat) (all : List Oper) : List Fct → List Oper → Nat → Env → St → Env → St → Prop
  | _, [], _, e, S, e', S' => e' = e ∧ S' = S
  | D, o :: os, i, e, S, e', S' =>
    (wanted all e o = true ∧ ∃ v S1 e1 N, oper X rec e S o.op = some (v, S1) ∧ setDst n e o.dst v = some e1 ∧ rdv (cls X e o.op) v = true ∧
      (cls X e o.op = .read → rdStat (masks all []) (all.map (fun o => sk X o.op)) i = true ∨ FPD X D (masks all []) i e o.op v) ∧
      (isLC (cls X e o.op) = true → ∀ f ∈ D, S1.h.get f.id = some f.x) ∧
      (∀ f ∈ N, f.src = some i ∧ f.id < S1.n ∧ S1.h.get f.id = some f.x ∧ (isLC (cls X e o.op) = true ∨ cls X e o.op = .alloc ∧ f.id = S.n)) ∧ RunF X rec n all (D ++ N) os (i + 1) e1 S1 e' S') ∨
    (wanted all e o = false ∧ ∃ e1, setDst n e o.dst (.tup []) = some e1 ∧ RunF X rec n all D os (i + 1) e1 S e' S')
theorem RunF_le {X : X} {rec rec' : Rec} (hr : RecLe rec rec') {n : Nat} {all : List Oper} : ∀ {D : List Fct} {os : List Oper} {i : Nat} {e : Env} {S : St} {e' S'}, RunF X rec n all D os i e S e' S' → RunF X rec' n all D os i e S e' S'
  | _, [], _, _, _, _, _, h => h
  | _, o :: os, i, e, S, e', S', h => by
    unfold RunF at h ⊢
    rcases h with ⟨hw, v, S1, e1, N, h1, h2, h3, h4, h5, h6, h7⟩ | ⟨hw, e1, h1, h2⟩
    · exact .inl ⟨hw, v, S1, e1, N, oper_le hr h1, h2, h3, h4, h5, h6, RunF_le hr h7⟩
    · exact .inr ⟨hw, e1, h1, RunF_le hr h2⟩
theorem RunF_n {X : X} {rec : Rec} {n : Nat} {all : List Oper} : ∀ {D : List Fct} {os : List Oper} {i : Nat} {e : Env} {S : St} {e' S'}, RunF X rec n all D os i e S e' S' → S.n ≤ S'.n
  | _, [], _, _, _, _, _, h => by unfold RunF at h; rw [h.2]; exact Nat.le_refl _
  | _, o :: os, i, e, S, e', S', h => by
    unfold RunF at h
    rcases h with ⟨_, v, S1, e1, N, h1, _, _, _, _, _, h6⟩ | ⟨_, e1, _, h2⟩
    · exact Nat.le_trans (oper_n h1) (RunF_n h6)
    · exact RunF_n h2
def R.isL (r : R) : Prop := ∃ h' m, r.k = .ld h' m
theorem hOf_has {recs : List R} {id a : Nat} {x : AB} : ∀ {js : List Nat} {h : Tr AB}, js.Pairwise (· < ·) → (∀ j ∈ js, ∃ r h' m, recs[j]? = some r ∧ r.k = .ld h' m ∧ (a ≤ j → h'.get id = some x)) →
    ((h.get id = some x ∧ ∀ j ∈ js, a ≤ j) ∨ ∃ j ∈ js, a ≤ j) → (hOf recs h js).get id = some x
  | [], h, _, _, hh => by
    rcases hh with hh | ⟨j, hj, _⟩
    · exact hh.1
    · cases hj
  | j :: js, h, hp, hr, hh => by
    obtain ⟨r, h', m, h1, h2, h3⟩ := hr j (List.mem_cons_self ..)
    rw [List.pairwise_cons] at hp
    unfold hOf
    rw [h1]; dsimp only; rw [h2]; dsimp only
    refine hOf_has hp.2 (fun k hk => hr k (List.mem_cons_of_mem _ hk)) ?_
    by_cases ha : a ≤ j
    · exact .inl ⟨h3 ha, fun k hk => by have := hp.1 k hk; omega⟩
    · rcases hh with hh | ⟨k, hk, hk2⟩
      · exact absurd (hh.2 j (List.mem_cons_self ..)) ha
      · rcases List.mem_cons.1 hk with rfl | hk
        · exact absurd hk2 ha
        · exact .inr ⟨k, hk, hk2⟩
/-- a fact, and what the plan has put down -/
def FI (ms : List Nat) (N0 : Nat) (h0 : Tr AB) (acc : List R) (f : Fct) : Prop :=
  (f.src = none ∧ f.id < N0 ∧ h0.get f.id = some f.x ∧ ∀ (k : Nat) (r : R) h' m, acc[k]? = some r → r.k = .ld h' m → h'.get f.id = some f.x) ∨
  ∃ j r, f.src = some j ∧ acc[j]? = some r ∧ ((r.k = .mk f.x ∧ r.n0 = f.id) ∨ (∃ h' m, r.k = .ld h' m ∧ h'.get f.id = some f.x ∧ f.id < m ∧ ∀ (k : Nat) (r : R) b, acc[k]? = some r → r.k = .mk b → k < j → inM ms j k = true)) ∧
    ∀ (k : Nat) (r : R) h' m, acc[k]? = some r → r.k = .ld h' m → j < k → h'.get f.id = some f.x
theorem FI_snoc {ms : List Nat} {N0 : Nat} {h0 : Tr AB} {acc : List R} {f : Fct} {r : R} (h : FI ms N0 h0 acc f) (hr : ∀ h' m, r.k = .ld h' m → h'.get f.id = some f.x) : FI ms N0 h0 (acc ++ [r]) f := by
  have key : ∀ (k : Nat) (r' : R), (acc ++ [r])[k]? = some r' → acc[k]? = some r' ∨ (k = acc.length ∧ r' = r) := by
    intro k r' hk
    by_cases hlt : k < acc.length
    · rw [List.getElem?_append_left hlt] at hk; exact .inl hk
    · have h2 : k = acc.length := by
        have := (List.getElem?_eq_some_iff.1 hk).1
        simp at this; omega
      subst h2
      simp at hk; exact .inr ⟨rfl, hk.symm⟩
  rcases h with ⟨h1, h2, h3, h4⟩ | ⟨j, r0, h1, h2, h3, h4⟩
  · refine .inl ⟨h1, h2, h3, fun k r' h' m hk hl => ?_⟩
    rcases key k r' hk with hk | ⟨_, rfl⟩
    · exact h4 k r' h' m hk hl
    · exact hr h' m hl
  · have hj : j < acc.length := (List.getElem?_eq_some_iff.1 h2).1
    refine .inr ⟨j, r0, h1, by rw [List.getElem?_append_left hj]; exact h2, ?_, ?_⟩
    · rcases h3 with h3 | ⟨h', m, a1, a2, a3, a4⟩
      · exact .inl h3
      · refine .inr ⟨h', m, a1, a2, a3, ?_⟩
        intro k r' b hk hb hlt
        rcases key k r' hk with hk | ⟨hk, _⟩
        · exact a4 k r' b hk hb hlt
        · omega
    · intro k r' h' m hk hl hlt
      rcases key k r' hk with hk | ⟨_, rfl⟩
      · exact h4 k r' h' m hk hl hlt
      · exact hr h' m hl
theorem FI_get {ms : List Nat} {N0 i : Nat} {h0 : Tr AB} {recs : List R} {f : Fct} {pf : List Nat} (hbd : ∀ (k : Nat) (r : R) b, recs[k]? = some r → r.k = .mk b → N0 ≤ r.n0 ∧ r.n0 < 1000000000)
    (hmono : ∀ (q q' : Nat) (r r' : R), q < q' → recs[q]? = some r → recs[q']? = some r' → r.n1 ≤ r'.n0) (hpf : pf.Pairwise (· < ·)) (hld : ∀ j ∈ pf, ∃ r, recs[j]? = some r ∧ r.isL) (hlt : ∀ j k, inM ms j k = true → k < j)
    (h : FI ms N0 h0 recs f) (hu : ∀ j, f.src = some j → inM ms i j = true ∧ ((∃ r, recs[j]? = some r ∧ r.isL) → j ∈ pf)) : (gh ms pf (inM ms i) recs 0 (hOf recs h0 pf)).get f.id = some f.x := by
  have hbd' := fun k r b h1 h2 => (hbd k r b h1 h2).2
  rcases h with ⟨_, h2, h3, h4⟩ | ⟨j, r, h1, h2, h3, h4⟩
  · rw [gh_miss hbd' (fun k r b a1 a2 _ _ => by have := (hbd k r b a1 a2).1; omega)]
    refine hOf_has (a := 0) hpf (fun k hk => ?_) (.inl ⟨h3, fun _ _ => Nat.zero_le _⟩)
    obtain ⟨r, b1, h', m, b2⟩ := hld k hk
    exact ⟨r, h', m, b1, b2, fun _ => h4 k r h' m b1 b2⟩
  · obtain ⟨u1, u2⟩ := hu j h1
    rcases h3 with ⟨g1, g2⟩ | ⟨h', m, g1, g2, g3, g4⟩
    · by_cases hun : Unm ms pf j
      · rw [← g2]
        exact gh_hit hbd' hmono h2 g1 (by rw [Nat.zero_add]; exact u1) (by rw [Nat.zero_add]; exact hun)
      · have huni : ∀ (k : Nat) (r' : R) b, recs[k]? = some r' → r'.k = .mk b → r'.n0 = f.id → k = j := by
          intro k r' b a1 a2 a3
          rcases Nat.lt_trichotomy k j with hk | hk | hk
          · have := hmono k j r' r hk a1 h2
            simp [R.n1, a2] at this; omega
          · exact hk
          · have := hmono j k r r' hk h2 a1
            simp [R.n1, g1] at this; omega
        rw [gh_miss hbd' (fun k r' b a1 a2 _ a4 a5 => by
          have := huni k r' b a1 a2 a5; subst this
          rw [Nat.zero_add] at a4; exact hun a4)]
        have hex : ∃ q ∈ pf, j + 1 ≤ q := by
          refine Classical.byContradiction fun hne => hun fun q hq => ?_
          cases hqq : inM ms q j with
          | false => rfl
          | true => exact absurd ⟨q, hq, hlt q j hqq⟩ hne
        refine hOf_has (a := j + 1) hpf (fun k hk => ?_) (.inr hex)
        obtain ⟨r', b1, h', m, b2⟩ := hld k hk
        exact ⟨r', h', m, b1, b2, fun hl => h4 k r' h' m b1 b2 hl⟩
    · have hjp := u2 ⟨r, h2, h', m, g1⟩
      rw [gh_miss hbd' (fun k r' b a1 a2 _ a4 a5 => by
        rcases Nat.lt_trichotomy k j with hk | hk | hk
        · have e1 := g4 k r' b a1 a2 hk
          rw [Nat.zero_add] at a4
          have e2 := a4 j hjp
          rw [e1] at e2; cases e2
        · subst hk; rw [h2] at a1; cases a1; rw [g1] at a2; cases a2
        · have := hmono j k r r' hk h2 a1
          simp [R.n1, g1] at this; omega)]
      refine hOf_has (a := j) hpf (fun k hk => ?_) (.inr ⟨j, hjp, Nat.le_refl _⟩)
      obtain ⟨r', b1, h'', m', b2⟩ := hld k hk
      refine ⟨r', h'', m', b1, b2, fun hl => ?_⟩
      rcases Nat.lt_or_ge j k with hk2 | hk2
      · exact h4 k r' h'' m' b1 b2 hk2
      · have : k = j := by omega
        subst this
        rw [h2] at b1; cases b1; rw [g1] at b2; cases b2; exact g2
end GX
/- GX: a region that draws its order gives what the text's order gives, where reads look at blocks that later loud operations leave alone. -/

namespace GX
open Go
section
variable {X : X} {rec : Rec} {n : Nat} {ops : List Oper} {e : Env} {h0 : Tr AB}
def RFF (X : _root_.GX.X) (n : Nat) (ops : List Oper) (N0 : Nat) (e : Env) (h0 : Tr AB) (recs : List R) (lds : List Nat) (i : Nat) (o : Oper) (r : R) : Prop :=
  r.k = .rd → ∃ l1 l2 ei, lds = l1 ++ l2 ∧ (∀ j ∈ l1, j < i) ∧ (∀ j ∈ l2, i < j) ∧ (∀ t ∈ looks ops o, lookT (masks ops []) ops (recs.take i) e i t = some (ei.at t)) ∧ (∀ t ∈ looks ops o, t < n) ∧
    sk X o.op = .read ∧ veq r.v r.v = true ∧ ((rdStat (masks ops []) (ops.map (fun o => sk X o.op)) i = true ∧ readOp X ei (gh (masks ops []) l1 (fun _ => true) (recs.take i) 0 (hOf (recs.take i) h0 l1)) o.op = some r.v) ∨ ∃ D, FPD X D (masks ops []) i ei o.op r.v ∧ ∀ f ∈ D, FI (masks ops []) N0 h0 recs f)
theorem plan_seqF {N0 : Nat} (hn : n < 1000001) (hE : edgesOk ops 0 = true) (hD : dstsOk n ops = true) (hK : seqB1 ops (masks ops []) (ops.map (fun o => sk X o.op)) n ops 0 = true) :
    ∀ (D : List Fct) (os pre : List Oper) (acc : List R) (lds : List Nat) (S : St) (ei : Env) (e' : Env) (S' : St), ops = pre ++ os → acc.length = pre.length → putAll n pre acc e = some ei →
    (∀ (k : Nat) (r : R) b, acc[k]? = some r → r.k = .mk b → (ops.map (fun o => sk X o.op)).getD k .pure = .alloc ∧ N0 ≤ r.n0 ∧ r.n0 < 1000000000) →
    (∀ f ∈ D, FI (masks ops []) N0 h0 acc f) →
    (∀ (k : Nat) (r : R), acc[k]? = some r → r.isL → k ∈ lds) → (∀ (q q' : Nat) (r r' : R), q < q' → acc[q]? = some r → acc[q']? = some r' → r.n1 ≤ r'.n0) → (∀ (q : Nat) (r : R), acc[q]? = some r → r.n1 ≤ S.n) →
    N0 ≤ S.n →
    (∀ j ∈ lds, j < pre.length ∧ isLC ((ops.map (fun o => sk X o.op)).getD j .pure) = true ∧ ∃ r, acc[j]? = some r ∧ r.isL) →
    lds.Pairwise (· < ·) →
    S.h = gh (masks ops []) lds (fun _ => true) acc 0 (hOf acc h0 lds) →
    RunF X rec n ops D os pre.length ei S e' S' →
    ∃ tl l2, plan X rec n ops (masks ops []) e os pre.length acc lds (hOf acc h0 lds) S.n = some (acc ++ tl, lds ++ l2, S'.n) ∧
      (∀ j ∈ l2, pre.length ≤ j ∧ isLC ((ops.map (fun o => sk X o.op)).getD j .pure) = true) ∧ putAll n ops (acc ++ tl) e = some e' ∧
      S'.h = gh (masks ops []) (lds ++ l2) (fun _ => true) (acc ++ tl) 0 (hOf (acc ++ tl) h0 (lds ++ l2)) ∧ tl.length = os.length ∧ (lds ++ l2).Pairwise (· < ·) ∧ (∀ (k : Nat) (r : R) b, (acc ++ tl)[k]? = some r → r.k = .mk b → (ops.map (fun o => sk X o.op)).getD k .pure = .alloc ∧ N0 ≤ r.n0 ∧ r.n0 < 1000000000) ∧ (∀ f ∈ D, FI (masks ops []) N0 h0 (acc ++ tl) f) ∧ (∀ (k : Nat) (r : R), (acc ++ tl)[k]? = some r → r.isL → k ∈ lds ++ l2) ∧ (∀ (q q' : Nat) (r r' : R), q < q' → (acc ++ tl)[q]? = some r → (acc ++ tl)[q']? = some r' → r.n1 ≤ r'.n0) ∧ (∀ j ∈ lds ++ l2, ∃ r, (acc ++ tl)[j]? = some r ∧ r.isL) ∧
      ∀ (k : Nat) (o : Oper) (r : R), os[k]? = some o → tl[k]? = some r → RFF X n ops N0 e h0 (acc ++ tl) (lds ++ l2) (pre.length + k) o r
  | D, [], pre, acc, lds, S, ei, e', S', hp, hl, hput, hmk, hF, hal, hmo, _, _, hld, hpw, hh, h => by
    unfold RunF at h
    obtain ⟨rfl, rfl⟩ := h
    refine ⟨[], [], ?_, fun j hj => by simp at hj, ?_, ?_, rfl, by simpa using hpw, by simpa using hmk, by simpa using hF, by simpa using hal, by simpa using hmo, fun j hj => by simpa using (hld j (by simpa using hj)).2.2, fun k o r hk => by simp at hk⟩
    · simp [plan]
    · simp only [List.append_nil] at hp ⊢; rw [hp]; exact hput
    · simpa using hh
  | D, o :: os, pre, acc, lds, S, ei, e', S', hp, hl, hput, hmk, hF, hal, hmo, hmn, hN, hld, hpw, hh, h => by
    have ho : ops[pre.length]? = some o := by rw [hp]; simp
    have hsk : (ops.map (fun o => sk X o.op)).getD pre.length .pure = sk X o.op := by
      rw [List.getD_eq_getElem?_getD, List.getElem?_map, ho]; rfl
    obtain ⟨hk1, hk2⟩ := seqB1_at hK pre.length o ho
    simp only [Nat.zero_add] at hk1 hk2
    rw [hsk] at hk2
    have hlk := looks_seq hn hE hD hp hl hput hk1
    obtain ⟨re, hre, hag⟩ := renv_good (es := ei) hn hlk
    have hoe : OE re ei o.op := OE_of hag
    have hp' : ops = (pre ++ [o]) ++ os := by rw [hp]; simp
    -- what goes on behind
    have fin : ∀ (r : R) (ldn : List Nat) (S1 : St) (e1 : Env) (N : List Fct), setDst n ei o.dst r.v = some e1 → (∀ b, r.k = .mk b → sk X o.op = .alloc ∧ N0 ≤ r.n0 ∧ r.n0 < 1000000000) → (∀ h' m, r.k = .ld h' m → ∀ f ∈ D, h'.get f.id = some f.x) → (∀ f ∈ N, FI (masks ops []) N0 h0 (acc ++ [r]) f) → r.n0 = S.n → r.n1 = S1.n → S.n ≤ S1.n → N0 ≤ S1.n → (ldn = [] ∧ ¬ r.isL ∨ ldn = [pre.length] ∧ isLC (sk X o.op) = true ∧ r.isL) →
        S1.h = gh (masks ops []) (lds ++ ldn) (fun _ => true) (acc ++ [r]) 0 (hOf (acc ++ [r]) h0 (lds ++ ldn)) →
        (r.k = .rd → ldn = [] ∧ sk X o.op = .read ∧ veq r.v r.v = true ∧ ((rdStat (masks ops []) (ops.map (fun o => sk X o.op)) pre.length = true ∧ readOp X ei S.h o.op = some r.v) ∨ FPD X D (masks ops []) pre.length ei o.op r.v)) →
        RunF X rec n ops (D ++ N) os (pre.length + 1) e1 S1 e' S' →
        plan X rec n ops (masks ops []) e (o :: os) pre.length acc lds (hOf acc h0 lds) S.n = plan X rec n ops (masks ops []) e os (pre.length + 1) (acc ++ [r]) (lds ++ ldn) (hOf (acc ++ [r]) h0 (lds ++ ldn)) S1.n →
        ∃ tl l2, plan X rec n ops (masks ops []) e (o :: os) pre.length acc lds (hOf acc h0 lds) S.n = some (acc ++ tl, lds ++ l2, S'.n) ∧
          (∀ j ∈ l2, pre.length ≤ j ∧ isLC ((ops.map (fun o => sk X o.op)).getD j .pure) = true) ∧ putAll n ops (acc ++ tl) e = some e' ∧
          S'.h = gh (masks ops []) (lds ++ l2) (fun _ => true) (acc ++ tl) 0 (hOf (acc ++ tl) h0 (lds ++ l2)) ∧ tl.length = (o :: os).length ∧ (lds ++ l2).Pairwise (· < ·) ∧ (∀ (k : Nat) (r : R) b, (acc ++ tl)[k]? = some r → r.k = .mk b → (ops.map (fun o => sk X o.op)).getD k .pure = .alloc ∧ N0 ≤ r.n0 ∧ r.n0 < 1000000000) ∧ (∀ f ∈ D, FI (masks ops []) N0 h0 (acc ++ tl) f) ∧ (∀ (k : Nat) (r : R), (acc ++ tl)[k]? = some r → r.isL → k ∈ lds ++ l2) ∧ (∀ (q q' : Nat) (r r' : R), q < q' → (acc ++ tl)[q]? = some r → (acc ++ tl)[q']? = some r' → r.n1 ≤ r'.n0) ∧ (∀ j ∈ lds ++ l2, ∃ r, (acc ++ tl)[j]? = some r ∧ r.isL) ∧
          ∀ (k : Nat) (o' : Oper) (r : R), (o :: os)[k]? = some o' → tl[k]? = some r → RFF X n ops N0 e h0 (acc ++ tl) (lds ++ l2) (pre.length + k) o' r := by
      intro r ldn S1 e1 N hset hmk1 hlb1 hNf hr0 hr1 hnS1 hN1 hldn hh1 hrd hrun hplan
      have hlast : ∀ (k : Nat) (r' : R), (acc ++ [r])[k]? = some r' → acc[k]? = some r' ∨ (k = acc.length ∧ r' = r) := by
        intro k r' hk
        by_cases hlt : k < acc.length
        · rw [List.getElem?_append_left hlt] at hk; exact .inl hk
        · have h2 : k = acc.length := by
            have := (List.getElem?_eq_some_iff.1 hk).1
            simp at this; omega
          subst h2
          simp at hk; exact .inr ⟨rfl, hk.symm⟩
      obtain ⟨tl, l2, p1, p2, p3, p4, p5, ppw, pmk, pF, pal, pmo, pld, p6⟩ := plan_seqF hn hE hD hK (D ++ N) os (pre ++ [o]) (acc ++ [r]) (lds ++ ldn) S1 e1 e' S' hp' (by simp [hl]) (putAll_snoc hput hset)
        (by
          intro k r' b hk hb
          by_cases hlt : k < acc.length
          · rw [List.getElem?_append_left hlt] at hk; exact hmk k r' b hk hb
          · have : k = acc.length := by
              have := (List.getElem?_eq_some_iff.1 hk).1
              simp at this; omega
            subst this
            simp at hk; subst hk
            rw [hl, hsk]; exact hmk1 b hb)
        (by
          intro f hf
          rcases List.mem_append.1 hf with hf | hf
          · exact FI_snoc (hF f hf) (fun h' m hk => hlb1 h' m hk f hf)
          · exact hNf f hf)
        (by
          intro k r' hk hkl
          rcases hlast k r' hk with hk | ⟨rfl, rfl⟩
          · exact List.mem_append_left _ (hal k r' hk hkl)
          · rcases hldn with ⟨_, hq⟩ | ⟨hq, _⟩
            · exact absurd hkl hq
            · rw [hq, hl]; simp)
        (by
          intro q q' r1 r2 hlt h1 h2
          rcases hlast q' r2 h2 with h2 | ⟨rfl, rfl⟩
          · have hlt2 := (List.getElem?_eq_some_iff.1 h2).1
            rcases hlast q r1 h1 with h1 | ⟨rfl, rfl⟩
            · exact hmo q q' r1 r2 hlt h1 h2
            · omega
          · rcases hlast q r1 h1 with h1 | ⟨rfl, rfl⟩
            · rw [hr0]; exact hmn q r1 h1
            · omega)
        (by
          intro q r1 h1
          rcases hlast q r1 h1 with h1 | ⟨rfl, rfl⟩
          · have h2 := hmn q r1 h1
            have h3 : r.n0 ≤ r.n1 := by
              rw [hr1, hr0]; exact hnS1
            omega
          · omega)
        hN1
        (by
          intro j hj
          rw [List.mem_append] at hj
          rcases hj with hj | hj
          · obtain ⟨g1, g2, r', g3, g4⟩ := hld j hj; exact ⟨by simp; omega, g2, r', by rw [List.getElem?_append_left (List.getElem?_eq_some_iff.1 g3).1]; exact g3, g4⟩
          · rcases hldn with ⟨hq, _⟩ | ⟨hq, hq2, hq3⟩
            · rw [hq] at hj; simp at hj
            · rw [hq] at hj; simp at hj; subst hj; exact ⟨by simp, by rw [hsk]; exact hq2, r, by rw [← hl]; simp, hq3⟩)
        (by
          rw [List.pairwise_append]
          refine ⟨hpw, ?_, fun a ha b hb => ?_⟩
          · rcases hldn with ⟨hq, _⟩ | ⟨hq, _⟩ <;> rw [hq] <;> simp
          · rcases hldn with ⟨hq, _⟩ | ⟨hq, _⟩
            · rw [hq] at hb; simp at hb
            · rw [hq] at hb; simp at hb; subst hb; exact (hld a ha).1)
        hh1 (by rw [List.length_append, List.length_singleton]; exact hrun)
      rw [List.length_append, List.length_singleton] at p1
      refine ⟨r :: tl, ldn ++ l2, ?_, ?_, ?_, ?_, by simp [p5], by simpa using ppw, by simpa using pmk, fun f hf => by simpa using pF f (List.mem_append_left _ hf), by simpa using pal, by simpa using pmo, by simpa using pld, ?_⟩
      · rw [hplan, p1]; simp
      · intro j hj
        rw [List.mem_append] at hj
        rcases hj with hj | hj
        · rcases hldn with ⟨hq, _⟩ | ⟨hq, hq2, _⟩
          · rw [hq] at hj; simp at hj
          · rw [hq] at hj; simp at hj; subst hj; exact ⟨Nat.le_refl _, by rw [hsk]; exact hq2⟩
        · have h1 := (p2 j hj).1; simp only [List.length_append, List.length_singleton] at h1; exact ⟨by omega, (p2 j hj).2⟩
      · rw [← p3]; simp
      · rw [p4]; simp
      · intro k o' r' hk hr'
        cases k with
        | zero =>
          simp at hk hr'; subst hk; subst hr'
          intro hrk
          obtain ⟨q1, q2, q4, q3⟩ := hrd hrk
          subst q1
          refine ⟨lds, l2, ei, by simp, fun j hj => by have := (hld j hj).1; simpa using this, fun j hj => by have := (p2 j hj).1; simp only [List.length_append, List.length_singleton] at this; omega, ?_, fun t ht => (hlk t ht).1, q2, q4, q3.imp (fun q => ⟨by simpa using q.1, ?_⟩) (fun q => ⟨D, by simpa using q, fun f hf => by simpa using pF f (List.mem_append_left _ hf)⟩)⟩
          · intro t ht
            have : (acc ++ r :: tl).take (pre.length + 0) = acc := by rw [Nat.add_zero, ← hl]; simp
            rw [this]
            exact (hlk t ht).2
          · have : (acc ++ r :: tl).take (pre.length + 0) = acc := by rw [Nat.add_zero, ← hl]; simp
            rw [this, ← hh]; exact q.2
        | succ k =>
          have := p6 k o' r' (by simpa using hk) (by simpa using hr')
          simp only [List.length_append, List.length_singleton, List.append_assoc, List.singleton_append] at this
          rw [show pre.length + (k + 1) = pre.length + 1 + k by omega]
          exact this
    have hwc : wanted ops re o = wanted ops ei o := wanted_congr hag
    have hldlt : ∀ j ∈ lds, j < (acc).length := fun j hj => by rw [hl]; exact (hld j hj).1
    have hOfs : ∀ r : R, hOf (acc ++ [r]) h0 lds = hOf acc h0 lds := fun r => hOf_append hldlt
    have hgs : ∀ r : R, (∀ b, r.k ≠ .mk b) → gh (masks ops []) lds (fun _ => true) (acc ++ [r]) 0 (hOf (acc ++ [r]) h0 lds) = S.h := by
      intro r hr
      rw [hOfs, gh_snoc, ← hh]
      unfold ghStep
      split
      · rename_i b hb; exact absurd hb (hr b)
      · rfl
    have hgc : (∀ (k : Nat), k < pre.length → (ops.map (fun o => sk X o.op)).getD k .pure = .alloc → inM (masks ops []) pre.length k = true) → gh (masks ops []) lds (inM (masks ops []) pre.length) acc 0 (hOf acc h0 lds) = S.h := by
      intro hq
      rw [hh]
      apply gh_congr
      intro k r b h1 h2
      have hkl : k < pre.length := by have := (List.getElem?_eq_some_iff.1 h1).1; omega
      simp only [Nat.zero_add]
      exact hq k hkl (hmk k r b h1 h2).1
    have hgB : ∀ f ∈ D, (∀ j, f.src = some j → inM (masks ops []) pre.length j = true) → (gh (masks ops []) lds (inM (masks ops []) pre.length) acc 0 (hOf acc h0 lds)).get f.id = some f.x := by
      intro f hf hu
      refine FI_get (fun k r b h1 h2 => (hmk k r b h1 h2).2) hmo hpw (fun j hj => (hld j hj).2.2) (fun j k => inM_lt hE j k) (hF f hf) (fun j hj => ⟨hu j hj, fun ⟨r, h1, h2⟩ => hal j r h1 h2⟩)
    unfold RunF at h
    rcases h with ⟨hw, v, S1, e1, N, hop, he1, hb, hrdc, hlc, hNf, h⟩ | ⟨hw, e1, he1, h⟩
    case inr =>
      refine fin ⟨.tup [], S.n, .val⟩ [] S e1 [] he1 (fun b hb => by cases hb) (fun h' m hb => by cases hb) (fun f hf => by cases hf) rfl rfl (Nat.le_refl _) hN (.inl ⟨rfl, fun ⟨_, _, q⟩ => by cases q⟩) ?_ (fun hb => by cases hb) (by rw [List.append_nil]; exact h) ?_
      · rw [List.append_nil, hgs _ (fun b hb => by cases hb)]
      · conv => lhs; unfold plan
        rw [hre]; dsimp only; rw [hwc, hw]; simp only [cond_false, List.append_nil]
        rw [hOfs]
    case inl =>
      have hck := sk_ok hop
      have hclr : cls X re o.op = cls X ei o.op := cls_congr hoe
      have hN1 : N0 ≤ S1.n := Nat.le_trans hN (oper_n hop)
      have hloud : isLC (cls X ei o.op) = true →
        ∃ tl l2, plan X rec n ops (masks ops []) e (o :: os) pre.length acc lds (hOf acc h0 lds) S.n = some (acc ++ tl, lds ++ l2, S'.n) ∧
          (∀ j ∈ l2, pre.length ≤ j ∧ isLC ((ops.map (fun o => sk X o.op)).getD j .pure) = true) ∧ putAll n ops (acc ++ tl) e = some e' ∧
          S'.h = gh (masks ops []) (lds ++ l2) (fun _ => true) (acc ++ tl) 0 (hOf (acc ++ tl) h0 (lds ++ l2)) ∧ tl.length = (o :: os).length ∧ (lds ++ l2).Pairwise (· < ·) ∧ (∀ (k : Nat) (r : R) b, (acc ++ tl)[k]? = some r → r.k = .mk b → (ops.map (fun o => sk X o.op)).getD k .pure = .alloc ∧ N0 ≤ r.n0 ∧ r.n0 < 1000000000) ∧ (∀ f ∈ D, FI (masks ops []) N0 h0 (acc ++ tl) f) ∧ (∀ (k : Nat) (r : R), (acc ++ tl)[k]? = some r → r.isL → k ∈ lds ++ l2) ∧ (∀ (q q' : Nat) (r r' : R), q < q' → (acc ++ tl)[q]? = some r → (acc ++ tl)[q']? = some r' → r.n1 ≤ r'.n0) ∧ (∀ j ∈ lds ++ l2, ∃ r, (acc ++ tl)[j]? = some r ∧ r.isL) ∧
          ∀ (k : Nat) (o' : Oper) (r : R), (o :: os)[k]? = some o' → tl[k]? = some r → RFF X n ops N0 e h0 (acc ++ tl) (lds ++ l2) (pre.length + k) o' r := by
        intro hlc0
        have hs : cls X ei o.op = sk X o.op := by
          rcases hck with hq | hq
          · rw [hq] at hlc0; cases hlc0
          · exact hq
        have hlc1 := hlc hlc0
        rw [hs] at hlc0
        have hbef : bef (masks ops []) (ops.map (fun o => sk X o.op)) pre.length isAll = true := hk2 hlc0
        have hg := hgc (fun k hk hq => bef_at hbef hk (by rw [hq]; rfl))
        have hall : lds.all (fun j => inM (masks ops []) pre.length j) = true := by
          apply List.all_eq_true.2
          intro j hj
          obtain ⟨q1, q2, -⟩ := hld j hj
          exact bef_at hbef q1 (by cases hq : (ops.map (fun o => sk X o.op)).getD j .pure <;> rw [hq] at q2 <;> first | rfl | cases q2)
        have hop' : oper X rec re { h := gh (masks ops []) lds (inM (masks ops []) pre.length) acc 0 (hOf acc h0 lds), n := S.n } o.op = some (v, S1) := by
          rw [hg, oper_congr hoe]; exact hop
        refine fin ⟨v, S.n, .ld S1.h S1.n⟩ [pre.length] S1 e1 N he1 (fun b hb => by cases hb) (fun h' m hb => by cases hb; exact hlc1) (fun f hf => ?_) rfl rfl (oper_n hop) hN1 (.inr ⟨rfl, hlc0, _, _, rfl⟩) ?_ (fun hb => by cases hb) h ?_
        · obtain ⟨n1, n2, n3, _⟩ := hNf f hf
          refine .inr ⟨pre.length, ⟨v, S.n, .ld S1.h S1.n⟩, n1, by rw [← hl]; simp, .inr ⟨_, _, rfl, n3, n2, ?_⟩, ?_⟩
          · intro k r b hk hb hlt
            rw [List.getElem?_append_left (by omega)] at hk
            exact bef_at hbef hlt (by rw [(hmk k r b hk hb).1]; rfl)
          · intro k r h' m hk _ hlt
            have := (List.getElem?_eq_some_iff.1 hk).1
            simp at this; omega
        · rw [gh_snoc]
          have : hOf (acc ++ [(⟨v, S.n, .ld S1.h S1.n⟩ : R)]) h0 (lds ++ [pre.length]) = S1.h := hOf_snoc (r := ⟨v, S.n, .ld S1.h S1.n⟩) (m := S1.n) (by rw [← hl]; simp) rfl
          rw [this, gh_had (fun q r b h1 h2 => by
            have hkl : q < pre.length := by have := (List.getElem?_eq_some_iff.1 h1).1; omega
            rw [Nat.zero_add]
            exact bef_at hbef hkl (by rw [(hmk q r b h1 h2).1]; rfl))]
          rfl
        · conv => lhs; unfold plan
          rw [hre]; dsimp only; rw [hwc, hw]; simp only [cond_true]
          have : hOf (acc ++ [(⟨v, S.n, .ld S1.h S1.n⟩ : R)]) h0 (lds ++ [pre.length]) = S1.h := hOf_snoc (r := ⟨v, S.n, .ld S1.h S1.n⟩) (m := S1.n) (by rw [← hl]; simp) rfl
          rw [hclr, hs]
          cases hskc : sk X o.op with
          | loud => dsimp only; rw [hall]; simp only [cond_true]; rw [hop']; dsimp only; rw [this]
          | call => dsimp only; rw [hall]; simp only [cond_true]; rw [hop']; dsimp only; rw [this]
          | _ => rw [hskc] at hlc0; cases hlc0
      cases hc : cls X ei o.op with
      | loud => exact hloud (by rw [hc]; rfl)
      | call => exact hloud (by rw [hc]; rfl)
      | pure =>
        unfold oper at hop
        rw [hc] at hop
        dsimp only at hop
        split at hop
        · cases hop
        · rename_i v' hv
          cases hop
          have hN0 : N = [] := by
            cases N with
            | nil => rfl
            | cons f N => exfalso; have := (hNf f (List.mem_cons_self ..)).2.2.2; rw [hc] at this; exact absurd this (by rintro (q | ⟨q, _⟩) <;> cases q)
          subst hN0
          refine fin ⟨v, S.n, .val⟩ [] S e1 [] he1 (fun b hb => by cases hb) (fun h' m hb => by cases hb) (fun f hf => by cases hf) rfl rfl (Nat.le_refl _) hN (.inl ⟨rfl, fun ⟨_, _, q⟩ => by cases q⟩) ?_ (fun hb => by cases hb) h ?_
          · rw [List.append_nil, hgs _ (fun b hb => by cases hb)]
          · conv => lhs; unfold plan
            rw [hre]; dsimp only; rw [hwc, hw]; simp only [cond_true, List.append_nil]
            rw [hclr, hc]; dsimp only; rw [pureOp_congr hoe, hv]; dsimp only; rw [hOfs]
      | read =>
        have hs : sk X o.op = .read := by
          rcases hck with hq | hq
          · rw [hq] at hc; cases hc
          · rw [← hq]; exact hc
        have hrdc' := hrdc hc
        unfold oper at hop
        rw [hc] at hop
        dsimp only at hop
        split at hop
        · cases hop
        · rename_i v' hv
          cases hop
          rw [hc] at hb
          have hrd2 : readOp X ei (gh (masks ops []) lds (inM (masks ops []) pre.length) acc 0 (hOf acc h0 lds)) o.op = some v := by
            rcases hrdc' with hst | hfp
            · have hst' := hst
              unfold rdStat at hst'
              rw [Bool.and_eq_true] at hst'
              rw [hgc (fun k hk hq => bef_at hst'.1 hk (by rw [hq]; rfl))]; exact hv
            · exact hfp _ hgB
          have hN0 : N = [] := by
            cases N with
            | nil => rfl
            | cons f N => exfalso; have := (hNf f (List.mem_cons_self ..)).2.2.2; rw [hc] at this; exact absurd this (by rintro (q | ⟨q, _⟩) <;> cases q)
          subst hN0
          refine fin ⟨v, S.n, .rd⟩ [] S e1 [] he1 (fun b hb => by cases hb) (fun h' m hb => by cases hb) (fun f hf => by cases hf) rfl rfl (Nat.le_refl _) hN (.inl ⟨rfl, fun ⟨_, _, q⟩ => by cases q⟩) ?_ (fun _ => ⟨rfl, hs, hb, hrdc'.imp (fun q => ⟨q, hv⟩) (fun q => q)⟩) h ?_
          · rw [List.append_nil, hgs _ (fun b hb => by cases hb)]
          · conv => lhs; unfold plan
            rw [hre]; dsimp only; rw [hwc, hw]; simp only [cond_true, List.append_nil]
            rw [hclr, hc]; dsimp only; rw [readOp_congr hoe, hrd2]; dsimp only; rw [hOfs]
      | alloc =>
        have hs : sk X o.op = .alloc := by
          rcases hck with hq | hq
          · rw [hq] at hc; cases hc
          · rw [← hq]; exact hc
        unfold oper at hop
        rw [hc] at hop
        dsimp only at hop
        cases hlt : Nat.blt S.n 1000000000 with
        | false => rw [hlt] at hop; cases hop
        | true =>
          rw [hlt] at hop
          simp only [cond_true] at hop
          have hlt2 : S.n < 1000000000 := by rw [nblt, decide_eq_true_eq] at hlt; exact hlt
          split at hop
          · cases hop
          · rename_i b' v' hv
            cases hop
            refine fin ⟨v, S.n, .mk b'⟩ [] (S.new b') e1 N he1 (fun _ _ => ⟨hs, hN, hlt2⟩) (fun h' m hb => by cases hb) (fun f hf => ?_) rfl rfl (Nat.le_succ _) hN1 (.inl ⟨rfl, fun ⟨_, _, q⟩ => by cases q⟩) ?_ (fun hb => by cases hb) h ?_
            · obtain ⟨n1, _, n3, n4⟩ := hNf f hf
              rw [hc] at n4
              rcases n4 with q | ⟨_, q⟩
              · cases q
              have hx : f.x = b' := by
                have h5 : (S.new b').h.get S.n = some b' := by unfold St.new; dsimp only; rw [Tr.get_set 40 _ _ _ _ (by omega), if_pos rfl]
                rw [q, h5] at n3; cases n3; rfl
              refine .inr ⟨pre.length, ⟨v, S.n, .mk b'⟩, n1, by rw [← hl]; simp, .inl ⟨by rw [hx], q.symm⟩, ?_⟩
              intro k r h' m hk _ hlt
              have := (List.getElem?_eq_some_iff.1 hk).1
              simp at this; omega
            · rw [List.append_nil, hOfs, gh_snoc, ← hh]
              unfold ghStep
              dsimp only
              have : lds.all (fun j => !inM (masks ops []) j (0 + acc.length)) = true := by
                apply List.all_eq_true.2
                intro j hj
                have h1 := (hld j hj).1
                cases hq : inM (masks ops []) j (0 + acc.length) with
                | false => rfl
                | true => have := inM_lt hE _ _ hq; omega
              rw [this]
              rfl
            · conv => lhs; unfold plan
              rw [hre]; dsimp only; rw [hwc, hw]; simp only [cond_true, List.append_nil]
              rw [hclr, hc]; dsimp only; rw [hlt]; simp only [cond_true]; rw [allocOp_congr hoe, hv]; dsimp only; rw [hOfs]
              rfl
/-- WHERE THE EDGES SAY ENOUGH but for reads that loud operations leave alone, a region that draws its order gives what the text's order gives. -/
theorem drawn_F {D : List Fct} {S : St} {e' : Env} {S' : St} (hD0 : ∀ f ∈ D, f.src = none ∧ f.id < S.n ∧ S.h.get f.id = some f.x) (hs : seqB X n ops = true) (h : RunF X rec n ops D ops 0 e S e' S') : drawn X rec n ops e S = .ok .nor e' S' := by
  unfold seqB at hs
  simp only [Bool.and_eq_true, nblt, decide_eq_true_eq] at hs
  obtain ⟨⟨⟨⟨hE, hD⟩, hN⟩, hn⟩, hK⟩ := hs
  have hle := RunF_n h
  obtain ⟨tl, l2, p1, p2, p3, p4, p5, ppw, pmk, -, pal, pmo, pld, p6⟩ := plan_seqF (h0 := S.h) (e := e) (N0 := S.n) hn hE hD hK D ops [] [] [] S e e' S' (by simp) rfl (by simp [putAll]) (fun k r b hk => by simp at hk) (fun f hf => .inl ⟨(hD0 f hf).1, (hD0 f hf).2.1, (hD0 f hf).2.2, fun k r h' m hk => by simp at hk⟩) (fun k r hk => by simp at hk) (fun q q' r r' _ hk => by simp at hk) (fun k r hk => by simp at hk) (Nat.le_refl _) (fun j hj => by simp at hj) List.Pairwise.nil (by simp [gh, hOf]) h
  simp only [List.nil_append, List.length_nil, hOf, Nat.zero_add] at p1 p2 p3 p4 p6 ppw pmk pal pmo pld
  unfold drawn
  dsimp only
  rw [hE, hD, hN]
  simp only [Bool.and_self, cond_true]
  rw [p1]
  dsimp only
  have hrd : rdsOk X n ops (masks ops []) tl e S.h l2 ops 0 = true := by
    apply rdsOk_of
    intro i o ho
    have hi : i < ops.length := (List.getElem?_eq_some_iff.1 ho).1
    have hr : tl[i]? = some (tl[i]'(by omega)) := List.getElem?_eq_getElem _
    rw [Nat.zero_add]
    refine ⟨_, hr, fun hk => ?_⟩
    obtain ⟨l1, l3, ei, q1, q2, q3, q4, q5, q6, q8, q9⟩ := p6 i o _ ho hr hk
    have hlt : ∀ j, inM (masks ops []) i j = true → j < (tl.take i).length := fun j hj => by
      have := inM_lt hE _ _ hj
      simp; omega
    have htl : tl = tl.take i ++ tl.drop i := (List.take_append_drop i tl).symm
    obtain ⟨re, r1, r2⟩ := renv_good (ms := masks ops []) (ops := ops) (acc := tl) (e := e) (es := ei) (n := n) (i := i) hn (ts := looks ops o) (fun t ht => ⟨q5 t ht, by
      rw [htl, lookT_append hlt]; exact q4 t ht⟩)
    refine ⟨re, r1, rdOk_of fun a b hab => ?_⟩
    have hoe : OE re ei o.op := OE_of r2
    have hski : (ops.map (fun o => sk X o.op)).getD i .pure = sk X o.op := by
      rw [List.getD_eq_getElem?_getD, List.getElem?_map, ho]; rfl
    rw [List.nil_append]
    unfold rdOk.rd1
    cases hc : (a.all (fun j => !inM (masks ops []) j i) && l2.all (fun j => !inM (masks ops []) i j || a.contains j)) with
    | false => rfl
    | true =>
      simp only [cond_true]
      simp only [Bool.and_eq_true] at hc
      obtain ⟨c1, c2⟩ := hc
      rcases q9 with ⟨hst, q7⟩ | ⟨D', hfp, hfi⟩
      case inr =>
        have hsub : ∀ j ∈ a, j ∈ l2 := fun j hj => by rw [hab]; exact List.mem_append_left _ hj
        have hg : ∀ f ∈ D', (∀ j, f.src = some j → inM (masks ops []) i j = true) → (gh (masks ops []) a (inM (masks ops []) i) tl 0 (hOf tl S.h a)).get f.id = some f.x := by
          intro f hf hu
          refine FI_get (fun k r b h1 h2 => (pmk k r b h1 h2).2) pmo ?_ (fun j hj => pld j (hsub j hj)) (fun j k => inM_lt hE j k) (hfi f hf) (fun j hj => ⟨hu j hj, fun ⟨r, h1, h2⟩ => ?_⟩)
          · rw [hab, List.pairwise_append] at ppw; exact ppw.1
          · have h3 := List.all_eq_true.1 c2 j (pal j r h1 h2)
            rw [hu j hj] at h3
            simpa using h3
        rw [readOp_congr hoe, hfp _ hg]
        exact q8
      unfold rdStat at hst
      rw [Bool.and_eq_true] at hst
      obtain ⟨hk2, hk3⟩ := hst
      have hal : a = l1 := by
        have hpre : a ++ b = l1 ++ l3 := by rw [← hab, q1]
        have hin1 : ∀ j ∈ l1, j ∈ a := by
          intro j hj
          have hj2 : j ∈ l2 := by rw [q1]; exact List.mem_append_left _ hj
          have h1 := List.all_eq_true.1 c2 j hj2
          have h2 : inM (masks ops []) i j = true := by
            apply bef_at hk2 (q2 j hj)
            have := (p2 j hj2).2
            cases hq : (ops.map (fun o => sk X o.op)).getD j .pure <;> rw [hq] at this <;> first | rfl | cases this
          rw [h2] at h1
          simpa using h1
        have hin3 : ∀ j ∈ l3, j ∉ a := by
          intro j hj hja
          have hj2 : j ∈ l2 := by rw [q1]; exact List.mem_append_right _ hj
          have h1 := List.all_eq_true.1 c1 j hja
          have hjl : j < ops.length := by
            have := (p2 j hj2).2
            rw [List.getD_eq_getElem?_getD] at this
            by_cases hlt : j < ops.length
            · exact hlt
            · rw [List.getElem?_eq_none (by simpa using hlt)] at this; cases this
          have hl := (p2 j hj2).2
          have h3 := List.all_eq_true.1 hk3 j (by simpa using hjl)
          rw [hl, nble, decide_eq_false (by have := q3 j hj; omega)] at h3
          have : inM (masks ops []) j i = true := by simpa using h3
          rw [this] at h1
          cases h1
        rcases List.append_eq_append_iff.1 hpre with ⟨m, hm1, hm2⟩ | ⟨m, hm1, hm2⟩
        · -- l1 = a ++ m
          cases m with
          | nil => simpa using hm1.symm
          | cons y m =>
            exfalso
            have hy : y ∈ a := hin1 y (by rw [hm1]; simp)
            rw [q1, hm1, List.append_assoc, List.pairwise_append] at ppw
            have := ppw.2.2 y hy y (by simp)
            omega
        · cases m with
          | nil => simpa using hm1
          | cons y m =>
            exfalso
            exact hin3 y (by rw [hm2]; simp) (by rw [hm1]; simp)
      subst hal
      have hh : gh (masks ops []) a (inM (masks ops []) i) tl 0 (hOf tl S.h a) = gh (masks ops []) a (fun _ => true) (tl.take i) 0 (hOf (tl.take i) S.h a) := by
        conv => lhs; rw [htl]
        rw [gh_append (fun q hq => by
          cases hm : inM (masks ops []) i q with
          | false => rfl
          | true => have := hlt q hm; omega)]
        rw [hOf_append (fun j hj => by have := q2 j hj; simp; omega)]
        apply gh_congr
        intro k r b h1 h2
        rw [Nat.zero_add]
        have hki : k < i := by have := (List.getElem?_eq_some_iff.1 h1).1; simp at this; omega
        apply bef_at hk2 hki
        have : (ops.map (fun o => sk X o.op)).getD k .pure = .alloc := by
          have hkr : tl[k]? = some r := by rw [htl, List.getElem?_append_left (List.getElem?_eq_some_iff.1 h1).1]; exact h1
          exact (pmk k r b hkr h2).1
        rw [this]; rfl
      rw [hh, readOp_congr hoe, q7]
      exact q8
  rw [hrd]
  simp only [cond_true]
  rw [p3]
  dsimp only
  rw [nble, decide_eq_true hle]
  simp only [cond_true]
  rw [← p4]
end
end GX
