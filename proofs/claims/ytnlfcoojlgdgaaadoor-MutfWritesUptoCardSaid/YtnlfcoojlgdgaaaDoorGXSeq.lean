/- GX: a region that draws its order, where every order gives what the text's order gives. -/
import Derived.Test.YtnlfcoojlgdgaaaDoorGXFuel
import Derived.Test.YtnlfcoojlgdgaaaDoorGXDrawn2
namespace GX
open Go
def OE (e e' : Env) (op : Op) : Prop := ∀ x ∈ op.operands.toList, opd e x = opd e' x
theorem opds_congr {e e' : Env} : ∀ {l : List Operand}, (∀ x ∈ l, opd e x = opd e' x) → opds e l = opds e' l
  | [], _ => rfl
  | x :: l, h => by
    unfold opds
    rw [h x (by simp), opds_congr fun y hy => h y (by simp [hy])]
theorem opparts_congr {e e' : Env} : ∀ {l : List (Nat × Operand)}, (∀ x ∈ l, opd e x.2 = opd e' x.2) → opparts e l = opparts e' l
  | [], _ => rfl
  | (i, x) :: l, h => by
    unfold opparts
    rw [h (i, x) (by simp), opparts_congr fun y hy => h y (by simp [hy])]
theorem optOpd_congr {e e' : Env} {x : Option Operand} (h : ∀ y, x = some y → opd e y = opd e' y) : optOpd e x = optOpd e' x := by
  cases x with
  | none => rfl
  | some y => unfold optOpd; dsimp only; rw [h y rfl]
theorem pureOp_congr {X : X} {e e' : Env} {op : Op} (h : OE e e' op) : pureOp X e op = pureOp X e' op := by
  unfold OE at h
  cases op with
  | makeFunc fn a b =>
    unfold pureOp
    dsimp only
    rw [opds_congr (e := e) (e' := e') (l := a.toList) (fun x hx => h x (by simp only [Op.operands, Array.toList_append, List.mem_append]; exact .inl hx)), opds_congr (e := e) (e' := e') (l := b.toList) (fun x hx => h x (by simp only [Op.operands, Array.toList_append, List.mem_append]; exact .inr hx))]
  | build t ps =>
    unfold pureOp
    dsimp only
    rw [opparts_congr (e := e) (e' := e') (l := ps.toList) (fun x hx => h x.2 (by simp only [Op.operands]; exact List.mem_map.2 ⟨x, hx, rfl⟩))]
  | slice t x lo hi mx =>
    unfold pureOp
    dsimp only
    have hm : ∀ y, (y ∈ lo.toArray ∨ y ∈ hi.toArray ∨ y ∈ mx.toArray ∨ y = x) → opd e y = opd e' y := by
      intro y hy
      apply h
      simp only [Op.operands, Array.toList_append, List.mem_append, Array.mem_toList_iff]
      rcases hy with h | h | h | h
      · exact .inl (.inl (.inr h))
      · exact .inl (.inr h)
      · exact .inr h
      · exact .inl (.inl (.inl (by simp [h])))
    rw [hm x (by simp), optOpd_congr (x := lo) (fun y hy => hm y (by subst hy; simp)), optOpd_congr (x := hi) (fun y hy => hm y (by subst hy; simp)), optOpd_congr (x := mx) (fun y hy => hm y (by subst hy; simp))]
  | call c =>
    obtain ⟨callee, args, argTypes⟩ := c
    have ha : ∀ x ∈ args.toList, opd e x = opd e' x := fun x hx => h x (by simp only [Op.operands, Call.operands, Array.toList_append, List.mem_append]; exact .inr hx)
    cases callee with
    | value f => rfl
    | invoke r m => rfl
    | builtin b =>
      cases b <;> try rfl
      all_goals
        simp only [pureOp]
        split
        · rename_i heq
          simp [heq] at ha
          simp [ha]
        · rfl
  | move x => simp only [Op.operands, List.mem_singleton, forall_eq] at h; unfold pureOp; dsimp only; rw [h]
  | assign x => simp only [Op.operands, List.mem_singleton, forall_eq] at h; unfold pureOp; dsimp only; rw [h]
  | pick c a b =>
    have h1 := h c (by simp [Op.operands]); have h2 := h a (by simp [Op.operands]); have h3 := h b (by simp [Op.operands])
    unfold pureOp; dsimp only; rw [h1, h2, h3]
  | nilCheck x => have h1 := h x (by simp [Op.operands]); unfold pureOp; dsimp only; rw [h1]
  | unOp o t x => have h1 := h x (by simp [Op.operands]); unfold pureOp; dsimp only; rw [h1]
  | convert s d x => have h1 := h x (by simp [Op.operands]); unfold pureOp; dsimp only; rw [h1]
  | makeInterface t x => have h1 := h x (by simp [Op.operands]); unfold pureOp; dsimp only; rw [h1]
  | fieldAddr s x f => have h1 := h x (by simp [Op.operands]); unfold pureOp; dsimp only; rw [h1]
  | field s x f => have h1 := h x (by simp [Op.operands]); unfold pureOp; dsimp only; rw [h1]
  | extract x f => have h1 := h x (by simp [Op.operands]); unfold pureOp; dsimp only; rw [h1]
  | binOp o t x y _ => have h1 := h x (by simp [Op.operands]); have h2 := h y (by simp [Op.operands]); unfold pureOp; dsimp only; rw [h1, h2]
  | indexAddr t x y => have h1 := h x (by simp [Op.operands]); have h2 := h y (by simp [Op.operands]); unfold pureOp; dsimp only; rw [h1, h2]
  | index t x y => have h1 := h x (by simp [Op.operands]); have h2 := h y (by simp [Op.operands]); unfold pureOp; dsimp only; rw [h1, h2]
  | _ => rfl
theorem readOp_congr {X : X} {e e' : Env} {H : Tr AB} {op : Op} (h : OE e e' op) : readOp X e H op = readOp X e' H op := by
  unfold OE at h
  cases op with
  | load t x => have h1 := h x (by simp [Op.operands]); unfold readOp; dsimp only; rw [h1]
  | convert s d x => have h1 := h x (by simp [Op.operands]); unfold readOp; dsimp only; rw [h1]
  | binOp o t x y _ => have h1 := h x (by simp [Op.operands]); have h2 := h y (by simp [Op.operands]); unfold readOp; dsimp only; rw [h1, h2]
  | lookup t x y _ => have h1 := h x (by simp [Op.operands]); have h2 := h y (by simp [Op.operands]); unfold readOp; dsimp only; rw [h1, h2]
  | call c =>
    obtain ⟨callee, args, argTypes⟩ := c
    have ha : ∀ x ∈ args.toList, opd e x = opd e' x := fun x hx => h x (by simp only [Op.operands, Call.operands, Array.toList_append, List.mem_append]; exact .inr hx)
    cases callee with
    | value f => rfl
    | invoke r m => rfl
    | builtin b =>
      cases b <;> try rfl
      all_goals
        simp only [readOp]
        split
        · rename_i heq
          simp [heq] at ha
          simp [ha]
        · rfl
  | _ => rfl
theorem allocOp_congr {X : X} {e e' : Env} {id : Nat} {op : Op} (h : OE e e' op) : allocOp X e id op = allocOp X e' id op := by
  unfold OE at h
  cases op with
  | box t x => have h1 := h x (by simp [Op.operands]); unfold allocOp; dsimp only; rw [h1]
  | convert s d x => have h1 := h x (by simp [Op.operands]); unfold allocOp; dsimp only; rw [h1]
  | range t x => have h1 := h x (by simp [Op.operands]); unfold allocOp; dsimp only; rw [h1]
  | makeSlice t x y => have h1 := h x (by simp [Op.operands]); have h2 := h y (by simp [Op.operands]); unfold allocOp; dsimp only; rw [h1, h2]
  | buildSlice t n ps =>
    unfold allocOp
    dsimp only
    rw [opparts_congr (e := e) (e' := e') (l := ps.toList) (fun x hx => h x.2 (by simp only [Op.operands]; exact List.mem_map.2 ⟨x, hx, rfl⟩))]
  | _ => rfl
theorem loudOp_congr {X : X} {e e' : Env} {S : St} {op : Op} (h : OE e e' op) : loudOp X e S op = loudOp X e' S op := by
  unfold OE at h
  cases op with
  | store t x y => have h1 := h x (by simp [Op.operands]); have h2 := h y (by simp [Op.operands]); unfold loudOp; dsimp only; rw [h1, h2]
  | convert s d x => have h1 := h x (by simp [Op.operands]); unfold loudOp; dsimp only; rw [h1]
  | next x b => have h1 := h x (by simp [Op.operands]); unfold loudOp; dsimp only; rw [h1]
  | mapEntry t x y => have h1 := h x (by simp [Op.operands]); have h2 := h y (by simp [Op.operands]); unfold loudOp; dsimp only; rw [h1, h2]
  | mapUpdate t x y z => have h1 := h x (by simp [Op.operands]); have h2 := h y (by simp [Op.operands]); have h3 := h z (by simp [Op.operands]); unfold loudOp; dsimp only; rw [h1, h2, h3]
  | insert t x y z => have h1 := h x (by simp [Op.operands]); have h2 := h y (by simp [Op.operands]); have h3 := h z (by simp [Op.operands]); unfold loudOp; dsimp only; rw [h1, h2, h3]
  | entryStore t x y z => have h1 := h x (by simp [Op.operands]); have h2 := h y (by simp [Op.operands]); have h3 := h z (by simp [Op.operands]); unfold loudOp; dsimp only; rw [h1, h2, h3]
  | call c =>
    obtain ⟨callee, args, argTypes⟩ := c
    have ha : ∀ x ∈ args.toList, opd e x = opd e' x := fun x hx => h x (by simp only [Op.operands, Call.operands, Array.toList_append, List.mem_append]; exact .inr hx)
    cases callee with
    | value f => rfl
    | invoke r m => rfl
    | builtin b =>
      cases b <;> try rfl
      all_goals
        simp only [loudOp]
        split
        · rename_i heq _
          simp [heq] at ha
          simp [ha]
        · rfl
  | _ => rfl
theorem callee_congr {e e' : Env} {op : Op} (h : OE e e' op) : callee e op = callee e' op := by
  unfold OE at h
  cases op with
  | call c =>
    obtain ⟨c1, args, argTypes⟩ := c
    have ha : ∀ x ∈ args.toList, opd e x = opd e' x := fun x hx => h x (by simp only [Op.operands, Call.operands, Array.toList_append, List.mem_append]; exact .inr hx)
    cases c1 with
    | value f =>
      have hf := h f (by simp [Op.operands, Call.operands])
      unfold callee
      dsimp only
      rw [hf, opds_congr ha]
    | invoke r m => rfl
    | builtin b => rfl
  | _ => rfl
theorem cls_congr {X : X} {e e' : Env} {op : Op} (h : OE e e' op) : cls X e op = cls X e' op := by
  unfold OE at h
  cases op with
  | binOp o t x y _ => have h1 := h x (by simp [Op.operands]); have h2 := h y (by simp [Op.operands]); unfold cls; dsimp only; rw [h1, h2]
  | call c =>
    obtain ⟨callee, args, argTypes⟩ := c
    have ha : ∀ x ∈ args.toList, opd e x = opd e' x := fun x hx => h x (by simp only [Op.operands, Call.operands, Array.toList_append, List.mem_append]; exact .inr hx)
    cases callee with
    | value f => rfl
    | invoke r m => rfl
    | builtin b =>
      cases b <;> try rfl
      all_goals
        simp only [cls]
        split
        · rename_i heq
          simp [heq] at ha
          simp [ha]
        · rfl
  | _ => rfl
theorem oper_congr {X : X} {rec : Rec} {e e' : Env} {S : St} {op : Op} (h : OE e e' op) : oper X rec e S op = oper X rec e' S op := by
  unfold oper
  rw [cls_congr h, pureOp_congr h, readOp_congr h, allocOp_congr h, loudOp_congr h, callee_congr h]
end GX
