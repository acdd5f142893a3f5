/- GX: reasoning about runs of the machine: rules, one an operation. -/
import Derived.Test.YtnlfcoojlgdgaaaDoorGXSeq3
import Derived.Test.YtnlfcoojlgdgaaaDoorGXPure4
namespace GX
noncomputable section
open Go
abbrev L := List (Nat × AV)
def lk : L → Nat → Option AV
  | [], _ => none
  | (d, v) :: l, t => bif Nat.beq d t then some v else lk l t
def Ag (l : L) (e : Env) : Prop := ∀ t v, lk l t = some v → e.at t = v
def od (l : L) : Operand → Option AV
  | .tmp t => lk l t
  | .const v => ofVal 100 v
  | .func f => some (.func (.func f) [] [])
  | .global _ => none
def ods (l : L) : List Operand → Option (List AV)
  | [] => some []
  | x :: xs => match od l x with
    | none => none
    | some a => match ods l xs with | none => none | some as => some (a :: as)
def odparts (l : L) : List (Nat × Operand) → Option (List (Nat × AV))
  | [] => some []
  | (i, x) :: xs => match od l x with
    | none => none
    | some a => match odparts l xs with | none => none | some as => some ((i, a) :: as)
def odopt (l : L) : Option Operand → Option (Option AV)
  | none => some none
  | some x => match od l x with | none => none | some a => some (some a)
section
variable {l : L} {e : Env}
theorem od_ok (h : Ag l e) {x : Operand} {v : AV} (hx : od l x = some v) : opd e x = some v := by
  cases x with
  | tmp t => simp only [od] at hx; simp only [opd]; rw [h t v hx]
  | const c => exact hx
  | func f => exact hx
  | global g => cases hx
theorem ods_ok (h : Ag l e) : ∀ {xs : List Operand} {vs : List AV}, ods l xs = some vs → opds e xs = some vs
  | [], _, hx => hx
  | x :: xs, vs, hx => by
    unfold ods at hx
    split at hx
    · cases hx
    · rename_i a ha
      split at hx
      · cases hx
      · rename_i as has
        unfold opds
        rw [od_ok h ha]; dsimp only; rw [ods_ok h has]; exact hx
theorem odparts_ok (h : Ag l e) : ∀ {xs : List (Nat × Operand)} {vs : List (Nat × AV)}, odparts l xs = some vs → opparts e xs = some vs
  | [], _, hx => hx
  | (i, x) :: xs, vs, hx => by
    unfold odparts at hx
    split at hx
    · cases hx
    · rename_i a ha
      split at hx
      · cases hx
      · rename_i as has
        unfold opparts
        rw [od_ok h ha]; dsimp only; rw [odparts_ok h has]; exact hx
theorem odopt_ok (h : Ag l e) {x : Option Operand} {v : Option AV} (hx : odopt l x = some v) : optOpd e x = some v := by
  cases x with
  | none => exact hx
  | some x =>
    unfold odopt at hx
    dsimp only at hx
    split at hx
    · cases hx
    · rename_i a ha
      unfold optOpd
      dsimp only
      rw [od_ok h ha]; exact hx
theorem Ag.put {n d : Nat} {v : AV} (h : Ag l e) (hn : n < 1000001) (hd : d < n) : Ag ((d, v) :: l) (e.put d v) := by
  intro t u hu
  unfold lk at hu
  rw [nbeq, cond_dec] at hu
  rw [Env.at_put _ _ _ _ (by omega)]
  by_cases ht : d = t
  · subst ht; rw [if_pos rfl] at hu; rw [if_pos rfl]; exact (Option.some.inj hu)
  · rw [if_neg ht] at hu; rw [if_neg (Ne.symm ht)]; exact h t u hu
end
/-- what is still to be done behind a piece of code -/
inductive Kt where
  | seq (b : Code)
  | block (id : Nat)
  | loop (b : Code)
def QK (X : X) (n : Nat) : List Kt → (Ex → Env → St → Prop) → Ex → Env → St → Prop
  | [], Q => Q
  | .seq b :: ks, Q => fun x e S => match x with
    | .nor => ∃ f x' e' S', exec X f n b e S = .ok x' e' S' ∧ QK X n ks Q x' e' S'
    | x => QK X n ks Q x e S
  | .block id :: ks, Q => fun x e S => match x with
    | .exit i => bif Nat.beq i id then QK X n ks Q .nor e S else QK X n ks Q (.exit i) e S
    | x => QK X n ks Q x e S
  | .loop b :: ks, Q => fun x e S => match x with
    | .nor => ∃ f x' e' S', exec X f n (.loop b) e S = .ok x' e' S' ∧ QK X n ks Q x' e' S'
    | x => QK X n ks Q x e S
/-- a run of a piece of code, and of what is behind it -/
def W (X : X) (n : Nat) (c : Code) (ks : List Kt) (Q : Ex → Env → St → Prop) (l : L) (S : St) : Prop :=
  ∀ e, Ag l e → ∃ f x e' S', exec X f n c e S = .ok x e' S' ∧ QK X n ks Q x e' S'
def V (X : X) (n : Nat) (x : Ex) (ks : List Kt) (Q : Ex → Env → St → Prop) (l : L) (S : St) : Prop :=
  ∀ e, Ag l e → QK X n ks Q x e S
def WO (X : X) (n : Nat) (all os : List Oper) (ks : List Kt) (Q : Ex → Env → St → Prop) (l : L) (S : St) : Prop :=
  ∀ e, Ag l e → ∃ f e' S', opersR X (exec X f) n all os e S = .ok .nor e' S' ∧ QK X n ks Q .nor e' S'
section
variable {X : X} {n : Nat} {ks : List Kt} {Q : Ex → Env → St → Prop} {l : L} {S : St} {a b c : Code}
theorem W_seq (h : W X n a (.seq b :: ks) Q l S) : W X n (.seq a b) ks Q l S := by
  intro e he
  obtain ⟨f, x, e1, S1, h1, h2⟩ := h e he
  cases x with
  | nor =>
    obtain ⟨g, x2, e2, S2, h3, h4⟩ := h2
    refine ⟨max f g + 1, x2, e2, S2, ?_, h4⟩
    show step X (exec X (max f g)) n (.seq a b) e S = _
    unfold step
    dsimp only
    rw [exec_le (Nat.le_max_left f g) _ _ _ _ _ _ _ h1]
    exact exec_le (Nat.le_max_right f g) _ _ _ _ _ _ _ h3
  | exit i => exact ⟨f + 1, .exit i, e1, S1, by show step X (exec X f) n (.seq a b) e S = _; unfold step; dsimp only; rw [h1], h2⟩
  | ret => exact ⟨f + 1, .ret, e1, S1, by show step X (exec X f) n (.seq a b) e S = _; unfold step; dsimp only; rw [h1], h2⟩
theorem W_block {id : Nat} (h : W X n b (.block id :: ks) Q l S) : W X n (.block id b) ks Q l S := by
  intro e he
  obtain ⟨f, x, e1, S1, h1, h2⟩ := h e he
  cases x with
  | nor => exact ⟨f + 1, .nor, e1, S1, by show step X (exec X f) n (.block id b) e S = _; unfold step; dsimp only; rw [h1], h2⟩
  | ret => exact ⟨f + 1, .ret, e1, S1, by show step X (exec X f) n (.block id b) e S = _; unfold step; dsimp only; rw [h1], h2⟩
  | exit i =>
    have h2 : bif Nat.beq i id then QK X n ks Q .nor e1 S1 else QK X n ks Q (.exit i) e1 S1 := h2
    cases hb : Nat.beq i id with
    | true =>
      rw [hb] at h2
      exact ⟨f + 1, .nor, e1, S1, by show step X (exec X f) n (.block id b) e S = _; unfold step; dsimp only; rw [h1]; dsimp only; rw [hb]; rfl, h2⟩
    | false =>
      rw [hb] at h2
      exact ⟨f + 1, .exit i, e1, S1, by show step X (exec X f) n (.block id b) e S = _; unfold step; dsimp only; rw [h1]; dsimp only; rw [hb]; rfl, h2⟩
theorem W_loop (h : W X n b (.loop b :: ks) Q l S) : W X n (.loop b) ks Q l S := by
  intro e he
  obtain ⟨f, x, e1, S1, h1, h2⟩ := h e he
  cases x with
  | nor =>
    obtain ⟨g, x2, e2, S2, h3, h4⟩ := h2
    refine ⟨max f g + 1, x2, e2, S2, ?_, h4⟩
    show step X (exec X (max f g)) n (.loop b) e S = _
    unfold step
    dsimp only
    rw [exec_le (Nat.le_max_left f g) _ _ _ _ _ _ _ h1]
    exact exec_le (Nat.le_max_right f g) _ _ _ _ _ _ _ h3
  | exit i => exact ⟨f + 1, .exit i, e1, S1, by show step X (exec X f) n (.loop b) e S = _; unfold step; dsimp only; rw [h1], h2⟩
  | ret => exact ⟨f + 1, .ret, e1, S1, by show step X (exec X f) n (.loop b) e S = _; unfold step; dsimp only; rw [h1], h2⟩
theorem W_scope (h : W X n b ks Q l S) : W X n (.scope b) ks Q l S := by
  intro e he
  obtain ⟨f, x, e1, S1, h1, h2⟩ := h e he
  exact ⟨f + 1, x, e1, S1, h1, h2⟩
theorem W_skip (h : V X n .nor ks Q l S) : W X n .skip ks Q l S := fun e he => ⟨1, .nor, e, S, rfl, h e he⟩
theorem W_label {i : Nat} (h : V X n .nor ks Q l S) : W X n (.label i) ks Q l S := fun e he => ⟨1, .nor, e, S, rfl, h e he⟩
theorem W_ret (h : V X n .ret ks Q l S) : W X n .ret ks Q l S := fun e he => ⟨1, .ret, e, S, rfl, h e he⟩
theorem W_exit {i : Nat} (h : V X n (.exit i) ks Q l S) : W X n (.exit i) ks Q l S := fun e he => ⟨1, .exit i, e, S, rfl, h e he⟩
theorem W_cond_t {o : Operand} (ho : od l o = some (.bool true)) (h : W X n a ks Q l S) : W X n (.cond o a b) ks Q l S := by
  intro e he
  obtain ⟨f, x, e1, S1, h1, h2⟩ := h e he
  exact ⟨f + 1, x, e1, S1, by show step X (exec X f) n (.cond o a b) e S = _; unfold step; dsimp only; rw [od_ok he ho]; exact h1, h2⟩
theorem W_cond_f {o : Operand} (ho : od l o = some (.bool false)) (h : W X n b ks Q l S) : W X n (.cond o a b) ks Q l S := by
  intro e he
  obtain ⟨f, x, e1, S1, h1, h2⟩ := h e he
  exact ⟨f + 1, x, e1, S1, by show step X (exec X f) n (.cond o a b) e S = _; unfold step; dsimp only; rw [od_ok he ho]; exact h1, h2⟩
theorem W_cond {o : Operand} {p : Prop} [Decidable p] (ho : od l o = some (.bool (decide p))) (ht : p → W X n a ks Q l S) (hf : ¬ p → W X n b ks Q l S) : W X n (.cond o a b) ks Q l S := by
  by_cases h : p
  · exact W_cond_t (by rw [ho, decide_eq_true h]) (ht h)
  · exact W_cond_f (by rw [ho, decide_eq_false h]) (hf h)
theorem W_condb {o : Operand} {p : Bool} (ho : od l o = some (.bool p)) (ht : p = true → W X n a ks Q l S) (hf : p = false → W X n b ks Q l S) : W X n (.cond o a b) ks Q l S := by
  cases p with
  | true => exact W_cond_t ho (ht rfl)
  | false => exact W_cond_f ho (hf rfl)
theorem W_region {id : Nat} {ops : Array Oper} (h : WO X n ops.toList ops.toList ks Q l S) : W X n (.region id ops false) ks Q l S := by
  intro e he
  obtain ⟨f, e1, S1, h1, h2⟩ := h e he
  exact ⟨f + 1, .nor, e1, S1, by show step X (exec X f) n (.region id ops false) e S = _; unfold step; exact opersR_opers h1, h2⟩
theorem W_drawn {id : Nat} {ops : Array Oper} (hs : seqOK X n ops.toList = true) (h : WO X n ops.toList ops.toList ks Q l S) : W X n (.region id ops true) ks Q l S := by
  intro e he
  obtain ⟨f, e1, S1, h1, h2⟩ := h e he
  exact ⟨f + 1, .nor, e1, S1, by show step X (exec X f) n (.region id ops true) e S = _; unfold step; exact drawn_seq hs h1, h2⟩
theorem WO_nil {all : List Oper} (h : V X n .nor ks Q l S) : WO X n all [] ks Q l S := fun e he => ⟨0, e, S, rfl, h e he⟩
theorem V_seq (h : W X n b ks Q l S) : V X n .nor (.seq b :: ks) Q l S := fun e he => h e he
theorem V_seq_x {i : Nat} (h : V X n (.exit i) ks Q l S) : V X n (.exit i) (.seq b :: ks) Q l S := fun e he => h e he
theorem V_ret {k : Kt} (h : V X n .ret ks Q l S) : V X n .ret (k :: ks) Q l S := by
  intro e he
  cases k with
  | seq b => exact h e he
  | block id => exact h e he
  | loop b => exact h e he
theorem V_block {id : Nat} (h : V X n .nor ks Q l S) : V X n .nor (.block id :: ks) Q l S := fun e he => h e he
theorem V_block_x {id i : Nat} (hi : Nat.beq i id = true) (h : V X n .nor ks Q l S) : V X n (.exit i) (.block id :: ks) Q l S := by
  intro e he
  show bif Nat.beq i id then QK X n ks Q .nor e S else QK X n ks Q (.exit i) e S
  rw [hi]; exact h e he
theorem V_block_y {id i : Nat} (hi : Nat.beq i id = false) (h : V X n (.exit i) ks Q l S) : V X n (.exit i) (.block id :: ks) Q l S := by
  intro e he
  show bif Nat.beq i id then QK X n ks Q .nor e S else QK X n ks Q (.exit i) e S
  rw [hi]; exact h e he
theorem V_loop (h : W X n (.loop b) ks Q l S) : V X n .nor (.loop b :: ks) Q l S := fun e he => h e he
theorem V_loop_x {i : Nat} (h : V X n (.exit i) ks Q l S) : V X n (.exit i) (.loop b :: ks) Q l S := fun e he => h e he
/-- what is known may be forgotten -/
def sub : L → L → Prop
  | [], _ => True
  | (t, v) :: l, l' => lk l' t = some v ∧ sub l l'
theorem sub_ok {l' : L} : ∀ {l : L} {e : Env}, sub l l' → Ag l' e → Ag l e
  | [], e, _, _ => fun t v h => by cases h
  | (t, v) :: l, e, h, he => by
    intro t' v' h'
    unfold lk at h'
    rw [nbeq, cond_dec] at h'
    by_cases ht : t = t'
    · subst ht; rw [if_pos rfl] at h'; cases h'; exact he t v h.1
    · rw [if_neg ht] at h'; exact sub_ok h.2 he t' v' h'
theorem W_weak {l' : L} (hs : sub l l') (h : W X n c ks Q l S) : W X n c ks Q l' S := fun e he => h e (sub_ok hs he)
theorem V_weak {x : Ex} {l' : L} (hs : sub l l') (h : V X n x ks Q l S) : V X n x ks Q l' S := fun e he => h e (sub_ok hs he)
/-- a loop, by what is kept -/
theorem W_inv {α : Type} (lf : α → L) (I : α → St → Prop) (m : α → Nat) (stp : ∀ a S, I a S → (∀ a' S' l', m a' < m a → I a' S' → sub (lf a') l' → V X n .nor (.loop b :: ks) Q l' S') → W X n b (.loop b :: ks) Q (lf a) S)
    (a0 : α) (h0 : I a0 S) (hs : sub (lf a0) l) : W X n (.loop b) ks Q l S := by
  have : ∀ k a S, m a = k → I a S → W X n (.loop b) ks Q (lf a) S := by
    intro k
    induction k using Nat.strongRecOn with
    | ind k ih =>
      intro a S hk hI
      apply W_loop
      apply stp a S hI
      intro a' S' l' hm hI' hs'
      exact V_loop (W_weak hs' (ih (m a') (by omega) a' S' rfl hI'))
  exact W_weak hs (this _ a0 S rfl h0)
/-! operations -/
/-- an operation yields -/
def Ev (X : _root_.GX.X) (l : L) (S : St) (op : Op) (R : AV → St → Prop) : Prop :=
  ∀ e, Ag l e → ∃ f v S', oper X (exec X f) e S op = some (v, S') ∧ rdv (cls X e op) v = true ∧ R v S'
theorem opersR_le {rec rec' : Rec} (hr : RecLe rec rec') {all : List Oper} : ∀ {os : List Oper} {e : Env} {S : St} {x e' S'}, opersR X rec n all os e S = .ok x e' S' → opersR X rec' n all os e S = .ok x e' S'
  | [], _, _, _, _, _, h => h
  | o :: os, e, S, x, e', S', h => by
    unfold opersR at h ⊢
    cases hw : wanted all e o with
    | true =>
      rw [hw] at h
      simp only [cond_true] at h ⊢
      split at h
      · cases h
      · rename_i v S1 ho
        rw [oper_le hr ho]
        dsimp only
        cases hb : rdv (cls X e o.op) v with
        | true =>
          rw [hb] at h
          simp only [cond_true] at h ⊢
          split at h
          · cases h
          · exact opersR_le hr h
        | false => rw [hb] at h; cases h
    | false =>
      rw [hw] at h
      simp only [cond_false] at h ⊢
      split at h
      · cases h
      · exact opersR_le hr h
variable {all os : List Oper} {o : Oper}
theorem WO_go {v : AV} {S' : St} {e e1 : Env} {f g : Nat} {x : Ex} {e' : Env} {S1 : St} (hw : wanted all e o = true) (h1 : oper X (exec X f) e S o.op = some (v, S')) (h2 : rdv (cls X e o.op) v = true) (h3 : setDst n e o.dst v = some e1)
    (h4 : opersR X (exec X g) n all os e1 S' = .ok x e' S1) : opersR X (exec X (max f g)) n all (o :: os) e S = .ok x e' S1 := by
  unfold opersR
  rw [hw]
  simp only [cond_true]
  rw [oper_le (exec_le (Nat.le_max_left f g)) h1]
  dsimp only
  rw [h2]
  simp only [cond_true]
  rw [h3]
  exact opersR_le (exec_le (Nat.le_max_right f g)) h4
theorem wanted_none {e : Env} (hg : o.guard = none) : wanted all e o = true := by unfold wanted; rw [hg]
/-- an operation that has a place for what it yields -/
theorem WO_dst {d : Nat} (hg : o.guard = none) (hd : o.dst = some d) (hn : Nat.blt d n = true) (hn' : Nat.blt n 1000001 = true) (h : Ev X l S o.op fun v S' => WO X n all os ks Q ((d, v) :: l) S') : WO X n all (o :: os) ks Q l S := by
  intro e he
  obtain ⟨f, v, S1, h1, h2, h3⟩ := h e he
  rw [nblt, decide_eq_true_eq] at hn hn'
  obtain ⟨g, e2, S2, h4, h5⟩ := h3 _ (he.put hn' hn)
  refine ⟨max f g, e2, S2, WO_go (wanted_none hg) h1 h2 ?_ h4, h5⟩
  rw [hd]; unfold setDst; dsimp only; rw [nblt, decide_eq_true hn]; rfl
theorem WO_no (hg : o.guard = none) (hd : o.dst = none) (h : Ev X l S o.op fun _ S' => WO X n all os ks Q l S') : WO X n all (o :: os) ks Q l S := by
  intro e he
  obtain ⟨f, v, S1, h1, h2, h3⟩ := h e he
  obtain ⟨g, e2, S2, h4, h5⟩ := h3 _ he
  refine ⟨max f g, e2, S2, WO_go (wanted_none hg) h1 h2 ?_ h4, h5⟩
  rw [hd]; rfl
/-- a guarded operation -/
theorem WO_guard {j d0 : Nat} {want : Bool} {p : Oper} {c : Bool} {d : Nat} (hg : o.guard = some (j, want)) (hp : all[j]? = some p) (hd0 : p.dst = some d0) (hl : lk l d0 = some (.bool c)) (hd : o.dst = some d) (hn : Nat.blt d n = true) (hn' : Nat.blt n 1000001 = true)
    (h1 : c = want → WO X n all ({ o with guard := none } :: os) ks Q ((d0, .bool want) :: l) S) (h2 : c = (!want) → WO X n all os ks Q ((d, .tup []) :: (d0, .bool (!want)) :: l) S) : WO X n all (o :: os) ks Q l S := by
  intro e he
  rw [nblt, decide_eq_true_eq] at hn hn'
  have hat : e.at d0 = .bool c := he d0 _ hl
  have hag : ∀ b, c = b → Ag ((d0, .bool b) :: l) e := by
    intro b hb t v ht
    unfold lk at ht
    rw [nbeq, cond_dec] at ht
    by_cases hh : d0 = t
    · subst hh; rw [if_pos rfl] at ht; cases ht; rw [hat, hb]
    · rw [if_neg hh] at ht; exact he t v ht
  have hw : wanted all e o = (c == want) := by unfold wanted; rw [hg]; dsimp only; rw [hp]; dsimp only; rw [hd0]; dsimp only; rw [hat]
  by_cases hc : c = want
  · obtain ⟨f, e2, S2, h3, h4⟩ := h1 hc e (hag want hc)
    refine ⟨f, e2, S2, ?_, h4⟩
    have hw' : wanted all e o = true := by rw [hw, hc]; cases want <;> rfl
    unfold opersR at h3 ⊢
    rw [wanted_none rfl] at h3
    rw [hw']
    exact h3
  · have hc' : c = (!want) := by cases c <;> cases want <;> simp_all
    obtain ⟨f, e2, S2, h3, h4⟩ := h2 hc' _ ((hag _ hc').put hn' hn)
    refine ⟨f, e2, S2, ?_, h4⟩
    have hw' : wanted all e o = false := by rw [hw, hc']; cases want <;> rfl
    unfold opersR
    rw [hw']
    simp only [cond_false]
    rw [hd]; unfold setDst; dsimp only; rw [nblt, decide_eq_true hn]
    exact h3
theorem WO_guard_t {j d0 : Nat} {want : Bool} {p : Oper} {d : Nat} (hg : o.guard = some (j, want)) (hp : all[j]? = some p) (hd0 : p.dst = some d0) (hl : lk l d0 = some (.bool want)) (hd : o.dst = some d) (hn : Nat.blt d n = true) (hn' : Nat.blt n 1000001 = true)
    (h1 : WO X n all ({ o with guard := none } :: os) ks Q l S) : WO X n all (o :: os) ks Q l S := by
  refine WO_guard hg hp hd0 hl hd hn hn' (fun _ => ?_) (fun h => ?_)
  · intro e he
    exact h1 e (fun t v ht => he t v (by
      unfold lk; rw [nbeq, cond_dec]
      by_cases hh : d0 = t
      · subst hh; rw [hl] at ht; cases ht; rw [if_pos rfl]
      · rw [if_neg hh]; exact ht))
  · cases want <;> cases h
theorem WO_guard_f {j d0 : Nat} {want c : Bool} {p : Oper} {d : Nat} (hg : o.guard = some (j, want)) (hp : all[j]? = some p) (hd0 : p.dst = some d0) (hl : lk l d0 = some (.bool c)) (hc : (c == want) = false) (hd : o.dst = some d) (hn : Nat.blt d n = true) (hn' : Nat.blt n 1000001 = true)
    (h2 : WO X n all os ks Q ((d, .tup []) :: l) S) : WO X n all (o :: os) ks Q l S := by
  intro e he
  rw [nblt, decide_eq_true_eq] at hn hn'
  have hat : e.at d0 = .bool c := he d0 _ hl
  have hw : wanted all e o = false := by unfold wanted; rw [hg]; dsimp only; rw [hp]; dsimp only; rw [hd0]; dsimp only; rw [hat]; exact hc
  obtain ⟨f, e2, S2, h3, h4⟩ := h2 _ (he.put hn' hn)
  refine ⟨f, e2, S2, ?_, h4⟩
  unfold opersR
  rw [hw]
  simp only [cond_false]
  rw [hd]; unfold setDst; dsimp only; rw [nblt, decide_eq_true hn]
  exact h3
theorem WO_guard_x {j d0 : Nat} {want : Bool} {p : Oper} {d : Nat} (hg : o.guard = some (j, want)) (hp : all[j]? = some p) (hd0 : p.dst = some d0) (hl : lk l d0 = some (.tup [])) (hd : o.dst = some d) (hn : Nat.blt d n = true) (hn' : Nat.blt n 1000001 = true)
    (h2 : WO X n all os ks Q ((d, .tup []) :: l) S) : WO X n all (o :: os) ks Q l S := by
  intro e he
  rw [nblt, decide_eq_true_eq] at hn hn'
  have hat : e.at d0 = .tup [] := he d0 _ hl
  have hw : wanted all e o = false := by unfold wanted; rw [hg]; dsimp only; rw [hp]; dsimp only; rw [hd0]; dsimp only; rw [hat]
  obtain ⟨f, e2, S2, h3, h4⟩ := h2 _ (he.put hn' hn)
  refine ⟨f, e2, S2, ?_, h4⟩
  unfold opersR
  rw [hw]
  simp only [cond_false]
  rw [hd]; unfold setDst; dsimp only; rw [nblt, decide_eq_true hn]
  exact h3
/-- a call's run -/
def Runs (X : _root_.GX.X) (f : Nat) (args : List AV) (S : St) (R : AV → St → Prop) : Prop := ∃ fuel v S', call X fuel f args S = some (v, S') ∧ S.n ≤ S'.n ∧ R v S'
theorem Runs.mono {f : Nat} {args : List AV} {R R' : AV → St → Prop} (h : Runs X f args S R) (hR : ∀ v S', S.n ≤ S'.n → R v S' → R' v S') : Runs X f args S R' := by
  obtain ⟨fuel, v, S', h1, h2, h3⟩ := h
  exact ⟨fuel, v, S', h1, h2, hR v S' h2 h3⟩
theorem Runs_ext {f : Nat} {args : List AV} {g} {v : AV} {S' : St} {R : AV → St → Prop} (hg : X.ext f = some g) (h : g args S = some (v, S')) (hn : S.n ≤ S'.n) (hR : R v S') : Runs X f args S R :=
  ⟨0, v, S', by unfold call enter; rw [hg]; exact h, hn, hR⟩
theorem Runs.elim {f : Nat} {args : List AV} {R : AV → St → Prop} (h : Runs X f args S R) : ∃ fuel v S', call X fuel f args S = some (v, S') ∧ S.n ≤ S'.n ∧ R v S' := h
def QF (X : _root_.GX.X) (rs : List ResultVar) (R : AV → St → Prop) (x : Ex) (e : Env) (S : St) : Prop :=
  (∀ i, x ≠ .exit i) ∧ ∃ vs, rets X e S.h rs = some vs ∧ R (tupled vs) S
def argL : List AV → Nat → L
  | [], _ => []
  | a :: as, i => (i, a) :: argL as (i + 1)
theorem lk_argL : ∀ {as : List AV} {i t : Nat} {v : AV}, lk (argL as i) t = some v → i ≤ t ∧ as[t - i]? = some v
  | [], _, _, _, h => by cases h
  | a :: as, i, t, v, h => by
    unfold argL lk at h
    rw [nbeq, cond_dec] at h
    by_cases ht : i = t
    · subst ht; rw [if_pos rfl] at h; cases h; simp
    · rw [if_neg ht] at h
      obtain ⟨h1, h2⟩ := lk_argL h
      refine ⟨by omega, ?_⟩
      rw [show t - i = (t - (i + 1)) + 1 by omega]; simpa using h2
theorem Runs_fn {f : Nat} {args : List AV} {F : Func} {c : Code} {m : Nat} {R : AV → St → Prop} (hx : X.ext f = none) (hf : X.fn f = some F) (hb : F.body = some c) (hm : args.length + (F.ntmps - args.length) = m) (hm' : Nat.blt m 1000000 = true)
    (h : W X m c [] (QF X F.results.toList R) (argL args 0) S) : Runs X f args S R := by
  have hm2 : m < 1000000 := by rw [nblt, decide_eq_true_eq] at hm'; exact hm'
  obtain ⟨fuel, x, e', S', h1, h2, vs, h3, h4⟩ := h (argEnv args 0 .leaf) (by
    intro t v ht
    obtain ⟨_, k2⟩ := lk_argL ht
    have hlt := (List.getElem?_eq_some_iff.1 k2).1
    rw [argEnv_at args 0 .leaf t (by omega), dif_pos ⟨by omega, hlt⟩]
    exact (List.getElem?_eq_some_iff.1 k2).2)
  refine ⟨fuel, tupled vs, S', ?_, exec_mono fuel _ _ _ _ _ _ _ h1, h4⟩
  unfold call enter
  rw [hx]; dsimp only; rw [hf]; dsimp only; rw [hb]; dsimp only
  rw [hm, hm']
  simp only [cond_true]
  rw [h1]
  cases x with
  | exit i => exact absurd rfl (h2 i)
  | nor => dsimp only; rw [h3]
  | ret => dsimp only; rw [h3]
def retL (l : L) : List ResultVar → Option (List AV)
  | [] => some []
  | .tmp t :: rs => match lk l t with
    | none => none
    | some v => match retL l rs with | none => none | some vs => some (v :: vs)
  | _ => none
theorem retL_ok {e : Env} (he : Ag l e) {H : Tr AB} : ∀ {rs : List ResultVar} {vs : List AV}, retL l rs = some vs → rets X e H rs = some vs
  | [], _, h => h
  | .tmp t :: rs, vs, h => by
    unfold retL at h
    split at h
    · cases h
    · rename_i v hv
      split at h
      · cases h
      · rename_i us hu
        unfold rets
        rw [retL_ok he hu]; dsimp only; rw [he t v hv]; exact h
  | .cell _ _ :: _, _, h => by cases h
theorem V_done {x : Ex} {rs : List ResultVar} {vs : List AV} {R : AV → St → Prop} (hx : (match x with | .exit _ => false | _ => true) = true) (hr : retL l rs = some vs) (h : R (tupled vs) S) : V X n x [] (QF X rs R) l S := by
  intro e he
  refine ⟨fun i hi => ?_, vs, retL_ok he hr, h⟩
  subst hi; cases hx
/-! each operation -/
variable {R : AV → St → Prop}
theorem Ev_pure {op : Op} {v : AV} (h : ∀ e, Ag l e → cls X e op = .pure ∧ pureOp X e op = some v) (hR : R v S) : Ev X l S op R := by
  intro e he
  obtain ⟨h1, h2⟩ := h e he
  exact ⟨0, v, S, by unfold oper; rw [h1]; dsimp only; rw [h2], by rw [h1]; rfl, hR⟩
theorem Ev_read {op : Op} {v : AV} (h : ∀ e, Ag l e → cls X e op = .read ∧ readOp X e S.h op = some v) (hv : veq v v = true) (hR : R v S) : Ev X l S op R := by
  intro e he
  obtain ⟨h1, h2⟩ := h e he
  exact ⟨0, v, S, by unfold oper; rw [h1]; dsimp only; rw [h2], by rw [h1]; exact hv, hR⟩
theorem Ev_alloc {op : Op} {b : AB} {v : AV} (h : ∀ e, Ag l e → cls X e op = .alloc ∧ allocOp X e S.n op = some (b, v)) (hn : S.n < 1000000000) (hR : R v (S.new b)) : Ev X l S op R := by
  intro e he
  obtain ⟨h1, h2⟩ := h e he
  exact ⟨0, v, S.new b, by unfold oper; rw [h1]; dsimp only; rw [nblt, decide_eq_true hn]; simp only [cond_true]; rw [h2], by rw [h1]; rfl, hR⟩
theorem Ev_loud {op : Op} {v : AV} {S' : St} (h : ∀ e, Ag l e → cls X e op = .loud ∧ loudOp X e S op = some (v, S')) (hn : S.n ≤ S'.n) (hR : R v S') : Ev X l S op R := by
  intro e he
  obtain ⟨h1, h2⟩ := h e he
  exact ⟨0, v, S', by unfold oper; rw [h1]; dsimp only; rw [h2]; dsimp only; rw [nble, decide_eq_true hn]; rfl, by rw [h1]; rfl, hR⟩
theorem Ev_call {fo : Operand} {args : Array Operand} {ts : Array TypeId} {g : Nat} {first captured as : List AV} (hf : od l fo = some (.func (.func g) first captured)) (ha : ods l args.toList = some as) (hR : Runs X g (first ++ as ++ captured) S R) :
    Ev X l S (.call { callee := .value fo, args := args, argTypes := ts }) R := by
  intro e he
  obtain ⟨f, v, S', h1, h2, h3⟩ := hR
  refine ⟨f, v, S', ?_, rfl, h3⟩
  have hc : callee e (.call { callee := .value fo, args := args, argTypes := ts }) = some (g, first ++ as ++ captured) := by
    unfold callee; dsimp only; rw [od_ok he hf]; dsimp only; rw [ods_ok he ha]
  unfold oper
  have hcl : cls X e (.call { callee := .value fo, args := args, argTypes := ts }) = .call := rfl
  rw [hcl]; dsimp only; rw [hc]; dsimp only
  have h1' : enter X (exec X f) g (first ++ as ++ captured) S = some (v, S') := h1
  rw [h1']; dsimp only; rw [nble, decide_eq_true h2]; rfl
theorem Ev_move {x : Operand} {v : AV} (hx : od l x = some v) (hR : R v S) : Ev X l S (.move x) R := Ev_pure (fun _ he => ⟨rfl, od_ok he hx⟩) hR
theorem Ev_assign {x : Operand} {v : AV} (hx : od l x = some v) (hR : R v S) : Ev X l S (.assign x) R := Ev_pure (fun _ he => ⟨rfl, od_ok he hx⟩) hR
theorem Ev_pick_t {c x y : Operand} {v u : AV} (hc : od l c = some (.bool true)) (hx : od l x = some v) (hy : od l y = some u) (hR : R v S) : Ev X l S (.pick c x y) R :=
  Ev_pure (fun _ he => ⟨rfl, by unfold pureOp; dsimp only; rw [od_ok he hc, od_ok he hy]; exact od_ok he hx⟩) hR
theorem Ev_pick_f {c x y : Operand} {v u : AV} (hc : od l c = some (.bool false)) (hx : od l x = some u) (hy : od l y = some v) (hR : R v S) : Ev X l S (.pick c x y) R :=
  Ev_pure (fun _ he => ⟨rfl, by unfold pureOp; dsimp only; rw [od_ok he hc, od_ok he hx]; exact od_ok he hy⟩) hR
theorem Ev_nilCheck {x : Operand} {b o : Nat} (hx : od l x = some (.ptr b o)) (hR : R (.ptr b o) S) : Ev X l S (.nilCheck x) R :=
  Ev_pure (fun _ he => ⟨rfl, by unfold pureOp; dsimp only; rw [od_ok he hx]⟩) hR
def notPtr : AV → Bool | .ptr _ _ => false | _ => true
theorem Ev_bin {op : BinOp} {t u : Nat} {x y : Operand} {a b v : AV} (hx : od l x = some a) (hy : od l y = some b) (hp : notPtr a = true) (hv : abin X op t a b = some v) (hR : R v S) : Ev X l S (.binOp op t x y u) R := by
  refine Ev_pure (fun _ he => ⟨?_, ?_⟩) hR
  · unfold cls; dsimp only; rw [od_ok he hx]; cases a <;> first | rfl | cases hp
  · unfold pureOp; dsimp only; rw [od_ok he hx]; dsimp only; rw [od_ok he hy]; exact hv
theorem Ev_un {op : UnOp} {t : Nat} {x : Operand} {a v : AV} (hx : od l x = some a) (hv : aun op a = some v) (hR : R v S) : Ev X l S (.unOp op t x) R :=
  Ev_pure (fun _ he => ⟨rfl, by unfold pureOp; dsimp only; rw [od_ok he hx]; exact hv⟩) hR
end
end
attribute [irreducible] W V WO Ev Runs
end GX
