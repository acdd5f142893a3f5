/- What the row leans on, part 4: texts one behind the other. No condition. -/
import Derived.Test.YtjbpegggfacojaaMg3
import Derived.Scope
/- GX: what the machine runs, the model runs. -/


namespace GX
open Go
section
variable {P : Program} {X : X}

def toExit : Ex → Exit
  | .nor => .normal
  | .exit id => .exit id
  | .ret => .ret
/-- inside a loop -/
def lwp (P : Program) (c : Code) (Q : Exit → Act → World → Prop) (a : Act) (w : World) : Prop :=
  ∀ (b : Frame) (k : List Item) (cs : List Frame), ∃ e a' w', Q e a' w' ∧ Arrives P (lone (b.at a (.code c :: .inLoop c :: k)) cs w) b k cs e a' w'
theorem wp_of_lwp {c : Code} {Q : Exit → Act → World → Prop} {a : Act} {w : World} (h : lwp P c Q a w) : (Code.loop c).wp P Q a w := by
  intro b k cs
  obtain ⟨e, a', w', h1, h2⟩ := h b k cs
  exact ⟨e, a', w', h1, .of_steps (.one step_loop) h2⟩
theorem lwp_round {c : Code} {Q : Exit → Act → World → Prop} {a : Act} {w : World} (h : c.wp P (Exit.then (lwp P c Q) Q) a w) : lwp P c Q a w := by
  intro b k cs
  obtain ⟨e, a₁, w₁, hq, harr⟩ := h b (.inLoop c :: k) cs
  cases e with
  | normal =>
    obtain ⟨e₂, a₂, w₂, hq₂, harr₂⟩ := hq b k cs
    exact ⟨e₂, a₂, w₂, hq₂, .of_steps (Steps.trans harr (.one step_inLoop)) harr₂⟩
  | exit id => exact ⟨_, a₁, w₁, hq, .pass (x := .inLoop c) rfl (fun _ _ => .inl (by simp)) harr⟩
  | goto l => exact ⟨_, a₁, w₁, hq, .pass (x := .inLoop c) rfl (fun _ _ => .inl (by simp)) harr⟩
  | ret => exact ⟨_, a₁, w₁, hq, .pass (x := .inLoop c) rfl (fun _ _ => .inl (by simp)) harr⟩
  | panic ch => exact ⟨_, a₁, w₁, hq, .pass (x := .inLoop c) rfl (fun _ _ => .inl (by simp)) harr⟩
  | outgrown => exact ⟨_, a₁, w₁, hq, .pass (x := .inLoop c) rfl (fun _ _ => .inl (by simp)) harr⟩
def cwp (P : Program) (c : Code) (Q : Exit → Act → World → Prop) (a : Act) (w : World) : Prop :=
  match c with
  | .loop b => lwp P b Q a w
  | c => c.wp P Q a w
theorem cwp_wp {c : Code} {Q : Exit → Act → World → Prop} {a : Act} {w : World} (h : cwp P c Q a w) : c.wp P Q a w := by
  cases c <;> first | exact h | exact wp_of_lwp h

/-- the state behind an execution -/
structure After [Val] (φ : Phi) (n : Nat) (S : St) (w : World) (e' : Env) (S' : St) (φ' : Phi) (a' : Act) (w' : World) : Prop where
  env : erel φ' n e' a'.tmps
  def_ : a'.defers = []
  wr : wrel φ' S'.h w'
  ext : Ext φ S.h S.n w φ' S'.h S'.n w'
def Fresh (φ : Phi) (n n' : Nat) : Prop := ∀ id, n ≤ id → id < n' → φ id = none
theorem Fresh.sub {φ : Phi} {n n' m m' : Nat} (h : Fresh φ n n') (h1 : n ≤ m) (h2 : m' ≤ n') : Fresh φ m m' := fun id a b => h id (by omega) (by omega)
theorem Fresh.ext {φ φ' : Phi} {h h' : Tr AB} {n n' m : Nat} {w w' : World} (f : Fresh φ n m) (e : Ext φ h n w φ' h' n' w') : Fresh φ' n' m := by
  intro id h1 h2
  rcases e.new id with k | ⟨k1, k2, _⟩
  · rw [k]; exact f id (Nat.le_trans e.le h1) h2
  · omega
theorem After.trans [Val] {φ φ1 φ2 : Phi} {n : Nat} {S S1 S2 : St} {w w1 w2 : World} {e1 e2 : Env} {a1 a2 : Act} (x : After φ n S w e1 S1 φ1 a1 w1) (y : After φ1 n S1 w1 e2 S2 φ2 a2 w2) (f : Fresh φ S.n S1.n) :
    After φ n S w e2 S2 φ2 a2 w2 := ⟨y.env, y.def_, y.wr, x.ext.trans y.ext f⟩
def Mono (rec : Rec) : Prop := ∀ n c e S x e' S', rec n c e S = .ok x e' S' → S.n ≤ S'.n
def RecOK [Val] (P : Program) (rec : Rec) : Prop := ∀ n c e S x e' S', rec n c e S = .ok x e' S' → ∀ φ (a : Act) w Q, erel φ n e a.tmps → a.defers = [] → wrel φ S.h w → Fresh φ S.n S'.n →
  (∀ a' w' φ', After φ n S w e' S' φ' a' w' → Q (toExit x) a' w') → cwp P c Q a w

/-- what a call comes to -/
def CallSpec (P : Program) (f : FuncId) (args : Array Value) (w : World) (R : Value → World → Prop) : Prop :=
  ∀ (o : Oper) (a : Act) next Q, (∀ v w', R v w' → next (a.put o.dst v) w') → o.upon P a next Q ((callFunc f args).run P w)
def ExtOK [Val] (P : Program) (f : FuncId) (g : List AV → St → Option (AV × St)) : Prop := ∀ args S r S', g args S = some (r, S') → S.n ≤ S'.n ∧
  ∀ φ w (vs : Array Value), vrels φ args vs.toList → wrel φ S.h w → Fresh φ S.n S'.n → CallSpec P f vs w fun v w' => ∃ φ', vrel φ' r v ∧ wrel φ' S'.h w' ∧ Ext φ S.h S.n w φ' S'.h S'.n w'

/-! monotony -/
theorem oper_n {rec : Rec} {e : Env} {S S' : St} {op : Op} {v : AV} (h : oper X rec e S op = some (v, S')) : S.n ≤ S'.n := by
  unfold oper at h
  split at h
  · split at h
    · simp at h
    · simp at h; rw [h.2]; exact Nat.le_refl _
  · split at h
    · simp at h
    · simp at h; rw [h.2]; exact Nat.le_refl _
  · rw [nblt, cond_dec] at h
    split at h
    · split at h
      · simp at h
      · simp at h; obtain ⟨_, rfl⟩ := h; exact Nat.le_succ _
    · simp at h
  · split at h
    · simp at h
    · rw [nble, cond_dec] at h
      split at h
      · simp at h; obtain ⟨_, rfl⟩ := h; assumption
      · simp at h
  · split at h
    · simp at h
    · split at h
      · simp at h
      · rw [nble, cond_dec] at h
        split at h
        · simp at h; obtain ⟨_, rfl⟩ := h; assumption
        · simp at h
theorem opers_n {rec : Rec} {n : Nat} {all : List Oper} : ∀ {os : List Oper} {e : Env} {S : St} {x e' S'}, opers X rec n all os e S = .ok x e' S' → S.n ≤ S'.n ∧ x = .nor
  | [], e, S, x, e', S', h => by simp [opers] at h; obtain ⟨rfl, _, rfl⟩ := h; exact ⟨Nat.le_refl _, rfl⟩
  | o :: os, e, S, x, e', S', h => by
    simp only [opers] at h
    cases hw : wanted all e o with
    | true =>
      simp only [hw, cond_true] at h
      split at h
      · simp at h
      · rename_i v S1 ho
        split at h
        · simp at h
        · obtain ⟨h1, h2⟩ := opers_n h
          exact ⟨Nat.le_trans (oper_n ho) h1, h2⟩
    | false =>
      simp only [hw, cond_false] at h
      split at h
      · simp at h
      · exact opers_n h
theorem drawn_n {rec : Rec} {n : Nat} {ops : List Oper} {e : Env} {S : St} {x e' S'} (h : drawn X rec n ops e S = .ok x e' S') : S.n ≤ S'.n ∧ x = .nor := by
  unfold drawn at h
  dsimp only at h
  cases hc : (edgesOk ops 0 && dstsOk n ops && noSelect ops) with
  | false => rw [hc] at h; simp at h
  | true =>
    rw [hc] at h
    simp only [cond_true] at h
    split at h
    · simp at h
    · rename_i recs lds N hp
      cases hr : rdsOk X n ops (masks ops []) recs e S.h lds ops 0 with
      | false => rw [hr] at h; simp at h
      | true =>
        rw [hr] at h
        simp only [cond_true] at h
        split at h
        · simp at h
        · rw [nble, cond_dec] at h
          split at h
          · simp at h; obtain ⟨rfl, _, rfl⟩ := h
            exact ⟨by assumption, rfl⟩
          · simp at h
theorem exec_mono (f : Nat) : Mono (exec X f) := by
  induction f with
  | zero => intro n c e S x e' S' h; simp [exec] at h
  | succ f ih =>
    intro n c e S x e' S' h
    simp only [exec, step] at h
    split at h
    · simp at h; rw [h.2.2]; exact Nat.le_refl _
    · simp at h; rw [h.2.2]; exact Nat.le_refl _
    · simp at h; rw [h.2.2]; exact Nat.le_refl _
    · simp at h; rw [h.2.2]; exact Nat.le_refl _
    · split at h
      · simp at h
      · rename_i h1
        have m1 := ih _ _ _ _ _ _ _ h1
        split at h
        · exact Nat.le_trans m1 (ih _ _ _ _ _ _ _ h)
        · simp at h; rw [← h.2.2]; exact m1
    · split at h
      · split at h <;> exact ih _ _ _ _ _ _ _ h
      · simp at h
    · split at h
      · simp at h
      · rename_i h1
        have m1 := ih _ _ _ _ _ _ _ h1
        split at h
        · rw [nbeq, cond_dec] at h
          split at h <;> simp at h <;> rw [← h.2.2] <;> exact m1
        · simp at h; rw [← h.2.2]; exact m1
    · split at h
      · simp at h
      · rename_i h1
        have m1 := ih _ _ _ _ _ _ _ h1
        split at h
        · exact Nat.le_trans m1 (ih _ _ _ _ _ _ _ h)
        · simp at h; rw [← h.2.2]; exact m1
    · exact ih _ _ _ _ _ _ _ h
    · rename_i d
      cases d with
      | true => simp only [cond_true] at h; exact (drawn_n h).1
      | false => simp only [cond_false] at h; exact (opers_n h).1
    · simp at h

/-! one operation -/
theorem vrel_bool [Val] {φ : Phi} {a : AV} {b : Bool} (h : vrel φ a (.bool b)) : a = .bool b := by
  cases a <;> simp [vrel] at h <;> first | (rw [h]; done) | (subst h; rfl)
theorem wanted_ok [Val] {φ : Phi} {n : Nat} {e : Env} {a : Act} (he : erel φ n e a.tmps) {ops : Array Oper} {o : Oper} : wanted ops.toList e o = Region.wanted o (yielded ops a.tmps) := by
  unfold wanted Region.wanted
  split
  · rename_i hg; rw [hg]
  · rename_i j want hg
    rw [hg]
    simp only [yielded]
    split
    · rename_i hn
      have hn' : ops[j]? = none := by simpa using hn
      rw [hn']; simp
    · rename_i p hp
      have hp' : ops[j]? = some p := by simpa using hp
      rw [hp']
      simp only [Option.bind_some]
      split
      · rename_i hd; rw [hd]; simp
      · rename_i d hd
        rw [hd]
        simp only [Option.bind_some]
        have hv := he.at_ d
        split
        · rename_i b hb
          rw [hb] at hv
          simp only [vrel] at hv
          have : a.tmps[d]? = some (.bool b) := by
            rw [Array.getD_eq_getD_getElem?] at hv
            cases hq : a.tmps[d]? with
            | none => rw [hq] at hv; simp [undef] at hv
            | some x => rw [hq] at hv; simp at hv; rw [hv]
          rw [this]
          cases b <;> cases want <;> rfl
        · rename_i hnb
          have : ∀ b, a.tmps[d]? ≠ some (.bool b) := by
            intro b hq
            rw [Array.getD_eq_getD_getElem?, hq] at hv
            simp only [Option.getD_some] at hv
            exact hnb b (vrel_bool hv)
          split
          · rename_i b hq; exact absurd hq (this b)
          · cases want <;> rfl
theorem run_call {ρ : Operand → Value} {o : Oper} {c : Call} {f : Operand} {g : FuncId} {fs cs : Array Value} (ho : o.op = .call c) (hc : c.callee = .value f) (hf : ρ f = .func (.func g) fs cs) :
    execOp ρ o = callFunc g (fs ++ c.args.map ρ ++ cs) := by
  obtain ⟨dst, op, type, pos, after, guard⟩ := o
  dsimp only at ho
  subst ho
  simp only [execOp, resolve, hc, hf, Deferred.ofValue]
  rfl
/-- what one operation comes to -/
theorem oper_ok [Val] (hX : XOK P X) (hx : ∀ f g, X.ext f = some g → ExtOK P f g) {rec : Rec}
    (hent : ∀ f args S r S', X.ext f = none → enter X rec f args S = some (r, S') → ∀ φ w (vs : Array Value), vrels φ args vs.toList → wrel φ S.h w → Fresh φ S.n S'.n → CallSpec P f vs w fun v w' => ∃ φ', vrel φ' r v ∧ wrel φ' S'.h w' ∧ Ext φ S.h S.n w φ' S'.h S'.n w')
    {φ : Phi} {n : Nat} {e : Env} {a : Act} {w : World} {S S' : St} {o : Oper} {v : AV} (he : erel φ n e a.tmps) (hw : wrel φ S.h w) (fr : Fresh φ S.n S'.n) (h : oper X rec e S o.op = some (v, S'))
    {a0 : Act} {next : Act → World → Prop} {Q : Exit → Act → World → Prop} (hq : ∀ u w' φ', vrel φ' v u → wrel φ' S'.h w' → Ext φ S.h S.n w φ' S'.h S'.n w' → next (a0.put o.dst u) w') :
    o.upon P a0 next Q ((execOp a.eval o).run P w) := by
  unfold oper at h
  split at h
  · split at h
    · simp at h
    · rename_i hp
      simp at h; obtain ⟨rfl, rfl⟩ := h
      obtain ⟨u, h1, h2⟩ := pure_ok hX he hp
      rw [h1 w]
      exact hq u w φ h2 hw (Ext.refl _ _ _ _)
  · split at h
    · simp at h
    · rename_i hp
      simp at h; obtain ⟨rfl, rfl⟩ := h
      obtain ⟨u, h1, h2⟩ := read_ok hX hw he hp
      rw [h1]
      exact hq u w φ h2 hw (Ext.refl _ _ _ _)
  · rw [nblt, cond_dec] at h
    split at h
    · rename_i hlt
      split at h
      · simp at h
      · rename_i b v' hp
        simp at h; obtain ⟨rfl, rfl⟩ := h
        obtain ⟨u, w', h1, h2⟩ := alloc_ok (w := w) hX he hp
        obtain ⟨φ', k1, k2, k3⟩ := new_ok hw hlt (fr S.n (Nat.le_refl _) (Nat.lt_succ_self _)) h2
        rw [h1]
        exact hq u w' φ' k3 k1 k2
    · simp at h
  · split at h
    · simp at h
    · rename_i v' S1 hp
      rw [nble, cond_dec] at h
      split at h
      · simp at h; obtain ⟨rfl, rfl⟩ := h
        obtain ⟨r, u, w', φ', h1, h2, h3, h4, h5⟩ := loud_ok hX hw he hp fr
        rw [h1]
        rcases h2 with rfl | ⟨rfl, rfl⟩
        · exact hq u w' φ' h3 h4 h5
        · exact hq _ w' φ' h3 h4 h5
      · simp at h
  · split at h
    · simp at h
    · rename_i f asx hc
      split at h
      · simp at h
      · rename_i v' S1 hp
        rw [nble, cond_dec] at h
        split at h
        · simp at h; obtain ⟨rfl, rfl⟩ := h
          unfold callee at hc
          split at hc
          · rename_i f' args' tys hop
            split at hc
            · rename_i g first captured hf
              split at hc
              · simp at hc
              · rename_i as' has
                simp at hc; obtain ⟨rfl, rfl⟩ := hc
                have hf := opd_ok he hf
                simp only [vrel] at hf
                obtain ⟨fs, cs, f1, f2, f3⟩ := hf
                have has := opds_ok he has
                rw [run_call hop rfl f1]
                have hvs : vrels φ (first ++ (as' ++ captured)) (fs ++ args'.map a.eval ++ cs).toList := by
                  simp only [Array.toList_append, Array.toList_map, List.append_assoc]
                  exact vrels_append f2 (vrels_append has f3)
                rw [← List.append_assoc] at hvs
                cases hxt : X.ext g with
                | none =>
                  exact hent g _ S v' S1 hxt (by simpa using hp) φ w _ (by simpa using hvs) hw fr o a0 next Q (fun u w' ⟨φ', k1, k2, k3⟩ => hq u w' φ' k1 k2 k3)
                | some gg =>
                  unfold enter at hp
                  rw [hxt] at hp
                  exact (hx g gg hxt _ S v' S1 hp).2 φ w _ (by simpa using hvs) hw fr o a0 next Q (fun u w' ⟨φ', k1, k2, k3⟩ => hq u w' φ' k1 k2 k3)
            · simp at hc
          · simp at hc
        · simp at h

/-- what the callee's entry comes to, for a machine that runs -/
def EntOK [Val] (P : Program) (X : _root_.GX.X) (rec : Rec) : Prop := ∀ f args S r S', X.ext f = none → enter X rec f args S = some (r, S') → ∀ φ w (vs : Array Value), vrels φ args vs.toList → wrel φ S.h w → Fresh φ S.n S'.n → CallSpec P f vs w fun v w' => ∃ φ', vrel φ' r v ∧ wrel φ' S'.h w' ∧ Ext φ S.h S.n w φ' S'.h S'.n w'
theorem opers_ok [Val] (hX : XOK P X) (hx : ∀ f g, X.ext f = some g → ExtOK P f g) {rec : Rec} (hent : EntOK P X rec) {ops : Array Oper} {n : Nat} {Q : Exit → Act → World → Prop} :
    ∀ (os : List Oper) (i : Nat) (e : Env) (S : St) (e' : Env) (S' : St), ops.toList.drop i = os → opers X rec n ops.toList os e S = .ok .nor e' S' → ∀ φ (a : Act) w, erel φ n e a.tmps → a.defers = [] → wrel φ S.h w → Fresh φ S.n S'.n →
    (∀ a' w' φ', After φ n S w e' S' φ' a' w' → Q .normal a' w') → wpOps P ops Q (List.range' i os.length) a w
  | [], i, e, S, e', S', _, h, φ, a, w, he, hd, hw, fr, hq => by
    simp [opers] at h
    obtain ⟨rfl, rfl⟩ := h
    exact hq a w φ ⟨he, hd, hw, Ext.refl _ _ _ _⟩
  | o :: os, i, e, S, e', S', hi, h, φ, a, w, he, hd, hw, fr, hq => by
    have ho : ops[i]? = some o := by
      have := congrArg (·[0]?) hi
      simpa using this
    have hi' : ops.toList.drop (i + 1) = os := by
      rw [← List.drop_drop, hi]; rfl
    simp only [List.length_cons, List.range'_succ, wpOps, ho]
    rw [← wanted_ok he]
    simp only [opers] at h
    cases hwt : wanted ops.toList e o with
    | true =>
      simp only [hwt, cond_true] at h
      simp only [if_true]
      split at h
      · simp at h
      · rename_i v S1 hop
        split at h
        · simp at h
        · rename_i e1 hs
          have m1 := oper_n hop
          have m2 := (opers_n h).1
          left
          refine oper_ok (a0 := a) hX hx hent he hw (fr.sub (Nat.le_refl _) m2) hop ?_
          intro u w1 φ1 k1 k2 k3
          have he1 := (he.mono k3.sub).put k1 hs
          refine opers_ok hX hx hent os (i + 1) e1 S1 e' S' hi' h φ1 _ w1 he1 ?_ k2 (fr.ext k3) ?_
          · cases o.dst <;> simpa [Act.put] using hd
          · intro a' w' φ' haft
            refine hq a' w' φ' ⟨haft.env, haft.def_, haft.wr, k3.trans haft.ext (fr.sub (Nat.le_refl _) m2)⟩
    | false =>
      simp only [hwt, cond_false] at h
      simp only [Bool.false_eq_true, if_false]
      split at h
      · simp at h
      · rename_i e1 hs
        have he1 := he.put (vrel_undef φ) hs
        refine opers_ok hX hx hent os (i + 1) e1 S e' S' hi' h φ _ w he1 ?_ hw fr hq
        cases o.dst <;> simpa [Act.put] using hd
def DrawnOK [Val] (P : Program) (X : _root_.GX.X) (rec : Rec) : Prop := ∀ (ops : Array Oper) n (e : Env) S e' S' id, drawn X rec n ops.toList e S = .ok .nor e' S' → ∀ φ (a : Act) w Q, erel φ n e a.tmps → a.defers = [] → wrel φ S.h w → Fresh φ S.n S'.n →
  (∀ a' w' φ', After φ n S w e' S' φ' a' w' → Q Exit.normal a' w') → (Code.region id ops true).wp P Q a w
theorem exec_ok [Val] (hX : XOK P X) (hx : ∀ f g, X.ext f = some g → ExtOK P f g) {rec : Rec} (hm : Mono rec) (hr : RecOK P rec) (hent : EntOK P X rec) (hdr : DrawnOK P X rec) : RecOK P (step X rec) := by
  intro n c e S x e' S' h φ a w Q he hd hw fr hq
  unfold step at h
  split at h
  · simp at h; obtain ⟨rfl, rfl, rfl⟩ := h
    exact wp_skip (hq a w φ ⟨he, hd, hw, Ext.refl _ _ _ _⟩)
  · simp at h; obtain ⟨rfl, rfl, rfl⟩ := h
    exact wp_label (hq a w φ ⟨he, hd, hw, Ext.refl _ _ _ _⟩)
  · simp at h; obtain ⟨rfl, rfl, rfl⟩ := h
    exact wp_ret (hq a w φ ⟨he, hd, hw, Ext.refl _ _ _ _⟩)
  · simp at h; obtain ⟨rfl, rfl, rfl⟩ := h
    exact wp_exit (hq a w φ ⟨he, hd, hw, Ext.refl _ _ _ _⟩)
  · rename_i c1 c2
    split at h
    · simp at h
    · rename_i x1 e1 S1 h1
      have m1 := hm _ _ _ _ _ _ _ h1
      refine wp_seq (cwp_wp ?_)
      split at h
      · have m2 := hm _ _ _ _ _ _ _ h
        refine hr _ _ _ _ _ _ _ h1 φ a w _ he hd hw (fr.sub (Nat.le_refl _) m2) ?_
        intro a1 w1 φ1 k
        refine cwp_wp (hr _ _ _ _ _ _ _ h φ1 a1 w1 _ k.env k.def_ k.wr (fr.ext k.ext) ?_)
        intro a2 w2 φ2 k2
        exact hq a2 w2 φ2 (k.trans k2 (fr.sub (Nat.le_refl _) m2))
      · rename_i hne
        simp at h; obtain ⟨rfl, rfl, rfl⟩ := h
        refine hr _ _ _ _ _ _ _ h1 φ a w _ he hd hw fr ?_
        intro a1 w1 φ1 k
        have := hq a1 w1 φ1 k
        cases x1 with
        | nor => exact absurd rfl hne
        | exit id => exact this
        | ret => exact this
  · rename_i cc c1 c2
    split at h
    · rename_i t hc
      have hc := opd_ok he hc
      simp only [vrel] at hc
      refine wp_cond hc (cwp_wp ?_)
      cases t with
      | true => exact hr _ _ _ _ _ _ _ h φ a w _ he hd hw fr hq
      | false => exact hr _ _ _ _ _ _ _ h φ a w _ he hd hw fr hq
    · simp at h
  · rename_i id b
    split at h
    · simp at h
    · rename_i x1 e1 S1 h1
      refine wp_block (cwp_wp ?_)
      split at h
      · rename_i i
        rw [nbeq, cond_dec] at h
        split at h
        · rename_i hi
          simp at h; obtain ⟨rfl, rfl, rfl⟩ := h
          refine hr _ _ _ _ _ _ _ h1 φ a w _ he hd hw fr ?_
          intro a1 w1 φ1 k
          simp only [toExit, Exit.inBlock, hi, if_true]
          exact hq a1 w1 φ1 k
        · rename_i hi
          simp at h; obtain ⟨rfl, rfl, rfl⟩ := h
          refine hr _ _ _ _ _ _ _ h1 φ a w _ he hd hw fr ?_
          intro a1 w1 φ1 k
          simp only [toExit, Exit.inBlock, hi, if_false]
          exact hq a1 w1 φ1 k
      · rename_i hne
        simp at h; obtain ⟨rfl, rfl, rfl⟩ := h
        refine hr _ _ _ _ _ _ _ h1 φ a w _ he hd hw fr ?_
        intro a1 w1 φ1 k
        have := hq a1 w1 φ1 k
        cases x1 with
        | nor => exact this
        | exit id => exact absurd rfl (hne _)
        | ret => exact this
  · rename_i b
    split at h
    · simp at h
    · rename_i x1 e1 S1 h1
      show lwp P b Q a w
      refine lwp_round (cwp_wp ?_)
      split at h
      · have m2 := hm _ _ _ _ _ _ _ h
        refine hr _ _ _ _ _ _ _ h1 φ a w _ he hd hw (fr.sub (Nat.le_refl _) m2) ?_
        intro a1 w1 φ1 k
        exact hr _ (.loop b) _ _ _ _ _ h φ1 a1 w1 _ k.env k.def_ k.wr (fr.ext k.ext) (fun a2 w2 φ2 k2 => hq a2 w2 φ2 (k.trans k2 (fr.sub (Nat.le_refl _) m2)))
      · rename_i hne
        simp at h; obtain ⟨rfl, rfl, rfl⟩ := h
        refine hr _ _ _ _ _ _ _ h1 φ a w _ he hd hw fr ?_
        intro a1 w1 φ1 k
        have := hq a1 w1 φ1 k
        cases x1 with
        | nor => exact absurd rfl hne
        | exit id => exact this
        | ret => exact this
  · rename_i b
    refine wp_scope_straight (cwp_wp ?_)
    refine hr _ _ _ _ _ _ _ h φ a w _ he hd hw fr ?_
    intro a1 w1 φ1 k
    have := hq a1 w1 φ1 k
    cases x <;> exact this
  · rename_i id ops d
    cases d with
    | true =>
      simp only [cond_true] at h
      have := (drawn_n h).2
      subst this
      exact hdr ops n e S e' S' id h φ a w Q he hd hw fr hq
    | false =>
      simp only [cond_false] at h
      have := (opers_n h).2
      subst this
      refine wp_region ?_
      have key := opers_ok hX hx hent (Q := Q) ops.toList 0 e S e' S' rfl h φ a w he hd hw fr hq
      rw [List.range_eq_range']
      simpa using key
  · simp at h

/-! calls -/
theorem argEnv_at : ∀ (asx : List AV) (i : Nat) (e : Env) (t : Nat), i + asx.length < 1000001 → (argEnv asx i e).at t = if h : i ≤ t ∧ t - i < asx.length then asx[t - i] else e.at t
  | [], i, e, t, _ => by simp [argEnv]
  | a :: asx, i, e, t, hs => by
    simp only [List.length_cons] at hs
    simp only [argEnv]
    rw [argEnv_at asx (i + 1) _ t (by omega)]
    by_cases h1 : i + 1 ≤ t ∧ t - (i + 1) < asx.length
    · rw [dif_pos h1, dif_pos ⟨by omega, by simp; omega⟩]
      have : t - i = (t - (i + 1)) + 1 := by omega
      simp only [this, List.getElem_cons_succ]
    · rw [dif_neg h1, Env.at_put _ _ _ _ (by omega)]
      by_cases h2 : t = i
      · subst h2; simp
      · rw [if_neg h2, dif_neg]
        simp; omega
theorem leaf_at (t : Nat) : Env.at Tr.leaf t = AV.tup [] := by simp [Env.at, Tr.get]
theorem enter_env [Val] {φ : Phi} {args : List AV} {vs : Array Value} (h : vrels φ args vs.toList) {m : Nat} (hs : args.length + (m - args.length) < 1000000) :
    erel φ (args.length + (m - args.length)) (argEnv args 0 .leaf) (vs ++ Array.replicate (m - vs.size) undef) := by
  have hl := vrels_length h
  simp at hl
  refine ⟨by simp [hl], by omega, fun t => ?_⟩
  rw [argEnv_at _ _ _ _ (by omega), leaf_at]
  by_cases ht : t < args.length
  · rw [dif_pos ⟨by omega, by simpa using ht⟩]
    obtain ⟨v, h1, h2⟩ := vrels_get h t _ (List.getElem?_eq_getElem ht)
    have h1' : vs[t]? = some v := by simpa using h1
    have : (vs ++ Array.replicate (m - vs.size) undef).getD t undef = v := by
      rw [Array.getD_eq_getD_getElem?, Array.getElem?_append_left (by omega), h1']; rfl
    rw [this]; exact h2
  · rw [dif_neg (by simp; omega)]
    have : (vs ++ Array.replicate (m - vs.size) undef).getD t undef = undef := by
      rw [Array.getD_eq_getD_getElem?, Array.getElem?_append_right (by omega), Array.getElem?_replicate]
      split <;> rfl
    rw [this]; exact vrel_undef φ
def resF (tmps : Array Value) (r : ResultVar) : Sem Value :=
  match r with
  | .tmp t => pure (tmps.getD t undef)
  | .cell a t => do loadVar t (← asAddr (tmps.getD a undef))
theorem results_eq (F : Func) (tmps : Array Value) : results F tmps = (do
    let vs ← F.results.mapM (resF tmps)
    pure (if h : vs.size = 1 then vs[0] else .tuple vs)) := rfl
theorem rets_ok [Val] (hX : XOK P X) {φ : Phi} {n : Nat} {e : Env} {tmps : Array Value} (he : erel φ n e tmps) {H : Tr AB} {w : World} (hw : wrel φ H w) : ∀ {rs : List ResultVar} {l : List AV}, rets X e H rs = some l →
    ∃ us : List Value, vrels φ l us ∧ (rs.mapM (resF tmps)).run P w = .ok us w
  | [], l, h => by simp [rets] at h; subst h; exact ⟨[], rfl, rfl⟩
  | .tmp t :: rs, l, h => by
    simp only [rets] at h
    split at h
    · simp at h
    · rename_i l' hl
      simp at h; subst h
      obtain ⟨us, h1, h2⟩ := rets_ok hX he hw hl
      refine ⟨_ :: us, vrels_cons (he.at_ t) h1, ?_⟩
      rw [List.mapM_cons]
      simp only [Sem.run_bind, resF, Sem.run_pure, Result.andThen_ok]
      show ((rs.mapM (resF tmps)).run P w).andThen _ = _
      rw [h2]; rfl
  | .cell a t :: rs, l, h => by
    simp only [rets] at h
    split at h
    · rename_i b o hb
      split at h
      · simp at h
      · rename_i v hv
        split at h
        · simp at h
        · rename_i l' hl
          simp at h; subst h
          obtain ⟨us, h1, h2⟩ := rets_ok hX he hw hl
          have hp := he.at_ a
          rw [hb] at hp
          simp only [vrel] at hp
          obtain ⟨L, hL, hp⟩ := hp
          obtain ⟨u, k1, k2⟩ := loadAt_ok hX hw hv hL
          refine ⟨u :: us, vrels_cons k2 h1, ?_⟩
          rw [List.mapM_cons]
          have ha : (resF tmps (.cell a t)).run P w = .ok u w := by
            simp only [resF, hp, asAddr, Sem.run_bind, Sem.run_pure, Result.andThen_ok, k1]
          simp only [Sem.run_bind, ha, h2, Sem.run_pure, Result.andThen_ok]
    · simp at h
theorem results_ok [Val] (hX : XOK P X) {φ : Phi} {n : Nat} {e : Env} {tmps : Array Value} (he : erel φ n e tmps) {H : Tr AB} {w : World} (hw : wrel φ H w) {F : Func} {l : List AV} (h : rets X e H F.results.toList = some l) :
    ∃ v, (results F tmps).run P w = .ok v w ∧ vrel φ (tupled l) v := by
  obtain ⟨us, h1, h2⟩ := rets_ok hX he hw h
  have hrun : (F.results.mapM (resF tmps)).run P w = .ok us.toArray w := by
    rw [Array.mapM_eq_mapM_toList]
    simp only [Sem.run_map, h2, Result.andThen_ok]
  refine ⟨if h : us.toArray.size = 1 then us.toArray[0] else .tuple us.toArray, ?_, ?_⟩
  · rw [results_eq]
    simp only [Sem.run_bind, hrun, Sem.run_pure, Result.andThen_ok]
  · cases l with
    | nil => simp only [vrels] at h1; subst h1; exact ⟨#[], rfl, rfl⟩
    | cons a l =>
      simp only [vrels] at h1
      obtain ⟨v, vs, rfl, k1, k2⟩ := h1
      cases l with
      | nil => simp only [vrels] at k2; subst k2; simpa [tupled] using k1
      | cons b l =>
        simp only [vrels] at k2
        obtain ⟨v2, vs2, rfl, k3, k4⟩ := k2
        simp [tupled]
        exact ⟨_, rfl, vrels_cons k1 (vrels_cons k3 k4)⟩
theorem enter_ok [Val] (hX : XOK P X) {rec : Rec} (hr : RecOK P rec) : EntOK P X rec := by
  intro f args S r S' hext h φ w vs hv hw fr
  unfold enter at h
  rw [hext] at h
  dsimp only at h
  split at h
  · simp at h
  · rename_i F hF
    have hfn := hX.fn f F hF
    split at h
    · simp at h
    · rename_i c hb
      rw [nblt, cond_dec] at h
      split at h
      · rename_i hs
        split at h
        · simp at h
        · rename_i x e1 S1 h1
          have hne : ∀ id, x ≠ .exit id := by
            intro id hid; subst hid; simp at h
          have h' : (match rets X e1 S1.h F.results.toList with | none => none | some l => some (tupled l, S1)) = some (r, S') := by
            cases x with
            | exit id => exact absurd rfl (hne id)
            | nor => exact h
            | ret => exact h
          split at h'
          · simp at h'
          · rename_i l hl
            simp at h'; obtain ⟨rfl, rfl⟩ := h'
            have hcalls : Calls P f vs w fun e w' => ∃ v φ', e = .returned v ∧ vrel φ' (tupled l) v ∧ wrel φ' S1.h w' ∧ Ext φ S.h S.n w φ' S1.h S1.n w' := by
              refine calls_of_wp hfn hb (cwp_wp ?_)
              refine hr _ _ _ _ _ _ _ h1 φ _ w _ (enter_env hv hs) rfl hw fr ?_
              intro a' w' φ' k
              obtain ⟨v, r1, r2⟩ := results_ok hX k.env k.wr hl
              cases x with
              | exit id => exact absurd rfl (hne id)
              | nor => exact ⟨k.def_, v, r1, v, φ', rfl, r2, k.wr, k.ext⟩
              | ret => exact ⟨k.def_, v, r1, v, φ', rfl, r2, k.wr, k.ext⟩
            intro o a next Q hq
            have hname := hX.gor F (Array.mem_of_getElem? hfn)
            have hrun : (callFunc f vs).run P w = .ok (.enter f vs) w := by
              simp [callFunc, hfn, hname, hb]
            rw [hrun]
            show Calls P f vs w _
            refine hcalls.mono ?_
            rintro e w' ⟨v, φ', rfl, k1, k2, k3⟩
            exact hq v w' ⟨φ', k1, k2, k3⟩
      · simp at h
end
end GX
