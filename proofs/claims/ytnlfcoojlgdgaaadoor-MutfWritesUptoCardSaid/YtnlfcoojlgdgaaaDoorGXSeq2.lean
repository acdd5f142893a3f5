/- GX: a region that draws its order is run in the text's order, where the edges say enough. -/
import Derived.Test.YtnlfcoojlgdgaaaDoorGXSeq
namespace GX
noncomputable section
open Go
/-- what class an operation may be of, but a pure one -/
def sk (X : X) : Op → Cls
  | .binOp _ t _ _ _ => match X.ti t with | some i => (match i.desc with | .pointer _ => .read | _ => .pure) | none => .pure
  | .call c => match c.callee with
    | .builtin .len => match c.argTypes.toList with | t :: _ => (match X.ti t with | some i => (match i.desc with | .map _ _ => .read | _ => .pure) | none => .pure) | _ => .pure
    | _ => cls X .leaf (.call c)
  | op => cls X .leaf op
theorem sk_ok {X : X} {rec : Rec} {e : Env} {S : St} {op : Op} {r} (h : oper X rec e S op = some r) : cls X e op = .pure ∨ cls X e op = sk X op := by
  cases op with
  | binOp o t x y z =>
    cases hc : cls X e (.binOp o t x y z) with
    | pure => exact .inl rfl
    | read =>
      right
      unfold oper at h
      rw [hc] at h
      dsimp only at h
      split at h
      · cases h
      · rename_i v hv
        unfold readOp at hv
        dsimp only at hv
        split at hv
        · split at hv
          · split at hv
            · cases hv
            · rename_i i hi
              unfold sk
              dsimp only
              rw [hi]
              dsimp only
              split at hv
              · rename_i hd; rw [hd]
              · cases hv
          · cases hv
        · cases hv
    | alloc => simp only [cls] at hc; split at hc <;> (try split at hc) <;> simp at hc
    | loud => simp only [cls] at hc; split at hc <;> (try split at hc) <;> simp at hc
    | call => simp only [cls] at hc; split at hc <;> (try split at hc) <;> simp at hc
  | call c =>
    obtain ⟨callee, args, argTypes⟩ := c
    cases callee with
    | value f => exact .inr rfl
    | invoke r m => exact .inr rfl
    | builtin b =>
      cases b <;> try exact .inr rfl
      all_goals
        cases hc : cls X e (.call { callee := .builtin .len, args, argTypes }) with
        | pure => exact .inl rfl
        | read =>
          right
          unfold oper at h
          rw [hc] at h
          dsimp only at h
          split at h
          · cases h
          · rename_i v hv
            unfold readOp at hv
            dsimp only at hv
            split at hv
            · split at hv
              · rename_i hat
                split at hv
                · cases hv
                · rename_i i hi
                  unfold sk
                  dsimp only
                  rw [hat]
                  dsimp only
                  rw [hi]
                  dsimp only
                  split at hv
                  · rename_i hd _; rw [hd]
                  · cases hv
              · cases hv
            · cases hv
        | alloc => simp only [cls] at hc; split at hc <;> (try split at hc) <;> simp at hc
        | loud => simp only [cls] at hc; split at hc <;> (try split at hc) <;> simp at hc
        | call => simp only [cls] at hc; split at hc <;> (try split at hc) <;> simp at hc
  | _ => exact .inr rfl
def rdv (c : Cls) (v : AV) : Bool := match c with | .read => veq v v | _ => true
/-- 'opers', where each value that is read is like itself -/
def opersR (X : X) (rec : Rec) (n : Nat) (all : List Oper) : List Oper → Env → St → Res
  | [], e, S => .ok .nor e S
  | o :: os, e, S =>
    bif wanted all e o then
      match oper X rec e S o.op with
      | none => .fail
      | some (v, S) => bif rdv (cls X e o.op) v then
        (match setDst n e o.dst v with
        | none => .fail
        | some e => opersR X rec n all os e S) else .fail
    else match setDst n e o.dst (.tup []) with
      | none => .fail
      | some e => opersR X rec n all os e S
theorem opersR_opers {X : X} {rec : Rec} {n : Nat} {all : List Oper} : ∀ {os : List Oper} {e : Env} {S : St} {x e' S'}, opersR X rec n all os e S = .ok x e' S' → opers X rec n all os e S = .ok x e' S'
  | [], _, _, _, _, _, h => h
  | o :: os, e, S, x, e', S', h => by
    unfold opersR at h
    unfold opers
    cases hw : wanted all e o with
    | true =>
      rw [hw] at h
      simp only [cond_true] at h ⊢
      split at h
      · cases h
      · rename_i v S1 ho
        rw [ho]
        dsimp only
        cases hb : rdv (cls X e o.op) v with
        | true =>
          rw [hb] at h
          simp only [cond_true] at h
          split at h
          · cases h
          · rename_i e1 he1
            rw [he1]
            exact opersR_opers h
        | false => rw [hb] at h; cases h
    | false =>
      rw [hw] at h
      simp only [cond_false] at h ⊢
      split at h
      · cases h
      · rename_i e1 he1
        rw [he1]
        exact opersR_opers h
def isPure : Cls → Bool | .pure => true | _ => false
def isAll : Cls → Bool | .alloc => true | .loud => true | .call => true | _ => false
def isLC : Cls → Bool | .loud => true | .call => true | _ => false
def bef (ms : List Nat) (sks : List Cls) (i : Nat) (p : Cls → Bool) : Bool := (List.range i).all fun k => !p (sks.getD k .pure) || inM ms i k
def seqOK1 (ops : List Oper) (ms : List Nat) (sks : List Cls) (n : Nat) : List Oper → Nat → Bool
  | [], _ => true
  | o :: os, i => (looks ops o).all (fun t => Nat.blt t n && (match writer t ops 0 with | none => true | some j => inM ms i j || Nat.beq i j || inM ms j i)) &&
      (match sks.getD i .pure with | .pure => true | .read => bef ms sks i isAll | .alloc => true | _ => bef ms sks i (fun c => !isPure c)) && seqOK1 ops ms sks n os (i + 1)
def seqOK (X : X) (n : Nat) (ops : List Oper) : Bool :=
  edgesOk ops 0 && dstsOk n ops && noSelect ops && Nat.blt n 1000001 && seqOK1 ops (masks ops []) (ops.map (fun o => sk X o.op)) n ops 0
theorem gh_snoc {ms lds : List Nat} {p : Nat → Bool} {r : R} : ∀ {a : List R} {k : Nat} {h : Tr AB}, gh ms lds p (a ++ [r]) k h = ghStep ms lds p r (k + a.length) (gh ms lds p a k h)
  | [], k, h => by simp [gh]
  | x :: a, k, h => by
    simp only [List.cons_append, gh]
    rw [gh_snoc (a := a)]
    simp only [List.length_cons]
    rw [show k + 1 + a.length = k + (a.length + 1) by omega]
theorem gh_had {ms lds : List Nat} {p : Nat → Bool} {i : Nat} : ∀ {a : List R} {k : Nat} {h : Tr AB}, (∀ (q : Nat) (r : R) b, a[q]? = some r → r.k = .mk b → inM ms i (k + q) = true) → gh ms (lds ++ [i]) p a k h = h
  | [], _, _, _ => rfl
  | r :: a, k, h, hp => by
    simp only [gh]
    have : ghStep ms (lds ++ [i]) p r k h = h := by
      unfold ghStep
      split
      · rename_i b hb
        have := hp 0 r b (by simp) hb
        simp at this
        simp [this]
      · rfl
    rw [this]
    exact gh_had fun q r' b h1 h2 => by
      have := hp (q + 1) r' b (by simpa using h1) h2
      rw [show k + 1 + q = k + (q + 1) by omega]; exact this
theorem putAll_snoc {n : Nat} {o : Oper} {r : R} : ∀ {os : List Oper} {rs : List R} {e e1 e2 : Env}, putAll n os rs e = some e1 → setDst n e1 o.dst r.v = some e2 → putAll n (os ++ [o]) (rs ++ [r]) e = some e2
  | [], [], e, e1, e2, h, h2 => by simp [putAll] at h; subst h; simp [putAll, h2]
  | [], _ :: _, _, _, _, h, _ => by simp [putAll] at h
  | _ :: _, [], _, _, _, h, _ => by simp [putAll] at h
  | x :: os, y :: rs, e, e1, e2, h, h2 => by
    simp only [putAll, List.cons_append] at h ⊢
    split at h
    · cases h
    · rename_i e3 h3
      exact putAll_snoc h h2
theorem renv_good {ms : List Nat} {ops : List Oper} {acc : List R} {e es : Env} {n i : Nat} (hn : n < 1000001) : ∀ {ts : List Nat}, (∀ t ∈ ts, t < n ∧ lookT ms ops acc e i t = some (es.at t)) → ∃ re, renv ms ops acc e n i ts = some re ∧ ∀ t ∈ ts, re.at t = es.at t
  | [], _ => ⟨.leaf, rfl, fun _ h => by simp at h⟩
  | t :: ts, h => by
    obtain ⟨re, h1, h2⟩ := renv_good hn (ts := ts) (fun t' ht => h t' (by simp [ht]))
    obtain ⟨k1, k2⟩ := h t (by simp)
    refine ⟨re.put t (es.at t), ?_, ?_⟩
    · unfold renv
      rw [nblt, decide_eq_true k1]
      simp only [cond_true]
      rw [k2]; dsimp only; rw [h1]
    · intro t' ht'
      rw [Env.at_put _ _ _ _ (by omega)]
      by_cases hh : t' = t
      · rw [if_pos hh, hh]
      · rw [if_neg hh]; exact h2 t' (by simpa [hh] using ht')
theorem seqOK1_at {ops : List Oper} {ms : List Nat} {sks : List Cls} {n : Nat} : ∀ {os : List Oper} {i : Nat}, seqOK1 ops ms sks n os i = true → ∀ k o, os[k]? = some o →
    (∀ t ∈ looks ops o, t < n ∧ ∀ j, writer t ops 0 = some j → inM ms (i + k) j = true ∨ i + k = j ∨ inM ms j (i + k) = true) ∧
    (match sks.getD (i + k) .pure with | .pure => true | .read => bef ms sks (i + k) isAll | .alloc => true | _ => bef ms sks (i + k) (fun c => !isPure c)) = true
  | [], _, _, k, o, h => by simp at h
  | x :: os, i, h, k, o, hk => by
    unfold seqOK1 at h
    simp only [Bool.and_eq_true] at h
    obtain ⟨⟨h1, h2⟩, h3⟩ := h
    cases k with
    | zero =>
      simp at hk; subst hk
      refine ⟨fun t ht => ?_, by simpa using h2⟩
      have := List.all_eq_true.1 h1 t ht
      simp only [Bool.and_eq_true, nblt, decide_eq_true_eq] at this
      refine ⟨this.1, fun j hj => ?_⟩
      have h4 := this.2
      rw [hj] at h4
      simp only [Bool.or_eq_true, nbeq, decide_eq_true_eq] at h4
      simp only [Nat.add_zero]
      rcases h4 with (h4 | h4) | h4
      · exact .inl h4
      · exact .inr (.inl h4)
      · exact .inr (.inr h4)
    | succ k =>
      have := seqOK1_at h3 k o (by simpa using hk)
      rw [show i + (k + 1) = i + 1 + k by omega]
      exact this
theorem bef_at {ms : List Nat} {sks : List Cls} {i : Nat} {p : Cls → Bool} (h : bef ms sks i p = true) {k : Nat} (hk : k < i) (hp : p (sks.getD k .pure) = true) : inM ms i k = true := by
  have := List.all_eq_true.1 h k (by simpa using hk)
  rw [hp] at this
  simpa using this
theorem mem_looks {ops : List Oper} {o : Oper} {t : Nat} (h : .tmp t ∈ o.op.operands.toList) : t ∈ looks ops o := by
  unfold looks
  rw [List.mem_append]
  left
  exact List.mem_filterMap.2 ⟨.tmp t, h, rfl⟩
theorem wanted_congr {ops : List Oper} {o : Oper} {e e' : Env} (h : ∀ t ∈ looks ops o, e.at t = e'.at t) : wanted ops e o = wanted ops e' o := by
  unfold wanted
  unfold looks at h
  split
  · rfl
  · rename_i j want hg
    rw [hg] at h
    dsimp only at h
    split
    · rfl
    · rename_i p hp
      rw [hp] at h
      dsimp only at h
      split
      · rfl
      · rename_i d hd
        rw [hd] at h
        rw [h d (by simp)]
end
end GX
