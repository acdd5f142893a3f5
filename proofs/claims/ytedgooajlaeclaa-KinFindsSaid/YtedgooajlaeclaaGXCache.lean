/- GX: calls that were worked out beforehand: a literal entry answers a call from a heap that holds the entry's blocks. -/
import Derived.Test.YtedgooajlaeclaaGXTop
namespace GX
open Go
def meq : List (AV × AV × Nat) → List (AV × AV × Nat) → Bool
  | [], [] => true
  | (k, v, b) :: l, (k', v', b') :: l' => veq k k' && veq v v' && Nat.beq b b' && meq l l'
  | _, _ => false
def abeq : AB → AB → Bool
  | .cells t cs sp, .cells t' cs' sp' => Nat.beq t t' && veqs cs cs' && (bif sp then sp' else !sp')
  | .map es c, .map es' c' => meq es es' && Nat.beq c c'
  | .sit s p, .sit s' p' => seq s s' && Nat.beq p p'
  | _, _ => false
noncomputable def subH (H : Tr AB) : List (Nat × AB) → Bool
  | [] => true
  | (id, b) :: l => (match H.get id with | some b' => abeq b b' | none => false) && subH H l
noncomputable def outsOk (H : Tr AB) : List (Nat × Option AB) → Bool
  | [] => true
  | (id, b) :: l => (match b, H.get id with | some b, some b' => abeq b b' | none, none => true | _, _ => false) && outsOk H l
noncomputable def putL (H : Tr AB) : List (Nat × Option AB) → Tr AB
  | [] => H
  | (id, some b) :: l => Tr.set 40 (putL H l) id b
  | (id, none) :: l => (putL H l).del id
noncomputable def ofL : List (Nat × AB) → Tr AB
  | [] => .leaf
  | (id, b) :: l => Tr.set 40 (ofL l) id b
def smallL : List (Nat × AB) → Bool
  | [] => true
  | (id, _) :: l => Nat.blt id 1000000000 && smallL l
def inL (id : Nat) : List (Nat × Option AB) → Bool
  | [] => false
  | (j, _) :: l => Nat.beq id j || inL id l
def smallO : List (Nat × Option AB) → Bool
  | [] => true
  | (id, _) :: l => Nat.blt id 1000000000 && !inL id l && smallO l
def covers (o : List (Nat × Option AB)) : List (Nat × AB) → Bool
  | [] => true
  | (id, _) :: l => inL id o && covers o l
structure Ent where
  f : Nat
  args : List AV
  ins : List (Nat × AB)
  n : Nat
  r : AV
  outs : List (Nat × Option AB)
  n' : Nat
noncomputable def checkEnt (X : X) (fuel : Nat) (e : Ent) : Bool :=
  Nat.ble e.n e.n' && smallL e.ins && smallO e.outs && covers e.outs e.ins &&
  match call X fuel e.f e.args { h := ofL e.ins, n := e.n } with
  | some (r, S) => veq r e.r && Nat.beq S.n e.n' && outsOk S.h e.outs
  | none => false
noncomputable def extC : List Ent → Nat → List AV → St → Option (AV × St)
  | [], _, _, _ => none
  | e :: es, f, args, S => bif Nat.beq e.f f && veqs e.args args && Nat.beq e.n S.n && subH S.h e.ins then some (e.r, { h := putL S.h e.outs, n := e.n' }) else extC es f args S

theorem meq_ok : ∀ {a b : List (AV × AV × Nat)}, meq a b = true → a = b
  | [], [], _ => rfl
  | [], _ :: _, h => by simp [meq] at h
  | _ :: _, [], h => by simp [meq] at h
  | (k, v, b) :: l, (k', v', b') :: l', h => by
    simp only [meq, Bool.and_eq_true] at h
    obtain ⟨⟨⟨h1, h2⟩, h3⟩, h4⟩ := h
    rw [veq_ok h1, veq_ok h2, Nat.eq_of_beq_eq_true h3, meq_ok h4]
theorem abeq_ok {a b : AB} (h : abeq a b = true) : a = b := by
  cases a <;> cases b <;> simp only [abeq, Bool.and_eq_true, Bool.false_eq_true] at h
  · obtain ⟨⟨h1, h2⟩, h3⟩ := h
    rename_i sp _ _ sp'
    have : sp = sp' := by cases sp <;> cases sp' <;> simp at h3 <;> rfl
    rw [Nat.eq_of_beq_eq_true h1, veqs_ok h2, this]
  · rw [meq_ok h.1, Nat.eq_of_beq_eq_true h.2]
  · rw [seq_ok h.1, Nat.eq_of_beq_eq_true h.2]
theorem blt_ok {a b : Nat} (h : Nat.blt a b = true) : a < b := by rw [nblt] at h; simpa using h
theorem ofL_get : ∀ {l : List (Nat × AB)}, smallL l = true → ∀ {id : Nat} {b : AB}, (ofL l).get id = some b → (id, b) ∈ l
  | [], _, id, b, h => by simp [ofL, Tr.get_leaf] at h
  | (j, c) :: l, hs, id, b, h => by
    simp only [smallL, Bool.and_eq_true] at hs
    have := blt_ok hs.1
    simp only [ofL] at h
    rw [Tr.get_set 40 _ _ _ _ (by omega)] at h
    split at h
    · rename_i he; subst he; cases h; exact List.mem_cons_self ..
    · exact List.mem_cons_of_mem _ (ofL_get hs.2 h)
theorem subH_ok {H : Tr AB} : ∀ {l : List (Nat × AB)}, subH H l = true → ∀ {id : Nat} {b : AB}, (id, b) ∈ l → H.get id = some b
  | (j, c) :: l, hs, id, b, h => by
    simp only [subH, Bool.and_eq_true] at hs
    rcases List.mem_cons.1 h with h | h
    · cases h
      split at *
      · rename_i b' hb; rw [hb, abeq_ok hs.1]
      · simp at hs
    · exact subH_ok hs.2 h
theorem covers_ok {o : List (Nat × Option AB)} : ∀ {l : List (Nat × AB)}, covers o l = true → ∀ {id : Nat} {b : AB}, (id, b) ∈ l → inL id o = true
  | (j, c) :: l, hs, id, b, h => by
    simp only [covers, Bool.and_eq_true] at hs
    rcases List.mem_cons.1 h with h | h
    · cases h; exact hs.1
    · exact covers_ok hs.2 h
/-- what lies in the heap behind -/
theorem putL_get {H H' : Tr AB} : ∀ {l : List (Nat × Option AB)}, smallO l = true → outsOk H' l = true → ∀ id, (putL H l).get id = bif inL id l then H'.get id else H.get id
  | [], _, _, id => by simp [putL, inL]
  | (j, c) :: l, hs, ho, id => by
    simp only [smallO, Bool.and_eq_true, Bool.not_eq_true'] at hs
    simp only [outsOk, Bool.and_eq_true] at ho
    obtain ⟨⟨h1, h2⟩, h3⟩ := hs
    have := blt_ok h1
    have ih := putL_get (H := H) h3 ho.2 id
    cases c with
    | none =>
      simp only [putL, inL]
      rw [Tr.get_del, ih, nbeq]
      by_cases he : id = j
      · subst he
        have : H'.get id = none := by
          have h5 := ho.1
          cases hq : H'.get id with
          | none => rfl
          | some b => rw [hq] at h5; simp at h5
        simp [this]
      · simp [he]
    | some b =>
      simp only [putL, inL]
      rw [Tr.get_set 40 _ _ _ _ (by omega), ih, nbeq]
      by_cases he : id = j
      · subst he
        have : H'.get id = some b := by
          have h5 := ho.1
          cases hq : H'.get id with
          | none => rw [hq] at h5; simp at h5
          | some b' => rw [hq] at h5; rw [abeq_ok h5]
        simp [this]
      · simp [he]
theorem extC_ok [Val] {P : Program} {X : X} (hX : XOK P X) (hx : ∀ f g, X.ext f = some g → ExtOK P f g) {fuel : Nat} {f : Nat} : ∀ {es : List Ent}, (∀ e ∈ es, checkEnt X fuel e = true) → ExtOK P f (extC es f)
  | [], _ => by intro args S r S' h; cases h
  | e :: es, hes => by
    intro args S r S' h
    unfold extC at h
    cases hc : (Nat.beq e.f f && veqs e.args args && Nat.beq e.n S.n && subH S.h e.ins) with
    | false =>
      rw [hc] at h
      exact extC_ok hX hx (fun e' he' => hes e' (List.mem_cons_of_mem _ he')) args S r S' h
    | true =>
      rw [hc] at h
      simp only [cond_true, Option.some.injEq, Prod.mk.injEq] at h
      obtain ⟨rfl, rfl⟩ := h
      simp only [Bool.and_eq_true] at hc
      obtain ⟨⟨⟨c1, c2⟩, c3⟩, c4⟩ := hc
      have c1 := Nat.eq_of_beq_eq_true c1
      have c2 := veqs_ok c2
      have c3 := Nat.eq_of_beq_eq_true c3
      have hck := hes e (List.mem_cons_self ..)
      unfold checkEnt at hck
      simp only [Bool.and_eq_true] at hck
      obtain ⟨⟨⟨⟨k0, k1⟩, k2⟩, k3⟩, k4⟩ := hck
      split at k4
      · rename_i r S1 hcall
        simp only [Bool.and_eq_true] at k4
        obtain ⟨⟨q1, q2⟩, q3⟩ := k4
        have q1 := veq_ok q1
        have q2 := Nat.eq_of_beq_eq_true q2
        subst q1
        have sub : ∀ {id b}, (ofL e.ins).get id = some b → S.h.get id = some b := fun hg => subH_ok c4 (ofL_get k1 hg)
        have cov : ∀ {id b}, (ofL e.ins).get id = some b → inL id e.outs = true := fun hg => covers_ok k3 (ofL_get k1 hg)
        have hget : ∀ id, (putL S.h e.outs).get id = bif inL id e.outs then S1.h.get id else S.h.get id := putL_get k2 q3
        have hle : S.n ≤ e.n' := by
          rw [← c3]
          exact Nat.le_of_ble_eq_true k0
        refine ⟨hle, ?_⟩
        intro φ w vs hv hw fr
        have hw1 : wrel φ (ofL e.ins) w := ⟨fun id b hg => hw.blk id b (sub hg), fun id id' b b' l l' g g' => hw.inj id id' b b' l l' (sub g) (sub g'), fun id b hg => hw.small id b (sub hg), fun g o ho => ⟨(hw.ro g o ho).1, fun id b l hg => (hw.ro g o ho).2 id b l (sub hg)⟩⟩
        have hspec := call_sound hX hx hcall (φ := φ) (w := w) (vs := vs) (by rw [c2]; exact hv) hw1 (by
          intro id a b
          exact fr id (by show S.n ≤ id; rw [← c3]; exact a) (by show id < e.n'; rw [← q2]; exact b))
        rw [c1] at hspec
        intro o a next Q hq
        refine hspec o a next Q ?_
        rintro v w' ⟨φ', r1, r2, r3⟩
        have mget : ∀ {id b}, (putL S.h e.outs).get id = some b → (inL id e.outs = true ∧ S1.h.get id = some b) ∨ (inL id e.outs = false ∧ S.h.get id = some b) := by
          intro id b hg
          rw [hget] at hg
          cases hi : inL id e.outs with
          | true => rw [hi] at hg; exact .inl ⟨rfl, hg⟩
          | false => rw [hi] at hg; exact .inr ⟨rfl, hg⟩
        have old : ∀ {id b l}, S.h.get id = some b → φ' id = some l → φ id = some l := by
          intro id b l hg hl
          obtain ⟨l0, _, a1, _, _⟩ := hw.blk id b hg
          have := r3.sub id l0 a1
          rw [hl] at this; cases this; exact a1
        have cross : ∀ {id id' b b' l l'}, S1.h.get id = some b → S.h.get id' = some b' → inL id' e.outs = false → φ' id = some l → φ' id' = some l' → l.blk = l'.blk → id = id' := by
          intro id id' b b' l l' g g' hn hl hl' heq
          have f' := old g' hl'
          rcases r3.new id with h | ⟨n1, n2, h⟩
          · rcases r3.dom id b g with ⟨b0, g0⟩ | ⟨d1, d2⟩
            · exact hw.inj id id' _ _ l l' (sub g0) g' (by rw [← h]; exact hl) f' heq
            · have := fr id (by show S.n ≤ id; rw [← c3]; exact d1) (by show id < e.n'; rw [← q2]; exact d2)
              rw [h, this] at hl; cases hl
          · rcases h l hl with h | ⟨id0, b0, l0, g0, f0, h0⟩
            · have := wrel_lt hw g' f'; omega
            · have := hw.inj id0 id' _ _ l0 l' (sub g0) g' f0 f' (h0.trans heq)
              subst this
              rw [cov g0] at hn; cases hn
        refine hq v w' ⟨φ', r1, ⟨?_, ?_, ?_, ?_⟩, ⟨hle, r3.sub, ?_, ?_, r3.size, ?_, r3.os, r3.tape, r3.output⟩⟩
        · intro id b hg
          rcases mget hg with ⟨_, g⟩ | ⟨hn, g⟩
          · exact r2.blk id b g
          · obtain ⟨l, o, a1, a2, a3⟩ := hw.blk id b g
            refine ⟨l, o, r3.sub id l a1, ?_, brel_mono r3.sub a3⟩
            rw [r3.frame l.blk (wrel_lt hw g a1) (fun id0 b0 l0 g0 f0 heq => by
              have := hw.inj id0 id b0 b l0 l (sub g0) g f0 a1 heq
              subst this
              rw [cov g0] at hn; cases hn)]
            exact a2
        · intro id id' b b' l l' hg hg' hl hl' heq
          rcases mget hg with ⟨_, g⟩ | ⟨hn, g⟩ <;> rcases mget hg' with ⟨_, g'⟩ | ⟨hn', g'⟩
          · exact r2.inj id id' b b' l l' g g' hl hl' heq
          · exact cross g g' hn' hl hl' heq
          · exact (cross g' g hn hl' hl heq.symm).symm
          · exact hw.inj id id' b b' l l' g g' (old g hl) (old g' hl') heq
        · intro id b hg
          rcases mget hg with ⟨_, g⟩ | ⟨_, g⟩
          · exact r2.small id b g
          · exact hw.small id b g
        · intro g o ho
          refine ⟨(r2.ro g o ho).1, fun id b l hg hl => ?_⟩
          rcases mget hg with ⟨_, k⟩ | ⟨_, k⟩
          · exact (r2.ro g o ho).2 id b l k hl
          · exact (hw.ro g o ho).2 id b l k (old k hl)
        · intro id
          rcases r3.new id with h | ⟨n1, n2, h⟩
          · exact .inl h
          · refine .inr ⟨by rw [← c3]; exact n1, by show id < e.n'; rw [← q2]; exact n2, fun l hl => ?_⟩
            rcases h l hl with h | ⟨id0, b0, l0, g0, f0, h0⟩
            · exact .inl h
            · exact .inr ⟨id0, b0, l0, sub g0, f0, h0⟩
        · intro id b hg
          rcases mget hg with ⟨_, g⟩ | ⟨_, g⟩
          · rcases r3.dom id b g with ⟨b0, g0⟩ | ⟨d1, d2⟩
            · exact .inl ⟨b0, sub g0⟩
            · exact .inr ⟨by rw [← c3]; exact d1, by show id < e.n'; rw [← q2]; exact d2⟩
          · exact .inl ⟨b, g⟩
        · intro k hk hno
          exact r3.frame k hk fun id b l g hl => hno id b l (sub g) hl
      · cases k4
/-- the machine with some calls worked out: a call that none answers runs on the machine before -/
noncomputable def Xs (X0 : X) (fuel : Nat) : List Ent → X
  | [] => X0
  | e :: es => { X0 with ext := fun f => bif Nat.beq f e.f then some (fun args S => match extC [e] f args S with | some r => some r | none => call (Xs X0 fuel es) fuel f args S) else (Xs X0 fuel es).ext f }
def Chain (X0 : X) (fuel : Nat) : List Ent → Prop
  | [] => True
  | e :: es => checkEnt (Xs X0 fuel es) fuel e = true ∧ Chain X0 fuel es
theorem call_le [Val] {P : Program} {X : X} (hx : ∀ f g, X.ext f = some g → ExtOK P f g) {fuel f : Nat} {args : List AV} {S S' : St} {r : AV} (h : call X fuel f args S = some (r, S')) : S.n ≤ S'.n := by
  unfold call enter at h
  split at h
  · rename_i g hg
    exact (hx f g hg args S r S' h).1
  · split at h
    · cases h
    · split at h
      · cases h
      · dsimp only at h
        rw [nblt, cond_dec] at h
        split at h
        · split at h
          · cases h
          · rename_i x e1 S1 h1
            have := exec_mono fuel _ _ _ _ _ _ _ h1
            split at h
            · cases h
            · split at h
              · cases h
              · simp only [Option.some.injEq, Prod.mk.injEq] at h
                obtain ⟨_, rfl⟩ := h
                exact this
        · cases h
theorem Xs_sound [Val] {P : Program} {X0 : X} (hX : XOK P X0) (hx : ∀ f g, X0.ext f = some g → ExtOK P f g) {fuel : Nat} : ∀ es : List Ent, Chain X0 fuel es → XOK P (Xs X0 fuel es) ∧ ∀ f g, (Xs X0 fuel es).ext f = some g → ExtOK P f g
  | [], _ => ⟨hX, hx⟩
  | e :: es, ⟨h1, h2⟩ => by
    obtain ⟨i1, i2⟩ := Xs_sound hX hx es h2
    refine ⟨⟨hX.ti, hX.fn, hX.gor, hX.mixed, hX.eqs⟩, ?_⟩
    intro f g h
    simp only [Xs, nbeq, cond_dec] at h
    split at h
    · rename_i hf
      simp only [Option.some.injEq] at h
      subst h
      intro args S r S' hg
      dsimp only at hg
      split at hg
      · rename_i q hq
        cases hg
        exact extC_ok i1 i2 (es := [e]) (fun e' he' => by simp at he'; subst he'; exact h1) args S r S' hq
      · exact ⟨call_le i2 hg, fun φ w vs hv hw fr => call_sound i1 i2 hg hv hw fr⟩
    · exact i2 f g h
end GX
