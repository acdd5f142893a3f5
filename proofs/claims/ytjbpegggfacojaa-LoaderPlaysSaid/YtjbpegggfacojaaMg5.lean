/- What the row leans on, part 5: texts one behind the other. No condition. -/
import Derived.Test.YtjbpegggfacojaaMg4
import Derived.Orders
/- GX: regions that draw their order: the plan. -/


namespace GX
open Go

/-! what must come ahead -/
theorem lor_eq (a b : Nat) : Nat.lor a b = a ||| b := rfl
theorem maskOf_fold (acc : List Nat) (j : Nat) : ∀ (l : List Edge) (m : Nat),
    Nat.testBit (l.foldl (fun m e => bif Region.binds .any e then Nat.lor (Nat.lor m (2 ^ e.on)) (acc.getD e.on 0) else m) m) j = true ↔
      Nat.testBit m j = true ∨ ∃ e ∈ l, Region.binds .any e = true ∧ (j = e.on ∨ Nat.testBit (acc.getD e.on 0) j = true)
  | [], m => by simp
  | e :: l, m => by
    rw [List.foldl_cons, maskOf_fold acc j l]
    cases hb : Region.binds .any e with
    | false => simp [hb]
    | true =>
      simp only [cond_true, lor_eq, Nat.testBit_or, Nat.testBit_two_pow, Bool.or_eq_true, decide_eq_true_eq, List.mem_cons, exists_eq_or_imp, hb, true_and]
      constructor
      · rintro (h | h)
        · rcases h with (h | h) | h
          · exact .inl h
          · exact .inr (.inl (.inl h.symm))
          · exact .inr (.inl (.inr h))
        · exact .inr (.inr h)
      · rintro (h | h | h)
        · exact .inl (.inl (.inl h))
        · rcases h with h | h
          · exact .inl (.inl (.inr h.symm))
          · exact .inl (.inr h)
        · exact .inr h
theorem maskOf_iff (acc : List Nat) (o : Oper) (j : Nat) : Nat.testBit (maskOf acc o) j = true ↔ ∃ e ∈ o.after, Region.binds .any e = true ∧ (j = e.on ∨ Nat.testBit (acc.getD e.on 0) j = true) := by
  unfold maskOf
  rw [maskOf_fold]
  simp
theorem masks_spec : ∀ (os : List Oper) (acc : List Nat), (∃ tl, masks os acc = acc ++ tl) ∧ ∀ i o, os[i]? = some o → (masks os acc).getD (acc.length + i) 0 = maskOf ((masks os acc).take (acc.length + i)) o
  | [], acc => ⟨⟨[], by simp [masks]⟩, fun i o h => by simp at h⟩
  | o :: os, acc => by
    obtain ⟨⟨tl, h1⟩, h2⟩ := masks_spec os (acc ++ [maskOf acc o])
    simp only [masks]
    refine ⟨⟨maskOf acc o :: tl, by rw [h1]; simp⟩, ?_⟩
    intro i o' hi
    cases i with
    | zero =>
      simp at hi; subst hi
      rw [h1]
      simp [List.getD_eq_getElem?_getD]
    | succ i =>
      simp at hi
      have := h2 i o' hi
      simp only [List.length_append, List.length_singleton] at this
      rw [show acc.length + (i + 1) = acc.length + 1 + i by omega]
      exact this
theorem inM_iff {L : List Oper} {i : Nat} {o : Oper} (ho : L[i]? = some o) (j : Nat) : inM (masks L []) i j = true ↔ ∃ e ∈ o.after, Region.binds .any e = true ∧ (j = e.on ∨ (e.on < i ∧ inM (masks L []) e.on j = true)) := by
  obtain ⟨_, h2⟩ := masks_spec L []
  have := h2 i o ho
  simp only [List.length_nil, Nat.zero_add] at this
  unfold inM
  rw [this, maskOf_iff]
  constructor
  · rintro ⟨e, h1, h2, h3⟩
    refine ⟨e, h1, h2, h3.imp_right fun h => ?_⟩
    rw [List.getD_eq_getElem?_getD, List.getElem?_take] at h
    split at h
    · rename_i hlt; exact ⟨hlt, by rw [List.getD_eq_getElem?_getD]; exact h⟩
    · simp at h
  · rintro ⟨e, h1, h2, h3⟩
    refine ⟨e, h1, h2, h3.imp_right fun ⟨hlt, h⟩ => ?_⟩
    rw [List.getD_eq_getElem?_getD, List.getElem?_take, if_pos hlt, ← List.getD_eq_getElem?_getD]
    exact h
theorem inM_none {L : List Oper} {i : Nat} (ho : L[i]? = none) (j : Nat) : inM (masks L []) i j = false := by
  obtain ⟨⟨tl, h1⟩, h2⟩ := masks_spec L []
  have hlen : (masks L []).length = L.length := by
    have : ∀ (os : List Oper) (acc : List Nat), (masks os acc).length = acc.length + os.length := by
      intro os
      induction os with
      | nil => intro acc; simp [masks]
      | cons o os ih => intro acc; simp only [masks]; rw [ih]; simp; omega
    have := this L []; simpa using this
  have : L.length ≤ i := by simpa using ho
  unfold inM
  rw [List.getD_eq_getElem?_getD, List.getElem?_eq_none (by omega)]; simp
/-- closed under what must come ahead -/
def DC (L : List Oper) (S : Nat → Prop) : Prop := ∀ i o, L[i]? = some o → S i → ∀ e ∈ o.after, Region.binds .any e = true → S e.on
theorem inM_dc {L : List Oper} {S : Nat → Prop} (hS : DC L S) : ∀ (i : Nat), S i → ∀ j, inM (masks L []) i j = true → S j := by
  intro i
  induction i using Nat.strongRecOn with
  | _ i ih =>
    intro hi j hj
    cases ho : L[i]? with
    | none => rw [inM_none ho] at hj; cases hj
    | some o =>
      obtain ⟨e, h1, h2, h3⟩ := (inM_iff ho j).1 hj
      have hs := hS i o ho hi e h1 h2
      rcases h3 with rfl | ⟨h3, h4⟩
      · exact hs
      · exact ih e.on h3 hs j h4
theorem inM_ready {L : List Oper} {S : Nat → Prop} (hS : DC L S) {i : Nat} {o : Oper} (ho : L[i]? = some o) (h : ∀ e ∈ o.after, Region.binds .any e = true → S e.on) {j : Nat} (hj : inM (masks L []) i j = true) : S j := by
  obtain ⟨e, h1, h2, h3⟩ := (inM_iff ho j).1 hj
  rcases h3 with rfl | ⟨_, h4⟩
  · exact h e h1 h2
  · exact inM_dc hS _ (h e h1 h2) j h4
theorem edges_spec : ∀ {os : List Oper} {k : Nat}, edgesOk os k = true → ∀ i o, os[i]? = some o → ∀ e ∈ o.after, Region.binds .any e = true → e.on < k + i
  | [], _, _, i, o, h => by simp at h
  | o :: os, k, hk, i, o', h => by
    simp only [edgesOk, Bool.and_eq_true] at hk
    obtain ⟨h1, h2⟩ := hk
    cases i with
    | zero =>
      simp at h; subst h
      intro e he hb
      have := List.all_eq_true.1 h1 e (by simpa using he)
      simp [hb, nblt] at this
      omega
    | succ i =>
      simp at h
      intro e he hb
      have := edges_spec h2 i o' h e he hb
      omega
theorem inM_lt {L : List Oper} (hE : edgesOk L 0 = true) : ∀ (i j : Nat), inM (masks L []) i j = true → j < i := by
  intro i
  induction i using Nat.strongRecOn with
  | _ i ih =>
    intro j hj
    cases ho : L[i]? with
    | none => rw [inM_none ho] at hj; cases hj
    | some o =>
      obtain ⟨e, h1, h2, h3⟩ := (inM_iff ho j).1 hj
      have hlt := edges_spec hE i o ho e h1 h2
      rcases h3 with rfl | ⟨h3, h4⟩
      · omega
      · have := ih e.on h3 j h4; omega

/-! who writes -/
theorem dstIn_spec : ∀ {os : List Oper} {d : Nat}, dstIn d os = false → ∀ (i : Nat) (o : Oper), os[i]? = some o → o.dst ≠ some d
  | [], _, _, i, o, h => by simp at h
  | o :: os, d, hd, i, o', h => by
    simp only [dstIn, Bool.or_eq_false_iff] at hd
    cases i with
    | zero =>
      simp at h; subst h
      intro hh; rw [hh] at hd; simp at hd
    | succ i => simp at h; exact dstIn_spec hd.2 i o' h
theorem dsts_spec {n : Nat} : ∀ {os : List Oper}, dstsOk n os = true → (∀ (i : Nat) (o : Oper) (d : Nat), os[i]? = some o → o.dst = some d → d < n) ∧ ∀ (i j : Nat) (o o' : Oper) (d : Nat), os[i]? = some o → os[j]? = some o' → o.dst = some d → o'.dst = some d → i = j
  | [], _ => ⟨fun i o d h => by simp at h, fun i j o o' d h _ _ _ => by simp at h⟩
  | o :: os, hk => by
    simp only [dstsOk, Bool.and_eq_true] at hk
    obtain ⟨h1, h2⟩ := hk
    obtain ⟨k1, k2⟩ := dsts_spec h2
    have hd : ∀ d, o.dst = some d → d < n ∧ dstIn d os = false := by
      intro d hd; rw [hd] at h1; simpa [nblt] using h1
    constructor
    · intro i o' d hi hdd
      cases i with
      | zero => simp at hi; subst hi; exact (hd d hdd).1
      | succ i => simp at hi; exact k1 i o' d hi hdd
    · intro i j a b d hi hj ha hb
      cases i with
      | zero =>
        simp at hi; subst hi
        cases j with
        | zero => rfl
        | succ j => simp at hj; exact absurd hb (dstIn_spec (hd d ha).2 j b hj)
      | succ i =>
        simp at hi
        cases j with
        | zero => simp at hj; subst hj; exact absurd ha (dstIn_spec (hd d hb).2 i a hi)
        | succ j => simp at hj; rw [k2 i j a b d hi hj ha hb]
theorem writer_some : ∀ {os : List Oper} {t k j : Nat}, writer t os k = some j → k ≤ j ∧ ∃ o, os[j - k]? = some o ∧ o.dst = some t
  | [], _, _, _, h => by simp [writer] at h
  | o :: os, t, k, j, h => by
    simp only [writer] at h
    split at h
    · rename_i d hd
      rw [nbeq, cond_dec] at h
      split at h
      · rename_i e; subst e; simp at h; subst h; exact ⟨Nat.le_refl _, o, by simp, hd⟩
      · obtain ⟨h1, o', h2, h3⟩ := writer_some h
        refine ⟨by omega, o', ?_, h3⟩
        rw [show j - k = (j - (k + 1)) + 1 by omega]; simpa using h2
    · obtain ⟨h1, o', h2, h3⟩ := writer_some h
      refine ⟨by omega, o', ?_, h3⟩
      rw [show j - k = (j - (k + 1)) + 1 by omega]; simpa using h2
theorem writer_none : ∀ {os : List Oper} {t k : Nat}, writer t os k = none → ∀ (i : Nat) (o : Oper), os[i]? = some o → o.dst ≠ some t
  | [], _, _, _, i, o, h => by simp at h
  | o :: os, t, k, hw, i, o', h => by
    simp only [writer] at hw
    split at hw
    · rename_i d hd
      rw [nbeq, cond_dec] at hw
      split at hw
      · simp at hw
      · rename_i hne
        cases i with
        | zero => simp at h; subst h; rw [hd]; simpa using hne
        | succ i => simp at h; exact writer_none hw i o' h
    · rename_i hd
      cases i with
      | zero => simp at h; subst h; rw [hd]; simp
      | succ i => simp at h; exact writer_none hw i o' h
theorem writer_of {n : Nat} {L : List Oper} (hD : dstsOk n L = true) {i : Nat} {o : Oper} {t : Nat} (hi : L[i]? = some o) (hd : o.dst = some t) : writer t L 0 = some i := by
  cases hw : writer t L 0 with
  | none => exact absurd hd (writer_none hw i o hi)
  | some j =>
    obtain ⟨_, o', h1, h2⟩ := writer_some hw
    simp at h1
    rw [(dsts_spec hD).2 j i o' o t h1 hi h2 hd]

/-! the plan -/
def RK.isLd : RK → Bool
  | .ld _ _ => true
  | _ => false
def R.n1 (r : R) : Nat := match r.k with
  | .ld _ n => n
  | .mk _ => r.n0 + 1
  | _ => r.n0
section
variable (X : X) (rec : Rec) (n : Nat) (L : List Oper) (e : Env) (h0 : Tr AB)
/-- what the plan says of one operation -/
def Fact (recs : List R) (lds : List Nat) (i : Nat) (o : Oper) (r : R) : Prop :=
  ∃ re, renv (masks L []) L recs e n i (looks L o) = some re ∧
    ((wanted L re o = false ∧ r.v = .tup [] ∧ r.k = .val) ∨
     (wanted L re o = true ∧ cls X re o.op = .pure ∧ pureOp X re o.op = some r.v ∧ r.k = .val) ∨
     (wanted L re o = true ∧ r.k = .rd) ∨
     (wanted L re o = true ∧ ∃ b, allocOp X re r.n0 o.op = some (b, r.v) ∧ r.k = .mk b ∧ r.n0 < 1000000000) ∨
     (wanted L re o = true ∧ (∀ j ∈ lds, j < i → inM (masks L []) i j = true) ∧ ∃ S1, oper X rec re { h := gh (masks L []) (lds.filter (· < i)) (inM (masks L []) i) recs 0 (hOf recs h0 (lds.filter (· < i))), n := r.n0 } o.op = some (r.v, S1) ∧ r.k = .ld S1.h S1.n))
end
theorem gh_append {ms lds : List Nat} {p : Nat → Bool} : ∀ {a b : List R} {k : Nat} {h : Tr AB}, (∀ q, k + a.length ≤ q → p q = false) → gh ms lds p (a ++ b) k h = gh ms lds p a k h
  | [], [], k, h, _ => rfl
  | [], r :: b, k, h, hp => by
    simp only [List.nil_append, gh]
    have hk : p k = false := hp k (by simp)
    have : ghStep ms lds p r k h = h := by
      unfold ghStep; split <;> simp [hk]
    rw [this]
    have := gh_append (ms := ms) (lds := lds) (a := []) (b := b) (k := k + 1) (h := h) (fun q hq => hp q (by simp at hq ⊢; omega))
    simpa [gh] using this
  | r :: a, b, k, h, hp => by
    simp only [List.cons_append, gh]
    exact gh_append (fun q hq => hp q (by simp at hq ⊢; omega))
theorem hOf_append {a b : List R} : ∀ {js : List Nat} {h : Tr AB}, (∀ j ∈ js, j < a.length) → hOf (a ++ b) h js = hOf a h js
  | [], h, _ => rfl
  | j :: js, h, hj => by
    simp only [hOf]
    rw [List.getElem?_append_left (hj j (by simp))]
    exact hOf_append (fun q hq => hj q (by simp [hq]))
theorem hOf_snoc {recs : List R} : ∀ {js : List Nat} {j : Nat} {h : Tr AB} {r : R} {h' : Tr AB} {m : Nat}, recs[j]? = some r → r.k = .ld h' m → hOf recs h (js ++ [j]) = h'
  | [], j, h, r, h', m, h1, h2 => by simp [hOf, h1, h2]
  | q :: js, j, h, r, h', m, h1, h2 => by simp only [List.cons_append, hOf]; exact hOf_snoc h1 h2
theorem lookT_append {ms : List Nat} {L : List Oper} {a b : List R} {e : Env} {i t : Nat} (hlt : ∀ j, inM ms i j = true → j < a.length) : lookT ms L (a ++ b) e i t = lookT ms L a e i t := by
  unfold lookT
  split
  · rfl
  · rename_i j hj
    cases hm : inM ms i j with
    | false => simp
    | true => simp only [cond_true]; rw [List.getElem?_append_left (hlt j hm)]
theorem renv_append {ms : List Nat} {L : List Oper} {a b : List R} {e : Env} {n i : Nat} (hlt : ∀ j, inM ms i j = true → j < a.length) : ∀ (ts : List Nat), renv ms L (a ++ b) e n i ts = renv ms L a e n i ts
  | [] => rfl
  | t :: ts => by
    simp only [renv]
    rw [lookT_append hlt, renv_append hlt ts]
theorem plan_good {X : X} {rec : Rec} {n : Nat} {L : List Oper} {e : Env} {h0 : Tr AB} (hE : edgesOk L 0 = true) :
    ∀ (os : List Oper) (i : Nat) (acc : List R) (lds : List Nat) (h : Tr AB) (N : Nat) (recs : List R) (ldsF : List Nat) (N1 : Nat),
      plan X rec n L (masks L []) e os i acc lds h N = some (recs, ldsF, N1) → L.drop i = os → acc.length = i → (∀ j ∈ lds, j < i) → h = hOf acc h0 lds →
      ∃ tl tlds, recs = acc ++ tl ∧ ldsF = lds ++ tlds ∧ tl.length = os.length ∧ (∀ j ∈ tlds, i ≤ j ∧ j < L.length) ∧ tlds.Pairwise (· < ·) ∧ N ≤ N1 ∧
        (∀ q o r, i ≤ q → L[q]? = some o → recs[q]? = some r → Fact X rec n L e h0 recs ldsF q o r ∧ (r.k.isLd = true ↔ q ∈ ldsF) ∧ N ≤ r.n0 ∧ r.n0 ≤ r.n1 ∧ r.n1 ≤ N1) ∧
        (∀ q q' r r', i ≤ q → q < q' → recs[q]? = some r → recs[q']? = some r' → r.n1 ≤ r'.n0)
  | [], i, acc, lds, h, N, recs, ldsF, N1, hp, hi, ha, hl, hh => by
    simp [plan] at hp
    obtain ⟨rfl, rfl, rfl⟩ := hp
    have hlen : L.length ≤ i := by simpa using hi
    refine ⟨[], [], by simp, by simp, rfl, by simp, List.Pairwise.nil, Nat.le_refl _, ?_, ?_⟩
    · intro q o r h1 h2
      rw [List.getElem?_eq_none (by omega)] at h2; cases h2
    · intro q q' r r' h1 h2 h3 h4
      rw [List.getElem?_eq_none (by omega)] at h4; cases h4
  | o :: os, i, acc, lds, h, N, recs, ldsF, N1, hp, hi, ha, hl, hh => by
    have ho : L[i]? = some o := by
      have := congrArg (·[0]?) hi
      simpa using this
    have hi' : L.drop (i + 1) = os := by rw [← List.drop_drop, hi]; rfl
    have hlt : ∀ j, inM (masks L []) i j = true → j < acc.length := fun j hj => by rw [ha]; exact inM_lt hE i j hj
    -- what is left to say once the record of this operation is there
    have done : ∀ (r : R) (lds' : List Nat) (h' : Tr AB) (re : Env), renv (masks L []) L acc e n i (looks L o) = some re →
        plan X rec n L (masks L []) e os (i + 1) (acc ++ [r]) lds' h' r.n1 = some (recs, ldsF, N1) → r.n0 = N → r.n0 ≤ r.n1 →
        ((r.k.isLd = false ∧ lds' = lds ∧ h' = h) ∨ (r.k.isLd = true ∧ lds' = lds ++ [i] ∧ ∃ m, r.k = .ld h' m)) →
        ((wanted L re o = false ∧ r.v = .tup [] ∧ r.k = .val) ∨
         (wanted L re o = true ∧ cls X re o.op = .pure ∧ pureOp X re o.op = some r.v ∧ r.k = .val) ∨
         (wanted L re o = true ∧ r.k = .rd) ∨
         (wanted L re o = true ∧ ∃ b, allocOp X re r.n0 o.op = some (b, r.v) ∧ r.k = .mk b ∧ r.n0 < 1000000000) ∨
         (wanted L re o = true ∧ (∀ j ∈ lds, inM (masks L []) i j = true) ∧ ∃ S1, oper X rec re { h := gh (masks L []) lds (inM (masks L []) i) acc 0 h, n := r.n0 } o.op = some (r.v, S1) ∧ r.k = .ld S1.h S1.n)) →
        ∃ tl tlds, recs = acc ++ tl ∧ ldsF = lds ++ tlds ∧ tl.length = (o :: os).length ∧ (∀ j ∈ tlds, i ≤ j ∧ j < L.length) ∧ tlds.Pairwise (· < ·) ∧ N ≤ N1 ∧
          (∀ q o r, i ≤ q → L[q]? = some o → recs[q]? = some r → Fact X rec n L e h0 recs ldsF q o r ∧ (r.k.isLd = true ↔ q ∈ ldsF) ∧ N ≤ r.n0 ∧ r.n0 ≤ r.n1 ∧ r.n1 ≤ N1) ∧
          (∀ q q' r r', i ≤ q → q < q' → recs[q]? = some r → recs[q']? = some r' → r.n1 ≤ r'.n0) := by
      intro r lds' h' re hre hpl hn0 hn1 hld hfact
      have hlds' : ∀ j ∈ lds', j < i + 1 := by
        rcases hld with ⟨_, rfl, _⟩ | ⟨_, rfl, _⟩
        · intro j hj; have := hl j hj; omega
        · intro j hj; simp at hj; rcases hj with hj | rfl
          · have := hl j hj; omega
          · omega
      have hh' : h' = hOf (acc ++ [r]) h0 lds' := by
        rcases hld with ⟨_, rfl, rfl⟩ | ⟨_, rfl, m, hm⟩
        · rw [hOf_append (fun j hj => by rw [ha]; exact hl j hj)]; exact hh
        · exact (hOf_snoc (by rw [List.getElem?_append_right (by omega)]; simp [ha]) hm).symm
      obtain ⟨tl, tlds, g1, g2, g3, g4, g5, g6, g7, g8⟩ := plan_good hE os (i + 1) (acc ++ [r]) lds' h' r.n1 recs ldsF N1 hpl hi' (by simp [ha]) hlds' hh'
      have hri : recs[i]? = some r := by rw [g1, List.getElem?_append_left (by simp [ha]), List.getElem?_append_right (by omega)]; simp [ha]
      have hmem : (r.k.isLd = true ↔ i ∈ ldsF) := by
        rw [g2]
        rcases hld with ⟨k1, rfl, _⟩ | ⟨k1, rfl, _⟩
        · simp [k1]
          exact ⟨fun hm => by have := hl i hm; omega, fun hm => by have := (g4 i hm).1; omega⟩
        · simp [k1]
      have hfil : ldsF.filter (· < i) = lds := by
        rw [g2, List.filter_append]
        have e1 : tlds.filter (· < i) = [] := by
          apply List.filter_eq_nil_iff.2
          intro j hj; have := (g4 j hj).1; simp; omega
        have e2 : lds.filter (· < i) = lds := by
          apply List.filter_eq_self.2
          intro j hj; have := hl j hj; simpa using this
        rcases hld with ⟨_, rfl, _⟩ | ⟨_, rfl, _⟩
        · rw [e1, e2]; simp
        · rw [e1, List.filter_append, e2]; simp
      have happ : recs = acc ++ ([r] ++ tl) := by rw [g1, List.append_assoc]
      refine ⟨[r] ++ tl, (match r.k.isLd with | true => [i] | false => []) ++ tlds, happ, ?_, by simp [g3], ?_, ?_, by omega, ?_, ?_⟩
      · rw [g2]
        rcases hld with ⟨k1, rfl, _⟩ | ⟨k1, rfl, _⟩ <;> simp [k1]
      · intro j hj
        have hil : i < L.length := (List.getElem?_eq_some_iff.1 ho).1
        rcases hld with ⟨k1, _⟩ | ⟨k1, _⟩ <;> simp [k1] at hj
        · have := g4 j hj; omega
        · rcases hj with rfl | hj
          · omega
          · have := g4 j hj; omega
      · rcases hld with ⟨k1, _⟩ | ⟨k1, _⟩
        · simpa [k1] using g5
        · simp [k1]; exact ⟨fun j hj => by have := (g4 j hj).1; omega, g5⟩
      · intro q o' r' h1 h2 h3
        by_cases hq : q = i
        · have hq := hq.symm
          subst hq
          rw [ho] at h2; cases h2
          rw [hri] at h3; cases h3
          refine ⟨⟨re, ?_, ?_⟩, hmem, by omega, hn1, g6⟩
          · rw [happ, renv_append hlt]; exact hre
          · rcases hfact with hf | hf | hf | hf | ⟨w1, w2, S1, w3, w4⟩
            · exact .inl hf
            · exact .inr (.inl hf)
            · exact .inr (.inr (.inl hf))
            · exact .inr (.inr (.inr (.inl hf)))
            · refine .inr (.inr (.inr (.inr ⟨w1, ?_, S1, ?_, w4⟩)))
              · intro j hj hji
                refine w2 j ?_
                rw [← hfil]; simp [hj, hji]
              · rw [hfil, happ, gh_append (fun q hq => by
                  cases hm : inM (masks L []) i q with
                  | false => rfl
                  | true => have := hlt q hm; omega), hOf_append (fun j hj => by rw [ha]; exact hl j hj), ← hh]
                exact w3
        · obtain ⟨f1, f2, f3, f4, f5⟩ := g7 q o' r' (by omega) h2 h3
          exact ⟨f1, f2, by omega, f4, f5⟩
      · intro q q' r1 r2 h1 h2 h3 h4
        by_cases hq : q = i
        · have hq := hq.symm
          subst hq
          rw [hri] at h3; cases h3
          have hL2 : q' < recs.length := (List.getElem?_eq_some_iff.1 h4).1
          have hlen : recs.length = L.length := by
            rw [happ]; simp [g3, ha]
            have := congrArg List.length hi
            simp at this
            have : i < L.length := (List.getElem?_eq_some_iff.1 ho).1
            omega
          have : ∃ o2, L[q']? = some o2 := ⟨L[q'], List.getElem?_eq_getElem (by omega)⟩
          obtain ⟨o2, ho2⟩ := this
          exact (g7 q' o2 r2 (by omega) ho2 h4).2.2.1
        · exact g8 q q' r1 r2 (by omega) h2 h3 h4
    simp only [plan] at hp
    split at hp
    · simp at hp
    · rename_i re hre
      cases hw : wanted L re o with
      | false =>
        simp only [hw, cond_false] at hp
        exact done ⟨.tup [], N, .val⟩ lds h re hre hp rfl (Nat.le_refl _) (.inl ⟨rfl, rfl, rfl⟩) (.inl ⟨hw, rfl, rfl⟩)
      | true =>
        simp only [hw, cond_true] at hp
        split at hp
        · rename_i hc
          split at hp
          · simp at hp
          · rename_i v hv
            exact done ⟨v, N, .val⟩ lds h re hre hp rfl (Nat.le_refl _) (.inl ⟨rfl, rfl, rfl⟩) (.inr (.inl ⟨hw, hc, hv, rfl⟩))
        · split at hp
          · simp at hp
          · rename_i v hv
            exact done ⟨v, N, .rd⟩ lds h re hre hp rfl (Nat.le_refl _) (.inl ⟨rfl, rfl, rfl⟩) (.inr (.inr (.inl ⟨hw, rfl⟩)))
        · rw [nblt, cond_dec] at hp
          split at hp
          · rename_i hN
            split at hp
            · simp at hp
            · rename_i b v hv
              exact done ⟨v, N, .mk b⟩ lds h re hre hp rfl (Nat.le_succ _) (.inl ⟨rfl, rfl, rfl⟩) (.inr (.inr (.inr (.inl ⟨hw, b, hv, rfl, hN⟩))))
          · simp at hp
        · cases hall : lds.all (fun j => inM (masks L []) i j) with
          | false => simp [hall] at hp
          | true =>
            simp only [hall, cond_true] at hp
            split at hp
            · simp at hp
            · rename_i v S1 hop
              have hmono := oper_n hop
              exact done ⟨v, N, .ld S1.h S1.n⟩ (lds ++ [i]) S1.h re hre hp rfl hmono (.inr ⟨rfl, rfl, S1.n, rfl⟩) (.inr (.inr (.inr (.inr ⟨hw, fun j hj => by simpa using List.all_eq_true.1 hall j hj, S1, hop, rfl⟩))))
end GX
/- GX: regions that draw their order: what holds at each point of each order. -/

namespace GX
open Go

/-! equality of values -/
theorem seq_ok : ∀ {a b : List Nat}, seq a b = true → a = b
  | [], [], _ => rfl
  | [], _ :: _, h => by simp [seq] at h
  | _ :: _, [], h => by simp [seq] at h
  | x :: a, y :: b, h => by
    simp only [seq, nbeq, cond_dec] at h
    split at h
    · rename_i e; rw [e, seq_ok h]
    · simp at h
mutual
theorem veq_ok : ∀ {a b : AV}, veq a b = true → a = b
  | .bool a, b, h => by cases b <;> simp [veq] at h; rw [h]
  | .int k a, b, h => by cases b <;> simp [veq] at h; rw [h.1]; have := h.2; rw [ieq_eq] at this; simp at this; rw [this]
  | .str a, b, h => by cases b <;> simp [veq] at h; rw [seq_ok h]
  | .ptr a c, b, h => by cases b <;> simp [veq, nbeq] at h; rw [h.1, h.2]
  | .nilp, b, h => by cases b <;> simp [veq] at h; rfl
  | .slice a1 b1 c1 k, b, h => by
    cases b with
    | slice a2 b2 c2 k2 =>
      cases k <;> cases k2 <;> simp [veq, nbeq] at h
      · obtain ⟨⟨⟨h1, h2⟩, h3⟩, h4⟩ := h; rw [h1, h2, h3, h4]
      · obtain ⟨⟨⟨h1, h2⟩, h3⟩, h4⟩ := h; rw [h1, h2, h3, h4]
    | _ => cases k <;> simp [veq] at h
  | .emp, b, h => by cases b <;> simp [veq] at h; rfl
  | .nils, b, h => by cases b <;> simp [veq] at h; rfl
  | .map a, b, h => by cases b <;> simp [veq, nbeq] at h; rw [h]
  | .nilm, b, h => by cases b <;> simp [veq] at h; rfl
  | .func f a1 a2, b, h => by
    cases b with
    | func f' b1 b2 =>
      cases f <;> cases f' <;> simp [veq, nbeq] at h
      obtain ⟨⟨h1, h2⟩, h3⟩ := h; rw [h1, veqs_ok h2, veqs_ok h3]
    | _ => cases f <;> simp [veq] at h
  | .nilf, b, h => by cases b <;> simp [veq] at h; rfl
  | .iface t a, b, h => by cases b <;> simp [veq, nbeq] at h; rw [h.1, veq_ok h.2]
  | .nili, b, h => by cases b <;> simp [veq] at h; rfl
  | .agg a, b, h => by cases b <;> simp [veq] at h; rw [veqs_ok h]
  | .tup a, b, h => by cases b <;> simp [veq] at h; rw [veqs_ok h]
  | .sym k i, b, h => by cases b <;> simp [veq, nbeq] at h; rw [h.1, h.2]
  | .rsl a n s, b, h => by cases b <;> simp [veq, nbeq] at h; rw [veqs_ok h.1.1, h.1.2, h.2]
  | .rptr a o, b, h => by cases b <;> simp [veq, nbeq] at h; rw [veqs_ok h.1, h.2]
theorem veqs_ok : ∀ {a b : List AV}, veqs a b = true → a = b
  | [], [], _ => rfl
  | [], _ :: _, h => by simp [veqs] at h
  | _ :: _, [], h => by simp [veqs] at h
  | x :: a, y :: b, h => by
    simp only [veqs, Bool.and_eq_true] at h
    rw [veq_ok h.1, veqs_ok h.2]
end

/-! heaps with made blocks -/
section
variable {ms : List Nat} {lds : List Nat} {p p' : Nat → Bool}
def Unm (ms : List Nat) (lds : List Nat) (k : Nat) : Prop := ∀ j ∈ lds, inM ms j k = false
theorem unm_iff {k : Nat} : lds.all (fun j => !inM ms j k) = true ↔ Unm ms lds k := by
  simp [Unm]
theorem ghStep_eq (r : R) (k : Nat) (h : Tr AB) : (∃ b, r.k = .mk b ∧ p k = true ∧ Unm ms lds k ∧ ghStep ms lds p r k h = Tr.set 40 h r.n0 b) ∨ ((¬ ∃ b, r.k = .mk b ∧ p k = true ∧ Unm ms lds k) ∧ ghStep ms lds p r k h = h) := by
  unfold ghStep
  split
  · rename_i b hb
    by_cases hc : p k = true ∧ Unm ms lds k
    · left
      refine ⟨b, hb, hc.1, hc.2, ?_⟩
      rw [hc.1, unm_iff.2 hc.2]; rfl
    · right
      refine ⟨fun ⟨b', h1, h2⟩ => hc h2, ?_⟩
      have : (p k && lds.all (fun j => !inM ms j k)) = false := by
        rw [Bool.eq_false_iff]; intro h; simp only [Bool.and_eq_true] at h; exact hc ⟨h.1, unm_iff.1 h.2⟩
      rw [this]; rfl
  · rename_i hb
    right
    exact ⟨fun ⟨b', h1, h2⟩ => hb b' h1, rfl⟩
theorem gh_cases : ∀ {recs : List R} {k0 : Nat} {h : Tr AB} (id : Nat), (∀ (k : Nat) (r : R) b, recs[k]? = some r → r.k = .mk b → r.n0 < 1000000000) →
    (gh ms lds p recs k0 h).get id = h.get id ∨ ∃ (k : Nat) (r : R) (b : AB), recs[k]? = some r ∧ r.k = .mk b ∧ p (k0 + k) = true ∧ Unm ms lds (k0 + k) ∧ r.n0 = id ∧ (gh ms lds p recs k0 h).get id = some b
  | [], _, _, id, _ => .inl rfl
  | r :: rs, k0, h, id, hs => by
    simp only [gh]
    have hs' : ∀ (k : Nat) (r : R) b, rs[k]? = some r → r.k = .mk b → r.n0 < 1000000000 := fun k r' b h1 h2 => hs (k + 1) r' b (by simpa using h1) h2
    rcases gh_cases (recs := rs) (k0 := k0 + 1) (h := ghStep ms lds p r k0 h) id hs' with e | ⟨k, r', b, h1, h2, h3, h4, h5, h6⟩
    · rcases ghStep_eq (ms := ms) (lds := lds) (p := p) r k0 h with ⟨b, g1, g2, g3, g4⟩ | ⟨_, g4⟩
      · rw [e, g4, Tr.get_set 40 h r.n0 b id (by have := hs 0 r b (by simp) g1; omega)]
        by_cases hid : id = r.n0
        · right
          exact ⟨0, r, b, by simp, g1, by simpa using g2, by simpa using g3, hid.symm, by rw [if_pos hid]⟩
        · left; rw [if_neg hid]
      · left; rw [e, g4]
    · right
      exact ⟨k + 1, r', b, by simpa using h1, h2, by rw [show k0 + (k + 1) = k0 + 1 + k by omega]; exact h3, by rw [show k0 + (k + 1) = k0 + 1 + k by omega]; exact h4, h5, h6⟩
theorem gh_miss {recs : List R} {k0 : Nat} {h : Tr AB} {id : Nat} (hs : ∀ (k : Nat) (r : R) b, recs[k]? = some r → r.k = .mk b → r.n0 < 1000000000)
    (hm : ∀ (k : Nat) (r : R) b, recs[k]? = some r → r.k = .mk b → p (k0 + k) = true → Unm ms lds (k0 + k) → r.n0 ≠ id) : (gh ms lds p recs k0 h).get id = h.get id := by
  rcases gh_cases (ms := ms) (lds := lds) (p := p) (k0 := k0) (h := h) id hs with e | ⟨k, r, b, h1, h2, h3, h4, h5, _⟩
  · exact e
  · exact absurd h5 (hm k r b h1 h2 h3 h4)
theorem gh_hit : ∀ {recs : List R} {k0 : Nat} {h : Tr AB} {k : Nat} {r : R} {b : AB}, (∀ (k : Nat) (r : R) b, recs[k]? = some r → r.k = .mk b → r.n0 < 1000000000) →
    (∀ (q q' : Nat) (r r' : R), q < q' → recs[q]? = some r → recs[q']? = some r' → r.n1 ≤ r'.n0) → recs[k]? = some r → r.k = .mk b → p (k0 + k) = true → Unm ms lds (k0 + k) → (gh ms lds p recs k0 h).get r.n0 = some b
  | [], _, _, k, r, b, _, _, h1, _, _, _ => by simp at h1
  | r0 :: rs, k0, h, k, r, b, hs, hc, h1, h2, h3, h4 => by
    simp only [gh]
    have hs' : ∀ (k : Nat) (r : R) b, rs[k]? = some r → r.k = .mk b → r.n0 < 1000000000 := fun k r' b h1 h2 => hs (k + 1) r' b (by simpa using h1) h2
    have hc' : ∀ (q q' : Nat) (r r' : R), q < q' → rs[q]? = some r → rs[q']? = some r' → r.n1 ≤ r'.n0 := fun q q' r r' h a b => hc (q + 1) (q' + 1) r r' (by omega) (by simpa using a) (by simpa using b)
    cases k with
    | zero =>
      simp at h1; subst h1
      have hn1 : r0.n1 = r0.n0 + 1 := by simp [R.n1, h2]
      rw [gh_miss hs' (fun k r' b' a1 a2 _ _ => by have := hc 0 (k + 1) r0 r' (by omega) (by simp) (by simpa using a1); omega)]
      rcases ghStep_eq (ms := ms) (lds := lds) (p := p) r0 k0 h with ⟨b', g1, g2, g3, g4⟩ | ⟨g, _⟩
      · rw [h2] at g1; cases g1
        rw [g4, Tr.get_set 40 h r0.n0 b r0.n0 (by have := hs 0 r0 b (by simp) h2; omega), if_pos rfl]
      · exact absurd ⟨b, h2, by simpa using h3, by simpa using h4⟩ g
    | succ k =>
      simp at h1
      exact gh_hit hs' hc' h1 h2 (by rw [show k0 + 1 + k = k0 + (k + 1) by omega]; exact h3) (by rw [show k0 + 1 + k = k0 + (k + 1) by omega]; exact h4)
theorem gh_congr : ∀ {recs : List R} {k0 : Nat} {h : Tr AB}, (∀ (k : Nat) (r : R) b, recs[k]? = some r → r.k = .mk b → p (k0 + k) = p' (k0 + k)) → gh ms lds p recs k0 h = gh ms lds p' recs k0 h
  | [], _, _, _ => rfl
  | r :: rs, k0, h, hp => by
    simp only [gh]
    have : ghStep ms lds p r k0 h = ghStep ms lds p' r k0 h := by
      unfold ghStep
      split
      · rename_i b hb; rw [show p k0 = p' k0 from by simpa using hp 0 r b (by simp) hb]
      · rfl
    rw [this]
    exact gh_congr (fun k r' b a1 a2 => by
      have := hp (k + 1) r' b (by simpa using a1) a2
      rw [show k0 + 1 + k = k0 + (k + 1) by omega]; exact this)
end
theorem filter_prefix {p : Nat → Bool} : ∀ {l : List Nat}, l.Pairwise (· < ·) → (∀ a b, a ∈ l → b ∈ l → a < b → p b = true → p a = true) → ∃ s, l = l.filter p ++ s
  | [], _, _ => ⟨[], rfl⟩
  | a :: l, hs, hp => by
    rw [List.pairwise_cons] at hs
    obtain ⟨s, hs2⟩ := filter_prefix hs.2 (fun x y hx hy h hpy => hp x y (by simp [hx]) (by simp [hy]) h hpy)
    by_cases ha : p a = true
    · refine ⟨s, ?_⟩
      rw [List.filter_cons_of_pos ha, List.cons_append, ← hs2]
    · have : (a :: l).filter p = [] := by
        apply List.filter_eq_nil_iff.2
        intro b hb hpb
        simp at hb
        rcases hb with rfl | hb
        · exact ha hpb
        · exact ha (hp a b (by simp) (by simp [hb]) (hs.1 b hb) hpb)
      exact ⟨a :: l, by rw [this]; rfl⟩
theorem filter_snoc {i : Nat} : ∀ {l : List Nat}, l.Pairwise (· < ·) → i ∈ l → l.filter (fun j => decide (j < i) || decide (j = i)) = l.filter (fun j => decide (j < i)) ++ [i]
  | [], _, h => by simp at h
  | a :: l, hs, h => by
    rw [List.pairwise_cons] at hs
    simp at h
    by_cases ha : a = i
    · subst ha
      have e1 : l.filter (fun j => decide (j < a) || decide (j = a)) = [] := by
        apply List.filter_eq_nil_iff.2; intro b hb; have := hs.1 b hb; simp; omega
      have e2 : l.filter (fun j => decide (j < a)) = [] := by
        apply List.filter_eq_nil_iff.2; intro b hb; have := hs.1 b hb; simp; omega
      simp [e1, e2]
    · have hi : i ∈ l := by rcases h with h | h; exact absurd h.symm ha; exact h
      have hlt : a < i := hs.1 i hi
      have := filter_snoc hs.2 hi
      simp [hlt, this]
theorem rdOk_spec {X : X} {ops : List Oper} {ms : List Nat} {recs : List R} {h0 : Tr AB} {re : Env} {i : Nat} {op : Op} {v : AV} {lds : List Nat} : ∀ {js pf : List Nat}, rdOk X ops ms recs h0 re i op v lds pf js = true →
    ∀ s t, js = s ++ t → rdOk.rd1 X ms recs h0 re i op v lds (pf ++ s) = true
  | [], pf, h, s, t, e => by
    have : s = [] := by
      cases s with
      | nil => rfl
      | cons q s => simp at e
    subst this
    rw [List.append_nil]
    unfold rdOk at h
    exact h
  | j :: js, pf, h, s, t, e => by
    simp only [rdOk, Bool.and_eq_true] at h
    cases s with
    | nil => rw [List.append_nil]; exact h.1
    | cons q s =>
      simp at e; obtain ⟨rfl, e⟩ := e
      have := rdOk_spec h.2 s t e
      rw [List.append_assoc] at this
      exact this
theorem rdsOk_spec {X : X} {n : Nat} {ops : List Oper} {ms : List Nat} {recs : List R} {e : Env} {h0 : Tr AB} {lds : List Nat} : ∀ {os : List Oper} {k : Nat}, rdsOk X n ops ms recs e h0 lds os k = true → ∀ (i : Nat) (o : Oper) (r : R), os[i]? = some o → recs[k + i]? = some r → r.k = .rd →
    ∃ re, renv ms ops recs e n (k + i) (looks ops o) = some re ∧ rdOk X ops ms recs h0 re (k + i) o.op r.v lds [] lds = true
  | [], _, _, i, o, r, h, _, _ => by simp at h
  | o :: os, k, hk, i, o', r, h1, h2, h3 => by
    simp only [rdsOk, Bool.and_eq_true] at hk
    cases i with
    | zero =>
      simp at h1; subst h1
      have hk1 := hk.1
      rw [show recs[k]? = some r from by simpa using h2] at hk1
      dsimp only at hk1
      rw [h3] at hk1
      dsimp only at hk1
      split at hk1
      · rename_i re hre; exact ⟨re, by simpa using hre, by simpa using hk1⟩
      · simp at hk1
    | succ i =>
      simp at h1
      have := rdsOk_spec hk.2 i o' r h1 (by rw [show k + 1 + i = k + (i + 1) by omega]; exact h2) h3
      rw [show k + (i + 1) = k + 1 + i by omega]
      exact this
theorem putAll_length {n : Nat} : ∀ {os : List Oper} {rs : List R} {e e' : Env}, putAll n os rs e = some e' → rs.length = os.length
  | [], [], _, _, _ => rfl
  | [], _ :: _, _, _, h => by simp [putAll] at h
  | _ :: _, [], _, _, h => by simp [putAll] at h
  | o :: os, r :: rs, e, e', h => by
    simp only [putAll] at h
    split at h
    · simp at h
    · simp [putAll_length h]
/-- a temporary at the end -/
theorem putAll_at {n : Nat} (hn : n < 1000001) : ∀ {os : List Oper} {rs : List R} {e e' : Env}, putAll n os rs e = some e' → (∀ (i j : Nat) (o o' : Oper) (d : Nat), os[i]? = some o → os[j]? = some o' → o.dst = some d → o'.dst = some d → i = j) → ∀ t,
    (∀ (j : Nat) (o : Oper) (r : R), os[j]? = some o → o.dst = some t → rs[j]? = some r → e'.at t = r.v) ∧ ((∀ (j : Nat) (o : Oper), os[j]? = some o → o.dst ≠ some t) → e'.at t = e.at t)
  | [], [], e, e', h, _, t => by simp [putAll] at h; subst h; exact ⟨fun j o r h => by simp at h, fun _ => rfl⟩
  | [], _ :: _, _, _, h, _, _ => by simp [putAll] at h
  | _ :: _, [], _, _, h, _, _ => by simp [putAll] at h
  | o :: os, r :: rs, e, e', h, hD, t => by
    simp only [putAll] at h
    split at h
    · simp at h
    · rename_i e1 he1
      have hD' : ∀ (i j : Nat) (o o' : Oper) (d : Nat), os[i]? = some o → os[j]? = some o' → o.dst = some d → o'.dst = some d → i = j := fun i j a b d h1 h2 h3 h4 => by
        have := hD (i + 1) (j + 1) a b d (by simpa using h1) (by simpa using h2) h3 h4; omega
      obtain ⟨k1, k2⟩ := putAll_at hn h hD' t
      have hat : e1.at t = if o.dst = some t then r.v else e.at t := by
        cases hd : o.dst with
        | none => rw [hd] at he1; simp [setDst] at he1; subst he1; simp
        | some d =>
          rw [hd] at he1
          simp only [setDst, nblt, cond_dec] at he1
          split at he1
          · simp at he1; subst he1
            rw [Env.at_put _ _ _ _ (by omega)]
            by_cases htd : t = d
            · subst htd; simp
            · simp [htd, Ne.symm htd]
          · simp at he1
      constructor
      · intro j o' r' h1 h2 h3
        cases j with
        | zero =>
          simp at h1 h3; subst h1; subst h3
          rw [k2 (fun j o' hj hd => by have := hD 0 (j + 1) o o' t (by simp) (by simpa using hj) h2 hd; omega), hat, if_pos h2]
        | succ j => simp at h1 h3; exact k1 j o' r' h1 h2 h3
      · intro hn'
        rw [k2 (fun j o' hj => hn' (j + 1) o' (by simpa using hj)), hat, if_neg (hn' 0 o (by simp))]
end GX
/- GX: regions that draw their order: every order comes to the same. -/

namespace GX
open Go

theorem Ext.comp {φ φ' φ'' : Phi} {h h' h'' : Tr AB} {n m : Nat} {w w' w'' : World}
    (a : Ext φ h n w φ' h' m w') (b : Ext φ' h' n w' φ'' h'' m w'')
    (fr : ∀ id, n ≤ id → id < m → φ id = none) : Ext φ h n w φ'' h'' m w'' := by
  have old : ∀ id x l, h'.get id = some x → φ' id = some l → w.heap.size ≤ l.blk ∨ ∃ id0 b l0, h.get id0 = some b ∧ φ id0 = some l0 ∧ l0.blk = l.blk := by
    intro id x l e f
    rcases a.new id with g | ⟨_, _, g⟩
    · rw [g] at f
      rcases a.dom id x e with ⟨b0, hb⟩ | ⟨h1, h2⟩
      · exact .inr ⟨id, b0, l, hb, f, rfl⟩
      · rw [fr id h1 h2] at f; cases f
    · exact g l f
  refine ⟨a.le, a.sub.trans b.sub, ?_, ?_, Nat.le_trans a.size b.size, ?_, b.os.trans a.os, b.tape.trans a.tape, b.output.trans a.output⟩
  · intro id
    rcases b.new id with g | ⟨h1, h2, g⟩
    · rcases a.new id with k | ⟨h1, h2, k⟩
      · exact .inl (g.trans k)
      · exact .inr ⟨h1, h2, fun l e => k l (g ▸ e)⟩
    · refine .inr ⟨h1, h2, fun l e => ?_⟩
      rcases g l e with k | ⟨id0, b0, l0, e0, f0, k⟩
      · exact .inl (Nat.le_trans a.size k)
      · rw [← k]; exact old id0 b0 l0 e0 f0
  · intro id x e
    rcases b.dom id x e with ⟨b0, h0⟩ | ⟨h1, h2⟩
    · rcases a.dom id b0 h0 with k | ⟨h1, h2⟩
      · exact .inl k
      · exact .inr ⟨h1, h2⟩
    · exact .inr ⟨h1, h2⟩
  · intro k hk hn
    rw [b.frame k (Nat.lt_of_lt_of_le hk a.size) ?_, a.frame k hk hn]
    intro id x l e f hb
    rcases old id x l e f with g | ⟨id0, b0, l0, e0, f0, g⟩
    · omega
    · exact hn id0 b0 l0 e0 f0 (g.trans hb)

section
variable {P : Program} {X : X} {rec : Rec} {n : Nat} {L : List Oper} {e : Env} {S : St} {recs : List R} {lds : List Nat} {N1 : Nat} {φ0 : Phi} {w0 : World}

structure DF (X : _root_.GX.X) (rec : Rec) (n : Nat) (L : List Oper) (e : Env) (S : St) (recs : List R) (lds : List Nat) (N1 : Nat) : Prop where
  hE : edgesOk L 0 = true
  hD : dstsOk n L = true
  hS : noSelect L = true
  hlen : recs.length = L.length
  hn : n < 1000001
  hle : S.n ≤ N1
  hf : ∀ (i : Nat) (o : Oper) (r : R), L[i]? = some o → recs[i]? = some r → Fact X rec n L e S.h recs lds i o r ∧ (r.k.isLd = true ↔ i ∈ lds) ∧ S.n ≤ r.n0 ∧ r.n0 ≤ r.n1 ∧ r.n1 ≤ N1
  hc : ∀ (q q' : Nat) (r r' : R), q < q' → recs[q]? = some r → recs[q']? = some r' → r.n1 ≤ r'.n0
  hsort : lds.Pairwise (· < ·)
  hlt : ∀ j ∈ lds, j < L.length
  hrd : rdsOk X n L (masks L []) recs e S.h lds L 0 = true
noncomputable def envAt (L : List Oper) (recs : List R) (e : Env) (ls : Nat → Bool) (t : Nat) : AV :=
  match writer t L 0 with
  | some j => bif ls j then (match recs[j]? with | some r => r.v | none => .tup []) else e.at t
  | none => e.at t
noncomputable def TL (L : List Oper) (recs : List R) (lds : List Nat) (h0 : Tr AB) (ls : Nat → Bool) : Tr AB :=
  gh (masks L []) (lds.filter ls) ls recs 0 (hOf recs h0 (lds.filter ls))
structure Inv [Val] (φ0 : Phi) (w0 : World) (n : Nat) (L : List Oper) (e : Env) (S : St) (recs : List R) (lds : List Nat) (N1 : Nat) (ls : Nat → Bool) (a : Act) (w : World) (φ : Phi) : Prop where
  dc : DC L (fun i => ls i = true)
  size : a.tmps.size = n
  env : ∀ t, vrel φ (envAt L recs e ls t) (a.tmps.getD t undef)
  def_ : a.defers = []
  wr : wrel φ (TL L recs lds S.h ls) w
  ext : Ext φ0 S.h S.n w0 φ (TL L recs lds S.h ls) N1 w
  fresh : ∀ (i : Nat) (r : R), ls i = false → recs[i]? = some r → ∀ id, r.n0 ≤ id → id < r.n1 → φ id = none
  dom : ∀ id b, (hOf recs S.h (lds.filter ls)).get id = some b → (∃ b0, S.h.get id = some b0) ∨ ∃ (i : Nat) (r : R), ls i = true ∧ recs[i]? = some r ∧ r.n0 ≤ id ∧ id < r.n1 ∧ ((∃ c, r.k = .mk c) → ∃ j ∈ lds, ls j = true ∧ inM (masks L []) j i = true)
def upl (ls : Nat → Bool) (i : Nat) : Nat → Bool := fun k => bif Nat.beq k i then true else ls k
theorem upl_eq (ls : Nat → Bool) (i k : Nat) : upl ls i k = if k = i then true else ls k := by simp [upl, nbeq, cond_dec]
/-- what an operation looks at -/
theorem look_ok [Val] {ls : Nat → Bool} {a : Act} {w : World} {φ : Phi} (I : Inv φ0 w0 n L e S recs lds N1 ls a w φ) {i : Nat} {o : Oper} (ho : L[i]? = some o) (hi : ls i = false) (hr : ∀ ed ∈ o.after, Region.binds .any ed = true → ls ed.on = true) {t : Nat} {v : AV} (h : lookT (masks L []) L recs e i t = some v) : v = envAt L recs e ls t := by
  unfold lookT at h
  unfold envAt
  split at h
  · rename_i hw; rw [hw]; simpa using h.symm
  · rename_i j hw
    rw [hw]
    cases hm : inM (masks L []) i j with
    | true =>
      simp only [hm, cond_true] at h
      have := inM_ready (S := fun q => ls q = true) I.dc ho hr hm
      simp only [this, cond_true]
      split at h
      · rename_i r hrj; rw [hrj]; simpa using h.symm
      · simp at h
    | false =>
      simp only [hm, cond_false] at h
      cases hc : (Nat.beq i j || inM (masks L []) j i) with
      | false => rw [hc] at h; simp at h
      | true =>
        rw [hc] at h
        simp only [cond_true, Option.some.injEq] at h
        have hj : ls j = false := by
          rw [nbeq] at hc
          simp only [Bool.or_eq_true, decide_eq_true_eq] at hc
          rcases hc with rfl | hc
          · exact hi
          · cases hlj : ls j with
            | false => rfl
            | true =>
              have := inM_dc (S := fun q => ls q = true) I.dc j hlj i hc
              rw [hi] at this; cases this
        simp only [hj, cond_false]; exact h.symm
theorem dc_put {ls : Nat → Bool} (hdc : DC L (fun i => ls i = true)) {i : Nat} {o : Oper} (ho : L[i]? = some o) (hr : ∀ ed ∈ o.after, Region.binds .any ed = true → ls ed.on = true) : DC L (fun k => upl ls i k = true) := by
  intro k o' hk hs ed he hb
  rw [upl_eq] at hs ⊢
  by_cases hki : k = i
  · subst hki; rw [ho] at hk; cases hk
    rw [hr ed he hb]; simp
  · rw [if_neg hki] at hs
    rw [hdc k o' hk hs ed he hb]; simp
theorem DF.op_of (F : DF X rec n L e S recs lds N1) {i : Nat} {r : R} (h : recs[i]? = some r) : ∃ o, L[i]? = some o := by
  have hlt := (List.getElem?_eq_some_iff.1 h).1
  exact ⟨_, List.getElem?_eq_getElem (by rw [← F.hlen]; exact hlt)⟩
theorem DF.mkb (F : DF X rec n L e S recs lds N1) (k : Nat) (r : R) (b : AB) (h1 : recs[k]? = some r) (h2 : r.k = .mk b) : r.n0 < 1000000000 := by
  obtain ⟨o, ho⟩ := F.op_of h1
  obtain ⟨re, _, hr⟩ := (F.hf k _ r ho h1).1
  rcases hr with ⟨_, _, h⟩ | ⟨_, _, _, h⟩ | ⟨_, h⟩ | ⟨_, b', _, _, h⟩ | ⟨_, _, S1, _, h⟩
  · rw [h] at h2; cases h2
  · rw [h] at h2; cases h2
  · rw [h] at h2; cases h2
  · exact h
  · rw [h] at h2; cases h2
theorem DF.ld_isLd (F : DF X rec n L e S recs lds N1) {i : Nat} (h : i ∈ lds) (r : R) (hr : recs[i]? = some r) : r.k.isLd = true := by
  obtain ⟨o, ho⟩ := F.op_of hr
  exact (F.hf i o r ho hr).2.1.2 h
/-- a block that is made, and not yet had by a loud operation, is not in the heap behind these -/
theorem DF.none_of [Val] (F : DF X rec n L e S recs lds N1) {ls : Nat → Bool} {a : Act} {w : World} {φ : Phi} (I : Inv φ0 w0 n L e S recs lds N1 ls a w φ) (fr0 : Fresh φ0 S.n N1) (hw0 : wrel φ0 S.h w0) {k : Nat} {r : R} {b : AB} (h1 : recs[k]? = some r) (h2 : r.k = .mk b) (h3 : Unm (masks L []) (lds.filter ls) k) :
    (hOf recs S.h (lds.filter ls)).get r.n0 = none := by
  cases hg : (hOf recs S.h (lds.filter ls)).get r.n0 with
  | none => rfl
  | some x =>
    exfalso
    obtain ⟨o, ho⟩ := F.op_of h1
    obtain ⟨_, _, c1, c2, c3⟩ := F.hf k o r ho h1
    have hn1 : r.n1 = r.n0 + 1 := by simp [R.n1, h2]
    rcases I.dom _ _ hg with ⟨b0, hb0⟩ | ⟨i, r', g1, g2, g3, g4, g5⟩
    · obtain ⟨l, hl⟩ := has_loc hw0 hb0
      rw [fr0 r.n0 c1 (by omega)] at hl; cases hl
    · have : i = k := by
        rcases Nat.lt_trichotomy i k with h | h | h
        · have := F.hc i k r' r h g2 h1; omega
        · exact h
        · have := F.hc k i r r' h h1 g2; omega
      subst this
      rw [h1] at g2; cases g2
      obtain ⟨j, j1, j2, j3⟩ := g5 ⟨b, h2⟩
      have := h3 j (by simp [j1, j2])
      rw [this] at j3; cases j3
/-- less in the heap -/
theorem DF.sub [Val] (F : DF X rec n L e S recs lds N1) {ls : Nat → Bool} {a : Act} {w : World} {φ : Phi} (I : Inv φ0 w0 n L e S recs lds N1 ls a w φ) (fr0 : Fresh φ0 S.n N1) (hw0 : wrel φ0 S.h w0) {p : Nat → Bool} (hp : ∀ k, p k = true → ls k = true) :
    ∀ id x, (gh (masks L []) (lds.filter ls) p recs 0 (hOf recs S.h (lds.filter ls))).get id = some x → (TL L recs lds S.h ls).get id = some x := by
  intro id x hx
  unfold TL
  rcases gh_cases (ms := masks L []) (lds := lds.filter ls) (p := p) (k0 := 0) (h := hOf recs S.h (lds.filter ls)) id F.mkb with he | ⟨k, r, b, h1, h2, h3, h4, h5, h6⟩
  · rw [he] at hx
    rcases gh_cases (ms := masks L []) (lds := lds.filter ls) (p := ls) (k0 := 0) (h := hOf recs S.h (lds.filter ls)) id F.mkb with he2 | ⟨k, r, b, h1, h2, h3, h4, h5, h6⟩
    · rw [he2]; exact hx
    · rw [← h5, F.none_of I fr0 hw0 h1 h2 (by simpa using h4)] at hx; cases hx
  · rw [h6] at hx; cases hx
    subst h5
    exact gh_hit F.mkb F.hc h1 h2 (hp _ h3) h4
theorem DF.renv_at [Val] (F : DF X rec n L e S recs lds N1) {ls : Nat → Bool} {a : Act} {w : World} {φ : Phi} (I : Inv φ0 w0 n L e S recs lds N1 ls a w φ) {i : Nat} {o : Oper} (ho : L[i]? = some o) (hi : ls i = false) (hr : ∀ ed ∈ o.after, Region.binds .any ed = true → ls ed.on = true) :
    ∀ {ts : List Nat} {re : Env}, renv (masks L []) L recs e n i ts = some re → (∀ t ∈ ts, t < n) ∧ ∀ t, re.at t = if t ∈ ts then envAt L recs e ls t else .tup []
  | [], re, h => by simp [renv] at h; subst h; exact ⟨by simp, fun t => by simp [leaf_at]⟩
  | t0 :: ts, re, h => by
    simp only [renv, nblt, cond_dec] at h
    split at h
    · rename_i hlt
      split at h
      · simp at h
      · rename_i v hv
        split at h
        · simp at h
        · rename_i e' he'
          simp at h; subst h
          obtain ⟨k1, k2⟩ := DF.renv_at F I ho hi hr he'
          have hn := F.hn
          refine ⟨fun t ht => by simp at ht; rcases ht with rfl | ht; exact hlt; exact k1 t ht, fun t => ?_⟩
          rw [Env.at_put _ _ _ _ (by omega), k2, look_ok I ho hi hr hv]
          by_cases h1 : t = t0
          · subst h1; simp
          · simp [h1]
    · simp at h

theorem DF.env_put [Val] (F : DF X rec n L e S recs lds N1) {ls : Nat → Bool} {a : Act} {w : World} {φ φ' : Phi} (I : Inv φ0 w0 n L e S recs lds N1 ls a w φ) (hsub : Sub φ φ') {i : Nat} {o : Oper} {r : R} (ho : L[i]? = some o) (hri : recs[i]? = some r) {u : Value} (hu : vrel φ' r.v u) :
    (a.put o.dst u).tmps.size = n ∧ ∀ t, vrel φ' (envAt L recs e (upl ls i) t) ((a.put o.dst u).tmps.getD t undef) := by
  have hsz := I.size
  constructor
  · cases o.dst <;> simp [Act.put, hsz]
  · intro t
    by_cases ht : o.dst = some t
    · have hw := writer_of F.hD ho ht
      have hlt := (dsts_spec F.hD).1 i o t ho ht
      have e1 : envAt L recs e (upl ls i) t = r.v := by
        unfold envAt; rw [hw]; simp [upl_eq, hri]
      rw [e1, ht]
      have : t < a.tmps.size := by omega
      simpa [Act.put, Array.getD_eq_getD_getElem?, Array.getElem?_setIfInBounds, this] using hu
    · have e1 : envAt L recs e (upl ls i) t = envAt L recs e ls t := by
        unfold envAt
        cases hw : writer t L 0 with
        | none => rfl
        | some j =>
          obtain ⟨_, o', h1, h2⟩ := writer_some hw
          simp at h1
          have hji : j ≠ i := by
            intro hji; subst hji; rw [ho] at h1; cases h1; exact ht h2
          simp [upl_eq, hji]
      rw [e1]
      have hv := vrel_mono hsub _ (I.env t)
      cases hd : o.dst with
      | none => exact hv
      | some d =>
        have : d ≠ t := fun h => ht (by rw [hd, h])
        simpa [Act.put, Array.getD_eq_getD_getElem?, Array.getElem?_setIfInBounds, this] using hv
/-- an operation that neither makes nor writes -/
theorem DF.step_val [Val] (F : DF X rec n L e S recs lds N1) {ls : Nat → Bool} {a : Act} {w : World} {φ : Phi} (I : Inv φ0 w0 n L e S recs lds N1 ls a w φ) {i : Nat} {o : Oper} {r : R} (ho : L[i]? = some o) (hri : recs[i]? = some r) (hi : ls i = false) (hr : ∀ ed ∈ o.after, Region.binds .any ed = true → ls ed.on = true)
    (hnl : r.k.isLd = false) (hnm : ∀ b, r.k ≠ .mk b) {u : Value} (hu : vrel φ r.v u) : Inv φ0 w0 n L e S recs lds N1 (upl ls i) (a.put o.dst u) w φ := by
  have hnil : i ∉ lds := fun h => by rw [F.ld_isLd h r hri] at hnl; cases hnl
  have hfil : lds.filter (upl ls i) = lds.filter ls := by
    apply List.filter_congr
    intro j hj
    have : j ≠ i := fun h => hnil (h ▸ hj)
    simp [upl_eq, this]
  have hTL : TL L recs lds S.h (upl ls i) = TL L recs lds S.h ls := by
    unfold TL
    rw [hfil]
    apply gh_congr
    intro k r' b h1 h2
    have : k ≠ i := by
      intro h; subst h; rw [hri] at h1; cases h1; exact hnm b h2
    simp [upl_eq, this]
  obtain ⟨p1, p2⟩ := F.env_put I (Sub.refl φ) ho hri hu
  refine ⟨dc_put I.dc ho hr, p1, p2, ?_, by rw [hTL]; exact I.wr, by rw [hTL]; exact I.ext, ?_, ?_⟩
  · cases o.dst <;> simpa [Act.put] using I.def_
  · intro k r' hk h1
    rw [upl_eq] at hk
    split at hk
    · cases hk
    · exact I.fresh k r' hk h1
  · intro id b hb
    rw [hfil] at hb
    rcases I.dom id b hb with h | ⟨k, r', h1, h2, h3, h4, h5⟩
    · exact .inl h
    · refine .inr ⟨k, r', by rw [upl_eq, h1]; simp, h2, h3, h4, fun hm => ?_⟩
      obtain ⟨j, j1, j2, j3⟩ := h5 hm
      exact ⟨j, j1, by rw [upl_eq, j2]; simp, j3⟩
/-- an operation that makes a block -/
theorem DF.step_mk [Val] (F : DF X rec n L e S recs lds N1) {ls : Nat → Bool} {a : Act} {w : World} {φ : Phi} (I : Inv φ0 w0 n L e S recs lds N1 ls a w φ) (fr0 : Fresh φ0 S.n N1) {i : Nat} {o : Oper} {r : R} {b : AB} (ho : L[i]? = some o) (hri : recs[i]? = some r) (hi : ls i = false) (hr : ∀ ed ∈ o.after, Region.binds .any ed = true → ls ed.on = true)
    (hk : r.k = .mk b) {u : Value} {w' : World} (hm : Made φ w w' r.n0 b r.v u) : ∃ φ', Inv φ0 w0 n L e S recs lds N1 (upl ls i) (a.put o.dst u) w' φ' := by
  have hn1 : r.n1 = r.n0 + 1 := by simp [R.n1, hk]
  have hsm := F.mkb i r b hri hk
  have hfr := I.fresh i r hi hri r.n0 (Nat.le_refl _) (by omega)
  obtain ⟨φ', k1, k2, k3⟩ := new_ok I.wr hsm hfr hm
  obtain ⟨_, _, c1, c2, c3⟩ := F.hf i o r ho hri
  have hnil : i ∉ lds := fun h => by have := F.ld_isLd h r hri; rw [hk] at this; cases this
  have hfil : lds.filter (upl ls i) = lds.filter ls := by
    apply List.filter_congr
    intro j hj
    have : j ≠ i := fun h => hnil (h ▸ hj)
    simp [upl_eq, this]
  have hunm : Unm (masks L []) (lds.filter ls) i := by
    intro j hj
    simp at hj
    cases hm : inM (masks L []) j i with
    | false => rfl
    | true => have := inM_dc (S := fun q => ls q = true) I.dc j hj.2 i hm; rw [hi] at this; cases this
  have hget : ∀ id, (TL L recs lds S.h (upl ls i)).get id = (Tr.set 40 (TL L recs lds S.h ls) r.n0 b).get id := by
    intro id
    rw [Tr.get_set 40 _ _ _ _ (by omega)]
    unfold TL
    rw [hfil]
    split
    · rename_i hid; subst hid
      exact gh_hit F.mkb F.hc hri hk (by simp [upl_eq]) (by simpa using hunm)
    · rename_i hid
      rcases gh_cases (ms := masks L []) (lds := lds.filter ls) (p := upl ls i) (k0 := 0) (h := hOf recs S.h (lds.filter ls)) id F.mkb with he | ⟨k, r', b', h1, h2, h3, h4, h5, h6⟩
      · rcases gh_cases (ms := masks L []) (lds := lds.filter ls) (p := ls) (k0 := 0) (h := hOf recs S.h (lds.filter ls)) id F.mkb with he2 | ⟨k, r', b', h1, h2, h3, h4, h5, h6⟩
        · rw [he, he2]
        · rw [h6]; subst h5
          exact gh_hit F.mkb F.hc h1 h2 (by simp at h3; simp [upl_eq, h3]) h4
      · rw [h6]; subst h5
        have hki : k ≠ i := by intro h; subst h; rw [hri] at h1; cases h1; exact hid rfl
        exact (gh_hit F.mkb F.hc h1 h2 (by simp [upl_eq, hki] at h3; simpa using h3) h4).symm
  have hs1 : ∀ id x, (TL L recs lds S.h (upl ls i)).get id = some x → (Tr.set 40 (TL L recs lds S.h ls) r.n0 b).get id = some x := fun id x h => by rw [← hget]; exact h
  obtain ⟨p1, p2⟩ := F.env_put I k2.sub ho hri k3
  have k2' : Ext φ (TL L recs lds S.h ls) S.n w φ' (TL L recs lds S.h (upl ls i)) N1 w' := by
    have := k2.shrink hs1
    refine ⟨F.hle, this.sub, fun id => ?_, fun id x hx => ?_, this.size, this.frame, this.os, this.tape, this.output⟩
    · rcases this.new id with h | ⟨h1, h2, h3⟩
      · exact .inl h
      · exact .inr ⟨by omega, by omega, h3⟩
    · rcases this.dom id x hx with h | ⟨h1, h2⟩
      · exact .inl h
      · exact .inr ⟨by omega, by omega⟩
  refine ⟨φ', dc_put I.dc ho hr, p1, p2, ?_, wrel_sub hs1 k1, I.ext.comp k2' fr0, ?_, ?_⟩
  · cases o.dst <;> simpa [Act.put] using I.def_
  · intro k r' hk' h1 id h2 h3
    rw [upl_eq] at hk'
    split at hk'
    · cases hk'
    · rename_i hki
      have hf := I.fresh k r' hk' h1 id h2 h3
      rcases k2.new id with h | ⟨h4, h5, _⟩
      · rw [h]; exact hf
      · exfalso
        rcases Nat.lt_trichotomy k i with h | h | h
        · have := F.hc k i r' r h h1 hri; omega
        · exact hki h
        · have := F.hc i k r r' h hri h1; omega
  · intro id x hx
    rw [hfil] at hx
    rcases I.dom id x hx with h | ⟨k, r', h1, h2, h3, h4, h5⟩
    · exact .inl h
    · refine .inr ⟨k, r', by rw [upl_eq, h1]; simp, h2, h3, h4, fun hm => ?_⟩
      obtain ⟨j, j1, j2, j3⟩ := h5 hm
      exact ⟨j, j1, by rw [upl_eq, j2]; simp, j3⟩

theorem DF.chain (F : DF X rec n L e S recs lds N1) {i j : Nat} (hi : i ∈ lds) (hj : j ∈ lds) (h : j < i) : inM (masks L []) i j = true := by
  have hil := F.hlt i hi
  have ho : L[i]? = some L[i] := List.getElem?_eq_getElem hil
  have hri : recs[i]? = some (recs[i]'(by rw [F.hlen]; exact hil)) := List.getElem?_eq_getElem _
  obtain ⟨⟨re, _, hr⟩, hl, _⟩ := F.hf i _ _ ho hri
  have hld := hl.2 hi
  rcases hr with ⟨_, _, h1⟩ | ⟨_, _, _, h1⟩ | ⟨_, h1⟩ | ⟨_, b', _, h1, _⟩ | ⟨_, h2, S1, _, h1⟩
  · rw [h1] at hld; cases hld
  · rw [h1] at hld; cases hld
  · rw [h1] at hld; cases hld
  · rw [h1] at hld; cases hld
  · exact h2 j hj h
/-- the loud operations that have been, when a loud one comes up -/
theorem DF.lds_at (F : DF X rec n L e S recs lds N1) {ls : Nat → Bool} (hdc : DC L (fun i => ls i = true)) {i : Nat} {o : Oper} (ho : L[i]? = some o) (hi : ls i = false) (hr : ∀ ed ∈ o.after, Region.binds .any ed = true → ls ed.on = true)
    (hin : i ∈ lds) : lds.filter ls = lds.filter (fun j => decide (j < i)) ∧ lds.filter (upl ls i) = lds.filter (fun j => decide (j < i)) ++ [i] := by
  have key : ∀ j ∈ lds, ls j = decide (j < i) := by
    intro j hj
    by_cases h : j < i
    · simp only [h, decide_true]
      exact inM_ready (S := fun q => ls q = true) hdc ho hr (F.chain hin hj h)
    · simp only [h, decide_false]
      by_cases hji : j = i
      · rw [hji]; exact hi
      · cases hl : ls j with
        | false => rfl
        | true =>
          have := inM_dc (S := fun q => ls q = true) hdc j hl i (F.chain hj hin (by omega))
          rw [hi] at this; cases this
  constructor
  · exact List.filter_congr key
  · rw [← filter_snoc F.hsort hin]
    apply List.filter_congr
    intro j hj
    rw [upl_eq, key j hj]
    by_cases h : j = i <;> simp [h]
/-- a loud operation -/
theorem DF.step_ld [Val] (F : DF X rec n L e S recs lds N1) {ls : Nat → Bool} {a : Act} {w : World} {φ : Phi} (I : Inv φ0 w0 n L e S recs lds N1 ls a w φ) (fr0 : Fresh φ0 S.n N1) (hw0 : wrel φ0 S.h w0) {i : Nat} {o : Oper} {r : R} {h1 : Tr AB} {m1 : Nat} (ho : L[i]? = some o) (hri : recs[i]? = some r) (hi : ls i = false) (hr : ∀ ed ∈ o.after, Region.binds .any ed = true → ls ed.on = true)
    (hk : r.k = .ld h1 m1) {u : Value} {w' : World} {φ' : Phi} (k3 : vrel φ' r.v u) (k1 : wrel φ' h1 w') (k2 : Ext φ (gh (masks L []) (lds.filter ls) (inM (masks L []) i) recs 0 (hOf recs S.h (lds.filter ls))) r.n0 w φ' h1 m1 w') :
    Inv φ0 w0 n L e S recs lds N1 (upl ls i) (a.put o.dst u) w' φ' := by
  have hn1 : r.n1 = m1 := by simp [R.n1, hk]
  obtain ⟨_, hil, c1, c2, c3⟩ := F.hf i o r ho hri
  have hin : i ∈ lds := hil.1 (by rw [hk]; rfl)
  obtain ⟨q1, q2⟩ := F.lds_at I.dc ho hi hr hin
  have hhof : hOf recs S.h (lds.filter (upl ls i)) = h1 := by rw [q2]; exact hOf_snoc hri hk
  have hpre : ∀ k, inM (masks L []) i k = true → ls k = true := fun k hk => inM_ready (S := fun q => ls q = true) I.dc ho hr hk
  have hsub := F.sub I fr0 hw0 hpre
  -- the made blocks that stay beside
  have beside : ∀ {k : Nat} {r' : R} {b : AB}, recs[k]? = some r' → r'.k = .mk b → upl ls i k = true → Unm (masks L []) (lds.filter (upl ls i)) k →
      ls k = true ∧ Unm (masks L []) (lds.filter ls) k ∧ (TL L recs lds S.h ls).get r'.n0 = some b ∧ (gh (masks L []) (lds.filter ls) (inM (masks L []) i) recs 0 (hOf recs S.h (lds.filter ls))).get r'.n0 = none := by
    intro k r' b g1 g2 g3 g4
    have hki : k ≠ i := by intro h; subst h; rw [hri] at g1; cases g1; rw [hk] at g2; cases g2
    have g3' : ls k = true := by simpa [upl_eq, hki] using g3
    have g4' : Unm (masks L []) (lds.filter ls) k := by
      intro j hj; apply g4; rw [q2]; rw [q1] at hj; simp at hj ⊢; exact .inl hj
    have g5 : inM (masks L []) i k = false := g4 i (by rw [q2]; simp)
    refine ⟨g3', g4', gh_hit F.mkb F.hc g1 g2 (by simpa using g3') (by simpa using g4'), ?_⟩
    rw [gh_miss F.mkb (fun k2 r2 b2 a1 a2 a3 a4 hid => ?_)]
    · exact F.none_of I fr0 hw0 g1 g2 g4'
    · have e2 : r2.n1 = r2.n0 + 1 := by simp [R.n1, a2]
      have e3 : r'.n1 = r'.n0 + 1 := by simp [R.n1, g2]
      have : k2 = k := by
        rcases Nat.lt_trichotomy k2 k with h | h | h
        · have := F.hc k2 k r2 r' h a1 g1; omega
        · exact h
        · have := F.hc k k2 r' r2 h g1 a1; omega
      subst this
      simp at a3; rw [g5] at a3; cases a3
  have hT : ∀ id x, (TL L recs lds S.h (upl ls i)).get id = some x → h1.get id = some x ∨ ((TL L recs lds S.h ls).get id = some x ∧ (gh (masks L []) (lds.filter ls) (inM (masks L []) i) recs 0 (hOf recs S.h (lds.filter ls))).get id = none) := by
    intro id x hx
    unfold TL at hx
    rcases gh_cases (ms := masks L []) (lds := lds.filter (upl ls i)) (p := upl ls i) (k0 := 0) (h := hOf recs S.h (lds.filter (upl ls i))) id F.mkb with he | ⟨k, r', b, g1, g2, g3, g4, g5, g6⟩
    · left; rw [← hhof, ← he]; exact hx
    · right
      rw [g6] at hx; cases hx
      obtain ⟨_, _, h3, h4⟩ := beside g1 g2 (by simpa using g3) (by simpa using g4)
      subst g5
      exact ⟨h3, h4⟩
  -- a block that stays beside: where it lies
  have hbes : ∀ {id : Nat} {x : AB}, (TL L recs lds S.h ls).get id = some x → (gh (masks L []) (lds.filter ls) (inM (masks L []) i) recs 0 (hOf recs S.h (lds.filter ls))).get id = none → ∃ l ob, φ id = some l ∧ φ' id = some l ∧ w.heap[l.blk]? = some ob ∧ w'.heap[l.blk]? = some ob ∧ brel φ x l ob ∧ l.blk < w.heap.size ∧
      ∀ id2 y l2, (gh (masks L []) (lds.filter ls) (inM (masks L []) i) recs 0 (hOf recs S.h (lds.filter ls))).get id2 = some y → φ id2 = some l2 → l2.blk ≠ l.blk := by
    intro id x h2 h3
    obtain ⟨l, ob, b1, b2, b3⟩ := I.wr.blk id x h2
    have hne : ∀ id2 y l2, (gh (masks L []) (lds.filter ls) (inM (masks L []) i) recs 0 (hOf recs S.h (lds.filter ls))).get id2 = some y → φ id2 = some l2 → l2.blk ≠ l.blk := by
      intro id2 y l2 hy hl2 heq
      have := I.wr.inj id2 id y x l2 l (hsub _ _ hy) h2 hl2 b1 heq
      subst this
      rw [h3] at hy; cases hy
    have hlt := (Array.getElem?_eq_some_iff.1 b2).1
    exact ⟨l, ob, b1, k2.sub _ _ b1, b2, by rw [k2.frame l.blk hlt hne]; exact b2, b3, hlt, hne⟩
  have hwr : wrel φ' (TL L recs lds S.h (upl ls i)) w' := by
    refine ⟨?_, ?_, ?_, ?_⟩
    · intro id x hx
      rcases hT id x hx with h | ⟨h2, h3⟩
      · exact k1.blk id x h
      · obtain ⟨l, ob, b1, b2, b3, b4, b5, _⟩ := hbes h2 h3
        exact ⟨l, ob, b2, b4, brel_mono k2.sub b5⟩
    · have mixed : ∀ {id1 id2 : Nat} {x y : AB} {l1 l2 : Loc}, h1.get id1 = some x → (TL L recs lds S.h ls).get id2 = some y → (gh (masks L []) (lds.filter ls) (inM (masks L []) i) recs 0 (hOf recs S.h (lds.filter ls))).get id2 = none → φ' id1 = some l1 → φ' id2 = some l2 → l1.blk = l2.blk → False := by
        intro id1 id2 x y l1 l2 a1 a2 a3 a4 a5 a6
        obtain ⟨l, ob, b1, b2, b3, b4, b5, b6, b7⟩ := hbes a2 a3
        rw [a5] at b2; cases b2
        rcases k2.new id1 with h | ⟨h2, h3, h4⟩
        · rw [a4] at h
          rcases k2.dom id1 x a1 with ⟨y0, hy0⟩ | ⟨d1, d2⟩
          · exact b7 id1 y0 l1 hy0 h.symm a6
          · have := I.fresh i r hi hri id1 d1 (by omega)
            rw [this] at h; cases h
        · rcases h4 l1 a4 with h5 | ⟨id0, y0, l0, e1, e2, e3⟩
          · omega
          · exact b7 id0 y0 l0 e1 e2 (e3.trans a6)
      intro id1 id2 x y l1 l2 a1 a2 a3 a4 a5
      rcases hT id1 x a1 with g1 | ⟨g1, g1'⟩
      · rcases hT id2 y a2 with g2 | ⟨g2, g2'⟩
        · exact k1.inj id1 id2 x y l1 l2 g1 g2 a3 a4 a5
        · exact (mixed g1 g2 g2' a3 a4 a5).elim
      · rcases hT id2 y a2 with g2 | ⟨g2, g2'⟩
        · exact (mixed g2 g1 g1' a4 a3 a5.symm).elim
        · obtain ⟨l, ob, b1, b2, _⟩ := hbes g1 g1'
          obtain ⟨l', ob', b1', b2', _⟩ := hbes g2 g2'
          rw [a3] at b2; cases b2
          rw [a4] at b2'; cases b2'
          exact I.wr.inj id1 id2 x y _ _ g1 g2 b1 b1' a5
    · intro id x hx
      rcases hT id x hx with h | ⟨h2, _⟩
      · exact k1.small id x h
      · exact I.wr.small id x h2
    · intro g o ho
      refine ⟨(k1.ro g o ho).1, fun id x l hx hl => ?_⟩
      rcases hT id x hx with h | ⟨h2, h3⟩
      · exact (k1.ro g o ho).2 id x l h hl
      · obtain ⟨l0, _, b1, b2, _⟩ := hbes h2 h3
        rw [hl] at b2; cases b2
        exact (I.wr.ro g o ho).2 id x l h2 b1
  have hext : Ext φ (TL L recs lds S.h ls) S.n w φ' (TL L recs lds S.h (upl ls i)) N1 w' := by
    refine ⟨F.hle, k2.sub, ?_, ?_, k2.size, ?_, k2.os, k2.tape, k2.output⟩
    · intro id
      rcases k2.new id with h | ⟨h2, h3, h4⟩
      · exact .inl h
      · refine .inr ⟨by omega, by omega, fun l hl => ?_⟩
        rcases h4 l hl with h5 | ⟨id0, y0, l0, e1, e2, e3⟩
        · exact .inl h5
        · exact .inr ⟨id0, y0, l0, hsub _ _ e1, e2, e3⟩
    · intro id x hx
      rcases hT id x hx with h | ⟨h2, _⟩
      · rcases k2.dom id x h with ⟨y0, hy0⟩ | ⟨d1, d2⟩
        · exact .inl ⟨y0, hsub _ _ hy0⟩
        · exact .inr ⟨by omega, by omega⟩
      · exact .inl ⟨x, h2⟩
    · intro k hk' hne
      exact k2.frame k hk' (fun id y l hy hl => hne id y l (hsub _ _ hy) hl)
  obtain ⟨p1, p2⟩ := F.env_put I k2.sub ho hri k3
  refine ⟨dc_put I.dc ho hr, p1, p2, ?_, hwr, I.ext.comp hext fr0, ?_, ?_⟩
  · cases o.dst <;> simpa [Act.put] using I.def_
  · intro k r' hk' g1 id h2 h3
    rw [upl_eq] at hk'
    split at hk'
    · cases hk'
    · rename_i hki
      have hf := I.fresh k r' hk' g1 id h2 h3
      rcases k2.new id with h | ⟨h4, h5, _⟩
      · rw [h]; exact hf
      · exfalso
        rcases Nat.lt_trichotomy k i with h | h | h
        · have := F.hc k i r' r h g1 hri; omega
        · exact hki h
        · have := F.hc i k r r' h hri g1; omega
  · intro id x hx
    rw [hhof] at hx
    rcases k2.dom id x hx with ⟨y0, hy0⟩ | ⟨d1, d2⟩
    · rcases gh_cases (ms := masks L []) (lds := lds.filter ls) (p := inM (masks L []) i) (k0 := 0) (h := hOf recs S.h (lds.filter ls)) id F.mkb with he | ⟨k, r', b, g1, g2, g3, g4, g5, g6⟩
      · rw [he] at hy0
        rcases I.dom id y0 hy0 with h | ⟨k, r', h1, h2, h3, h4, h5⟩
        · exact .inl h
        · refine .inr ⟨k, r', by rw [upl_eq, h1]; simp, h2, h3, h4, fun hm => ?_⟩
          obtain ⟨j, j1, j2, j3⟩ := h5 hm
          exact ⟨j, j1, by rw [upl_eq, j2]; simp, j3⟩
      · have hn2 : r'.n1 = r'.n0 + 1 := by simp [R.n1, g2]
        simp at g3
        refine .inr ⟨k, r', by rw [upl_eq, hpre k g3]; simp, g1, by omega, by omega, fun _ => ⟨i, hin, by simp [upl_eq], g3⟩⟩
    · exact .inr ⟨i, r, by simp [upl_eq], hri, d1, by omega, fun ⟨c, hc⟩ => by rw [hk] at hc; cases hc⟩
end
end GX
/- GX: SOUND: what the abstract machine runs to, the model runs to, whatever the tape. -/

namespace GX
open Go

theorem noSelect_spec : ∀ {os : List Oper}, noSelect os = true → ∀ (i : Nat) (o : Oper), os[i]? = some o → ∀ cs b, o.op ≠ .select cs b
  | [], _, i, o, h => by simp at h
  | o :: os, hk, i, o', h => by
    simp only [noSelect, Bool.and_eq_true] at hk
    cases i with
    | zero =>
      simp at h; subst h
      intro cs b hop
      rw [hop] at hk
      simp at hk
    | succ i => simp at h; exact noSelect_spec hk.2 i o' h
section
variable {P : Program} {X : X} {rec : Rec} {n : Nat} {ops : Array Oper} {e : Env} {S : St} {recs : List R} {lds : List Nat} {N1 : Nat} {φ0 : Phi} {w0 : World}

theorem step_any [Val] (hX : XOK P X) (hx : ∀ f g, X.ext f = some g → ExtOK P f g) (hent : EntOK P X rec) (F : DF X rec n ops.toList e S recs lds N1) {ls : Nat → Bool} {a : Act} {w : World} {φ : Phi}
    (I : Inv φ0 w0 n ops.toList e S recs lds N1 ls a w φ) (fr0 : Fresh φ0 S.n N1) (hw0 : wrel φ0 S.h w0) {i : Nat} {o : Oper} (hoa : ops[i]? = some o) (hi : ls i = false) (hr : ∀ ed ∈ o.after, Region.binds .any ed = true → ls ed.on = true)
    {K : Act → World → Prop} {Q : Exit → Act → World → Prop} (hK : ∀ a' w' φ', Inv φ0 w0 n ops.toList e S recs lds N1 (upl ls i) a' w' φ' → K a' w') : wpOp P ops Q i K a w := by
  have ho : ops.toList[i]? = some o := by simpa using hoa
  have hil : i < ops.toList.length := (List.getElem?_eq_some_iff.1 ho).1
  have hri : recs[i]? = some (recs[i]'(by rw [F.hlen]; exact hil)) := List.getElem?_eq_getElem _
  generalize (recs[i]'(by rw [F.hlen]; exact hil)) = r at hri
  obtain ⟨⟨re, hre, hfact⟩, hld, c1, c2, c3⟩ := F.hf i o r ho hri
  obtain ⟨k1, k2⟩ := F.renv_at I ho hi hr hre
  -- the temporaries that are looked at, and no others
  generalize hb : ({ tmps := Array.ofFn (n := n) fun t => if t.val ∈ looks ops.toList o then a.tmps.getD t.val undef else undef, defers := a.defers } : Act) = b
  have hbt : ∀ t, b.tmps.getD t undef = if t ∈ looks ops.toList o then a.tmps.getD t undef else undef := by
    intro t
    subst hb
    rw [Array.getD_eq_getD_getElem?, Array.getElem?_ofFn]
    by_cases ht : t < n
    · rw [dif_pos ht]; simp
    · rw [dif_neg ht, if_neg (fun h => ht (k1 t h))]; rfl
  have hbs : b.tmps.size = n := by subst hb; simp
  have he : erel φ n re b.tmps := by
    refine ⟨hbs, F.hn, fun t => ?_⟩
    rw [k2, hbt]
    by_cases ht : t ∈ looks ops.toList o
    · rw [if_pos ht, if_pos ht]; exact I.env t
    · rw [if_neg ht, if_neg ht]; exact vrel_undef φ
  have hev : execOp a.eval o = execOp b.eval o := by
    apply execOp_congr o (noSelect_spec F.hS i o ho)
    intro x hx
    cases x with
    | tmp t =>
      have : t ∈ looks ops.toList o := by
        unfold looks
        apply List.mem_append_left
        rw [List.mem_filterMap]
        exact ⟨.tmp t, by simpa using hx, rfl⟩
      show a.tmps.getD t undef = b.tmps.getD t undef
      rw [hbt, if_pos this]
    | _ => rfl
  have hwt : wanted ops.toList re o = Region.wanted o (yielded ops a.tmps) := by
    rw [wanted_ok he]
    unfold Region.wanted
    split
    · rfl
    · rename_i j want hg
      have : yielded ops b.tmps j = yielded ops a.tmps j := by
        unfold yielded
        cases hp : ops[j]? with
        | none => rfl
        | some p =>
          simp only [Option.bind_some]
          cases hd : p.dst with
          | none => rfl
          | some d =>
            simp only [Option.bind_some]
            have hdl : d ∈ looks ops.toList o := by
              unfold looks
              apply List.mem_append_right
              rw [hg]
              have hp' : ops.toList[j]? = some p := by simpa using hp
              simp [hp', hd]
            have hdn := k1 d hdl
            have h1 := hbt d
            rw [if_pos hdl] at h1
            have e1 : b.tmps[d]? = some (b.tmps.getD d undef) := by
              rw [Array.getD_eq_getD_getElem?, Array.getElem?_eq_getElem (by omega)]; rfl
            have e2 : a.tmps[d]? = some (a.tmps.getD d undef) := by
              rw [Array.getD_eq_getD_getElem?, Array.getElem?_eq_getElem (by rw [I.size]; exact hdn)]; rfl
            rw [e1, e2, h1]
      rw [this]
  unfold wpOp
  rw [hoa]
  dsimp only
  rw [← hwt]
  rcases hfact with ⟨f1, f2, f3⟩ | ⟨f1, f2, f3, f4⟩ | ⟨f1, f2⟩ | ⟨f1, bl, f2, f3, f4⟩ | ⟨f1, f2, S1, f3, f4⟩
  · rw [f1]
    simp only [Bool.false_eq_true, if_false]
    exact hK _ _ _ (F.step_val I ho hri hi hr (by rw [f3]; rfl) (by rw [f3]; intro b h; cases h) (by rw [f2]; exact vrel_undef φ))
  · rw [f1]
    simp only [if_true]
    left
    obtain ⟨u, u1, u2⟩ := pure_ok hX he f3
    unfold Oper.wp
    rw [hev, u1 w]
    exact hK _ _ _ (F.step_val I ho hri hi hr (by rw [f4]; rfl) (by rw [f4]; intro b h; cases h) u2)
  · rw [f1]
    simp only [if_true]
    left
    obtain ⟨re', hre', hrd⟩ := rdsOk_spec F.hrd i o r ho (by simpa using hri) f2
    simp only [Nat.zero_add] at hre' hrd
    rw [hre] at hre'; cases hre'
    -- the loud ones that have been: the first few
    obtain ⟨s, hs⟩ := filter_prefix (p := ls) F.hsort (fun x y hx hy hxy hly => inM_dc (S := fun q => ls q = true) I.dc y hly x (F.chain hy hx hxy))
    have h1 := rdOk_spec hrd (lds.filter ls) s hs
    rw [List.nil_append] at h1
    unfold rdOk.rd1 at h1
    have hcond : ((lds.filter ls).all (fun j => !inM (masks ops.toList []) j i) && lds.all (fun j => !inM (masks ops.toList []) i j || (lds.filter ls).contains j)) = true := by
      rw [Bool.and_eq_true]
      constructor
      · rw [List.all_eq_true]
        intro j hj
        simp only [List.mem_filter] at hj
        cases hm : inM (masks ops.toList []) j i with
        | false => rfl
        | true =>
          have := inM_dc (S := fun q => ls q = true) I.dc j hj.2 i hm
          rw [hi] at this; cases this
      · rw [List.all_eq_true]
        intro j hj
        cases hm : inM (masks ops.toList []) i j with
        | false => rfl
        | true =>
          have := inM_ready (S := fun q => ls q = true) I.dc ho hr hm
          simp [hj, this]
    rw [hcond] at h1
    simp only [cond_true] at h1
    split at h1
    · cases h1
    · rename_i v' hv'
      have := veq_ok h1
      subst this
      have hpre : ∀ k, inM (masks ops.toList []) i k = true → ls k = true := fun k hk => inM_ready (S := fun q => ls q = true) I.dc ho hr hk
      obtain ⟨u, u1, u2⟩ := read_ok hX (wrel_sub (F.sub I fr0 hw0 hpre) I.wr) he hv'
      unfold Oper.wp
      rw [hev, u1]
      exact hK _ _ _ (F.step_val I ho hri hi hr (by rw [f2]; rfl) (by rw [f2]; intro b h; cases h) u2)
  · rw [f1]
    simp only [if_true]
    left
    obtain ⟨u, w', u1, u2⟩ := alloc_ok (φ := φ) (w := w) hX he f2
    obtain ⟨φ', hI⟩ := F.step_mk I fr0 ho hri hi hr f3 u2
    unfold Oper.wp
    rw [hev, u1]
    exact hK _ _ φ' hI
  · rw [f1]
    simp only [if_true]
    left
    have hin : i ∈ lds := hld.1 (by rw [f4]; rfl)
    obtain ⟨q1, q2⟩ := F.lds_at I.dc ho hi hr hin
    rw [← q1] at f3
    have hpre : ∀ k, inM (masks ops.toList []) i k = true → ls k = true := fun k hk => inM_ready (S := fun q => ls q = true) I.dc ho hr hk
    have hwr := wrel_sub (F.sub I fr0 hw0 hpre) I.wr
    have hn1 : r.n1 = S1.n := by simp [R.n1, f4]
    unfold Oper.wp
    rw [hev]
    refine oper_ok (a0 := a) hX hx hent he hwr (fun id a b => I.fresh i r hi hri id a (by rw [hn1]; exact b)) f3 ?_
    intro u w' φ' u1 u2 u3
    exact hK _ _ φ' (F.step_ld I fr0 hw0 ho hri hi hr f4 u1 u2 u3)

/-! every order -/
def cnt (l : List Bool) : Nat := (l.filter id).length
theorem cnt_set : ∀ {l : List Bool} {i : Nat}, l[i]? = some false → cnt (l.set i true) = cnt l + 1
  | [], _, h => by simp at h
  | b :: l, 0, h => by simp at h; subst h; simp [cnt]
  | b :: l, i + 1, h => by
    simp at h
    have := cnt_set h
    cases b <;> simp [cnt] at this ⊢ <;> omega
theorem cnt_le (l : List Bool) : cnt l ≤ l.length := List.length_filter_le _ _
theorem cnt_all : ∀ {l : List Bool}, cnt l = l.length → ∀ (i : Nat), i < l.length → l[i]? = some true
  | [], _, i, h => by simp at h
  | b :: l, hc, i, h => by
    cases b with
    | false =>
      have := cnt_le l
      simp [cnt] at hc this
      omega
    | true =>
      cases i with
      | zero => simp
      | succ i =>
        simp at h
        have : cnt l = l.length := by simpa [cnt] using hc
        simpa using cnt_all this i h
theorem any_ok [Val] (hX : XOK P X) (hx : ∀ f g, X.ext f = some g → ExtOK P f g) (hent : EntOK P X rec) (F : DF X rec n ops.toList e S recs lds N1) (fr0 : Fresh φ0 S.n N1) (hw0 : wrel φ0 S.h w0) {Q : Exit → Act → World → Prop}
    (hQ : ∀ a w φ, (∃ ls, (∀ i, i < ops.size → ls i = true) ∧ Inv φ0 w0 n ops.toList e S recs lds N1 ls a w φ) → Q .normal a w) :
    ∀ (fuel : Nat) (listed : Array Bool) (a : Act) (w : World) (φ : Phi), listed.size = ops.size → fuel + cnt listed.toList = ops.size → Inv φ0 w0 n ops.toList e S recs lds N1 (fun i => listed.getD i false) a w φ → wpAny P .any ops Q fuel listed a w := by
  intro fuel
  induction fuel with
  | zero =>
    intro listed a w φ hsz hc I
    have hall : ∀ i, i < ops.size → listed[i]? = some true := by
      intro i hi
      have := cnt_all (l := listed.toList) (by simp [hsz]; omega) i (by simp [hsz]; exact hi)
      simpa using this
    refine ⟨?_, hQ a w φ ⟨_, fun i hi => by simp [Array.getD_eq_getD_getElem?, hall i hi], I⟩⟩
    unfold Region.ready
    apply List.filter_eq_nil_iff.2
    intro i hi
    simp only [List.mem_range] at hi
    simp [Array.getD_eq_getD_getElem?, hall i hi]
  | succ fuel ih =>
    intro listed a w φ hsz hc I
    constructor
    · intro hnone
      -- nothing is ready: all has been
      refine hQ a w φ ⟨_, ?_, I⟩
      intro i
      induction i using Nat.strongRecOn with
      | _ i ihi =>
        intro hi
        cases hl : listed.getD i false with
        | true => rfl
        | false =>
          exfalso
          have hmem : i ∈ Region.ready .any ops listed := by
            unfold Region.ready
            rw [List.mem_filter]
            refine ⟨by simpa using hi, ?_⟩
            have h1 : listed[i]? = some false := by
              rw [Array.getD_eq_getD_getElem?] at hl
              have : listed[i]? = some listed[i] := Array.getElem?_eq_getElem (by omega)
              rw [this] at hl ⊢; simpa using hl
            have h2 : listed.getD i true = false := by simp [Array.getD_eq_getD_getElem?, h1]
            have h3 : ops[i]? = some ops[i] := Array.getElem?_eq_getElem hi
            rw [h2, h3]
            simp only [Bool.not_false, Option.map_some, Option.getD_some, Bool.true_and]
            rw [Array.all_eq_true]
            intro q hq
            cases hb : Region.binds .any ops[i].after[q] with
            | false => rfl
            | true =>
              have hlt2 := edges_spec F.hE i ops[i] (by simp) _ (Array.getElem_mem hq) hb
              have := ihi ops[i].after[q].on (by omega) (by omega)
              simp [this]
          rw [hnone] at hmem; cases hmem
    · intro i hi
      unfold Region.ready at hi
      rw [List.mem_filter] at hi
      obtain ⟨hlt, hi⟩ := hi
      simp only [List.mem_range] at hlt
      simp only [Bool.and_eq_true, Bool.not_eq_true'] at hi
      obtain ⟨h1, h2⟩ := hi
      have ho : ops[i]? = some ops[i] := Array.getElem?_eq_getElem hlt
      rw [ho] at h2
      simp only [Option.map_some, Option.getD_some] at h2
      have hli : listed[i]? = some false := by
        have : listed[i]? = some listed[i] := Array.getElem?_eq_getElem (by omega)
        rw [Array.getD_eq_getD_getElem?, this] at h1
        rw [this]; simpa using h1
      have hl0 : listed.getD i false = false := by simp [Array.getD_eq_getD_getElem?, hli]
      refine step_any hX hx hent F I fr0 hw0 ho hl0 ?_ ?_
      · intro ed hed hb
        rw [Array.all_eq_true] at h2
        obtain ⟨q, hq, rfl⟩ := Array.mem_iff_getElem.1 hed
        have := h2 q hq
        rw [hb] at this
        simpa using this
      · intro a' w' φ' I'
        refine ih _ a' w' φ' (by simp [hsz]) ?_ ?_
        · rw [Array.toList_setIfInBounds, cnt_set (by simpa using hli)]; omega
        · have : (fun k => (listed.setIfInBounds i true).getD k false) = upl (fun k => listed.getD k false) i := by
            funext k
            rw [upl_eq, Array.getD_eq_getD_getElem?, Array.getElem?_setIfInBounds]
            by_cases hk : i = k
            · subst hk; simp [hsz, hlt]
            · simp [hk, Ne.symm hk, Array.getD_eq_getD_getElem?]
          rw [this]; exact I'
theorem drawn_ok [Val] (hX : XOK P X) (hx : ∀ f g, X.ext f = some g → ExtOK P f g) (hent : EntOK P X rec) : DrawnOK P X rec := by
  intro ops n e S e' S' id h φ a w Q he hd hw fr hq
  unfold drawn at h
  dsimp only at h
  cases hc : (edgesOk ops.toList 0 && dstsOk n ops.toList && noSelect ops.toList) with
  | false => rw [hc] at h; simp at h
  | true =>
    rw [hc] at h
    simp only [cond_true] at h
    simp only [Bool.and_eq_true] at hc
    obtain ⟨⟨hE, hD⟩, hS⟩ := hc
    split at h
    · simp at h
    · rename_i recs lds N hp
      cases hrd : rdsOk X n ops.toList (masks ops.toList []) recs e S.h lds ops.toList 0 with
      | false => rw [hrd] at h; simp at h
      | true =>
        rw [hrd] at h
        simp only [cond_true] at h
        split at h
        · simp at h
        · rename_i e1 hput
          rw [nble, cond_dec] at h
          split at h
          · rename_i hle
            simp only [Res.ok.injEq, true_and] at h
            obtain ⟨rfl, rfl⟩ := h
            obtain ⟨tl, tlds, g1, g2, g3, g4, g5, g6, g7, g8⟩ := plan_good hE ops.toList 0 [] [] S.h S.n recs lds N hp rfl rfl (by simp) rfl
            simp only [List.nil_append] at g1 g2
            subst g1; subst g2
            have F : DF X rec n ops.toList e S recs lds N := ⟨hE, hD, hS, g3, he.small, hle, fun i o r a b => g7 i o r (Nat.zero_le _) a b, fun q q' r r' a b c => g8 q q' r r' (Nat.zero_le _) a b c, g5, fun j hj => (g4 j hj).2, hrd⟩
            refine wp_region_any hX.mixed ?_
            have hT0 : TL ops.toList recs lds S.h (fun i => (Array.replicate ops.size false).getD i false) = S.h := by
              unfold TL
              have e1 : lds.filter (fun i => (Array.replicate ops.size false).getD i false) = [] := by
                apply List.filter_eq_nil_iff.2
                intro j _
                simp [Array.getD_eq_getD_getElem?, Array.getElem?_replicate]
                split <;> simp
              rw [e1]
              have : ∀ (rs : List R) (k : Nat), gh (masks ops.toList []) [] (fun i => (Array.replicate ops.size false).getD i false) rs k (hOf recs S.h []) = S.h := by
                intro rs
                induction rs with
                | nil => intro k; rfl
                | cons r rs ih =>
                  intro k
                  simp only [gh]
                  have hst : ghStep (masks ops.toList []) [] (fun i => (Array.replicate ops.size false).getD i false) r k (hOf recs S.h []) = hOf recs S.h [] := by
                    unfold ghStep
                    split
                    · have : (Array.replicate ops.size false).getD k false = false := by
                        simp [Array.getD_eq_getD_getElem?, Array.getElem?_replicate]
                        split <;> simp
                      dsimp only; rw [this]; rfl
                    · rfl
                  rw [hst]; exact ih (k + 1)
              exact this recs 0
            have hls0 : ∀ i, (Array.replicate ops.size false).getD i false = false := by
              intro i
              simp [Array.getD_eq_getD_getElem?, Array.getElem?_replicate]
              split <;> simp
            have hfil0 : lds.filter (fun i => (Array.replicate ops.size false).getD i false) = [] := by
              apply List.filter_eq_nil_iff.2
              intro j _
              rw [hls0]; simp
            have hw1 : wrel φ S.h ({ w with drawn := w.drawn + 1 } : World) := wrel_drew hw
            refine any_ok (φ0 := φ) (w0 := w) hX hx hent F fr hw ?_ ops.size _ a _ φ (by simp) ?_ ?_
            · rintro a' w' φ' ⟨ls, hall, I⟩
              have hfil : lds.filter ls = lds := by
                apply List.filter_eq_self.2
                intro j hj
                exact hall j (by have := F.hlt j hj; simpa using this)
              have hgh : TL ops.toList recs lds S.h ls = gh (masks ops.toList []) lds (fun _ => true) recs 0 (hOf recs S.h lds) := by
                unfold TL
                rw [hfil]
                apply gh_congr
                intro k r b h1 h2
                have : k < recs.length := (List.getElem?_eq_some_iff.1 h1).1
                rw [F.hlen] at this
                simpa using hall k (by simpa using this)
              refine hq a' w' φ' ⟨⟨I.size, he.small, fun t => ?_⟩, I.def_, by rw [← hgh]; exact I.wr, by rw [← hgh]; exact I.ext⟩
              have hv := I.env t
              have : e1.at t = envAt ops.toList recs e ls t := by
                obtain ⟨k1, k2⟩ := putAll_at he.small hput (fun i j o o' d => (dsts_spec hD).2 i j o o' d) t
                unfold envAt
                cases hw : writer t ops.toList 0 with
                | none => exact k2 (fun j o hj => writer_none hw j o hj)
                | some j =>
                  obtain ⟨_, o, h1, h2⟩ := writer_some hw
                  simp only [Nat.sub_zero] at h1
                  have hjl : j < ops.toList.length := (List.getElem?_eq_some_iff.1 h1).1
                  have hjr : recs[j]? = some (recs[j]'(by rw [F.hlen]; exact hjl)) := List.getElem?_eq_getElem _
                  rw [k1 j o _ h1 h2 hjr]
                  simp [hall j (by simpa using hjl), hjr]
              rw [this]; exact hv
            · have : cnt (Array.replicate ops.size false).toList = 0 := by
                simp [cnt]
              omega
            · refine ⟨?_, he.size, ?_, hd, by rw [hT0]; exact hw1, ?_, ?_, ?_⟩
              · intro i o _ hi; rw [hls0] at hi; cases hi
              · intro t
                have : envAt ops.toList recs e (fun i => (Array.replicate ops.size false).getD i false) t = e.at t := by
                  unfold envAt
                  split
                  · dsimp only; rw [hls0]; rfl
                  · rfl
                rw [this]; exact he.at_ t
              · rw [hT0]
                exact ⟨hle, Sub.refl _, fun _ => .inl rfl, fun _ b e => .inl ⟨b, e⟩, Nat.le_refl _, fun _ _ _ => rfl, rfl, rfl, rfl⟩
              · intro i r _ hri id h1 h2
                obtain ⟨o, ho⟩ := F.op_of hri
                obtain ⟨_, _, c1, c2, c3⟩ := F.hf i o r ho hri
                exact fr id (by omega) (by show id < N; omega)
              · intro id b hb
                rw [hfil0] at hb
                exact .inl ⟨b, hb⟩
          · simp at h

/-! soundness -/
theorem exec_sound [Val] (hX : XOK P X) (hx : ∀ f g, X.ext f = some g → ExtOK P f g) : ∀ fuel, RecOK P (exec X fuel)
  | 0 => by intro n c e S x e' S' h; simp [exec] at h
  | f + 1 => by
    have ih := exec_sound hX hx f
    have hent := enter_ok hX ih
    exact exec_ok hX hx (exec_mono f) ih hent (drawn_ok hX hx hent)
theorem call_sound [Val] (hX : XOK P X) (hx : ∀ f g, X.ext f = some g → ExtOK P f g) {fuel f : Nat} {args : List AV} {S S' : St} {r : AV} (h : call X fuel f args S = some (r, S')) {φ : Phi} {w : World} {vs : Array Value} (hv : vrels φ args vs.toList) (hw : wrel φ S.h w) (fr : Fresh φ S.n S'.n) :
    CallSpec P f vs w fun v w' => ∃ φ', vrel φ' r v ∧ wrel φ' S'.h w' ∧ Ext φ S.h S.n w φ' S'.h S'.n w' := by
  unfold call at h
  cases hxt : X.ext f with
  | none => exact enter_ok hX (exec_sound hX hx fuel) f args S r S' hxt h φ w vs hv hw fr
  | some g =>
    unfold enter at h
    rw [hxt] at h
    exact (hx f g hxt args S r S' h).2 φ w vs hv hw fr
end
end GX
