/- GX: regions that draw their order: the plan. -/
import Derived.Test.YtnlfcoojlgdgaaaDoorGXExec
import Derived.Orders
namespace GX
open Go

/-! what must come ahead -/
theorem lor_eq (a b : Nat) : Nat.lor a b = a ||| b := rfl
theorem maskOf_fold (acc : List Nat) (j : Nat) : ∀ (l : List Edge) (m : Nat),
    Nat.testBit (l.foldl (fun m e => bif Region.binds .any e then Nat.lor (Nat.lor m (2 ^ e.on)) (acc.getD e.on 0) else m) m) j = true ↔
      Nat.testBit m j = true ∨ ∃ e ∈ l, Region.binds .any e = true ∧ (j = e.on ∨ Nat.testBit (acc.getD e.on 0) j = true)
  | [], m => by simp
  | e :: l, m => by
    rw [List.foldl_cons, maskOf_fold acc j l]
    cases hb : Region.binds .any e with
    | false => simp [hb]
    | true =>
      simp only [cond_true, lor_eq, Nat.testBit_or, Nat.testBit_two_pow, Bool.or_eq_true, decide_eq_true_eq, List.mem_cons, exists_eq_or_imp, hb, true_and]
      constructor
      · rintro (h | h)
        · rcases h with (h | h) | h
          · exact .inl h
          · exact .inr (.inl (.inl h.symm))
          · exact .inr (.inl (.inr h))
        · exact .inr (.inr h)
      · rintro (h | h | h)
        · exact .inl (.inl (.inl h))
        · rcases h with h | h
          · exact .inl (.inl (.inr h.symm))
          · exact .inl (.inr h)
        · exact .inr h
theorem maskOf_iff (acc : List Nat) (o : Oper) (j : Nat) : Nat.testBit (maskOf acc o) j = true ↔ ∃ e ∈ o.after, Region.binds .any e = true ∧ (j = e.on ∨ Nat.testBit (acc.getD e.on 0) j = true) := by
  unfold maskOf
  rw [maskOf_fold]
  simp
theorem masks_spec : ∀ (os : List Oper) (acc : List Nat), (∃ tl, masks os acc = acc ++ tl) ∧ ∀ i o, os[i]? = some o → (masks os acc).getD (acc.length + i) 0 = maskOf ((masks os acc).take (acc.length + i)) o
  | [], acc => ⟨⟨[], by simp [masks]⟩, fun i o h => by simp at h⟩
  | o :: os, acc => by
    obtain ⟨⟨tl, h1⟩, h2⟩ := masks_spec os (acc ++ [maskOf acc o])
    simp only [masks]
    refine ⟨⟨maskOf acc o :: tl, by rw [h1]; simp⟩, ?_⟩
    intro i o' hi
    cases i with
    | zero =>
      simp at hi; subst hi
      rw [h1]
      simp [List.getD_eq_getElem?_getD]
    | succ i =>
      simp at hi
      have := h2 i o' hi
      simp only [List.length_append, List.length_singleton] at this
      rw [show acc.length + (i + 1) = acc.length + 1 + i by omega]
      exact this
theorem inM_iff {L : List Oper} {i : Nat} {o : Oper} (ho : L[i]? = some o) (j : Nat) : inM (masks L []) i j = true ↔ ∃ e ∈ o.after, Region.binds .any e = true ∧ (j = e.on ∨ (e.on < i ∧ inM (masks L []) e.on j = true)) := by
  obtain ⟨_, h2⟩ := masks_spec L []
  have := h2 i o ho
  simp only [List.length_nil, Nat.zero_add] at this
  unfold inM
  rw [this, maskOf_iff]
  constructor
  · rintro ⟨e, h1, h2, h3⟩
    refine ⟨e, h1, h2, h3.imp_right fun h => ?_⟩
    rw [List.getD_eq_getElem?_getD, List.getElem?_take] at h
    split at h
    · rename_i hlt; exact ⟨hlt, by rw [List.getD_eq_getElem?_getD]; exact h⟩
    · simp at h
  · rintro ⟨e, h1, h2, h3⟩
    refine ⟨e, h1, h2, h3.imp_right fun ⟨hlt, h⟩ => ?_⟩
    rw [List.getD_eq_getElem?_getD, List.getElem?_take, if_pos hlt, ← List.getD_eq_getElem?_getD]
    exact h
theorem inM_none {L : List Oper} {i : Nat} (ho : L[i]? = none) (j : Nat) : inM (masks L []) i j = false := by
  obtain ⟨⟨tl, h1⟩, h2⟩ := masks_spec L []
  have hlen : (masks L []).length = L.length := by
    have : ∀ (os : List Oper) (acc : List Nat), (masks os acc).length = acc.length + os.length := by
      intro os
      induction os with
      | nil => intro acc; simp [masks]
      | cons o os ih => intro acc; simp only [masks]; rw [ih]; simp; omega
    have := this L []; simpa using this
  have : L.length ≤ i := by simpa using ho
  unfold inM
  rw [List.getD_eq_getElem?_getD, List.getElem?_eq_none (by omega)]; simp
/-- closed under what must come ahead -/
def DC (L : List Oper) (S : Nat → Prop) : Prop := ∀ i o, L[i]? = some o → S i → ∀ e ∈ o.after, Region.binds .any e = true → S e.on
theorem inM_dc {L : List Oper} {S : Nat → Prop} (hS : DC L S) : ∀ (i : Nat), S i → ∀ j, inM (masks L []) i j = true → S j := by
  intro i
  induction i using Nat.strongRecOn with
  | _ i ih =>
    intro hi j hj
    cases ho : L[i]? with
    | none => rw [inM_none ho] at hj; cases hj
    | some o =>
      obtain ⟨e, h1, h2, h3⟩ := (inM_iff ho j).1 hj
      have hs := hS i o ho hi e h1 h2
      rcases h3 with rfl | ⟨h3, h4⟩
      · exact hs
      · exact ih e.on h3 hs j h4
theorem inM_ready {L : List Oper} {S : Nat → Prop} (hS : DC L S) {i : Nat} {o : Oper} (ho : L[i]? = some o) (h : ∀ e ∈ o.after, Region.binds .any e = true → S e.on) {j : Nat} (hj : inM (masks L []) i j = true) : S j := by
  obtain ⟨e, h1, h2, h3⟩ := (inM_iff ho j).1 hj
  rcases h3 with rfl | ⟨_, h4⟩
  · exact h e h1 h2
  · exact inM_dc hS _ (h e h1 h2) j h4
theorem edges_spec : ∀ {os : List Oper} {k : Nat}, edgesOk os k = true → ∀ i o, os[i]? = some o → ∀ e ∈ o.after, Region.binds .any e = true → e.on < k + i
  | [], _, _, i, o, h => by simp at h
  | o :: os, k, hk, i, o', h => by
    simp only [edgesOk, Bool.and_eq_true] at hk
    obtain ⟨h1, h2⟩ := hk
    cases i with
    | zero =>
      simp at h; subst h
      intro e he hb
      have := List.all_eq_true.1 h1 e (by simpa using he)
      simp [hb, nblt] at this
      omega
    | succ i =>
      simp at h
      intro e he hb
      have := edges_spec h2 i o' h e he hb
      omega
theorem inM_lt {L : List Oper} (hE : edgesOk L 0 = true) : ∀ (i j : Nat), inM (masks L []) i j = true → j < i := by
  intro i
  induction i using Nat.strongRecOn with
  | _ i ih =>
    intro j hj
    cases ho : L[i]? with
    | none => rw [inM_none ho] at hj; cases hj
    | some o =>
      obtain ⟨e, h1, h2, h3⟩ := (inM_iff ho j).1 hj
      have hlt := edges_spec hE i o ho e h1 h2
      rcases h3 with rfl | ⟨h3, h4⟩
      · omega
      · have := ih e.on h3 j h4; omega

/-! who writes -/
theorem dstIn_spec : ∀ {os : List Oper} {d : Nat}, dstIn d os = false → ∀ (i : Nat) (o : Oper), os[i]? = some o → o.dst ≠ some d
  | [], _, _, i, o, h => by simp at h
  | o :: os, d, hd, i, o', h => by
    simp only [dstIn, Bool.or_eq_false_iff] at hd
    cases i with
    | zero =>
      simp at h; subst h
      intro hh; rw [hh] at hd; simp at hd
    | succ i => simp at h; exact dstIn_spec hd.2 i o' h
theorem dsts_spec {n : Nat} : ∀ {os : List Oper}, dstsOk n os = true → (∀ (i : Nat) (o : Oper) (d : Nat), os[i]? = some o → o.dst = some d → d < n) ∧ ∀ (i j : Nat) (o o' : Oper) (d : Nat), os[i]? = some o → os[j]? = some o' → o.dst = some d → o'.dst = some d → i = j
  | [], _ => ⟨fun i o d h => by simp at h, fun i j o o' d h _ _ _ => by simp at h⟩
  | o :: os, hk => by
    simp only [dstsOk, Bool.and_eq_true] at hk
    obtain ⟨h1, h2⟩ := hk
    obtain ⟨k1, k2⟩ := dsts_spec h2
    have hd : ∀ d, o.dst = some d → d < n ∧ dstIn d os = false := by
      intro d hd; rw [hd] at h1; simpa [nblt] using h1
    constructor
    · intro i o' d hi hdd
      cases i with
      | zero => simp at hi; subst hi; exact (hd d hdd).1
      | succ i => simp at hi; exact k1 i o' d hi hdd
    · intro i j a b d hi hj ha hb
      cases i with
      | zero =>
        simp at hi; subst hi
        cases j with
        | zero => rfl
        | succ j => simp at hj; exact absurd hb (dstIn_spec (hd d ha).2 j b hj)
      | succ i =>
        simp at hi
        cases j with
        | zero => simp at hj; subst hj; exact absurd ha (dstIn_spec (hd d hb).2 i a hi)
        | succ j => simp at hj; rw [k2 i j a b d hi hj ha hb]
theorem writer_some : ∀ {os : List Oper} {t k j : Nat}, writer t os k = some j → k ≤ j ∧ ∃ o, os[j - k]? = some o ∧ o.dst = some t
  | [], _, _, _, h => by simp [writer] at h
  | o :: os, t, k, j, h => by
    simp only [writer] at h
    split at h
    · rename_i d hd
      rw [nbeq, cond_dec] at h
      split at h
      · rename_i e; subst e; simp at h; subst h; exact ⟨Nat.le_refl _, o, by simp, hd⟩
      · obtain ⟨h1, o', h2, h3⟩ := writer_some h
        refine ⟨by omega, o', ?_, h3⟩
        rw [show j - k = (j - (k + 1)) + 1 by omega]; simpa using h2
    · obtain ⟨h1, o', h2, h3⟩ := writer_some h
      refine ⟨by omega, o', ?_, h3⟩
      rw [show j - k = (j - (k + 1)) + 1 by omega]; simpa using h2
theorem writer_none : ∀ {os : List Oper} {t k : Nat}, writer t os k = none → ∀ (i : Nat) (o : Oper), os[i]? = some o → o.dst ≠ some t
  | [], _, _, _, i, o, h => by simp at h
  | o :: os, t, k, hw, i, o', h => by
    simp only [writer] at hw
    split at hw
    · rename_i d hd
      rw [nbeq, cond_dec] at hw
      split at hw
      · simp at hw
      · rename_i hne
        cases i with
        | zero => simp at h; subst h; rw [hd]; simpa using hne
        | succ i => simp at h; exact writer_none hw i o' h
    · rename_i hd
      cases i with
      | zero => simp at h; subst h; rw [hd]; simp
      | succ i => simp at h; exact writer_none hw i o' h
theorem writer_of {n : Nat} {L : List Oper} (hD : dstsOk n L = true) {i : Nat} {o : Oper} {t : Nat} (hi : L[i]? = some o) (hd : o.dst = some t) : writer t L 0 = some i := by
  cases hw : writer t L 0 with
  | none => exact absurd hd (writer_none hw i o hi)
  | some j =>
    obtain ⟨_, o', h1, h2⟩ := writer_some hw
    simp at h1
    rw [(dsts_spec hD).2 j i o' o t h1 hi h2 hd]

/-! the plan -/
def RK.isLd : RK → Bool
  | .ld _ _ => true
  | _ => false
def R.n1 (r : R) : Nat := match r.k with
  | .ld _ n => n
  | .mk _ => r.n0 + 1
  | _ => r.n0
section
variable (X : X) (rec : Rec) (n : Nat) (L : List Oper) (e : Env) (h0 : Tr AB)
/-- what the plan says of one operation -/
def Fact (recs : List R) (lds : List Nat) (i : Nat) (o : Oper) (r : R) : Prop :=
  ∃ re, renv (masks L []) L recs e n i (looks L o) = some re ∧
    ((wanted L re o = false ∧ r.v = .tup [] ∧ r.k = .val) ∨
     (wanted L re o = true ∧ cls X re o.op = .pure ∧ pureOp X re o.op = some r.v ∧ r.k = .val) ∨
     (wanted L re o = true ∧ r.k = .rd) ∨
     (wanted L re o = true ∧ ∃ b, allocOp X re r.n0 o.op = some (b, r.v) ∧ r.k = .mk b ∧ r.n0 < 1000000000) ∨
     (wanted L re o = true ∧ (∀ j ∈ lds, j < i → inM (masks L []) i j = true) ∧ ∃ S1, oper X rec re { h := gh (masks L []) (lds.filter (· < i)) (inM (masks L []) i) recs 0 (hOf recs h0 (lds.filter (· < i))), n := r.n0 } o.op = some (r.v, S1) ∧ r.k = .ld S1.h S1.n))
end
theorem gh_append {ms lds : List Nat} {p : Nat → Bool} : ∀ {a b : List R} {k : Nat} {h : Tr AB}, (∀ q, k + a.length ≤ q → p q = false) → gh ms lds p (a ++ b) k h = gh ms lds p a k h
  | [], [], k, h, _ => rfl
  | [], r :: b, k, h, hp => by
    simp only [List.nil_append, gh]
    have hk : p k = false := hp k (by simp)
    have : ghStep ms lds p r k h = h := by
      unfold ghStep; split <;> simp [hk]
    rw [this]
    have := gh_append (ms := ms) (lds := lds) (a := []) (b := b) (k := k + 1) (h := h) (fun q hq => hp q (by simp at hq ⊢; omega))
    simpa [gh] using this
  | r :: a, b, k, h, hp => by
    simp only [List.cons_append, gh]
    exact gh_append (fun q hq => hp q (by simp at hq ⊢; omega))
theorem hOf_append {a b : List R} : ∀ {js : List Nat} {h : Tr AB}, (∀ j ∈ js, j < a.length) → hOf (a ++ b) h js = hOf a h js
  | [], h, _ => rfl
  | j :: js, h, hj => by
    simp only [hOf]
    rw [List.getElem?_append_left (hj j (by simp))]
    exact hOf_append (fun q hq => hj q (by simp [hq]))
theorem hOf_snoc {recs : List R} : ∀ {js : List Nat} {j : Nat} {h : Tr AB} {r : R} {h' : Tr AB} {m : Nat}, recs[j]? = some r → r.k = .ld h' m → hOf recs h (js ++ [j]) = h'
  | [], j, h, r, h', m, h1, h2 => by simp [hOf, h1, h2]
  | q :: js, j, h, r, h', m, h1, h2 => by simp only [List.cons_append, hOf]; exact hOf_snoc h1 h2
theorem lookT_append {ms : List Nat} {L : List Oper} {a b : List R} {e : Env} {i t : Nat} (hlt : ∀ j, inM ms i j = true → j < a.length) : lookT ms L (a ++ b) e i t = lookT ms L a e i t := by
  unfold lookT
  split
  · rfl
  · rename_i j hj
    cases hm : inM ms i j with
    | false => simp
    | true => simp only [cond_true]; rw [List.getElem?_append_left (hlt j hm)]
theorem renv_append {ms : List Nat} {L : List Oper} {a b : List R} {e : Env} {n i : Nat} (hlt : ∀ j, inM ms i j = true → j < a.length) : ∀ (ts : List Nat), renv ms L (a ++ b) e n i ts = renv ms L a e n i ts
  | [] => rfl
  | t :: ts => by
    simp only [renv]
    rw [lookT_append hlt, renv_append hlt ts]
theorem plan_good {X : X} {rec : Rec} {n : Nat} {L : List Oper} {e : Env} {h0 : Tr AB} (hE : edgesOk L 0 = true) :
    ∀ (os : List Oper) (i : Nat) (acc : List R) (lds : List Nat) (h : Tr AB) (N : Nat) (recs : List R) (ldsF : List Nat) (N1 : Nat),
      plan X rec n L (masks L []) e os i acc lds h N = some (recs, ldsF, N1) → L.drop i = os → acc.length = i → (∀ j ∈ lds, j < i) → h = hOf acc h0 lds →
      ∃ tl tlds, recs = acc ++ tl ∧ ldsF = lds ++ tlds ∧ tl.length = os.length ∧ (∀ j ∈ tlds, i ≤ j ∧ j < L.length) ∧ tlds.Pairwise (· < ·) ∧ N ≤ N1 ∧
        (∀ q o r, i ≤ q → L[q]? = some o → recs[q]? = some r → Fact X rec n L e h0 recs ldsF q o r ∧ (r.k.isLd = true ↔ q ∈ ldsF) ∧ N ≤ r.n0 ∧ r.n0 ≤ r.n1 ∧ r.n1 ≤ N1) ∧
        (∀ q q' r r', i ≤ q → q < q' → recs[q]? = some r → recs[q']? = some r' → r.n1 ≤ r'.n0)
  | [], i, acc, lds, h, N, recs, ldsF, N1, hp, hi, ha, hl, hh => by
    simp [plan] at hp
    obtain ⟨rfl, rfl, rfl⟩ := hp
    have hlen : L.length ≤ i := by simpa using hi
    refine ⟨[], [], by simp, by simp, rfl, by simp, List.Pairwise.nil, Nat.le_refl _, ?_, ?_⟩
    · intro q o r h1 h2
      rw [List.getElem?_eq_none (by omega)] at h2; cases h2
    · intro q q' r r' h1 h2 h3 h4
      rw [List.getElem?_eq_none (by omega)] at h4; cases h4
  | o :: os, i, acc, lds, h, N, recs, ldsF, N1, hp, hi, ha, hl, hh => by
    have ho : L[i]? = some o := by
      have := congrArg (·[0]?) hi
      simpa using this
    have hi' : L.drop (i + 1) = os := by rw [← List.drop_drop, hi]; rfl
    have hlt : ∀ j, inM (masks L []) i j = true → j < acc.length := fun j hj => by rw [ha]; exact inM_lt hE i j hj
    -- what is left to say once the record of this operation is there
    have done : ∀ (r : R) (lds' : List Nat) (h' : Tr AB) (re : Env), renv (masks L []) L acc e n i (looks L o) = some re →
        plan X rec n L (masks L []) e os (i + 1) (acc ++ [r]) lds' h' r.n1 = some (recs, ldsF, N1) → r.n0 = N → r.n0 ≤ r.n1 →
        ((r.k.isLd = false ∧ lds' = lds ∧ h' = h) ∨ (r.k.isLd = true ∧ lds' = lds ++ [i] ∧ ∃ m, r.k = .ld h' m)) →
        ((wanted L re o = false ∧ r.v = .tup [] ∧ r.k = .val) ∨
         (wanted L re o = true ∧ cls X re o.op = .pure ∧ pureOp X re o.op = some r.v ∧ r.k = .val) ∨
         (wanted L re o = true ∧ r.k = .rd) ∨
         (wanted L re o = true ∧ ∃ b, allocOp X re r.n0 o.op = some (b, r.v) ∧ r.k = .mk b ∧ r.n0 < 1000000000) ∨
         (wanted L re o = true ∧ (∀ j ∈ lds, inM (masks L []) i j = true) ∧ ∃ S1, oper X rec re { h := gh (masks L []) lds (inM (masks L []) i) acc 0 h, n := r.n0 } o.op = some (r.v, S1) ∧ r.k = .ld S1.h S1.n)) →
        ∃ tl tlds, recs = acc ++ tl ∧ ldsF = lds ++ tlds ∧ tl.length = (o :: os).length ∧ (∀ j ∈ tlds, i ≤ j ∧ j < L.length) ∧ tlds.Pairwise (· < ·) ∧ N ≤ N1 ∧
          (∀ q o r, i ≤ q → L[q]? = some o → recs[q]? = some r → Fact X rec n L e h0 recs ldsF q o r ∧ (r.k.isLd = true ↔ q ∈ ldsF) ∧ N ≤ r.n0 ∧ r.n0 ≤ r.n1 ∧ r.n1 ≤ N1) ∧
          (∀ q q' r r', i ≤ q → q < q' → recs[q]? = some r → recs[q']? = some r' → r.n1 ≤ r'.n0) := by
      intro r lds' h' re hre hpl hn0 hn1 hld hfact
      have hlds' : ∀ j ∈ lds', j < i + 1 := by
        rcases hld with ⟨_, rfl, _⟩ | ⟨_, rfl, _⟩
        · intro j hj; have := hl j hj; omega
        · intro j hj; simp at hj; rcases hj with hj | rfl
          · have := hl j hj; omega
          · omega
      have hh' : h' = hOf (acc ++ [r]) h0 lds' := by
        rcases hld with ⟨_, rfl, rfl⟩ | ⟨_, rfl, m, hm⟩
        · rw [hOf_append (fun j hj => by rw [ha]; exact hl j hj)]; exact hh
        · exact (hOf_snoc (by rw [List.getElem?_append_right (by omega)]; simp [ha]) hm).symm
      obtain ⟨tl, tlds, g1, g2, g3, g4, g5, g6, g7, g8⟩ := plan_good hE os (i + 1) (acc ++ [r]) lds' h' r.n1 recs ldsF N1 hpl hi' (by simp [ha]) hlds' hh'
      have hri : recs[i]? = some r := by rw [g1, List.getElem?_append_left (by simp [ha]), List.getElem?_append_right (by omega)]; simp [ha]
      have hmem : (r.k.isLd = true ↔ i ∈ ldsF) := by
        rw [g2]
        rcases hld with ⟨k1, rfl, _⟩ | ⟨k1, rfl, _⟩
        · simp [k1]
          exact ⟨fun hm => by have := hl i hm; omega, fun hm => by have := (g4 i hm).1; omega⟩
        · simp [k1]
      have hfil : ldsF.filter (· < i) = lds := by
        rw [g2, List.filter_append]
        have e1 : tlds.filter (· < i) = [] := by
          apply List.filter_eq_nil_iff.2
          intro j hj; have := (g4 j hj).1; simp; omega
        have e2 : lds.filter (· < i) = lds := by
          apply List.filter_eq_self.2
          intro j hj; have := hl j hj; simpa using this
        rcases hld with ⟨_, rfl, _⟩ | ⟨_, rfl, _⟩
        · rw [e1, e2]; simp
        · rw [e1, List.filter_append, e2]; simp
      have happ : recs = acc ++ ([r] ++ tl) := by rw [g1, List.append_assoc]
      refine ⟨[r] ++ tl, (match r.k.isLd with | true => [i] | false => []) ++ tlds, happ, ?_, by simp [g3], ?_, ?_, by omega, ?_, ?_⟩
      · rw [g2]
        rcases hld with ⟨k1, rfl, _⟩ | ⟨k1, rfl, _⟩ <;> simp [k1]
      · intro j hj
        have hil : i < L.length := (List.getElem?_eq_some_iff.1 ho).1
        rcases hld with ⟨k1, _⟩ | ⟨k1, _⟩ <;> simp [k1] at hj
        · have := g4 j hj; omega
        · rcases hj with rfl | hj
          · omega
          · have := g4 j hj; omega
      · rcases hld with ⟨k1, _⟩ | ⟨k1, _⟩
        · simpa [k1] using g5
        · simp [k1]; exact ⟨fun j hj => by have := (g4 j hj).1; omega, g5⟩
      · intro q o' r' h1 h2 h3
        by_cases hq : q = i
        · have hq := hq.symm
          subst hq
          rw [ho] at h2; cases h2
          rw [hri] at h3; cases h3
          refine ⟨⟨re, ?_, ?_⟩, hmem, by omega, hn1, g6⟩
          · rw [happ, renv_append hlt]; exact hre
          · rcases hfact with hf | hf | hf | hf | ⟨w1, w2, S1, w3, w4⟩
            · exact .inl hf
            · exact .inr (.inl hf)
            · exact .inr (.inr (.inl hf))
            · exact .inr (.inr (.inr (.inl hf)))
            · refine .inr (.inr (.inr (.inr ⟨w1, ?_, S1, ?_, w4⟩)))
              · intro j hj hji
                refine w2 j ?_
                rw [← hfil]; simp [hj, hji]
              · rw [hfil, happ, gh_append (fun q hq => by
                  cases hm : inM (masks L []) i q with
                  | false => rfl
                  | true => have := hlt q hm; omega), hOf_append (fun j hj => by rw [ha]; exact hl j hj), ← hh]
                exact w3
        · obtain ⟨f1, f2, f3, f4, f5⟩ := g7 q o' r' (by omega) h2 h3
          exact ⟨f1, f2, by omega, f4, f5⟩
      · intro q q' r1 r2 h1 h2 h3 h4
        by_cases hq : q = i
        · have hq := hq.symm
          subst hq
          rw [hri] at h3; cases h3
          have hL2 : q' < recs.length := (List.getElem?_eq_some_iff.1 h4).1
          have hlen : recs.length = L.length := by
            rw [happ]; simp [g3, ha]
            have := congrArg List.length hi
            simp at this
            have : i < L.length := (List.getElem?_eq_some_iff.1 ho).1
            omega
          have : ∃ o2, L[q']? = some o2 := ⟨L[q'], List.getElem?_eq_getElem (by omega)⟩
          obtain ⟨o2, ho2⟩ := this
          exact (g7 q' o2 r2 (by omega) ho2 h4).2.2.1
        · exact g8 q q' r1 r2 (by omega) h2 h3 h4
    simp only [plan] at hp
    split at hp
    · simp at hp
    · rename_i re hre
      cases hw : wanted L re o with
      | false =>
        simp only [hw, cond_false] at hp
        exact done ⟨.tup [], N, .val⟩ lds h re hre hp rfl (Nat.le_refl _) (.inl ⟨rfl, rfl, rfl⟩) (.inl ⟨hw, rfl, rfl⟩)
      | true =>
        simp only [hw, cond_true] at hp
        split at hp
        · rename_i hc
          split at hp
          · simp at hp
          · rename_i v hv
            exact done ⟨v, N, .val⟩ lds h re hre hp rfl (Nat.le_refl _) (.inl ⟨rfl, rfl, rfl⟩) (.inr (.inl ⟨hw, hc, hv, rfl⟩))
        · split at hp
          · simp at hp
          · rename_i v hv
            exact done ⟨v, N, .rd⟩ lds h re hre hp rfl (Nat.le_refl _) (.inl ⟨rfl, rfl, rfl⟩) (.inr (.inr (.inl ⟨hw, rfl⟩)))
        · rw [nblt, cond_dec] at hp
          split at hp
          · rename_i hN
            split at hp
            · simp at hp
            · rename_i b v hv
              exact done ⟨v, N, .mk b⟩ lds h re hre hp rfl (Nat.le_succ _) (.inl ⟨rfl, rfl, rfl⟩) (.inr (.inr (.inr (.inl ⟨hw, b, hv, rfl, hN⟩))))
          · simp at hp
        · cases hall : lds.all (fun j => inM (masks L []) i j) with
          | false => simp [hall] at hp
          | true =>
            simp only [hall, cond_true] at hp
            split at hp
            · simp at hp
            · rename_i v S1 hop
              have hmono := oper_n hop
              exact done ⟨v, N, .ld S1.h S1.n⟩ (lds ++ [i]) S1.h re hre hp rfl hmono (.inr ⟨rfl, rfl, S1.n, rfl⟩) (.inr (.inr (.inr (.inr ⟨hw, fun j hj => by simpa using List.all_eq_true.1 hall j hj, S1, hop, rfl⟩))))
end GX
