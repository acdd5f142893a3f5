/- GX: regions that draw their order: what holds at each point of each order. -/
import Derived.Test.YtnlfcoojlgdgaaaDoorGXDrawn
namespace GX
open Go

/-! equality of values -/
theorem seq_ok : ∀ {a b : List Nat}, seq a b = true → a = b
  | [], [], _ => rfl
  | [], _ :: _, h => by simp [seq] at h
  | _ :: _, [], h => by simp [seq] at h
  | x :: a, y :: b, h => by
    simp only [seq, nbeq, cond_dec] at h
    split at h
    · rename_i e; rw [e, seq_ok h]
    · simp at h
mutual
theorem veq_ok : ∀ {a b : AV}, veq a b = true → a = b
  | .bool a, b, h => by cases b <;> simp [veq] at h; rw [h]
  | .int k a, b, h => by cases b <;> simp [veq] at h; rw [h.1]; have := h.2; rw [ieq_eq] at this; simp at this; rw [this]
  | .str a, b, h => by cases b <;> simp [veq] at h; rw [seq_ok h]
  | .ptr a c, b, h => by cases b <;> simp [veq, nbeq] at h; rw [h.1, h.2]
  | .nilp, b, h => by cases b <;> simp [veq] at h; rfl
  | .slice a1 b1 c1 k, b, h => by
    cases b with
    | slice a2 b2 c2 k2 =>
      cases k <;> cases k2 <;> simp [veq, nbeq] at h
      · obtain ⟨⟨⟨h1, h2⟩, h3⟩, h4⟩ := h; rw [h1, h2, h3, h4]
      · obtain ⟨⟨⟨h1, h2⟩, h3⟩, h4⟩ := h; rw [h1, h2, h3, h4]
    | _ => cases k <;> simp [veq] at h
  | .emp, b, h => by cases b <;> simp [veq] at h; rfl
  | .nils, b, h => by cases b <;> simp [veq] at h; rfl
  | .map a, b, h => by cases b <;> simp [veq, nbeq] at h; rw [h]
  | .nilm, b, h => by cases b <;> simp [veq] at h; rfl
  | .func f a1 a2, b, h => by
    cases b with
    | func f' b1 b2 =>
      cases f <;> cases f' <;> simp [veq, nbeq] at h
      obtain ⟨⟨h1, h2⟩, h3⟩ := h; rw [h1, veqs_ok h2, veqs_ok h3]
    | _ => cases f <;> simp [veq] at h
  | .nilf, b, h => by cases b <;> simp [veq] at h; rfl
  | .iface t a, b, h => by cases b <;> simp [veq, nbeq] at h; rw [h.1, veq_ok h.2]
  | .nili, b, h => by cases b <;> simp [veq] at h; rfl
  | .agg a, b, h => by cases b <;> simp [veq] at h; rw [veqs_ok h]
  | .tup a, b, h => by cases b <;> simp [veq] at h; rw [veqs_ok h]
  | .sym k i, b, h => by cases b <;> simp [veq, nbeq] at h; rw [h.1, h.2]
  | .rsl a n s, b, h => by cases b <;> simp [veq, nbeq] at h; rw [veqs_ok h.1.1, h.1.2, h.2]
  | .rptr a o, b, h => by cases b <;> simp [veq, nbeq] at h; rw [veqs_ok h.1, h.2]
theorem veqs_ok : ∀ {a b : List AV}, veqs a b = true → a = b
  | [], [], _ => rfl
  | [], _ :: _, h => by simp [veqs] at h
  | _ :: _, [], h => by simp [veqs] at h
  | x :: a, y :: b, h => by
    simp only [veqs, Bool.and_eq_true] at h
    rw [veq_ok h.1, veqs_ok h.2]
end

/-! heaps with made blocks -/
section
variable {ms : List Nat} {lds : List Nat} {p p' : Nat → Bool}
def Unm (ms : List Nat) (lds : List Nat) (k : Nat) : Prop := ∀ j ∈ lds, inM ms j k = false
theorem unm_iff {k : Nat} : lds.all (fun j => !inM ms j k) = true ↔ Unm ms lds k := by
  simp [Unm]
theorem ghStep_eq (r : R) (k : Nat) (h : Tr AB) : (∃ b, r.k = .mk b ∧ p k = true ∧ Unm ms lds k ∧ ghStep ms lds p r k h = Tr.set 40 h r.n0 b) ∨ ((¬ ∃ b, r.k = .mk b ∧ p k = true ∧ Unm ms lds k) ∧ ghStep ms lds p r k h = h) := by
  unfold ghStep
  split
  · rename_i b hb
    by_cases hc : p k = true ∧ Unm ms lds k
    · left
      refine ⟨b, hb, hc.1, hc.2, ?_⟩
      rw [hc.1, unm_iff.2 hc.2]; rfl
    · right
      refine ⟨fun ⟨b', h1, h2⟩ => hc h2, ?_⟩
      have : (p k && lds.all (fun j => !inM ms j k)) = false := by
        rw [Bool.eq_false_iff]; intro h; simp only [Bool.and_eq_true] at h; exact hc ⟨h.1, unm_iff.1 h.2⟩
      rw [this]; rfl
  · rename_i hb
    right
    exact ⟨fun ⟨b', h1, h2⟩ => hb b' h1, rfl⟩
theorem gh_cases : ∀ {recs : List R} {k0 : Nat} {h : Tr AB} (id : Nat), (∀ (k : Nat) (r : R) b, recs[k]? = some r → r.k = .mk b → r.n0 < 1000000000) →
    (gh ms lds p recs k0 h).get id = h.get id ∨ ∃ (k : Nat) (r : R) (b : AB), recs[k]? = some r ∧ r.k = .mk b ∧ p (k0 + k) = true ∧ Unm ms lds (k0 + k) ∧ r.n0 = id ∧ (gh ms lds p recs k0 h).get id = some b
  | [], _, _, id, _ => .inl rfl
  | r :: rs, k0, h, id, hs => by
    simp only [gh]
    have hs' : ∀ (k : Nat) (r : R) b, rs[k]? = some r → r.k = .mk b → r.n0 < 1000000000 := fun k r' b h1 h2 => hs (k + 1) r' b (by simpa using h1) h2
    rcases gh_cases (recs := rs) (k0 := k0 + 1) (h := ghStep ms lds p r k0 h) id hs' with e | ⟨k, r', b, h1, h2, h3, h4, h5, h6⟩
    · rcases ghStep_eq (ms := ms) (lds := lds) (p := p) r k0 h with ⟨b, g1, g2, g3, g4⟩ | ⟨_, g4⟩
      · rw [e, g4, Tr.get_set 40 h r.n0 b id (by have := hs 0 r b (by simp) g1; omega)]
        by_cases hid : id = r.n0
        · right
          exact ⟨0, r, b, by simp, g1, by simpa using g2, by simpa using g3, hid.symm, by rw [if_pos hid]⟩
        · left; rw [if_neg hid]
      · left; rw [e, g4]
    · right
      exact ⟨k + 1, r', b, by simpa using h1, h2, by rw [show k0 + (k + 1) = k0 + 1 + k by omega]; exact h3, by rw [show k0 + (k + 1) = k0 + 1 + k by omega]; exact h4, h5, h6⟩
theorem gh_miss {recs : List R} {k0 : Nat} {h : Tr AB} {id : Nat} (hs : ∀ (k : Nat) (r : R) b, recs[k]? = some r → r.k = .mk b → r.n0 < 1000000000)
    (hm : ∀ (k : Nat) (r : R) b, recs[k]? = some r → r.k = .mk b → p (k0 + k) = true → Unm ms lds (k0 + k) → r.n0 ≠ id) : (gh ms lds p recs k0 h).get id = h.get id := by
  rcases gh_cases (ms := ms) (lds := lds) (p := p) (k0 := k0) (h := h) id hs with e | ⟨k, r, b, h1, h2, h3, h4, h5, _⟩
  · exact e
  · exact absurd h5 (hm k r b h1 h2 h3 h4)
theorem gh_hit : ∀ {recs : List R} {k0 : Nat} {h : Tr AB} {k : Nat} {r : R} {b : AB}, (∀ (k : Nat) (r : R) b, recs[k]? = some r → r.k = .mk b → r.n0 < 1000000000) →
    (∀ (q q' : Nat) (r r' : R), q < q' → recs[q]? = some r → recs[q']? = some r' → r.n1 ≤ r'.n0) → recs[k]? = some r → r.k = .mk b → p (k0 + k) = true → Unm ms lds (k0 + k) → (gh ms lds p recs k0 h).get r.n0 = some b
  | [], _, _, k, r, b, _, _, h1, _, _, _ => by simp at h1
  | r0 :: rs, k0, h, k, r, b, hs, hc, h1, h2, h3, h4 => by
    simp only [gh]
    have hs' : ∀ (k : Nat) (r : R) b, rs[k]? = some r → r.k = .mk b → r.n0 < 1000000000 := fun k r' b h1 h2 => hs (k + 1) r' b (by simpa using h1) h2
    have hc' : ∀ (q q' : Nat) (r r' : R), q < q' → rs[q]? = some r → rs[q']? = some r' → r.n1 ≤ r'.n0 := fun q q' r r' h a b => hc (q + 1) (q' + 1) r r' (by omega) (by simpa using a) (by simpa using b)
    cases k with
    | zero =>
      simp at h1; subst h1
      have hn1 : r0.n1 = r0.n0 + 1 := by simp [R.n1, h2]
      rw [gh_miss hs' (fun k r' b' a1 a2 _ _ => by have := hc 0 (k + 1) r0 r' (by omega) (by simp) (by simpa using a1); omega)]
      rcases ghStep_eq (ms := ms) (lds := lds) (p := p) r0 k0 h with ⟨b', g1, g2, g3, g4⟩ | ⟨g, _⟩
      · rw [h2] at g1; cases g1
        rw [g4, Tr.get_set 40 h r0.n0 b r0.n0 (by have := hs 0 r0 b (by simp) h2; omega), if_pos rfl]
      · exact absurd ⟨b, h2, by simpa using h3, by simpa using h4⟩ g
    | succ k =>
      simp at h1
      exact gh_hit hs' hc' h1 h2 (by rw [show k0 + 1 + k = k0 + (k + 1) by omega]; exact h3) (by rw [show k0 + 1 + k = k0 + (k + 1) by omega]; exact h4)
theorem gh_congr : ∀ {recs : List R} {k0 : Nat} {h : Tr AB}, (∀ (k : Nat) (r : R) b, recs[k]? = some r → r.k = .mk b → p (k0 + k) = p' (k0 + k)) → gh ms lds p recs k0 h = gh ms lds p' recs k0 h
  | [], _, _, _ => rfl
  | r :: rs, k0, h, hp => by
    simp only [gh]
    have : ghStep ms lds p r k0 h = ghStep ms lds p' r k0 h := by
      unfold ghStep
      split
      · rename_i b hb; rw [show p k0 = p' k0 from by simpa using hp 0 r b (by simp) hb]
      · rfl
    rw [this]
    exact gh_congr (fun k r' b a1 a2 => by
      have := hp (k + 1) r' b (by simpa using a1) a2
      rw [show k0 + 1 + k = k0 + (k + 1) by omega]; exact this)
end
theorem filter_prefix {p : Nat → Bool} : ∀ {l : List Nat}, l.Pairwise (· < ·) → (∀ a b, a ∈ l → b ∈ l → a < b → p b = true → p a = true) → ∃ s, l = l.filter p ++ s
  | [], _, _ => ⟨[], rfl⟩
  | a :: l, hs, hp => by
    rw [List.pairwise_cons] at hs
    obtain ⟨s, hs2⟩ := filter_prefix hs.2 (fun x y hx hy h hpy => hp x y (by simp [hx]) (by simp [hy]) h hpy)
    by_cases ha : p a = true
    · refine ⟨s, ?_⟩
      rw [List.filter_cons_of_pos ha, List.cons_append, ← hs2]
    · have : (a :: l).filter p = [] := by
        apply List.filter_eq_nil_iff.2
        intro b hb hpb
        simp at hb
        rcases hb with rfl | hb
        · exact ha hpb
        · exact ha (hp a b (by simp) (by simp [hb]) (hs.1 b hb) hpb)
      exact ⟨a :: l, by rw [this]; rfl⟩
theorem filter_snoc {i : Nat} : ∀ {l : List Nat}, l.Pairwise (· < ·) → i ∈ l → l.filter (fun j => decide (j < i) || decide (j = i)) = l.filter (fun j => decide (j < i)) ++ [i]
  | [], _, h => by simp at h
  | a :: l, hs, h => by
    rw [List.pairwise_cons] at hs
    simp at h
    by_cases ha : a = i
    · subst ha
      have e1 : l.filter (fun j => decide (j < a) || decide (j = a)) = [] := by
        apply List.filter_eq_nil_iff.2; intro b hb; have := hs.1 b hb; simp; omega
      have e2 : l.filter (fun j => decide (j < a)) = [] := by
        apply List.filter_eq_nil_iff.2; intro b hb; have := hs.1 b hb; simp; omega
      simp [e1, e2]
    · have hi : i ∈ l := by rcases h with h | h; exact absurd h.symm ha; exact h
      have hlt : a < i := hs.1 i hi
      have := filter_snoc hs.2 hi
      simp [hlt, this]
theorem rdOk_spec {X : X} {ops : List Oper} {ms : List Nat} {recs : List R} {h0 : Tr AB} {re : Env} {i : Nat} {op : Op} {v : AV} {lds : List Nat} : ∀ {js pf : List Nat}, rdOk X ops ms recs h0 re i op v lds pf js = true →
    ∀ s t, js = s ++ t → rdOk.rd1 X ms recs h0 re i op v lds (pf ++ s) = true
  | [], pf, h, s, t, e => by
    have : s = [] := by
      cases s with
      | nil => rfl
      | cons q s => simp at e
    subst this
    rw [List.append_nil]
    unfold rdOk at h
    exact h
  | j :: js, pf, h, s, t, e => by
    simp only [rdOk, Bool.and_eq_true] at h
    cases s with
    | nil => rw [List.append_nil]; exact h.1
    | cons q s =>
      simp at e; obtain ⟨rfl, e⟩ := e
      have := rdOk_spec h.2 s t e
      rw [List.append_assoc] at this
      exact this
theorem rdsOk_spec {X : X} {n : Nat} {ops : List Oper} {ms : List Nat} {recs : List R} {e : Env} {h0 : Tr AB} {lds : List Nat} : ∀ {os : List Oper} {k : Nat}, rdsOk X n ops ms recs e h0 lds os k = true → ∀ (i : Nat) (o : Oper) (r : R), os[i]? = some o → recs[k + i]? = some r → r.k = .rd →
    ∃ re, renv ms ops recs e n (k + i) (looks ops o) = some re ∧ rdOk X ops ms recs h0 re (k + i) o.op r.v lds [] lds = true
  | [], _, _, i, o, r, h, _, _ => by simp at h
  | o :: os, k, hk, i, o', r, h1, h2, h3 => by
    simp only [rdsOk, Bool.and_eq_true] at hk
    cases i with
    | zero =>
      simp at h1; subst h1
      have hk1 := hk.1
      rw [show recs[k]? = some r from by simpa using h2] at hk1
      dsimp only at hk1
      rw [h3] at hk1
      dsimp only at hk1
      split at hk1
      · rename_i re hre; exact ⟨re, by simpa using hre, by simpa using hk1⟩
      · simp at hk1
    | succ i =>
      simp at h1
      have := rdsOk_spec hk.2 i o' r h1 (by rw [show k + 1 + i = k + (i + 1) by omega]; exact h2) h3
      rw [show k + (i + 1) = k + 1 + i by omega]
      exact this
theorem putAll_length {n : Nat} : ∀ {os : List Oper} {rs : List R} {e e' : Env}, putAll n os rs e = some e' → rs.length = os.length
  | [], [], _, _, _ => rfl
  | [], _ :: _, _, _, h => by simp [putAll] at h
  | _ :: _, [], _, _, h => by simp [putAll] at h
  | o :: os, r :: rs, e, e', h => by
    simp only [putAll] at h
    split at h
    · simp at h
    · simp [putAll_length h]
/-- a temporary at the end -/
theorem putAll_at {n : Nat} (hn : n < 1000001) : ∀ {os : List Oper} {rs : List R} {e e' : Env}, putAll n os rs e = some e' → (∀ (i j : Nat) (o o' : Oper) (d : Nat), os[i]? = some o → os[j]? = some o' → o.dst = some d → o'.dst = some d → i = j) → ∀ t,
    (∀ (j : Nat) (o : Oper) (r : R), os[j]? = some o → o.dst = some t → rs[j]? = some r → e'.at t = r.v) ∧ ((∀ (j : Nat) (o : Oper), os[j]? = some o → o.dst ≠ some t) → e'.at t = e.at t)
  | [], [], e, e', h, _, t => by simp [putAll] at h; subst h; exact ⟨fun j o r h => by simp at h, fun _ => rfl⟩
  | [], _ :: _, _, _, h, _, _ => by simp [putAll] at h
  | _ :: _, [], _, _, h, _, _ => by simp [putAll] at h
  | o :: os, r :: rs, e, e', h, hD, t => by
    simp only [putAll] at h
    split at h
    · simp at h
    · rename_i e1 he1
      have hD' : ∀ (i j : Nat) (o o' : Oper) (d : Nat), os[i]? = some o → os[j]? = some o' → o.dst = some d → o'.dst = some d → i = j := fun i j a b d h1 h2 h3 h4 => by
        have := hD (i + 1) (j + 1) a b d (by simpa using h1) (by simpa using h2) h3 h4; omega
      obtain ⟨k1, k2⟩ := putAll_at hn h hD' t
      have hat : e1.at t = if o.dst = some t then r.v else e.at t := by
        cases hd : o.dst with
        | none => rw [hd] at he1; simp [setDst] at he1; subst he1; simp
        | some d =>
          rw [hd] at he1
          simp only [setDst, nblt, cond_dec] at he1
          split at he1
          · simp at he1; subst he1
            rw [Env.at_put _ _ _ _ (by omega)]
            by_cases htd : t = d
            · subst htd; simp
            · simp [htd, Ne.symm htd]
          · simp at he1
      constructor
      · intro j o' r' h1 h2 h3
        cases j with
        | zero =>
          simp at h1 h3; subst h1; subst h3
          rw [k2 (fun j o' hj hd => by have := hD 0 (j + 1) o o' t (by simp) (by simpa using hj) h2 hd; omega), hat, if_pos h2]
        | succ j => simp at h1 h3; exact k1 j o' r' h1 h2 h3
      · intro hn'
        rw [k2 (fun j o' hj => hn' (j + 1) o' (by simpa using hj)), hat, if_neg (hn' 0 o (by simp))]
end GX
