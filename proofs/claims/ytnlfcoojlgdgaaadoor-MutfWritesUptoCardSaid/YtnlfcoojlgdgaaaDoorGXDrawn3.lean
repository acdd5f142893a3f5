/- GX: regions that draw their order: every order comes to the same. -/
import Derived.Test.YtnlfcoojlgdgaaaDoorGXDrawn2
namespace GX
open Go

theorem Ext.comp {φ φ' φ'' : Phi} {h h' h'' : Tr AB} {n m : Nat} {w w' w'' : World}
    (a : Ext φ h n w φ' h' m w') (b : Ext φ' h' n w' φ'' h'' m w'')
    (fr : ∀ id, n ≤ id → id < m → φ id = none) : Ext φ h n w φ'' h'' m w'' := by
  have old : ∀ id x l, h'.get id = some x → φ' id = some l → w.heap.size ≤ l.blk ∨ ∃ id0 b l0, h.get id0 = some b ∧ φ id0 = some l0 ∧ l0.blk = l.blk := by
    intro id x l e f
    rcases a.new id with g | ⟨_, _, g⟩
    · rw [g] at f
      rcases a.dom id x e with ⟨b0, hb⟩ | ⟨h1, h2⟩
      · exact .inr ⟨id, b0, l, hb, f, rfl⟩
      · rw [fr id h1 h2] at f; cases f
    · exact g l f
  refine ⟨a.le, a.sub.trans b.sub, ?_, ?_, Nat.le_trans a.size b.size, ?_, b.os.trans a.os, b.tape.trans a.tape, b.output.trans a.output⟩
  · intro id
    rcases b.new id with g | ⟨h1, h2, g⟩
    · rcases a.new id with k | ⟨h1, h2, k⟩
      · exact .inl (g.trans k)
      · exact .inr ⟨h1, h2, fun l e => k l (g ▸ e)⟩
    · refine .inr ⟨h1, h2, fun l e => ?_⟩
      rcases g l e with k | ⟨id0, b0, l0, e0, f0, k⟩
      · exact .inl (Nat.le_trans a.size k)
      · rw [← k]; exact old id0 b0 l0 e0 f0
  · intro id x e
    rcases b.dom id x e with ⟨b0, h0⟩ | ⟨h1, h2⟩
    · rcases a.dom id b0 h0 with k | ⟨h1, h2⟩
      · exact .inl k
      · exact .inr ⟨h1, h2⟩
    · exact .inr ⟨h1, h2⟩
  · intro k hk hn
    rw [b.frame k (Nat.lt_of_lt_of_le hk a.size) ?_, a.frame k hk hn]
    intro id x l e f hb
    rcases old id x l e f with g | ⟨id0, b0, l0, e0, f0, g⟩
    · omega
    · exact hn id0 b0 l0 e0 f0 (g.trans hb)

section
variable {P : Program} {X : X} {rec : Rec} {n : Nat} {L : List Oper} {e : Env} {S : St} {recs : List R} {lds : List Nat} {N1 : Nat} {φ0 : Phi} {w0 : World}

structure DF (X : _root_.GX.X) (rec : Rec) (n : Nat) (L : List Oper) (e : Env) (S : St) (recs : List R) (lds : List Nat) (N1 : Nat) : Prop where
  hE : edgesOk L 0 = true
  hD : dstsOk n L = true
  hS : noSelect L = true
  hlen : recs.length = L.length
  hn : n < 1000001
  hle : S.n ≤ N1
  hf : ∀ (i : Nat) (o : Oper) (r : R), L[i]? = some o → recs[i]? = some r → Fact X rec n L e S.h recs lds i o r ∧ (r.k.isLd = true ↔ i ∈ lds) ∧ S.n ≤ r.n0 ∧ r.n0 ≤ r.n1 ∧ r.n1 ≤ N1
  hc : ∀ (q q' : Nat) (r r' : R), q < q' → recs[q]? = some r → recs[q']? = some r' → r.n1 ≤ r'.n0
  hsort : lds.Pairwise (· < ·)
  hlt : ∀ j ∈ lds, j < L.length
  hrd : rdsOk X n L (masks L []) recs e S.h lds L 0 = true
noncomputable def envAt (L : List Oper) (recs : List R) (e : Env) (ls : Nat → Bool) (t : Nat) : AV :=
  match writer t L 0 with
  | some j => bif ls j then (match recs[j]? with | some r => r.v | none => .tup []) else e.at t
  | none => e.at t
noncomputable def TL (L : List Oper) (recs : List R) (lds : List Nat) (h0 : Tr AB) (ls : Nat → Bool) : Tr AB :=
  gh (masks L []) (lds.filter ls) ls recs 0 (hOf recs h0 (lds.filter ls))
structure Inv [Val] (φ0 : Phi) (w0 : World) (n : Nat) (L : List Oper) (e : Env) (S : St) (recs : List R) (lds : List Nat) (N1 : Nat) (ls : Nat → Bool) (a : Act) (w : World) (φ : Phi) : Prop where
  dc : DC L (fun i => ls i = true)
  size : a.tmps.size = n
  env : ∀ t, vrel φ (envAt L recs e ls t) (a.tmps.getD t undef)
  def_ : a.defers = []
  wr : wrel φ (TL L recs lds S.h ls) w
  ext : Ext φ0 S.h S.n w0 φ (TL L recs lds S.h ls) N1 w
  fresh : ∀ (i : Nat) (r : R), ls i = false → recs[i]? = some r → ∀ id, r.n0 ≤ id → id < r.n1 → φ id = none
  dom : ∀ id b, (hOf recs S.h (lds.filter ls)).get id = some b → (∃ b0, S.h.get id = some b0) ∨ ∃ (i : Nat) (r : R), ls i = true ∧ recs[i]? = some r ∧ r.n0 ≤ id ∧ id < r.n1 ∧ ((∃ c, r.k = .mk c) → ∃ j ∈ lds, ls j = true ∧ inM (masks L []) j i = true)
def upl (ls : Nat → Bool) (i : Nat) : Nat → Bool := fun k => bif Nat.beq k i then true else ls k
theorem upl_eq (ls : Nat → Bool) (i k : Nat) : upl ls i k = if k = i then true else ls k := by simp [upl, nbeq, cond_dec]
/-- what an operation looks at -/
theorem look_ok [Val] {ls : Nat → Bool} {a : Act} {w : World} {φ : Phi} (I : Inv φ0 w0 n L e S recs lds N1 ls a w φ) {i : Nat} {o : Oper} (ho : L[i]? = some o) (hi : ls i = false) (hr : ∀ ed ∈ o.after, Region.binds .any ed = true → ls ed.on = true) {t : Nat} {v : AV} (h : lookT (masks L []) L recs e i t = some v) : v = envAt L recs e ls t := by
  unfold lookT at h
  unfold envAt
  split at h
  · rename_i hw; rw [hw]; simpa using h.symm
  · rename_i j hw
    rw [hw]
    cases hm : inM (masks L []) i j with
    | true =>
      simp only [hm, cond_true] at h
      have := inM_ready (S := fun q => ls q = true) I.dc ho hr hm
      simp only [this, cond_true]
      split at h
      · rename_i r hrj; rw [hrj]; simpa using h.symm
      · simp at h
    | false =>
      simp only [hm, cond_false] at h
      cases hc : (Nat.beq i j || inM (masks L []) j i) with
      | false => rw [hc] at h; simp at h
      | true =>
        rw [hc] at h
        simp only [cond_true, Option.some.injEq] at h
        have hj : ls j = false := by
          rw [nbeq] at hc
          simp only [Bool.or_eq_true, decide_eq_true_eq] at hc
          rcases hc with rfl | hc
          · exact hi
          · cases hlj : ls j with
            | false => rfl
            | true =>
              have := inM_dc (S := fun q => ls q = true) I.dc j hlj i hc
              rw [hi] at this; cases this
        simp only [hj, cond_false]; exact h.symm
theorem dc_put {ls : Nat → Bool} (hdc : DC L (fun i => ls i = true)) {i : Nat} {o : Oper} (ho : L[i]? = some o) (hr : ∀ ed ∈ o.after, Region.binds .any ed = true → ls ed.on = true) : DC L (fun k => upl ls i k = true) := by
  intro k o' hk hs ed he hb
  rw [upl_eq] at hs ⊢
  by_cases hki : k = i
  · subst hki; rw [ho] at hk; cases hk
    rw [hr ed he hb]; simp
  · rw [if_neg hki] at hs
    rw [hdc k o' hk hs ed he hb]; simp
theorem DF.op_of (F : DF X rec n L e S recs lds N1) {i : Nat} {r : R} (h : recs[i]? = some r) : ∃ o, L[i]? = some o := by
  have hlt := (List.getElem?_eq_some_iff.1 h).1
  exact ⟨_, List.getElem?_eq_getElem (by rw [← F.hlen]; exact hlt)⟩
theorem DF.mkb (F : DF X rec n L e S recs lds N1) (k : Nat) (r : R) (b : AB) (h1 : recs[k]? = some r) (h2 : r.k = .mk b) : r.n0 < 1000000000 := by
  obtain ⟨o, ho⟩ := F.op_of h1
  obtain ⟨re, _, hr⟩ := (F.hf k _ r ho h1).1
  rcases hr with ⟨_, _, h⟩ | ⟨_, _, _, h⟩ | ⟨_, h⟩ | ⟨_, b', _, _, h⟩ | ⟨_, _, S1, _, h⟩
  · rw [h] at h2; cases h2
  · rw [h] at h2; cases h2
  · rw [h] at h2; cases h2
  · exact h
  · rw [h] at h2; cases h2
theorem DF.ld_isLd (F : DF X rec n L e S recs lds N1) {i : Nat} (h : i ∈ lds) (r : R) (hr : recs[i]? = some r) : r.k.isLd = true := by
  obtain ⟨o, ho⟩ := F.op_of hr
  exact (F.hf i o r ho hr).2.1.2 h
/-- a block that is made, and not yet had by a loud operation, is not in the heap behind these -/
theorem DF.none_of [Val] (F : DF X rec n L e S recs lds N1) {ls : Nat → Bool} {a : Act} {w : World} {φ : Phi} (I : Inv φ0 w0 n L e S recs lds N1 ls a w φ) (fr0 : Fresh φ0 S.n N1) (hw0 : wrel φ0 S.h w0) {k : Nat} {r : R} {b : AB} (h1 : recs[k]? = some r) (h2 : r.k = .mk b) (h3 : Unm (masks L []) (lds.filter ls) k) :
    (hOf recs S.h (lds.filter ls)).get r.n0 = none := by
  cases hg : (hOf recs S.h (lds.filter ls)).get r.n0 with
  | none => rfl
  | some x =>
    exfalso
    obtain ⟨o, ho⟩ := F.op_of h1
    obtain ⟨_, _, c1, c2, c3⟩ := F.hf k o r ho h1
    have hn1 : r.n1 = r.n0 + 1 := by simp [R.n1, h2]
    rcases I.dom _ _ hg with ⟨b0, hb0⟩ | ⟨i, r', g1, g2, g3, g4, g5⟩
    · obtain ⟨l, hl⟩ := has_loc hw0 hb0
      rw [fr0 r.n0 c1 (by omega)] at hl; cases hl
    · have : i = k := by
        rcases Nat.lt_trichotomy i k with h | h | h
        · have := F.hc i k r' r h g2 h1; omega
        · exact h
        · have := F.hc k i r r' h h1 g2; omega
      subst this
      rw [h1] at g2; cases g2
      obtain ⟨j, j1, j2, j3⟩ := g5 ⟨b, h2⟩
      have := h3 j (by simp [j1, j2])
      rw [this] at j3; cases j3
/-- less in the heap -/
theorem DF.sub [Val] (F : DF X rec n L e S recs lds N1) {ls : Nat → Bool} {a : Act} {w : World} {φ : Phi} (I : Inv φ0 w0 n L e S recs lds N1 ls a w φ) (fr0 : Fresh φ0 S.n N1) (hw0 : wrel φ0 S.h w0) {p : Nat → Bool} (hp : ∀ k, p k = true → ls k = true) :
    ∀ id x, (gh (masks L []) (lds.filter ls) p recs 0 (hOf recs S.h (lds.filter ls))).get id = some x → (TL L recs lds S.h ls).get id = some x := by
  intro id x hx
  unfold TL
  rcases gh_cases (ms := masks L []) (lds := lds.filter ls) (p := p) (k0 := 0) (h := hOf recs S.h (lds.filter ls)) id F.mkb with he | ⟨k, r, b, h1, h2, h3, h4, h5, h6⟩
  · rw [he] at hx
    rcases gh_cases (ms := masks L []) (lds := lds.filter ls) (p := ls) (k0 := 0) (h := hOf recs S.h (lds.filter ls)) id F.mkb with he2 | ⟨k, r, b, h1, h2, h3, h4, h5, h6⟩
    · rw [he2]; exact hx
    · rw [← h5, F.none_of I fr0 hw0 h1 h2 (by simpa using h4)] at hx; cases hx
  · rw [h6] at hx; cases hx
    subst h5
    exact gh_hit F.mkb F.hc h1 h2 (hp _ h3) h4
theorem DF.renv_at [Val] (F : DF X rec n L e S recs lds N1) {ls : Nat → Bool} {a : Act} {w : World} {φ : Phi} (I : Inv φ0 w0 n L e S recs lds N1 ls a w φ) {i : Nat} {o : Oper} (ho : L[i]? = some o) (hi : ls i = false) (hr : ∀ ed ∈ o.after, Region.binds .any ed = true → ls ed.on = true) :
    ∀ {ts : List Nat} {re : Env}, renv (masks L []) L recs e n i ts = some re → (∀ t ∈ ts, t < n) ∧ ∀ t, re.at t = if t ∈ ts then envAt L recs e ls t else .tup []
  | [], re, h => by simp [renv] at h; subst h; exact ⟨by simp, fun t => by simp [leaf_at]⟩
  | t0 :: ts, re, h => by
    simp only [renv, nblt, cond_dec] at h
    split at h
    · rename_i hlt
      split at h
      · simp at h
      · rename_i v hv
        split at h
        · simp at h
        · rename_i e' he'
          simp at h; subst h
          obtain ⟨k1, k2⟩ := DF.renv_at F I ho hi hr he'
          have hn := F.hn
          refine ⟨fun t ht => by simp at ht; rcases ht with rfl | ht; exact hlt; exact k1 t ht, fun t => ?_⟩
          rw [Env.at_put _ _ _ _ (by omega), k2, look_ok I ho hi hr hv]
          by_cases h1 : t = t0
          · subst h1; simp
          · simp [h1]
    · simp at h

theorem DF.env_put [Val] (F : DF X rec n L e S recs lds N1) {ls : Nat → Bool} {a : Act} {w : World} {φ φ' : Phi} (I : Inv φ0 w0 n L e S recs lds N1 ls a w φ) (hsub : Sub φ φ') {i : Nat} {o : Oper} {r : R} (ho : L[i]? = some o) (hri : recs[i]? = some r) {u : Value} (hu : vrel φ' r.v u) :
    (a.put o.dst u).tmps.size = n ∧ ∀ t, vrel φ' (envAt L recs e (upl ls i) t) ((a.put o.dst u).tmps.getD t undef) := by
  have hsz := I.size
  constructor
  · cases o.dst <;> simp [Act.put, hsz]
  · intro t
    by_cases ht : o.dst = some t
    · have hw := writer_of F.hD ho ht
      have hlt := (dsts_spec F.hD).1 i o t ho ht
      have e1 : envAt L recs e (upl ls i) t = r.v := by
        unfold envAt; rw [hw]; simp [upl_eq, hri]
      rw [e1, ht]
      have : t < a.tmps.size := by omega
      simpa [Act.put, Array.getD_eq_getD_getElem?, Array.getElem?_setIfInBounds, this] using hu
    · have e1 : envAt L recs e (upl ls i) t = envAt L recs e ls t := by
        unfold envAt
        cases hw : writer t L 0 with
        | none => rfl
        | some j =>
          obtain ⟨_, o', h1, h2⟩ := writer_some hw
          simp at h1
          have hji : j ≠ i := by
            intro hji; subst hji; rw [ho] at h1; cases h1; exact ht h2
          simp [upl_eq, hji]
      rw [e1]
      have hv := vrel_mono hsub _ (I.env t)
      cases hd : o.dst with
      | none => exact hv
      | some d =>
        have : d ≠ t := fun h => ht (by rw [hd, h])
        simpa [Act.put, Array.getD_eq_getD_getElem?, Array.getElem?_setIfInBounds, this] using hv
/-- an operation that neither makes nor writes -/
theorem DF.step_val [Val] (F : DF X rec n L e S recs lds N1) {ls : Nat → Bool} {a : Act} {w : World} {φ : Phi} (I : Inv φ0 w0 n L e S recs lds N1 ls a w φ) {i : Nat} {o : Oper} {r : R} (ho : L[i]? = some o) (hri : recs[i]? = some r) (hi : ls i = false) (hr : ∀ ed ∈ o.after, Region.binds .any ed = true → ls ed.on = true)
    (hnl : r.k.isLd = false) (hnm : ∀ b, r.k ≠ .mk b) {u : Value} (hu : vrel φ r.v u) : Inv φ0 w0 n L e S recs lds N1 (upl ls i) (a.put o.dst u) w φ := by
  have hnil : i ∉ lds := fun h => by rw [F.ld_isLd h r hri] at hnl; cases hnl
  have hfil : lds.filter (upl ls i) = lds.filter ls := by
    apply List.filter_congr
    intro j hj
    have : j ≠ i := fun h => hnil (h ▸ hj)
    simp [upl_eq, this]
  have hTL : TL L recs lds S.h (upl ls i) = TL L recs lds S.h ls := by
    unfold TL
    rw [hfil]
    apply gh_congr
    intro k r' b h1 h2
    have : k ≠ i := by
      intro h; subst h; rw [hri] at h1; cases h1; exact hnm b h2
    simp [upl_eq, this]
  obtain ⟨p1, p2⟩ := F.env_put I (Sub.refl φ) ho hri hu
  refine ⟨dc_put I.dc ho hr, p1, p2, ?_, by rw [hTL]; exact I.wr, by rw [hTL]; exact I.ext, ?_, ?_⟩
  · cases o.dst <;> simpa [Act.put] using I.def_
  · intro k r' hk h1
    rw [upl_eq] at hk
    split at hk
    · cases hk
    · exact I.fresh k r' hk h1
  · intro id b hb
    rw [hfil] at hb
    rcases I.dom id b hb with h | ⟨k, r', h1, h2, h3, h4, h5⟩
    · exact .inl h
    · refine .inr ⟨k, r', by rw [upl_eq, h1]; simp, h2, h3, h4, fun hm => ?_⟩
      obtain ⟨j, j1, j2, j3⟩ := h5 hm
      exact ⟨j, j1, by rw [upl_eq, j2]; simp, j3⟩
/-- an operation that makes a block -/
theorem DF.step_mk [Val] (F : DF X rec n L e S recs lds N1) {ls : Nat → Bool} {a : Act} {w : World} {φ : Phi} (I : Inv φ0 w0 n L e S recs lds N1 ls a w φ) (fr0 : Fresh φ0 S.n N1) {i : Nat} {o : Oper} {r : R} {b : AB} (ho : L[i]? = some o) (hri : recs[i]? = some r) (hi : ls i = false) (hr : ∀ ed ∈ o.after, Region.binds .any ed = true → ls ed.on = true)
    (hk : r.k = .mk b) {u : Value} {w' : World} (hm : Made φ w w' r.n0 b r.v u) : ∃ φ', Inv φ0 w0 n L e S recs lds N1 (upl ls i) (a.put o.dst u) w' φ' := by
  have hn1 : r.n1 = r.n0 + 1 := by simp [R.n1, hk]
  have hsm := F.mkb i r b hri hk
  have hfr := I.fresh i r hi hri r.n0 (Nat.le_refl _) (by omega)
  obtain ⟨φ', k1, k2, k3⟩ := new_ok I.wr hsm hfr hm
  obtain ⟨_, _, c1, c2, c3⟩ := F.hf i o r ho hri
  have hnil : i ∉ lds := fun h => by have := F.ld_isLd h r hri; rw [hk] at this; cases this
  have hfil : lds.filter (upl ls i) = lds.filter ls := by
    apply List.filter_congr
    intro j hj
    have : j ≠ i := fun h => hnil (h ▸ hj)
    simp [upl_eq, this]
  have hunm : Unm (masks L []) (lds.filter ls) i := by
    intro j hj
    simp at hj
    cases hm : inM (masks L []) j i with
    | false => rfl
    | true => have := inM_dc (S := fun q => ls q = true) I.dc j hj.2 i hm; rw [hi] at this; cases this
  have hget : ∀ id, (TL L recs lds S.h (upl ls i)).get id = (Tr.set 40 (TL L recs lds S.h ls) r.n0 b).get id := by
    intro id
    rw [Tr.get_set 40 _ _ _ _ (by omega)]
    unfold TL
    rw [hfil]
    split
    · rename_i hid; subst hid
      exact gh_hit F.mkb F.hc hri hk (by simp [upl_eq]) (by simpa using hunm)
    · rename_i hid
      rcases gh_cases (ms := masks L []) (lds := lds.filter ls) (p := upl ls i) (k0 := 0) (h := hOf recs S.h (lds.filter ls)) id F.mkb with he | ⟨k, r', b', h1, h2, h3, h4, h5, h6⟩
      · rcases gh_cases (ms := masks L []) (lds := lds.filter ls) (p := ls) (k0 := 0) (h := hOf recs S.h (lds.filter ls)) id F.mkb with he2 | ⟨k, r', b', h1, h2, h3, h4, h5, h6⟩
        · rw [he, he2]
        · rw [h6]; subst h5
          exact gh_hit F.mkb F.hc h1 h2 (by simp at h3; simp [upl_eq, h3]) h4
      · rw [h6]; subst h5
        have hki : k ≠ i := by intro h; subst h; rw [hri] at h1; cases h1; exact hid rfl
        exact (gh_hit F.mkb F.hc h1 h2 (by simp [upl_eq, hki] at h3; simpa using h3) h4).symm
  have hs1 : ∀ id x, (TL L recs lds S.h (upl ls i)).get id = some x → (Tr.set 40 (TL L recs lds S.h ls) r.n0 b).get id = some x := fun id x h => by rw [← hget]; exact h
  obtain ⟨p1, p2⟩ := F.env_put I k2.sub ho hri k3
  have k2' : Ext φ (TL L recs lds S.h ls) S.n w φ' (TL L recs lds S.h (upl ls i)) N1 w' := by
    have := k2.shrink hs1
    refine ⟨F.hle, this.sub, fun id => ?_, fun id x hx => ?_, this.size, this.frame, this.os, this.tape, this.output⟩
    · rcases this.new id with h | ⟨h1, h2, h3⟩
      · exact .inl h
      · exact .inr ⟨by omega, by omega, h3⟩
    · rcases this.dom id x hx with h | ⟨h1, h2⟩
      · exact .inl h
      · exact .inr ⟨by omega, by omega⟩
  refine ⟨φ', dc_put I.dc ho hr, p1, p2, ?_, wrel_sub hs1 k1, I.ext.comp k2' fr0, ?_, ?_⟩
  · cases o.dst <;> simpa [Act.put] using I.def_
  · intro k r' hk' h1 id h2 h3
    rw [upl_eq] at hk'
    split at hk'
    · cases hk'
    · rename_i hki
      have hf := I.fresh k r' hk' h1 id h2 h3
      rcases k2.new id with h | ⟨h4, h5, _⟩
      · rw [h]; exact hf
      · exfalso
        rcases Nat.lt_trichotomy k i with h | h | h
        · have := F.hc k i r' r h h1 hri; omega
        · exact hki h
        · have := F.hc i k r r' h hri h1; omega
  · intro id x hx
    rw [hfil] at hx
    rcases I.dom id x hx with h | ⟨k, r', h1, h2, h3, h4, h5⟩
    · exact .inl h
    · refine .inr ⟨k, r', by rw [upl_eq, h1]; simp, h2, h3, h4, fun hm => ?_⟩
      obtain ⟨j, j1, j2, j3⟩ := h5 hm
      exact ⟨j, j1, by rw [upl_eq, j2]; simp, j3⟩

theorem DF.chain (F : DF X rec n L e S recs lds N1) {i j : Nat} (hi : i ∈ lds) (hj : j ∈ lds) (h : j < i) : inM (masks L []) i j = true := by
  have hil := F.hlt i hi
  have ho : L[i]? = some L[i] := List.getElem?_eq_getElem hil
  have hri : recs[i]? = some (recs[i]'(by rw [F.hlen]; exact hil)) := List.getElem?_eq_getElem _
  obtain ⟨⟨re, _, hr⟩, hl, _⟩ := F.hf i _ _ ho hri
  have hld := hl.2 hi
  rcases hr with ⟨_, _, h1⟩ | ⟨_, _, _, h1⟩ | ⟨_, h1⟩ | ⟨_, b', _, h1, _⟩ | ⟨_, h2, S1, _, h1⟩
  · rw [h1] at hld; cases hld
  · rw [h1] at hld; cases hld
  · rw [h1] at hld; cases hld
  · rw [h1] at hld; cases hld
  · exact h2 j hj h
/-- the loud operations that have been, when a loud one comes up -/
theorem DF.lds_at (F : DF X rec n L e S recs lds N1) {ls : Nat → Bool} (hdc : DC L (fun i => ls i = true)) {i : Nat} {o : Oper} (ho : L[i]? = some o) (hi : ls i = false) (hr : ∀ ed ∈ o.after, Region.binds .any ed = true → ls ed.on = true)
    (hin : i ∈ lds) : lds.filter ls = lds.filter (fun j => decide (j < i)) ∧ lds.filter (upl ls i) = lds.filter (fun j => decide (j < i)) ++ [i] := by
  have key : ∀ j ∈ lds, ls j = decide (j < i) := by
    intro j hj
    by_cases h : j < i
    · simp only [h, decide_true]
      exact inM_ready (S := fun q => ls q = true) hdc ho hr (F.chain hin hj h)
    · simp only [h, decide_false]
      by_cases hji : j = i
      · rw [hji]; exact hi
      · cases hl : ls j with
        | false => rfl
        | true =>
          have := inM_dc (S := fun q => ls q = true) hdc j hl i (F.chain hj hin (by omega))
          rw [hi] at this; cases this
  constructor
  · exact List.filter_congr key
  · rw [← filter_snoc F.hsort hin]
    apply List.filter_congr
    intro j hj
    rw [upl_eq, key j hj]
    by_cases h : j = i <;> simp [h]
/-- a loud operation -/
theorem DF.step_ld [Val] (F : DF X rec n L e S recs lds N1) {ls : Nat → Bool} {a : Act} {w : World} {φ : Phi} (I : Inv φ0 w0 n L e S recs lds N1 ls a w φ) (fr0 : Fresh φ0 S.n N1) (hw0 : wrel φ0 S.h w0) {i : Nat} {o : Oper} {r : R} {h1 : Tr AB} {m1 : Nat} (ho : L[i]? = some o) (hri : recs[i]? = some r) (hi : ls i = false) (hr : ∀ ed ∈ o.after, Region.binds .any ed = true → ls ed.on = true)
    (hk : r.k = .ld h1 m1) {u : Value} {w' : World} {φ' : Phi} (k3 : vrel φ' r.v u) (k1 : wrel φ' h1 w') (k2 : Ext φ (gh (masks L []) (lds.filter ls) (inM (masks L []) i) recs 0 (hOf recs S.h (lds.filter ls))) r.n0 w φ' h1 m1 w') :
    Inv φ0 w0 n L e S recs lds N1 (upl ls i) (a.put o.dst u) w' φ' := by
  have hn1 : r.n1 = m1 := by simp [R.n1, hk]
  obtain ⟨_, hil, c1, c2, c3⟩ := F.hf i o r ho hri
  have hin : i ∈ lds := hil.1 (by rw [hk]; rfl)
  obtain ⟨q1, q2⟩ := F.lds_at I.dc ho hi hr hin
  have hhof : hOf recs S.h (lds.filter (upl ls i)) = h1 := by rw [q2]; exact hOf_snoc hri hk
  have hpre : ∀ k, inM (masks L []) i k = true → ls k = true := fun k hk => inM_ready (S := fun q => ls q = true) I.dc ho hr hk
  have hsub := F.sub I fr0 hw0 hpre
  -- the made blocks that stay beside
  have beside : ∀ {k : Nat} {r' : R} {b : AB}, recs[k]? = some r' → r'.k = .mk b → upl ls i k = true → Unm (masks L []) (lds.filter (upl ls i)) k →
      ls k = true ∧ Unm (masks L []) (lds.filter ls) k ∧ (TL L recs lds S.h ls).get r'.n0 = some b ∧ (gh (masks L []) (lds.filter ls) (inM (masks L []) i) recs 0 (hOf recs S.h (lds.filter ls))).get r'.n0 = none := by
    intro k r' b g1 g2 g3 g4
    have hki : k ≠ i := by intro h; subst h; rw [hri] at g1; cases g1; rw [hk] at g2; cases g2
    have g3' : ls k = true := by simpa [upl_eq, hki] using g3
    have g4' : Unm (masks L []) (lds.filter ls) k := by
      intro j hj; apply g4; rw [q2]; rw [q1] at hj; simp at hj ⊢; exact .inl hj
    have g5 : inM (masks L []) i k = false := g4 i (by rw [q2]; simp)
    refine ⟨g3', g4', gh_hit F.mkb F.hc g1 g2 (by simpa using g3') (by simpa using g4'), ?_⟩
    rw [gh_miss F.mkb (fun k2 r2 b2 a1 a2 a3 a4 hid => ?_)]
    · exact F.none_of I fr0 hw0 g1 g2 g4'
    · have e2 : r2.n1 = r2.n0 + 1 := by simp [R.n1, a2]
      have e3 : r'.n1 = r'.n0 + 1 := by simp [R.n1, g2]
      have : k2 = k := by
        rcases Nat.lt_trichotomy k2 k with h | h | h
        · have := F.hc k2 k r2 r' h a1 g1; omega
        · exact h
        · have := F.hc k k2 r' r2 h g1 a1; omega
      subst this
      simp at a3; rw [g5] at a3; cases a3
  have hT : ∀ id x, (TL L recs lds S.h (upl ls i)).get id = some x → h1.get id = some x ∨ ((TL L recs lds S.h ls).get id = some x ∧ (gh (masks L []) (lds.filter ls) (inM (masks L []) i) recs 0 (hOf recs S.h (lds.filter ls))).get id = none) := by
    intro id x hx
    unfold TL at hx
    rcases gh_cases (ms := masks L []) (lds := lds.filter (upl ls i)) (p := upl ls i) (k0 := 0) (h := hOf recs S.h (lds.filter (upl ls i))) id F.mkb with he | ⟨k, r', b, g1, g2, g3, g4, g5, g6⟩
    · left; rw [← hhof, ← he]; exact hx
    · right
      rw [g6] at hx; cases hx
      obtain ⟨_, _, h3, h4⟩ := beside g1 g2 (by simpa using g3) (by simpa using g4)
      subst g5
      exact ⟨h3, h4⟩
  -- a block that stays beside: where it lies
  have hbes : ∀ {id : Nat} {x : AB}, (TL L recs lds S.h ls).get id = some x → (gh (masks L []) (lds.filter ls) (inM (masks L []) i) recs 0 (hOf recs S.h (lds.filter ls))).get id = none → ∃ l ob, φ id = some l ∧ φ' id = some l ∧ w.heap[l.blk]? = some ob ∧ w'.heap[l.blk]? = some ob ∧ brel φ x l ob ∧ l.blk < w.heap.size ∧
      ∀ id2 y l2, (gh (masks L []) (lds.filter ls) (inM (masks L []) i) recs 0 (hOf recs S.h (lds.filter ls))).get id2 = some y → φ id2 = some l2 → l2.blk ≠ l.blk := by
    intro id x h2 h3
    obtain ⟨l, ob, b1, b2, b3⟩ := I.wr.blk id x h2
    have hne : ∀ id2 y l2, (gh (masks L []) (lds.filter ls) (inM (masks L []) i) recs 0 (hOf recs S.h (lds.filter ls))).get id2 = some y → φ id2 = some l2 → l2.blk ≠ l.blk := by
      intro id2 y l2 hy hl2 heq
      have := I.wr.inj id2 id y x l2 l (hsub _ _ hy) h2 hl2 b1 heq
      subst this
      rw [h3] at hy; cases hy
    have hlt := (Array.getElem?_eq_some_iff.1 b2).1
    exact ⟨l, ob, b1, k2.sub _ _ b1, b2, by rw [k2.frame l.blk hlt hne]; exact b2, b3, hlt, hne⟩
  have hwr : wrel φ' (TL L recs lds S.h (upl ls i)) w' := by
    refine ⟨?_, ?_, ?_, ?_⟩
    · intro id x hx
      rcases hT id x hx with h | ⟨h2, h3⟩
      · exact k1.blk id x h
      · obtain ⟨l, ob, b1, b2, b3, b4, b5, _⟩ := hbes h2 h3
        exact ⟨l, ob, b2, b4, brel_mono k2.sub b5⟩
    · have mixed : ∀ {id1 id2 : Nat} {x y : AB} {l1 l2 : Loc}, h1.get id1 = some x → (TL L recs lds S.h ls).get id2 = some y → (gh (masks L []) (lds.filter ls) (inM (masks L []) i) recs 0 (hOf recs S.h (lds.filter ls))).get id2 = none → φ' id1 = some l1 → φ' id2 = some l2 → l1.blk = l2.blk → False := by
        intro id1 id2 x y l1 l2 a1 a2 a3 a4 a5 a6
        obtain ⟨l, ob, b1, b2, b3, b4, b5, b6, b7⟩ := hbes a2 a3
        rw [a5] at b2; cases b2
        rcases k2.new id1 with h | ⟨h2, h3, h4⟩
        · rw [a4] at h
          rcases k2.dom id1 x a1 with ⟨y0, hy0⟩ | ⟨d1, d2⟩
          · exact b7 id1 y0 l1 hy0 h.symm a6
          · have := I.fresh i r hi hri id1 d1 (by omega)
            rw [this] at h; cases h
        · rcases h4 l1 a4 with h5 | ⟨id0, y0, l0, e1, e2, e3⟩
          · omega
          · exact b7 id0 y0 l0 e1 e2 (e3.trans a6)
      intro id1 id2 x y l1 l2 a1 a2 a3 a4 a5
      rcases hT id1 x a1 with g1 | ⟨g1, g1'⟩
      · rcases hT id2 y a2 with g2 | ⟨g2, g2'⟩
        · exact k1.inj id1 id2 x y l1 l2 g1 g2 a3 a4 a5
        · exact (mixed g1 g2 g2' a3 a4 a5).elim
      · rcases hT id2 y a2 with g2 | ⟨g2, g2'⟩
        · exact (mixed g2 g1 g1' a4 a3 a5.symm).elim
        · obtain ⟨l, ob, b1, b2, _⟩ := hbes g1 g1'
          obtain ⟨l', ob', b1', b2', _⟩ := hbes g2 g2'
          rw [a3] at b2; cases b2
          rw [a4] at b2'; cases b2'
          exact I.wr.inj id1 id2 x y _ _ g1 g2 b1 b1' a5
    · intro id x hx
      rcases hT id x hx with h | ⟨h2, _⟩
      · exact k1.small id x h
      · exact I.wr.small id x h2
    · intro g o ho
      refine ⟨(k1.ro g o ho).1, fun id x l hx hl => ?_⟩
      rcases hT id x hx with h | ⟨h2, h3⟩
      · exact (k1.ro g o ho).2 id x l h hl
      · obtain ⟨l0, _, b1, b2, _⟩ := hbes h2 h3
        rw [hl] at b2; cases b2
        exact (I.wr.ro g o ho).2 id x l h2 b1
  have hext : Ext φ (TL L recs lds S.h ls) S.n w φ' (TL L recs lds S.h (upl ls i)) N1 w' := by
    refine ⟨F.hle, k2.sub, ?_, ?_, k2.size, ?_, k2.os, k2.tape, k2.output⟩
    · intro id
      rcases k2.new id with h | ⟨h2, h3, h4⟩
      · exact .inl h
      · refine .inr ⟨by omega, by omega, fun l hl => ?_⟩
        rcases h4 l hl with h5 | ⟨id0, y0, l0, e1, e2, e3⟩
        · exact .inl h5
        · exact .inr ⟨id0, y0, l0, hsub _ _ e1, e2, e3⟩
    · intro id x hx
      rcases hT id x hx with h | ⟨h2, _⟩
      · rcases k2.dom id x h with ⟨y0, hy0⟩ | ⟨d1, d2⟩
        · exact .inl ⟨y0, hsub _ _ hy0⟩
        · exact .inr ⟨by omega, by omega⟩
      · exact .inl ⟨x, h2⟩
    · intro k hk' hne
      exact k2.frame k hk' (fun id y l hy hl => hne id y l (hsub _ _ hy) hl)
  obtain ⟨p1, p2⟩ := F.env_put I k2.sub ho hri k3
  refine ⟨dc_put I.dc ho hr, p1, p2, ?_, hwr, I.ext.comp hext fr0, ?_, ?_⟩
  · cases o.dst <;> simpa [Act.put] using I.def_
  · intro k r' hk' g1 id h2 h3
    rw [upl_eq] at hk'
    split at hk'
    · cases hk'
    · rename_i hki
      have hf := I.fresh k r' hk' g1 id h2 h3
      rcases k2.new id with h | ⟨h4, h5, _⟩
      · rw [h]; exact hf
      · exfalso
        rcases Nat.lt_trichotomy k i with h | h | h
        · have := F.hc k i r' r h g1 hri; omega
        · exact hki h
        · have := F.hc i k r r' h hri g1; omega
  · intro id x hx
    rw [hhof] at hx
    rcases k2.dom id x hx with ⟨y0, hy0⟩ | ⟨d1, d2⟩
    · rcases gh_cases (ms := masks L []) (lds := lds.filter ls) (p := inM (masks L []) i) (k0 := 0) (h := hOf recs S.h (lds.filter ls)) id F.mkb with he | ⟨k, r', b, g1, g2, g3, g4, g5, g6⟩
      · rw [he] at hy0
        rcases I.dom id y0 hy0 with h | ⟨k, r', h1, h2, h3, h4, h5⟩
        · exact .inl h
        · refine .inr ⟨k, r', by rw [upl_eq, h1]; simp, h2, h3, h4, fun hm => ?_⟩
          obtain ⟨j, j1, j2, j3⟩ := h5 hm
          exact ⟨j, j1, by rw [upl_eq, j2]; simp, j3⟩
      · have hn2 : r'.n1 = r'.n0 + 1 := by simp [R.n1, g2]
        simp at g3
        refine .inr ⟨k, r', by rw [upl_eq, hpre k g3]; simp, g1, by omega, by omega, fun _ => ⟨i, hin, by simp [upl_eq], g3⟩⟩
    · exact .inr ⟨i, r, by simp [upl_eq], hri, d1, by omega, fun ⟨c, hc⟩ => by rw [hk] at hc; cases hc⟩
end
end GX
