/- GX: the abstract heap and the world; what a step may change. -/
import Derived.Test.YtnlfcoojlgdgaaaDoorGXRel
namespace GX
open Go

def mrel [Val] (φ : Phi) : List (AV × AV × Nat) → List MapEntry → Prop
  | [], l => l = []
  | (k, v, b) :: es, l => ∃ e l', l = e :: l' ∧ vrel φ k e.key ∧ vrel φ v e.val ∧ e.born = b ∧ mrel φ es l'
theorem mrel_mono [Val] {φ φ' : Phi} (h : Sub φ φ') : ∀ (es : List (AV × AV × Nat)) {l : List MapEntry}, mrel φ es l → mrel φ' es l
  | [], _, r => r
  | (k, v, b) :: es, _, r => by
    simp only [mrel] at *
    obtain ⟨e, l', rfl, x, y, z, t⟩ := r
    exact ⟨e, l', rfl, vrel_mono h k x, vrel_mono h v y, z, mrel_mono h es t⟩
theorem mrel_length [Val] {φ : Phi} : ∀ {es : List (AV × AV × Nat)} {l : List MapEntry}, mrel φ es l → es.length = l.length
  | [], _, h => by simp only [mrel] at h; simp [h]
  | (_, _, _) :: es, _, h => by simp only [mrel] at h; obtain ⟨e, l', rfl, _, _, _, t⟩ := h; simp [mrel_length t]

/-- a place that is not frozen, nor will be by a mark behind the block's end -/
def free (fz : Nat × Nat) (i : Nat) : Prop := fz.1 = fz.2 ∨ (i < fz.1 ∧ i < fz.2)
theorem free_not {fz : Nat × Nat} {i : Nat} (h : free fz i) : ¬ (fz.1 ≤ i ∧ i < fz.2) := by unfold free at h; omega
def brel [Val] (φ : Phi) (b : AB) (l : Loc) (o : Obj) : Prop :=
  match b with
  | .cells t cs sp => ∃ c fz, o = .cells c t fz ∧ (∀ i, i < c.size → free fz i) ∧ l.tot = c.size ∧
      l.base + cs.length ≤ c.size ∧ (sp = false → l.base + cs.length = c.size ∧ ∀ i, ¬ (fz.1 ≤ i ∧ i < fz.2)) ∧ vrels φ cs ((c.toList.drop l.base).take cs.length)
  | .map es clock => ∃ ea, o = .map ea clock ∧ mrel φ es ea.toList
  | .sit s pos => ∃ b, o = .stringIter b pos ∧ bytes b = s ∧ l.base = 0
theorem brel_mono [Val] {φ φ' : Phi} (h : Sub φ φ') {b : AB} {l : Loc} {o : Obj} (r : brel φ b l o) : brel φ' b l o := by
  cases b with
  | cells t cs sp =>
    simp only [brel] at *
    obtain ⟨c, fz, a1, a2, a3, a4, a5, a6⟩ := r
    exact ⟨c, fz, a1, a2, a3, a4, a5, vrels_mono h cs a6⟩
  | map es clock => simp only [brel] at *; obtain ⟨ea, a1, a2⟩ := r; exact ⟨ea, a1, mrel_mono h es a2⟩
  | sit s pos => exact r

structure wrel [Val] (φ : Phi) (h : Tr AB) (w : World) : Prop where
  blk : ∀ id b, h.get id = some b → ∃ l o, φ id = some l ∧ w.heap[l.blk]? = some o ∧ brel φ b l o
  inj : ∀ id id' b b' l l', h.get id = some b → h.get id' = some b' → φ id = some l → φ id' = some l' → l.blk = l'.blk → id = id'
  small : ∀ id b, h.get id = some b → id < 1000000000
  ro : ∀ g o, Val.ro g = some o → w.heap[g]? = some o ∧ ∀ id b l, h.get id = some b → φ id = some l → l.blk ≠ g

/-- What an execution may have changed. -/
structure Ext (φ : Phi) (h : Tr AB) (n : Nat) (w : World) (φ' : Phi) (h' : Tr AB) (n' : Nat) (w' : World) : Prop where
  le : n ≤ n'
  sub : Sub φ φ'
  new : ∀ id, φ' id = φ id ∨ (n ≤ id ∧ id < n' ∧ ∀ l, φ' id = some l → w.heap.size ≤ l.blk ∨ ∃ id0 b l0, h.get id0 = some b ∧ φ id0 = some l0 ∧ l0.blk = l.blk)
  dom : ∀ id b, h'.get id = some b → (∃ b0, h.get id = some b0) ∨ (n ≤ id ∧ id < n')
  size : w.heap.size ≤ w'.heap.size
  frame : ∀ k, k < w.heap.size → (∀ id b l, h.get id = some b → φ id = some l → l.blk ≠ k) → w'.heap[k]? = w.heap[k]?
  os : w'.os = w.os
  tape : w'.tape = w.tape
  output : w'.output = w.output

theorem Ext.refl (φ : Phi) (h : Tr AB) (n : Nat) (w : World) : Ext φ h n w φ h n w :=
  ⟨Nat.le_refl _, Sub.refl _, fun _ => .inl rfl, fun _ b e => .inl ⟨b, e⟩, Nat.le_refl _, fun _ _ _ => rfl, rfl, rfl, rfl⟩

theorem wrel_lt [Val] {φ : Phi} {h : Tr AB} {w : World} (r : wrel φ h w) {id b l} (e : h.get id = some b) (f : φ id = some l) : l.blk < w.heap.size := by
  obtain ⟨l', o, g, k, _⟩ := r.blk id b e
  rw [f] at g; cases g
  exact (Array.getElem?_eq_some_iff.1 k).1

theorem Ext.trans {φ φ' φ'' : Phi} {h h' h'' : Tr AB} {n n' n'' : Nat} {w w' w'' : World}
    (a : Ext φ h n w φ' h' n' w') (b : Ext φ' h' n' w' φ'' h'' n'' w'')
    (fr : ∀ id, n ≤ id → id < n' → φ id = none) : Ext φ h n w φ'' h'' n'' w'' := by
  have old : ∀ id x l, h'.get id = some x → φ' id = some l → w.heap.size ≤ l.blk ∨ ∃ id0 b l0, h.get id0 = some b ∧ φ id0 = some l0 ∧ l0.blk = l.blk := by
    intro id x l e f
    rcases a.new id with g | ⟨_, _, g⟩
    · rw [g] at f
      rcases a.dom id x e with ⟨b0, hb⟩ | ⟨h1, h2⟩
      · exact .inr ⟨id, b0, l, hb, f, rfl⟩
      · rw [fr id h1 h2] at f; cases f
    · exact g l f
  refine ⟨Nat.le_trans a.le b.le, a.sub.trans b.sub, ?_, ?_, Nat.le_trans a.size b.size, ?_, b.os.trans a.os, b.tape.trans a.tape, b.output.trans a.output⟩
  · intro id
    rcases b.new id with g | ⟨h1, h2, g⟩
    · rcases a.new id with k | ⟨h1, h2, k⟩
      · exact .inl (g.trans k)
      · exact .inr ⟨h1, Nat.lt_of_lt_of_le h2 b.le, fun l e => k l (g ▸ e)⟩
    · refine .inr ⟨Nat.le_trans a.le h1, h2, fun l e => ?_⟩
      rcases g l e with k | ⟨id0, b0, l0, e0, f0, k⟩
      · exact .inl (Nat.le_trans a.size k)
      · rw [← k]; exact old id0 b0 l0 e0 f0
  · intro id x e
    rcases b.dom id x e with ⟨b0, h0⟩ | ⟨h1, h2⟩
    · rcases a.dom id b0 h0 with k | ⟨h1, h2⟩
      · exact .inl k
      · exact .inr ⟨h1, Nat.lt_of_lt_of_le h2 b.le⟩
    · exact .inr ⟨Nat.le_trans a.le h1, h2⟩
  · intro k hk hn
    rw [b.frame k (Nat.lt_of_lt_of_le hk a.size) ?_, a.frame k hk hn]
    intro id x l e f hb
    rcases old id x l e f with g | ⟨id0, b0, l0, e0, f0, g⟩
    · omega
    · exact hn id0 b0 l0 e0 f0 (g.trans hb)

/-- the temporaries -/
structure erel [Val] (φ : Phi) (n : Nat) (e : Env) (tmps : Array Value) : Prop where
  size : tmps.size = n
  small : n < 1000001
  at_ : ∀ t, vrel φ (e.at t) (tmps.getD t undef)
theorem erel.mono [Val] {φ φ' : Phi} {n : Nat} {e : Env} {tmps : Array Value} (r : erel φ n e tmps) (h : Sub φ φ') : erel φ' n e tmps :=
  ⟨r.size, r.small, fun t => vrel_mono h _ (r.at_ t)⟩
theorem Env.at_put (e : Env) (d t : Nat) (v : AV) (h : d < 1000001) : (e.put d v).at t = if t = d then v else e.at t := by
  unfold Env.put Env.at
  rw [Tr.get_set 40 e d v t (by omega)]
  by_cases ht : t = d <;> simp [ht]
theorem vrel_undef [Val] (φ : Phi) : vrel φ (.tup []) undef := ⟨#[], rfl, rfl⟩
theorem erel.put [Val] {φ : Phi} {n : Nat} {e e' : Env} {a : Act} {dst : Option Nat} {v : AV} {u : Value} (r : erel φ n e a.tmps) (hv : vrel φ v u) (h : setDst n e dst v = some e') :
    erel φ n e' (a.put dst u).tmps := by
  cases dst with
  | none => simp [setDst] at h; subst h; exact r
  | some d =>
    simp only [setDst, nblt, cond_dec] at h
    split at h
    · rename_i hd
      simp at h; subst h
      refine ⟨by simp [Act.put, r.size], r.small, fun t => ?_⟩
      have hs := r.small
      rw [Env.at_put _ _ _ _ (by omega)]
      by_cases ht : t = d
      · subst ht
        rw [if_pos rfl]
        have : t < a.tmps.size := by rw [r.size]; exact hd
        simpa [Act.put, Array.getD_eq_getD_getElem?, Array.getElem?_setIfInBounds, this] using hv
      · rw [if_neg ht]
        have := r.at_ t
        simpa [Act.put, Array.getD_eq_getD_getElem?, Array.getElem?_setIfInBounds, Ne.symm ht, ht] using this
    · simp at h
theorem opd_ok [Val] {φ : Phi} {n : Nat} {e : Env} {a : Act} (r : erel φ n e a.tmps) {x : Operand} {v : AV} (h : opd e x = some v) : vrel φ v (a.eval x) := by
  cases x with
  | tmp t => simp [opd] at h; subst h; exact r.at_ t
  | const c => exact ofVal_rel 100 c h
  | global g => simp [opd] at h
  | func f => simp [opd] at h; subst h; exact ⟨#[], #[], rfl, rfl, rfl⟩
theorem opds_ok [Val] {φ : Phi} {n : Nat} {e : Env} {a : Act} (r : erel φ n e a.tmps) : ∀ {l : List Operand} {vs : List AV}, opds e l = some vs → vrels φ vs (l.map a.eval)
  | [], vs, h => by simp [opds] at h; subst h; rfl
  | x :: l, vs, h => by
    simp only [opds] at h
    split at h
    · simp at h
    · rename_i v hv
      split at h
      · simp at h
      · rename_i us hu; simp at h; subst h; exact vrels_cons (opd_ok r hv) (opds_ok r hu)
def prels [Val] (φ : Phi) : List (Nat × AV) → List (Nat × Value) → Prop
  | [], l => l = []
  | (i, a) :: as, l => ∃ v vs, l = (i, v) :: vs ∧ vrel φ a v ∧ prels φ as vs
theorem opparts_ok [Val] {φ : Phi} {n : Nat} {e : Env} {a : Act} (r : erel φ n e a.tmps) : ∀ {l : List (Nat × Operand)} {vs : List (Nat × AV)}, opparts e l = some vs → prels φ vs (l.map fun (i, x) => (i, a.eval x))
  | [], vs, h => by simp [opparts] at h; subst h; rfl
  | (i, x) :: l, vs, h => by
    simp only [opparts] at h
    split at h
    · simp at h
    · rename_i v hv
      split at h
      · simp at h
      · rename_i us hu; simp at h; subst h; exact ⟨_, _, rfl, opd_ok r hv, opparts_ok r hu⟩
theorem optOpd_ok [Val] {φ : Phi} {n : Nat} {e : Env} {a : Act} (r : erel φ n e a.tmps) {x : Option Operand} {v : Option AV} (h : optOpd e x = some v) :
    (x = none ∧ v = none) ∨ ∃ y u, x = some y ∧ v = some u ∧ vrel φ u (a.eval y) := by
  cases x with
  | none => simp [optOpd] at h; exact .inl ⟨rfl, h.symm⟩
  | some y =>
    simp only [optOpd] at h
    split at h
    · simp at h
    · rename_i u hu; simp at h; exact .inr ⟨y, u, rfl, h.symm, opd_ok r hu⟩

/-- the tables -/
structure TIok [Val] (P : Program) (t : Nat) (i : TI) : Prop where
  info : ∃ j, P.info? t = some j ∧ j.size = i.size ∧ j.bytes = i.bytes ∧ ∃ z, j.zero = some z ∧ aggD i.desc = aggV z ∧ ∀ φ, vrels φ i.zero z.cells.toList
  und : P.underlying t = some i.desc
theorem mkTI_ok [Val] {P : Program} {t : Nat} {i : TI} (h : mkTI P t = some i) : TIok P t i := by
  unfold mkTI at h
  split at h
  · simp at h
  · rename_i j hj
    split at h
    · rename_i d z hd hz
      split at h
      · rename_i l hl
        cases hb : (aggD d == aggV z) with
        | false => simp [hb] at h
        | true =>
          simp [hb] at h; subst h
          exact ⟨⟨j, hj, rfl, rfl, z, hz, by simpa using hb, fun φ => ofVals_rel _ _ hl⟩, hd⟩
      · simp at h
    · simp at h
theorem TIok.cells [Val] {P : Program} {t : Nat} {i : TI} (h : TIok P t i) : P.cellsOf t = i.size := by
  obtain ⟨j, a, b, _⟩ := h.info; simp [Program.cellsOf, a, b]
section
variable {P : Program} {t : Nat} {i : TI}
theorem TIok.run_und [Val] (h : TIok P t i) (w : World) : (underlying t).run P w = .ok i.desc w := by
  simp [underlying, h.und]
theorem TIok.run_size [Val] (h : TIok P t i) (w : World) : (Go.sizeOf t).run P w = .ok i.size w := by
  obtain ⟨j, a, b, _⟩ := h.info; simp [Go.sizeOf, typeInfo, a, b]
theorem TIok.run_info [Val] (h : TIok P t i) (w : World) : ∃ j, (typeInfo t).run P w = .ok j w ∧ j.size = i.size ∧ j.bytes = i.bytes := by
  obtain ⟨j, a, b, c, _⟩ := h.info; exact ⟨j, by simp [typeInfo, a], b, c⟩
theorem TIok.run_zero [Val] (h : TIok P t i) (w : World) : ∃ z, (zeroValue t).run P w = .ok z w ∧ aggD i.desc = aggV z ∧ ∀ φ, vrels φ i.zero z.cells.toList := by
  obtain ⟨j, a, _, _, z, hz, k⟩ := h.info; exact ⟨z, by simp [zeroValue, typeInfo, a, hz], k⟩
theorem TIok.run_isAgg [Val] (h : TIok P t i) (w : World) : (isAgg t).run P w = .ok (aggD i.desc) w := by
  simp only [isAgg, Sem.run_bind, h.run_und, Result.andThen_ok]
  cases i.desc <;> rfl
end
end GX
