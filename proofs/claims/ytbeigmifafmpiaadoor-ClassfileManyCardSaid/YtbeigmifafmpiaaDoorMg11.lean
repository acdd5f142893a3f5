/- What the row leans on, part 11: texts one behind the other. No condition. -/
import Derived.Test.YtbeigmifafmpiaaDoorMg10
import Derived.KernelRfl
/- GX: reasoning about runs: regions that draw their order, where reads look at blocks that later loud operations leave alone (blocks made in the region, too). -/


namespace GX
noncomputable section
open Go
def WF (X : X) (n : Nat) (all : List Oper) (D : List Fct) (os : List Oper) (i : Nat) (ks : List Kt) (Q : Ex → Env → St → Prop) (l : L) (S : St) : Prop :=
  ∀ e, Ag l e → ∃ f e' S', RunF X (exec X f) n all D os i e S e' S' ∧ QK X n ks Q .nor e' S'
section
variable {X : X} {n : Nat} {ks : List Kt} {Q : Ex → Env → St → Prop} {l : L} {S : St} {D : List Fct} {all os : List Oper} {o : Oper} {i : Nat}
theorem W_drawnF (D : List Fct) {id : Nat} {ops : Array Oper} (hD : ∀ f ∈ D, f.src = none ∧ f.id < S.n ∧ S.h.get f.id = some f.x) (hs : seqB X n ops.toList = true) (h : WF X n ops.toList D ops.toList 0 ks Q l S) : W X n (.region id ops true) ks Q l S := by
  unfold W
  intro e he
  obtain ⟨f, e1, S1, h1, h2⟩ := h e he
  exact ⟨f + 1, .nor, e1, S1, by show step X (exec X f) n (.region id ops true) e S = _; unfold step; exact drawn_F hD hs h1, h2⟩
theorem WF_nil (h : V X n .nor ks Q l S) : WF X n all D [] i ks Q l S := by
  unfold V at h
  exact fun e he => ⟨0, e, S, ⟨rfl, rfl⟩, h e he⟩
theorem WF_pa {d : Nat} (hg : o.guard = none) (hd : o.dst = some d) (hn : Nat.blt d n = true) (hn' : Nat.blt n 1000001 = true) (hsk : isPA (sk X o.op) = true)
    (h : Ev X l S o.op fun v S' => WF X n all D os (i + 1) ks Q ((d, v) :: l) S') : WF X n all D (o :: os) i ks Q l S := by
  intro e he
  unfold Ev at h
  obtain ⟨f, v, S1, h1, h2, h3⟩ := h e he
  rw [nblt, decide_eq_true_eq] at hn hn'
  obtain ⟨g, e2, S2, h4, h5⟩ := h3 _ (he.put hn' hn)
  have hck := sk_ok h1
  refine ⟨max f g, e2, S2, .inl ⟨wanted_none hg, v, S1, e.put d v, [], oper_le (exec_le (Nat.le_max_left f g)) h1, ?_, h2, fun hc => ?_, fun hc => ?_, fun f hf => (by cases hf), by rw [List.append_nil]; exact RunF_le (exec_le (Nat.le_max_right f g)) h4⟩, h5⟩
  · rw [hd]; unfold setDst; dsimp only; rw [nblt, decide_eq_true hn]; rfl
  · rcases hck with hq | hq
    · rw [hq] at hc; cases hc
    · rw [hq] at hc; rw [hc] at hsk; cases hsk
  · rcases hck with hq | hq
    · rw [hq] at hc; cases hc
    · rw [hq] at hc
      exfalso
      cases hs : sk X o.op <;> rw [hs] at hc hsk <;> first | (cases hc; done) | (cases hsk; done)
/-- an operation that makes a block, which is told -/
theorem WF_al {d : Nat} (hg : o.guard = none) (hd : o.dst = some d) (hn : Nat.blt d n = true) (hn' : Nat.blt n 1000001 = true) (hcl : ∀ e, Ag l e → cls X e o.op = .alloc)
    (h : Ev X l S o.op fun v S' => ∃ x, S'.h.get S.n = some x ∧ S.n < S'.n ∧ WF X n all (D ++ [⟨S.n, x, some i⟩]) os (i + 1) ks Q ((d, v) :: l) S') : WF X n all D (o :: os) i ks Q l S := by
  intro e he
  unfold Ev at h
  obtain ⟨f, v, S1, h1, h2, x, hx, hlt, h3⟩ := h e he
  rw [nblt, decide_eq_true_eq] at hn hn'
  obtain ⟨g, e2, S2, h4, h5⟩ := h3 _ (he.put hn' hn)
  have hc0 := hcl e he
  refine ⟨max f g, e2, S2, .inl ⟨wanted_none hg, v, S1, e.put d v, [⟨S.n, x, some i⟩], oper_le (exec_le (Nat.le_max_left f g)) h1, ?_, h2, fun hc => (by rw [hc0] at hc; cases hc), fun hc => (by rw [hc0] at hc; cases hc), fun f hf => ?_, RunF_le (exec_le (Nat.le_max_right f g)) h4⟩, h5⟩
  · rw [hd]; unfold setDst; dsimp only; rw [nblt, decide_eq_true hn]; rfl
  · rw [List.mem_singleton] at hf; subst hf
    exact ⟨rfl, hlt, hx, .inr ⟨hc0, rfl⟩⟩
/-- a read that is ordered with all loud operations -/
theorem WF_rs {d : Nat} (hg : o.guard = none) (hd : o.dst = some d) (hn : Nat.blt d n = true) (hn' : Nat.blt n 1000001 = true) (hsk : isLC (sk X o.op) = false) (hst : rdStat (masks all []) (all.map (fun o => sk X o.op)) i = true)
    (h : Ev X l S o.op fun v S' => WF X n all D os (i + 1) ks Q ((d, v) :: l) S') : WF X n all D (o :: os) i ks Q l S := by
  intro e he
  unfold Ev at h
  obtain ⟨f, v, S1, h1, h2, h3⟩ := h e he
  rw [nblt, decide_eq_true_eq] at hn hn'
  obtain ⟨g, e2, S2, h4, h5⟩ := h3 _ (he.put hn' hn)
  have hck := sk_ok h1
  refine ⟨max f g, e2, S2, .inl ⟨wanted_none hg, v, S1, e.put d v, [], oper_le (exec_le (Nat.le_max_left f g)) h1, ?_, h2, fun _ => .inl hst, fun hc => ?_, fun f hf => (by cases hf), by rw [List.append_nil]; exact RunF_le (exec_le (Nat.le_max_right f g)) h4⟩, h5⟩
  · rw [hd]; unfold setDst; dsimp only; rw [nblt, decide_eq_true hn]; rfl
  · rcases hck with hq | hq
    · rw [hq] at hc; cases hc
    · rw [hq, hsk] at hc; cases hc
/-- a read that looks at told blocks alone -/
theorem WF_rf {d : Nat} {v : AV} (hg : o.guard = none) (hd : o.dst = some d) (hn : Nat.blt d n = true) (hn' : Nat.blt n 1000001 = true) (hS : ∀ f ∈ D, S.h.get f.id = some f.x)
    (hfp : ∀ e, Ag l e → cls X e o.op = .read ∧ FPD X D (masks all []) i e o.op v) (hvv : veq v v = true) (h : WF X n all D os (i + 1) ks Q ((d, v) :: l) S) : WF X n all D (o :: os) i ks Q l S := by
  intro e he
  obtain ⟨hc, hf⟩ := hfp e he
  rw [nblt, decide_eq_true_eq] at hn hn'
  obtain ⟨g, e2, S2, h4, h5⟩ := h _ (he.put hn' hn)
  refine ⟨g, e2, S2, .inl ⟨wanted_none hg, v, S, e.put d v, [], ?_, ?_, by rw [hc]; exact hvv, fun _ => .inr hf, fun hl => (by rw [hc] at hl; cases hl), fun f hf => (by cases hf), by rw [List.append_nil]; exact h4⟩, h5⟩
  · unfold oper; rw [hc]; dsimp only; rw [hf S.h (fun f h1 _ => hS f h1)]
  · rw [hd]; unfold setDst; dsimp only; rw [nblt, decide_eq_true hn]; rfl
/-- a loud operation, or a call, that leaves the told blocks alone, and may tell more -/
theorem WF_ld {d : Nat} (hg : o.guard = none) (hd : o.dst = some d) (hn : Nat.blt d n = true) (hn' : Nat.blt n 1000001 = true) (hcl : ∀ e, Ag l e → isLC (cls X e o.op) = true)
    (h : Ev X l S o.op fun v S' => (∀ f ∈ D, S'.h.get f.id = some f.x) ∧ ∃ N : List Fct, (∀ f ∈ N, f.src = some i ∧ f.id < S'.n ∧ S'.h.get f.id = some f.x) ∧ WF X n all (D ++ N) os (i + 1) ks Q ((d, v) :: l) S') : WF X n all D (o :: os) i ks Q l S := by
  intro e he
  unfold Ev at h
  obtain ⟨f, v, S1, h1, h2, hB, N, hN, h3⟩ := h e he
  rw [nblt, decide_eq_true_eq] at hn hn'
  obtain ⟨g, e2, S2, h4, h5⟩ := h3 _ (he.put hn' hn)
  have hc0 := hcl e he
  refine ⟨max f g, e2, S2, .inl ⟨wanted_none hg, v, S1, e.put d v, N, oper_le (exec_le (Nat.le_max_left f g)) h1, ?_, h2, fun hc => ?_, fun _ => hB, fun f hf => ⟨(hN f hf).1, (hN f hf).2.1, (hN f hf).2.2, .inl hc0⟩, RunF_le (exec_le (Nat.le_max_right f g)) h4⟩, h5⟩
  · rw [hd]; unfold setDst; dsimp only; rw [nblt, decide_eq_true hn]; rfl
  · rw [hc] at hc0; cases hc0
theorem WF_ld0 (hg : o.guard = none) (hd : o.dst = none) (hcl : ∀ e, Ag l e → isLC (cls X e o.op) = true)
    (h : Ev X l S o.op fun _ S' => (∀ f ∈ D, S'.h.get f.id = some f.x) ∧ ∃ N : List Fct, (∀ f ∈ N, f.src = some i ∧ f.id < S'.n ∧ S'.h.get f.id = some f.x) ∧ WF X n all (D ++ N) os (i + 1) ks Q l S') : WF X n all D (o :: os) i ks Q l S := by
  intro e he
  unfold Ev at h
  obtain ⟨f, v, S1, h1, h2, hB, N, hN, h3⟩ := h e he
  obtain ⟨g, e2, S2, h4, h5⟩ := h3 _ he
  have hc0 := hcl e he
  refine ⟨max f g, e2, S2, .inl ⟨wanted_none hg, v, S1, e, N, oper_le (exec_le (Nat.le_max_left f g)) h1, ?_, h2, fun hc => ?_, fun _ => hB, fun f hf => ⟨(hN f hf).1, (hN f hf).2.1, (hN f hf).2.2, .inl hc0⟩, RunF_le (exec_le (Nat.le_max_right f g)) h4⟩, h5⟩
  · rw [hd]; rfl
  · rw [hc] at hc0; cases hc0
theorem WF_guard {j d0 : Nat} {want : Bool} {p : Oper} {c : Bool} {d : Nat} (hg : o.guard = some (j, want)) (hp : all[j]? = some p) (hd0 : p.dst = some d0) (hl : lk l d0 = some (.bool c)) (hd : o.dst = some d) (hn : Nat.blt d n = true) (hn' : Nat.blt n 1000001 = true)
    (h1 : c = want → WF X n all D ({ o with guard := none } :: os) i ks Q ((d0, .bool want) :: l) S) (h2 : c = (!want) → WF X n all D os (i + 1) ks Q ((d, .tup []) :: (d0, .bool (!want)) :: l) S) : WF X n all D (o :: os) i ks Q l S := by
  intro e he
  rw [nblt, decide_eq_true_eq] at hn hn'
  have hat : e.at d0 = .bool c := he d0 _ hl
  have hag : ∀ b, c = b → Ag ((d0, .bool b) :: l) e := by
    intro b hb t v ht
    unfold lk at ht
    rw [nbeq, cond_dec] at ht
    by_cases hh : d0 = t
    · subst hh; rw [if_pos rfl] at ht; cases ht; rw [hat, hb]
    · rw [if_neg hh] at ht; exact he t v ht
  have hw : wanted all e o = (c == want) := by unfold wanted; rw [hg]; dsimp only; rw [hp]; dsimp only; rw [hd0]; dsimp only; rw [hat]
  by_cases hc : c = want
  · obtain ⟨f, e2, S2, h3, h4⟩ := h1 hc e (hag want hc)
    refine ⟨f, e2, S2, ?_, h4⟩
    have hw' : wanted all e o = true := by rw [hw, hc]; cases want <;> rfl
    unfold RunF at h3 ⊢
    rcases h3 with ⟨_, h3⟩ | ⟨h3, _⟩
    · exact .inl ⟨hw', h3⟩
    · rw [wanted_none rfl] at h3; cases h3
  · have hc' : c = (!want) := by cases c <;> cases want <;> simp_all
    obtain ⟨f, e2, S2, h3, h4⟩ := h2 hc' _ ((hag _ hc').put hn' hn)
    refine ⟨f, e2, S2, ?_, h4⟩
    have hw' : wanted all e o = false := by rw [hw, hc']; cases want <;> rfl
    refine .inr ⟨hw', e.put d (.tup []), ?_, h3⟩
    rw [hd]; unfold setDst; dsimp only; rw [nblt, decide_eq_true hn]; rfl
theorem WF_guard_dt {j d0 : Nat} {q : Oper} {p : Prop} [Decidable p] {d : Nat} (hg : o.guard = some (j, true)) (hp : all[j]? = some q) (hd0 : q.dst = some d0) (hl : lk l d0 = some (.bool (decide p))) (hd : o.dst = some d) (hn : Nat.blt d n = true) (hn' : Nat.blt n 1000001 = true)
    (h1 : p → WF X n all D ({ o with guard := none } :: os) i ks Q ((d0, .bool true) :: l) S) (h2 : ¬ p → WF X n all D os (i + 1) ks Q ((d, .tup []) :: (d0, .bool false) :: l) S) : WF X n all D (o :: os) i ks Q l S :=
  WF_guard hg hp hd0 hl hd hn hn' (fun h => h1 (of_decide_eq_true h)) (fun h => h2 (of_decide_eq_false h))
theorem WF_guard_df {j d0 : Nat} {q : Oper} {p : Prop} [Decidable p] {d : Nat} (hg : o.guard = some (j, false)) (hp : all[j]? = some q) (hd0 : q.dst = some d0) (hl : lk l d0 = some (.bool (decide p))) (hd : o.dst = some d) (hn : Nat.blt d n = true) (hn' : Nat.blt n 1000001 = true)
    (h1 : ¬ p → WF X n all D ({ o with guard := none } :: os) i ks Q ((d0, .bool false) :: l) S) (h2 : p → WF X n all D os (i + 1) ks Q ((d, .tup []) :: (d0, .bool true) :: l) S) : WF X n all D (o :: os) i ks Q l S :=
  WF_guard hg hp hd0 hl hd hn hn' (fun h => h1 (of_decide_eq_false h)) (fun h => h2 (of_decide_eq_true h))
theorem WF_guard_t {j d0 : Nat} {want : Bool} {p : Oper} {d : Nat} (hg : o.guard = some (j, want)) (hp : all[j]? = some p) (hd0 : p.dst = some d0) (hl : lk l d0 = some (.bool want)) (hd : o.dst = some d) (hn : Nat.blt d n = true) (hn' : Nat.blt n 1000001 = true)
    (h1 : WF X n all D ({ o with guard := none } :: os) i ks Q l S) : WF X n all D (o :: os) i ks Q l S := by
  refine WF_guard hg hp hd0 hl hd hn hn' (fun _ => ?_) (fun h => ?_)
  · intro e he
    exact h1 e (fun t v ht => he t v (by
      unfold lk; rw [nbeq, cond_dec]
      by_cases hh : d0 = t
      · subst hh; rw [hl] at ht; cases ht; rw [if_pos rfl]
      · rw [if_neg hh]; exact ht))
  · cases want <;> cases h
theorem WF_skip {d : Nat} (hd : o.dst = some d) (hn : Nat.blt d n = true) (hn' : Nat.blt n 1000001 = true) (hw : ∀ e, Ag l e → wanted all e o = false) (h2 : WF X n all D os (i + 1) ks Q ((d, .tup []) :: l) S) : WF X n all D (o :: os) i ks Q l S := by
  intro e he
  rw [nblt, decide_eq_true_eq] at hn hn'
  obtain ⟨f, e2, S2, h3, h4⟩ := h2 _ (he.put hn' hn)
  refine ⟨f, e2, S2, .inr ⟨hw e he, e.put d (.tup []), ?_, h3⟩, h4⟩
  rw [hd]; unfold setDst; dsimp only; rw [nblt, decide_eq_true hn]; rfl
theorem WF_guard_f {j d0 : Nat} {want c : Bool} {p : Oper} {d : Nat} (hg : o.guard = some (j, want)) (hp : all[j]? = some p) (hd0 : p.dst = some d0) (hl : lk l d0 = some (.bool c)) (hc : (c == want) = false) (hd : o.dst = some d) (hn : Nat.blt d n = true) (hn' : Nat.blt n 1000001 = true)
    (h2 : WF X n all D os (i + 1) ks Q ((d, .tup []) :: l) S) : WF X n all D (o :: os) i ks Q l S :=
  WF_skip hd hn hn' (fun e he => by unfold wanted; rw [hg]; dsimp only; rw [hp]; dsimp only; rw [hd0]; dsimp only; rw [he d0 _ hl]; exact hc) h2
theorem WF_guard_x {j d0 : Nat} {want : Bool} {p : Oper} {d : Nat} (hg : o.guard = some (j, want)) (hp : all[j]? = some p) (hd0 : p.dst = some d0) (hl : lk l d0 = some (.tup [])) (hd : o.dst = some d) (hn : Nat.blt d n = true) (hn' : Nat.blt n 1000001 = true)
    (h2 : WF X n all D os (i + 1) ks Q ((d, .tup []) :: l) S) : WF X n all D (o :: os) i ks Q l S :=
  WF_skip hd hn hn' (fun e he => by unfold wanted; rw [hg]; dsimp only; rw [hp]; dsimp only; rw [hd0]; dsimp only; rw [he d0 _ hl]) h2
/-! footprints -/
theorem FPD_load {t : Nat} {x : Operand} {p : AV} {o : Nat} {i' : TI} {cs : List AV} {v : AV} {ms : List Nat} (hx : od l x = some p) (hi : X.ti t = some i') (hag : aggD i'.desc = false) (hp : Pt S p cs o) (hv : cs[o]? = some v)
    (hb : ∀ b, blkOf p = some b → ∃ f ∈ D, f.id = b ∧ S.h.get b = some f.x ∧ ∀ j, f.src = some j → inM ms i j = true) :
    ∀ e, Ag l e → cls X e (.load t x) = .read ∧ FPD X D ms i e (.load t x) v := fun _ he =>
  ⟨rfl, fun H hH => load_eq (m := S.n) (od_ok he hx) hi hag (hp.keep fun b h => by
    obtain ⟨f, h1, h2, h3, h4⟩ := hb b h
    show H.get b = _; rw [h3, ← h2]; exact hH f h1 h4) hv⟩
theorem FPD_conv {x : Operand} {s d el m : Nat} {si di ei : TI} {v : AV} {cs : List AV} {z : List Nat} {ms : List Nat} (hx : od l x = some v) (hs : X.ti s = some si) (hd : X.ti d = some di) (hdd : di.desc = .string) (hsd : si.desc = .slice el) (he' : X.ti el = some ei) (hk : ei.desc = .int .u8) (hrd : Rd S v 1 cs m) (hz : bytesOf cs = some z)
    (hb : ∀ b, blkOf v = some b → ∃ f ∈ D, f.id = b ∧ S.h.get b = some f.x ∧ ∀ j, f.src = some j → inM ms i j = true) :
    ∀ e, Ag l e → cls X e (.convert s d x) = .read ∧ FPD X D ms i e (.convert s d x) (.str z) := fun _ he =>
  ⟨by unfold cls; dsimp only; rw [hs]; dsimp only; rw [hsd]; dsimp only; rw [hd]; dsimp only; rw [hdd], fun H hH => conv_eq (m' := S.n) (od_ok he hx) hs hd hdd hsd he' hk (hrd.keep fun b h => by
    obtain ⟨f, h1, h2, h3, h4⟩ := hb b h
    show H.get b = _; rw [h3, ← h2]; exact hH f h1 h4) hz⟩
end
end
end GX
/- GX: reasoning about runs: rules for arguments that have no block; runes read in a region that draws its order. -/

namespace GX
noncomputable section
open Go
section
variable {X : X} {l : L} {S : St} {R : AV → St → Prop} {t : Nat} {x y : Operand} {D : List Fct} {i : Nat}
theorem Ev_indexAddr_n {v : AV} {k : IntKind} {i m : Nat} {ti ei : TI} {el : Nat} {cs : List AV} (hy : od l y = some (.int k ((i : Nat) : Int))) (hx : od l x = some v) (hi : X.ti t = some ti) (hd : ti.desc = .slice el) (he' : X.ti el = some ei) (hrd : Rd S v ei.size cs m) (hn : blkOf v = none) (hlt : i < m)
    (hR : R (.rptr cs (i * ei.size)) S) : Ev X l S (.indexAddr t x y) R := by
  have hc := hrd.cells
  have hl := hrd.len
  cases v with
  | slice b o n cap => cases hn
  | rsl cs0 n z =>
    cases hl
    have hz : z = ei.size ∧ cs0.length = m * z := by have := hrd.cap; simpa [capW] using this
    obtain ⟨hz, hl0⟩ := hz
    subst hz
    have hcs : cs = cs0 := by
      unfold srcCells at hc; dsimp only at hc
      rw [nbeq, nble, ← Bool.decide_and, cond_dec] at hc
      split at hc
      · cases hc; rw [List.take_of_length_le (by omega)]
      · cases hc
    subst hcs
    refine Ev_pure (v := .rptr cs (i * ei.size)) (fun e he => ⟨rfl, ?_⟩) hR
    unfold pureOp; dsimp only; rw [od_ok he hy]; show (match opd e x with | some (.slice b o len _) => _ | some (.rsl cs len sz) => _ | _ => none) = _
    rw [od_ok he hx]; dsimp only; rw [hi]; dsimp only; rw [hd]; dsimp only; rw [he']; dsimp only; rw [nblt, nbeq, decide_eq_true hlt, decide_eq_true rfl]; rfl
  | nils => cases hl; omega
  | emp => cases hl; omega
  | _ => cases hl
theorem Ev_fieldAddr_n {f o : Nat} {i fi : TI} {fs : Array Field} {fd : Field} {cs : List AV} (hx : od l x = some (.rptr cs o)) (hi : X.ti t = some i) (hd : i.desc = .struct fs) (hf : fs.toList[f]? = some fd) (hfi : X.ti fd.type = some fi) (hz : Nat.beq fi.size 0 = false)
    (hR : R (.rptr cs (o + fd.offset)) S) : Ev X l S (.fieldAddr t x f) R :=
  Ev_pure (fun e he => ⟨rfl, by unfold pureOp; dsimp only; rw [od_ok he hx]; dsimp only; rw [hi]; dsimp only; rw [hd]; dsimp only; rw [hf]; dsimp only; rw [hfi]; dsimp only; rw [hz]; rfl⟩) hR
theorem FPD_load_n {o : Nat} {i' : TI} {cs : List AV} {v : AV} {ms : List Nat} (hx : od l x = some (.rptr cs o)) (hi : X.ti t = some i') (hag : aggD i'.desc = false) (hv : cs[o]? = some v) :
    ∀ e, Ag l e → cls X e (.load t x) = .read ∧ FPD X D ms i e (.load t x) v :=
  FPD_load (S := { h := .leaf, n := 0 }) hx hi hag (.inr rfl) hv (fun b hb => by cases hb)
theorem conv_eq_r {e : Env} {H : Tr AB} {x : Operand} {s d el m m' : Nat} {si di ei : TI} {v : AV} {cs : List AV} {z : List Nat} (hx : opd e x = some v) (hs : X.ti s = some si) (hd : X.ti d = some di) (hdd : di.desc = .string) (hsd : si.desc = .slice el) (he' : X.ti el = some ei) (hk : ei.desc = .int .i32) (hrd : Rd { h := H, n := m' } v 1 cs m) (hz : runesOf cs = some z) : readOp X e H (.convert s d x) = some (.str z) := by
  unfold readOp; dsimp only; rw [hx]; dsimp only; rw [hd]; dsimp only; rw [hs]; dsimp only; rw [hdd]; dsimp only; rw [hsd]; dsimp only; rw [he']; dsimp only; rw [hk]
  have h2 := hrd.cells
  have h3 := hrd.len
  have h4 := hrd.size
  cases v with
  | slice b o n k =>
    cases h3
    unfold srcCells at h2; dsimp only at h2 ⊢
    rw [Nat.mul_one] at h2; rw [h2]; dsimp only; rw [hz]
  | rsl cs0 n z0 =>
    cases h3
    have hz0 : z0 = 1 ∧ cs0.length = m * z0 := by have := hrd.cap; simpa [capW] using this
    obtain ⟨hz0, hl0⟩ := hz0
    subst hz0
    unfold srcCells at h2; dsimp only at h2 ⊢
    rw [nbeq, nble, ← Bool.decide_and, cond_dec] at h2
    split at h2
    · cases h2
      rw [List.take_of_length_le (by omega)] at hz
      rw [show Nat.beq 1 1 = true from rfl]
      simp only [cond_true]
      rw [hz]
    · cases h2
  | nils => cases h3; cases List.eq_nil_of_length_eq_zero (by omega : cs.length = 0); cases hz; rfl
  | emp => cases h3; cases List.eq_nil_of_length_eq_zero (by omega : cs.length = 0); cases hz; rfl
  | _ => have := hrd.sl; cases this
theorem FPD_conv_r {x : Operand} {s d el m : Nat} {si di ei : TI} {v : AV} {cs : List AV} {z : List Nat} {ms : List Nat} (hx : od l x = some v) (hs : X.ti s = some si) (hd : X.ti d = some di) (hdd : di.desc = .string) (hsd : si.desc = .slice el) (he' : X.ti el = some ei) (hk : ei.desc = .int .i32) (hrd : Rd S v 1 cs m) (hz : runesOf cs = some z)
    (hb : ∀ b, blkOf v = some b → ∃ f ∈ D, f.id = b ∧ S.h.get b = some f.x ∧ ∀ j, f.src = some j → inM ms i j = true) :
    ∀ e, Ag l e → cls X e (.convert s d x) = .read ∧ FPD X D ms i e (.convert s d x) (.str z) := fun _ he =>
  ⟨by unfold cls; dsimp only; rw [hs]; dsimp only; rw [hsd]; dsimp only; rw [hd]; dsimp only; rw [hdd], fun H hH => conv_eq_r (m' := S.n) (od_ok he hx) hs hd hdd hsd he' hk (hrd.keep fun b h => by
    obtain ⟨f, h1, h2, h3, h4⟩ := hb b h
    show H.get b = _; rw [h3, ← h2]; exact hH f h1 h4) hz⟩
end
end
end GX
/- strings' prefixes and suffixes; caraferef2.Name, descr.Name. -/



namespace Go.Proofs.YtbeigmifafmpiaaDoor
open GX
set_option maxHeartbeats 8000000
theorem hasp_runs {S : St} {s p : List Nat} : Runs X1 48 [.str s, .str p] S fun v S' => S' = S ∧ v = .bool (decide (s.take p.length = p)) := by
  refine Runs_fn (m := 18) (by kernel_rfl) Tryd.func48 rfl (by kernel_rfl) (by kernel_rfl) ?_
  repeat' (
    first
      | refine W_seq ?_
      | refine WO_nil ?_
      | refine V_seq ?_
      | refine W_region ?_
      | refine W_ret ?_
      | refine WO_dst rfl rfl (by kernel_rfl) (by kernel_rfl) ?_
      | refine WO_guard_t rfl rfl rfl rfl rfl (by kernel_rfl) (by kernel_rfl) ?_
      | refine WO_guard_f rfl rfl rfl rfl rfl rfl (by kernel_rfl) (by kernel_rfl) ?_
      | refine Ev_slice_str (lo' := none) (hi' := some (.int .i64 ((p.length : Nat) : Int))) (mx' := none) rfl rfl rfl rfl rfl rfl (str_hi (by omega)) ?_
      | refine Ev_move rfl ?_
      | refine Ev_assign rfl ?_
      | refine Ev_pick_t rfl rfl rfl ?_
      | refine Ev_pick_f rfl rfl rfl ?_
      | refine Ev_geqN rfl rfl ?_
      | refine Ev_seql rfl rfl ?_
      | refine Ev_len_str rfl rfl rfl rfl rfl ?_
      | (refine WO_guard_dt rfl rfl rfl rfl rfl (by kernel_rfl) (by kernel_rfl) (fun hg => ?_) (fun hg => ?_) <;> (try dsimp only at hg) <;> try (exfalso; first | omega | exact hg rfl)))
  · refine V_done rfl rfl ?_
    exact ⟨rfl, rfl⟩
  · refine V_done rfl rfl ?_
    refine ⟨rfl, ?_⟩
    rw [decide_eq_false]; rfl
    intro h
    have := congrArg List.length h
    rw [List.length_take] at this; omega
theorem shasp_runs {S : St} {s p : List Nat} : Runs X1 19 [.str s, .str p] S fun v S' => S' = S ∧ v = .bool (decide (s.take p.length = p)) := by
  refine Runs_fn (m := 8) (by kernel_rfl) Tryd.func19 rfl (by kernel_rfl) (by kernel_rfl) ?_
  repeat (
    first
      | refine W_seq ?_
      | refine WO_nil ?_
      | refine V_seq ?_
      | refine W_region ?_
      | refine WO_dst rfl rfl (by kernel_rfl) (by kernel_rfl) ?_
      | refine Ev_move rfl ?_
      | refine Ev_assign rfl ?_)
  refine Ev_call rfl rfl (hasp_runs.mono ?_)
  rintro _ _ - ⟨rfl, rfl⟩
  repeat (
    first
      | refine WO_nil ?_
      | refine V_seq ?_
      | refine W_ret ?_
      | refine WO_dst rfl rfl (by kernel_rfl) (by kernel_rfl) ?_
      | refine Ev_assign rfl ?_)
  refine V_done rfl rfl ?_
  exact ⟨rfl, rfl⟩
def trimP (s p : List Nat) : List Nat := if s.take p.length = p then s.drop p.length else s
theorem take_le {s p : List Nat} (h : s.take p.length = p) : p.length ≤ s.length := by
  have := congrArg List.length h
  rw [List.length_take] at this; omega
theorem trimp_runs {S : St} {s p : List Nat} : Runs X1 49 [.str s, .str p] S fun v S' => S' = S ∧ v = .str (trimP s p) := by
  refine Runs_fn (m := 13) (by kernel_rfl) Tryd.func49 rfl (by kernel_rfl) (by kernel_rfl) ?_
  repeat (
    first
      | refine W_seq ?_
      | refine WO_nil ?_
      | refine V_seq ?_
      | refine W_region ?_
      | refine WO_dst rfl rfl (by kernel_rfl) (by kernel_rfl) ?_
      | refine Ev_move rfl ?_
      | refine Ev_assign rfl ?_)
  refine Ev_call rfl rfl (hasp_runs.mono ?_)
  rintro _ _ - ⟨rfl, rfl⟩
  rename_i S
  by_cases h : s.take p.length = p
  · have hle := take_le h
    rw [decide_eq_true h]
    repeat' (
      first
        | refine W_seq ?_
        | refine WO_nil ?_
        | refine V_seq ?_
        | refine W_region ?_
        | refine W_ret ?_
        | refine V_ret ?_
        | refine W_cond_t rfl ?_
        | refine WO_dst rfl rfl (by kernel_rfl) (by kernel_rfl) ?_
        | refine Ev_slice_str (lo' := some (.int .i64 ((p.length : Nat) : Int))) (hi' := none) (mx' := none) rfl rfl rfl rfl rfl rfl (str_lo hle) ?_
        | refine Ev_move rfl ?_
        | refine Ev_assign rfl ?_
        | refine Ev_len_str rfl rfl rfl rfl rfl ?_)
    refine V_done rfl rfl ?_
    refine ⟨rfl, ?_⟩
    unfold trimP; rw [if_pos h]; rfl
  · rw [decide_eq_false h]
    repeat' (
      first
        | refine W_seq ?_
        | refine WO_nil ?_
        | refine V_seq ?_
        | refine W_region ?_
        | refine W_skip ?_
        | refine W_ret ?_
        | refine W_cond_f rfl ?_
        | refine WO_dst rfl rfl (by kernel_rfl) (by kernel_rfl) ?_
        | refine Ev_move rfl ?_
        | refine Ev_assign rfl ?_)
    refine V_done rfl rfl ?_
    refine ⟨rfl, ?_⟩
    unfold trimP; rw [if_neg h]; rfl
theorem strimp_runs {S : St} {s p : List Nat} : Runs X1 20 [.str s, .str p] S fun v S' => S' = S ∧ v = .str (trimP s p) := by
  refine Runs_fn (m := 8) (by kernel_rfl) Tryd.func20 rfl (by kernel_rfl) (by kernel_rfl) ?_
  repeat (
    first
      | refine W_seq ?_
      | refine WO_nil ?_
      | refine V_seq ?_
      | refine W_region ?_
      | refine WO_dst rfl rfl (by kernel_rfl) (by kernel_rfl) ?_
      | refine Ev_move rfl ?_
      | refine Ev_assign rfl ?_)
  refine Ev_call rfl rfl (trimp_runs.mono ?_)
  rintro _ _ - ⟨rfl, rfl⟩
  repeat (
    first
      | refine WO_nil ?_
      | refine V_seq ?_
      | refine W_ret ?_
      | refine WO_dst rfl rfl (by kernel_rfl) (by kernel_rfl) ?_
      | refine Ev_assign rfl ?_)
  refine V_done rfl rfl ?_
  exact ⟨rfl, rfl⟩
theorem cutp_runs {S : St} {s p : List Nat} : Runs X1 51 [.str s, .str p] S fun v S' => S' = S ∧ v = .tup [.str (trimP s p), .bool (decide (s.take p.length = p))] := by
  refine Runs_fn (m := 15) (by kernel_rfl) Tryd.func51 rfl (by kernel_rfl) (by kernel_rfl) ?_
  repeat (
    first
      | refine W_seq ?_
      | refine WO_nil ?_
      | refine V_seq ?_
      | refine W_region ?_
      | refine WO_dst rfl rfl (by kernel_rfl) (by kernel_rfl) ?_
      | refine Ev_move rfl ?_
      | refine Ev_assign rfl ?_)
  refine Ev_call rfl rfl (hasp_runs.mono ?_)
  rintro _ _ - ⟨rfl, rfl⟩
  rename_i S
  by_cases h : s.take p.length = p
  · have hle := take_le h
    rw [decide_eq_true h]
    repeat' (
      first
        | refine W_seq ?_
        | refine WO_nil ?_
        | refine V_seq ?_
        | refine W_region ?_
        | refine W_skip ?_
        | refine W_ret ?_
        | refine W_cond_f rfl ?_
        | refine WO_dst rfl rfl (by kernel_rfl) (by kernel_rfl) ?_
        | refine Ev_slice_str (lo' := some (.int .i64 ((p.length : Nat) : Int))) (hi' := none) (mx' := none) rfl rfl rfl rfl rfl rfl (str_lo hle) ?_
        | refine Ev_move rfl ?_
        | refine Ev_assign rfl ?_
        | refine Ev_notb rfl ?_
        | refine Ev_len_str rfl rfl rfl rfl rfl ?_)
    refine V_done rfl rfl ?_
    refine ⟨rfl, ?_⟩
    unfold trimP; rw [if_pos h]; rfl
  · rw [decide_eq_false h]
    repeat' (
      first
        | refine W_seq ?_
        | refine WO_nil ?_
        | refine V_seq ?_
        | refine W_region ?_
        | refine W_ret ?_
        | refine V_ret ?_
        | refine W_cond_t rfl ?_
        | refine WO_dst rfl rfl (by kernel_rfl) (by kernel_rfl) ?_
        | refine Ev_move rfl ?_
        | refine Ev_assign rfl ?_
        | refine Ev_notb rfl ?_)
    refine V_done rfl rfl ?_
    refine ⟨rfl, ?_⟩
    unfold trimP; rw [if_neg h]; rfl
theorem scutp_runs {S : St} {s p : List Nat} : Runs X1 23 [.str s, .str p] S fun v S' => S' = S ∧ v = .tup [.str (trimP s p), .bool (decide (s.take p.length = p))] := by
  refine Runs_fn (m := 11) (by kernel_rfl) Tryd.func23 rfl (by kernel_rfl) (by kernel_rfl) ?_
  repeat (
    first
      | refine W_seq ?_
      | refine WO_nil ?_
      | refine V_seq ?_
      | refine W_region ?_
      | refine WO_dst rfl rfl (by kernel_rfl) (by kernel_rfl) ?_
      | refine Ev_move rfl ?_
      | refine Ev_assign rfl ?_)
  refine Ev_call rfl rfl (cutp_runs.mono ?_)
  rintro _ _ - ⟨rfl, rfl⟩
  repeat (
    first
      | refine WO_nil ?_
      | refine V_seq ?_
      | refine W_ret ?_
      | refine WO_dst rfl rfl (by kernel_rfl) (by kernel_rfl) ?_
      | refine Ev_assign rfl ?_
      | refine Ev_extract rfl rfl ?_)
  refine V_done rfl rfl ?_
  exact ⟨rfl, rfl⟩
def sufP (s p : List Nat) : Prop := p.length ≤ s.length ∧ s.drop (s.length - p.length) = p
instance (s p : List Nat) : Decidable (sufP s p) := by unfold sufP; exact inferInstance
theorem hass_runs {S : St} {s p : List Nat} (hs : s.length < 9223372036854775808) : Runs X1 83 [.str s, .str p] S fun v S' => S' = S ∧ v = .bool (decide (sufP s p)) := by
  refine Runs_fn (m := 21) (by kernel_rfl) Tryd.func83 rfl (by kernel_rfl) (by kernel_rfl) ?_
  repeat' (
    first
      | refine W_seq ?_
      | refine WO_nil ?_
      | refine V_seq ?_
      | refine W_region ?_
      | refine W_ret ?_
      | refine WO_dst rfl rfl (by kernel_rfl) (by kernel_rfl) ?_
      | refine WO_guard_t rfl rfl rfl rfl rfl (by kernel_rfl) (by kernel_rfl) ?_
      | refine WO_guard_f rfl rfl rfl rfl rfl rfl (by kernel_rfl) (by kernel_rfl) ?_
      | refine Ev_slice_str (lo' := some (.int .i64 ((s.length - p.length : Nat) : Int))) (hi' := none) (mx' := none) rfl rfl rfl rfl rfl rfl (str_lo (by omega)) ?_
      | refine Ev_move rfl ?_
      | refine Ev_assign rfl ?_
      | refine Ev_pick_t rfl rfl rfl ?_
      | refine Ev_pick_f rfl rfl rfl ?_
      | refine Ev_geqN rfl rfl ?_
      | refine Ev_seql rfl rfl ?_
      | refine Ev_len_str rfl rfl rfl rfl rfl ?_
      | refine Ev_subN rfl rfl (by simp only [lim]; omega) (by first | omega | (dsimp only; done) | (dsimp only; omega)) ?_
      | (refine WO_guard_dt rfl rfl rfl rfl rfl (by kernel_rfl) (by kernel_rfl) (fun hg => ?_) (fun hg => ?_) <;> (try dsimp only at hg) <;> try (exfalso; first | omega | exact hg rfl)))
  · refine V_done rfl rfl ?_
    refine ⟨rfl, ?_⟩
    show AV.bool (decide (s.drop (s.length - p.length) = p)) = _
    have h : p.length ≤ s.length := by omega
    congr 1
    exact decide_eq_decide.2 ⟨fun g => ⟨h, g⟩, fun g => g.2⟩
  · refine V_done rfl rfl ?_
    refine ⟨rfl, ?_⟩
    rw [decide_eq_false]; rfl
    intro h
    have := h.1; omega
def trimS (s p : List Nat) : List Nat := if sufP s p then s.take (s.length - p.length) else s
theorem cuts_runs {S : St} {s p : List Nat} (hs : s.length < 9223372036854775808) : Runs X1 73 [.str s, .str p] S fun v S' => S' = S ∧ v = .tup [.str (trimS s p), .bool (decide (sufP s p))] := by
  refine Runs_fn (m := 18) (by kernel_rfl) Tryd.func73 rfl (by kernel_rfl) (by kernel_rfl) ?_
  repeat (
    first
      | refine W_seq ?_
      | refine WO_nil ?_
      | refine V_seq ?_
      | refine W_region ?_
      | refine WO_dst rfl rfl (by kernel_rfl) (by kernel_rfl) ?_
      | refine Ev_move rfl ?_
      | refine Ev_assign rfl ?_)
  refine Ev_call rfl rfl ((hass_runs hs).mono ?_)
  rintro _ _ - ⟨rfl, rfl⟩
  rename_i S
  by_cases h : sufP s p
  · have hle := h.1
    rw [decide_eq_true h]
    repeat' (
      first
        | refine W_seq ?_
        | refine WO_nil ?_
        | refine V_seq ?_
        | refine W_region ?_
        | refine W_skip ?_
        | refine W_ret ?_
        | refine W_cond_f rfl ?_
        | refine WO_dst rfl rfl (by kernel_rfl) (by kernel_rfl) ?_
        | refine Ev_slice_str (lo' := none) (hi' := some (.int .i64 ((s.length - p.length : Nat) : Int))) (mx' := none) rfl rfl rfl rfl rfl rfl (str_hi (by omega)) ?_
        | refine Ev_move rfl ?_
        | refine Ev_assign rfl ?_
        | refine Ev_notb rfl ?_
        | refine Ev_len_str rfl rfl rfl rfl rfl ?_
        | refine Ev_subN rfl rfl (by simp only [lim]; omega) (by first | omega | (dsimp only; done) | (dsimp only; omega)) ?_)
    refine V_done rfl rfl ?_
    refine ⟨rfl, ?_⟩
    unfold trimS; rw [if_pos h]; rfl
  · rw [decide_eq_false h]
    repeat' (
      first
        | refine W_seq ?_
        | refine WO_nil ?_
        | refine V_seq ?_
        | refine W_region ?_
        | refine W_ret ?_
        | refine V_ret ?_
        | refine W_cond_t rfl ?_
        | refine WO_dst rfl rfl (by kernel_rfl) (by kernel_rfl) ?_
        | refine Ev_move rfl ?_
        | refine Ev_assign rfl ?_
        | refine Ev_notb rfl ?_)
    refine V_done rfl rfl ?_
    refine ⟨rfl, ?_⟩
    unfold trimS; rw [if_neg h]; rfl
theorem scuts_runs {S : St} {s p : List Nat} (hs : s.length < 9223372036854775808) : Runs X1 50 [.str s, .str p] S fun v S' => S' = S ∧ v = .tup [.str (trimS s p), .bool (decide (sufP s p))] := by
  refine Runs_fn (m := 11) (by kernel_rfl) Tryd.func50 rfl (by kernel_rfl) (by kernel_rfl) ?_
  repeat (
    first
      | refine W_seq ?_
      | refine WO_nil ?_
      | refine V_seq ?_
      | refine W_region ?_
      | refine WO_dst rfl rfl (by kernel_rfl) (by kernel_rfl) ?_
      | refine Ev_move rfl ?_
      | refine Ev_assign rfl ?_)
  refine Ev_call rfl rfl ((cuts_runs hs).mono ?_)
  rintro _ _ - ⟨rfl, rfl⟩
  repeat (
    first
      | refine WO_nil ?_
      | refine V_seq ?_
      | refine W_ret ?_
      | refine WO_dst rfl rfl (by kernel_rfl) (by kernel_rfl) ?_
      | refine Ev_assign rfl ?_
      | refine Ev_extract rfl rfl ?_)
  refine V_done rfl rfl ?_
  exact ⟨rfl, rfl⟩
/-- a letter of a name -/
def okc (i c : Nat) : Prop := (97 ≤ c ∧ c ≤ 122) ∨ (65 ≤ c ∧ c ≤ 90) ∨ c = 95 ∨ c = 36 ∨ (0 < i ∧ 48 ≤ c ∧ c ≤ 57)
instance (i c : Nat) : Decidable (okc i c) := by unfold okc; exact inferInstance
def nameP (s : List Nat) : Prop := (1 ≤ s.length ∧ s.length ≤ 64) ∧ ∀ i, i < s.length → okc i (s.getD i 0)
instance (s : List Nat) : Decidable (nameP s) := by unfold nameP; exact inferInstance
theorem get_some {s : List Nat} {i : Nat} (h : i < s.length) : s[i]? = some (s.getD i 0) := by
  rw [List.getD_eq_getElem?_getD, List.getElem?_eq_getElem h]; rfl
theorem name_runs {S : St} {s : List Nat} (hs : s.length < 9223372036854775808) : Runs X1 8 [.str s] S fun v S' => S' = S ∧ v = .bool (decide (nameP s)) := by
  refine Runs_fn (m := 58) (by kernel_rfl) Tryd.func8 rfl (by kernel_rfl) (by kernel_rfl) ?_
  repeat (
    first
      | refine W_seq ?_
      | refine WO_nil ?_
      | refine V_seq ?_
      | refine W_region ?_
      | refine W_block ?_
      | refine WO_dst rfl rfl (by kernel_rfl) (by kernel_rfl) ?_
      | refine Ev_move rfl ?_
      | refine Ev_assign rfl ?_
      | refine Ev_len_str rfl rfl rfl rfl rfl ?_)
  refine W_inv (fun i : Nat => [(8, .int .i64 ((i : Nat) : Int)), (7, .int .i64 ((s.length : Nat) : Int)), (0, .str s)]) (fun i T => T = S ∧ i ≤ s.length ∧ ∀ j, j < i → okc j (s.getD j 0)) (fun i => s.length - i) ?_ 0 ⟨rfl, by omega, fun j hj => by omega⟩ ⟨rfl, rfl, rfl, trivial⟩
  rintro i T ⟨rfl, hi, hall⟩ back
  repeat' (
    first
      | refine W_seq ?_
      | refine WO_nil ?_
      | refine V_seq ?_
      | refine W_region ?_
      | refine W_block ?_
      | refine W_skip ?_
      | refine W_ret ?_
      | refine W_exit ?_
      | refine V_ret ?_
      | refine V_block ?_
      | refine V_block_x rfl ?_
      | refine V_seq_x ?_
      | refine V_loop_x ?_
      | refine W_cond_t rfl ?_
      | refine W_cond_f rfl ?_
      | refine WO_dst rfl rfl (by kernel_rfl) (by kernel_rfl) ?_
      | refine WO_guard_t rfl rfl rfl rfl rfl (by kernel_rfl) (by kernel_rfl) ?_
      | refine WO_guard_f rfl rfl rfl rfl rfl rfl (by kernel_rfl) (by kernel_rfl) ?_
      | refine WO_guard_x rfl rfl rfl rfl rfl (by kernel_rfl) (by kernel_rfl) ?_
      | refine Ev_index rfl rfl rfl rfl (get_some (by first | omega | (dsimp only; omega))) ?_
      | refine Ev_move rfl ?_
      | refine Ev_assign rfl ?_
      | refine Ev_pick_t rfl rfl rfl ?_
      | refine Ev_pick_f rfl rfl rfl ?_
      | refine Ev_lssN rfl rfl ?_
      | refine Ev_leqN rfl rfl ?_
      | refine Ev_gtrN rfl rfl ?_
      | refine Ev_geqN rfl rfl ?_
      | refine Ev_eqlN rfl rfl ?_
      | refine Ev_sneq rfl rfl ?_
      | refine Ev_not rfl ?_
      | refine Ev_notb rfl ?_
      | refine Ev_len_str rfl rfl rfl rfl rfl ?_
      | refine Ev_addN rfl rfl (by simp only [lim]; omega) ?_
      | (refine WO_guard_dt rfl rfl rfl rfl rfl (by kernel_rfl) (by kernel_rfl) (fun hg => ?_) (fun hg => ?_) <;> (try dsimp only at hg) <;> try (exfalso; first | omega | exact hg rfl))
      | (refine WO_guard_df rfl rfl rfl rfl rfl (by kernel_rfl) (by kernel_rfl) (fun hg => ?_) (fun hg => ?_) <;> (try dsimp only at hg) <;> try (exfalso; first | omega | exact hg rfl))
      | (refine W_cond rfl (fun hc => ?_) (fun hc => ?_) <;> (try dsimp only at hc) <;> try (exfalso; first | omega | exact hc rfl)))
  all_goals first
    | (refine back (i + 1) _ _ (by omega) ⟨rfl, by omega, fun j hj => ?_⟩ ⟨rfl, rfl, rfl, trivial⟩
       rcases Nat.lt_or_ge j i with h | h
       · exact hall j h
       · have hji : j = i := by omega
         subst hji; unfold okc; omega)
    | (refine V_done rfl rfl ⟨rfl, ?_⟩
       rw [decide_eq_false (fun h => by have := h.2 i (by omega); unfold okc at this; omega)]; rfl)
    | (refine V_done rfl rfl ⟨rfl, ?_⟩
       have h0 : ¬ 1 ≤ s.length := by first | exact hg | (have h1 : s = [] := Classical.not_not.1 hg; rw [h1]; decide)
       rw [decide_eq_false (fun h => h0 h.1.1)]; rfl)
    | (refine V_done rfl rfl ⟨rfl, ?_⟩
       have hl : 1 ≤ s.length := by first | exact hg | exact List.length_pos_iff.2 hg
       show AV.bool (decide (s.length ≤ 64)) = _
       congr 1
       exact decide_eq_decide.2 ⟨fun g => ⟨⟨hl, g⟩, fun j hj => hall j (by omega)⟩, fun g => g.1.2⟩)
end Go.Proofs.YtbeigmifafmpiaaDoor
/- descr.Class, Field, split: what they tell. -/


namespace Go.Proofs.YtbeigmifafmpiaaDoor
open GX
set_option maxHeartbeats 8000000
/-- where the first ';' is -/
def semi : List Nat → Option Nat
  | [] => none
  | c :: l => if c = 59 then some 0 else (semi l).map (· + 1)
theorem ixb_semi : ∀ (l : List Nat) (i : Nat), ixb 59 l i = match semi l with | some k => ((i + k : Nat) : Int) | none => -1
  | [], _ => rfl
  | c :: l, i => by
    unfold ixb semi
    by_cases h : c = 59
    · subst h; rfl
    · have h2 : Nat.beq c 59 = false := by rw [nbeq]; exact decide_eq_false h
      rw [if_neg h]
      simp only [h2, cond_false]
      rw [ixb_semi l (i + 1)]
      cases semi l with
      | none => rfl
      | some k => simp only [Option.map_some]; congr 1; omega
theorem semi_some : ∀ {l : List Nat} {k : Nat}, semi l = some k → k < l.length ∧ l = l.take k ++ 59 :: l.drop (k + 1) ∧ ∀ c ∈ l.take k, c ≠ 59
  | [], _, h => by cases h
  | c :: l, k, h => by
    unfold semi at h
    by_cases hc : c = 59
    · rw [if_pos hc] at h; cases h; subst hc; simp
    · rw [if_neg hc] at h
      cases hs : semi l with
      | none => rw [hs] at h; cases h
      | some j =>
        rw [hs] at h
        simp only [Option.map_some, Option.some.injEq] at h
        subst h
        obtain ⟨h1, h2, h3⟩ := semi_some hs
        refine ⟨by simpa using h1, by simpa using h2, fun d hd => ?_⟩
        simp only [List.take_succ_cons, List.mem_cons] at hd
        rcases hd with rfl | hd
        · exact hc
        · exact h3 d hd
theorem semi_app : ∀ {n : List Nat} {r : List Nat}, (∀ c ∈ n, c ≠ 59) → semi (n ++ 59 :: r) = some n.length
  | [], r, _ => by simp [semi]
  | c :: n, r, h => by
    show semi (c :: (n ++ 59 :: r)) = _
    unfold semi
    rw [if_neg (h c (List.mem_cons_self ..)), semi_app (fun d hd => h d (List.mem_cons_of_mem _ hd))]; rfl
theorem name_c {n : List Nat} (h : nameP n) : ∀ c ∈ n, c ≠ 59 ∧ c ≠ 91 ∧ c < 128 ∧ 0 < c := by
  intro c hc
  obtain ⟨i, hi, rfl⟩ := List.mem_iff_getElem.1 hc
  have := h.2 i hi
  rw [List.getD_eq_getElem?_getD, List.getElem?_eq_getElem hi] at this
  simp only [Option.getD_some] at this
  unfold okc at this
  omega
def base1 : List Nat → Nat
  | [] => 0
  | c :: r => if c = 73 then 1 else if c = 76 then (match semi r with | some k => if nameP (r.take k) then k + 2 else 0 | none => 0) else 0
theorem base1_cons (c : Nat) (r : List Nat) : base1 (c :: r) = if c = 73 then 1 else if c = 76 then (match semi r with | some k => if nameP (r.take k) then k + 2 else 0 | none => 0) else 0 := rfl
/-- how many bytes the field has with which a text begins; 0: none -/
def oneS : List Nat → Nat
  | [] => 0
  | c :: r => if c = 91 then (if base1 r = 0 then 0 else base1 r + 1) else base1 (c :: r)
theorem oneS_cons (c : Nat) (r : List Nat) : oneS (c :: r) = if c = 91 then (if base1 r = 0 then 0 else base1 r + 1) else base1 (c :: r) := rfl
def fieldP (s : List Nat) : Prop := s ≠ [] ∧ oneS s = s.length
instance (s : List Nat) : Decidable (fieldP s) := by unfold fieldP; exact inferInstance
theorem base1_L {n r : List Nat} (h : ∀ c ∈ n, c ≠ 59) : base1 (76 :: (n ++ 59 :: r)) = if nameP n then n.length + 2 else 0 := by
  rw [base1_cons, if_neg (by decide), if_pos rfl, semi_app h]
  simp
theorem base1_len {t : List Nat} : (t ≠ [] ∧ base1 t = t.length) ↔ t = [73] ∨ ∃ n, t = 76 :: (n ++ [59]) ∧ nameP n := by
  constructor
  · rintro ⟨h1, h2⟩
    cases t with
    | nil => exact absurd rfl h1
    | cons c r =>
      rw [base1_cons] at h2
      split at h2
      · rename_i hc
        left
        have : r = [] := by simp at h2; exact h2
        rw [hc, this]
      · split at h2
        · rename_i hc
          split at h2
          · rename_i k hk
            split at h2
            · rename_i hn
              obtain ⟨g1, g2, g3⟩ := semi_some hk
              right
              refine ⟨r.take k, ?_, hn⟩
              have hd : r.drop (k + 1) = [] := List.drop_eq_nil_iff.2 (by simp at h2; omega)
              rw [hd] at g2
              rw [hc, ← g2]
            · simp at h2
          · simp at h2
        · simp at h2
  · rintro (rfl | ⟨n, rfl, hn⟩)
    · exact ⟨by simp, rfl⟩
    · refine ⟨by simp, ?_⟩
      rw [base1_L (fun c hc => (name_c hn c hc).1), if_pos hn]; simp
theorem field_iff {s : List Nat} : fieldP s ↔ (∃ t, s = 91 :: t ∧ (t = [73] ∨ ∃ n, t = 76 :: (n ++ [59]) ∧ nameP n)) ∨ (s = [73] ∨ ∃ n, s = 76 :: (n ++ [59]) ∧ nameP n) := by
  unfold fieldP
  cases s with
  | nil => simp
  | cons c r =>
    by_cases hc : c = 91
    · subst hc
      have e : oneS (91 :: r) = if base1 r = 0 then 0 else base1 r + 1 := by rw [oneS_cons, if_pos rfl]
      rw [e]
      constructor
      · rintro ⟨_, h⟩
        left
        refine ⟨r, rfl, base1_len.1 ?_⟩
        split at h
        · simp at h
        · rename_i h0
          simp at h
          refine ⟨fun hr => h0 (by rw [hr]; rfl), h⟩
      · rintro (⟨t, ht, h⟩ | h | ⟨n, h, _⟩)
        · cases ht
          obtain ⟨h1, h2⟩ := base1_len.2 h
          have h3 : 0 < r.length := List.length_pos_iff.2 h1
          rw [if_neg (by omega), h2]; simp
        · cases h
        · cases h
    · have e : oneS (c :: r) = base1 (c :: r) := by rw [oneS_cons, if_neg hc]
      rw [e]
      constructor
      · intro h; exact .inr (base1_len.1 h)
      · rintro (⟨t, ht, _⟩ | h)
        · cases ht; exact absurd rfl hc
        · exact base1_len.2 h
/-- the class that a type names that is no array's -/
def clsS (t : List Nat) : List Nat := if t.take 1 = [76] ∧ sufP (trimP t [76]) [59] ∧ nameP (trimS (trimP t [76]) [59]) then trimS (trimP t [76]) [59] else []
theorem cls_L {n : List Nat} (h : nameP n) : clsS (76 :: (n ++ [59])) = n := by
  have e1 : trimP (76 :: (n ++ [59])) [76] = n ++ [59] := by unfold trimP; simp
  have e2 : sufP (n ++ [59]) [59] := by unfold sufP; simp
  have e3 : trimS (n ++ [59]) [59] = n := by unfold trimS; rw [if_pos e2]; simp
  unfold clsS
  rw [e1, e3, if_pos ⟨by simp, e2, h⟩]
theorem cls_ne {t : List Nat} (h : clsS t ≠ []) : ∃ n, t = 76 :: (n ++ [59]) ∧ nameP n ∧ clsS t = n := by
  unfold clsS at h
  split at h
  · rename_i hh
    obtain ⟨h1, h2, h3⟩ := hh
    have e1 : trimP t [76] = t.drop 1 := by unfold trimP; exact if_pos h1
    rw [e1] at h2 h3
    have e3 : trimS (t.drop 1) [59] = (t.drop 1).take ((t.drop 1).length - 1) := by unfold trimS; exact if_pos h2
    rw [e3] at h3
    have h4 := h2.2
    have hd : t.drop 1 = (t.drop 1).take ((t.drop 1).length - 1) ++ [59] := by
      conv => lhs; rw [← List.take_append_drop ((t.drop 1).length - 1) (t.drop 1)]
      rw [show (t.drop 1).length - 1 = (t.drop 1).length - [59].length from rfl, h4]
    have ht : t = 76 :: (t.drop 1) := by
      conv => lhs; rw [← List.take_append_drop 1 t]
      rw [h1]; rfl
    refine ⟨(t.drop 1).take ((t.drop 1).length - 1), by rw [← hd]; exact ht, h3, ?_⟩
    rw [ht, hd]
    generalize hg : (t.drop 1).take ((t.drop 1).length - 1) = n at h3 ⊢
    rw [cls_L h3]
    simp
  · exact absurd rfl h
theorem field_cls {s : List Nat} : (trimP s [91] = [73] ∨ (¬ (trimP s [91]).take 1 = [91] ∧ clsS (trimP s [91]) ≠ [])) ↔ fieldP s := by
  rw [field_iff]
  have key : ∀ t : List Nat, (t = [73] ∨ (¬ t.take 1 = [91] ∧ clsS t ≠ [])) ↔ (t = [73] ∨ ∃ n, t = 76 :: (n ++ [59]) ∧ nameP n) := by
    intro t
    constructor
    · rintro (h | ⟨_, h⟩)
      · exact .inl h
      · obtain ⟨n, h1, h2, _⟩ := cls_ne h; exact .inr ⟨n, h1, h2⟩
    · rintro (h | ⟨n, rfl, h⟩)
      · exact .inl h
      · refine .inr ⟨by simp, ?_⟩
        rw [cls_L h]
        intro h0; have := h.1.1; rw [h0] at this; simp at this
  rw [key]
  unfold trimP
  cases s with
  | nil => simp
  | cons c r =>
    by_cases hc : c = 91
    · subst hc
      simp
    · simp [hc]
theorem cls_runs {S : St} {t : List Nat} (ht : t.length < 9223372036854775808) (hb : ¬ t.take 1 = [91]) : Runs X1 21 [.str t] S fun v S' => S' = S ∧ v = .str (clsS t) := by
  have hl1 : (trimP t [76]).length ≤ t.length := by unfold trimP; split <;> simp
  have hl2 : (trimS (trimP t [76]) [59]).length ≤ t.length := by
    unfold trimS; split
    · rw [List.length_take]; omega
    · exact hl1
  refine Runs_fn (m := 34) (by kernel_rfl) Tryd.func21 rfl (by kernel_rfl) (by kernel_rfl) ?_
  repeat (
    first
      | refine W_seq ?_
      | refine WO_nil ?_
      | refine V_seq ?_
      | refine W_region ?_
      | refine WO_dst rfl rfl (by kernel_rfl) (by kernel_rfl) ?_
      | refine Ev_move rfl ?_
      | refine Ev_assign rfl ?_)
  refine Ev_call rfl rfl ((shasp_runs (p := [91])).mono ?_)
  rintro _ _ - ⟨rfl, rfl⟩
  rename_i S
  rw [decide_eq_false (show ¬ t.take [91].length = [91] from hb)]
  repeat' (
    first
      | refine W_seq ?_
      | refine WO_nil ?_
      | refine V_seq ?_
      | refine W_region ?_
      | refine W_skip ?_
      | refine W_cond_f rfl ?_
      | refine WO_dst rfl rfl (by kernel_rfl) (by kernel_rfl) ?_
      | refine WO_guard_f rfl rfl rfl rfl rfl rfl (by kernel_rfl) (by kernel_rfl) ?_
      | refine Ev_move rfl ?_
      | refine Ev_pick_f rfl rfl rfl ?_)
  refine Ev_call rfl rfl ((scutp_runs (p := [76])).mono ?_)
  rintro _ _ - ⟨rfl, rfl⟩
  repeat' (
    first
      | refine W_seq ?_
      | refine WO_nil ?_
      | refine V_seq ?_
      | refine W_region ?_
      | refine WO_dst rfl rfl (by kernel_rfl) (by kernel_rfl) ?_
      | refine Ev_move rfl ?_
      | refine Ev_assign rfl ?_
      | refine Ev_extract rfl rfl ?_)
  refine Ev_call rfl rfl ((scuts_runs (p := [59]) (by omega)).mono ?_)
  rintro _ _ - ⟨rfl, rfl⟩
  rename_i S
  by_cases h1 : t.take 1 = [76]
  · rw [decide_eq_true (show t.take [76].length = [76] from h1)]
    by_cases h2 : sufP (trimP t [76]) [59]
    · rw [decide_eq_true h2]
      repeat' (
        first
          | refine W_seq ?_
          | refine WO_nil ?_
          | refine V_seq ?_
          | refine W_region ?_
          | refine WO_dst rfl rfl (by kernel_rfl) (by kernel_rfl) ?_
          | refine WO_guard_t rfl rfl rfl rfl rfl (by kernel_rfl) (by kernel_rfl) ?_
          | refine Ev_move rfl ?_
          | refine Ev_assign rfl ?_
          | refine Ev_extract rfl rfl ?_
          | refine Ev_pick_f rfl rfl rfl ?_
          | refine Ev_notb rfl ?_)
      refine Ev_call rfl rfl ((name_runs (by omega)).mono ?_)
      rintro _ _ - ⟨rfl, rfl⟩
      repeat' (
        first
          | refine W_seq ?_
          | refine WO_nil ?_
          | refine V_seq ?_
          | refine W_region ?_
          | refine W_skip ?_
          | refine W_ret ?_
          | refine V_ret ?_
          | refine WO_dst rfl rfl (by kernel_rfl) (by kernel_rfl) ?_
          | refine WO_guard_t rfl rfl rfl rfl rfl (by kernel_rfl) (by kernel_rfl) ?_
          | refine Ev_move rfl ?_
          | refine Ev_assign rfl ?_
          | refine Ev_pick_f rfl rfl rfl ?_
          | refine Ev_not rfl ?_
          | (refine W_cond rfl (fun hc => ?_) (fun hc => ?_) <;> (try dsimp only at hc) <;> try (exfalso; first | omega | exact hc rfl)))
      · refine V_done rfl rfl ⟨rfl, ?_⟩
        unfold clsS; rw [if_neg (fun h => by first | exact hc h.2.2 | exact absurd h.2.2 hc)]; rfl
      · refine V_done rfl rfl ⟨rfl, ?_⟩
        unfold clsS; rw [if_pos ⟨h1, h2, by first | exact Classical.not_not.1 hc | exact hc⟩]; rfl
    · rw [decide_eq_false h2]
      repeat' (
        first
          | refine W_seq ?_
          | refine WO_nil ?_
          | refine V_seq ?_
          | refine W_region ?_
          | refine W_ret ?_
          | refine V_ret ?_
          | refine W_cond_t rfl ?_
          | refine WO_dst rfl rfl (by kernel_rfl) (by kernel_rfl) ?_
          | refine WO_guard_t rfl rfl rfl rfl rfl (by kernel_rfl) (by kernel_rfl) ?_
          | refine WO_guard_f rfl rfl rfl rfl rfl rfl (by kernel_rfl) (by kernel_rfl) ?_
          | refine Ev_move rfl ?_
          | refine Ev_assign rfl ?_
          | refine Ev_extract rfl rfl ?_
          | refine Ev_pick_t rfl rfl rfl ?_
          | refine Ev_pick_f rfl rfl rfl ?_
          | refine Ev_notb rfl ?_)
      refine V_done rfl rfl ⟨rfl, ?_⟩
      unfold clsS; rw [if_neg (fun h => h2 h.2.1)]; rfl
  · rw [decide_eq_false (show ¬ t.take [76].length = [76] from h1)]
    repeat' (
      first
        | refine W_seq ?_
        | refine WO_nil ?_
        | refine V_seq ?_
        | refine W_region ?_
        | refine W_ret ?_
        | refine V_ret ?_
        | refine W_cond_t rfl ?_
        | refine WO_dst rfl rfl (by kernel_rfl) (by kernel_rfl) ?_
        | refine WO_guard_f rfl rfl rfl rfl rfl rfl (by kernel_rfl) (by kernel_rfl) ?_
        | refine Ev_move rfl ?_
        | refine Ev_assign rfl ?_
        | refine Ev_extract rfl rfl ?_
        | refine Ev_pick_t rfl rfl rfl ?_
        | refine Ev_notb rfl ?_)
    refine V_done rfl rfl ⟨rfl, ?_⟩
    unfold clsS; rw [if_neg (fun h => h1 h.1)]; rfl
theorem field_runs {S : St} {s : List Nat} (hs : s.length < 9223372036854775808) : Runs X1 10 [.str s] S fun v S' => S' = S ∧ v = .bool (decide (fieldP s)) := by
  have hl1 : (trimP s [91]).length ≤ s.length := by unfold trimP; split <;> simp
  have hf := field_cls (s := s)
  refine Runs_fn (m := 17) (by kernel_rfl) Tryd.func10 rfl (by kernel_rfl) (by kernel_rfl) ?_
  repeat (
    first
      | refine W_seq ?_
      | refine WO_nil ?_
      | refine V_seq ?_
      | refine W_region ?_
      | refine WO_dst rfl rfl (by kernel_rfl) (by kernel_rfl) ?_
      | refine Ev_move rfl ?_
      | refine Ev_assign rfl ?_)
  refine Ev_call rfl rfl ((strimp_runs (p := [91])).mono ?_)
  rintro _ _ - ⟨rfl, rfl⟩
  rename_i S
  generalize trimP s [91] = t at hl1 hf ⊢
  repeat' (
    first
      | refine W_seq ?_
      | refine WO_nil ?_
      | refine V_seq ?_
      | refine W_region ?_
      | refine W_ret ?_
      | refine WO_dst rfl rfl (by kernel_rfl) (by kernel_rfl) ?_
      | refine WO_guard_t rfl rfl rfl rfl rfl (by kernel_rfl) (by kernel_rfl) ?_
      | refine WO_guard_f rfl rfl rfl rfl rfl rfl (by kernel_rfl) (by kernel_rfl) ?_
      | refine WO_guard_x rfl rfl rfl rfl rfl (by kernel_rfl) (by kernel_rfl) ?_
      | refine Ev_move rfl ?_
      | refine Ev_assign rfl ?_
      | refine Ev_pick_t rfl rfl rfl ?_
      | refine Ev_seql rfl rfl ?_
      | (refine WO_guard_df rfl rfl rfl rfl rfl (by kernel_rfl) (by kernel_rfl) (fun hg => ?_) (fun hg => ?_) <;> (try dsimp only at hg) <;> try (exfalso; first | omega | exact hg rfl)))
  · refine Ev_call rfl rfl ((shasp_runs (p := [91])).mono ?_)
    rintro _ _ - ⟨rfl, rfl⟩
    rename_i S
    by_cases hb : t.take 1 = [91]
    · rw [decide_eq_true (show t.take [91].length = [91] from hb)]
      repeat' (
        first
          | refine WO_nil ?_
          | refine V_seq ?_
          | refine W_ret ?_
          | refine WO_dst rfl rfl (by kernel_rfl) (by kernel_rfl) ?_
          | refine WO_guard_t rfl rfl rfl rfl rfl (by kernel_rfl) (by kernel_rfl) ?_
          | refine WO_guard_f rfl rfl rfl rfl rfl rfl (by kernel_rfl) (by kernel_rfl) ?_
          | refine Ev_move rfl ?_
          | refine Ev_assign rfl ?_
          | refine Ev_pick_f rfl rfl rfl ?_
          | refine Ev_notb rfl ?_)
      refine V_done rfl rfl ⟨rfl, ?_⟩
      rw [decide_eq_false (fun h => by rcases hf.2 h with h | h; exact hg h; exact h.1 hb)]; rfl
    · rw [decide_eq_false (show ¬ t.take [91].length = [91] from hb)]
      repeat' (
        first
          | refine WO_dst rfl rfl (by kernel_rfl) (by kernel_rfl) ?_
          | refine WO_guard_t rfl rfl rfl rfl rfl (by kernel_rfl) (by kernel_rfl) ?_
          | refine Ev_move rfl ?_
          | refine Ev_notb rfl ?_)
      refine Ev_call rfl rfl ((cls_runs (by omega) hb).mono ?_)
      rintro _ _ - ⟨rfl, rfl⟩
      repeat' (
        first
          | refine WO_nil ?_
          | refine V_seq ?_
          | refine W_ret ?_
          | refine WO_dst rfl rfl (by kernel_rfl) (by kernel_rfl) ?_
          | refine WO_guard_t rfl rfl rfl rfl rfl (by kernel_rfl) (by kernel_rfl) ?_
          | refine Ev_assign rfl ?_
          | refine Ev_pick_t rfl rfl rfl ?_
          | refine Ev_pick_f rfl rfl rfl ?_
          | refine Ev_sneq rfl rfl ?_)
      refine V_done rfl rfl ⟨rfl, ?_⟩
      show AV.bool (decide (clsS t ≠ [])) = _
      congr 1
      exact decide_eq_decide.2 ⟨fun h => hf.1 (.inr ⟨hb, h⟩), fun h => by rcases hf.2 h with h | h; exact absurd h hg; exact h.2⟩
  · refine V_done rfl rfl ⟨rfl, ?_⟩
    rw [decide_eq_true (hf.1 (.inl hg))]; rfl
end Go.Proofs.YtbeigmifafmpiaaDoor
/- descr.split, Method. -/


namespace Go.Proofs.YtbeigmifafmpiaaDoor
open GX
set_option maxHeartbeats 8000000
theorem sixb_runs {S : St} {s : List Nat} : Runs X1 52 [.str s, .int .u8 59] S fun v S' => S' = S ∧ v = .int .i64 (ixb 59 s 0) := by
  refine Runs_fn (m := 8) (by kernel_rfl) Tryd.func52 rfl (by kernel_rfl) (by kernel_rfl) ?_
  repeat (
    first
      | refine W_seq ?_
      | refine WO_nil ?_
      | refine V_seq ?_
      | refine W_region ?_
      | refine WO_dst rfl rfl (by kernel_rfl) (by kernel_rfl) ?_
      | refine Ev_move rfl ?_
      | refine Ev_assign rfl ?_)
  refine Ev_call rfl rfl (Runs.mono (R := fun v S' => S' = S ∧ v = .int .i64 (ixb 59 s 0)) ?_ ?_)
  · refine Runs_fn (m := 8) (by kernel_rfl) Tryd.func74 rfl (by kernel_rfl) (by kernel_rfl) ?_
    repeat (
      first
        | refine W_seq ?_
        | refine WO_nil ?_
        | refine V_seq ?_
        | refine W_region ?_
        | refine WO_dst rfl rfl (by kernel_rfl) (by kernel_rfl) ?_
        | refine Ev_move rfl ?_
        | refine Ev_assign rfl ?_)
    refine Ev_call rfl rfl (Runs_ext (g := extByte) (v := .int .i64 (ixb 59 s 0)) (S' := S) rfl rfl (Nat.le_refl _) ?_)
    repeat (
      first
        | refine WO_nil ?_
        | refine V_seq ?_
        | refine W_ret ?_
        | refine WO_dst rfl rfl (by kernel_rfl) (by kernel_rfl) ?_
        | refine Ev_assign rfl ?_)
    refine V_done rfl rfl ?_
    exact ⟨rfl, rfl⟩
  · rintro _ _ - ⟨rfl, rfl⟩
    repeat (
      first
        | refine WO_nil ?_
        | refine V_seq ?_
        | refine W_ret ?_
        | refine WO_dst rfl rfl (by kernel_rfl) (by kernel_rfl) ?_
        | refine Ev_assign rfl ?_)
    refine V_done rfl rfl ?_
    exact ⟨rfl, rfl⟩
theorem semi_ne {c : Nat} {l : List Nat} (h : c ≠ 59) : semi (c :: l) = (semi l).map (· + 1) := by
  show (if c = 59 then some 0 else (semi l).map (· + 1)) = _
  rw [if_neg h]
theorem base1_76 (r : List Nat) : base1 (76 :: r) = match semi r with | some k => if nameP (r.take k) then k + 2 else 0 | none => 0 := rfl
theorem base1_d {d : Nat} {r : List Nat} (h : d ≠ 76) : base1 (d :: r) = if d = 73 then 1 else 0 := by rw [base1_cons, if_neg h]
theorem ite_iff {p q : Prop} [Decidable p] [Decidable q] (h : p ↔ q) (a b : Int) : (if p then a else b) = if q then a else b := by
  by_cases hp : p
  · rw [if_pos hp, if_pos (h.1 hp)]
  · rw [if_neg hp, if_neg (fun g => hp (h.2 g))]
/-- the end of the field with which a text may begin -/
def endN (s : List Nat) : Int :=
  let a : Nat := if s.take 1 = [91] then 1 else 0
  if a < s.length ∧ s.getD a 0 = 76 then ixb 59 s 0 + 1 else ((a + 1 : Nat) : Int)
theorem field_one {c : Nat} : fieldP [c] ↔ c = 73 := by
  rw [field_iff]
  constructor
  · rintro (⟨t, h, h2⟩ | h | ⟨n, h, _⟩)
    · cases h
      rcases h2 with h2 | ⟨n, h2, _⟩ <;> cases h2
    · cases h; rfl
    · have := congrArg List.length h
      simp at this
  · rintro rfl; exact .inr (.inl rfl)
theorem field_L {x : List Nat} (_ : ∀ c ∈ x, c ≠ 59) : fieldP (76 :: (x ++ [59])) ↔ nameP x := by
  rw [field_iff]
  constructor
  · rintro (⟨t, h, h2⟩ | h | ⟨n, h, h2⟩)
    · cases h
    · cases h
    · simp at h; rw [h]; exact h2
  · intro h; exact .inr (.inr ⟨x, rfl, h⟩)
theorem field_arr {s : List Nat} : fieldP (91 :: s) ↔ s = [73] ∨ ∃ n, s = 76 :: (n ++ [59]) ∧ nameP n := by
  rw [field_iff]
  constructor
  · rintro (⟨t, h, h2⟩ | h | ⟨n, h, h2⟩)
    · cases h; exact h2
    · cases h
    · cases h
  · intro h; exact .inl ⟨s, rfl, h⟩
theorem split_eq {s : List Nat} : (if endN s < 1 ∨ (s.length : Int) < endN s ∨ ¬ fieldP (s.take (endN s).toNat) then 0 else endN s) = ((oneS s : Nat) : Int) := by
  cases s with
  | nil => simp [endN, oneS]
  | cons c r =>
    by_cases hc : c = 91
    · subst hc
      rw [oneS_cons, if_pos rfl]
      cases r with
      | nil => simp [endN, base1]
      | cons d r =>
        by_cases hd : d = 76
        · subst hd
          have e : endN (91 :: 76 :: r) = ixb 59 (91 :: 76 :: r) 0 + 1 := by unfold endN; simp
          rw [e, ixb_semi]
          have e2 : semi (91 :: 76 :: r) = (semi r).map (· + 2) := by
            rw [semi_ne (by decide), semi_ne (by decide)]
            cases semi r <;> rfl
          rw [e2, base1_76]
          cases hs : semi r with
          | none => simp
          | some k =>
            obtain ⟨h1, h2, h3⟩ := semi_some hs
            have e3 : (91 :: 76 :: r).take (k + 3) = 91 :: 76 :: (r.take k ++ [59]) := by
              conv => lhs; rw [h2]
              rw [show k + 3 = (k + 1) + 2 from rfl, List.take_succ_cons, List.take_succ_cons, List.take_append]
              simp [List.length_take, Nat.min_eq_left (Nat.le_of_lt h1), List.take_take]
            have e4 : fieldP (91 :: 76 :: (r.take k ++ [59])) ↔ nameP (r.take k) := by
              rw [field_arr]
              constructor
              · rintro (h | ⟨n, h, h2⟩)
                · cases h
                · simp at h; rw [h]; exact h2
              · intro h; exact .inr ⟨_, rfl, h⟩
            simp only [Option.map_some]
            obtain ⟨z, hz⟩ : ∃ z : Int, z = ((0 + (k + 2) : Nat) : Int) + 1 := ⟨_, rfl⟩
            have hz2 : z = (k : Int) + 3 := by rw [hz]; simp; omega
            rw [← hz]
            have e5 : z.toNat = k + 3 := by omega
            rw [e5, e3, ite_iff (q := ¬ nameP (r.take k)) ⟨fun h => by rcases h with h | h | h; omega; (simp at h; omega); exact fun g => h (e4.2 g), fun h => .inr (.inr fun g => h (e4.1 g))⟩]
            by_cases hn : nameP (r.take k)
            · rw [if_neg (fun h => h hn), if_pos hn, if_neg (by omega)]; omega
            · rw [if_pos hn, if_neg hn, if_pos rfl]; rfl
        · have e : endN (91 :: d :: r) = 2 := by unfold endN; simp [hd]
          rw [e, base1_d hd]
          have e4 : fieldP ((91 :: d :: r).take ((2 : Int).toNat)) ↔ d = 73 := by
            show fieldP [91, d] ↔ _
            rw [field_arr]
            constructor
            · rintro (h | ⟨n, h, h2⟩)
              · cases h; rfl
              · have := congrArg List.length h; simp at this
            · rintro rfl; exact .inl rfl
          rw [ite_iff (q := ¬ d = 73) ⟨fun h => by rcases h with h | h | h; omega; (simp at h; omega); exact fun g => h (e4.2 g), fun h => .inr (.inr fun g => h (e4.1 g))⟩]
          by_cases hn : d = 73
          · rw [if_neg (fun h => h hn), if_pos hn]; rfl
          · rw [if_pos hn, if_neg hn]; rfl
    · rw [oneS_cons, if_neg hc]
      by_cases hd : c = 76
      · subst hd
        have e : endN (76 :: r) = ixb 59 (76 :: r) 0 + 1 := by unfold endN; simp
        rw [e, ixb_semi]
        have e2 : semi (76 :: r) = (semi r).map (· + 1) := by
          rw [semi_ne (by decide)]
        rw [e2, base1_76]
        cases hs : semi r with
        | none => simp
        | some k =>
          obtain ⟨h1, h2, h3⟩ := semi_some hs
          have e3 : (76 :: r).take (k + 2) = 76 :: (r.take k ++ [59]) := by
            conv => lhs; rw [h2]
            rw [show k + 2 = (k + 1) + 1 from rfl, List.take_succ_cons, List.take_append]
            simp [List.length_take, Nat.min_eq_left (Nat.le_of_lt h1), List.take_take]
          simp only [Option.map_some]
          obtain ⟨z, hz⟩ : ∃ z : Int, z = ((0 + (k + 1) : Nat) : Int) + 1 := ⟨_, rfl⟩
          have hz2 : z = (k : Int) + 2 := by rw [hz]; simp; omega
          rw [← hz]
          have e5 : z.toNat = k + 2 := by omega
          rw [e5, e3, ite_iff (q := ¬ nameP (r.take k)) ⟨fun h => by rcases h with h | h | h; omega; (simp at h; omega); exact fun g => h ((field_L h3).2 g), fun h => .inr (.inr fun g => h ((field_L h3).1 g))⟩]
          by_cases hn : nameP (r.take k)
          · rw [if_neg (fun h => h hn), if_pos hn]; omega
          · rw [if_pos hn, if_neg hn]; rfl
      · have e : endN (c :: r) = 1 := by unfold endN; simp [hc, hd]
        rw [e, base1_d hd]
        rw [ite_iff (q := ¬ c = 73) ⟨fun h => by rcases h with h | h | h; omega; (simp at h; omega); exact fun g => h (field_one.2 g), fun h => .inr (.inr fun g => h (field_one.1 g))⟩]
        by_cases hn : c = 73
        · rw [if_neg (fun h => h hn), if_pos hn]; rfl
        · rw [if_pos hn, if_neg hn]; rfl
theorem ixb_range (s : List Nat) : -1 ≤ ixb 59 s 0 ∧ ixb 59 s 0 < s.length := by
  rw [ixb_semi]
  cases h : semi s with
  | none => simp; omega
  | some k => have := (semi_some h).1; simp; omega
theorem split_runs {S : St} {s : List Nat} (hs : s.length < 9223372036854775808) : Runs X1 24 [.str s] S fun v S' => S' = S ∧ v = .int .i64 ((oneS s : Nat) : Int) := by
  rw [← split_eq]
  have hr := ixb_range s
  refine Runs_fn (m := 38) (by kernel_rfl) Tryd.func24 rfl (by kernel_rfl) (by kernel_rfl) ?_
  repeat' (
    first
      | refine W_seq ?_
      | refine WO_nil ?_
      | refine V_seq ?_
      | refine W_region ?_
      | refine WO_dst rfl rfl (by kernel_rfl) (by kernel_rfl) ?_
      | refine Ev_move rfl ?_
      | refine Ev_assign rfl ?_)
  refine Ev_call rfl rfl ((shasp_runs (p := [91])).mono ?_)
  rintro _ _ - ⟨rfl, rfl⟩
  rename_i S
  obtain ⟨a, ha, hae⟩ : ∃ a : Nat, a ≤ 1 ∧ (endN s = if a < s.length ∧ s.getD a 0 = 76 then ixb 59 s 0 + 1 else ((a + 1 : Nat) : Int)) ∧ a = if s.take 1 = [91] then 1 else 0 := ⟨if s.take 1 = [91] then 1 else 0, by split <;> omega, rfl, rfl⟩
  repeat' (
    first
      | refine WO_nil ?_
      | refine V_seq ?_)
  refine W_cut (fun l' T => T = S ∧ sub [(3, .int .i64 ((a : Nat) : Int)), (0, .str s)] l') ?_ ?_
  · obtain ⟨_, hae⟩ := hae
    by_cases hb : s.take 1 = [91]
    · rw [decide_eq_true (show s.take [91].length = [91] from hb)]
      rw [if_pos hb] at hae
      subst hae
      repeat' (
        first
          | refine WO_nil ?_
          | refine W_region ?_
          | refine W_cond_t rfl ?_
          | refine WO_dst rfl rfl (by kernel_rfl) (by kernel_rfl) ?_
          | refine Ev_assign rfl ?_)
      exact V_mid ⟨rfl, rfl, rfl, trivial⟩
    · rw [decide_eq_false (show ¬ s.take [91].length = [91] from hb)]
      rw [if_neg hb] at hae
      subst hae
      repeat' (
        first
          | refine W_skip ?_
          | refine W_cond_f rfl ?_)
      exact V_mid ⟨rfl, rfl, rfl, trivial⟩
  obtain ⟨hae, _⟩ := hae
  rintro l' T ⟨rfl, hsub⟩
  refine V_weak hsub ?_
  repeat' (
    first
      | refine W_seq ?_
      | refine WO_nil ?_
      | refine V_seq ?_
      | refine W_region ?_
      | refine WO_dst rfl rfl (by kernel_rfl) (by kernel_rfl) ?_
      | refine WO_guard_t rfl rfl rfl rfl rfl (by kernel_rfl) (by kernel_rfl) ?_
      | refine WO_guard_f rfl rfl rfl rfl rfl rfl (by kernel_rfl) (by kernel_rfl) ?_
      | refine Ev_index rfl rfl rfl rfl (get_some (by first | omega | (dsimp only; omega))) ?_
      | refine Ev_move rfl ?_
      | refine Ev_assign rfl ?_
      | refine Ev_pick_t rfl rfl rfl ?_
      | refine Ev_pick_f rfl rfl rfl ?_
      | refine Ev_lssN rfl rfl ?_
      | refine Ev_eqlN rfl rfl ?_
      | refine Ev_len_str rfl rfl rfl rfl rfl ?_
      | refine Ev_addN rfl rfl (by simp only [lim]; omega) ?_
      | (refine WO_guard_dt rfl rfl rfl rfl rfl (by kernel_rfl) (by kernel_rfl) (fun hg => ?_) (fun hg => ?_) <;> (try dsimp only at hg) <;> try (exfalso; first | omega | exact hg rfl)))
  all_goals
    refine W_cut (fun l' T' => T' = T ∧ sub [(4, .int .i64 (endN s)), (0, .str s)] l') ?_ ?_
    · first
        | (by_cases h76 : s.getD a 0 = 76
           · rw [if_pos ⟨by omega, h76⟩] at hae
             rw [decide_eq_true h76]
             repeat' (
               first
                 | refine W_region ?_
                 | refine W_cond_t rfl ?_
                 | refine WO_dst rfl rfl (by kernel_rfl) (by kernel_rfl) ?_
                 | refine Ev_move rfl ?_)
             refine Ev_call rfl rfl (sixb_runs.mono ?_)
             rintro _ _ - ⟨rfl, rfl⟩
             repeat' (
               first
                 | refine WO_nil ?_
                 | refine WO_dst rfl rfl (by kernel_rfl) (by kernel_rfl) ?_
                 | refine Ev_assign rfl ?_
                 | refine Ev_add rfl rfl (by simp only [inR]; omega) ?_)
             exact V_mid ⟨rfl, by show some (AV.int .i64 (ixb 59 s 0 + 1)) = _; rw [hae], rfl, trivial⟩
           · rw [if_neg (fun h => h76 h.2)] at hae
             rw [decide_eq_false h76]
             repeat' (
               first
                 | refine W_skip ?_
                 | refine W_cond_f rfl ?_)
             exact V_mid ⟨rfl, by rw [hae]; rfl, rfl, trivial⟩)
        | (rw [if_neg (fun h => by have := h.1; omega)] at hae
           repeat' (
             first
               | refine W_skip ?_
               | refine W_cond_f rfl ?_)
           exact V_mid ⟨rfl, by rw [hae]; rfl, rfl, trivial⟩)
    · rintro l'' T' ⟨rfl, hsub⟩
      refine V_weak hsub ?_
      generalize endN s = z
      by_cases hz : z < 1
      · rw [if_pos (.inl hz)]
        repeat' (
          first
            | refine W_seq ?_
            | refine WO_nil ?_
            | refine V_seq ?_
            | refine W_region ?_
            | refine W_ret ?_
            | refine V_ret ?_
            | refine W_cond_t rfl ?_
            | refine WO_dst rfl rfl (by kernel_rfl) (by kernel_rfl) ?_
            | refine WO_guard_f rfl rfl rfl rfl rfl rfl (by kernel_rfl) (by kernel_rfl) ?_
            | refine Ev_move rfl ?_
            | refine Ev_assign rfl ?_
            | refine Ev_pick_t rfl rfl rfl ?_
            | refine Ev_lss rfl rfl ?_
            | (refine WO_guard_df rfl rfl rfl rfl rfl (by kernel_rfl) (by kernel_rfl) (fun hg => ?_) (fun hg => ?_) <;> (try dsimp only at hg) <;> try (exfalso; first | omega | exact hg rfl)))
        refine V_done rfl rfl ?_
        exact ⟨rfl, rfl⟩
      · obtain ⟨m, rfl⟩ : ∃ m : Nat, z = (m : Int) := ⟨z.toNat, by omega⟩
        rw [Int.toNat_natCast]
        repeat' (
          first
            | refine W_seq ?_
            | refine WO_nil ?_
            | refine V_seq ?_
            | refine W_region ?_
            | refine W_ret ?_
            | refine V_ret ?_
            | refine W_cond_t rfl ?_
            | refine WO_dst rfl rfl (by kernel_rfl) (by kernel_rfl) ?_
            | refine WO_guard_t rfl rfl rfl rfl rfl (by kernel_rfl) (by kernel_rfl) ?_
            | refine WO_guard_f rfl rfl rfl rfl rfl rfl (by kernel_rfl) (by kernel_rfl) ?_
            | refine Ev_slice_str (lo' := none) (hi' := some (.int .i64 ((m : Nat) : Int))) (mx' := none) rfl rfl rfl rfl rfl rfl (str_hi (by omega)) ?_
            | refine Ev_move rfl ?_
            | refine Ev_assign rfl ?_
            | refine Ev_pick_t rfl rfl rfl ?_
            | refine Ev_pick_f rfl rfl rfl ?_
            | refine Ev_lssN rfl rfl ?_
            | refine Ev_gtrN rfl rfl ?_
            | refine Ev_len_str rfl rfl rfl rfl rfl ?_
            | (refine WO_guard_df rfl rfl rfl rfl rfl (by kernel_rfl) (by kernel_rfl) (fun hg => ?_) (fun hg => ?_) <;> (try dsimp only at hg) <;> try (exfalso; first | omega | exact hg rfl)))
        all_goals first
          | (refine V_done rfl rfl ⟨rfl, ?_⟩
             rw [if_pos (by omega)]; rfl)
          | (refine Ev_call rfl rfl ((field_runs (by rw [List.length_take]; omega)).mono ?_)
             rintro _ _ - ⟨rfl, rfl⟩
             repeat' (
               first
                 | refine W_seq ?_
                 | refine WO_nil ?_
                 | refine V_seq ?_
                 | refine W_region ?_
                 | refine W_skip ?_
                 | refine W_ret ?_
                 | refine V_ret ?_
                 | refine WO_dst rfl rfl (by kernel_rfl) (by kernel_rfl) ?_
                 | refine WO_guard_t rfl rfl rfl rfl rfl (by kernel_rfl) (by kernel_rfl) ?_
                 | refine Ev_move rfl ?_
                 | refine Ev_assign rfl ?_
                 | refine Ev_pick_f rfl rfl rfl ?_
                 | refine Ev_not rfl ?_
                 | (refine W_cond rfl (fun hc => ?_) (fun hc => ?_) <;> (try dsimp only at hc) <;> try (exfalso; first | omega | exact hc rfl)))
             · refine V_done rfl rfl ⟨rfl, ?_⟩
               rw [if_pos (.inr (.inr hc))]; rfl
             · refine V_done rfl rfl ⟨rfl, ?_⟩
               rw [if_neg (fun h => by rcases h with h | h | h; omega; omega; exact hc h)]; rfl)
end Go.Proofs.YtbeigmifafmpiaaDoor
/- Texts as runes, and their bytes in mutf: plain definitions. -/

namespace Go.Proofs.YtbeigmifafmpiaaDoor
open GX
theorem dec_pos (l : List Nat) : 1 ≤ (decodeR l).2 := by
  unfold decodeR
  split
  · exact Nat.le_refl _
  · dsimp only
    repeat' split
    all_goals simp
theorem dec_lt (l : List Nat) : (decodeR l).1 < 1114112 := by
  unfold decodeR
  split
  · simp [Utf8.runeError]
  · dsimp only
    split
    · rename_i h; dsimp only; omega
    · split
      · split
        · dsimp only; omega
        · simp [Utf8.runeError]
      · split
        · split
          · dsimp only; omega
          · simp [Utf8.runeError]
        · split
          · split
            · rename_i h
              simp only [Bool.and_eq_true, Utf8.valid] at h
              dsimp only
              simp at h ⊢
              omega
            · simp [Utf8.runeError]
          · simp [Utf8.runeError]
theorem cont_len {l : List Nat} {k : Nat} (h : (l.getD k 0 / 64 == 2) = true) : k < l.length := by
  rcases Nat.lt_or_ge k l.length with hk | hk
  · exact hk
  · rw [List.getD_eq_getElem?_getD, List.getElem?_eq_none hk] at h; cases h
theorem dec_le {l : List Nat} (h : l ≠ []) : (decodeR l).2 ≤ l.length := by
  cases l with
  | nil => exact absurd rfl h
  | cons b t =>
    unfold decodeR
    dsimp only
    split
    · simp
    · split
      · rename_i h1
        simp only [Bool.and_eq_true] at h1
        have := cont_len h1.2
        split <;> simp <;> omega
      · split
        · rename_i h1
          simp only [Bool.and_eq_true] at h1
          have := cont_len h1.2
          split <;> simp <;> omega
        · split
          · rename_i h1
            simp only [Bool.and_eq_true] at h1
            have := cont_len h1.2
            split <;> simp <;> omega
          · simp
/-- the runes of a text -/
def runesS (l : List Nat) : List Nat :=
  match l with
  | [] => []
  | b :: t => (decodeR (b :: t)).1 :: runesS ((b :: t).drop (decodeR (b :: t)).2)
termination_by l.length
decreasing_by have := dec_pos (b :: t); simp only [List.length_drop, List.length_cons]; omega
theorem runesS_nil : runesS [] = [] := by unfold runesS; rfl
theorem runesS_ne {l : List Nat} (h : l ≠ []) : runesS l = (decodeR l).1 :: runesS (l.drop (decodeR l).2) := by
  cases l with
  | nil => exact absurd rfl h
  | cons b t => rw [runesS]
theorem runesS_lt {l : List Nat} : ∀ c ∈ runesS l, c < 1114112 := by
  induction l using runesS.induct with
  | case1 => rw [runesS_nil]; simp
  | case2 b t ih =>
    rw [runesS_ne (by simp)]
    intro c hc
    rcases List.mem_cons.1 hc with h | h
    · rw [h]; exact dec_lt _
    · exact ih c h
theorem runesS_len {l : List Nat} : (runesS l).length ≤ l.length := by
  induction l using runesS.induct with
  | case1 => rw [runesS_nil]; simp
  | case2 b t ih =>
    rw [runesS_ne (by simp)]
    have := dec_pos (b :: t)
    simp only [List.length_cons, List.length_drop] at ih ⊢
    omega
theorem runesFrom_eq {n : Nat} {l : List Nat} (h : l.length ≤ n) : runesFrom n l = (runesS l).map fun c => .int .i32 ((c : Nat) : Int) := by
  induction n generalizing l with
  | zero => cases List.eq_nil_of_length_eq_zero (Nat.le_zero.1 h); rw [runesS_nil]; rfl
  | succ n ih =>
    cases l with
    | nil => rw [runesS_nil]; rfl
    | cons b t =>
      rw [runesS_ne (by simp)]
      unfold runesFrom
      dsimp only
      rw [ih (by have := dec_pos (b :: t); simp only [List.length_cons, List.length_drop] at h ⊢; omega)]
      rfl
def unitL (r : Nat) : List Nat :=
  if 0 < r ∧ r < 128 then [r] else if r < 2048 then [192 + r / 64, 128 + r % 64] else [224 + r / 4096, 128 + r / 64 % 64, 128 + r % 64]
def enc1 (r : Nat) : List Nat :=
  if 65535 < r then unitL (55296 + (r - 65536) / 1024) ++ unitL (56320 + (r - 65536) % 1024) else unitL r
/-- a text's bytes in mutf -/
def encS (l : List Nat) : List Nat := (runesS l).flatMap enc1
theorem encS_nil : encS [] = [] := by unfold encS; rw [runesS_nil]; rfl
theorem encS_ne {l : List Nat} (h : l ≠ []) : encS l = enc1 (decodeR l).1 ++ encS (l.drop (decodeR l).2) := by
  unfold encS; rw [runesS_ne h]; rfl
theorem unitL_len (r : Nat) : (unitL r).length ≤ 3 := by unfold unitL; (repeat' split) <;> simp
theorem enc1_len (r : Nat) : (enc1 r).length ≤ 6 := by
  unfold enc1
  split
  · have h1 := unitL_len (55296 + (r - 65536) / 1024); have h2 := unitL_len (56320 + (r - 65536) % 1024); simp only [List.length_append]; omega
  · have := unitL_len r; omega
theorem encS_len (l : List Nat) : (encS l).length ≤ 6 * l.length := by
  induction l using runesS.induct with
  | case1 => rw [encS_nil]; simp
  | case2 b t ih =>
    rw [encS_ne (by simp)]
    have := dec_pos (b :: t)
    have := enc1_len (decodeR (b :: t)).1
    simp only [List.length_cons, List.length_drop, List.length_append] at ih ⊢
    omega
/-- is it UTF-8? -/
noncomputable def vS (l : List Nat) : Bool := Lib.validD (l.map UInt8.ofNat)
/-! memory -/
/-- a slice of bytes of its own -/
abbrev Ow (S : St) (v : AV) (l : List Nat) : Prop := Own S v 5 1 (sbytes l) l.length
/-- what a run leaves as it was: the blocks below the number, but one slice's -/
structure Fr (S S' : St) (v : AV) (k : Nat) : Prop where
  le : S.n ≤ S'.n
  n : S'.n ≤ S.n + k
  ok : Sok S'
  same : ∀ c, blkOf v ≠ some c → c < S.n → S'.h.get c = S.h.get c
end Go.Proofs.YtbeigmifafmpiaaDoor
/- descr.Method; caraferef2's one, Field, Method. -/



namespace Go.Proofs.YtbeigmifafmpiaaDoor
open GX
set_option maxHeartbeats 8000000
/-- the fields with which a text begins, at most so many, and the rest -/
def fieldsM : Nat → List Nat → List (List Nat) × List Nat
  | 0, s => ([], s)
  | k + 1, s => if oneS s = 0 then ([], s) else (s.take (oneS s) :: (fieldsM k (s.drop (oneS s))).1, (fieldsM k (s.drop (oneS s))).2)
theorem fieldsM_s (k : Nat) (s : List Nat) : fieldsM (k + 1) s = if oneS s = 0 then ([], s) else (s.take (oneS s) :: (fieldsM k (s.drop (oneS s))).1, (fieldsM k (s.drop (oneS s))).2) := rfl
theorem fieldsM_stop {s : List Nat} (h : oneS s = 0) : ∀ k, fieldsM k s = ([], s)
  | 0 => rfl
  | k + 1 => by unfold fieldsM; rw [if_pos h]
theorem fieldsM_add : ∀ (a b : Nat) (s : List Nat), fieldsM (a + b) s = ((fieldsM a s).1 ++ (fieldsM b (fieldsM a s).2).1, (fieldsM b (fieldsM a s).2).2)
  | 0, b, s => by simp [fieldsM]
  | a + 1, b, s => by
    rw [show a + 1 + b = (a + b) + 1 by omega]
    by_cases h : oneS s = 0
    · rw [fieldsM_stop h, fieldsM_stop h, fieldsM_stop h]; simp
    · rw [fieldsM_s, fieldsM_s, if_neg h, if_neg h]
      rw [fieldsM_add a b]; simp
theorem fieldsM_len : ∀ (k : Nat) (s : List Nat), (fieldsM k s).1.length ≤ k ∧ (fieldsM k s).2.length ≤ s.length
  | 0, s => by simp [fieldsM]
  | k + 1, s => by
    unfold fieldsM
    have := fieldsM_len k (s.drop (oneS s))
    split
    · simp
    · simp only [List.length_cons, List.length_drop] at this ⊢; omega
theorem fieldsM_next {n : Nat} {s : List Nat} : fieldsM (n + 1) s = if oneS (fieldsM n s).2 = 0 then fieldsM n s else ((fieldsM n s).1 ++ [(fieldsM n s).2.take (oneS (fieldsM n s).2)], (fieldsM n s).2.drop (oneS (fieldsM n s).2)) := by
  rw [fieldsM_add n 1]
  by_cases h : oneS (fieldsM n s).2 = 0
  · rw [if_pos h, fieldsM_stop h]; simp
  · rw [if_neg h]
    have e : fieldsM 1 (fieldsM n s).2 = ([(fieldsM n s).2.take (oneS (fieldsM n s).2)], (fieldsM n s).2.drop (oneS (fieldsM n s).2)) := by
      rw [fieldsM_s, if_neg h]; rfl
    rw [e]
/-- what a method takes and answers -/
def methS (s : List Nat) : Option (List (List Nat) × List Nat) :=
  if s.take 1 = [40] ∧ (fieldsM 8 (s.drop 1)).2.take 1 = [41] ∧ ((fieldsM 8 (s.drop 1)).2.drop 1 = [86] ∨ fieldP ((fieldsM 8 (s.drop 1)).2.drop 1)) then
    some ((fieldsM 8 (s.drop 1)).1, (fieldsM 8 (s.drop 1)).2.drop 1) else none
def methR (s : List Nat) : List (List Nat) × List Nat := match methS s with | some x => x | none => ([], [])
/-- what a function that reads a method answers -/
structure MethO (S : St) (s : List Nat) (k : Nat) (v : AV) (S' : St) : Prop where
  fr : Fr S S' .nils k
  val : ∃ sl, v = .tup [sl, .str (methR s).2, .bool (decide ((methS s).isSome = true))] ∧ Own S' sl 9 1 ((methR s).1.map .str) (methR s).1.length ∧ ∀ c, blkOf sl = some c → S.n ≤ c
theorem trimP_one {s : List Nat} {c : Nat} : trimP s [c] = if s.take 1 = [c] then s.drop 1 else s := rfl
theorem base1_le : ∀ (s : List Nat), base1 s ≤ s.length
  | [] => Nat.le_refl _
  | c :: r => by
    rw [base1_cons]
    split
    · simp
    · split
      · split
        · rename_i k hk
          have := (semi_some hk).1
          split
          · simp; omega
          · simp
        · simp
      · simp
theorem oneS_le (s : List Nat) : oneS s ≤ s.length := by
  cases s with
  | nil => simp [oneS]
  | cons c r =>
    rw [oneS_cons]
    split
    · split
      · simp
      · have := base1_le r; simp; omega
    · exact base1_le _
theorem strs_rd {S : St} {q : Nat} {x : List Nat} (h : S.h.get q = some (.cells 9 [.str x] false)) : Rd S (.slice q 0 1 (.ex 1)) 1 [.str x] 1 := Rd_lit h rfl rfl
theorem method_runs {S : St} {s : List Nat} (hok : Sok S) (hs : s.length < 9223372036854775808) (hn : S.n + 20 ≤ 1000000000) : Runs X1 13 [.str s] S (MethO S s 18) := by
  refine Runs_fn (m := 54) (by kernel_rfl) Tryd.func13 rfl (by kernel_rfl) (by kernel_rfl) ?_
  repeat' (
    first
      | refine W_seq ?_
      | refine WO_nil ?_
      | refine V_seq ?_
      | refine W_region ?_
      | refine W_scope ?_
      | refine WO_dst rfl rfl (by kernel_rfl) (by kernel_rfl) ?_
      | refine Ev_move rfl ?_
      | refine Ev_assign rfl ?_)
  refine Ev_call rfl rfl ((scutp_runs (p := [40])).mono ?_)
  rintro _ _ - ⟨rfl, rfl⟩
  rename_i S
  by_cases hb : s.take 1 = [40]
  · rw [decide_eq_true (show s.take [40].length = [40] from hb), trimP_one, if_pos hb]
    repeat' (
      first
        | refine W_seq ?_
        | refine WO_nil ?_
        | refine V_seq ?_
        | refine W_region ?_
        | refine W_block ?_
        | refine W_skip ?_
        | refine W_label ?_
        | refine W_cond_f rfl ?_
        | refine WO_dst rfl rfl (by kernel_rfl) (by kernel_rfl) ?_
        | refine Ev_move rfl ?_
        | refine Ev_assign rfl ?_
        | refine Ev_extract rfl rfl ?_
        | refine Ev_notb rfl ?_)
    refine W_inv (fun a : Nat × AV => [(5, .str (fieldsM a.1 (s.drop 1)).2), (7, a.2)]) (fun a T => Fr S T .nils (2 * a.1) ∧ (fieldsM a.1 (s.drop 1)).1.length = a.1 ∧ a.1 ≤ 8 ∧ Own T a.2 9 1 ((fieldsM a.1 (s.drop 1)).1.map .str) a.1 ∧ ∀ c, blkOf a.2 = some c → S.n ≤ c) (fun a => 9 - a.1) ?_ (0, .nils) ⟨⟨Nat.le_refl _, Nat.le_refl _, hok, fun _ _ _ => rfl⟩, rfl, by simp, .inl ⟨rfl, rfl, rfl⟩, fun c hc => by cases hc⟩ ⟨rfl, rfl, trivial⟩
    rintro ⟨i, w⟩ T ⟨hF, hl, hi, how, hbw⟩ back
    dsimp only at hF hl hi how hbw back
    have hq := (fieldsM_len i (s.drop 1)).2
    rw [List.length_drop] at hq
    have gn := hF.n
    have gl := hF.le
    repeat' (
      first
        | refine W_seq ?_
        | refine W_region ?_
        | refine W_block ?_
        | refine WO_dst rfl rfl (by kernel_rfl) (by kernel_rfl) ?_
        | refine Ev_move rfl ?_)
    refine Ev_call rfl rfl ((split_runs (by dsimp only; omega)).mono ?_)
    rintro _ _ - ⟨rfl, rfl⟩
    rename_i T
    have hnx := fieldsM_next (n := i) (s := s.drop 1)
    obtain ⟨q, hqe⟩ : ∃ q, q = (fieldsM i (s.drop 1)).2 := ⟨_, rfl⟩
    rw [← hqe] at hq hnx
    have hle := oneS_le q
    dsimp only
    rw [← hqe]
    repeat' (
      first
        | refine W_seq ?_
        | refine WO_nil ?_
        | refine V_seq ?_
        | refine W_region ?_
        | refine W_block ?_
        | refine W_exit ?_
        | refine V_block_x rfl ?_
        | refine V_block_y rfl ?_
        | refine V_loop_x ?_
        | refine W_cond_f rfl ?_
        | refine WO_dst rfl rfl (by kernel_rfl) (by kernel_rfl) ?_
        | refine WO_guard_t rfl rfl rfl rfl rfl (by kernel_rfl) (by kernel_rfl) ?_
        | refine WO_guard_f rfl rfl rfl rfl rfl rfl (by kernel_rfl) (by kernel_rfl) ?_
        | refine Ev_len rfl rfl rfl rfl rfl how.rd.len ?_
        | refine Ev_slice_str (lo' := none) (hi' := some (.int .i64 ((oneS q : Nat) : Int))) (mx' := none) rfl rfl rfl rfl rfl rfl (str_hi (by omega)) ?_
        | refine Ev_move rfl ?_
        | refine Ev_assign rfl ?_
        | refine Ev_pick_t rfl rfl rfl ?_
        | refine Ev_pick_f rfl rfl rfl ?_
        | refine Ev_lssN rfl rfl ?_
        | refine Ev_gtrN rfl rfl ?_
        | (refine WO_guard_dt rfl rfl rfl rfl rfl (by kernel_rfl) (by kernel_rfl) (fun hg => ?_) (fun hg => ?_) <;> (try dsimp only at hg) <;> try (exfalso; first | omega | exact hg rfl))
        | (refine W_cond rfl (fun hc => ?_) (fun hc => ?_) <;> (try dsimp only at hc) <;> try (exfalso; first | omega | exact hc rfl)))
    · refine Ev_buildSlice rfl rfl rfl rfl rfl rfl hF.ok (by omega) ?_
      intro T1 n1 ok1 q1 f1
      have how1 := how.keep (fun c hc => f1 c (how.lt hF.ok hc))
      repeat (
        refine WO_dst rfl rfl (by kernel_rfl) (by kernel_rfl) ?_)
      refine Ev_append rfl rfl rfl rfl rfl rfl rfl rfl rfl rfl how1 (strs_rd q1) (by simp [AV.one]) ok1 (by omega) (by dsimp only; omega) (by omega) ?_
      intro w2 T2 gl2 gn2 gok2 how2 gf2 gb2
      rw [if_neg (by omega)] at hnx
      repeat (
        first
          | refine WO_nil ?_
          | refine V_seq ?_
          | refine W_region ?_
          | refine V_block ?_
          | refine WO_dst rfl rfl (by kernel_rfl) (by kernel_rfl) ?_
          | refine Ev_slice_str (lo' := some (.int .i64 ((oneS q : Nat) : Int))) (hi' := none) (mx' := none) rfl rfl rfl rfl rfl rfl (str_lo (by omega)) ?_
          | refine Ev_move rfl ?_
          | refine Ev_assign rfl ?_)
      refine back (i + 1, w2) T2 _ (by dsimp only; omega) ⟨⟨by omega, by dsimp only; omega, gok2, fun c _ h => ?_⟩, ?_, by dsimp only; omega, ?_, fun c hc => ?_⟩ ⟨?_, rfl, trivial⟩
      · rw [gf2 c (fun e => by have := hbw c e; omega) (by omega), f1 c (by omega), hF.same c (by simp [blkOf]) h]
      · dsimp only; rw [hnx, List.length_append, hl]; rfl
      · dsimp only; rw [hnx]; exact how2.eq (by simp) rfl
      · rcases gb2 c hc with h | h
        · exact hbw c h
        · omega
      · show some (AV.str _) = some (AV.str (fieldsM (i + 1) (s.drop 1)).2)
        rw [hnx]
    all_goals
      have he : fieldsM 8 (s.drop 1) = ((fieldsM i (s.drop 1)).1, q) := by
        have h8 : i = 8 ∨ oneS q = 0 := by omega
        rcases h8 with h8 | h8
        · rw [← h8, hqe]
        · have := fieldsM_add i (8 - i) (s.drop 1)
          rw [show i + (8 - i) = 8 by omega, ← hqe, fieldsM_stop h8] at this
          rw [this]; simp
      refine Ev_call rfl rfl ((scutp_runs (p := [41])).mono ?_)
      rintro _ _ - ⟨rfl, rfl⟩
      rename_i T
      by_cases hb2 : q.take 1 = [41]
      · rw [decide_eq_true (show q.take [41].length = [41] from hb2), trimP_one, if_pos hb2]
        obtain ⟨res, hres⟩ : ∃ res, res = q.drop 1 := ⟨_, rfl⟩
        rw [← hres]
        have hrl : res.length ≤ q.length := by rw [hres, List.length_drop]; omega
        by_cases hv : res = [86]
        · have e : methS s = some ((fieldsM i (s.drop 1)).1, res) := by
            unfold methS; rw [he]; dsimp only
            rw [← hres, if_pos ⟨hb, hb2, .inl hv⟩]
          subst hv
          repeat' (
            first
              | refine W_seq ?_
              | refine WO_nil ?_
              | refine V_seq ?_
              | refine W_region ?_
              | refine W_skip ?_
              | refine W_ret ?_
              | refine W_cond_f rfl ?_
              | refine WO_dst rfl rfl (by kernel_rfl) (by kernel_rfl) ?_
              | refine WO_guard_t rfl rfl rfl rfl rfl (by kernel_rfl) (by kernel_rfl) ?_
              | refine WO_guard_f rfl rfl rfl rfl rfl rfl (by kernel_rfl) (by kernel_rfl) ?_
              | refine Ev_move rfl ?_
              | refine Ev_assign rfl ?_
              | refine Ev_extract rfl rfl ?_
              | refine Ev_pick_f rfl rfl rfl ?_
              | refine Ev_sneq rfl rfl ?_
              | refine Ev_notb rfl ?_)
          refine V_done rfl rfl ⟨⟨by omega, by omega, hF.ok, hF.same⟩, w, ?_, ?_, hbw⟩
          · unfold methR; rw [e]; rfl
          · unfold methR; rw [e]; exact how.eq rfl hl.symm
        · repeat' (
            first
              | refine W_seq ?_
              | refine WO_nil ?_
              | refine V_seq ?_
              | refine W_region ?_
              | refine W_skip ?_
              | refine W_ret ?_
              | refine W_cond_f rfl ?_
              | refine WO_dst rfl rfl (by kernel_rfl) (by kernel_rfl) ?_
              | refine WO_guard_t rfl rfl rfl rfl rfl (by kernel_rfl) (by kernel_rfl) ?_
              | refine WO_guard_f rfl rfl rfl rfl rfl rfl (by kernel_rfl) (by kernel_rfl) ?_
              | refine Ev_move rfl ?_
              | refine Ev_assign rfl ?_
              | refine Ev_extract rfl rfl ?_
              | refine Ev_pick_f rfl rfl rfl ?_
              | refine Ev_sneq rfl rfl ?_
              | refine Ev_notb rfl ?_
              | (refine WO_guard_dt rfl rfl rfl rfl rfl (by kernel_rfl) (by kernel_rfl) (fun hg => ?_) (fun hg => ?_) <;> (try dsimp only at hg) <;> try (exfalso; first | omega | exact hg rfl)))
          rotate_left
          · exact absurd (Classical.not_not.1 hg) hv
          refine Ev_call rfl rfl ((field_runs (by omega)).mono ?_)
          rintro _ _ - ⟨rfl, rfl⟩
          rename_i T
          by_cases hp : fieldP res
          · have e : methS s = some ((fieldsM i (s.drop 1)).1, res) := by
              unfold methS; rw [he]; dsimp only
              rw [← hres, if_pos ⟨hb, hb2, .inr hp⟩]
            rw [decide_eq_true hp]
            repeat' (
              first
                | refine W_seq ?_
                | refine WO_nil ?_
                | refine V_seq ?_
                | refine W_region ?_
                | refine W_skip ?_
                | refine W_ret ?_
                | refine W_cond_f rfl ?_
                | refine WO_dst rfl rfl (by kernel_rfl) (by kernel_rfl) ?_
                | refine WO_guard_t rfl rfl rfl rfl rfl (by kernel_rfl) (by kernel_rfl) ?_
                | refine Ev_move rfl ?_
                | refine Ev_assign rfl ?_
                | refine Ev_pick_t rfl rfl rfl ?_
                | refine Ev_pick_f rfl rfl rfl ?_
                | refine Ev_notb rfl ?_)
            refine V_done rfl rfl ⟨⟨by omega, by omega, hF.ok, hF.same⟩, w, ?_, ?_, hbw⟩
            · unfold methR; rw [e]; rfl
            · unfold methR; rw [e]; exact how.eq rfl hl.symm
          · have e : methS s = none := by
              unfold methS; rw [he]; dsimp only
              rw [← hres, if_neg (fun h => by rcases h.2.2 with h | h; exact hv h; exact hp h)]
            rw [decide_eq_false hp]
            repeat' (
              first
                | refine W_seq ?_
                | refine WO_nil ?_
                | refine V_seq ?_
                | refine W_region ?_
                | refine W_ret ?_
                | refine V_ret ?_
                | refine W_cond_t rfl ?_
                | refine WO_dst rfl rfl (by kernel_rfl) (by kernel_rfl) ?_
                | refine WO_guard_t rfl rfl rfl rfl rfl (by kernel_rfl) (by kernel_rfl) ?_
                | refine Ev_assign rfl ?_
                | refine Ev_pick_t rfl rfl rfl ?_
                | refine Ev_pick_f rfl rfl rfl ?_
                | refine Ev_notb rfl ?_)
            refine V_done rfl rfl ⟨⟨by omega, by omega, hF.ok, hF.same⟩, .nils, ?_, ?_, fun c hc => by cases hc⟩
            · unfold methR; rw [e]; rfl
            · unfold methR; rw [e]; exact .inl ⟨rfl, rfl, rfl⟩
      · rw [decide_eq_false (show ¬ q.take [41].length = [41] from hb2)]
        have e : methS s = none := by
          unfold methS; rw [he]; dsimp only
          rw [if_neg (fun h => hb2 h.2.1)]
        repeat' (
          first
            | refine W_seq ?_
            | refine WO_nil ?_
            | refine V_seq ?_
            | refine W_region ?_
            | refine W_ret ?_
            | refine V_ret ?_
            | refine W_cond_t rfl ?_
            | refine WO_dst rfl rfl (by kernel_rfl) (by kernel_rfl) ?_
            | refine WO_guard_f rfl rfl rfl rfl rfl rfl (by kernel_rfl) (by kernel_rfl) ?_
            | refine WO_guard_x rfl rfl rfl rfl rfl (by kernel_rfl) (by kernel_rfl) ?_
            | refine Ev_move rfl ?_
            | refine Ev_assign rfl ?_
            | refine Ev_extract rfl rfl ?_
            | refine Ev_pick_t rfl rfl rfl ?_
            | refine Ev_notb rfl ?_)
        refine V_done rfl rfl ⟨⟨by omega, by omega, hF.ok, hF.same⟩, .nils, ?_, ?_, fun c hc => by cases hc⟩
        · unfold methR; rw [e]; rfl
        · unfold methR; rw [e]; exact .inl ⟨rfl, rfl, rfl⟩
  · rw [decide_eq_false (show ¬ s.take [40].length = [40] from hb)]
    repeat' (
      first
        | refine W_seq ?_
        | refine WO_nil ?_
        | refine V_seq ?_
        | refine W_region ?_
        | refine W_ret ?_
        | refine V_ret ?_
        | refine W_cond_t rfl ?_
        | refine WO_dst rfl rfl (by kernel_rfl) (by kernel_rfl) ?_
        | refine Ev_move rfl ?_
        | refine Ev_assign rfl ?_
        | refine Ev_extract rfl rfl ?_
        | refine Ev_notb rfl ?_)
    have e : methS s = none := by unfold methS; rw [if_neg (fun h => hb h.1)]
    refine V_done rfl rfl ⟨⟨Nat.le_refl _, by omega, hok, fun _ _ _ => rfl⟩, .nils, ?_, ?_, fun c hc => by cases hc⟩
    · unfold methR; rw [e]; rfl
    · unfold methR; rw [e]; exact .inl ⟨rfl, rfl, rfl⟩
theorem str_lh {X : X} {t : Nat} {k k' : IntKind} {s : List Nat} {lo hi : Nat} (h : lo ≤ hi) (h2 : hi ≤ s.length) : aslice X t (.str s) (some (.int k ((lo : Nat) : Int))) (some (.int k' ((hi : Nat) : Int))) none = some (.str ((s.take hi).drop lo)) := by
  unfold aslice bounds
  have e1 : bound (.int k' ((hi : Nat) : Int)) s.length = some hi := by
    show (bif Nat.ble hi s.length then some hi else none) = _
    rw [nble, decide_eq_true h2]; rfl
  have e2 : bound (.int k ((lo : Nat) : Int)) hi = some lo := by
    show (bif Nat.ble lo hi then some lo else none) = _
    rw [nble, decide_eq_true h]; rfl
  dsimp only; rw [e1]; dsimp only; rw [e2]
theorem semi_at {r : List Nat} {k : Nat} (hk : k < r.length) (h : r.getD k 0 = 59) (hn : ∀ c ∈ r.take k, c ≠ 59) : semi r = some k := by
  have e : r = r.take k ++ 59 :: r.drop (k + 1) := by
    conv => lhs; rw [← List.take_append_drop k r]
    rw [List.drop_eq_getElem_cons hk]
    have : r[k] = 59 := by rw [List.getD_eq_getElem?_getD, List.getElem?_eq_getElem hk] at h; exact h
    rw [this]
  conv => lhs; rw [e]
  rw [semi_app hn, List.length_take, Nat.min_eq_left (by omega)]
theorem semi_none : ∀ {r : List Nat}, (∀ c ∈ r, c ≠ 59) → semi r = none
  | [], _ => rfl
  | c :: r, h => by
    rw [semi_ne (h c (List.mem_cons_self ..)), semi_none (fun d hd => h d (List.mem_cons_of_mem _ hd))]; rfl
theorem one_ne {x : List Nat} (h : oneS x ≠ 0) : x ≠ [] ∧ ¬ x.take 1 = [41] := by
  cases x with
  | nil => exact absurd rfl h
  | cons c r =>
    refine ⟨by simp, fun h2 => h ?_⟩
    have : c = 41 := by simpa using h2
    subst this; rfl
theorem fields_8 {r q : List Nat} {n : Nat} (hq : q = (fieldsM n r).2) (h8 : n ≤ 8) (h0 : oneS q = 0) : fieldsM 8 r = ((fieldsM n r).1, q) := by
  have := fieldsM_add n (8 - n) r
  rw [show n + (8 - n) = 8 by omega, ← hq, fieldsM_stop h0] at this
  rw [this]; simp
theorem fields_9 {r : List Nat} {n : Nat} (h8 : 8 < n) (hl : (fieldsM n r).1.length = n) : ¬ (fieldsM 8 r).2.take 1 = [41] := by
  refine (one_ne (fun h0 => ?_)).2
  have := fieldsM_add 8 (n - 8) r
  rw [show 8 + (n - 8) = n by omega, fieldsM_stop h0] at this
  rw [this] at hl
  have h3 := (fieldsM_len 8 r).1
  simp at hl; omega
theorem meth_bad {s r q : List Nat} {n : Nat} (hr : r = s.drop 1) (hq : q = (fieldsM n r).2) (hl : (fieldsM n r).1.length = n) (h0 : oneS q = 0) (h1 : ¬ q.take 1 = [41] ∨ 8 < n ∨ ¬ (q.drop 1 = [86] ∨ fieldP (q.drop 1))) : methS s = none := by
  unfold methS
  rw [← hr]
  by_cases h8 : n ≤ 8
  · rw [fields_8 hq h8 h0]
    rw [if_neg]
    rintro ⟨_, g1, g2⟩
    rcases h1 with h1 | h1 | h1
    · exact h1 g1
    · omega
    · exact h1 g2
  · rw [if_neg]
    rintro ⟨_, g1, _⟩
    exact fields_9 (by omega) hl g1
end Go.Proofs.YtbeigmifafmpiaaDoor
/- Chapter 4: fields and methods with a name and a descriptor alone; is one among others? -/


namespace Go.Proofs.YtbeigmifafmpiaaDoor
open GX
set_option maxHeartbeats 16000000
set_option maxRecDepth 100000
structure ND where
  nm : List Nat
  ds : List Nat
  deriving DecidableEq
def ND.fc (a : ND) : List AV := [.str a.nm, .str a.ds, .bool false]
def ND.mc (a : ND) : List AV := [.str a.nm, .str a.ds, .bool false, .bool false, .int .i64 0, .int .i64 0, .nils, .nils, .nils]
theorem flat_len {α : Type} {f : α → List AV} {k : Nat} (hk : ∀ x, (f x).length = k) : ∀ l : List α, (l.flatMap f).length = l.length * k
  | [] => by simp
  | x :: l => by
    have := flat_len hk l
    rw [List.flatMap_cons, List.length_append, hk, this, List.length_cons, Nat.add_mul, Nat.one_mul, Nat.add_comm]
theorem flat_get {α : Type} {f : α → List AV} {k : Nat} (hk : ∀ x, (f x).length = k) : ∀ (l : List α) (i : Nat) (h : i < l.length), ((l.flatMap f).drop (i * k)).take k = f l[i]
  | [], i, h => by simp at h
  | x :: l, 0, _ => by
    rw [List.flatMap_cons, Nat.zero_mul, List.drop_zero, ← hk x, List.take_left]; rfl
  | x :: l, i + 1, h => by
    have := flat_get hk l i (by simpa using h)
    rw [List.flatMap_cons, Nat.add_mul, Nat.one_mul, Nat.add_comm, ← List.drop_drop]
    have e : List.drop k (f x ++ List.flatMap f l) = List.flatMap f l := by rw [← hk x, List.drop_left]
    rw [e]; exact this
theorem flat_take {α : Type} {f : α → List AV} {k : Nat} (hk : ∀ x, (f x).length = k) : ∀ (l : List α) (i : Nat), (l.flatMap f).take (i * k) = (l.take i).flatMap f
  | [], i => by simp
  | x :: l, 0 => by simp
  | x :: l, i + 1 => by
    have := flat_take hk l i
    rw [List.flatMap_cons, List.take_succ_cons, List.flatMap_cons, Nat.add_mul, Nat.one_mul, Nat.add_comm, ← hk x, List.take_length_add_append, hk x, this]
theorem fc_len (a : ND) : a.fc.length = 3 := rfl
theorem mc_len (a : ND) : a.mc.length = 9 := rfl
theorem fc_veqs (a : ND) : GX.veqs a.fc a.fc = true := by simp [ND.fc, GX.veqs, veq_str]; rfl
theorem mc_veqs (a : ND) : GX.veqs a.mc a.mc = true := by simp [ND.mc, GX.veqs, veq_str, veq_int]; exact ⟨rfl, rfl⟩
theorem fc_ones (a : ND) : a.fc.all AV.one = true := rfl
theorem mc_ones (a : ND) : a.mc.all AV.one = true := rfl
def cellsF (l : List ND) : List AV := l.flatMap ND.fc
def cellsM (l : List ND) : List AV := l.flatMap ND.mc
abbrev Fs (S : St) (v : AV) (l : List ND) : Prop := Rd S v 3 (cellsF l) l.length
abbrev Ms (S : St) (v : AV) (l : List ND) : Prop := Rd S v 9 (cellsM l) l.length
theorem sok_upd {S S' : St} {p : Nat} {b : AB} (h : Sok S) (hp : p < S.n) (hn : S'.n = S.n) (_ : S'.h.get p = some b) (hf : ∀ c, c ≠ p → S'.h.get c = S.h.get c) : Sok S' := by
  intro c x hc
  by_cases he : c = p
  · omega
  · rw [hf c he] at hc; have := h c x hc; omega
theorem Fr.tr {S T U : St} {k k' : Nat} (a : Fr S T .nils k) (b : Fr T U .nils k') : Fr S U .nils (k + k') :=
  ⟨Nat.le_trans a.le b.le, by have := a.n; have := b.n; omega, b.ok, fun c h1 h2 => by rw [b.same c h1 (by have := a.le; omega), a.same c h1 h2]⟩
theorem Fr.rd {S T : St} {k sz m : Nat} {v : AV} {cs : List AV} (a : Fr S T .nils k) (hok : Sok S) (h : Rd S v sz cs m) : Rd T v sz cs m := h.keep (fun c hc => a.same c (by simp [blkOf]) (h.lt hok hc))
theorem Fr.at {S T : St} {k b : Nat} {x : AB} (a : Fr S T .nils k) (hok : Sok S) (h : S.h.get b = some x) : T.h.get b = some x := by rw [a.same b (by simp [blkOf]) (hok _ _ h)]; exact h
theorem nd_eq {a b : ND} : a = b ↔ a.nm = b.nm ∧ a.ds = b.ds := by cases a; cases b; simp
theorem eqF_runs {S : St} {a b : ND} {q : Nat} (hok : Sok S) (hq : S.h.get q = some (.cells 29 b.fc false)) (hn : S.n + 1 ≤ 1000000000) :
    Runs X1 12 [.agg a.fc, .ptr q 0] S fun r S' => r = .bool (decide (a = b)) ∧ Fr S S' .nils 1 := by
  refine Runs_fn (m := 16) (by kernel_rfl) Tryd.func12 rfl (by kernel_rfl) (by kernel_rfl) ?_
  repeat (
    first
      | refine W_seq ?_
      | refine W_region ?_
      | refine WO_dst rfl rfl (by kernel_rfl) (by kernel_rfl) ?_)
  refine Ev_box rfl hok (by omega) ?_
  intro T hTn hTok hTq hTf
  have h2 : T.h.get S.n = some (.cells 29 a.fc false) := hTq
  have h1 : T.h.get q = some (.cells 29 b.fc false) := by rw [hTf q (hok _ _ hq)]; exact hq
  have hF : Fr S T .nils 1 := ⟨by omega, by omega, hTok, fun c _ h => hTf c h⟩
  repeat' (
    first
      | refine W_seq ?_
      | refine WO_nil ?_
      | refine V_seq ?_
      | refine W_region ?_
      | refine W_ret ?_
      | refine WO_dst rfl rfl (by kernel_rfl) (by kernel_rfl) ?_
      | refine WO_guard_t rfl rfl rfl rfl rfl (by kernel_rfl) (by kernel_rfl) ?_
      | refine WO_guard_f rfl rfl rfl rfl rfl rfl (by kernel_rfl) (by kernel_rfl) ?_
      | refine Ev_load rfl rfl rfl h2 rfl (veq_str _) ?_
      | refine Ev_load rfl rfl rfl h1 rfl (veq_str _) ?_
      | refine Ev_move rfl ?_
      | refine Ev_assign rfl ?_
      | refine Ev_pick_t rfl rfl rfl ?_
      | refine Ev_pick_f rfl rfl rfl ?_
      | refine Ev_seql rfl rfl ?_
      | refine Ev_fieldAddr rfl rfl rfl rfl rfl rfl ?_
      | (refine WO_guard_dt rfl rfl rfl rfl rfl (by kernel_rfl) (by kernel_rfl) (fun hg => ?_) (fun hg => ?_) <;> (try dsimp only at hg) <;> try (exfalso; first | omega | exact hg rfl)))
  all_goals
    refine V_done rfl rfl ⟨?_, hF⟩
    first
      | (show AV.bool (decide (a.ds = b.ds)) = _
         congr 1
         exact decide_eq_decide.2 (by rw [nd_eq]; exact ⟨fun h => ⟨by assumption, h⟩, fun h => h.2⟩))
      | (show AV.bool false = _
         have hne : ¬ a = b := fun h => by
           rw [nd_eq] at h
           exact absurd h.1 (by assumption)
         rw [decide_eq_false hne])
theorem idxF_runs {S : St} {v : AV} {l : List ND} {b : ND} {q : Nat} (hok : Sok S) (hv : Fs S v l) (hq : S.h.get q = some (.cells 29 b.fc false)) (hl : l.length ≤ 1000) (hn : S.n ≤ 900000000) :
    Runs X1 22 [v, .func (.func 12) [] [.ptr q 0]] S fun r S' => ∃ z : Int, r = .int .i64 z ∧ (0 ≤ z ↔ b ∈ l) ∧ Fr S S' .nils (2 * l.length) := by
  refine Runs_fn (m := 19) (by kernel_rfl) Tryd.func22 rfl (by kernel_rfl) (by kernel_rfl) ?_
  repeat (
    first
      | refine W_seq ?_
      | refine WO_nil ?_
      | refine V_seq ?_
      | refine W_region ?_
      | refine W_block ?_
      | refine WO_dst rfl rfl (by kernel_rfl) (by kernel_rfl) ?_
      | refine Ev_len rfl rfl rfl rfl rfl hv.len ?_
      | refine Ev_move rfl ?_
      | refine Ev_assign rfl ?_)
  refine W_inv (fun i : Nat => [(8, .int .i64 ((i : Nat) : Int)), (7, .int .i64 ((l.length : Nat) : Int)), (0, v), (1, .func (.func 12) [] [.ptr q 0])]) (fun i T => Fr S T .nils (2 * i) ∧ i ≤ l.length ∧ b ∉ l.take i) (fun i => l.length - i) ?_ 0 ⟨⟨Nat.le_refl _, Nat.le_refl _, hok, fun _ _ _ => rfl⟩, Nat.zero_le _, by simp⟩ ⟨rfl, rfl, rfl, rfl, trivial⟩
  rintro i T ⟨hF, hi, hall⟩ back
  have gn := hF.n
  have gl := hF.le
  have hv1 := hF.rd hok hv
  have hq1 := hF.at hok hq
  repeat' (
    first
      | refine W_seq ?_
      | refine WO_nil ?_
      | refine V_seq ?_
      | refine W_region ?_
      | refine W_block ?_
      | refine W_skip ?_
      | refine W_ret ?_
      | refine W_exit ?_
      | refine V_block_x rfl ?_
      | refine V_seq_x ?_
      | refine V_loop_x ?_
      | refine WO_dst rfl rfl (by kernel_rfl) (by kernel_rfl) ?_
      | refine Ev_move rfl ?_
      | refine Ev_assign rfl ?_
      | refine Ev_lssN rfl rfl ?_
      | (refine W_cond rfl (fun hc => ?_) (fun hc => ?_) <;> (try dsimp only at hc) <;> try (exfalso; first | omega | exact hc rfl)))
  · have hlt : i < l.length := by assumption
    refine Ev_indexAddr_rd rfl rfl rfl rfl rfl hv1 hlt ?_
    intro p hp
    repeat (
      refine WO_dst rfl rfl (by kernel_rfl) (by kernel_rfl) ?_)
    refine Ev_load_pt_agg rfl rfl rfl hp (by unfold cellsF; rw [flat_len fc_len]; dsimp only; omega) (flat_get fc_len l i hlt) (fc_veqs _) ?_
    repeat (
      refine WO_dst rfl rfl (by kernel_rfl) (by kernel_rfl) ?_)
    refine Ev_call rfl rfl ((eqF_runs hF.ok hq1 (by omega)).mono ?_)
    rintro _ T1 - ⟨rfl, hF1⟩
    have hF2 := hF.tr hF1
    have gn2 := hF2.n
    repeat' (
      first
        | refine W_seq ?_
        | refine WO_nil ?_
        | refine V_seq ?_
        | refine W_region ?_
        | refine W_skip ?_
        | refine W_ret ?_
        | refine V_ret ?_
        | refine V_block ?_
        | refine WO_dst rfl rfl (by kernel_rfl) (by kernel_rfl) ?_
        | refine Ev_move rfl ?_
        | refine Ev_assign rfl ?_
        | refine Ev_addN rfl rfl (by simp only [lim]; omega) ?_
        | (refine W_cond rfl (fun hc => ?_) (fun hc => ?_) <;> (try dsimp only at hc) <;> try (exfalso; first | omega | exact hc rfl)))
    · have hm : l[i] = b := by assumption
      refine V_done rfl rfl ⟨_, rfl, ⟨fun _ => ?_, fun _ => by omega⟩, ⟨hF2.le, by omega, hF2.ok, hF2.same⟩⟩
      rw [← hm]; exact List.getElem_mem _
    · have hm : ¬ l[i] = b := by assumption
      refine back (i + 1) T1 _ (by omega) ⟨⟨hF2.le, by omega, hF2.ok, hF2.same⟩, by omega, fun d => ?_⟩ ⟨rfl, rfl, rfl, rfl, trivial⟩
      rw [List.take_succ_eq_append_getElem hlt] at d
      rcases List.mem_append.1 d with h | h
      · exact hall h
      · rw [List.mem_singleton] at h; exact hm h.symm
  · refine V_done rfl rfl ⟨-1, rfl, ⟨fun h => by omega, fun h => absurd h ?_⟩, ⟨by omega, by omega, hF.ok, hF.same⟩⟩
    have : l.take i = l := List.take_of_length_le (by omega)
    rw [this] at hall; exact hall
theorem contF_runs {S : St} {v : AV} {l : List ND} {b : ND} {q : Nat} (hok : Sok S) (hv : Fs S v l) (hq : S.h.get q = some (.cells 29 b.fc false)) (hl : l.length ≤ 1000) (hn : S.n ≤ 900000000) :
    Runs X1 11 [v, .func (.func 12) [] [.ptr q 0]] S fun r S' => r = .bool (decide (b ∈ l)) ∧ Fr S S' .nils (2 * l.length) := by
  refine Runs_fn (m := 9) (by kernel_rfl) Tryd.func11 rfl (by kernel_rfl) (by kernel_rfl) ?_
  repeat (
    first
      | refine W_seq ?_
      | refine WO_nil ?_
      | refine V_seq ?_
      | refine W_region ?_
      | refine WO_dst rfl rfl (by kernel_rfl) (by kernel_rfl) ?_
      | refine Ev_move rfl ?_
      | refine Ev_assign rfl ?_)
  refine Ev_call rfl rfl ((idxF_runs hok hv hq hl hn).mono ?_)
  rintro _ T - ⟨z, rfl, hz, hF⟩
  repeat (
    first
      | refine WO_nil ?_
      | refine V_seq ?_
      | refine W_ret ?_
      | refine WO_dst rfl rfl (by kernel_rfl) (by kernel_rfl) ?_
      | refine Ev_assign rfl ?_
      | refine Ev_geq rfl rfl ?_)
  refine V_done rfl rfl ⟨?_, hF⟩
  show AV.bool (decide (0 ≤ z)) = _
  congr 1
  exact decide_eq_decide.2 hz
theorem eqM_runs {S : St} {a b : ND} {q : Nat} (hok : Sok S) (hq : S.h.get q = some (.cells 34 b.mc false)) (hn : S.n + 1 ≤ 1000000000) :
    Runs X1 15 [.agg a.mc, .ptr q 0] S fun r S' => r = .bool (decide (a = b)) ∧ Fr S S' .nils 1 := by
  refine Runs_fn (m := 16) (by kernel_rfl) Tryd.func15 rfl (by kernel_rfl) (by kernel_rfl) ?_
  repeat (
    first
      | refine W_seq ?_
      | refine W_region ?_
      | refine WO_dst rfl rfl (by kernel_rfl) (by kernel_rfl) ?_)
  refine Ev_box rfl hok (by omega) ?_
  intro T hTn hTok hTq hTf
  have h2 : T.h.get S.n = some (.cells 34 a.mc false) := hTq
  have h1 : T.h.get q = some (.cells 34 b.mc false) := by rw [hTf q (hok _ _ hq)]; exact hq
  have hF : Fr S T .nils 1 := ⟨by omega, by omega, hTok, fun c _ h => hTf c h⟩
  repeat' (
    first
      | refine W_seq ?_
      | refine WO_nil ?_
      | refine V_seq ?_
      | refine W_region ?_
      | refine W_ret ?_
      | refine WO_dst rfl rfl (by kernel_rfl) (by kernel_rfl) ?_
      | refine WO_guard_t rfl rfl rfl rfl rfl (by kernel_rfl) (by kernel_rfl) ?_
      | refine WO_guard_f rfl rfl rfl rfl rfl rfl (by kernel_rfl) (by kernel_rfl) ?_
      | refine Ev_load rfl rfl rfl h2 rfl (veq_str _) ?_
      | refine Ev_load rfl rfl rfl h1 rfl (veq_str _) ?_
      | refine Ev_move rfl ?_
      | refine Ev_assign rfl ?_
      | refine Ev_pick_t rfl rfl rfl ?_
      | refine Ev_pick_f rfl rfl rfl ?_
      | refine Ev_seql rfl rfl ?_
      | refine Ev_fieldAddr rfl rfl rfl rfl rfl rfl ?_
      | (refine WO_guard_dt rfl rfl rfl rfl rfl (by kernel_rfl) (by kernel_rfl) (fun hg => ?_) (fun hg => ?_) <;> (try dsimp only at hg) <;> try (exfalso; first | omega | exact hg rfl)))
  all_goals
    refine V_done rfl rfl ⟨?_, hF⟩
    first
      | (show AV.bool (decide (a.ds = b.ds)) = _
         congr 1
         exact decide_eq_decide.2 (by rw [nd_eq]; exact ⟨fun h => ⟨by assumption, h⟩, fun h => h.2⟩))
      | (show AV.bool false = _
         have hne : ¬ a = b := fun h => by
           rw [nd_eq] at h
           exact absurd h.1 (by assumption)
         rw [decide_eq_false hne])
theorem idxM_runs {S : St} {v : AV} {l : List ND} {b : ND} {q : Nat} (hok : Sok S) (hv : Ms S v l) (hq : S.h.get q = some (.cells 34 b.mc false)) (hl : l.length ≤ 1000) (hn : S.n ≤ 900000000) :
    Runs X1 25 [v, .func (.func 15) [] [.ptr q 0]] S fun r S' => ∃ z : Int, r = .int .i64 z ∧ (0 ≤ z ↔ b ∈ l) ∧ Fr S S' .nils (2 * l.length) := by
  refine Runs_fn (m := 19) (by kernel_rfl) Tryd.func25 rfl (by kernel_rfl) (by kernel_rfl) ?_
  repeat (
    first
      | refine W_seq ?_
      | refine WO_nil ?_
      | refine V_seq ?_
      | refine W_region ?_
      | refine W_block ?_
      | refine WO_dst rfl rfl (by kernel_rfl) (by kernel_rfl) ?_
      | refine Ev_len rfl rfl rfl rfl rfl hv.len ?_
      | refine Ev_move rfl ?_
      | refine Ev_assign rfl ?_)
  refine W_inv (fun i : Nat => [(8, .int .i64 ((i : Nat) : Int)), (7, .int .i64 ((l.length : Nat) : Int)), (0, v), (1, .func (.func 15) [] [.ptr q 0])]) (fun i T => Fr S T .nils (2 * i) ∧ i ≤ l.length ∧ b ∉ l.take i) (fun i => l.length - i) ?_ 0 ⟨⟨Nat.le_refl _, Nat.le_refl _, hok, fun _ _ _ => rfl⟩, Nat.zero_le _, by simp⟩ ⟨rfl, rfl, rfl, rfl, trivial⟩
  rintro i T ⟨hF, hi, hall⟩ back
  have gn := hF.n
  have gl := hF.le
  have hv1 := hF.rd hok hv
  have hq1 := hF.at hok hq
  repeat' (
    first
      | refine W_seq ?_
      | refine WO_nil ?_
      | refine V_seq ?_
      | refine W_region ?_
      | refine W_block ?_
      | refine W_skip ?_
      | refine W_ret ?_
      | refine W_exit ?_
      | refine V_block_x rfl ?_
      | refine V_seq_x ?_
      | refine V_loop_x ?_
      | refine WO_dst rfl rfl (by kernel_rfl) (by kernel_rfl) ?_
      | refine Ev_move rfl ?_
      | refine Ev_assign rfl ?_
      | refine Ev_lssN rfl rfl ?_
      | (refine W_cond rfl (fun hc => ?_) (fun hc => ?_) <;> (try dsimp only at hc) <;> try (exfalso; first | omega | exact hc rfl)))
  · have hlt : i < l.length := by assumption
    refine Ev_indexAddr_rd rfl rfl rfl rfl rfl hv1 hlt ?_
    intro p hp
    repeat (
      refine WO_dst rfl rfl (by kernel_rfl) (by kernel_rfl) ?_)
    refine Ev_load_pt_agg rfl rfl rfl hp (by unfold cellsM; rw [flat_len mc_len]; dsimp only; omega) (flat_get mc_len l i hlt) (mc_veqs _) ?_
    repeat (
      refine WO_dst rfl rfl (by kernel_rfl) (by kernel_rfl) ?_)
    refine Ev_call rfl rfl ((eqM_runs hF.ok hq1 (by omega)).mono ?_)
    rintro _ T1 - ⟨rfl, hF1⟩
    have hF2 := hF.tr hF1
    have gn2 := hF2.n
    repeat' (
      first
        | refine W_seq ?_
        | refine WO_nil ?_
        | refine V_seq ?_
        | refine W_region ?_
        | refine W_skip ?_
        | refine W_ret ?_
        | refine V_ret ?_
        | refine V_block ?_
        | refine WO_dst rfl rfl (by kernel_rfl) (by kernel_rfl) ?_
        | refine Ev_move rfl ?_
        | refine Ev_assign rfl ?_
        | refine Ev_addN rfl rfl (by simp only [lim]; omega) ?_
        | (refine W_cond rfl (fun hc => ?_) (fun hc => ?_) <;> (try dsimp only at hc) <;> try (exfalso; first | omega | exact hc rfl)))
    · have hm : l[i] = b := by assumption
      refine V_done rfl rfl ⟨_, rfl, ⟨fun _ => ?_, fun _ => by omega⟩, ⟨hF2.le, by omega, hF2.ok, hF2.same⟩⟩
      rw [← hm]; exact List.getElem_mem _
    · have hm : ¬ l[i] = b := by assumption
      refine back (i + 1) T1 _ (by omega) ⟨⟨hF2.le, by omega, hF2.ok, hF2.same⟩, by omega, fun d => ?_⟩ ⟨rfl, rfl, rfl, rfl, trivial⟩
      rw [List.take_succ_eq_append_getElem hlt] at d
      rcases List.mem_append.1 d with h | h
      · exact hall h
      · rw [List.mem_singleton] at h; exact hm h.symm
  · refine V_done rfl rfl ⟨-1, rfl, ⟨fun h => by omega, fun h => absurd h ?_⟩, ⟨by omega, by omega, hF.ok, hF.same⟩⟩
    have : l.take i = l := List.take_of_length_le (by omega)
    rw [this] at hall; exact hall
theorem contM_runs {S : St} {v : AV} {l : List ND} {b : ND} {q : Nat} (hok : Sok S) (hv : Ms S v l) (hq : S.h.get q = some (.cells 34 b.mc false)) (hl : l.length ≤ 1000) (hn : S.n ≤ 900000000) :
    Runs X1 14 [v, .func (.func 15) [] [.ptr q 0]] S fun r S' => r = .bool (decide (b ∈ l)) ∧ Fr S S' .nils (2 * l.length) := by
  refine Runs_fn (m := 9) (by kernel_rfl) Tryd.func14 rfl (by kernel_rfl) (by kernel_rfl) ?_
  repeat (
    first
      | refine W_seq ?_
      | refine WO_nil ?_
      | refine V_seq ?_
      | refine W_region ?_
      | refine WO_dst rfl rfl (by kernel_rfl) (by kernel_rfl) ?_
      | refine Ev_move rfl ?_
      | refine Ev_assign rfl ?_)
  refine Ev_call rfl rfl ((idxM_runs hok hv hq hl hn).mono ?_)
  rintro _ T - ⟨z, rfl, hz, hF⟩
  repeat (
    first
      | refine WO_nil ?_
      | refine V_seq ?_
      | refine W_ret ?_
      | refine WO_dst rfl rfl (by kernel_rfl) (by kernel_rfl) ?_
      | refine Ev_assign rfl ?_
      | refine Ev_geq rfl rfl ?_)
  refine V_done rfl rfl ⟨?_, hF⟩
  show AV.bool (decide (0 ≤ z)) = _
  congr 1
  exact decide_eq_decide.2 hz
theorem cmeth_runs {S : St} {a : ND} (hok : Sok S) (hn : S.n + 1 ≤ 1000000000) :
    Runs X1 16 [.agg a.mc] S fun r S' => r = .int .i64 0 ∧ Fr S S' .nils 1 := by
  refine Runs_fn (m := 155) (by kernel_rfl) Tryd.func16 rfl (by kernel_rfl) (by kernel_rfl) ?_
  repeat (
    first
      | refine W_seq ?_
      | refine W_region ?_
      | refine WO_dst rfl rfl (by kernel_rfl) (by kernel_rfl) ?_)
  refine Ev_box rfl hok (by omega) ?_
  intro T hTn hTok hTq hTf
  have h2 : T.h.get S.n = some (.cells 34 a.mc false) := hTq
  have hF : Fr S T .nils 1 := ⟨by omega, by omega, hTok, fun c _ h => hTf c h⟩
  repeat' (
    first
      | refine W_seq ?_
      | refine WO_nil ?_
      | refine V_seq ?_
      | refine W_region ?_
      | refine W_block ?_
      | refine W_skip ?_
      | refine W_ret ?_
      | refine W_exit ?_
      | refine V_block ?_
      | refine V_block_x rfl ?_
      | refine V_seq_x ?_
      | refine V_loop_x ?_
      | refine W_cond_f rfl ?_
      | refine WO_dst rfl rfl (by kernel_rfl) (by kernel_rfl) ?_
      | refine WO_guard_t rfl rfl rfl rfl rfl (by kernel_rfl) (by kernel_rfl) ?_
      | refine WO_guard_f rfl rfl rfl rfl rfl rfl (by kernel_rfl) (by kernel_rfl) ?_
      | refine Ev_load rfl rfl rfl h2 rfl (veq_int _ _) ?_
      | refine Ev_load rfl rfl rfl h2 rfl rfl ?_
      | refine W_loop ?_
      | refine Ev_move rfl ?_
      | refine Ev_assign rfl ?_
      | refine Ev_pick_f rfl rfl rfl ?_
      | refine Ev_lssN rfl rfl ?_
      | refine Ev_gtrN rfl rfl ?_
      | refine Ev_fieldAddr rfl rfl rfl rfl rfl rfl ?_
      | refine Ev_len rfl rfl rfl rfl rfl rfl ?_)
  refine V_done rfl rfl ⟨rfl, hF⟩
end Go.Proofs.YtbeigmifafmpiaaDoor
/- classfile.Right: of fields and methods with right names and descriptors alone. -/


namespace Go.Proofs.YtbeigmifafmpiaaDoor
open GX
set_option maxHeartbeats 16000000
set_option maxRecDepth 100000
/-- none is like one ahead of it -/
def nodupL (l : List ND) : Prop := ∀ j (h : j < l.length), l[j] ∉ l.take j
structure RightO (fs ms : List ND) (E : Int) : Prop where
  many : (16 < fs.length ∨ 16 < ms.length) → E = 4
  fine : fs.length ≤ 16 → ms.length ≤ 16 → nodupL fs → nodupL ms → E = 0
  dup : fs.length ≤ 16 → ms.length ≤ 16 → ¬ (nodupL fs ∧ nodupL ms) → E = 23
theorem cright_runs {S : St} {vf vm : AV} {fs ms : List ND} (hok : Sok S) (hf : Fs S vf fs) (hm : Ms S vm ms) (gf : ∀ a ∈ fs, nameP a.nm ∧ fieldP a.ds ∧ a.ds.length ≤ 256) (gm : ∀ a ∈ ms, nameP a.nm ∧ (methS a.ds).isSome = true ∧ a.ds.length ≤ 256) (hfl : fs.length ≤ 1000) (hml : ms.length ≤ 1000) (hn : S.n ≤ 800000000) :
    Runs X1 5 [.agg [.str [65], .str [], .nils, vf, vm]] S fun r S' => ∃ E, r = .int .i64 E ∧ RightO fs ms E ∧ Fr S S' .nils 10000000 := by
  refine Runs_fn (m := 127) (by kernel_rfl) Tryd.func5 rfl (by kernel_rfl) (by kernel_rfl) ?_
  repeat (
    first
      | refine W_seq ?_
      | refine W_region ?_
      | refine WO_dst rfl rfl (by kernel_rfl) (by kernel_rfl) ?_)
  refine Ev_box rfl hok (by omega) ?_
  intro T hTn hTok hTq hTf
  have hq : T.h.get S.n = some (.cells 27 [.str [65], .str [], .nils, vf, vm] false) := by
    have hs1 := hf.sl
    have hs2 := hm.sl
    exact hTq
  have hF : Fr S T .nils 1 := ⟨by omega, by omega, hTok, fun c _ h => hTf c h⟩
  have hfT := hF.rd hok hf
  have hmT := hF.rd hok hm
  have hA : decide (nameP [65]) = true := by decide
  repeat' (
    first
      | refine W_seq ?_
      | refine WO_nil ?_
      | refine V_seq ?_
      | refine W_region ?_
      | refine W_block ?_
      | refine W_skip ?_
      | refine W_ret ?_
      | refine V_ret ?_
      | refine V_block ?_
      | refine W_cond_t rfl ?_
      | refine W_cond_f rfl ?_
      | refine WO_dst rfl rfl (by kernel_rfl) (by kernel_rfl) ?_
      | refine WO_guard_t rfl rfl rfl rfl rfl (by kernel_rfl) (by kernel_rfl) ?_
      | refine WO_guard_f rfl rfl rfl rfl rfl rfl (by kernel_rfl) (by kernel_rfl) ?_
      | refine Ev_load rfl rfl rfl hq rfl (veq_str _) ?_
      | (refine Ev_call rfl rfl ((name_runs (by decide)).mono ?_); rintro _ T9 - ⟨hT9, rfl⟩; rw [hT9, hA])
      | refine Ev_load rfl rfl rfl hq rfl (show veq .nils .nils = true from rfl) ?_
      | refine Ev_load rfl rfl rfl hq rfl hfT.self ?_
      | refine Ev_load rfl rfl rfl hq rfl hmT.self ?_
      | refine Ev_len rfl rfl rfl rfl rfl hfT.len ?_
      | refine Ev_len rfl rfl rfl rfl rfl hmT.len ?_
      | refine Ev_move rfl ?_
      | refine Ev_assign rfl ?_
      | refine Ev_pick_t rfl rfl rfl ?_
      | refine Ev_pick_f rfl rfl rfl ?_
      | refine Ev_gtrN rfl rfl ?_
      | refine Ev_sneq rfl rfl ?_
      | refine Ev_notb rfl ?_
      | refine Ev_fieldAddr rfl rfl rfl rfl rfl rfl ?_
      | refine Ev_len rfl rfl rfl rfl rfl rfl ?_
      | (refine WO_guard_df rfl rfl rfl rfl rfl (by kernel_rfl) (by kernel_rfl) (fun hg => ?_) (fun hg => ?_) <;> (try dsimp only at hg) <;> try (exfalso; first | omega | exact hg rfl))
      | (refine W_cond rfl (fun hc => ?_) (fun hc => ?_) <;> (try dsimp only at hc) <;> try (exfalso; first | omega | exact hc rfl)))
  · refine V_done rfl rfl ⟨4, rfl, ⟨fun _ => rfl, fun _ h => by omega, fun _ h => by omega⟩, ⟨by omega, by omega, hTok, fun c _ h => hTf c h⟩⟩
  rotate_left
  · refine V_done rfl rfl ⟨4, rfl, ⟨fun _ => rfl, fun h => by omega, fun h => by omega⟩, ⟨by omega, by omega, hTok, fun c _ h => hTf c h⟩⟩
  refine W_loop ?_
  repeat' (
    first
      | refine W_seq ?_
      | refine WO_nil ?_
      | refine V_seq ?_
      | refine W_region ?_
      | refine W_block ?_
      | refine W_exit ?_
      | refine V_block_x rfl ?_
      | refine V_seq_x ?_
      | refine V_loop_x ?_
      | refine W_cond_f rfl ?_
      | refine WO_dst rfl rfl (by kernel_rfl) (by kernel_rfl) ?_
      | refine Ev_load rfl rfl rfl hq rfl hfT.self ?_
      | refine Ev_len rfl rfl rfl rfl rfl hfT.len ?_
      | refine Ev_move rfl ?_
      | refine Ev_lssN rfl rfl ?_
      | refine Ev_fieldAddr rfl rfl rfl rfl rfl rfl ?_)
  refine W_inv (fun i : Nat => [(60, .int .i64 ((i : Nat) : Int)), (59, .int .i64 ((fs.length : Nat) : Int)), (58, vf), (1, .ptr S.n 0)]) (fun i U => Fr T U .nils (3000 * i) ∧ i ≤ fs.length ∧ ∀ j (h : j < fs.length), j < i → fs[j] ∉ fs.take j) (fun i => fs.length - i) ?_ 0 ⟨⟨Nat.le_refl _, Nat.le_refl _, hTok, fun _ _ _ => rfl⟩, Nat.zero_le _, fun j h h0 => absurd h0 (Nat.not_lt_zero _)⟩ ⟨rfl, rfl, rfl, rfl, trivial⟩
  rintro i U ⟨hU, hi, hall⟩ back
  have un := hU.n
  have ul := hU.le
  have hfU := hU.rd hTok hfT
  have hqU := hU.at hTok hq
  repeat' (
    first
      | refine W_seq ?_
      | refine WO_nil ?_
      | refine V_seq ?_
      | refine W_region ?_
      | refine W_block ?_
      | refine W_skip ?_
      | refine W_exit ?_
      | refine V_block_x rfl ?_
      | refine V_seq_x ?_
      | refine V_loop_x ?_
      | refine WO_dst rfl rfl (by kernel_rfl) (by kernel_rfl) ?_
      | refine Ev_move rfl ?_
      | refine Ev_lssN rfl rfl ?_
      | refine Ev_fieldAddr rfl rfl rfl rfl rfl rfl ?_
      | (refine W_cond rfl (fun hc => ?_) (fun hc => ?_) <;> (try dsimp only at hc) <;> try (exfalso; first | omega | exact hc rfl)))
  · have hlt : i < fs.length := by assumption
    obtain ⟨a, ha⟩ : ∃ a, a = fs[i] := ⟨_, rfl⟩
    obtain ⟨gn, gd, gl⟩ := gf a (by rw [ha]; exact List.getElem_mem _)
    have hNa : decide (nameP a.nm) = true := decide_eq_true gn
    have hFa : decide (fieldP a.ds) = true := decide_eq_true gd
    have hnl := gn.1.2
    have hget := flat_get fc_len fs i hlt
    rw [← ha] at hget
    refine Ev_indexAddr_rd rfl rfl rfl rfl rfl hfU hlt ?_
    intro p hp
    repeat (
      refine WO_dst rfl rfl (by kernel_rfl) (by kernel_rfl) ?_)
    refine Ev_load_pt_agg rfl rfl rfl hp (by unfold cellsF; rw [flat_len fc_len]; dsimp only; omega) hget (fc_veqs _) ?_
    repeat (
      refine WO_dst rfl rfl (by kernel_rfl) (by kernel_rfl) ?_)
    refine Ev_alloc_ rfl hU.ok (by omega) ?_
    intro U1 un1 uok1 uq1 uf1
    repeat (
      first
        | refine WO_dst rfl rfl (by kernel_rfl) (by kernel_rfl) ?_
        | refine WO_no rfl rfl ?_
        | refine Ev_assign rfl ?_)
    refine Ev_store rfl rfl rfl rfl (fc_ones _) uq1 (by simp [ND.fc, AV.cells]) (by omega) ?_
    intro U2 un2 uq2 uf2
    have h29 : U2.h.get U.n = some (.cells 29 a.fc false) := uq2
    have hF2 : Fr U U2 .nils 1 := ⟨by omega, by omega, sok_upd uok1 (by omega) un2 uq2 uf2, fun c _ h => by rw [uf2 c (by omega), uf1 c h]⟩
    have hfU2 := hF2.rd hU.ok hfU
    have hqU2 := hF2.at hU.ok hqU
    repeat' (
      first
        | refine W_seq ?_
        | refine WO_nil ?_
        | refine V_seq ?_
        | refine W_region ?_
        | refine W_block ?_
        | refine W_cond_f rfl ?_
        | refine WO_dst rfl rfl (by kernel_rfl) (by kernel_rfl) ?_
        | refine WO_guard_t rfl rfl rfl rfl rfl (by kernel_rfl) (by kernel_rfl) ?_
        | refine Ev_load rfl rfl rfl h29 rfl (veq_str _) ?_
        | (refine Ev_call rfl rfl ((name_runs (by omega)).mono ?_); rintro _ T9 - ⟨hT9, rfl⟩; rw [hT9, hNa])
        | (refine Ev_call rfl rfl ((field_runs (by omega)).mono ?_); rintro _ T9 - ⟨hT9, rfl⟩; rw [hT9, hFa])
        | refine Ev_load rfl rfl rfl hqU2 rfl hfU2.self ?_
        | refine Ev_move rfl ?_
        | refine Ev_assign rfl ?_
        | refine Ev_pick_f rfl rfl rfl ?_
        | refine Ev_notb rfl ?_
        | refine Ev_fieldAddr rfl rfl rfl rfl rfl rfl ?_)
    refine Ev_slice_hi rfl rfl rfl rfl rfl hfU2 hi ?_
    intro v' hv' _
    have hv2 : Fs U2 v' (fs.take i) := hv'.eq (by show (cellsF fs).take (i * 3) = _; exact flat_take fc_len fs i) (by rw [List.length_take]; omega)
    repeat (
      first
        | refine WO_dst rfl rfl (by kernel_rfl) (by kernel_rfl) ?_
        | refine Ev_makeFunc rfl rfl ?_)
    refine Ev_call rfl rfl ((contF_runs hF2.ok hv2 h29 (by rw [List.length_take]; omega) (by omega)).mono ?_)
    rintro _ U3 - ⟨rfl, hF3⟩
    have hF03 := (hU.tr hF2).tr hF3
    have gn3 := hF03.n
    rw [List.length_take] at gn3
    have h03 := hF.tr hF03
    have gn4 := h03.n
    rw [List.length_take] at gn4
    repeat' (
      first
        | refine W_seq ?_
        | refine WO_nil ?_
        | refine V_seq ?_
        | refine W_region ?_
        | refine W_skip ?_
        | refine W_ret ?_
        | refine V_ret ?_
        | refine V_block ?_
        | refine WO_dst rfl rfl (by kernel_rfl) (by kernel_rfl) ?_
        | refine Ev_move rfl ?_
        | refine Ev_assign rfl ?_
        | refine Ev_addN rfl rfl (by simp only [lim]; omega) ?_
        | (refine W_cond rfl (fun hc => ?_) (fun hc => ?_) <;> (try dsimp only at hc) <;> try (exfalso; first | omega | exact hc rfl)))
    · have hmem : a ∈ fs.take i := by assumption
      have hnd : ¬ nodupL fs := fun h => h i hlt (by rw [← ha]; exact hmem)
      refine V_done rfl rfl ⟨23, rfl, ⟨fun h => by omega, fun _ _ h => absurd h hnd, fun _ _ _ => rfl⟩, ⟨h03.le, by omega, h03.ok, h03.same⟩⟩
    · have hmem : a ∉ fs.take i := by assumption
      refine back (i + 1) U3 _ (by omega) ⟨⟨hF03.le, by omega, hF03.ok, hF03.same⟩, by omega, fun j hj hji => ?_⟩ ⟨rfl, rfl, rfl, rfl, trivial⟩
      by_cases hje : j = i
      · subst hje; rw [← ha]; exact hmem
      · exact hall j hj (by omega)
  have hin : i = fs.length := by omega
  have hnf : nodupL fs := fun j hj => hall j hj (by omega)
  have hmU := hU.rd hTok hmT
  repeat' (
    first
      | refine WO_nil ?_
      | refine V_seq ?_
      | refine W_block ?_
      | refine WO_dst rfl rfl (by kernel_rfl) (by kernel_rfl) ?_
      | refine Ev_load rfl rfl rfl hqU rfl hmU.self ?_
      | refine Ev_len rfl rfl rfl rfl rfl hmU.len ?_
      | refine Ev_move rfl ?_)
  refine W_inv (fun i : Nat => [(87, .int .i64 ((i : Nat) : Int)), (86, .int .i64 ((ms.length : Nat) : Int)), (85, vm), (1, .ptr S.n 0)]) (fun i V => Fr U V .nils (3000 * i) ∧ i ≤ ms.length ∧ ∀ j (h : j < ms.length), j < i → ms[j] ∉ ms.take j) (fun i => ms.length - i) ?_ 0 ⟨⟨Nat.le_refl _, Nat.le_refl _, hU.ok, fun _ _ _ => rfl⟩, Nat.zero_le _, fun j h h0 => absurd h0 (Nat.not_lt_zero _)⟩ ⟨rfl, rfl, rfl, rfl, trivial⟩
  rintro m V ⟨hV, hm2, hall2⟩ back2
  have vn := hV.n
  have vl := hV.le
  have hmV := hV.rd hU.ok hmU
  have hqV := hV.at hU.ok hqU
  repeat' (
    first
      | refine W_seq ?_
      | refine WO_nil ?_
      | refine V_seq ?_
      | refine W_region ?_
      | refine W_block ?_
      | refine W_skip ?_
      | refine W_ret ?_
      | refine W_exit ?_
      | refine V_block_x rfl ?_
      | refine V_seq_x ?_
      | refine V_loop_x ?_
      | refine WO_dst rfl rfl (by kernel_rfl) (by kernel_rfl) ?_
      | refine Ev_move rfl ?_
      | refine Ev_assign rfl ?_
      | refine Ev_lssN rfl rfl ?_
      | (refine W_cond rfl (fun hc => ?_) (fun hc => ?_) <;> (try dsimp only at hc) <;> try (exfalso; first | omega | exact hc rfl)))
  · have hlt : m < ms.length := by assumption
    obtain ⟨a, ha⟩ : ∃ a, a = ms[m] := ⟨_, rfl⟩
    obtain ⟨gn, gd, gl⟩ := gm a (by rw [ha]; exact List.getElem_mem _)
    have hNa : decide (nameP a.nm) = true := decide_eq_true gn
    have hMa : decide ((methS a.ds).isSome = true) = true := decide_eq_true gd
    have hnl := gn.1.2
    have hget := flat_get mc_len ms m hlt
    rw [← ha] at hget
    refine Ev_indexAddr_rd rfl rfl rfl rfl rfl hmV hlt ?_
    intro p hp
    repeat (
      refine WO_dst rfl rfl (by kernel_rfl) (by kernel_rfl) ?_)
    refine Ev_load_pt_agg rfl rfl rfl hp (by unfold cellsM; rw [flat_len mc_len]; dsimp only; omega) hget (mc_veqs _) ?_
    repeat (
      refine WO_dst rfl rfl (by kernel_rfl) (by kernel_rfl) ?_)
    refine Ev_alloc_ rfl hV.ok (by omega) ?_
    intro V1 un1 uok1 uq1 uf1
    repeat (
      first
        | refine WO_dst rfl rfl (by kernel_rfl) (by kernel_rfl) ?_
        | refine WO_no rfl rfl ?_
        | refine Ev_assign rfl ?_)
    refine Ev_store rfl rfl rfl rfl (mc_ones _) uq1 (by simp [ND.mc, AV.cells]) (by omega) ?_
    intro V2 un2 uq2 uf2
    have h34 : V2.h.get V.n = some (.cells 34 a.mc false) := uq2
    have hF2 : Fr V V2 .nils 1 := ⟨by omega, by omega, sok_upd uok1 (by omega) un2 uq2 uf2, fun c _ h => by rw [uf2 c (by omega), uf1 c h]⟩
    repeat' (
      first
        | refine W_seq ?_
        | refine WO_nil ?_
        | refine V_seq ?_
        | refine W_region ?_
        | refine WO_dst rfl rfl (by kernel_rfl) (by kernel_rfl) ?_
        | refine Ev_load rfl rfl rfl h34 rfl (veq_str _) ?_
        | refine Ev_fieldAddr rfl rfl rfl rfl rfl rfl ?_)
    refine Ev_call rfl rfl ((method_runs hF2.ok (by omega) (by omega)).mono ?_)
    rintro _ V3 - ⟨hF3, sl, rfl, -, -⟩
    have gn3 := hF3.n
    have h34b := hF3.at hF2.ok h34
    have hF23 := hF2.tr hF3
    have hmV3 := hF23.rd hV.ok hmV
    have hqV3 := hF23.at hV.ok hqV
    rw [hMa]
    repeat' (
      first
        | refine W_seq ?_
        | refine WO_nil ?_
        | refine V_seq ?_
        | refine W_region ?_
        | refine W_block ?_
        | refine W_cond_f rfl ?_
        | refine WO_dst rfl rfl (by kernel_rfl) (by kernel_rfl) ?_
        | refine WO_guard_t rfl rfl rfl rfl rfl (by kernel_rfl) (by kernel_rfl) ?_
        | refine Ev_load rfl rfl rfl h34b rfl (veq_str _) ?_
        | refine Ev_len_str rfl rfl rfl rfl rfl ?_
        | (refine Ev_call rfl rfl ((name_runs (by omega)).mono ?_); rintro _ T9 - ⟨hT9, rfl⟩; rw [hT9, hNa])
        | refine Ev_load rfl rfl rfl hqV3 rfl hmV3.self ?_
        | refine Ev_move rfl ?_
        | refine Ev_assign rfl ?_
        | refine Ev_extract rfl rfl ?_
        | refine Ev_pick_f rfl rfl rfl ?_
        | refine Ev_gtrN rfl rfl ?_
        | refine Ev_notb rfl ?_
        | refine Ev_fieldAddr rfl rfl rfl rfl rfl rfl ?_
        | (refine WO_guard_df rfl rfl rfl rfl rfl (by kernel_rfl) (by kernel_rfl) (fun hg => ?_) (fun hg => ?_) <;> (try dsimp only at hg) <;> try (exfalso; first | omega | exact hg rfl)))
    refine Ev_slice_hi rfl rfl rfl rfl rfl hmV3 hm2 ?_
    intro v' hv' _
    have hv2 : Ms V3 v' (ms.take m) := hv'.eq (by show (cellsM ms).take (m * 9) = _; exact flat_take mc_len ms m) (by rw [List.length_take]; omega)
    repeat (
      first
        | refine WO_dst rfl rfl (by kernel_rfl) (by kernel_rfl) ?_
        | refine Ev_makeFunc rfl rfl ?_)
    refine Ev_call rfl rfl ((contM_runs hF3.ok hv2 h34b (by rw [List.length_take]; omega) (by omega)).mono ?_)
    rintro _ V4 - ⟨rfl, hF4⟩
    have h34c := hF4.at hF3.ok h34b
    have hF04 := (hV.tr hF23).tr hF4
    have gn4 := hF04.n
    rw [List.length_take] at gn4
    have h04 := (hF.tr hU).tr hF04
    have gn5 := h04.n
    rw [List.length_take] at gn5
    repeat' (
      first
        | refine W_seq ?_
        | refine WO_nil ?_
        | refine V_seq ?_
        | refine W_region ?_
        | refine W_skip ?_
        | refine W_ret ?_
        | refine V_ret ?_
        | refine V_block ?_
        | refine WO_dst rfl rfl (by kernel_rfl) (by kernel_rfl) ?_
        | refine Ev_assign rfl ?_
        | (refine W_cond rfl (fun hc => ?_) (fun hc => ?_) <;> (try dsimp only at hc) <;> try (exfalso; first | omega | exact hc rfl)))
    · have hmem : a ∈ ms.take m := by assumption
      have hnd : ¬ nodupL ms := fun h => h m hlt (by rw [← ha]; exact hmem)
      refine V_done rfl rfl ⟨23, rfl, ⟨fun h => by omega, fun _ _ _ h => absurd h hnd, fun _ _ _ => rfl⟩, ⟨h04.le, by omega, h04.ok, h04.same⟩⟩
    · have hmem : a ∉ ms.take m := by assumption
      refine Ev_load_agg rfl rfl rfl h34c (by simp [ND.mc]) (show (a.mc.drop 0).take 9 = a.mc from rfl) (mc_veqs _) ?_
      repeat (
        refine WO_dst rfl rfl (by kernel_rfl) (by kernel_rfl) ?_)
      refine Ev_call rfl rfl ((cmeth_runs hF4.ok (by omega)).mono ?_)
      rintro _ V5 - ⟨rfl, hF5⟩
      have hF05 := hF04.tr hF5
      have gn6 := hF05.n
      rw [List.length_take] at gn6
      repeat' (
        first
          | refine W_seq ?_
          | refine WO_nil ?_
          | refine V_seq ?_
          | refine W_region ?_
          | refine W_skip ?_
          | refine V_block ?_
          | refine W_cond_f rfl ?_
          | refine WO_dst rfl rfl (by kernel_rfl) (by kernel_rfl) ?_
          | refine Ev_move rfl ?_
          | refine Ev_assign rfl ?_
          | refine Ev_neqN rfl rfl ?_
          | refine Ev_addN rfl rfl (by simp only [lim]; omega) ?_)
      refine back2 (m + 1) V5 _ (by omega) ⟨⟨hF05.le, by omega, hF05.ok, hF05.same⟩, by omega, fun j hj hji => ?_⟩ ⟨rfl, rfl, rfl, rfl, trivial⟩
      by_cases hje : j = m
      · subst hje; rw [← ha]; exact hmem
      · exact hall2 j hj (by omega)
  · have hnm : nodupL ms := fun j hj => hall2 j hj (by omega)
    have h0 := (hF.tr hU).tr hV
    have gn0 := h0.n
    refine V_done rfl rfl ⟨0, rfl, ⟨fun h => by omega, fun _ _ _ _ => rfl, fun _ _ h => absurd ⟨hnf, hnm⟩ h⟩, ⟨h0.le, by omega, h0.ok, h0.same⟩⟩
end Go.Proofs.YtbeigmifafmpiaaDoor
/- carafebook.Within; rules for the rest and for xor. -/


namespace Go.Proofs.YtbeigmifafmpiaaDoor
open GX
set_option maxHeartbeats 8000000
section
variable {X : X} {l : L} {S : St} {R : AV → St → Prop} {x y : Go.Operand} {t u : Nat} {k : Go.IntKind} {a b : Int}
theorem Ev_rem (hx : od l x = some (.int k a)) (hy : od l y = some (.int k b)) (hb : b ≠ 0) (hR : R (.int k (a.tmod b)) S) : Ev X l S (.binOp .rem t x y u) R :=
  Ev_ibin hx hy ⟨by simp, by simp⟩ (by unfold ibin; dsimp only; rw [ieq_eq, show (b == 0) = false by simpa using hb]; rfl) hR
theorem xor_u8 (a b : Int) : ∃ z : Nat, z < 256 ∧ ibits .u8 Nat.xor a b = (z : Int) := by
  unfold ibits
  obtain ⟨m, hm⟩ : ∃ m : Nat, m = Nat.xor (BitVec.ofInt (Go.IntKind.bits .u8) a).toNat (BitVec.ofInt (Go.IntKind.bits .u8) b).toNat := ⟨_, rfl⟩
  rw [← hm]
  refine ⟨m % 256, by omega, ?_⟩
  rw [← wrp_eq, wrp_u8]; omega
theorem Ev_xor8 (hx : od l x = some (.int .u8 a)) (hy : od l y = some (.int .u8 b)) (hR : ∀ z : Nat, z < 256 → R (.int .u8 (z : Int)) S) : Ev X l S (.binOp .xor t x y u) R := by
  obtain ⟨z, h1, h2⟩ := xor_u8 a b
  exact Ev_ibin hx hy ⟨by simp, by simp⟩ (by unfold ibin; dsimp only; rw [h2]) (hR z h1)
end
theorem tmod_in {a b : Int} (hb : 0 < b) : -b < a.tmod b ∧ a.tmod b < b := by
  have h1 : (a.tmod b).natAbs = a.natAbs % b.natAbs := Int.natAbs_tmod a b
  have h2 := Nat.mod_lt a.natAbs (show 0 < b.natAbs by omega)
  omega
theorem within_runs {S : St} {a : Int} {m : Nat} (hm : m ≤ 1000000000000) :
    Runs X1 4 [.int .i64 a, .int .i64 0, .int .i64 ((m : Nat) : Int)] S fun v S' => S' = S ∧ ∃ k : Nat, v = .int .i64 ((k : Nat) : Int) ∧ k ≤ m := by
  refine Runs_fn (m := 24) (by kernel_rfl) Tryd.func4 rfl (by kernel_rfl) (by kernel_rfl) ?_
  repeat (
    first
      | refine W_seq ?_
      | refine WO_nil ?_
      | refine V_seq ?_
      | refine W_region ?_
      | refine WO_dst rfl rfl (by kernel_rfl) (by kernel_rfl) ?_
      | refine Ev_move rfl ?_
      | refine Ev_assign rfl ?_
      | refine Ev_addN rfl rfl (by simp only [lim]; omega) ?_
      | refine Ev_subN rfl rfl (by simp only [lim]; omega) (by first | omega | (dsimp only; done) | (dsimp only; omega)) ?_)
  refine Ev_rem (b := ((m - 0 + 1 : Nat) : Int)) rfl rfl (by omega) ?_
  obtain ⟨z, hz⟩ : ∃ z, z = a.tmod ((m - 0 + 1 : Nat) : Int) := ⟨_, rfl⟩
  have hzz := tmod_in (a := a) (b := ((m - 0 + 1 : Nat) : Int)) (by omega)
  rw [← hz] at hzz ⊢
  repeat' (
    first
      | refine W_seq ?_
      | refine WO_nil ?_
      | refine V_seq ?_
      | refine W_region ?_
      | refine W_skip ?_
      | refine W_ret ?_
      | refine WO_dst rfl rfl (by kernel_rfl) (by kernel_rfl) ?_
      | refine Ev_move rfl ?_
      | refine Ev_assign rfl ?_
      | refine Ev_lss rfl rfl ?_
      | refine Ev_add rfl rfl (by simp only [inR]; omega) ?_
      | refine Ev_sub rfl rfl (by simp only [inR]; omega) ?_
      | (refine W_cond rfl (fun hc => ?_) (fun hc => ?_) <;> (try dsimp only at hc) <;> try (exfalso; first | omega | exact hc rfl)))
  · refine V_done rfl rfl ⟨rfl, (z + m + 1).toNat, ?_, by omega⟩
    show AV.int .i64 (0 + (z + (m : Int) - 0 + 1)) = _
    congr 1; omega
  · refine V_done rfl rfl ⟨rfl, z.toNat, ?_, by omega⟩
    show AV.int .i64 (0 + z) = _
    congr 1; omega
end Go.Proofs.YtbeigmifafmpiaaDoor
/- carafelaw4.ClassfileMany. -/



namespace Go.Proofs.YtbeigmifafmpiaaDoor
open GX
set_option maxHeartbeats 16000000
set_option maxRecDepth 100000
theorem sl_cells {v : AV} (h : isSl v = true) : v.cells = [v] := by cases v <;> first | rfl | cases h
theorem sl_one {v : AV} (h : isSl v = true) : v.one = true := by cases v <;> first | rfl | cases h
section
variable {X : X} {l : L} {S : St} {R : AV → St → Prop} {x y : Go.Operand}
theorem Ev_store_sl {t b o : Nat} {i : TI} {ty : Nat} {cs : List AV} {sp : Bool} {v : AV} (hx : od l x = some (.ptr b o)) (hy : od l y = some v) (hsl : isSl v = true) (hi : X.ti t = some i) (hz : Nat.beq 1 i.size = true) (hb : S.h.get b = some (.cells ty cs sp)) (hle : o + 1 ≤ cs.length) (hn : b < 1000000000)
    (hR : ∀ S', S'.n = S.n → S'.h.get b = some (.cells ty (lput cs o [v]) sp) → (∀ c, c ≠ b → S'.h.get c = S.h.get c) → R (.tup []) S') : Ev X l S (.store t x y) R := by
  have hc := sl_cells hsl
  refine Ev_store hx hy hi (by rw [hc]; exact hz) (by rw [hc]; simp [sl_one hsl]) hb (by rw [hc]; exact hle) hn ?_
  rw [hc]; exact hR
theorem Ev_store1 {t b o : Nat} {i : TI} {ty : Nat} {cs : List AV} {sp : Bool} {v : AV} (hx : od l x = some (.ptr b o)) (hy : od l y = some v) (hc : v.cells = [v]) (h1 : v.one = true) (hi : X.ti t = some i) (hz : Nat.beq 1 i.size = true) (hb : S.h.get b = some (.cells ty cs sp)) (hle : o + 1 ≤ cs.length) (hn : b < 1000000000)
    (hR : ∀ S', S'.n = S.n → S'.h.get b = some (.cells ty (lput cs o [v]) sp) → (∀ c, c ≠ b → S'.h.get c = S.h.get c) → R (.tup []) S') : Ev X l S (.store t x y) R := by
  refine Ev_store hx hy hi (by rw [hc]; exact hz) (by rw [hc]; simp [h1]) hb (by rw [hc]; exact hle) hn ?_
  rw [hc]; exact hR
end
theorem lput_pre {α : Type} : ∀ (a q x r : List α), x.length = q.length → lput (a ++ (q ++ r)) a.length x = a ++ (x ++ r)
  | [], [], [], r, _ => by rw [lput_nil]
  | [], y :: q, z :: x, r, h => by
    have := lput_pre [] q x r (by simpa using h)
    show z :: lput (q ++ r) 0 x = _
    simp only [List.nil_append, List.length_nil] at this
    rw [this]; rfl
  | [], [], _ :: _, r, h => by simp at h
  | [], _ :: _, [], r, h => by simp at h
  | b :: a, q, x, r, h => by
    show b :: lput (a ++ (q ++ r)) a.length x = _
    rw [lput_pre a q x r h]; rfl
/-! the lists -/
def ltr (c i : Nat) : List Nat := [c, 97 + i]
def mk (c : Nat) (ds : List Nat) (n : Nat) : List ND := (List.range n).map fun i => ⟨ltr c i, ds⟩
theorem mk_len (c : Nat) (ds : List Nat) (n : Nat) : (mk c ds n).length = n := by simp [mk]
theorem mk_s (c : Nat) (ds : List Nat) (n : Nat) : mk c ds (n + 1) = mk c ds n ++ [⟨ltr c n, ds⟩] := by unfold mk; rw [List.range_succ, List.map_append]; rfl
theorem mk_get (c : Nat) (ds : List Nat) (n i : Nat) (h : i < n) : (mk c ds n)[i]? = some ⟨ltr c i, ds⟩ := by
  unfold mk; rw [List.getElem?_map, List.getElem?_range h]; rfl
theorem mk_mem {c : Nat} {ds : List Nat} {n : Nat} {a : ND} (h : a ∈ mk c ds n) : ∃ i, i < n ∧ a = ⟨ltr c i, ds⟩ := by
  unfold mk at h
  obtain ⟨i, hi, rfl⟩ := List.mem_map.1 h
  exact ⟨i, List.mem_range.1 hi, rfl⟩
theorem mem_take {l : List ND} {j : Nat} {a : ND} (h : a ∈ l.take j) : ∃ i, i < j ∧ l[i]? = some a := by
  obtain ⟨i, hi, rfl⟩ := List.mem_iff_getElem.1 h
  rw [List.length_take] at hi
  refine ⟨i, by omega, ?_⟩
  rw [List.getElem_take, List.getElem?_eq_getElem (by omega)]
theorem nodup_of {l : List ND} (h : ∀ (i j : Nat) (a : ND), i < j → l[i]? = some a → l[j]? = some a → False) : nodupL l := by
  intro j hj hm
  obtain ⟨i, hi, he⟩ := mem_take hm
  exact h i j _ hi he (List.getElem?_eq_getElem hj)
theorem ltr_inj {c i j : Nat} (h : ltr c i = ltr c j) : i = j := by unfold ltr at h; simp at h; exact h
theorem mk_nodup (c : Nat) (ds : List Nat) (n : Nat) : nodupL (mk c ds n) := by
  refine nodup_of fun i j a hij h1 h2 => ?_
  have hj : j < n := by have := (List.getElem?_eq_some_iff.1 h2).1; rw [mk_len] at this; exact this
  rw [mk_get c ds n i (by omega)] at h1
  rw [mk_get c ds n j hj] at h2
  have := h1.trans h2.symm
  simp only [Option.some.injEq, ND.mk.injEq] at this
  have := ltr_inj this.1
  omega
/-- the last one has another's name -/
theorem dup_not {c : Nat} {ds : List Nat} {n k : Nat} (hk : k < n) : ¬ nodupL (mk c ds n ++ [⟨ltr c k, ds⟩]) := by
  intro h
  have := h n (by rw [List.length_append, mk_len]; simp)
  apply this
  rw [List.getElem_append_right (by rw [mk_len]; exact Nat.le_refl _)]
  rw [List.take_append_of_le_length (by rw [mk_len]; exact Nat.le_refl _), List.take_of_length_le (by rw [mk_len]; exact Nat.le_refl _)]
  simp only [mk_len, Nat.sub_self, List.getElem_cons_zero]
  unfold mk
  exact List.mem_map.2 ⟨k, List.mem_range.2 hk, rfl⟩
/-- the last one has another descriptor -/
theorem other_nodup {c : Nat} {ds ds' : List Nat} {n k : Nat} (hd : ds ≠ ds') : nodupL (mk c ds n ++ [⟨ltr c k, ds'⟩]) := by
  refine nodup_of fun i j a hij h1 h2 => ?_
  by_cases hj : j < n
  · rw [List.getElem?_append_left (by rw [mk_len]; omega), mk_get c ds n i (by omega)] at h1
    rw [List.getElem?_append_left (by rw [mk_len]; omega), mk_get c ds n j hj] at h2
    have := h1.trans h2.symm
    simp only [Option.some.injEq, ND.mk.injEq] at this
    have := ltr_inj this.1
    omega
  · have hj2 : j < n + 1 := by have := (List.getElem?_eq_some_iff.1 h2).1; rw [List.length_append, mk_len] at this; simpa using this
    have hjn : j = n := by omega
    subst hjn
    rw [List.getElem?_append_left (by rw [mk_len]; omega), mk_get c ds j i (by omega)] at h1
    rw [List.getElem?_append_right (by rw [mk_len]; exact Nat.le_refl _), mk_len, Nat.sub_self] at h2
    cases h1
    simp only [List.getElem?_cons_zero, Option.some.injEq, ND.mk.injEq] at h2
    exact hd h2.2.symm
theorem name_f : ∀ i : Fin 18, nameP (ltr 102 i.1) := by decide +kernel
theorem name_m : ∀ i : Fin 18, nameP (ltr 109 i.1) := by decide +kernel
theorem rune_i : ∀ i : Fin 18, encodeR ((97 + i.1 : Nat) : Int) = [97 + i.1] := by decide +kernel
theorem field_I : fieldP [73] ∧ fieldP [91, 73] := by decide +kernel
theorem meth_V : (methS [40, 41, 86]).isSome = true ∧ (methS [40, 41, 73]).isSome = true := by decide +kernel
theorem few_runs {S : St} {n : Nat} : Runs X1 6 [.int .i64 ((n : Nat) : Int)] S fun r S' => S' = S ∧ r = .int .i64 (if 16 < n then 4 else 0) := by
  refine Runs_fn (m := 5) (by kernel_rfl) Tryd.func6 rfl (by kernel_rfl) (by kernel_rfl) ?_
  repeat' (
    first
      | refine W_seq ?_
      | refine WO_nil ?_
      | refine V_seq ?_
      | refine W_region ?_
      | refine W_skip ?_
      | refine W_ret ?_
      | refine V_ret ?_
      | refine WO_dst rfl rfl (by kernel_rfl) (by kernel_rfl) ?_
      | refine Ev_move rfl ?_
      | refine Ev_assign rfl ?_
      | refine Ev_gtrN rfl rfl ?_
      | (refine W_cond rfl (fun hc => ?_) (fun hc => ?_) <;> (try dsimp only at hc) <;> try (exfalso; first | omega | exact hc rfl)))
  · refine V_done rfl rfl ⟨rfl, ?_⟩
    rw [if_pos (by assumption)]; rfl
  · refine V_done rfl rfl ⟨rfl, ?_⟩
    rw [if_neg (by assumption)]; rfl
theorem known_true {S : St} {R : AV → St → Prop} (h : R (.bool true) S) : Runs X1 7 [] S R := Runs_ext (g := extTrue) rfl rfl (Nat.le_refl _) h
def clsC (vf vm : AV) : List AV := [.str [65], .str [], .nils, vf, vm]
/-- both classes, and their lists -/
structure CM (T : St) (bc bd : Nat) (vf vm : AV) (fs ms : List ND) : Prop where
  ok : Sok T
  c : T.h.get bc = some (.cells 27 (clsC vf .nils) false)
  d : T.h.get bd = some (.cells 27 (clsC .nils vm) false)
  f : Own T vf 29 3 (cellsF fs) fs.length
  m : Own T vm 34 9 (cellsM ms) ms.length
  cd : bc ≠ bd
  fb : ∀ x, blkOf vf = some x → x ≠ bc ∧ x ≠ bd
  mb : ∀ x, blkOf vm = some x → x ≠ bc ∧ x ≠ bd
  fm : ∀ x, blkOf vf = some x → blkOf vm ≠ some x
theorem CM.fr {T U : St} {bc bd k : Nat} {vf vm : AV} {fs ms : List ND} (h : CM T bc bd vf vm fs ms) (a : Fr T U .nils k) : CM U bc bd vf vm fs ms :=
  ⟨a.ok, a.at h.ok h.c, a.at h.ok h.d, h.f.keep (fun x hx => a.same x (by simp [blkOf]) (h.f.lt h.ok hx)), h.m.keep (fun x hx => a.same x (by simp [blkOf]) (h.m.lt h.ok hx)), h.cd, h.fb, h.mb, h.fm⟩
theorem CM.setF {T U W : St} {bc bd : Nat} {vf vm vf' : AV} {fs ms fs' : List ND} (h : CM T bc bd vf vm fs ms) (g1 : T.n ≤ U.n) (g3 : Sok U) (g4 : Own U vf' 29 3 (cellsF fs') fs'.length) (g5 : ∀ c, blkOf vf ≠ some c → c < T.n → U.h.get c = T.h.get c) (g6 : ∀ c, blkOf vf' = some c → blkOf vf = some c ∨ T.n ≤ c) (s1 : W.n = U.n) (s2 : W.h.get bc = some (.cells 27 (clsC vf' .nils) false)) (s3 : ∀ c, c ≠ bc → W.h.get c = U.h.get c) : CM W bc bd vf' vm fs' ms := by
  have hc := h.ok _ _ h.c
  have hd := h.ok _ _ h.d
  have hcd := h.cd
  have hfb : ∀ x, blkOf vf' = some x → x ≠ bc ∧ x ≠ bd := fun x hx => by
    rcases g6 x hx with e | e
    · exact h.fb x e
    · exact ⟨by omega, by omega⟩
  refine ⟨sok_upd g3 (by omega) s1 s2 s3, s2, ?_, g4.keep (fun x hx => s3 x (hfb x hx).1), h.m.keep (fun x hx => ?_), hcd, hfb, h.mb, fun x hx e => ?_⟩
  · rw [s3 bd (Ne.symm hcd), g5 bd (fun e => (h.fb _ e).2 rfl) hd]; exact h.d
  · rw [s3 x (h.mb x hx).1, g5 x (fun e => h.fm x e hx) (h.m.lt h.ok hx)]
  · rcases g6 x hx with g | g
    · exact h.fm x g e
    · have := h.m.lt h.ok e; omega
theorem CM.setM {T U W : St} {bc bd : Nat} {vf vm vm' : AV} {fs ms ms' : List ND} (h : CM T bc bd vf vm fs ms) (g1 : T.n ≤ U.n) (g3 : Sok U) (g4 : Own U vm' 34 9 (cellsM ms') ms'.length) (g5 : ∀ c, blkOf vm ≠ some c → c < T.n → U.h.get c = T.h.get c) (g6 : ∀ c, blkOf vm' = some c → blkOf vm = some c ∨ T.n ≤ c) (s1 : W.n = U.n) (s2 : W.h.get bd = some (.cells 27 (clsC .nils vm') false)) (s3 : ∀ c, c ≠ bd → W.h.get c = U.h.get c) : CM W bc bd vf vm' fs ms' := by
  have hc := h.ok _ _ h.c
  have hd := h.ok _ _ h.d
  have hcd := h.cd
  have hmb : ∀ x, blkOf vm' = some x → x ≠ bc ∧ x ≠ bd := fun x hx => by
    rcases g6 x hx with e | e
    · exact h.mb x e
    · exact ⟨by omega, by omega⟩
  refine ⟨sok_upd g3 (by omega) s1 s2 s3, ?_, s2, h.f.keep (fun x hx => ?_), g4.keep (fun x hx => s3 x (hmb x hx).2), hcd, h.fb, hmb, fun x hx e => ?_⟩
  · rw [s3 bc hcd, g5 bc (fun e => (h.mb _ e).1 rfl) hc]; exact h.c
  · rw [s3 x (h.fb x hx).2, g5 x (fun e => h.fm x hx e) (h.f.lt h.ok hx)]
  · rcases g6 x e with g | g
    · exact h.fm x hx g
    · have := h.f.lt h.ok hx; omega
theorem CM.updF {T U : St} {bc bd bf m : Nat} {vm : AV} {fs ms fs' : List ND} (h : CM T bc bd (.slice bf 0 m (.op 3)) vm fs ms) (hl : fs'.length = fs.length) (s1 : U.n = T.n) (s2 : U.h.get bf = some (.cells 29 (cellsF fs') true)) (s3 : ∀ c, c ≠ bf → U.h.get c = T.h.get c) : CM U bc bd (.slice bf 0 m (.op 3)) vm fs' ms := by
  have hb := h.fb bf rfl
  have hbT := h.f.lt h.ok (b := bf) rfl
  rcases h.f with ⟨g, _⟩ | ⟨b, g1, g2, g3⟩
  · cases g
  · cases g1
    refine ⟨sok_upd h.ok hbT s1 s2 s3, by rw [s3 bc (Ne.symm hb.1)]; exact h.c, by rw [s3 bd (Ne.symm hb.2)]; exact h.d, .inr ⟨bf, by rw [hl], s2, by unfold cellsF; rw [flat_len fc_len]⟩, h.m.keep (fun x hx => s3 x (fun e => h.fm bf rfl (by rw [hx, e]))), h.cd, h.fb, h.mb, h.fm⟩
theorem CM.updM {T U : St} {bc bd bm m : Nat} {vf : AV} {fs ms ms' : List ND} (h : CM T bc bd vf (.slice bm 0 m (.op 9)) fs ms) (hl : ms'.length = ms.length) (s1 : U.n = T.n) (s2 : U.h.get bm = some (.cells 34 (cellsM ms') true)) (s3 : ∀ c, c ≠ bm → U.h.get c = T.h.get c) : CM U bc bd vf (.slice bm 0 m (.op 9)) fs ms' := by
  have hb := h.mb bm rfl
  have hbT := h.m.lt h.ok (b := bm) rfl
  rcases h.m with ⟨g, _⟩ | ⟨b, g1, g2, g3⟩
  · cases g
  · cases g1
    refine ⟨sok_upd h.ok hbT s1 s2 s3, by rw [s3 bc (Ne.symm hb.1)]; exact h.c, by rw [s3 bd (Ne.symm hb.2)]; exact h.d, h.f.keep (fun x hx => s3 x (fun e => h.fm x hx (by rw [e]; rfl))), .inr ⟨bm, by rw [hl], s2, by unfold cellsM; rw [flat_len mc_len]⟩, h.cd, h.fb, h.mb, h.fm⟩
theorem cellsF_app (a b : List ND) : cellsF (a ++ b) = cellsF a ++ cellsF b := List.flatMap_append
theorem cellsM_app (a b : List ND) : cellsM (a ++ b) = cellsM a ++ cellsM b := List.flatMap_append
theorem putF_nm {L : List ND} {x y : ND} (h : y.ds = x.ds) : lput (cellsF (L ++ [x])) (L.length * 3) [.str y.nm] = cellsF (L ++ [y]) := by
  have e1 : cellsF (L ++ [x]) = cellsF L ++ ([.str x.nm] ++ [.str x.ds, .bool false]) := by rw [cellsF_app]; rfl
  have e2 : (cellsF L).length = L.length * 3 := by unfold cellsF; rw [flat_len fc_len]
  rw [e1, ← e2, lput_pre (α := AV) _ [.str x.nm] [.str y.nm] _ rfl, cellsF_app, ← h]; rfl
theorem putF_ds {L : List ND} {x y : ND} (h : y.nm = x.nm) : lput (cellsF (L ++ [x])) (L.length * 3 + 1) [.str y.ds] = cellsF (L ++ [y]) := by
  have e1 : cellsF (L ++ [x]) = (cellsF L ++ [.str x.nm]) ++ ([.str x.ds] ++ [.bool false]) := by rw [cellsF_app, List.append_assoc]; rfl
  have e2 : (cellsF L ++ [AV.str x.nm]).length = L.length * 3 + 1 := by unfold cellsF; rw [List.length_append, flat_len fc_len]; rfl
  rw [e1, ← e2, lput_pre (α := AV) _ [.str x.ds] [.str y.ds] _ rfl, cellsF_app, List.append_assoc, ← h]; rfl
theorem putM_nm {L : List ND} {x y : ND} (h : y.ds = x.ds) : lput (cellsM (L ++ [x])) (L.length * 9) [.str y.nm] = cellsM (L ++ [y]) := by
  have e1 : cellsM (L ++ [x]) = cellsM L ++ ([.str x.nm] ++ [.str x.ds, .bool false, .bool false, .int .i64 0, .int .i64 0, .nils, .nils, .nils]) := by rw [cellsM_app]; rfl
  have e2 : (cellsM L).length = L.length * 9 := by unfold cellsM; rw [flat_len mc_len]
  rw [e1, ← e2, lput_pre (α := AV) _ [.str x.nm] [.str y.nm] _ rfl, cellsM_app, ← h]; rfl
theorem putM_ds {L : List ND} {x y : ND} (h : y.nm = x.nm) : lput (cellsM (L ++ [x])) (L.length * 9 + 1) [.str y.ds] = cellsM (L ++ [y]) := by
  have e1 : cellsM (L ++ [x]) = (cellsM L ++ [.str x.nm]) ++ ([.str x.ds] ++ [.bool false, .bool false, .int .i64 0, .int .i64 0, .nils, .nils, .nils]) := by rw [cellsM_app, List.append_assoc]; rfl
  have e2 : (cellsM L ++ [AV.str x.nm]).length = L.length * 9 + 1 := by unfold cellsM; rw [List.length_append, flat_len mc_len]; rfl
  rw [e1, ← e2, lput_pre (α := AV) _ [.str x.ds] [.str y.ds] _ rfl, cellsM_app, List.append_assoc, ← h]; rfl
theorem cls_veqs {a b : AV} (ha : veq a a = true) (hb : veq b b = true) : GX.veqs (clsC a b) (clsC a b) = true := by
  simp [clsC, GX.veqs, veq_str, ha, hb]; rfl
theorem flat_cell {α : Type} {f : α → List AV} {k : Nat} (hk : ∀ x, (f x).length = k) {l : List α} {i j : Nat} {v : AV} (h : i < l.length) (hj : j < k) (hv : (f l[i])[j]? = some v) : (l.flatMap f)[i * k + j]? = some v := by
  have := flat_get hk l i h
  have h2 : (((l.flatMap f).drop (i * k)).take k)[j]? = (f l[i])[j]? := by rw [this]
  rw [List.getElem?_take, if_pos hj, List.getElem?_drop] at h2
  rw [h2]; exact hv
theorem many_runs {S : St} {n0 s0 : Int} (hok : Sok S) (hn : S.n ≤ 1000) : Runs X1 3 [.int .i64 n0, .int .i64 s0] S fun r _ => r = .bool true := by
  refine Runs_fn (m := 118) (by kernel_rfl) Tryd.func3 rfl (by kernel_rfl) (by kernel_rfl) ?_
  repeat (
    first
      | refine W_seq ?_
      | refine WO_nil ?_
      | refine V_seq ?_
      | refine W_region ?_
      | refine WO_dst rfl rfl (by kernel_rfl) (by kernel_rfl) ?_
      | refine Ev_move rfl ?_
      | refine Ev_assign rfl ?_)
  refine Ev_call rfl rfl ((within_runs (m := 18) (by omega)).mono ?_)
  rintro _ S0 - ⟨hS0, n, rfl, hn18⟩
  rw [hS0]
  repeat (
    first
      | refine W_seq ?_
      | refine WO_nil ?_
      | refine V_seq ?_
      | refine W_region ?_
      | refine WO_dst rfl rfl (by kernel_rfl) (by kernel_rfl) ?_
      | refine Ev_assign rfl ?_)
  refine Ev_build (v := .agg (clsC .nils .nils)) rfl rfl ?_
  repeat (
    refine WO_dst rfl rfl (by kernel_rfl) (by kernel_rfl) ?_)
  refine Ev_alloc_ rfl hok (by omega) ?_
  intro A1 an1 aok1 aq1 af1
  repeat (
    refine WO_no rfl rfl ?_)
  refine Ev_store rfl rfl rfl rfl rfl aq1 (by simp [AV.cells, clsC]) (by omega) ?_
  intro A2 an2 aq2 af2
  have hc2 : A2.h.get S.n = some (.cells 27 (clsC .nils .nils) false) := aq2
  have aok2 := sok_upd aok1 (by omega) an2 aq2 af2
  repeat (
    first
      | refine W_seq ?_
      | refine WO_nil ?_
      | refine V_seq ?_
      | refine W_region ?_
      | refine WO_dst rfl rfl (by kernel_rfl) (by kernel_rfl) ?_)
  refine Ev_build (v := .agg (clsC .nils .nils)) rfl rfl ?_
  repeat (
    refine WO_dst rfl rfl (by kernel_rfl) (by kernel_rfl) ?_)
  refine Ev_alloc_ rfl aok2 (by omega) ?_
  intro A3 an3 aok3 aq3 af3
  repeat (
    refine WO_no rfl rfl ?_)
  refine Ev_store rfl rfl rfl rfl rfl aq3 (by simp [AV.cells, clsC]) (by omega) ?_
  intro A4 an4 aq4 af4
  have hd4 : A4.h.get A2.n = some (.cells 27 (clsC .nils .nils) false) := aq4
  have hc4 : A4.h.get S.n = some (.cells 27 (clsC .nils .nils) false) := by rw [af4 S.n (by omega), af3 S.n (by omega)]; exact hc2
  have aok4 := sok_upd aok3 (by omega) an4 aq4 af4
  obtain ⟨bc, hbc⟩ : ∃ bc, bc = S.n := ⟨_, rfl⟩
  obtain ⟨bd, hbd⟩ : ∃ bd, bd = A2.n := ⟨_, rfl⟩
  rw [← hbd] at hd4 ⊢
  rw [← hbc] at hc4 ⊢
  have hcm0 : CM A4 bc bd .nils .nils (mk 102 [73] 0) (mk 109 [40, 41, 86] 0) := ⟨aok4, hc4, hd4, .inl ⟨rfl, rfl, rfl⟩, .inl ⟨rfl, rfl, rfl⟩, by omega, (fun x hx => by cases hx), (fun x hx => by cases hx), (fun x hx => by cases hx)⟩
  repeat (
    first
      | refine W_seq ?_
      | refine WO_nil ?_
      | refine V_seq ?_
      | refine W_region ?_
      | refine W_block ?_
      | refine WO_dst rfl rfl (by kernel_rfl) (by kernel_rfl) ?_
      | refine Ev_assign rfl ?_)
  refine W_inv (fun a : Nat × AV × AV => [(7, .int .i64 ((a.1 : Nat) : Int)), (0, .int .i64 ((n : Nat) : Int)), (1, .int .i64 s0), (5, .ptr bc 0), (6, .ptr bd 0)]) (fun a T => CM T bc bd a.2.1 a.2.2 (mk 102 [73] a.1) (mk 109 [40, 41, 86] a.1) ∧ a.1 ≤ n ∧ T.n ≤ 100 * a.1 + 2000) (fun a => n - a.1) ?_ (0, .nils, .nils) ⟨hcm0, by omega, by omega⟩ ⟨rfl, rfl, rfl, rfl, rfl, trivial⟩
  rintro ⟨i, vf, vm⟩ T ⟨hcm, hin, hTn⟩ back
  dsimp only at hcm hin hTn back
  repeat' (
    first
      | refine W_seq ?_
      | refine WO_nil ?_
      | refine V_seq ?_
      | refine W_region ?_
      | refine W_block ?_
      | refine W_skip ?_
      | refine W_exit ?_
      | refine V_block_x rfl ?_
      | refine V_seq_x ?_
      | refine V_loop_x ?_
      | refine WO_dst rfl rfl (by kernel_rfl) (by kernel_rfl) ?_
      | refine Ev_move rfl ?_
      | refine Ev_lssN rfl rfl ?_
      | refine Ev_fieldAddr rfl rfl rfl rfl rfl rfl ?_
      | (refine W_cond rfl (fun hc => ?_) (fun hc => ?_) <;> (try dsimp only at hc) <;> try (exfalso; first | omega | exact hc rfl)))
  · have hlt : i < n := by assumption
    have hr := rune_i ⟨i, by omega⟩
    dsimp only at hr
    have hbcn : bc < T.n := hcm.ok _ _ hcm.c
    have hbdn : bd < T.n := hcm.ok _ _ hcm.d
    refine Ev_load rfl rfl rfl hcm.c rfl hcm.f.rd.self ?_
    repeat (
      first
        | refine WO_dst rfl rfl (by kernel_rfl) (by kernel_rfl) ?_
        | refine Ev_move rfl ?_
        | refine Ev_addN rfl rfl (by simp only [lim]; omega) ?_
        | refine Ev_convN rfl rfl rfl rfl rfl (by simp only [lim]; omega) ?_)
    refine Ev_conv_rune rfl rfl rfl rfl rfl ?_
    rw [hr]
    repeat (
      refine WO_dst rfl rfl (by kernel_rfl) (by kernel_rfl) ?_)
    refine Ev_sadd rfl rfl (by simp) ?_
    repeat (
      refine WO_dst rfl rfl (by kernel_rfl) (by kernel_rfl) ?_)
    refine Ev_build (v := .agg (ND.mk (ltr 102 i) [73]).fc) rfl rfl ?_
    repeat (
      refine WO_dst rfl rfl (by kernel_rfl) (by kernel_rfl) ?_)
    refine Ev_buildSlice rfl rfl rfl rfl rfl rfl hcm.ok (by omega) ?_
    intro T1 tn1 tok1 tq1 tf1
    have hF1 : Fr T T1 .nils 1 := ⟨by omega, by omega, tok1, fun c _ h => tf1 c h⟩
    have hcm1 := hcm.fr hF1
    have hrd1 : Rd T1 (.slice T.n 0 1 (.ex 1)) 3 (ND.mk (ltr 102 i) [73]).fc 1 := Rd_lit tq1 rfl rfl
    repeat (
      refine WO_dst rfl rfl (by kernel_rfl) (by kernel_rfl) ?_)
    refine Ev_append rfl rfl rfl rfl rfl rfl rfl rfl rfl rfl hcm1.f hrd1 (fc_ones _) tok1 (by omega) (by rw [mk_len]; dsimp only; omega) (by rw [mk_len]; omega) ?_
    intro vf2 T2 g1 g2 g3 g4 g5 g6
    have hc2 : T2.h.get bc = some (.cells 27 (clsC vf .nils) false) := by rw [g5 bc (fun e => (hcm1.fb _ e).1 rfl) (by omega)]; exact hcm1.c
    repeat (
      first
        | refine WO_dst rfl rfl (by kernel_rfl) (by kernel_rfl) ?_
        | refine WO_no rfl rfl ?_
        | refine Ev_fieldAddr rfl rfl rfl rfl rfl rfl ?_)
    refine Ev_store_sl rfl rfl g4.rd.sl rfl rfl hc2 (by simp [clsC]) (by omega) ?_
    intro T3 sn3 sq3 sf3
    have hcm3 : CM T3 bc bd vf2 vm (mk 102 [73] (i + 1)) (mk 109 [40, 41, 86] i) := hcm1.setF g1 g3 (by rw [mk_s]; exact g4.eq (by rw [cellsF_app]; simp [cellsF]) (by simp)) g5 g6 sn3 sq3 sf3
    have hr2 := hr
    repeat (
      first
        | refine WO_nil ?_
        | refine V_seq ?_
        | refine W_region ?_
        | refine WO_dst rfl rfl (by kernel_rfl) (by kernel_rfl) ?_
        | refine Ev_fieldAddr rfl rfl rfl rfl rfl rfl ?_)
    refine Ev_load rfl rfl rfl hcm3.d rfl hcm3.m.rd.self ?_
    repeat (
      first
        | refine WO_dst rfl rfl (by kernel_rfl) (by kernel_rfl) ?_
        | refine Ev_move rfl ?_
        | refine Ev_addN rfl rfl (by simp only [lim]; omega) ?_
        | refine Ev_convN rfl rfl rfl rfl rfl (by simp only [lim]; omega) ?_)
    refine Ev_conv_rune rfl rfl rfl rfl rfl ?_
    rw [hr2]
    repeat (
      refine WO_dst rfl rfl (by kernel_rfl) (by kernel_rfl) ?_)
    refine Ev_sadd rfl rfl (by simp) ?_
    repeat (
      refine WO_dst rfl rfl (by kernel_rfl) (by kernel_rfl) ?_)
    refine Ev_build (v := .agg (ND.mk (ltr 109 i) [40, 41, 86]).mc) rfl rfl ?_
    repeat (
      refine WO_dst rfl rfl (by kernel_rfl) (by kernel_rfl) ?_)
    refine Ev_buildSlice rfl rfl rfl rfl rfl rfl hcm3.ok (by omega) ?_
    intro T4 tn4 tok4 tq4 tf4
    have hF4 : Fr T3 T4 .nils 1 := ⟨by omega, by omega, tok4, fun c _ h => tf4 c h⟩
    have hcm4 := hcm3.fr hF4
    have hrd4 : Rd T4 (.slice T3.n 0 1 (.ex 1)) 9 (ND.mk (ltr 109 i) [40, 41, 86]).mc 1 := Rd_lit tq4 rfl rfl
    repeat (
      refine WO_dst rfl rfl (by kernel_rfl) (by kernel_rfl) ?_)
    refine Ev_append rfl rfl rfl rfl rfl rfl rfl rfl rfl rfl hcm4.m hrd4 (mc_ones _) tok4 (by omega) (by rw [mk_len]; dsimp only; omega) (by rw [mk_len]; omega) ?_
    intro vm2 T5 k1 k2 k3 k4 k5 k6
    have hd5 : T5.h.get bd = some (.cells 27 (clsC .nils vm) false) := by rw [k5 bd (fun e => (hcm4.mb _ e).2 rfl) (by omega)]; exact hcm4.d
    repeat (
      first
        | refine WO_dst rfl rfl (by kernel_rfl) (by kernel_rfl) ?_
        | refine WO_no rfl rfl ?_
        | refine Ev_fieldAddr rfl rfl rfl rfl rfl rfl ?_)
    refine Ev_store_sl rfl rfl k4.rd.sl rfl rfl hd5 (by simp [clsC]) (by omega) ?_
    intro T6 sn6 sq6 sf6
    have hcm6 : CM T6 bc bd vf2 vm2 (mk 102 [73] (i + 1)) (mk 109 [40, 41, 86] (i + 1)) := hcm4.setM k1 k3 (by rw [mk_s]; exact k4.eq (by rw [cellsM_app]; simp [cellsM]) (by simp)) k5 k6 sn6 sq6 sf6
    repeat' (
      first
        | refine WO_nil ?_
        | refine V_seq ?_
        | refine W_region ?_
        | refine V_block ?_
        | refine WO_dst rfl rfl (by kernel_rfl) (by kernel_rfl) ?_
        | refine Ev_move rfl ?_
        | refine Ev_assign rfl ?_
        | refine Ev_addN rfl rfl (by simp only [lim]; omega) ?_)
    exact back (i + 1, vf2, vm2) T6 _ (by dsimp only; omega) ⟨hcm6, by dsimp only; omega, by dsimp only; omega⟩ ⟨rfl, rfl, rfl, rfl, rfl, trivial⟩
  · have hin2 : i = n := by omega
    subst hin2
    have gfn : ∀ j, j < i → nameP (ltr 102 j) := fun j hj => name_f ⟨j, by omega⟩
    have gmn : ∀ j, j < i → nameP (ltr 109 j) := fun j hj => name_m ⟨j, by omega⟩
    have gf : ∀ a ∈ mk 102 [73] i, nameP a.nm ∧ fieldP a.ds ∧ a.ds.length ≤ 256 := fun a ha => by
      obtain ⟨j, hj, rfl⟩ := mk_mem ha
      exact ⟨gfn j hj, field_I.1, by simp⟩
    have gm : ∀ a ∈ mk 109 [40, 41, 86] i, nameP a.nm ∧ (methS a.ds).isSome = true ∧ a.ds.length ≤ 256 := fun a ha => by
      obtain ⟨j, hj, rfl⟩ := mk_mem ha
      exact ⟨gmn j hj, meth_V.1, by simp⟩
    have hnil : ∀ (U : St) (sz : Nat), Rd U .nils sz [] 0 := fun U sz => ⟨rfl, rfl, rfl, rfl, rfl, by simp⟩
    have nd0 : nodupL [] := fun j h => absurd h (Nat.not_lt_zero _)
    refine Ev_load_agg rfl rfl rfl hcm.c (by simp [clsC]) (show ((clsC vf .nils).drop 0).take 5 = clsC vf .nils from rfl) (cls_veqs hcm.f.rd.self rfl) ?_
    repeat (
      refine WO_dst rfl rfl (by kernel_rfl) (by kernel_rfl) ?_)
    refine Ev_call rfl rfl ((cright_runs (ms := []) hcm.ok hcm.f.rd (hnil _ 9) gf (fun a h => by cases h) (by rw [mk_len]; omega) (by simp) (by omega)).mono ?_)
    rintro _ T1 - ⟨E1, rfl, hE1, hF1⟩
    have tn1 := hF1.n
    have hcm1 := hcm.fr hF1
    have e1 : E1 = if 16 < i then 4 else 0 := by
      split
      · exact hE1.many (.inl (by rw [mk_len]; omega))
      · exact hE1.fine (by rw [mk_len]; omega) (by simp) (mk_nodup _ _ _) nd0
    repeat (
      first
        | refine WO_dst rfl rfl (by kernel_rfl) (by kernel_rfl) ?_
        | refine Ev_move rfl ?_)
    refine Ev_call rfl rfl (few_runs.mono ?_)
    rintro _ Ta - ⟨hTa, rfl⟩
    rw [hTa, e1]
    by_cases hb : 16 < i
    · rw [if_pos hb]
      repeat' (
        first
          | refine WO_dst rfl rfl (by kernel_rfl) (by kernel_rfl) ?_
          | refine WO_guard_t rfl rfl rfl rfl rfl (by kernel_rfl) (by kernel_rfl) ?_
          | refine Ev_move rfl ?_
          | refine Ev_neqN rfl rfl ?_)
      refine Ev_load_agg rfl rfl rfl hcm1.d (by simp [clsC]) (show ((clsC .nils vm).drop 0).take 5 = clsC .nils vm from rfl) (cls_veqs rfl hcm1.m.rd.self) ?_
      repeat (
        first
          | refine WO_dst rfl rfl (by kernel_rfl) (by kernel_rfl) ?_
          | refine WO_guard_t rfl rfl rfl rfl rfl (by kernel_rfl) (by kernel_rfl) ?_)
      refine Ev_call rfl rfl ((cright_runs (fs := []) hcm1.ok (hnil _ 3) hcm1.m.rd (fun a h => by cases h) gm (by simp) (by rw [mk_len]; omega) (by omega)).mono ?_)
      rintro _ T2 - ⟨E2, rfl, hE2, hF2⟩
      have e2 : E2 = 4 := hE2.many (.inr (by rw [mk_len]; omega))
      repeat (
        first
          | refine WO_dst rfl rfl (by kernel_rfl) (by kernel_rfl) ?_
          | refine WO_guard_t rfl rfl rfl rfl rfl (by kernel_rfl) (by kernel_rfl) ?_
          | refine Ev_move rfl ?_)
      refine Ev_call rfl rfl (few_runs.mono ?_)
      rintro _ Tb - ⟨hTb, rfl⟩
      rw [hTb, e2, if_pos hb]
      repeat' (
        first
          | refine W_seq ?_
          | refine WO_nil ?_
          | refine V_seq ?_
          | refine W_region ?_
          | refine W_skip ?_
          | refine W_cond_f rfl ?_
          | refine WO_dst rfl rfl (by kernel_rfl) (by kernel_rfl) ?_
          | refine WO_guard_t rfl rfl rfl rfl rfl (by kernel_rfl) (by kernel_rfl) ?_
          | refine Ev_move rfl ?_
          | refine Ev_pick_f rfl rfl rfl ?_
          | refine Ev_lssN rfl rfl ?_
          | refine Ev_gtrN rfl rfl ?_
          | refine Ev_neqN rfl rfl ?_
          | (refine WO_guard_df rfl rfl rfl rfl rfl (by kernel_rfl) (by kernel_rfl) (fun hg => ?_) (fun hg => ?_) <;> (try dsimp only at hg) <;> try (exfalso; first | omega | exact hg rfl))
          | (refine W_cond rfl (fun hc => ?_) (fun hc => ?_) <;> (try dsimp only at hc) <;> try (exfalso; first | omega | exact hc rfl)))
      refine Ev_call rfl rfl (known_true ?_)
      repeat (
        first
          | refine WO_nil ?_
          | refine V_seq ?_
          | refine W_ret ?_
          | refine V_ret ?_
          | refine WO_dst rfl rfl (by kernel_rfl) (by kernel_rfl) ?_
          | refine Ev_assign rfl ?_)
      refine V_done rfl rfl ?_
      rfl
    rw [if_neg hb]
    repeat' (
      first
        | refine WO_dst rfl rfl (by kernel_rfl) (by kernel_rfl) ?_
        | refine WO_guard_t rfl rfl rfl rfl rfl (by kernel_rfl) (by kernel_rfl) ?_
        | refine Ev_move rfl ?_
        | refine Ev_neqN rfl rfl ?_)
    refine Ev_load_agg rfl rfl rfl hcm1.d (by simp [clsC]) (show ((clsC .nils vm).drop 0).take 5 = clsC .nils vm from rfl) (cls_veqs rfl hcm1.m.rd.self) ?_
    repeat (
      first
        | refine WO_dst rfl rfl (by kernel_rfl) (by kernel_rfl) ?_
        | refine WO_guard_t rfl rfl rfl rfl rfl (by kernel_rfl) (by kernel_rfl) ?_)
    refine Ev_call rfl rfl ((cright_runs (fs := []) hcm1.ok (hnil _ 3) hcm1.m.rd (fun a h => by cases h) gm (by simp) (by rw [mk_len]; omega) (by omega)).mono ?_)
    rintro _ T2 - ⟨E2, rfl, hE2, hF2⟩
    have e2 : E2 = 0 := hE2.fine (by simp) (by rw [mk_len]; omega) nd0 (mk_nodup _ _ _)
    have tn2 := hF2.n
    have hcm2 := hcm1.fr hF2
    repeat (
      first
        | refine WO_dst rfl rfl (by kernel_rfl) (by kernel_rfl) ?_
        | refine WO_guard_t rfl rfl rfl rfl rfl (by kernel_rfl) (by kernel_rfl) ?_
        | refine Ev_move rfl ?_)
    refine Ev_call rfl rfl (few_runs.mono ?_)
    rintro _ Tb - ⟨hTb, rfl⟩
    rw [hTb, e2, if_neg hb]
    repeat' (
      first
        | refine W_seq ?_
        | refine WO_nil ?_
        | refine V_seq ?_
        | refine W_region ?_
        | refine W_skip ?_
        | refine W_cond_t rfl ?_
        | refine W_cond_f rfl ?_
        | refine WO_dst rfl rfl (by kernel_rfl) (by kernel_rfl) ?_
        | refine WO_guard_t rfl rfl rfl rfl rfl (by kernel_rfl) (by kernel_rfl) ?_
        | refine WO_guard_f rfl rfl rfl rfl rfl rfl (by kernel_rfl) (by kernel_rfl) ?_
        | refine Ev_move rfl ?_
        | refine Ev_pick_t rfl rfl rfl ?_
        | refine Ev_pick_f rfl rfl rfl ?_
        | refine Ev_lssN rfl rfl ?_
        | refine Ev_gtrN rfl rfl ?_
        | refine Ev_neqN rfl rfl ?_
        | refine Ev_subN rfl rfl (by simp only [lim]; omega) (by first | omega | (dsimp only; done) | (dsimp only; omega)) ?_
        | (refine WO_guard_df rfl rfl rfl rfl rfl (by kernel_rfl) (by kernel_rfl) (fun hg => ?_) (fun hg => ?_) <;> (try dsimp only at hg) <;> try (exfalso; first | omega | exact hg rfl))
        | (refine W_cond rfl (fun hc => ?_) (fun hc => ?_) <;> (try dsimp only at hc) <;> try (exfalso; first | omega | exact hc rfl)))
    rotate_left
    · refine Ev_call rfl rfl (known_true ?_)
      repeat (
        first
          | refine WO_nil ?_
          | refine V_seq ?_
          | refine W_ret ?_
          | refine V_ret ?_
          | refine WO_dst rfl rfl (by kernel_rfl) (by kernel_rfl) ?_
          | refine Ev_assign rfl ?_)
      refine V_done rfl rfl ?_
      rfl
    refine Ev_call rfl rfl ((within_runs (m := i - 2) (by omega)).mono ?_)
    rintro _ Tc - ⟨hTc, k, rfl, hk⟩
    rw [hTc]
    obtain ⟨p, hp⟩ : ∃ p, i = p + 1 := ⟨i - 1, by omega⟩
    subst hp
    have hkp : k < p := by
      have : k ≤ p + 1 - 2 := hk
      omega
    rw [mk_s, mk_s] at hcm2
    have lf : ∀ x : ND, (mk 102 [73] p ++ [x]).length = p + 1 := fun x => by rw [List.length_append, mk_len]; rfl
    have lm : ∀ x : ND, (mk 109 [40, 41, 86] p ++ [x]).length = p + 1 := fun x => by rw [List.length_append, mk_len]; rfl
    have hof := hcm2.f
    have hom := hcm2.m
    rw [lf] at hof
    rw [lm] at hom
    rcases hof with ⟨_, _, h0⟩ | ⟨bf, rfl, hbf, _⟩
    · omega
    rcases hom with ⟨_, _, h0⟩ | ⟨bm, rfl, hbm, _⟩
    · omega
    have hgf : (cellsF (mk 102 [73] p ++ [⟨ltr 102 p, [73]⟩]))[0 + k * 3 + 0]? = some (.str (ltr 102 k)) := by
      have hlt : k < (mk 102 [73] p ++ [(⟨ltr 102 p, [73]⟩ : ND)]).length := by rw [lf]; omega
      have hx : (mk 102 [73] p ++ [(⟨ltr 102 p, [73]⟩ : ND)])[k]'hlt = ⟨ltr 102 k, [73]⟩ := Option.some.inj ((List.getElem?_eq_getElem hlt).symm.trans (by rw [List.getElem?_append_left (by rw [mk_len]; exact hkp), mk_get _ _ _ _ hkp]))
      have := flat_cell fc_len (j := 0) hlt (by decide) (v := .str (ltr 102 k)) (by rw [hx]; rfl)
      rw [Nat.zero_add]; exact this
    have hgm : (cellsM (mk 109 [40, 41, 86] p ++ [⟨ltr 109 p, [40, 41, 86]⟩]))[0 + k * 9 + 0]? = some (.str (ltr 109 k)) := by
      have hlt : k < (mk 109 [40, 41, 86] p ++ [(⟨ltr 109 p, [40, 41, 86]⟩ : ND)]).length := by rw [lm]; omega
      have hx : (mk 109 [40, 41, 86] p ++ [(⟨ltr 109 p, [40, 41, 86]⟩ : ND)])[k]'hlt = ⟨ltr 109 k, [40, 41, 86]⟩ := Option.some.inj ((List.getElem?_eq_getElem hlt).symm.trans (by rw [List.getElem?_append_left (by rw [mk_len]; exact hkp), mk_get _ _ _ _ hkp]))
      have := flat_cell mc_len (j := 0) hlt (by decide) (v := .str (ltr 109 k)) (by rw [hx]; rfl)
      rw [Nat.zero_add]; exact this
    have hbfn : bf < T2.n := hcm2.ok _ _ hbf
    have hbmn : bm < T2.n := hcm2.ok _ _ hbm
    have hfm : bm ≠ bf := fun e => hcm2.fm bf rfl (by rw [← e]; rfl)
    repeat' (
      first
        | refine W_seq ?_
        | refine WO_nil ?_
        | refine V_seq ?_
        | refine W_drawn (by kernel_rfl) ?_
        | refine WO_dst rfl rfl (by kernel_rfl) (by kernel_rfl) ?_
        | refine WO_no rfl rfl ?_
        | refine Ev_load rfl rfl rfl hcm2.c rfl (veq_slice _ _ _ _) ?_
        | refine Ev_load rfl rfl rfl hbf hgf (veq_str _) ?_
        | refine Ev_move rfl ?_
        | refine Ev_assign rfl ?_
        | refine Ev_fieldAddr rfl rfl rfl rfl rfl rfl ?_
        | refine Ev_indexAddr rfl rfl rfl rfl rfl (by first | omega | (dsimp only; done) | (dsimp only; omega)) ?_
        | refine Ev_subN rfl rfl (by simp only [lim]; omega) (by first | omega | (dsimp only; done) | (dsimp only; omega)) ?_)
    refine Ev_store1 rfl rfl rfl rfl rfl rfl hbf (by show 0 + (p + 1 - 1) * 3 + 0 + 1 ≤ _; unfold cellsF; rw [flat_len fc_len, lf]; omega) (by omega) ?_
    intro U1 un1 uq1 uf1
    have uq1' : U1.h.get bf = some (.cells 29 (cellsF (mk 102 [73] p ++ [⟨ltr 102 k, [73]⟩])) true) := by
      rw [uq1]
      show some (AB.cells 29 (lput (cellsF (mk 102 [73] p ++ [⟨ltr 102 p, [73]⟩])) (0 + (p + 1 - 1) * 3 + 0) [.str (ltr 102 k)]) true) = _
      rw [show 0 + (p + 1 - 1) * 3 + 0 = (mk 102 [73] p).length * 3 by rw [mk_len]; omega]
      exact congrArg some (congrArg (fun z => AB.cells 29 z true) (putF_nm (x := ⟨ltr 102 p, [73]⟩) (y := ⟨ltr 102 k, [73]⟩) rfl))
    have hcm3 := hcm2.updF (fs' := mk 102 [73] p ++ [⟨ltr 102 k, [73]⟩]) (by rw [lf, lf]) un1 uq1' uf1
    have hbm3 : U1.h.get bm = some (.cells 34 (cellsM (mk 109 [40, 41, 86] p ++ [⟨ltr 109 p, [40, 41, 86]⟩])) true) := by rw [uf1 bm hfm]; exact hbm
    repeat' (
      first
        | refine W_seq ?_
        | refine WO_nil ?_
        | refine V_seq ?_
        | refine W_drawn (by kernel_rfl) ?_
        | refine WO_dst rfl rfl (by kernel_rfl) (by kernel_rfl) ?_
        | refine WO_no rfl rfl ?_
        | refine Ev_load rfl rfl rfl hcm3.d rfl (veq_slice _ _ _ _) ?_
        | refine Ev_load rfl rfl rfl hbm3 hgm (veq_str _) ?_
        | refine Ev_move rfl ?_
        | refine Ev_fieldAddr rfl rfl rfl rfl rfl rfl ?_
        | refine Ev_indexAddr rfl rfl rfl rfl rfl (by first | omega | (dsimp only; done) | (dsimp only; omega)) ?_
        | refine Ev_subN rfl rfl (by simp only [lim]; omega) (by first | omega | (dsimp only; done) | (dsimp only; omega)) ?_)
    refine Ev_store1 rfl rfl rfl rfl rfl rfl hbm3 (by show 0 + (p + 1 - 1) * 9 + 0 + 1 ≤ _; unfold cellsM; rw [flat_len mc_len, lm]; omega) (by omega) ?_
    intro U2 un2 uq2 uf2
    have uq2' : U2.h.get bm = some (.cells 34 (cellsM (mk 109 [40, 41, 86] p ++ [⟨ltr 109 k, [40, 41, 86]⟩])) true) := by
      rw [uq2]
      show some (AB.cells 34 (lput (cellsM (mk 109 [40, 41, 86] p ++ [⟨ltr 109 p, [40, 41, 86]⟩])) (0 + (p + 1 - 1) * 9 + 0) [.str (ltr 109 k)]) true) = _
      rw [show 0 + (p + 1 - 1) * 9 + 0 = (mk 109 [40, 41, 86] p).length * 9 by rw [mk_len]; omega]
      exact congrArg some (congrArg (fun z => AB.cells 34 z true) (putM_nm (x := ⟨ltr 109 p, [40, 41, 86]⟩) (y := ⟨ltr 109 k, [40, 41, 86]⟩) rfl))
    have hcm4 := hcm3.updM (ms' := mk 109 [40, 41, 86] p ++ [⟨ltr 109 k, [40, 41, 86]⟩]) (by rw [lm, lm]) un2 uq2' uf2
    have gf2 : ∀ ds, fieldP ds → ds.length ≤ 256 → ∀ a ∈ mk 102 [73] p ++ [(⟨ltr 102 k, ds⟩ : ND)], nameP a.nm ∧ fieldP a.ds ∧ a.ds.length ≤ 256 := fun ds h1 h2 a ha => by
      rcases List.mem_append.1 ha with h | h
      · obtain ⟨j, hj, rfl⟩ := mk_mem h
        exact ⟨gfn j (by omega), field_I.1, by simp⟩
      · rw [List.mem_singleton] at h; subst h
        exact ⟨gfn k (by omega), h1, h2⟩
    have gm2 : ∀ ds, (methS ds).isSome = true → ds.length ≤ 256 → ∀ a ∈ mk 109 [40, 41, 86] p ++ [(⟨ltr 109 k, ds⟩ : ND)], nameP a.nm ∧ (methS a.ds).isSome = true ∧ a.ds.length ≤ 256 := fun ds h1 h2 a ha => by
      rcases List.mem_append.1 ha with h | h
      · obtain ⟨j, hj, rfl⟩ := mk_mem h
        exact ⟨gmn j (by omega), meth_V.1, by simp⟩
      · rw [List.mem_singleton] at h; subst h
        exact ⟨gmn k (by omega), h1, h2⟩
    repeat' (
      first
        | refine W_seq ?_
        | refine WO_nil ?_
        | refine V_seq ?_
        | refine W_region ?_
        | refine WO_dst rfl rfl (by kernel_rfl) (by kernel_rfl) ?_)
    refine Ev_load_agg rfl rfl rfl hcm4.c (by simp [clsC]) (show ((clsC _ .nils).drop 0).take 5 = clsC _ .nils from rfl) (cls_veqs hcm4.f.rd.self rfl) ?_
    repeat (
      refine WO_dst rfl rfl (by kernel_rfl) (by kernel_rfl) ?_)
    refine Ev_call rfl rfl ((cright_runs (ms := []) hcm4.ok hcm4.f.rd (hnil _ 9) (gf2 _ field_I.1 (by simp)) (fun a h => by cases h) (by rw [lf]; omega) (by simp) (by omega)).mono ?_)
    rintro _ T3 - ⟨E3, rfl, hE3, hF3⟩
    have tn3 := hF3.n
    have hcm5 := hcm4.fr hF3
    have e3 : E3 = 23 := hE3.dup (by rw [lf]; omega) (by simp) (fun h => dup_not hkp h.1)
    rw [e3]
    repeat' (
      first
        | refine WO_dst rfl rfl (by kernel_rfl) (by kernel_rfl) ?_
        | refine WO_guard_t rfl rfl rfl rfl rfl (by kernel_rfl) (by kernel_rfl) ?_
        | refine Ev_move rfl ?_
        | refine Ev_neqN rfl rfl ?_)
    refine Ev_load_agg rfl rfl rfl hcm5.d (by simp [clsC]) (show ((clsC .nils _).drop 0).take 5 = clsC .nils _ from rfl) (cls_veqs rfl hcm5.m.rd.self) ?_
    repeat (
      first
        | refine WO_dst rfl rfl (by kernel_rfl) (by kernel_rfl) ?_
        | refine WO_guard_t rfl rfl rfl rfl rfl (by kernel_rfl) (by kernel_rfl) ?_)
    refine Ev_call rfl rfl ((cright_runs (fs := []) hcm5.ok (hnil _ 3) hcm5.m.rd (fun a h => by cases h) (gm2 _ meth_V.1 (by simp)) (by simp) (by rw [lm]; omega) (by omega)).mono ?_)
    rintro _ T4 - ⟨E4, rfl, hE4, hF4⟩
    have tn4 := hF4.n
    have hcm6 := hcm5.fr hF4
    have e4 : E4 = 23 := hE4.dup (by simp) (by rw [lm]; omega) (fun h => dup_not hkp h.2)
    rw [e4]
    have hbf6 : T4.h.get bf = some (.cells 29 (cellsF (mk 102 [73] p ++ [⟨ltr 102 k, [73]⟩])) true) := by
      rcases hcm6.f with ⟨g, _⟩ | ⟨b', g1, g2, _⟩
      · cases g
      · injection g1 with e1
        rw [e1]; exact g2
    repeat' (
      first
        | refine W_seq ?_
        | refine WO_nil ?_
        | refine V_seq ?_
        | refine W_region ?_
        | refine W_skip ?_
        | refine W_cond_f rfl ?_
        | refine WO_dst rfl rfl (by kernel_rfl) (by kernel_rfl) ?_
        | refine WO_no rfl rfl ?_
        | refine WO_guard_t rfl rfl rfl rfl rfl (by kernel_rfl) (by kernel_rfl) ?_
        | refine Ev_load rfl rfl rfl hcm6.c rfl (veq_slice _ _ _ _) ?_
        | refine Ev_move rfl ?_
        | refine Ev_pick_f rfl rfl rfl ?_
        | refine Ev_neqN rfl rfl ?_
        | refine Ev_fieldAddr rfl rfl rfl rfl rfl rfl ?_
        | refine Ev_indexAddr rfl rfl rfl rfl rfl (by first | omega | (dsimp only; done) | (dsimp only; omega)) ?_
        | refine Ev_subN rfl rfl (by simp only [lim]; omega) (by first | omega | (dsimp only; done) | (dsimp only; omega)) ?_)
    refine Ev_store1 rfl rfl rfl rfl rfl rfl hbf6 (by show 0 + (p + 1 - 1) * 3 + 1 + 1 ≤ _; unfold cellsF; rw [flat_len fc_len, lf]; omega) (by omega) ?_
    intro U3 un3 uq3 uf3
    have uq3' : U3.h.get bf = some (.cells 29 (cellsF (mk 102 [73] p ++ [⟨ltr 102 k, [91, 73]⟩])) true) := by
      rw [uq3]
      show some (AB.cells 29 (lput (cellsF (mk 102 [73] p ++ [⟨ltr 102 k, [73]⟩])) (0 + (p + 1 - 1) * 3 + 1) [.str [91, 73]]) true) = _
      rw [show 0 + (p + 1 - 1) * 3 + 1 = (mk 102 [73] p).length * 3 + 1 by rw [mk_len]; omega]
      exact congrArg some (congrArg (fun z => AB.cells 29 z true) (putF_ds (x := ⟨ltr 102 k, [73]⟩) (y := ⟨ltr 102 k, [91, 73]⟩) rfl))
    have hcm7 := hcm6.updF (fs' := mk 102 [73] p ++ [⟨ltr 102 k, [91, 73]⟩]) (by rw [lf, lf]) un3 uq3' uf3
    have hbm7 : U3.h.get bm = some (.cells 34 (cellsM (mk 109 [40, 41, 86] p ++ [⟨ltr 109 k, [40, 41, 86]⟩])) true) := by
      rcases hcm7.m with ⟨g, _⟩ | ⟨b', g1, g2, _⟩
      · cases g
      · injection g1 with e1
        rw [e1]; exact g2
    repeat' (
      first
        | refine W_seq ?_
        | refine WO_nil ?_
        | refine V_seq ?_
        | refine W_region ?_
        | refine WO_dst rfl rfl (by kernel_rfl) (by kernel_rfl) ?_
        | refine WO_no rfl rfl ?_
        | refine Ev_load rfl rfl rfl hcm7.d rfl (veq_slice _ _ _ _) ?_
        | refine Ev_move rfl ?_
        | refine Ev_fieldAddr rfl rfl rfl rfl rfl rfl ?_
        | refine Ev_indexAddr rfl rfl rfl rfl rfl (by first | omega | (dsimp only; done) | (dsimp only; omega)) ?_
        | refine Ev_subN rfl rfl (by simp only [lim]; omega) (by first | omega | (dsimp only; done) | (dsimp only; omega)) ?_)
    refine Ev_store1 rfl rfl rfl rfl rfl rfl hbm7 (by show 0 + (p + 1 - 1) * 9 + 1 + 1 ≤ _; unfold cellsM; rw [flat_len mc_len, lm]; omega) (by omega) ?_
    intro U4 un4 uq4 uf4
    have uq4' : U4.h.get bm = some (.cells 34 (cellsM (mk 109 [40, 41, 86] p ++ [⟨ltr 109 k, [40, 41, 73]⟩])) true) := by
      rw [uq4]
      show some (AB.cells 34 (lput (cellsM (mk 109 [40, 41, 86] p ++ [⟨ltr 109 k, [40, 41, 86]⟩])) (0 + (p + 1 - 1) * 9 + 1) [.str [40, 41, 73]]) true) = _
      rw [show 0 + (p + 1 - 1) * 9 + 1 = (mk 109 [40, 41, 86] p).length * 9 + 1 by rw [mk_len]; omega]
      exact congrArg some (congrArg (fun z => AB.cells 34 z true) (putM_ds (x := ⟨ltr 109 k, [40, 41, 86]⟩) (y := ⟨ltr 109 k, [40, 41, 73]⟩) rfl))
    have hcm8 := hcm7.updM (ms' := mk 109 [40, 41, 86] p ++ [⟨ltr 109 k, [40, 41, 73]⟩]) (by rw [lm, lm]) un4 uq4' uf4
    repeat' (
      first
        | refine W_seq ?_
        | refine WO_nil ?_
        | refine V_seq ?_
        | refine W_region ?_
        | refine WO_dst rfl rfl (by kernel_rfl) (by kernel_rfl) ?_)
    refine Ev_load_agg rfl rfl rfl hcm8.c (by simp [clsC]) (show ((clsC _ .nils).drop 0).take 5 = clsC _ .nils from rfl) (cls_veqs hcm8.f.rd.self rfl) ?_
    repeat (
      refine WO_dst rfl rfl (by kernel_rfl) (by kernel_rfl) ?_)
    refine Ev_call rfl rfl ((cright_runs (ms := []) hcm8.ok hcm8.f.rd (hnil _ 9) (gf2 _ field_I.2 (by simp)) (fun a h => by cases h) (by rw [lf]; omega) (by simp) (by omega)).mono ?_)
    rintro _ T5 - ⟨E5, rfl, hE5, hF5⟩
    have tn5 := hF5.n
    have hcm9 := hcm8.fr hF5
    have e5 : E5 = 0 := hE5.fine (by rw [lf]; omega) (by simp) (other_nodup (by decide)) nd0
    rw [e5]
    repeat' (
      first
        | refine WO_dst rfl rfl (by kernel_rfl) (by kernel_rfl) ?_
        | refine WO_guard_t rfl rfl rfl rfl rfl (by kernel_rfl) (by kernel_rfl) ?_
        | refine Ev_move rfl ?_
        | refine Ev_eqlN rfl rfl ?_)
    refine Ev_load_agg rfl rfl rfl hcm9.d (by simp [clsC]) (show ((clsC .nils _).drop 0).take 5 = clsC .nils _ from rfl) (cls_veqs rfl hcm9.m.rd.self) ?_
    repeat (
      first
        | refine WO_dst rfl rfl (by kernel_rfl) (by kernel_rfl) ?_
        | refine WO_guard_t rfl rfl rfl rfl rfl (by kernel_rfl) (by kernel_rfl) ?_)
    refine Ev_call rfl rfl ((cright_runs (fs := []) hcm9.ok (hnil _ 3) hcm9.m.rd (fun a h => by cases h) (gm2 _ meth_V.2 (by simp)) (by simp) (by rw [lm]; omega) (by omega)).mono ?_)
    rintro _ T6 - ⟨E6, rfl, hE6, hF6⟩
    have e6 : E6 = 0 := hE6.fine (by simp) (by rw [lm]; omega) nd0 (other_nodup (by decide))
    rw [e6]
    repeat' (
      first
        | refine WO_dst rfl rfl (by kernel_rfl) (by kernel_rfl) ?_
        | refine WO_guard_t rfl rfl rfl rfl rfl (by kernel_rfl) (by kernel_rfl) ?_
        | refine Ev_move rfl ?_
        | refine Ev_pick_t rfl rfl rfl ?_
        | refine Ev_eqlN rfl rfl ?_)
    refine Ev_call rfl rfl (known_true ?_)
    repeat (
      first
        | refine WO_nil ?_
        | refine V_seq ?_
        | refine W_ret ?_
        | refine WO_dst rfl rfl (by kernel_rfl) (by kernel_rfl) ?_
        | refine Ev_assign rfl ?_
        | refine Ev_pick_t rfl rfl rfl ?_)
    refine V_done rfl rfl ?_
    rfl
end Go.Proofs.YtbeigmifafmpiaaDoor
