/- What the row leans on, part 8: texts one behind the other. No condition. -/
import Derived.Test.YtjbpegggfacojaaMg7
import Derived.KernelRfl
/- GX: reasoning about runs: regions that draw their order, where reads look at blocks that later loud operations leave alone (blocks made in the region, too). -/


namespace GX
noncomputable section
open Go
def WF (X : X) (n : Nat) (all : List Oper) (D : List Fct) (os : List Oper) (i : Nat) (ks : List Kt) (Q : Ex → Env → St → Prop) (l : L) (S : St) : Prop :=
  ∀ e, Ag l e → ∃ f e' S', RunF X (exec X f) n all D os i e S e' S' ∧ QK X n ks Q .nor e' S'
section
variable {X : X} {n : Nat} {ks : List Kt} {Q : Ex → Env → St → Prop} {l : L} {S : St} {D : List Fct} {all os : List Oper} {o : Oper} {i : Nat}
theorem W_drawnF (D : List Fct) {id : Nat} {ops : Array Oper} (hD : ∀ f ∈ D, f.src = none ∧ f.id < S.n ∧ S.h.get f.id = some f.x) (hs : seqB X n ops.toList = true) (h : WF X n ops.toList D ops.toList 0 ks Q l S) : W X n (.region id ops true) ks Q l S := by
  unfold W
  intro e he
  obtain ⟨f, e1, S1, h1, h2⟩ := h e he
  exact ⟨f + 1, .nor, e1, S1, by show step X (exec X f) n (.region id ops true) e S = _; unfold step; exact drawn_F hD hs h1, h2⟩
theorem WF_nil (h : V X n .nor ks Q l S) : WF X n all D [] i ks Q l S := by
  unfold V at h
  exact fun e he => ⟨0, e, S, ⟨rfl, rfl⟩, h e he⟩
theorem WF_pa {d : Nat} (hg : o.guard = none) (hd : o.dst = some d) (hn : Nat.blt d n = true) (hn' : Nat.blt n 1000001 = true) (hsk : isPA (sk X o.op) = true)
    (h : Ev X l S o.op fun v S' => WF X n all D os (i + 1) ks Q ((d, v) :: l) S') : WF X n all D (o :: os) i ks Q l S := by
  intro e he
  unfold Ev at h
  obtain ⟨f, v, S1, h1, h2, h3⟩ := h e he
  rw [nblt, decide_eq_true_eq] at hn hn'
  obtain ⟨g, e2, S2, h4, h5⟩ := h3 _ (he.put hn' hn)
  have hck := sk_ok h1
  refine ⟨max f g, e2, S2, .inl ⟨wanted_none hg, v, S1, e.put d v, [], oper_le (exec_le (Nat.le_max_left f g)) h1, ?_, h2, fun hc => ?_, fun hc => ?_, fun f hf => (by cases hf), by rw [List.append_nil]; exact RunF_le (exec_le (Nat.le_max_right f g)) h4⟩, h5⟩
  · rw [hd]; unfold setDst; dsimp only; rw [nblt, decide_eq_true hn]; rfl
  · rcases hck with hq | hq
    · rw [hq] at hc; cases hc
    · rw [hq] at hc; rw [hc] at hsk; cases hsk
  · rcases hck with hq | hq
    · rw [hq] at hc; cases hc
    · rw [hq] at hc
      exfalso
      cases hs : sk X o.op <;> rw [hs] at hc hsk <;> first | (cases hc; done) | (cases hsk; done)
/-- an operation that makes a block, which is told -/
theorem WF_al {d : Nat} (hg : o.guard = none) (hd : o.dst = some d) (hn : Nat.blt d n = true) (hn' : Nat.blt n 1000001 = true) (hcl : ∀ e, Ag l e → cls X e o.op = .alloc)
    (h : Ev X l S o.op fun v S' => ∃ x, S'.h.get S.n = some x ∧ S.n < S'.n ∧ WF X n all (D ++ [⟨S.n, x, some i⟩]) os (i + 1) ks Q ((d, v) :: l) S') : WF X n all D (o :: os) i ks Q l S := by
  intro e he
  unfold Ev at h
  obtain ⟨f, v, S1, h1, h2, x, hx, hlt, h3⟩ := h e he
  rw [nblt, decide_eq_true_eq] at hn hn'
  obtain ⟨g, e2, S2, h4, h5⟩ := h3 _ (he.put hn' hn)
  have hc0 := hcl e he
  refine ⟨max f g, e2, S2, .inl ⟨wanted_none hg, v, S1, e.put d v, [⟨S.n, x, some i⟩], oper_le (exec_le (Nat.le_max_left f g)) h1, ?_, h2, fun hc => (by rw [hc0] at hc; cases hc), fun hc => (by rw [hc0] at hc; cases hc), fun f hf => ?_, RunF_le (exec_le (Nat.le_max_right f g)) h4⟩, h5⟩
  · rw [hd]; unfold setDst; dsimp only; rw [nblt, decide_eq_true hn]; rfl
  · rw [List.mem_singleton] at hf; subst hf
    exact ⟨rfl, hlt, hx, .inr ⟨hc0, rfl⟩⟩
/-- a read that is ordered with all loud operations -/
theorem WF_rs {d : Nat} (hg : o.guard = none) (hd : o.dst = some d) (hn : Nat.blt d n = true) (hn' : Nat.blt n 1000001 = true) (hsk : isLC (sk X o.op) = false) (hst : rdStat (masks all []) (all.map (fun o => sk X o.op)) i = true)
    (h : Ev X l S o.op fun v S' => WF X n all D os (i + 1) ks Q ((d, v) :: l) S') : WF X n all D (o :: os) i ks Q l S := by
  intro e he
  unfold Ev at h
  obtain ⟨f, v, S1, h1, h2, h3⟩ := h e he
  rw [nblt, decide_eq_true_eq] at hn hn'
  obtain ⟨g, e2, S2, h4, h5⟩ := h3 _ (he.put hn' hn)
  have hck := sk_ok h1
  refine ⟨max f g, e2, S2, .inl ⟨wanted_none hg, v, S1, e.put d v, [], oper_le (exec_le (Nat.le_max_left f g)) h1, ?_, h2, fun _ => .inl hst, fun hc => ?_, fun f hf => (by cases hf), by rw [List.append_nil]; exact RunF_le (exec_le (Nat.le_max_right f g)) h4⟩, h5⟩
  · rw [hd]; unfold setDst; dsimp only; rw [nblt, decide_eq_true hn]; rfl
  · rcases hck with hq | hq
    · rw [hq] at hc; cases hc
    · rw [hq, hsk] at hc; cases hc
/-- a read that looks at told blocks alone -/
theorem WF_rf {d : Nat} {v : AV} (hg : o.guard = none) (hd : o.dst = some d) (hn : Nat.blt d n = true) (hn' : Nat.blt n 1000001 = true) (hS : ∀ f ∈ D, S.h.get f.id = some f.x)
    (hfp : ∀ e, Ag l e → cls X e o.op = .read ∧ FPD X D (masks all []) i e o.op v) (hvv : veq v v = true) (h : WF X n all D os (i + 1) ks Q ((d, v) :: l) S) : WF X n all D (o :: os) i ks Q l S := by
  intro e he
  obtain ⟨hc, hf⟩ := hfp e he
  rw [nblt, decide_eq_true_eq] at hn hn'
  obtain ⟨g, e2, S2, h4, h5⟩ := h _ (he.put hn' hn)
  refine ⟨g, e2, S2, .inl ⟨wanted_none hg, v, S, e.put d v, [], ?_, ?_, by rw [hc]; exact hvv, fun _ => .inr hf, fun hl => (by rw [hc] at hl; cases hl), fun f hf => (by cases hf), by rw [List.append_nil]; exact h4⟩, h5⟩
  · unfold oper; rw [hc]; dsimp only; rw [hf S.h (fun f h1 _ => hS f h1)]
  · rw [hd]; unfold setDst; dsimp only; rw [nblt, decide_eq_true hn]; rfl
/-- a loud operation, or a call, that leaves the told blocks alone, and may tell more -/
theorem WF_ld {d : Nat} (hg : o.guard = none) (hd : o.dst = some d) (hn : Nat.blt d n = true) (hn' : Nat.blt n 1000001 = true) (hcl : ∀ e, Ag l e → isLC (cls X e o.op) = true)
    (h : Ev X l S o.op fun v S' => (∀ f ∈ D, S'.h.get f.id = some f.x) ∧ ∃ N : List Fct, (∀ f ∈ N, f.src = some i ∧ f.id < S'.n ∧ S'.h.get f.id = some f.x) ∧ WF X n all (D ++ N) os (i + 1) ks Q ((d, v) :: l) S') : WF X n all D (o :: os) i ks Q l S := by
  intro e he
  unfold Ev at h
  obtain ⟨f, v, S1, h1, h2, hB, N, hN, h3⟩ := h e he
  rw [nblt, decide_eq_true_eq] at hn hn'
  obtain ⟨g, e2, S2, h4, h5⟩ := h3 _ (he.put hn' hn)
  have hc0 := hcl e he
  refine ⟨max f g, e2, S2, .inl ⟨wanted_none hg, v, S1, e.put d v, N, oper_le (exec_le (Nat.le_max_left f g)) h1, ?_, h2, fun hc => ?_, fun _ => hB, fun f hf => ⟨(hN f hf).1, (hN f hf).2.1, (hN f hf).2.2, .inl hc0⟩, RunF_le (exec_le (Nat.le_max_right f g)) h4⟩, h5⟩
  · rw [hd]; unfold setDst; dsimp only; rw [nblt, decide_eq_true hn]; rfl
  · rw [hc] at hc0; cases hc0
theorem WF_ld0 (hg : o.guard = none) (hd : o.dst = none) (hcl : ∀ e, Ag l e → isLC (cls X e o.op) = true)
    (h : Ev X l S o.op fun _ S' => (∀ f ∈ D, S'.h.get f.id = some f.x) ∧ ∃ N : List Fct, (∀ f ∈ N, f.src = some i ∧ f.id < S'.n ∧ S'.h.get f.id = some f.x) ∧ WF X n all (D ++ N) os (i + 1) ks Q l S') : WF X n all D (o :: os) i ks Q l S := by
  intro e he
  unfold Ev at h
  obtain ⟨f, v, S1, h1, h2, hB, N, hN, h3⟩ := h e he
  obtain ⟨g, e2, S2, h4, h5⟩ := h3 _ he
  have hc0 := hcl e he
  refine ⟨max f g, e2, S2, .inl ⟨wanted_none hg, v, S1, e, N, oper_le (exec_le (Nat.le_max_left f g)) h1, ?_, h2, fun hc => ?_, fun _ => hB, fun f hf => ⟨(hN f hf).1, (hN f hf).2.1, (hN f hf).2.2, .inl hc0⟩, RunF_le (exec_le (Nat.le_max_right f g)) h4⟩, h5⟩
  · rw [hd]; rfl
  · rw [hc] at hc0; cases hc0
theorem WF_guard {j d0 : Nat} {want : Bool} {p : Oper} {c : Bool} {d : Nat} (hg : o.guard = some (j, want)) (hp : all[j]? = some p) (hd0 : p.dst = some d0) (hl : lk l d0 = some (.bool c)) (hd : o.dst = some d) (hn : Nat.blt d n = true) (hn' : Nat.blt n 1000001 = true)
    (h1 : c = want → WF X n all D ({ o with guard := none } :: os) i ks Q ((d0, .bool want) :: l) S) (h2 : c = (!want) → WF X n all D os (i + 1) ks Q ((d, .tup []) :: (d0, .bool (!want)) :: l) S) : WF X n all D (o :: os) i ks Q l S := by
  intro e he
  rw [nblt, decide_eq_true_eq] at hn hn'
  have hat : e.at d0 = .bool c := he d0 _ hl
  have hag : ∀ b, c = b → Ag ((d0, .bool b) :: l) e := by
    intro b hb t v ht
    unfold lk at ht
    rw [nbeq, cond_dec] at ht
    by_cases hh : d0 = t
    · subst hh; rw [if_pos rfl] at ht; cases ht; rw [hat, hb]
    · rw [if_neg hh] at ht; exact he t v ht
  have hw : wanted all e o = (c == want) := by unfold wanted; rw [hg]; dsimp only; rw [hp]; dsimp only; rw [hd0]; dsimp only; rw [hat]
  by_cases hc : c = want
  · obtain ⟨f, e2, S2, h3, h4⟩ := h1 hc e (hag want hc)
    refine ⟨f, e2, S2, ?_, h4⟩
    have hw' : wanted all e o = true := by rw [hw, hc]; cases want <;> rfl
    unfold RunF at h3 ⊢
    rcases h3 with ⟨_, h3⟩ | ⟨h3, _⟩
    · exact .inl ⟨hw', h3⟩
    · rw [wanted_none rfl] at h3; cases h3
  · have hc' : c = (!want) := by cases c <;> cases want <;> simp_all
    obtain ⟨f, e2, S2, h3, h4⟩ := h2 hc' _ ((hag _ hc').put hn' hn)
    refine ⟨f, e2, S2, ?_, h4⟩
    have hw' : wanted all e o = false := by rw [hw, hc']; cases want <;> rfl
    refine .inr ⟨hw', e.put d (.tup []), ?_, h3⟩
    rw [hd]; unfold setDst; dsimp only; rw [nblt, decide_eq_true hn]; rfl
theorem WF_guard_dt {j d0 : Nat} {q : Oper} {p : Prop} [Decidable p] {d : Nat} (hg : o.guard = some (j, true)) (hp : all[j]? = some q) (hd0 : q.dst = some d0) (hl : lk l d0 = some (.bool (decide p))) (hd : o.dst = some d) (hn : Nat.blt d n = true) (hn' : Nat.blt n 1000001 = true)
    (h1 : p → WF X n all D ({ o with guard := none } :: os) i ks Q ((d0, .bool true) :: l) S) (h2 : ¬ p → WF X n all D os (i + 1) ks Q ((d, .tup []) :: (d0, .bool false) :: l) S) : WF X n all D (o :: os) i ks Q l S :=
  WF_guard hg hp hd0 hl hd hn hn' (fun h => h1 (of_decide_eq_true h)) (fun h => h2 (of_decide_eq_false h))
theorem WF_guard_df {j d0 : Nat} {q : Oper} {p : Prop} [Decidable p] {d : Nat} (hg : o.guard = some (j, false)) (hp : all[j]? = some q) (hd0 : q.dst = some d0) (hl : lk l d0 = some (.bool (decide p))) (hd : o.dst = some d) (hn : Nat.blt d n = true) (hn' : Nat.blt n 1000001 = true)
    (h1 : ¬ p → WF X n all D ({ o with guard := none } :: os) i ks Q ((d0, .bool false) :: l) S) (h2 : p → WF X n all D os (i + 1) ks Q ((d, .tup []) :: (d0, .bool true) :: l) S) : WF X n all D (o :: os) i ks Q l S :=
  WF_guard hg hp hd0 hl hd hn hn' (fun h => h1 (of_decide_eq_false h)) (fun h => h2 (of_decide_eq_true h))
theorem WF_guard_t {j d0 : Nat} {want : Bool} {p : Oper} {d : Nat} (hg : o.guard = some (j, want)) (hp : all[j]? = some p) (hd0 : p.dst = some d0) (hl : lk l d0 = some (.bool want)) (hd : o.dst = some d) (hn : Nat.blt d n = true) (hn' : Nat.blt n 1000001 = true)
    (h1 : WF X n all D ({ o with guard := none } :: os) i ks Q l S) : WF X n all D (o :: os) i ks Q l S := by
  refine WF_guard hg hp hd0 hl hd hn hn' (fun _ => ?_) (fun h => ?_)
  · intro e he
    exact h1 e (fun t v ht => he t v (by
      unfold lk; rw [nbeq, cond_dec]
      by_cases hh : d0 = t
      · subst hh; rw [hl] at ht; cases ht; rw [if_pos rfl]
      · rw [if_neg hh]; exact ht))
  · cases want <;> cases h
theorem WF_skip {d : Nat} (hd : o.dst = some d) (hn : Nat.blt d n = true) (hn' : Nat.blt n 1000001 = true) (hw : ∀ e, Ag l e → wanted all e o = false) (h2 : WF X n all D os (i + 1) ks Q ((d, .tup []) :: l) S) : WF X n all D (o :: os) i ks Q l S := by
  intro e he
  rw [nblt, decide_eq_true_eq] at hn hn'
  obtain ⟨f, e2, S2, h3, h4⟩ := h2 _ (he.put hn' hn)
  refine ⟨f, e2, S2, .inr ⟨hw e he, e.put d (.tup []), ?_, h3⟩, h4⟩
  rw [hd]; unfold setDst; dsimp only; rw [nblt, decide_eq_true hn]; rfl
theorem WF_guard_f {j d0 : Nat} {want c : Bool} {p : Oper} {d : Nat} (hg : o.guard = some (j, want)) (hp : all[j]? = some p) (hd0 : p.dst = some d0) (hl : lk l d0 = some (.bool c)) (hc : (c == want) = false) (hd : o.dst = some d) (hn : Nat.blt d n = true) (hn' : Nat.blt n 1000001 = true)
    (h2 : WF X n all D os (i + 1) ks Q ((d, .tup []) :: l) S) : WF X n all D (o :: os) i ks Q l S :=
  WF_skip hd hn hn' (fun e he => by unfold wanted; rw [hg]; dsimp only; rw [hp]; dsimp only; rw [hd0]; dsimp only; rw [he d0 _ hl]; exact hc) h2
theorem WF_guard_x {j d0 : Nat} {want : Bool} {p : Oper} {d : Nat} (hg : o.guard = some (j, want)) (hp : all[j]? = some p) (hd0 : p.dst = some d0) (hl : lk l d0 = some (.tup [])) (hd : o.dst = some d) (hn : Nat.blt d n = true) (hn' : Nat.blt n 1000001 = true)
    (h2 : WF X n all D os (i + 1) ks Q ((d, .tup []) :: l) S) : WF X n all D (o :: os) i ks Q l S :=
  WF_skip hd hn hn' (fun e he => by unfold wanted; rw [hg]; dsimp only; rw [hp]; dsimp only; rw [hd0]; dsimp only; rw [he d0 _ hl]) h2
/-! footprints -/
theorem FPD_load {t : Nat} {x : Operand} {p : AV} {o : Nat} {i' : TI} {cs : List AV} {v : AV} {ms : List Nat} (hx : od l x = some p) (hi : X.ti t = some i') (hag : aggD i'.desc = false) (hp : Pt S p cs o) (hv : cs[o]? = some v)
    (hb : ∀ b, blkOf p = some b → ∃ f ∈ D, f.id = b ∧ S.h.get b = some f.x ∧ ∀ j, f.src = some j → inM ms i j = true) :
    ∀ e, Ag l e → cls X e (.load t x) = .read ∧ FPD X D ms i e (.load t x) v := fun _ he =>
  ⟨rfl, fun H hH => load_eq (m := S.n) (od_ok he hx) hi hag (hp.keep fun b h => by
    obtain ⟨f, h1, h2, h3, h4⟩ := hb b h
    show H.get b = _; rw [h3, ← h2]; exact hH f h1 h4) hv⟩
theorem FPD_conv {x : Operand} {s d el m : Nat} {si di ei : TI} {v : AV} {cs : List AV} {z : List Nat} {ms : List Nat} (hx : od l x = some v) (hs : X.ti s = some si) (hd : X.ti d = some di) (hdd : di.desc = .string) (hsd : si.desc = .slice el) (he' : X.ti el = some ei) (hk : ei.desc = .int .u8) (hrd : Rd S v 1 cs m) (hz : bytesOf cs = some z)
    (hb : ∀ b, blkOf v = some b → ∃ f ∈ D, f.id = b ∧ S.h.get b = some f.x ∧ ∀ j, f.src = some j → inM ms i j = true) :
    ∀ e, Ag l e → cls X e (.convert s d x) = .read ∧ FPD X D ms i e (.convert s d x) (.str z) := fun _ he =>
  ⟨by unfold cls; dsimp only; rw [hs]; dsimp only; rw [hsd]; dsimp only; rw [hd]; dsimp only; rw [hdd], fun H hH => conv_eq (m' := S.n) (od_ok he hx) hs hd hdd hsd he' hk (hrd.keep fun b h => by
    obtain ⟨f, h1, h2, h3, h4⟩ := hb b h
    show H.get b = _; rw [h3, ← h2]; exact hH f h1 h4) hz⟩
end
end
end GX
/- GX: reasoning about runs: rules for arguments that have no block; runes read in a region that draws its order. -/

namespace GX
noncomputable section
open Go
section
variable {X : X} {l : L} {S : St} {R : AV → St → Prop} {t : Nat} {x y : Operand} {D : List Fct} {i : Nat}
theorem Ev_indexAddr_n {v : AV} {k : IntKind} {i m : Nat} {ti ei : TI} {el : Nat} {cs : List AV} (hy : od l y = some (.int k ((i : Nat) : Int))) (hx : od l x = some v) (hi : X.ti t = some ti) (hd : ti.desc = .slice el) (he' : X.ti el = some ei) (hrd : Rd S v ei.size cs m) (hn : blkOf v = none) (hlt : i < m)
    (hR : R (.rptr cs (i * ei.size)) S) : Ev X l S (.indexAddr t x y) R := by
  have hc := hrd.cells
  have hl := hrd.len
  cases v with
  | slice b o n cap => cases hn
  | rsl cs0 n z =>
    cases hl
    have hz : z = ei.size ∧ cs0.length = m * z := by have := hrd.cap; simpa [capW] using this
    obtain ⟨hz, hl0⟩ := hz
    subst hz
    have hcs : cs = cs0 := by
      unfold srcCells at hc; dsimp only at hc
      rw [nbeq, nble, ← Bool.decide_and, cond_dec] at hc
      split at hc
      · cases hc; rw [List.take_of_length_le (by omega)]
      · cases hc
    subst hcs
    refine Ev_pure (v := .rptr cs (i * ei.size)) (fun e he => ⟨rfl, ?_⟩) hR
    unfold pureOp; dsimp only; rw [od_ok he hy]; show (match opd e x with | some (.slice b o len _) => _ | some (.rsl cs len sz) => _ | _ => none) = _
    rw [od_ok he hx]; dsimp only; rw [hi]; dsimp only; rw [hd]; dsimp only; rw [he']; dsimp only; rw [nblt, nbeq, decide_eq_true hlt, decide_eq_true rfl]; rfl
  | nils => cases hl; omega
  | emp => cases hl; omega
  | _ => cases hl
theorem Ev_fieldAddr_n {f o : Nat} {i fi : TI} {fs : Array Field} {fd : Field} {cs : List AV} (hx : od l x = some (.rptr cs o)) (hi : X.ti t = some i) (hd : i.desc = .struct fs) (hf : fs.toList[f]? = some fd) (hfi : X.ti fd.type = some fi) (hz : Nat.beq fi.size 0 = false)
    (hR : R (.rptr cs (o + fd.offset)) S) : Ev X l S (.fieldAddr t x f) R :=
  Ev_pure (fun e he => ⟨rfl, by unfold pureOp; dsimp only; rw [od_ok he hx]; dsimp only; rw [hi]; dsimp only; rw [hd]; dsimp only; rw [hf]; dsimp only; rw [hfi]; dsimp only; rw [hz]; rfl⟩) hR
theorem FPD_load_n {o : Nat} {i' : TI} {cs : List AV} {v : AV} {ms : List Nat} (hx : od l x = some (.rptr cs o)) (hi : X.ti t = some i') (hag : aggD i'.desc = false) (hv : cs[o]? = some v) :
    ∀ e, Ag l e → cls X e (.load t x) = .read ∧ FPD X D ms i e (.load t x) v :=
  FPD_load (S := { h := .leaf, n := 0 }) hx hi hag (.inr rfl) hv (fun b hb => by cases hb)
theorem conv_eq_r {e : Env} {H : Tr AB} {x : Operand} {s d el m m' : Nat} {si di ei : TI} {v : AV} {cs : List AV} {z : List Nat} (hx : opd e x = some v) (hs : X.ti s = some si) (hd : X.ti d = some di) (hdd : di.desc = .string) (hsd : si.desc = .slice el) (he' : X.ti el = some ei) (hk : ei.desc = .int .i32) (hrd : Rd { h := H, n := m' } v 1 cs m) (hz : runesOf cs = some z) : readOp X e H (.convert s d x) = some (.str z) := by
  unfold readOp; dsimp only; rw [hx]; dsimp only; rw [hd]; dsimp only; rw [hs]; dsimp only; rw [hdd]; dsimp only; rw [hsd]; dsimp only; rw [he']; dsimp only; rw [hk]
  have h2 := hrd.cells
  have h3 := hrd.len
  have h4 := hrd.size
  cases v with
  | slice b o n k =>
    cases h3
    unfold srcCells at h2; dsimp only at h2 ⊢
    rw [Nat.mul_one] at h2; rw [h2]; dsimp only; rw [hz]
  | rsl cs0 n z0 =>
    cases h3
    have hz0 : z0 = 1 ∧ cs0.length = m * z0 := by have := hrd.cap; simpa [capW] using this
    obtain ⟨hz0, hl0⟩ := hz0
    subst hz0
    unfold srcCells at h2; dsimp only at h2 ⊢
    rw [nbeq, nble, ← Bool.decide_and, cond_dec] at h2
    split at h2
    · cases h2
      rw [List.take_of_length_le (by omega)] at hz
      rw [show Nat.beq 1 1 = true from rfl]
      simp only [cond_true]
      rw [hz]
    · cases h2
  | nils => cases h3; cases List.eq_nil_of_length_eq_zero (by omega : cs.length = 0); cases hz; rfl
  | emp => cases h3; cases List.eq_nil_of_length_eq_zero (by omega : cs.length = 0); cases hz; rfl
  | _ => have := hrd.sl; cases this
theorem FPD_conv_r {x : Operand} {s d el m : Nat} {si di ei : TI} {v : AV} {cs : List AV} {z : List Nat} {ms : List Nat} (hx : od l x = some v) (hs : X.ti s = some si) (hd : X.ti d = some di) (hdd : di.desc = .string) (hsd : si.desc = .slice el) (he' : X.ti el = some ei) (hk : ei.desc = .int .i32) (hrd : Rd S v 1 cs m) (hz : runesOf cs = some z)
    (hb : ∀ b, blkOf v = some b → ∃ f ∈ D, f.id = b ∧ S.h.get b = some f.x ∧ ∀ j, f.src = some j → inM ms i j = true) :
    ∀ e, Ag l e → cls X e (.convert s d x) = .read ∧ FPD X D ms i e (.convert s d x) (.str z) := fun _ he =>
  ⟨by unfold cls; dsimp only; rw [hs]; dsimp only; rw [hsd]; dsimp only; rw [hd]; dsimp only; rw [hdd], fun H hH => conv_eq_r (m' := S.n) (od_ok he hx) hs hd hdd hsd he' hk (hrd.keep fun b h => by
    obtain ⟨f, h1, h2, h3, h4⟩ := hb b h
    show H.get b = _; rw [h3, ← h2]; exact hH f h1 h4) hz⟩
end
end
end GX
/- GX: reasoning about runs: loads of whole structs in a region that draws its order; two bools compared. -/

namespace GX
noncomputable section
open Go
section
variable {X : X} {l : L} {S : St} {R : AV → St → Prop} {t u : Nat} {x y : Operand} {D : List Fct} {i : Nat}
theorem load_eq_agg {e : Env} {H : Tr AB} {t : Nat} {x : Operand} {p : AV} {o : Nat} {i : TI} {cs ds : List AV} {m : Nat} (hx : opd e x = some p) (hi : X.ti t = some i) (hag : aggD i.desc = true) (hp : Pt { h := H, n := m } p cs o) (hle : o + i.size ≤ cs.length) (hv : (cs.drop o).take i.size = ds) : readOp X e H (.load t x) = some (.agg ds) := by
  unfold readOp; dsimp only; rw [hx]
  rcases hp with ⟨b, o0, ty, cs0, sp, rfl, h2, h3, h4⟩ | rfl
  · have hrow : row H b (o0 + o) i.size = some ds := by
      unfold row; rw [h2]; dsimp only; rw [nble, decide_eq_true (by omega)]; simp only [cond_true]; rw [drop_take_eq h4 hle, hv]
    dsimp only; unfold loadAt; rw [hi]; dsimp only
    split
    · rw [hrow]
    · rw [hrow]
    · rename_i h1 h2
      cases hd : i.desc with
      | struct f => exact absurd hd (h1 f)
      | array a b => exact absurd hd (h2 a b)
      | _ => rw [hd] at hag; cases hag
  · dsimp only; unfold loadR; rw [hi]; dsimp only
    split
    · rw [nble, decide_eq_true hle]; simp only [cond_true]; rw [hv]
    · rw [nble, decide_eq_true hle]; simp only [cond_true]; rw [hv]
    · rename_i h1 h2
      cases hd : i.desc with
      | struct f => exact absurd hd (h1 f)
      | array a b => exact absurd hd (h2 a b)
      | _ => rw [hd] at hag; cases hag
theorem FPD_loadA {t : Nat} {x : Operand} {p : AV} {o : Nat} {i' : TI} {cs ds : List AV} {ms : List Nat} (hx : od l x = some p) (hi : X.ti t = some i') (hag : aggD i'.desc = true) (hp : Pt S p cs o) (hle : o + i'.size ≤ cs.length) (hv : (cs.drop o).take i'.size = ds)
    (hb : ∀ b, blkOf p = some b → ∃ f ∈ D, f.id = b ∧ S.h.get b = some f.x ∧ ∀ j, f.src = some j → inM ms i j = true) :
    ∀ e, Ag l e → cls X e (.load t x) = .read ∧ FPD X D ms i e (.load t x) (.agg ds) := fun _ he =>
  ⟨rfl, fun H hH => load_eq_agg (m := S.n) (od_ok he hx) hi hag (hp.keep fun b h => by
    obtain ⟨f, h1, h2, h3, h4⟩ := hb b h
    show H.get b = _; rw [h3, ← h2]; exact hH f h1 h4) hle hv⟩
theorem FPD_loadA_n {o : Nat} {i' : TI} {cs ds : List AV} {ms : List Nat} (hx : od l x = some (.rptr cs o)) (hi : X.ti t = some i') (hag : aggD i'.desc = true) (hle : o + i'.size ≤ cs.length) (hv : (cs.drop o).take i'.size = ds) :
    ∀ e, Ag l e → cls X e (.load t x) = .read ∧ FPD X D ms i e (.load t x) (.agg ds) :=
  FPD_loadA (S := { h := .leaf, n := 0 }) hx hi hag (.inr rfl) hle hv (fun b hb => by cases hb)
theorem Ev_beql {a b : Bool} {i : TI} (hx : od l x = some (.bool a)) (hy : od l y = some (.bool b)) (hi : X.ti t = some i) (hd : i.desc = .bool) (hR : R (.bool (a == b)) S) : Ev X l S (.binOp .eql t x y u) R :=
  Ev_bin hx hy rfl (by unfold abin; dsimp only; unfold aeq; rw [hi]; dsimp only; rw [hd]) hR
end
end
end GX
/- GX: reasoning about runs: maps, as lists of keys and values. -/

namespace GX
noncomputable section
open Go
variable {κ α : Type}
/-- the value at a key -/
def alook [DecidableEq κ] (k : κ) : List (κ × α) → Option α
  | [] => none
  | p :: m => if k = p.1 then some p.2 else alook k m
/-- a value is put at a key -/
def aput [DecidableEq κ] (k : κ) (v : α) : List (κ × α) → List (κ × α)
  | [] => [(k, v)]
  | p :: m => if k = p.1 then (k, v) :: m else p :: aput k v m
theorem alook_aput [DecidableEq κ] (k j : κ) (v : α) : ∀ m : List (κ × α), alook j (aput k v m) = if j = k then some v else alook j m
  | [] => by
    show (if j = k then some v else none) = _
    rfl
  | p :: m => by
    unfold aput
    by_cases h : k = p.1
    · rw [if_pos h]
      show (if j = k then some v else alook j m) = if j = k then some v else (if j = p.1 then some p.2 else alook j m)
      by_cases h2 : j = k
      · rw [if_pos h2, if_pos h2]
      · rw [if_neg h2, if_neg h2, if_neg (fun e => h2 (by rw [e, h]))]
    · rw [if_neg h]
      show (if j = p.1 then some p.2 else alook j (aput k v m)) = if j = k then some v else (if j = p.1 then some p.2 else alook j m)
      rw [alook_aput k j v m]
      by_cases h2 : j = p.1
      · rw [if_pos h2, if_pos h2, if_neg (fun e => h (by rw [← e, h2]))]
      · rw [if_neg h2, if_neg h2]
theorem alook_mem [DecidableEq κ] {k : κ} {v : α} : ∀ {m : List (κ × α)}, alook k m = some v → (k, v) ∈ m
  | [], h => by cases h
  | p :: m, h => by
    unfold alook at h
    split at h
    · rename_i e; subst e; cases h; exact List.mem_cons_self ..
    · exact List.mem_cons_of_mem _ (alook_mem h)
/-- the entry of a key: its place and value -/
def afindM [DecidableEq κ] (k : κ) : List (κ × α) → Nat → Option (Nat × α)
  | [], _ => none
  | p :: m, i => if k = p.1 then some (i, p.2) else afindM k m (i + 1)
theorem afindM_look [DecidableEq κ] (k : κ) : ∀ (m : List (κ × α)) (i : Nat), (afindM k m i).map (·.2) = alook k m
  | [], _ => rfl
  | p :: m, i => by
    unfold afindM alook
    split
    · rfl
    · exact afindM_look k m (i + 1)
/-- keys of a type as the machine's values -/
structure KeyT [DecidableEq κ] (X : X) (kt : Nat) (kv : κ → AV) : Prop where
  eq : ∀ a b, aeq X 10 kt (kv a) (kv b) = some (decide (a = b))
  val : ∀ a, keyVal X 4 kt (kv a) = true
  same : ∀ a, ksame (kv a) (kv a) = true
def mpE (kv : κ → AV) (vv : α → AV) (es : List (AV × AV × Nat)) (m : List (κ × α)) : Prop := es.map (fun e => (e.1, e.2.1)) = m.map (fun p => (kv p.1, vv p.2))
theorem mpE_cons {kv : κ → AV} {vv : α → AV} {e : AV × AV × Nat} {es : List (AV × AV × Nat)} {p : κ × α} {m : List (κ × α)} (h : mpE kv vv (e :: es) (p :: m)) : e.1 = kv p.1 ∧ e.2.1 = vv p.2 ∧ mpE kv vv es m := by
  unfold mpE at h
  simp only [List.map_cons, List.cons.injEq, Prod.mk.injEq] at h
  exact ⟨h.1.1, h.1.2, h.2⟩
theorem mpE_mk {kv : κ → AV} {vv : α → AV} {k : κ} {v : α} {b : Nat} {es : List (AV × AV × Nat)} {m : List (κ × α)} (h : mpE kv vv es m) : mpE kv vv ((kv k, vv v, b) :: es) ((k, v) :: m) := by
  unfold mpE at h ⊢
  simp only [List.map_cons, h]
theorem mpE_len {kv : κ → AV} {vv : α → AV} {es : List (AV × AV × Nat)} {m : List (κ × α)} (h : mpE kv vv es m) : es.length = m.length := by
  have := congrArg List.length h
  simpa using this
theorem afind_ok [DecidableEq κ] {X : X} {kt : Nat} {kv : κ → AV} {vv : α → AV} (hK : KeyT X kt kv) (k : κ) : ∀ (es : List (AV × AV × Nat)) (m : List (κ × α)) (i : Nat), mpE kv vv es m → afind X kt (kv k) es i = some ((afindM k m i).map fun q => (q.1, vv q.2))
  | [], [], _, _ => rfl
  | [], p :: m, _, h => by have := mpE_len h; simp at this
  | e :: es, [], _, h => by have := mpE_len h; simp at this
  | (a, b, c) :: es, p :: m, i, h => by
    obtain ⟨h1, h2, h3⟩ := mpE_cons h
    dsimp only at h1 h2
    subst h1 h2
    unfold afind afindM
    rw [hK.eq]
    by_cases hk : k = p.1
    · rw [decide_eq_true hk, if_pos hk]; rfl
    · rw [decide_eq_false hk, if_neg hk]
      exact afind_ok hK k es m (i + 1) h3
theorem mput_ok [DecidableEq κ] {X : X} {kt : Nat} {kv : κ → AV} {vv : α → AV} (hK : KeyT X kt kv) (k : κ) (w : α) : ∀ (es : List (AV × AV × Nat)) (m : List (κ × α)) (i j : Nat) (v : α), mpE kv vv es m → afindM k m i = some (j, v) →
    i ≤ j ∧ mpE kv vv (mput es (j - i) (kv k) (vv w)) (aput k w m) ∧ keyAt es (j - i) (kv k) = true ∧ (mput es (j - i) (kv k) (vv w)).map (·.2.2) = es.map (·.2.2)
  | [], [], _, _, _, _, h => by cases h
  | [], p :: m, _, _, _, h, _ => by have := mpE_len h; simp at this
  | e :: es, [], _, _, _, _, h => by cases h
  | (a, b, c) :: es, p :: m, i, j, v, h, hf => by
    obtain ⟨h1, h2, h3⟩ := mpE_cons h
    dsimp only at h1 h2
    subst h1 h2
    unfold afindM at hf
    by_cases hk : k = p.1
    · rw [if_pos hk] at hf
      cases hf
      rw [Nat.sub_self]
      refine ⟨Nat.le_refl _, ?_, ?_, rfl⟩
      · unfold aput; rw [if_pos hk]
        exact mpE_mk h3
      · show ksame (kv p.1) (kv k) = true
        rw [hk]; exact hK.same _
    · rw [if_neg hk] at hf
      obtain ⟨g1, g2, g3, g4⟩ := mput_ok hK k w es m (i + 1) j v h3 hf
      have e : j - i = (j - (i + 1)) + 1 := by omega
      rw [e]
      refine ⟨by omega, ?_, g3, ?_⟩
      · unfold aput; rw [if_neg hk]
        exact mpE_mk (k := p.1) (v := p.2) g2
      · show c :: (mput es (j - (i + 1)) (kv k) (vv w)).map (·.2.2) = c :: es.map (·.2.2)
        rw [g4]
theorem put_new [DecidableEq κ] {kv : κ → AV} {vv : α → AV} (k : κ) (w : α) (c : Nat) : ∀ (es : List (AV × AV × Nat)) (m : List (κ × α)) (i : Nat), mpE kv vv es m → afindM k m i = none → mpE kv vv (es ++ [(kv k, vv w, c)]) (aput k w m)
  | [], [], _, _, _ => rfl
  | [], p :: m, _, h, _ => by have := mpE_len h; simp at this
  | e :: es, [], _, h, _ => by have := mpE_len h; simp at this
  | (a, b, d) :: es, p :: m, i, h, hf => by
    obtain ⟨h1, h2, h3⟩ := mpE_cons h
    dsimp only at h1 h2
    subst h1 h2
    unfold afindM at hf
    by_cases hk : k = p.1
    · rw [if_pos hk] at hf; cases hf
    · rw [if_neg hk] at hf
      unfold aput; rw [if_neg hk]
      exact mpE_mk (k := p.1) (v := p.2) (put_new k w c es m (i + 1) h3 hf)
/-- a map in memory -/
structure Mp (S : St) (r : Nat) (kv : κ → AV) (vv : α → AV) (m : List (κ × α)) : Prop where
  ex : ∃ es clock, S.h.get r = some (.map es clock) ∧ mpE kv vv es m ∧ (es.map (·.2.2)).Nodup ∧ ∀ b ∈ es.map (·.2.2), b < clock
theorem Mp.keep {S T : St} {r : Nat} {kv : κ → AV} {vv : α → AV} {m : List (κ × α)} (h : Mp S r kv vv m) (he : T.h.get r = S.h.get r) : Mp T r kv vv m := by
  obtain ⟨es, c, h1, h2⟩ := h.ex
  exact ⟨es, c, by rw [he]; exact h1, h2⟩
theorem Mp.lt {S : St} {r : Nat} {kv : κ → AV} {vv : α → AV} {m : List (κ × α)} (h : Mp S r kv vv m) (hok : Sok S) : r < S.n := by
  obtain ⟨es, c, h1, _⟩ := h.ex
  exact hok _ _ h1
/-- a type's zero value, in one piece -/
def zeroV (ei : TI) : Option AV := match ei.desc with
  | .struct _ => some (.agg ei.zero)
  | .array _ _ => some (.agg ei.zero)
  | _ => match ei.zero with | [z] => some z | _ => none
/-- what is looked up -/
def lookV (vv : α → AV) (z : AV) (o : Option α) : AV := match o with | some a => vv a | none => z
section
variable {X : X} {l : L} {S : St} {R : AV → St → Prop} {t : Nat} {x y : Operand} {i ei : TI} {kt et r : Nat} {kv : κ → AV} {vv : α → AV} {m : List (κ × α)} {k : κ} {z : AV}
theorem look_read [DecidableEq κ] {ok : Bool} {e : Env} {H : Tr AB} (hx : opd e x = some (.map r)) (hy : opd e y = some (kv k)) (hi : X.ti t = some i) (hd : i.desc = .map kt et) (he : X.ti et = some ei) (hz : zeroV ei = some z) (hK : KeyT X kt kv) {n : Nat} (hm : Mp { h := H, n := n } r kv vv m) :
    readOp X e H (.lookup t x y ok) = some (bif ok then .tup [lookV vv z (alook k m), .bool (alook k m).isSome] else lookV vv z (alook k m)) := by
  obtain ⟨es, c, h1, h2, _⟩ := hm.ex
  have h1 : H.get r = some (.map es c) := h1
  unfold readOp
  dsimp only
  rw [hi]; dsimp only; rw [hd]; dsimp only; rw [hy]; dsimp only; rw [hK.val, he]
  simp only [cond_true]
  have hl := afindM_look k m 0
  have key : ∀ zz, zz = some z → (match zz with
      | none => none
      | some z => match (match opd e x with | some .nilm => some none | some (.map r) => (match H.get r with | some (.map es _) => afind X kt (kv k) es 0 | _ => none) | _ => none) with
        | none => none
        | some r => some (bif ok then AV.tup [match r with | some (_, v) => v | none => z, .bool (match r with | some _ => true | none => false)] else match r with | some (_, v) => v | none => z)) = some (bif ok then .tup [lookV vv z (alook k m), .bool (alook k m).isSome] else lookV vv z (alook k m)) := by
    intro zz hzz
    subst hzz
    dsimp only
    rw [hx]; dsimp only; rw [h1]; dsimp only; rw [afind_ok hK k es m 0 h2]
    dsimp only
    cases hf : afindM k m 0 with
    | none => rw [hf] at hl; rw [← hl]; rfl
    | some q => rw [hf] at hl; rw [← hl]; rfl
  exact key _ hz
theorem lookV_veq {o : Option α} (hz : veq z z = true) (hv : ∀ a, o = some a → veq (vv a) (vv a) = true) : veq (lookV vv z o) (lookV vv z o) = true := by
  cases o with
  | none => exact hz
  | some a => exact hv a rfl
theorem veq_tup2 {a : AV} {b : Bool} (h : veq a a = true) : veq (.tup [a, .bool b]) (.tup [a, .bool b]) = true := by
  show (veq a a && (veq (.bool b) (.bool b) && true)) = true
  rw [h]; cases b <;> rfl
theorem Ev_look [DecidableEq κ] (hx : od l x = some (.map r)) (hy : od l y = some (kv k)) (hi : X.ti t = some i) (hd : i.desc = .map kt et) (he : X.ti et = some ei) (hz : zeroV ei = some z) (hK : KeyT X kt kv) (hm : Mp S r kv vv m) (hvz : veq z z = true) (hv : ∀ a, alook k m = some a → veq (vv a) (vv a) = true)
    (hR : R (lookV vv z (alook k m)) S) : Ev X l S (.lookup t x y false) R :=
  Ev_read (fun _ hA => ⟨rfl, look_read (n := S.n) (od_ok hA hx) (od_ok hA hy) hi hd he hz hK (hm.keep rfl)⟩) (lookV_veq hvz hv) hR
theorem Ev_look2 [DecidableEq κ] (hx : od l x = some (.map r)) (hy : od l y = some (kv k)) (hi : X.ti t = some i) (hd : i.desc = .map kt et) (he : X.ti et = some ei) (hz : zeroV ei = some z) (hK : KeyT X kt kv) (hm : Mp S r kv vv m) (hvz : veq z z = true) (hv : ∀ a, alook k m = some a → veq (vv a) (vv a) = true)
    (hR : R (.tup [lookV vv z (alook k m), .bool (alook k m).isSome]) S) : Ev X l S (.lookup t x y true) R :=
  Ev_read (fun _ hA => ⟨rfl, look_read (n := S.n) (od_ok hA hx) (od_ok hA hy) hi hd he hz hK (hm.keep rfl)⟩) (veq_tup2 (lookV_veq hvz hv)) hR
/-- a value is put at a key -/
theorem mupdate_ok [DecidableEq κ] (hi : X.ti t = some i) (hd : i.desc = .map kt et) (hK : KeyT X kt kv) (hm : Mp S r kv vv m) (hrn : r < 1000000000) (w : α) :
    ∃ S', aupdate X S t (.map r) (kv k) (vv w) = some S' ∧ S'.n = S.n ∧ Mp S' r kv vv (aput k w m) ∧ ∀ c, c ≠ r → S'.h.get c = S.h.get c := by
  obtain ⟨es, c, h1, h2, h3, h4⟩ := hm.ex
  unfold aupdate
  rw [hi]; dsimp only; rw [hd]; dsimp only; rw [hK.val]
  simp only [cond_true]
  rw [h1]; dsimp only; rw [afind_ok hK k es m 0 h2]
  cases hf : afindM k m 0 with
  | none =>
    refine ⟨_, rfl, rfl, ⟨es ++ [(kv k, vv w, c)], c + 1, (get_put (by omega) _ _).trans (if_pos rfl), put_new k w c es m 0 h2 hf, ?_, ?_⟩, fun d hd => (get_put (by omega) _ _).trans (if_neg hd)⟩
    · rw [List.map_append, List.nodup_append]
      refine ⟨h3, by simp, ?_⟩
      intro a ha b hb
      simp at hb
      have := h4 a ha
      omega
    · intro b hb
      rw [List.map_append, List.mem_append] at hb
      rcases hb with hb | hb
      · have := h4 b hb; omega
      · simp at hb; omega
  | some q =>
    obtain ⟨g1, g2, g3, g4⟩ := mput_ok hK k w es m 0 q.1 q.2 h2 hf
    rw [Nat.sub_zero] at g2 g3 g4
    dsimp only [Option.map]
    rw [g3]
    refine ⟨_, rfl, rfl, ⟨_, c, (get_put (by omega) _ _).trans (if_pos rfl), g2, by rw [g4]; exact h3, by rw [g4]; exact h4⟩, fun d hd => (get_put (by omega) _ _).trans (if_neg hd)⟩
theorem Ev_mapUpdate [DecidableEq κ] {u : Operand} (w : α) (hx : od l x = some (.map r)) (hy : od l y = some (kv k)) (hu : od l u = some (vv w)) (hi : X.ti t = some i) (hd : i.desc = .map kt et) (hK : KeyT X kt kv) (hm : Mp S r kv vv m) (hrn : r < 1000000000)
    (hR : ∀ S', S'.n = S.n → Mp S' r kv vv (aput k w m) → (∀ c, c ≠ r → S'.h.get c = S.h.get c) → R (.tup []) S') : Ev X l S (.mapUpdate t x y u) R := by
  obtain ⟨S', h1, h2, h3, h4⟩ := mupdate_ok hi hd hK hm hrn w (k := k)
  refine Ev_loud (fun e hA => ⟨rfl, ?_⟩) (by omega) (hR S' h2 h3 h4)
  unfold loudOp; dsimp only; rw [od_ok hA hx, od_ok hA hy, od_ok hA hu]; dsimp only; rw [h1]
theorem Ev_makeMap (hok : Sok S) (hn : S.n < 1000000000)
    (hR : ∀ S', S'.n = S.n + 1 → Sok S' → Mp S' S.n kv vv [] → (∀ c, c < S.n → S'.h.get c = S.h.get c) → R (.map S.n) S') : Ev X l S (.makeMap t none) R :=
  Ev_mk (fun e _ => ⟨rfl, rfl⟩) hok hn (fun S' h1 h2 h3 h4 => hR S' h1 h2 ⟨[], 0, h3, rfl, by simp, by simp⟩ h4)
end
end
end GX
/- loaders: what they hold in memory. -/



namespace Go.Proofs.Ytjbpegggfacojaa
open GX
set_option maxHeartbeats 16000000
abbrev Nm := List Nat
abbrev strK : Nm → AV := fun s => .str s
abbrev keyK : Int × Nm → AV := fun k => .agg [.int .i64 k.1, .str k.2]
abbrev offV : Nm × Int → AV := fun o => .agg [.str o.1, .int .i64 o.2]
abbrev fndV : Int × Int → AV := fun o => .agg [.int .i64 o.1, .int .i64 o.2]
abbrev intV : Int → AV := fun n => .int .i64 n
theorem strK_ok : KeyT X1 9 strK where
  eq := fun a b => by
    have h : aeq X1 10 9 (.str a) (.str b) = some (seq a b) := by kernel_rfl
    rw [h, seq_eq]
  val := fun a => by kernel_rfl
  same := fun a => by show seq a a = true; rw [seq_eq]; simp
theorem keyK_ok : KeyT X1 76 keyK where
  eq := fun a b => by
    have h : aeq X1 10 76 (.agg [.int .i64 a.1, .str a.2]) (.agg [.int .i64 b.1, .str b.2]) = (match ieq a.1 b.1 with | true => (match seq a.2 b.2 with | true => some true | false => some false) | false => some false) := by kernel_rfl
    rw [h, ieq_eq, seq_eq]
    have e : a = b ↔ a.1 = b.1 ∧ a.2 = b.2 := Prod.ext_iff
    by_cases h1 : a.1 = b.1
    · by_cases h2 : a.2 = b.2
      · simp [h1, h2, e]
      · simp [h1, h2, e]
    · rw [show (a.1 == b.1) = false by simpa using h1]; simp [e, h1]
  val := fun a => by kernel_rfl
  same := fun a => by
    show ksames [.int .i64 a.1, .str a.2] [.int .i64 a.1, .str a.2] = true
    simp [ksames, ksame1, ieq_eq, seq_eq]
/-- a loader: its parent, what it offers, what it has loaded -/
structure One where
  par : Int
  off : List (Nm × (Nm × Int))
  ldd : List (Nm × (Int × Int))
structure LdS where
  ones : List One
  keys : List ((Int × Nm) × Int)
  prs : List Int
  ids : List Int
/-- where it lies; what each block is for: 0 the loaders, 1 the keys, 2 to 4 the lists, 5 others, from 6 on three for each loader -/
structure Lay where
  vl : AV
  rk : Nat
  vp : AV
  vi : AV
  bs : List (Nat × Nat × Nat)
  tg : Nat → Nat
structure OneAt (S : St) (b : Nat × Nat × Nat) (o : One) : Prop where
  cell : S.h.get b.1 = some (.cells 67 [.int .i64 o.par, .map b.2.1, .map b.2.2] false)
  off : Mp S b.2.1 strK offV o.off
  ldd : Mp S b.2.2 strK fndV o.ldd
structure Ls (S : St) (p : Nat) (y : Lay) (st : LdS) : Prop where
  ok : Sok S
  at_ : S.h.get p = some (.cells 57 [y.vl, .map y.rk, y.vp, y.vi] false)
  l : Own S y.vl 68 1 (y.bs.map fun b => AV.ptr b.1 0) y.bs.length
  keys : Mp S y.rk keyK intV st.keys
  prs : Own S y.vp 3 1 (st.prs.map intV) st.prs.length
  ids : Own S y.vi 3 1 (st.ids.map intV) st.ids.length
  len : y.bs.length = st.ones.length
  one : ∀ (j : Nat) (b : Nat × Nat × Nat) (o : One), y.bs[j]? = some b → st.ones[j]? = some o → OneAt S b o
  tp : y.tg p = 0
  tk : y.tg y.rk = 1
  tl : ∀ c, blkOf y.vl = some c → y.tg c = 2
  tpr : ∀ c, blkOf y.vp = some c → y.tg c = 3
  tid : ∀ c, blkOf y.vi = some c → y.tg c = 4
  tb : ∀ (j : Nat) (b : Nat × Nat × Nat), y.bs[j]? = some b → y.tg b.1 = 6 + 3 * j ∧ y.tg b.2.1 = 7 + 3 * j ∧ y.tg b.2.2 = 8 + 3 * j
section
variable {S U : St} {p : Nat} {y : Lay} {st : LdS}
theorem Ls.get (h : Ls S p y st) {j : Nat} (hj : j < st.ones.length) : ∃ b, y.bs[j]? = some b ∧ st.ones[j]? = some st.ones[j] ∧ OneAt S b st.ones[j] := by
  have hj2 : j < y.bs.length := by rw [h.len]; exact hj
  exact ⟨y.bs[j], List.getElem?_eq_getElem hj2, List.getElem?_eq_getElem hj, h.one j _ _ (List.getElem?_eq_getElem hj2) (List.getElem?_eq_getElem hj)⟩
/-- what is known when the blocks of some kinds have turned -/
theorem Ls.others (h : Ls S p y st) (D : Nat → Prop) (hf : ∀ c, c < S.n → ¬ D (y.tg c) → U.h.get c = S.h.get c) :
    (¬ D 0 → U.h.get p = some (.cells 57 [y.vl, .map y.rk, y.vp, y.vi] false)) ∧ (¬ D 1 → Mp U y.rk keyK intV st.keys) ∧ (¬ D 2 → Own U y.vl 68 1 (y.bs.map fun b => AV.ptr b.1 0) y.bs.length) ∧ (¬ D 3 → Own U y.vp 3 1 (st.prs.map intV) st.prs.length) ∧ (¬ D 4 → Own U y.vi 3 1 (st.ids.map intV) st.ids.length) ∧
    ∀ (j : Nat) (b : Nat × Nat × Nat) (o : One), y.bs[j]? = some b → st.ones[j]? = some o → (¬ D (6 + 3 * j) → U.h.get b.1 = some (.cells 67 [.int .i64 o.par, .map b.2.1, .map b.2.2] false)) ∧ (¬ D (7 + 3 * j) → Mp U b.2.1 strK offV o.off) ∧ (¬ D (8 + 3 * j) → Mp U b.2.2 strK fndV o.ldd) := by
  refine ⟨fun hd => ?_, fun hd => ?_, fun hd => ?_, fun hd => ?_, fun hd => ?_, fun j b o hb ho => ?_⟩
  · rw [hf p (h.ok _ _ h.at_) (by rw [h.tp]; exact hd)]; exact h.at_
  · exact h.keys.keep (hf _ (h.keys.lt h.ok) (by rw [h.tk]; exact hd))
  · exact h.l.keep (fun c hc => hf c (h.l.lt h.ok hc) (by rw [h.tl c hc]; exact hd))
  · exact h.prs.keep (fun c hc => hf c (h.prs.lt h.ok hc) (by rw [h.tpr c hc]; exact hd))
  · exact h.ids.keep (fun c hc => hf c (h.ids.lt h.ok hc) (by rw [h.tid c hc]; exact hd))
  · have h1 := h.one j b o hb ho
    obtain ⟨t1, t2, t3⟩ := h.tb j b hb
    exact ⟨fun hd => by rw [hf _ (h.ok _ _ h1.cell) (by rw [t1]; exact hd)]; exact h1.cell, fun hd => h1.off.keep (hf _ (h1.off.lt h.ok) (by rw [t2]; exact hd)), fun hd => h1.ldd.keep (hf _ (h1.ldd.lt h.ok) (by rw [t3]; exact hd))⟩
/-- new blocks change nothing -/
theorem Ls.far (h : Ls S p y st) (hok : Sok U) (hf : ∀ c, c < S.n → U.h.get c = S.h.get c) (tg' : Nat → Nat) (ht : ∀ c, c < S.n → tg' c = y.tg c) : Ls U p { y with tg := tg' } st := by
  obtain ⟨a0, a1, a2, a3, a4, a5⟩ := h.others (U := U) (fun _ => False) (fun c hc _ => hf c hc)
  refine ⟨hok, a0 id, a2 id, a1 id, a3 id, a4 id, h.len, fun j b o hb ho => ⟨(a5 j b o hb ho).1 id, (a5 j b o hb ho).2.1 id, (a5 j b o hb ho).2.2 id⟩, (ht _ (h.ok _ _ h.at_)).trans h.tp, (ht _ (h.keys.lt h.ok)).trans h.tk, fun c hc => (ht c (h.l.lt h.ok hc)).trans (h.tl c hc), fun c hc => (ht c (h.prs.lt h.ok hc)).trans (h.tpr c hc), fun c hc => (ht c (h.ids.lt h.ok hc)).trans (h.tid c hc), fun j b hb => ?_⟩
  have hj : j < st.ones.length := by rw [← h.len]; exact (List.getElem?_eq_some_iff.1 hb).1
  have h1 := h.one j b _ hb (List.getElem?_eq_getElem hj)
  obtain ⟨t1, t2, t3⟩ := h.tb j b hb
  exact ⟨(ht _ (h.ok _ _ h1.cell)).trans t1, (ht _ (h1.off.lt h.ok)).trans t2, (ht _ (h1.ldd.lt h.ok)).trans t3⟩
/-- a block that is not the loaders' turns -/
theorem Ls.other (h : Ls S p y st) (hok : Sok U) (hf : ∀ c, c < S.n → y.tg c ≠ 5 → U.h.get c = S.h.get c) : Ls U p y st := by
  obtain ⟨a0, a1, a2, a3, a4, a5⟩ := h.others (U := U) (fun t => t = 5) (fun c hc hd => hf c hc hd)
  exact ⟨hok, a0 (by decide), a2 (by decide), a1 (by decide), a3 (by decide), a4 (by decide), h.len, fun j b o hb ho => ⟨(a5 j b o hb ho).1 (by omega), (a5 j b o hb ho).2.1 (by omega), (a5 j b o hb ho).2.2 (by omega)⟩, h.tp, h.tk, h.tl, h.tpr, h.tid, h.tb⟩
def LdS.put (st : LdS) (j : Nat) (o : One) : LdS := { st with ones := st.ones.set j o }
/-- a loader offers one class more -/
theorem Ls.put_off (h : Ls S p y st) (hok : Sok U) {j : Nat} {b : Nat × Nat × Nat} {o : One} (hb : y.bs[j]? = some b) (ho : st.ones[j]? = some o) (k : Nm) (v : Nm × Int) (hm : Mp U b.2.1 strK offV (aput k v o.off)) (hf : ∀ c, c ≠ b.2.1 → U.h.get c = S.h.get c) : Ls U p y (st.put j { o with off := aput k v o.off }) := by
  have ht := (h.tb j b hb).2.1
  obtain ⟨a0, a1, a2, a3, a4, a5⟩ := h.others (U := U) (fun t => t = 7 + 3 * j) (fun c hc hd => hf c (fun e => hd (by rw [e]; exact ht)))
  refine ⟨hok, a0 (by omega), a2 (by omega), a1 (by omega), a3 (by omega), a4 (by omega), by rw [h.len]; exact (List.length_set ..).symm, fun i b' o' hb' ho' => ?_, h.tp, h.tk, h.tl, h.tpr, h.tid, h.tb⟩
  have ho' : (st.ones.set j { o with off := aput k v o.off })[i]? = some o' := ho'
  by_cases hij : j = i
  · subst hij
    rw [hb] at hb'; cases hb'
    rw [List.getElem?_set_self (List.getElem?_eq_some_iff.1 ho).1] at ho'; cases ho'
    exact ⟨(a5 j b o hb ho).1 (by omega), hm, (a5 j b o hb ho).2.2 (by omega)⟩
  · rw [List.getElem?_set_ne hij] at ho'
    exact ⟨(a5 i b' o' hb' ho').1 (by omega), (a5 i b' o' hb' ho').2.1 (by omega), (a5 i b' o' hb' ho').2.2 (by omega)⟩
/-- a loader has loaded one class more -/
theorem Ls.put_ldd (h : Ls S p y st) (hok : Sok U) {j : Nat} {b : Nat × Nat × Nat} {o : One} (hb : y.bs[j]? = some b) (ho : st.ones[j]? = some o) (k : Nm) (v : Int × Int) (hm : Mp U b.2.2 strK fndV (aput k v o.ldd)) (hf : ∀ c, c ≠ b.2.2 → U.h.get c = S.h.get c) : Ls U p y (st.put j { o with ldd := aput k v o.ldd }) := by
  have ht := (h.tb j b hb).2.2
  obtain ⟨a0, a1, a2, a3, a4, a5⟩ := h.others (U := U) (fun t => t = 8 + 3 * j) (fun c hc hd => hf c (fun e => hd (by rw [e]; exact ht)))
  refine ⟨hok, a0 (by omega), a2 (by omega), a1 (by omega), a3 (by omega), a4 (by omega), by rw [h.len]; exact (List.length_set ..).symm, fun i b' o' hb' ho' => ?_, h.tp, h.tk, h.tl, h.tpr, h.tid, h.tb⟩
  have ho' : (st.ones.set j { o with ldd := aput k v o.ldd })[i]? = some o' := ho'
  by_cases hij : j = i
  · subst hij
    rw [hb] at hb'; cases hb'
    rw [List.getElem?_set_self (List.getElem?_eq_some_iff.1 ho).1] at ho'; cases ho'
    exact ⟨(a5 j b o hb ho).1 (by omega), (a5 j b o hb ho).2.1 (by omega), hm⟩
  · rw [List.getElem?_set_ne hij] at ho'
    exact ⟨(a5 i b' o' hb' ho').1 (by omega), (a5 i b' o' hb' ho').2.1 (by omega), (a5 i b' o' hb' ho').2.2 (by omega)⟩
/-- a key more -/
theorem Ls.put_key (h : Ls S p y st) (hok : Sok U) (k : Int × Nm) (v : Int) (hm : Mp U y.rk keyK intV (aput k v st.keys)) (hf : ∀ c, c ≠ y.rk → U.h.get c = S.h.get c) : Ls U p y { st with keys := aput k v st.keys } := by
  obtain ⟨a0, a1, a2, a3, a4, a5⟩ := h.others (U := U) (fun t => t = 1) (fun c hc hd => hf c (fun e => hd (by rw [e]; exact h.tk)))
  exact ⟨hok, a0 (by decide), a2 (by decide), hm, a3 (by decide), a4 (by decide), h.len, fun j b o hb ho => ⟨(a5 j b o hb ho).1 (by omega), (a5 j b o hb ho).2.1 (by omega), (a5 j b o hb ho).2.2 (by omega)⟩, h.tp, h.tk, h.tl, h.tpr, h.tid, h.tb⟩
/-- with whom a number agrees -/
theorem Ls.set_prs (h : Ls S p y st) (hok : Sok U) (l : List Int) (hm : Own U y.vp 3 1 (l.map intV) l.length) (hf : ∀ c, blkOf y.vp ≠ some c → U.h.get c = S.h.get c) : Ls U p y { st with prs := l } := by
  obtain ⟨a0, a1, a2, a3, a4, a5⟩ := h.others (U := U) (fun t => t = 3) (fun c hc hd => hf c (fun e => hd (h.tpr c e)))
  exact ⟨hok, a0 (by decide), a2 (by decide), a1 (by decide), hm, a4 (by decide), h.len, fun j b o hb ho => ⟨(a5 j b o hb ho).1 (by omega), (a5 j b o hb ho).2.1 (by omega), (a5 j b o hb ho).2.2 (by omega)⟩, h.tp, h.tk, h.tl, h.tpr, h.tid, h.tb⟩
/-- a number's id -/
theorem Ls.set_ids (h : Ls S p y st) (hok : Sok U) (l : List Int) (hm : Own U y.vi 3 1 (l.map intV) l.length) (hf : ∀ c, blkOf y.vi ≠ some c → U.h.get c = S.h.get c) : Ls U p y { st with ids := l } := by
  obtain ⟨a0, a1, a2, a3, a4, a5⟩ := h.others (U := U) (fun t => t = 4) (fun c hc hd => hf c (fun e => hd (h.tid c e)))
  exact ⟨hok, a0 (by decide), a2 (by decide), a1 (by decide), a3 (by decide), hm, h.len, fun j b o hb ho => ⟨(a5 j b o hb ho).1 (by omega), (a5 j b o hb ho).2.1 (by omega), (a5 j b o hb ho).2.2 (by omega)⟩, h.tp, h.tk, h.tl, h.tpr, h.tid, h.tb⟩
/-- a number more: 'parents' -/
theorem Ls.app_prs (h : Ls S p y st) (hok : Sok U) {v : AV} {l : List Int} (tg' : Nat → Nat) (ht : ∀ c, c < S.n → tg' c = y.tg c) (hat : U.h.get p = some (.cells 57 [y.vl, .map y.rk, v, y.vi] false)) (hm : Own U v 3 1 (l.map intV) l.length) (hv : ∀ c, blkOf v = some c → tg' c = 3)
    (hf : ∀ c, c < S.n → c ≠ p → blkOf y.vp ≠ some c → U.h.get c = S.h.get c) : Ls U p { y with vp := v, tg := tg' } { st with prs := l } := by
  obtain ⟨a0, a1, a2, a3, a4, a5⟩ := h.others (U := U) (fun t => t = 0 ∨ t = 3) (fun c hc hd => hf c hc (fun e => hd (.inl (by rw [e]; exact h.tp))) (fun e => hd (.inr (h.tpr c e))))
  refine ⟨hok, hat, a2 (by decide), a1 (by decide), hm, a4 (by decide), h.len, fun j b o hb ho => ⟨(a5 j b o hb ho).1 (by omega), (a5 j b o hb ho).2.1 (by omega), (a5 j b o hb ho).2.2 (by omega)⟩, (ht _ (h.ok _ _ h.at_)).trans h.tp, (ht _ (h.keys.lt h.ok)).trans h.tk, fun c hc => (ht c (h.l.lt h.ok hc)).trans (h.tl c hc), hv, fun c hc => (ht c (h.ids.lt h.ok hc)).trans (h.tid c hc), fun j b hb => ?_⟩
  have hj : j < st.ones.length := by rw [← h.len]; exact (List.getElem?_eq_some_iff.1 hb).1
  have h1 := h.one j b _ hb (List.getElem?_eq_getElem hj)
  obtain ⟨t1, t2, t3⟩ := h.tb j b hb
  exact ⟨(ht _ (h.ok _ _ h1.cell)).trans t1, (ht _ (h1.off.lt h.ok)).trans t2, (ht _ (h1.ldd.lt h.ok)).trans t3⟩
/-- a number more: 'ids' -/
theorem Ls.app_ids (h : Ls S p y st) (hok : Sok U) {v : AV} {l : List Int} (tg' : Nat → Nat) (ht : ∀ c, c < S.n → tg' c = y.tg c) (hat : U.h.get p = some (.cells 57 [y.vl, .map y.rk, y.vp, v] false)) (hm : Own U v 3 1 (l.map intV) l.length) (hv : ∀ c, blkOf v = some c → tg' c = 4)
    (hf : ∀ c, c < S.n → c ≠ p → blkOf y.vi ≠ some c → U.h.get c = S.h.get c) : Ls U p { y with vi := v, tg := tg' } { st with ids := l } := by
  obtain ⟨a0, a1, a2, a3, a4, a5⟩ := h.others (U := U) (fun t => t = 0 ∨ t = 4) (fun c hc hd => hf c hc (fun e => hd (.inl (by rw [e]; exact h.tp))) (fun e => hd (.inr (h.tid c e))))
  refine ⟨hok, hat, a2 (by decide), a1 (by decide), a3 (by decide), hm, h.len, fun j b o hb ho => ⟨(a5 j b o hb ho).1 (by omega), (a5 j b o hb ho).2.1 (by omega), (a5 j b o hb ho).2.2 (by omega)⟩, (ht _ (h.ok _ _ h.at_)).trans h.tp, (ht _ (h.keys.lt h.ok)).trans h.tk, fun c hc => (ht c (h.l.lt h.ok hc)).trans (h.tl c hc), fun c hc => (ht c (h.prs.lt h.ok hc)).trans (h.tpr c hc), hv, fun j b hb => ?_⟩
  have hj : j < st.ones.length := by rw [← h.len]; exact (List.getElem?_eq_some_iff.1 hb).1
  have h1 := h.one j b _ hb (List.getElem?_eq_getElem hj)
  obtain ⟨t1, t2, t3⟩ := h.tb j b hb
  exact ⟨(ht _ (h.ok _ _ h1.cell)).trans t1, (ht _ (h1.off.lt h.ok)).trans t2, (ht _ (h1.ldd.lt h.ok)).trans t3⟩
/-- a loader more -/
theorem Ls.child (h : Ls S p y st) (hok : Sok U) {v : AV} {b : Nat × Nat × Nat} {o : One} (tg' : Nat → Nat) (ht : ∀ c, c < S.n → tg' c = y.tg c) (hat : U.h.get p = some (.cells 57 [v, .map y.rk, y.vp, y.vi] false)) (hm : Own U v 68 1 ((y.bs ++ [b]).map fun b => AV.ptr b.1 0) (y.bs ++ [b]).length) (hv : ∀ c, blkOf v = some c → tg' c = 2)
    (ho : OneAt U b o) (hb : tg' b.1 = 6 + 3 * y.bs.length ∧ tg' b.2.1 = 7 + 3 * y.bs.length ∧ tg' b.2.2 = 8 + 3 * y.bs.length) (hf : ∀ c, c < S.n → c ≠ p → blkOf y.vl ≠ some c → U.h.get c = S.h.get c) :
    Ls U p { y with vl := v, bs := y.bs ++ [b], tg := tg' } { st with ones := st.ones ++ [o] } := by
  obtain ⟨a0, a1, a2, a3, a4, a5⟩ := h.others (U := U) (fun t => t = 0 ∨ t = 2) (fun c hc hd => hf c hc (fun e => hd (.inl (by rw [e]; exact h.tp))) (fun e => hd (.inr (h.tl c e))))
  refine ⟨hok, hat, hm, a1 (by decide), a3 (by decide), a4 (by decide), by simp [h.len], fun j b' o' hb' ho' => ?_, (ht _ (h.ok _ _ h.at_)).trans h.tp, (ht _ (h.keys.lt h.ok)).trans h.tk, hv, fun c hc => (ht c (h.prs.lt h.ok hc)).trans (h.tpr c hc), fun c hc => (ht c (h.ids.lt h.ok hc)).trans (h.tid c hc), fun j b' hb' => ?_⟩
  · have hb' : (y.bs ++ [b])[j]? = some b' := hb'
    have ho' : (st.ones ++ [o])[j]? = some o' := ho'
    by_cases hj : j < y.bs.length
    · rw [List.getElem?_append_left hj] at hb'
      rw [List.getElem?_append_left (by rw [← h.len]; exact hj)] at ho'
      exact ⟨(a5 j b' o' hb' ho').1 (by omega), (a5 j b' o' hb' ho').2.1 (by omega), (a5 j b' o' hb' ho').2.2 (by omega)⟩
    · have h2 := (List.getElem?_eq_some_iff.1 hb').1
      simp at h2
      have : j = y.bs.length := by omega
      subst this
      simp at hb'
      rw [h.len] at ho'
      simp at ho'
      subst hb' ho'
      exact ho
  · have hb' : (y.bs ++ [b])[j]? = some b' := hb'
    by_cases hj : j < y.bs.length
    · rw [List.getElem?_append_left hj] at hb'
      have hj : j < st.ones.length := by rw [← h.len]; exact hj
      have h1 := h.one j b' _ hb' (List.getElem?_eq_getElem hj)
      obtain ⟨t1, t2, t3⟩ := h.tb j b' hb'
      exact ⟨(ht _ (h.ok _ _ h1.cell)).trans t1, (ht _ (h1.off.lt h.ok)).trans t2, (ht _ (h1.ldd.lt h.ok)).trans t3⟩
    · have h2 := (List.getElem?_eq_some_iff.1 hb').1
      simp at h2
      have : j = y.bs.length := by omega
      subst this
      simp at hb'
      subst hb'
      exact hb
end
end Go.Proofs.Ytjbpegggfacojaa
/- GX: reasoning about runs: a slice that may be grown: owned, or made empty. -/

namespace GX
noncomputable section
open Go
/-- a slice that is owned, or an empty one that code has made -/
def Gz (S : St) (v : AV) (el sz : Nat) (cs : List AV) (m : Nat) : Prop :=
  Own S v el sz cs m ∨ (m = 0 ∧ cs = [] ∧ ∃ b o, v = .slice b o 0 (.ex 0) ∧ Rd S v sz [] 0)
theorem Gz.rd {S : St} {v : AV} {el sz m : Nat} {cs : List AV} (h : Gz S v el sz cs m) : Rd S v sz cs m := by
  rcases h with h | ⟨rfl, rfl, b, o, _, h⟩
  · exact h.rd
  · exact h
theorem Gz.keep {S S' : St} {v : AV} {el sz m : Nat} {cs : List AV} (h : Gz S v el sz cs m) (hk : ∀ b, blkOf v = some b → S'.h.get b = S.h.get b) : Gz S' v el sz cs m := by
  rcases h with h | ⟨rfl, rfl, b, o, hv, h⟩
  · exact .inl (h.keep hk)
  · exact .inr ⟨rfl, rfl, b, o, hv, h.keep hk⟩
theorem Gz.lt {S : St} {v : AV} {el sz m : Nat} {cs : List AV} (h : Gz S v el sz cs m) (hok : Sok S) {b : Nat} (hb : blkOf v = some b) : b < S.n := h.rd.lt hok hb
theorem Gz.own {S : St} {v : AV} {el sz m : Nat} {cs : List AV} (h : Gz S v el sz cs m) (hm : 0 < m) : Own S v el sz cs m := by
  rcases h with h | ⟨h, _⟩
  · exact h
  · omega
theorem Gz.eq {S : St} {v : AV} {el sz m m' : Nat} {cs cs' : List AV} (h : Gz S v el sz cs m) (hc : cs = cs') (hm : m = m') : Gz S v el sz cs' m' := by subst hc; subst hm; exact h
section
variable {X : X} {l : L} {S : St} {R : AV → St → Prop} {x y : Operand} {t t' : Nat}
theorem Ev_append_gz {xs : Array Operand} {ts : Array TypeId} {tr : List TypeId} {i i' ei : TI} {el m k : Nat} {vs vx : AV} {cs new : List AV} (hxs : xs.toList = [x, y]) (hts : ts.toList = t :: t' :: tr) (hi' : X.ti t' = some i') (hni : (match i'.desc with | .int _ => false | _ => true) = true)
    (hx : od l x = some vs) (hy : od l y = some vx) (hi : X.ti t = some i) (hd : i.desc = .slice el) (he' : X.ti el = some ei) (hz : (Nat.beq ei.size 0 || !(Nat.beq ei.zero.length ei.size)) = false)
    (hown : Gz S vs el ei.size cs m) (hnew : Rd S vx ei.size new k) (hone : new.all AV.one = true) (hok : Sok S) (hn : S.n < 1000000000) (hlim : (2 * (m + k) + 1000) * ei.bytes ≤ 140737488355328) (hlim2 : m + k ≤ 140737488355328)
    (hR : ∀ v' S', S.n ≤ S'.n → S'.n ≤ S.n + 1 → Sok S' → Gz S' v' el ei.size (cs ++ new) (m + k) → (∀ c, blkOf vs ≠ some c → c < S.n → S'.h.get c = S.h.get c) → (∀ c, blkOf v' = some c → blkOf vs = some c ∨ S.n ≤ c) → R v' S') :
    Ev X l S (.call { callee := .builtin .append, args := xs, argTypes := ts }) R := by
  rcases hown with h | ⟨rfl, rfl, b, o, rfl, h⟩
  · exact Ev_append hxs hts hi' hni hx hy hi hd he' hz h hnew hone hok hn hlim hlim2 (fun v' S' h1 h2 h3 h4 h5 h6 => hR v' S' h1 h2 h3 (.inl h4) h5 h6)
  · by_cases hk : k = 0
    · subst hk
      have hnil : new = [] := List.eq_nil_of_length_eq_zero (by rw [hnew.size]; omega)
      subst hnil
      have hrow : row S.h b o (0 * ei.size) = some [] := h.cells
      have hl := srcLen_of hnew.len
      have ha0 : aappend X S t (.slice b o 0 (.ex 0)) vx = (bif Nat.ble (0 + 0) 0 then
                (match storeAt S b (o + 0 * ei.size) [] with
                | none => none
                | some S => some (.slice b o (0 + 0) (.ex 0), S))
              else grow S el ei.size ei.bytes ([] ++ []) (0 + 0)) := by
        rw [app_eq hi hd he' hz hl hnew.cells]; unfold appBody; dsimp only; rw [hrow]; rfl
      unfold row at hrow
      split at hrow
      · rename_i ty cs sp hb
        rw [nble, cond_dec] at hrow
        split at hrow
        · rename_i hle
          have hbn : b < S.n := hok _ _ hb
          have hsame : ∀ c, (S.put b (.cells ty (lput cs (o + 0 * ei.size) []) sp)).h.get c = S.h.get c := by
            intro c
            rw [get_put (by omega), lput_nil]
            split
            · rename_i h; rw [h, hb]
            · rfl
          refine Ev_loud (S' := S.put b (.cells ty (lput cs (o + 0 * ei.size) []) sp)) (v := .slice b o 0 (.ex 0)) (fun e he => ⟨rfl, ?_⟩) (Nat.le_refl _) (hR _ _ (Nat.le_refl _) (Nat.le_succ _) ?_ (.inr ⟨rfl, rfl, b, o, rfl, ?_⟩) (fun c _ _ => hsame c) (fun c hc => .inl hc))
          · unfold loudOp; dsimp only; rw [hxs, hts]; dsimp only; rw [hi']; dsimp only
            split
            · rename_i hdd; rw [hdd] at hni; cases hni
            · rw [od_ok he hx, od_ok he hy]
              show aappend X S t (.slice b o 0 (.ex 0)) vx = _
              rw [ha0]
              unfold storeAt; rw [hb]; dsimp only
              rw [nble, nble, decide_eq_true (Nat.le_refl _), decide_eq_true (by simpa using hle)]; rfl
          · intro c x hc; rw [hsame] at hc; exact hok c x hc
          · exact h.keep (fun c _ => hsame c)
        · cases hrow
      · cases hrow
    · refine Ev_append_ex hxs hts hi' hni hx hy hi hd he' hz h hnew hok hn hlim hlim2 (fun v' S' h1 h2 h3 _ h5 h6 h7 => hR v' S' h1 h2 h3 ?_ (fun c _ hc => h6 c hc) (fun c hc => (h7 c hc).imp (fun h => by rw [h]; rfl) id))
      rcases h5 with h5 | h5
      · omega
      · exact .inl h5
/-- a slice, and nil -/
theorem Ev_eq_nils {t u : Nat} {i : TI} {el sz m : Nat} {v : AV} {cs : List AV} (hx : od l x = some v) (hy : od l y = some .nils) (hi : X.ti t = some i) (hd : i.desc = .slice el) (h : Rd S v sz cs m) (hR : ∀ b : Bool, (b = true → m = 0 ∧ cs = []) → R (.bool b) S) : Ev X l S (.binOp .eql t x y u) R := by
  have hsl := h.sl
  have hs := h.size
  have hlen := h.len
  have hae : ∃ b : Bool, aeq X 10 t v .nils = some b ∧ (b = true → v = .nils) := by
    unfold aeq; rw [hi]; dsimp only; rw [hd]
    cases v <;> first | exact ⟨_, rfl, fun h => by first | rfl | cases h⟩ | cases hsl
  obtain ⟨b, hb, hb2⟩ := hae
  refine Ev_bin hx hy (by cases v <;> first | rfl | cases hsl) ?_ (hR b (fun h => ?_))
  · unfold abin
    cases v <;> first | (dsimp only; rw [hb]; done) | cases hsl
  · have := hb2 h; subst this
    simp [slen] at hlen
    subst hlen
    exact ⟨rfl, List.eq_nil_of_length_eq_zero (by omega)⟩
/-- a pointer, and nil -/
theorem Ev_ptr_eql {t u b o el : Nat} {i : TI} (hx : od l x = some (.ptr b o)) (hy : od l y = some .nilp) (hi : X.ti t = some i) (hd : i.desc = .pointer el) (hR : R (.bool false) S) : Ev X l S (.binOp .eql t x y u) R := by
  refine Ev_pure (fun _ he => ⟨?_, ?_⟩) hR
  · unfold cls; dsimp only; rw [od_ok he hx]; dsimp only; rw [od_ok he hy]
  · unfold pureOp; dsimp only; rw [od_ok he hx]; dsimp only; rw [od_ok he hy]; dsimp only; unfold abin aeq; dsimp only; rw [hi]; dsimp only; rw [hd]
theorem Ev_ptr_neq {t u b o el : Nat} {i : TI} (hx : od l x = some (.ptr b o)) (hy : od l y = some .nilp) (hi : X.ti t = some i) (hd : i.desc = .pointer el) (hR : R (.bool true) S) : Ev X l S (.binOp .neq t x y u) R := by
  refine Ev_pure (fun _ he => ⟨?_, ?_⟩) hR
  · unfold cls; dsimp only; rw [od_ok he hx]; dsimp only; rw [od_ok he hy]
  · unfold pureOp; dsimp only; rw [od_ok he hx]; dsimp only; rw [od_ok he hy]; dsimp only; unfold abin aeq; dsimp only; rw [hi]; dsimp only; rw [hd]; rfl
end
end
end GX
/- GX: reasoning about runs: slices that are appended to, and whose beginning is let go. -/

namespace GX
noncomputable section
open Go
/-- a slice of its own, from somewhere in its block on -/
def OwA (S : St) (v : AV) (el sz : Nat) (cs : List AV) (m : Nat) : Prop :=
  (v = .nils ∧ cs = [] ∧ m = 0) ∨ ∃ b pre, v = .slice b pre.length m (.op sz) ∧ S.h.get b = some (.cells el (pre ++ cs) true) ∧ cs.length = m * sz
theorem OwA.keep {S S' : St} {v : AV} {el sz : Nat} {cs : List AV} {m : Nat} (h : OwA S v el sz cs m) (hk : ∀ b, blkOf v = some b → S'.h.get b = S.h.get b) : OwA S' v el sz cs m := by
  rcases h with h | ⟨b, pre, h1, h2, h3⟩
  · exact .inl h
  · exact .inr ⟨b, pre, h1, by rw [hk b (by rw [h1]; rfl)]; exact h2, h3⟩
theorem OwA.of {S : St} {v : AV} {el sz : Nat} {cs : List AV} {m : Nat} (h : Own S v el sz cs m) : OwA S v el sz cs m := by
  rcases h with h | ⟨b, h1, h2, h3⟩
  · exact .inl h
  · exact .inr ⟨b, [], h1, h2, h3⟩
theorem OwA.rd {S : St} {v : AV} {el sz : Nat} {cs : List AV} {m : Nat} (h : OwA S v el sz cs m) : Rd S v sz cs m := by
  rcases h with ⟨h1, h2, h3⟩ | ⟨b, pre, h1, h2, h3⟩
  · subst h1; subst h2; subst h3; exact ⟨rfl, rfl, rfl, rfl, rfl, by simp⟩
  · subst h1
    refine ⟨by simp [capW], veq_slice _ _ _ _, rfl, rfl, ?_, h3⟩
    unfold srcCells row; dsimp only; rw [h2]; dsimp only
    rw [nble, decide_eq_true (by rw [List.length_append]; omega)]
    simp only [cond_true, List.drop_left]
    rw [List.take_of_length_le (by omega)]
theorem OwA.lt {S : St} {v : AV} {el sz : Nat} {cs : List AV} {m : Nat} (h : OwA S v el sz cs m) (hok : Sok S) {b : Nat} (hb : blkOf v = some b) : b < S.n := h.rd.lt hok hb
section
variable {X : X} {l : L} {S : St} {R : AV → St → Prop} {x y : Operand} {t t' : Nat}
theorem Ev_append_a {xs : Array Operand} {ts : Array TypeId} {tr : List TypeId} {i i' ei : TI} {el m k : Nat} {vs vx : AV} {cs new : List AV} (hxs : xs.toList = [x, y]) (hts : ts.toList = t :: t' :: tr) (hi' : X.ti t' = some i') (hni : (match i'.desc with | .int _ => false | _ => true) = true)
    (hx : od l x = some vs) (hy : od l y = some vx) (hi : X.ti t = some i) (hd : i.desc = .slice el) (he' : X.ti el = some ei) (hz : (Nat.beq ei.size 0 || !(Nat.beq ei.zero.length ei.size)) = false)
    (hown : OwA S vs el ei.size cs m) (hk : k ≠ 0) (hnew : Rd S vx ei.size new k) (hone : new.all AV.one = true) (hok : Sok S) (hn : S.n < 1000000000) (hlim : (2 * (m + k) + 1000) * ei.bytes ≤ 140737488355328) (hlim2 : m + k ≤ 140737488355328)
    (hR : ∀ v' S', S'.n = S.n + 1 → Sok S' → OwA S' v' el ei.size (cs ++ new) (m + k) → (∀ c, blkOf vs ≠ some c → c < S.n → S'.h.get c = S.h.get c) → blkOf v' = some S.n → R v' S') :
    Ev X l S (.call { callee := .builtin .append, args := xs, argTypes := ts }) R := by
  have key : ∀ v' S', aappend X S t vs vx = some (v', S') → S.n ≤ S'.n → R v' S' → Ev X l S (.call { callee := .builtin .append, args := xs, argTypes := ts }) R := by
    intro v' S' ha hle hr
    refine Ev_loud (fun e he => ⟨rfl, ?_⟩) hle hr
    unfold loudOp; dsimp only; rw [hxs, hts]; dsimp only; rw [hi']; dsimp only
    split
    · rename_i hdd; rw [hdd] at hni; cases hni
    · rw [od_ok he hx, od_ok he hy]; exact ha
  have hz0 : ei.size ≠ 0 := by intro h; rw [h] at hz; simp [nbeq] at hz
  have hl := srcLen_of hnew.len
  have ha0 : aappend X S t vs vx = appBody S el ei.size ei.bytes k new vs := app_eq hi hd he' hz hl hnew.cells
  have hkb : Nat.beq k 0 = false := by rw [nbeq]; simp [hk]
  rcases hown with ⟨h1, h2, h3⟩ | ⟨b, pre, h1, h2, h3⟩
  · subst h1; subst h2; subst h3
    rw [Nat.zero_add] at hlim hlim2
    refine key (.slice S.n 0 k (.op ei.size)) (S.new (.cells el new true)) ?_ (Nat.le_succ _) (hR _ _ rfl ?_ (.inr ⟨S.n, [], by rw [Nat.zero_add]; rfl, ?_, ?_⟩) ?_ rfl)
    · rw [ha0]; unfold appBody; dsimp only; rw [hkb]; simp only [cond_false]; unfold grow
      rw [nblt, nble, nble, decide_eq_true hn, decide_eq_true hlim, decide_eq_true hlim2]; rfl
    · intro c x hc
      rw [get_new hn] at hc
      by_cases h : c = S.n
      · rw [h]; exact Nat.lt_succ_self _
      · rw [if_neg h] at hc; exact Nat.lt_succ_of_lt (hok c x hc)
    · rw [get_new hn, if_pos rfl]; rfl
    · simpa using hnew.size
    · intro c _ hc; rw [get_new hn, if_neg (by omega)]
  · subst h1
    have hbn : b < S.n := hok _ _ h2
    have hns : ¬ (pre.length + (m + k) * ei.size ≤ (pre ++ cs).length) := by
      rw [List.length_append, h3, Nat.add_mul]
      have : 0 < k * ei.size := Nat.mul_pos (by omega) (by omega)
      omega
    refine key (.slice S.n 0 (m + k) (.op ei.size)) { h := Tr.set 40 (S.h.del b) S.n (.cells el ((pre ++ cs).drop pre.length ++ new) true), n := S.n + 1 } ?_ (Nat.le_succ _) (hR _ _ rfl ?_ (.inr ⟨S.n, [], rfl, ?_, ?_⟩) ?_ rfl)
    · rw [ha0]; unfold appBody; dsimp only; rw [hkb]; simp only [cond_false]
      rw [nbeq, decide_eq_true rfl]; simp only [Bool.not_true, cond_false]
      rw [h2]; dsimp only
      rw [nble, decide_eq_false hns]; simp only [cond_false]
      rw [nblt, nble, nble, nbeq, nbeq, decide_eq_true hn, decide_eq_true hlim, decide_eq_true hlim2, decide_eq_true rfl, decide_eq_true (by rw [List.length_append]; omega : pre.length + m * ei.size = (pre ++ cs).length), hone]; rfl
    · intro c x hc
      dsimp only at hc
      rw [Tr.get_set 40 _ _ _ _ (by omega)] at hc
      by_cases h : c = S.n
      · rw [h]; exact Nat.lt_succ_self _
      · rw [if_neg h, Tr.get_del] at hc
        split at hc
        · cases hc
        · exact Nat.lt_succ_of_lt (hok c x hc)
    · dsimp only; rw [Tr.get_set 40 _ _ _ _ (by omega), if_pos rfl, List.drop_left]; rfl
    · rw [List.length_append, h3, hnew.size, Nat.add_mul]
    · intro c hcb hc
      dsimp only
      rw [Tr.get_set 40 _ _ _ _ (by omega), if_neg (by omega), Tr.get_del, if_neg (fun h => hcb (by rw [h]; rfl))]
theorem Ev_slice_a {k : IntKind} {i ei : TI} {el m lo : Nat} {v : AV} {cs : List AV} (hx : od l x = some v) (hy : od l y = some (.int k ((lo : Nat) : Int))) (hi0 : X.ti t = some i) (hd : i.desc = .slice el) (he' : X.ti el = some ei) (hown : OwA S v el ei.size cs m) (hlo : lo < m)
    (hR : ∀ v', OwA S v' el ei.size (cs.drop (lo * ei.size)) (m - lo) → blkOf v' = blkOf v → R v' S) : Ev X l S (.slice t x (some y) none none) R := by
  rcases hown with ⟨_, _, h3⟩ | ⟨b, pre, h1, h2, h3⟩
  · omega
  · subst h1
    have hle : lo * ei.size ≤ cs.length := by rw [h3]; exact Nat.mul_le_mul_right _ (by omega)
    have hpl : (pre ++ cs.take (lo * ei.size)).length = pre.length + lo * ei.size := by rw [List.length_append, List.length_take]; omega
    refine Ev_slice hx (by unfold odopt; dsimp only; rw [hy]) rfl rfl hi0 hd he' rfl (r := .slice b (pre.length + lo * ei.size) (m - lo) (.op ei.size)) ?_ (hR _ (.inr ⟨b, pre ++ cs.take (lo * ei.size), by rw [hpl], ?_, ?_⟩) rfl)
    · unfold aslice
      dsimp only
      rw [hi0]; dsimp only; rw [hd]; dsimp only; rw [he']; dsimp only
      have hb : bounds m m (some (.int k ((lo : Nat) : Int))) none = some (lo, m) := by
        unfold bounds
        dsimp only
        have : bound (.int k ((lo : Nat) : Int)) m = some lo := by
          show (bif Nat.ble lo m then some lo else none) = some lo
          rw [nble, decide_eq_true (by omega)]; rfl
        rw [this]
      rw [hb]
      dsimp only
      rw [nblt, nbeq, decide_eq_true hlo, decide_eq_true rfl]; rfl
    · rw [List.append_assoc, List.take_append_drop]; exact h2
    · rw [List.length_drop, h3, Nat.sub_mul]
end
end
end GX
/- loader: is, child, New, Child, Loaded. (NODRAWN) -/



namespace Go.Proofs.Ytjbpegggfacojaa
open GX
set_option maxHeartbeats 16000000
set_option linter.unusedVariables false
set_option maxRecDepth 100000
theorem sok_upd {S S' : St} {p : Nat} {b : AB} (h : Sok S) (hp : p < S.n) (hn : S'.n = S.n) (_ : S'.h.get p = some b) (hf : ∀ c, c ≠ p → S'.h.get c = S.h.get c) : Sok S' := by
  intro c x hx
  by_cases hc : c = p
  · rw [hc, hn]; exact hp
  · rw [hf c hc] at hx; rw [hn]; exact h c x hx
theorem own_cells1 {S : St} {v : AV} {el sz : Nat} {cs : List AV} {m : Nat} (h : Own S v el sz cs m) : v.cells = [v] ∧ [v].all AV.one = true := by
  rcases h with ⟨h1, _⟩ | ⟨b, h1, _⟩ <;> subst h1 <;> exact ⟨rfl, rfl⟩
/-- what a call of the loaders leaves as it was -/
structure Fo (S U : St) (y y' : Lay) (k : Nat) : Prop where
  le : S.n ≤ U.n
  n : U.n ≤ S.n + k
  tg : ∀ c, c < S.n → y'.tg c = y.tg c
  fo : ∀ c, c < S.n → y.tg c = 5 → U.h.get c = S.h.get c
def isL (st : LdS) (n : Int) : Prop := 0 ≤ n ∧ n < (st.ones.length : Int)
instance (st : LdS) (n : Int) : Decidable (isL st n) := by unfold isL; infer_instance
theorem is_runs {S : St} {p : Nat} {y : Lay} {st : LdS} {n : Int} (h : Ls S p y st) (hs : st.ones.length ≤ 100) : Runs X1 24 [.ptr p 0, .int .i64 n] S fun r U => r = .bool (decide (isL st n)) ∧ U = S := by
  have hl := h.l.rd.len
  have hlen := h.len
  refine Runs_fn (m := 16) (by kernel_rfl) Try.func24 rfl (by kernel_rfl) (by kernel_rfl) ?_
  repeat' (
    first
      | refine W_seq ?_
      | refine WO_nil ?_
      | refine V_seq ?_
      | refine W_region ?_
      | refine W_ret ?_
      | refine WO_dst rfl rfl (by kernel_rfl) (by kernel_rfl) ?_
      | refine WO_guard_t rfl rfl rfl rfl rfl (by kernel_rfl) (by kernel_rfl) ?_
      | refine WO_guard_f rfl rfl rfl rfl rfl rfl (by kernel_rfl) (by kernel_rfl) ?_
      | refine Ev_load rfl rfl rfl h.at_ rfl h.l.rd.self ?_
      | refine Ev_len rfl rfl rfl rfl rfl hl ?_
      | refine Ev_move rfl ?_
      | refine Ev_assign rfl ?_
      | refine Ev_pick_t rfl rfl rfl ?_
      | refine Ev_pick_f rfl rfl rfl ?_
      | refine Ev_lss rfl rfl ?_
      | refine Ev_geq rfl rfl ?_
      | refine Ev_nilCheck rfl ?_
      | refine Ev_fieldAddr rfl rfl rfl rfl rfl rfl ?_
      | (refine WO_guard_dt rfl rfl rfl rfl rfl (by kernel_rfl) (by kernel_rfl) (fun hg => ?_) (fun hg => ?_) <;> (try dsimp only at hg) <;> try (exfalso; first | omega | exact hg rfl)))
  · refine V_done rfl rfl ⟨congrArg AV.bool (decide_eq_decide.2 ?_), rfl⟩
    unfold isL
    omega
  · refine V_done rfl rfl ⟨congrArg AV.bool (?_ : false = decide (isL st n)), rfl⟩
    rw [decide_eq_false]
    unfold isL
    omega
theorem ls_len {S : St} {p : Nat} {y : Lay} {st : LdS} (h : Ls S p y st) : slen y.vl = some st.ones.length := by rw [h.l.rd.len, h.len]
/-- a loader more -/
theorem child_runs {S : St} {p : Nat} {y : Lay} {st : LdS} {n : Int} (h : Ls S p y st) (hs : st.ones.length ≤ 100) (hn : S.n + 10 ≤ 1000000000) :
    Runs X1 23 [.ptr p 0, .int .i64 n] S fun r U => r = .int .i64 ((st.ones.length : Nat) : Int) ∧ ∃ y', Ls U p y' { st with ones := st.ones ++ [⟨n, [], []⟩] } ∧ Fo S U y y' 6 := by
  have hlen := h.len
  have hp := h.ok _ _ h.at_
  refine Runs_fn (m := 25) (by kernel_rfl) Try.func23 rfl (by kernel_rfl) (by kernel_rfl) ?_
  repeat (
    first
      | refine W_seq ?_
      | refine WO_nil ?_
      | refine V_seq ?_
      | refine W_region ?_
      | refine WO_dst rfl rfl (by kernel_rfl) (by kernel_rfl) ?_
      | refine Ev_load rfl rfl rfl h.at_ rfl h.l.rd.self ?_
      | refine Ev_move rfl ?_
      | refine Ev_assign rfl ?_
      | refine Ev_nilCheck rfl ?_
      | refine Ev_fieldAddr rfl rfl rfl rfl rfl rfl ?_)
  refine Ev_makeMap (kv := strK) (vv := offV) h.ok (by omega) ?_
  intro S1 n1 ok1 m1 f1
  repeat (
    refine WO_dst rfl rfl (by kernel_rfl) (by kernel_rfl) ?_)
  refine Ev_makeMap (kv := strK) (vv := fndV) ok1 (by omega) ?_
  intro S2 n2 ok2 m2 f2
  repeat (
    refine WO_dst rfl rfl (by kernel_rfl) (by kernel_rfl) ?_)
  refine Ev_build (v := .agg [.int .i64 n, .map S.n, .map S1.n]) rfl rfl ?_
  repeat (
    refine WO_dst rfl rfl (by kernel_rfl) (by kernel_rfl) ?_)
  refine Ev_box rfl ok2 (by omega) ?_
  intro S3 n3 ok3 q3 f3
  repeat (
    refine WO_dst rfl rfl (by kernel_rfl) (by kernel_rfl) ?_)
  refine Ev_buildSlice rfl rfl rfl rfl rfl rfl ok3 (by omega) ?_
  intro S4 n4 ok4 q4 f4
  have f04 : ∀ c, c < S.n → S4.h.get c = S.h.get c := fun c hc => by rw [f4 c (by omega), f3 c (by omega), f2 c (by omega), f1 c hc]
  have l4 : Own S4 y.vl 68 1 (y.bs.map fun b => AV.ptr b.1 0) y.bs.length := h.l.keep (fun c hc => f04 c (h.l.lt h.ok hc))
  repeat (
    refine WO_dst rfl rfl (by kernel_rfl) (by kernel_rfl) ?_)
  refine Ev_append rfl rfl rfl rfl rfl rfl rfl rfl rfl rfl l4 (Rd_lit (m := 1) q4 rfl rfl) rfl ok4 (by omega) (by dsimp only; omega) (by omega) ?_
  intro v5 S5 le5 n5 ok5 ow5 f5 b5
  have at5 : S5.h.get p = some (.cells 57 [y.vl, .map y.rk, y.vp, y.vi] false) := by
    rw [f5 p (fun e => by have := h.tl p e; rw [h.tp] at this; cases this) (by omega), f04 p hp]; exact h.at_
  repeat (
    first
      | refine WO_dst rfl rfl (by kernel_rfl) (by kernel_rfl) ?_
      | refine WO_no rfl rfl ?_
      | refine Ev_nilCheck rfl ?_
      | refine Ev_fieldAddr rfl rfl rfl rfl rfl rfl ?_)
  refine Ev_store rfl rfl rfl (by rw [(own_cells1 ow5).1]; rfl) (by rw [(own_cells1 ow5).1]; exact (own_cells1 ow5).2) at5 (by rw [(own_cells1 ow5).1]; show 0 + 1 ≤ 4; omega) (by omega) ?_
  intro S6 n6 q6 f6
  have at6 : S6.h.get p = some (.cells 57 [v5, .map y.rk, y.vp, y.vi] false) := q6.trans (congrArg (fun z => some (AB.cells 57 z false)) (by rw [(own_cells1 ow5).1]; rfl))
  have ok6 : Sok S6 := sok_upd ok5 (by omega) n6 at6 f6
  have hbl : ∀ c, blkOf v5 = some c → (c < S.n ∧ y.tg c = 2) ∨ S4.n ≤ c := fun c hc => by
    rcases b5 c hc with e | e
    · exact .inl ⟨h.l.lt h.ok e, h.tl c e⟩
    · exact .inr e
  have hvp : ∀ c, blkOf v5 = some c → c ≠ p := fun c hc e => by
    rcases hbl c hc with ⟨_, g⟩ | g
    · rw [e, h.tp] at g; cases g
    · omega
  have ow6 : Own S6 v5 68 1 ((y.bs ++ [(S2.n, S.n, S1.n)]).map fun b => AV.ptr b.1 0) (y.bs ++ [(S2.n, S.n, S1.n)]).length := by
    rw [List.map_append, List.length_append]
    exact ow5.keep (fun c hc => f6 c (hvp c hc))
  have hnl : ∀ c, S.n ≤ c → c < S4.n → S6.h.get c = S4.h.get c := fun c h1 h2 => by
    rw [f6 c (by omega), f5 c (fun e => by have := h.l.lt h.ok e; omega) (by omega)]
  have one6 : OneAt S6 (S2.n, S.n, S1.n) ⟨n, [], []⟩ := by
    refine ⟨?_, ?_, ?_⟩
    · rw [hnl _ (by dsimp only; omega) (by dsimp only; omega), f4 _ (by dsimp only; omega)]; exact q3
    · exact m1.keep (by rw [hnl _ (by omega) (by omega), f4 _ (by omega), f3 _ (by omega), f2 _ (by omega)])
    · exact m2.keep (by rw [hnl _ (by omega) (by omega), f4 _ (by omega), f3 _ (by omega)])
  have hls := h.child ok6 (v := v5) (b := (S2.n, S.n, S1.n)) (o := ⟨n, [], []⟩) (fun c => if c < S.n then y.tg c else if c = S2.n then 6 + 3 * y.bs.length else if c = S.n then 7 + 3 * y.bs.length else if c = S1.n then 8 + 3 * y.bs.length else 2)
    (fun c hc => if_pos hc) at6 ow6 (fun c hc => by
      rcases hbl c hc with ⟨g1, g2⟩ | g
      · rw [if_pos g1]; exact g2
      · rw [if_neg (by omega), if_neg (by omega), if_neg (by omega), if_neg (by omega)]) one6
    ⟨by dsimp only; rw [if_neg (by omega), if_pos rfl], by dsimp only; rw [if_neg (by omega), if_neg (by omega), if_pos rfl], by dsimp only; rw [if_neg (by omega), if_neg (by omega), if_neg (by omega), if_pos rfl]⟩
    (fun c h1 h2 h3 => by rw [f6 c h2, f5 c h3 (by omega), f04 c h1])
  have hl6 : slen v5 = some (st.ones.length + 1) := by rw [ow6.rd.len, List.length_append, hlen]; rfl
  repeat (
    first
      | refine W_seq ?_
      | refine WO_nil ?_
      | refine V_seq ?_
      | refine W_region ?_
      | refine W_ret ?_
      | refine WO_dst rfl rfl (by kernel_rfl) (by kernel_rfl) ?_
      | refine Ev_load rfl rfl rfl at6 rfl ow6.rd.self ?_
      | refine Ev_len rfl rfl rfl rfl rfl hl6 ?_
      | refine Ev_move rfl ?_
      | refine Ev_assign rfl ?_
      | refine Ev_nilCheck rfl ?_
      | refine Ev_fieldAddr rfl rfl rfl rfl rfl rfl ?_
      | refine Ev_subN rfl rfl (by simp only [lim]; omega) (by first | omega | (dsimp only; done) | (dsimp only; omega)) ?_)
  refine V_done rfl rfl ⟨?_, _, hls, ⟨by omega, by omega, fun c hc => if_pos hc, fun c h1 h2 => ?_⟩⟩
  · rfl
  · rw [f6 c (fun e => by rw [e, h.tp] at h2; cases h2), f5 c (fun e => by have := h.tl c e; omega) (by omega), f04 c h1]
end Go.Proofs.Ytjbpegggfacojaa
/- loader: New, Child, Loaded. (NODRAWN) -/


namespace Go.Proofs.Ytjbpegggfacojaa
open GX
set_option maxHeartbeats 16000000
set_option maxRecDepth 100000
def st0 : LdS := ⟨[⟨-1, [], []⟩], [], [], []⟩
theorem new_runs {S : St} (hok : Sok S) (hn : S.n + 20 ≤ 1000000000) :
    Runs X1 8 [] S fun r U => ∃ p y, r = .ptr p 0 ∧ Ls U p y st0 ∧ S.n ≤ U.n ∧ U.n ≤ S.n + 8 ∧ ∀ c, c < S.n → U.h.get c = S.h.get c ∧ y.tg c = 5 := by
  refine Runs_fn (m := 8) (by kernel_rfl) Try.func8 rfl (by kernel_rfl) (by kernel_rfl) ?_
  repeat (
    first
      | refine W_seq ?_
      | refine WO_nil ?_
      | refine V_seq ?_
      | refine W_region ?_
      | refine WO_dst rfl rfl (by kernel_rfl) (by kernel_rfl) ?_
      | refine Ev_assign rfl ?_)
  refine Ev_makeMap (kv := keyK) (vv := intV) hok (by omega) ?_
  intro S1 n1 ok1 m1 f1
  repeat (
    refine WO_dst rfl rfl (by kernel_rfl) (by kernel_rfl) ?_)
  refine Ev_build (v := .agg [.nils, .map S.n, .nils, .nils]) rfl rfl ?_
  repeat (
    refine WO_dst rfl rfl (by kernel_rfl) (by kernel_rfl) ?_)
  refine Ev_box rfl ok1 (by omega) ?_
  intro S2 n2 ok2 q2 f2
  have h2 : Ls S2 S1.n ⟨.nils, S.n, .nils, .nils, [], fun c => if c = S1.n then 0 else if c = S.n then 1 else 5⟩ ⟨[], [], [], []⟩ :=
    ⟨ok2, q2, .inl ⟨rfl, rfl, rfl⟩, m1.keep (f2 _ (by omega)), .inl ⟨rfl, rfl, rfl⟩, .inl ⟨rfl, rfl, rfl⟩, rfl, fun j b o hb => (by simp at hb), if_pos rfl, (by show (if S.n = S1.n then 0 else if S.n = S.n then 1 else 5) = 1; rw [if_neg (by omega), if_pos rfl]), fun c hc => (by cases hc), fun c hc => (by cases hc), fun c hc => (by cases hc), fun j b hb => (by simp at hb)⟩
  repeat (
    first
      | refine W_seq ?_
      | refine WO_nil ?_
      | refine V_seq ?_
      | refine W_region ?_
      | refine WO_dst rfl rfl (by kernel_rfl) (by kernel_rfl) ?_
      | refine Ev_move rfl ?_
      | refine Ev_assign rfl ?_)
  refine Ev_call rfl rfl ((child_runs h2 (by decide) (by omega)).mono ?_)
  rintro _ S3 - ⟨rfl, y', h3, fo⟩
  have g3 := fo.n
  have g3l := fo.le
  repeat (
    first
      | refine W_seq ?_
      | refine WO_nil ?_
      | refine V_seq ?_
      | refine W_region ?_
      | refine W_ret ?_
      | refine WO_dst rfl rfl (by kernel_rfl) (by kernel_rfl) ?_
      | refine Ev_move rfl ?_
      | refine Ev_assign rfl ?_)
  refine V_done rfl rfl ?_
  refine ⟨S1.n, y', rfl, h3, by omega, by omega, fun c hc => ⟨?_, ?_⟩⟩
  · rw [fo.fo c (by omega) (by dsimp only; rw [if_neg (by omega), if_neg (by omega)]), f2 c (by omega), f1 c hc]
  · rw [fo.tg c (by omega)]; dsimp only; rw [if_neg (by omega), if_neg (by omega)]
/-- Child -/
def childS (st : LdS) (n : Int) : (Int × Int) × LdS :=
  if isL st n then (if 16 ≤ st.ones.length then ((0, 4), st) else (((st.ones.length : Nat) : Int), 0, { st with ones := st.ones ++ [⟨n, [], []⟩] }) |> fun x => ((x.1, x.2.1), x.2.2)) else ((0, 1), st)
theorem Child_runs {S : St} {p : Nat} {y : Lay} {st : LdS} {n : Int} (h : Ls S p y st) (hs : st.ones.length ≤ 100) (hn : S.n + 10 ≤ 1000000000) :
    Runs X1 10 [.ptr p 0, .int .i64 n] S fun r U => r = .tup [.int .i64 (childS st n).1.1, .int .i64 (childS st n).1.2] ∧ ∃ y', Ls U p y' (childS st n).2 ∧ Fo S U y y' 6 := by
  have hl := ls_len h
  refine Runs_fn (m := 21) (by kernel_rfl) Try.func10 rfl (by kernel_rfl) (by kernel_rfl) ?_
  repeat (
    first
      | refine W_seq ?_
      | refine WO_nil ?_
      | refine V_seq ?_
      | refine W_region ?_
      | refine W_block ?_
      | refine WO_dst rfl rfl (by kernel_rfl) (by kernel_rfl) ?_
      | refine Ev_move rfl ?_
      | refine Ev_assign rfl ?_)
  refine Ev_call rfl rfl ((is_runs (n := n) h hs).mono ?_)
  rintro _ _ - ⟨rfl, rfl⟩
  repeat' (
    first
      | refine W_seq ?_
      | refine WO_nil ?_
      | refine V_seq ?_
      | refine W_region ?_
      | refine W_skip ?_
      | refine W_ret ?_
      | refine V_ret ?_
      | refine V_block ?_
      | refine WO_dst rfl rfl (by kernel_rfl) (by kernel_rfl) ?_
      | refine Ev_load rfl rfl rfl h.at_ rfl h.l.rd.self ?_
      | refine Ev_len rfl rfl rfl rfl rfl hl ?_
      | refine Ev_move rfl ?_
      | refine Ev_assign rfl ?_
      | refine Ev_geqN rfl rfl ?_
      | refine Ev_not rfl ?_
      | refine Ev_nilCheck rfl ?_
      | refine Ev_fieldAddr rfl rfl rfl rfl rfl rfl ?_
      | (refine W_cond rfl (fun hc => ?_) (fun hc => ?_) <;> (try dsimp only at hc) <;> try (exfalso; first | omega | exact hc rfl)))
  · refine V_done rfl rfl ?_
    unfold childS
    rw [if_neg (by assumption)]
    exact ⟨rfl, y, h, ⟨Nat.le_refl _, by omega, fun _ _ => rfl, fun _ _ _ => rfl⟩⟩
  · refine V_done rfl rfl ?_
    unfold childS
    rw [if_pos (by first | assumption | (apply Classical.byContradiction; assumption)), if_pos (by omega)]
    exact ⟨rfl, y, h, ⟨Nat.le_refl _, by omega, fun _ _ => rfl, fun _ _ _ => rfl⟩⟩
  · refine Ev_call rfl rfl ((child_runs (n := n) h hs hn).mono ?_)
    rintro _ U - ⟨rfl, y', h2, fo⟩
    repeat (
      first
        | refine WO_nil ?_
        | refine V_seq ?_
        | refine W_ret ?_
        | refine WO_dst rfl rfl (by kernel_rfl) (by kernel_rfl) ?_
        | refine Ev_assign rfl ?_)
    refine V_done rfl rfl ?_
    unfold childS
    rw [if_pos (by first | assumption | (apply Classical.byContradiction; assumption)), if_neg (by omega)]
    exact ⟨rfl, y', h2, fo⟩
/-- what a loader has loaded -/
def hasS (st : LdS) (n : Int) (nm : Nm) : Option (Int × Int) := match st.ones[n.toNat]? with
  | some o => alook nm o.ldd
  | none => none
theorem ptr_get {y : Lay} {j : Nat} {b : Nat × Nat × Nat} (hb : y.bs[j]? = some b) : (y.bs.map fun b => AV.ptr b.1 0)[j * 1]? = some (.ptr b.1 0) := by
  rw [Nat.mul_one, List.getElem?_map, hb]; rfl
theorem look_fnd (o : Option (Int × Int)) : lookV fndV (.agg [.int .i64 0, .int .i64 0]) o = fndV (o.getD (0, 0)) := by cases o <;> rfl
theorem look_off (o : Option (Nm × Int)) : lookV offV (.agg [.str [], .int .i64 0]) o = offV (o.getD ([], 0)) := by cases o <;> rfl
theorem veq_map (b : Nat) : veq (.map b) (.map b) = true := by simp [veq]
theorem fnd_veq (a : Int × Int) : veq (fndV a) (fndV a) = true := by
  show veqs [.int .i64 a.1, .int .i64 a.2] [.int .i64 a.1, .int .i64 a.2] = true
  simp [veqs, veq_int]
theorem off_veq (a : Nm × Int) : veq (offV a) (offV a) = true := by
  show veqs [.str a.1, .int .i64 a.2] [.str a.1, .int .i64 a.2] = true
  simp [veqs, veq_int, veq_str]
theorem Loaded_runs {S : St} {p : Nat} {y : Lay} {st : LdS} {n : Int} {nm : Nm} (h : Ls S p y st) (hs : st.ones.length ≤ 100) (hn : S.n + 10 ≤ 1000000000) :
    Runs X1 14 [.ptr p 0, .int .i64 n, .str nm] S fun r U => r = .tup [.int .i64 ((if isL st n then hasS st n nm else none).getD (0, 0)).1, .bool (if isL st n then hasS st n nm else none).isSome] ∧ ∃ y', Ls U p y' st ∧ Fo S U y y' 1 := by
  refine Runs_fn (m := 32) (by kernel_rfl) Try.func14 rfl (by kernel_rfl) (by kernel_rfl) ?_
  repeat (
    first
      | refine W_seq ?_
      | refine WO_nil ?_
      | refine V_seq ?_
      | refine W_region ?_
      | refine WO_dst rfl rfl (by kernel_rfl) (by kernel_rfl) ?_
      | refine Ev_move rfl ?_
      | refine Ev_assign rfl ?_)
  refine Ev_call rfl rfl ((is_runs (n := n) h hs).mono ?_)
  rintro _ U0 - ⟨rfl, hU⟩
  rw [hU]
  by_cases hi : isL st n
  · rw [decide_eq_true hi, if_pos hi]
    obtain ⟨j, rfl⟩ : ∃ j : Nat, n = (j : Int) := ⟨n.toNat, by unfold isL at hi; omega⟩
    have hj : j < st.ones.length := by unfold isL at hi; omega
    obtain ⟨b, hb, ho, h1⟩ := h.get hj
    have hjb : j < y.bs.length := by rw [h.len]; exact hj
    repeat' (
      first
        | refine W_seq ?_
        | refine WO_nil ?_
        | refine V_seq ?_
        | refine W_region ?_
        | refine W_skip ?_
        | refine W_cond_f rfl ?_
        | refine WO_dst rfl rfl (by kernel_rfl) (by kernel_rfl) ?_
        | refine Ev_load rfl rfl rfl h.at_ rfl h.l.rd.self ?_
        | refine Ev_move rfl ?_
        | refine Ev_notb rfl ?_
        | refine Ev_nilCheck rfl ?_
        | refine Ev_fieldAddr rfl rfl rfl rfl rfl rfl ?_)
    refine Ev_indexAddr_rd rfl rfl rfl rfl rfl h.l.rd hjb ?_
    intro q hq
    repeat (
      refine WO_dst rfl rfl (by kernel_rfl) (by kernel_rfl) ?_)
    refine Ev_load_pt rfl rfl rfl hq (ptr_get hb) (veq_ptr _ _) ?_
    repeat (
      first
        | refine WO_dst rfl rfl (by kernel_rfl) (by kernel_rfl) ?_
        | refine Ev_load rfl rfl rfl h1.cell rfl (veq_map _) ?_
        | refine Ev_move rfl ?_
        | refine Ev_nilCheck rfl ?_
        | refine Ev_fieldAddr rfl rfl rfl rfl rfl rfl ?_)
    refine Ev_look2 (k := nm) (z := .agg [.int .i64 0, .int .i64 0]) rfl rfl rfl rfl rfl rfl strK_ok h1.ldd rfl (fun a _ => fnd_veq a) ?_
    rw [look_fnd]
    have hh : hasS st ((j : Nat) : Int) nm = alook nm st.ones[j].ldd := by unfold hasS; rw [Int.toNat_natCast, ho]
    rw [hh]
    repeat (
      first
        | refine WO_dst rfl rfl (by kernel_rfl) (by kernel_rfl) ?_
        | refine Ev_move rfl ?_
        | refine Ev_extract rfl rfl ?_)
    refine Ev_alloc_ rfl h.ok (by omega) ?_
    intro S1 n1 ok1 q1 f1
    repeat (
      refine WO_no rfl rfl ?_)
    refine Ev_store rfl rfl rfl rfl rfl q1 (by show 0 + 2 ≤ 2; decide) (by omega) ?_
    intro S2 n2 q2 f2
    have q2 : S2.h.get S.n = some (.cells 70 [.int .i64 ((alook nm st.ones[j].ldd).getD (0, 0)).1, .int .i64 ((alook nm st.ones[j].ldd).getD (0, 0)).2] false) := q2
    repeat (
      first
        | refine W_seq ?_
        | refine WO_nil ?_
        | refine V_seq ?_
        | refine W_region ?_
        | refine W_ret ?_
        | refine WO_dst rfl rfl (by kernel_rfl) (by kernel_rfl) ?_
        | refine Ev_load rfl rfl rfl q2 rfl (veq_int _ _) ?_
        | refine Ev_move rfl ?_
        | refine Ev_assign rfl ?_
        | refine Ev_fieldAddr rfl rfl rfl rfl rfl rfl ?_)
    refine V_done rfl rfl ?_
    have f02 : ∀ c, c < S.n → S2.h.get c = S.h.get c := fun c hc => by rw [f2 c (by omega), f1 c hc]
    exact ⟨rfl, y, h.far (sok_upd ok1 (by omega) n2 q2 f2) f02 y.tg (fun _ _ => rfl), ⟨by omega, by omega, fun _ _ => rfl, fun c hc _ => f02 c hc⟩⟩
  · rw [decide_eq_false hi, if_neg hi]
    repeat' (
      first
        | refine W_seq ?_
        | refine WO_nil ?_
        | refine V_seq ?_
        | refine W_region ?_
        | refine W_ret ?_
        | refine V_ret ?_
        | refine W_cond_t rfl ?_
        | refine WO_dst rfl rfl (by kernel_rfl) (by kernel_rfl) ?_
        | refine Ev_assign rfl ?_
        | refine Ev_notb rfl ?_)
    refine V_done rfl rfl ?_
    exact ⟨rfl, y, h, ⟨Nat.le_refl _, by omega, fun _ _ => rfl, fun _ _ _ => rfl⟩⟩
end Go.Proofs.Ytjbpegggfacojaa
/- loader: root. (NODRAWN) -/


namespace Go.Proofs.Ytjbpegggfacojaa
open GX
set_option maxHeartbeats 16000000
set_option maxRecDepth 100000
/-- numbers that agree: each leads to one that is its own parent -/
def UF (l : List Int) (rt d : Nat → Nat) : Prop := ∀ i, i < l.length → ∃ q : Nat, l[i]? = some ((q : Nat) : Int) ∧ q < l.length ∧ (q = i ∨ d q < d i) ∧ rt q = rt i ∧ (q = i → rt i = i)
theorem UF.half {l : List Int} {rt d : Nat → Nat} (h : UF l rt d) {i q g : Nat} (hq : l[i]? = some ((q : Nat) : Int)) (hne : q ≠ i) (hg : l[q]? = some ((g : Nat) : Int)) : UF (l.set i ((g : Nat) : Int)) rt d ∧ d g < d i ∧ g < l.length ∧ rt g = rt i := by
  have hi := (List.getElem?_eq_some_iff.1 hq).1
  have hqn := (List.getElem?_eq_some_iff.1 hg).1
  obtain ⟨q', k1, k2, k3, k4, k5⟩ := h i hi
  rw [hq] at k1
  have e1 : q = q' := by have := Option.some.inj k1; omega
  subst e1
  obtain ⟨g', m1, m2, m3, m4, m5⟩ := h q hqn
  rw [hg] at m1
  have e2 : g = g' := by have := Option.some.inj m1; omega
  subst e2
  have hd : d g < d i := by
    rcases k3 with e | k3
    · exact absurd e hne
    · rcases m3 with e | m3
      · rw [e]; exact k3
      · omega
  refine ⟨fun j hj => ?_, hd, m2, by rw [m4, k4]⟩
  rw [List.length_set] at hj ⊢
  by_cases hij : i = j
  · subst hij
    exact ⟨g, List.getElem?_set_self hi, m2, .inr hd, by rw [m4, k4], fun e => by rw [e] at hd; omega⟩
  · rw [List.getElem?_set_ne hij]
    exact h j hj
theorem lput_set : ∀ (l : List Int) (j : Nat) (x : Int), j < l.length → lput (l.map intV) j [intV x] = (l.set j x).map intV
  | [], _, _, h => by simp at h
  | a :: l, 0, x, _ => by
    show intV x :: lput (l.map intV) 0 [] = _
    rw [lput_nil]; rfl
  | a :: l, j + 1, x, h => by
    show intV a :: lput (l.map intV) j [intV x] = _
    rw [lput_set l j x (by simpa using h)]; rfl
theorem own_at {S : St} {v : AV} {l : List Int} (h : Own S v 3 1 (l.map intV) l.length) {j : Nat} (hj : j < l.length) : ∃ b, v = .slice b 0 l.length (.op 1) ∧ S.h.get b = some (.cells 3 (l.map intV) true) := by
  rcases h with ⟨_, _, h3⟩ | ⟨b, h1, h2, _⟩
  · omega
  · exact ⟨b, h1, h2⟩
theorem own_set {U : St} {b : Nat} {l : List Int} {j : Nat} {x : Int} (hj : j < l.length) (h : U.h.get b = some (.cells 3 (lput (l.map intV) (0 + j * 1) [intV x]) true)) : Own U (.slice b 0 l.length (.op 1)) 3 1 ((l.set j x).map intV) (l.set j x).length := by
  rw [Nat.zero_add, Nat.mul_one, lput_set l j x hj] at h
  exact .inr ⟨b, by rw [List.length_set], h, by simp⟩
theorem int_get {l : List Int} {j : Nat} {x : Int} (h : l[j]? = some x) : (l.map intV)[j * 1]? = some (.int .i64 x) := by
  rw [Nat.mul_one, List.getElem?_map, h]; rfl
/-- the id with which a new number begins -/
def newId (st : LdS) (n : Int) (nm : Nm) : Int := match hasS st n nm with | some x => x.1 | none => -1
/-- the number of a key, and what it turns -/
structure RootO (st : LdS) (k : Int × Nm) (rt d : Nat → Nat) (r : Nat) (st' : LdS) : Prop where
  old : ∀ v, alook k st.keys = some v → r = rt v.toNat ∧ st'.ones = st.ones ∧ st'.keys = st.keys ∧ st'.ids = st.ids ∧ st'.prs.length = st.prs.length ∧ UF st'.prs rt d
  new : alook k st.keys = none → r = st.prs.length ∧ st' = ⟨st.ones, aput k ((r : Nat) : Int) st.keys, st.prs ++ [((r : Nat) : Int)], st.ids ++ [newId st k.1 k.2]⟩
theorem UF.snoc {l : List Int} {rt d : Nat → Nat} (h : UF l rt d) : UF (l ++ [((l.length : Nat) : Int)]) (fun x => if x = l.length then l.length else rt x) d := by
  intro i hi
  rw [List.length_append, List.length_singleton] at hi ⊢
  by_cases hl : i < l.length
  · obtain ⟨q, k1, k2, k3, k4, k5⟩ := h i hl
    refine ⟨q, by rw [List.getElem?_append_left hl]; exact k1, by omega, k3, ?_, fun e => ?_⟩
    · dsimp only; rw [if_neg (by omega), if_neg (by omega)]; exact k4
    · dsimp only; rw [if_neg (by omega)]; exact k5 e
  · have : i = l.length := by omega
    subst this
    exact ⟨l.length, by simp, by omega, .inl rfl, rfl, fun _ => if_pos rfl⟩
theorem mp_sok {κ α : Type} {S U : St} {r : Nat} {kv : κ → AV} {vv : α → AV} {m : List (κ × α)} (h : Mp U r kv vv m) (ok : Sok S) (hr : r < S.n) (hn : U.n = S.n) (hf : ∀ c, c ≠ r → U.h.get c = S.h.get c) : Sok U := by
  obtain ⟨es, c, h1, _⟩ := h.ex
  exact sok_upd ok hr hn h1 hf
theorem root_runs {S : St} {p : Nat} {y : Lay} {st : LdS} {j : Nat} {nm : Nm} {rt d : Nat → Nat} (h : Ls S p y st) (hj : j < st.ones.length) (hu : UF st.prs rt d) (hpi : st.prs.length = st.ids.length) (hk : ∀ v, alook (((j : Nat) : Int), nm) st.keys = some v → ∃ i : Nat, v = (i : Int) ∧ i < st.prs.length) (hs : st.ones.length ≤ 100) (hps : st.prs.length ≤ 100000000) (hn : S.n + 20 ≤ 1000000000) :
    Runs X1 27 [.ptr p 0, .agg [.int .i64 ((j : Nat) : Int), .str nm]] S fun r U => ∃ i : Nat, r = .int .i64 ((i : Nat) : Int) ∧ ∃ st', RootO st (((j : Nat) : Int), nm) rt d i st' ∧ ∃ y', Ls U p y' st' ∧ Fo S U y y' 10 := by
  have hp := h.ok _ _ h.at_
  refine Runs_fn (m := 112) (by kernel_rfl) Try.func27 rfl (by kernel_rfl) (by kernel_rfl) ?_
  repeat (
    first
      | refine W_seq ?_
      | refine W_region ?_
      | refine WO_dst rfl rfl (by kernel_rfl) (by kernel_rfl) ?_)
  refine Ev_box rfl h.ok (by omega) ?_
  intro S1 n1 ok1 q1 f1
  have h1 : Ls S1 p { y with tg := fun c => if c = S.n then 5 else y.tg c } st := h.far ok1 f1 _ (fun c hc => if_neg (by omega))
  have q1 : S1.h.get S.n = some (.cells 76 [.int .i64 ((j : Nat) : Int), .str nm] false) := q1
  repeat (
    first
      | refine W_seq ?_
      | refine WO_nil ?_
      | refine V_seq ?_
      | refine WO_dst rfl rfl (by kernel_rfl) (by kernel_rfl) ?_
      | refine Ev_assign rfl ?_)
  refine W_drawn (by kernel_rfl) ?_
  repeat (
    first
      | refine WO_dst rfl rfl (by kernel_rfl) (by kernel_rfl) ?_
      | refine Ev_load rfl rfl rfl h1.at_ rfl (veq_map _) ?_
      | refine Ev_load_agg (ds := [.int .i64 ((j : Nat) : Int), .str nm]) rfl rfl rfl q1 (by show 0 + 2 ≤ 2; decide) rfl (by simp [veqs, veq_int, veq_str]) ?_
      | refine Ev_move rfl ?_
      | refine Ev_nilCheck rfl ?_
      | refine Ev_fieldAddr rfl rfl rfl rfl rfl rfl ?_)
  refine Ev_look2 (k := (((j : Nat) : Int), nm)) (z := .int .i64 0) rfl rfl rfl rfl rfl rfl keyK_ok h1.keys (veq_int _ _) (fun a _ => veq_int _ _) ?_
  have hlook : lookV intV (.int .i64 0) (alook (((j : Nat) : Int), nm) st.keys) = intV ((alook (((j : Nat) : Int), nm) st.keys).getD 0) := by cases alook (((j : Nat) : Int), nm) st.keys <;> rfl
  rw [hlook]
  repeat' (
    first
      | refine W_seq ?_
      | refine WO_nil ?_
      | refine V_seq ?_
      | refine W_region ?_
      | refine WO_dst rfl rfl (by kernel_rfl) (by kernel_rfl) ?_
      | refine Ev_move rfl ?_
      | refine Ev_assign rfl ?_
      | refine Ev_extract rfl rfl ?_
      | refine Ev_notb rfl ?_)
  refine W_cut (fun l' U => ∃ (i : Nat) (st1 : LdS) (y1 : Lay) (rt' d' : Nat → Nat), Ls U p y1 st1 ∧ Fo S U y y1 10 ∧ UF st1.prs rt' d' ∧ i < st1.prs.length ∧ sub [(5, .int .i64 ((i : Nat) : Int)), (0, .ptr p 0)] l' ∧
    ((∃ v, alook (((j : Nat) : Int), nm) st.keys = some v ∧ i = v.toNat ∧ st1 = st ∧ rt' = rt ∧ d' = d) ∨ (alook (((j : Nat) : Int), nm) st.keys = none ∧ i = st.prs.length ∧ rt' i = i ∧ st1 = ⟨st.ones, aput (((j : Nat) : Int), nm) ((i : Nat) : Int) st.keys, st.prs ++ [((i : Nat) : Int)], st.ids ++ [newId st ((j : Nat) : Int) nm]⟩))) ?_ ?_
  · cases hA : alook (((j : Nat) : Int), nm) st.keys with
    | some v =>
      obtain ⟨i, rfl, hi⟩ := hk v hA
      repeat (
        first
          | refine W_skip ?_
          | refine W_cond_f rfl ?_)
      refine V_mid ⟨i, st, _, rt, d, h1, ⟨by omega, by omega, fun c hc => if_neg (by omega), fun c hc _ => f1 c hc⟩, hu, hi, ⟨rfl, rfl, trivial⟩, .inl ⟨_, rfl, (Int.toNat_natCast i).symm, rfl, rfl, rfl⟩⟩
    | none =>
      have hlp := h1.prs.rd.len
      repeat (
        first
          | refine W_seq ?_
          | refine WO_nil ?_
          | refine V_seq ?_
          | refine W_region ?_
          | refine W_cond_t rfl ?_
          | refine WO_dst rfl rfl (by kernel_rfl) (by kernel_rfl) ?_
          | refine Ev_load rfl rfl rfl h1.at_ rfl h1.prs.rd.self ?_
          | refine Ev_len rfl rfl rfl rfl rfl hlp ?_
          | refine Ev_move rfl ?_
          | refine Ev_assign rfl ?_
          | refine Ev_nilCheck rfl ?_
          | refine Ev_fieldAddr rfl rfl rfl rfl rfl rfl ?_)
      refine W_drawn (by kernel_rfl) ?_
      repeat (
        first
          | refine WO_dst rfl rfl (by kernel_rfl) (by kernel_rfl) ?_
          | refine WO_no rfl rfl ?_
          | refine Ev_load rfl rfl rfl h1.at_ rfl (veq_map _) ?_
          | refine Ev_load_agg (ds := [.int .i64 ((j : Nat) : Int), .str nm]) rfl rfl rfl q1 (by show 0 + 2 ≤ 2; decide) rfl (by simp [veqs, veq_int, veq_str]) ?_
          | refine Ev_move rfl ?_
          | refine Ev_nilCheck rfl ?_
          | refine Ev_fieldAddr rfl rfl rfl rfl rfl rfl ?_)
      have hrk := h1.keys.lt ok1
      have hrk' := h.keys.lt h.ok
      refine Ev_mapUpdate (k := (((j : Nat) : Int), nm)) ((st.prs.length : Nat) : Int) rfl rfl rfl rfl rfl keyK_ok h1.keys (by omega) ?_
      intro S2 n2 m2 f2
      have ok2 := mp_sok m2 ok1 hrk n2 f2
      have h2 := h1.put_key ok2 _ _ m2 f2
      have hkn : S.n ≠ y.rk := by omega
      have q2 : S2.h.get S.n = some (.cells 76 [.int .i64 ((j : Nat) : Int), .str nm] false) := by rw [f2 _ hkn]; exact q1
      repeat (
        first
          | refine W_seq ?_
          | refine WO_nil ?_
          | refine V_seq ?_
          | refine W_region ?_
          | refine WO_dst rfl rfl (by kernel_rfl) (by kernel_rfl) ?_
          | refine Ev_load rfl rfl rfl h2.at_ rfl h2.prs.rd.self ?_
          | refine Ev_move rfl ?_
          | refine Ev_nilCheck rfl ?_
          | refine Ev_fieldAddr rfl rfl rfl rfl rfl rfl ?_)
      refine Ev_buildSlice rfl rfl rfl rfl rfl rfl ok2 (by omega) ?_
      intro S3 n3 ok3 q3 f3
      have p3 : Own S3 y.vp 3 1 (st.prs.map intV) st.prs.length := h2.prs.keep (fun c hc => f3 c (h2.prs.lt ok2 hc))
      repeat (
        refine WO_dst rfl rfl (by kernel_rfl) (by kernel_rfl) ?_)
      refine Ev_append rfl rfl rfl rfl rfl rfl rfl rfl rfl rfl p3 (Rd_lit (m := 1) q3 rfl rfl) rfl ok3 (by omega) (by dsimp only; omega) (by omega) ?_
      intro v4 S4 le4 n4 ok4 ow4 f4 b4
      have tp2 : ∀ c, blkOf y.vp = some c → c < S.n ∧ y.tg c = 3 := fun c hc => ⟨h.prs.lt h.ok hc, h.tpr c hc⟩
      have at4 : S4.h.get p = some (.cells 57 [y.vl, .map y.rk, y.vp, y.vi] false) := by
        rw [f4 p (fun e => by have := (tp2 p e).2; rw [h.tp] at this; cases this) (by omega), f3 p (by omega)]; exact h2.at_
      repeat (
        first
          | refine WO_dst rfl rfl (by kernel_rfl) (by kernel_rfl) ?_
          | refine WO_no rfl rfl ?_
          | refine Ev_nilCheck rfl ?_
          | refine Ev_fieldAddr rfl rfl rfl rfl rfl rfl ?_)
      refine Ev_store rfl rfl rfl (by rw [(own_cells1 ow4).1]; rfl) (by rw [(own_cells1 ow4).1]; exact (own_cells1 ow4).2) at4 (by rw [(own_cells1 ow4).1]; show 2 + 1 ≤ 4; omega) (by omega) ?_
      intro S5 n5 qq5 f5
      have at5 : S5.h.get p = some (.cells 57 [y.vl, .map y.rk, v4, y.vi] false) := qq5.trans (congrArg (fun z => some (AB.cells 57 z false)) (by rw [(own_cells1 ow4).1]; rfl))
      have ok5 : Sok S5 := sok_upd ok4 (by omega) n5 at5 f5
      have hb4 : ∀ c, blkOf v4 = some c → (c < S.n ∧ y.tg c = 3) ∨ S3.n ≤ c := fun c hc => (b4 c hc).imp (tp2 c) id
      have h5 := h2.app_prs (U := S5) (v := v4) (l := st.prs ++ [((st.prs.length : Nat) : Int)]) ok5 (fun c => if c < S2.n then (if c = S.n then 5 else y.tg c) else 3) (fun c hc => if_pos hc) at5
        (by rw [List.map_append, List.length_append]; exact ow4.keep (fun c hc => f5 c (fun e => by
          rcases hb4 c hc with ⟨_, g⟩ | g
          · rw [e, h.tp] at g; cases g
          · omega)))
        (fun c hc => by
          rcases hb4 c hc with ⟨g1, g2⟩ | g
          · rw [if_pos (by omega), if_neg (by omega)]; exact g2
          · rw [if_neg (by omega)])
        (fun c c1 c2 c3 => by rw [f5 c c2, f4 c c3 (by omega), f3 c c1])
      have q5 : S5.h.get S.n = some (.cells 76 [.int .i64 ((j : Nat) : Int), .str nm] false) := by
        rw [f5 _ (by omega), f4 _ (fun e => by have := (tp2 _ e).1; omega) (by omega), f3 _ (by omega)]; exact q2
      have f25 : ∀ c, c < S.n → y.tg c = 5 → S5.h.get c = S.h.get c := fun c c1 c2 => by
        rw [f5 c (fun e => by rw [e, h.tp] at c2; cases c2), f4 c (fun e => by have := (tp2 c e).2; omega) (by omega), f3 c (by omega), f2 c (fun e => by rw [e, h.tk] at c2; cases c2), f1 c c1]
      repeat (
        first
          | refine W_seq ?_
          | refine WO_nil ?_
          | refine V_seq ?_
          | refine W_region ?_
          | refine WO_dst rfl rfl (by kernel_rfl) (by kernel_rfl) ?_
          | refine Ev_load rfl rfl rfl h5.at_ rfl h5.ids.rd.self ?_
          | refine Ev_move rfl ?_
          | refine Ev_nilCheck rfl ?_
          | refine Ev_fieldAddr rfl rfl rfl rfl rfl rfl ?_)
      refine Ev_buildSlice rfl rfl rfl rfl rfl rfl ok5 (by omega) ?_
      intro S6 n6 ok6 q6 f6
      have p6 : Own S6 y.vi 3 1 (st.ids.map intV) st.ids.length := h5.ids.keep (fun c hc => f6 c (h5.ids.lt ok5 hc))
      repeat (
        refine WO_dst rfl rfl (by kernel_rfl) (by kernel_rfl) ?_)
      refine Ev_append rfl rfl rfl rfl rfl rfl rfl rfl rfl rfl p6 (Rd_lit (m := 1) q6 rfl rfl) rfl ok6 (by omega) (by dsimp only; omega) (by omega) ?_
      intro v7 S7 le7 n7 ok7 ow7 f7 b7
      have ti2 : ∀ c, blkOf y.vi = some c → c < S.n ∧ y.tg c = 4 := fun c hc => ⟨h.ids.lt h.ok hc, h.tid c hc⟩
      have at7 : S7.h.get p = some (.cells 57 [y.vl, .map y.rk, v4, y.vi] false) := by
        rw [f7 p (fun e => by have := (ti2 p e).2; rw [h.tp] at this; cases this) (by omega), f6 p (by omega)]; exact at5
      repeat (
        first
          | refine WO_dst rfl rfl (by kernel_rfl) (by kernel_rfl) ?_
          | refine WO_no rfl rfl ?_
          | refine Ev_nilCheck rfl ?_
          | refine Ev_fieldAddr rfl rfl rfl rfl rfl rfl ?_)
      refine Ev_store rfl rfl rfl (by rw [(own_cells1 ow7).1]; rfl) (by rw [(own_cells1 ow7).1]; exact (own_cells1 ow7).2) at7 (by rw [(own_cells1 ow7).1]; show 3 + 1 ≤ 4; omega) (by omega) ?_
      intro S8 n8 qq8 f8
      have at8 : S8.h.get p = some (.cells 57 [y.vl, .map y.rk, v4, v7] false) := qq8.trans (congrArg (fun z => some (AB.cells 57 z false)) (by rw [(own_cells1 ow7).1]; rfl))
      have ok8 : Sok S8 := sok_upd ok7 (by omega) n8 at8 f8
      have hb7 : ∀ c, blkOf v7 = some c → (c < S.n ∧ y.tg c = 4) ∨ S6.n ≤ c := fun c hc => (b7 c hc).imp (ti2 c) id
      have h8 := h5.app_ids (U := S8) (v := v7) (l := st.ids ++ [-1]) ok8 (fun c => if c < S5.n then (if c < S2.n then (if c = S.n then 5 else y.tg c) else 3) else 4) (fun c hc => if_pos hc) at8
        (by rw [List.map_append, List.length_append]; exact ow7.keep (fun c hc => f8 c (fun e => by
          rcases hb7 c hc with ⟨_, g⟩ | g
          · rw [e, h.tp] at g; cases g
          · omega)))
        (fun c hc => by
          rcases hb7 c hc with ⟨g1, g2⟩ | g
          · rw [if_pos (by omega), if_pos (by omega), if_neg (by omega)]; exact g2
          · rw [if_neg (by omega)])
        (fun c c1 c2 c3 => by rw [f8 c c2, f7 c c3 (by omega), f6 c c1])
      have q8 : S8.h.get S.n = some (.cells 76 [.int .i64 ((j : Nat) : Int), .str nm] false) := by
        rw [f8 _ (by omega), f7 _ (fun e => by have := (ti2 _ e).1; omega) (by omega), f6 _ (by omega)]; exact q5
      have f28 : ∀ c, c < S.n → y.tg c = 5 → S8.h.get c = S.h.get c := fun c c1 c2 => by
        rw [f8 c (fun e => by rw [e, h.tp] at c2; cases c2), f7 c (fun e => by have := (ti2 c e).2; omega) (by omega), f6 c (by omega), f25 c c1 c2]
      obtain ⟨b, hb, ho, hone⟩ := h8.get (j := j) hj
      have hjb : j < y.bs.length := by rw [h.len]; exact hj
      repeat (
        first
          | refine W_seq ?_
          | refine WO_nil ?_
          | refine V_seq ?_)
      refine W_drawnF [] (by simp) (by kernel_rfl) ?_
      repeat (
        first
          | refine WF_pa rfl rfl (by kernel_rfl) (by kernel_rfl) rfl ?_
          | refine WF_rs rfl rfl (by kernel_rfl) (by kernel_rfl) (by kernel_rfl) (by kernel_rfl) ?_
          | refine Ev_load rfl rfl rfl h8.at_ rfl h8.l.rd.self ?_
          | refine Ev_load rfl rfl rfl q8 rfl (veq_int _ _) ?_
          | refine Ev_load rfl rfl rfl q8 rfl (veq_str _) ?_
          | (refine Ev_indexAddr_rd rfl rfl rfl rfl rfl h8.l.rd hjb ?_; intro q hq)
          | refine Ev_load_pt rfl rfl rfl hq (ptr_get hb) (veq_ptr _ _) ?_
          | refine Ev_load rfl rfl rfl hone.cell rfl (veq_map _) ?_
          | (refine Ev_look2 (k := nm) (z := .agg [.int .i64 0, .int .i64 0]) rfl rfl rfl rfl rfl rfl strK_ok hone.ldd rfl (fun a _ => fnd_veq a) ?_; rw [look_fnd])
          | refine Ev_move rfl ?_
          | refine Ev_extract rfl rfl ?_
          | refine Ev_nilCheck rfl ?_
          | refine Ev_fieldAddr rfl rfl rfl rfl rfl rfl ?_)
      have hone : OneAt S8 b st.ones[j] := hone
      have hh : hasS st ((j : Nat) : Int) nm = alook nm st.ones[j].ldd := by unfold hasS; rw [Int.toNat_natCast, List.getElem?_eq_getElem hj]
      refine Ev_alloc_ rfl ok8 (by omega) ?_
      intro S9 n9 ok9 q9 f9
      repeat (
        refine W_seq ?_)
      refine WF_ld0 rfl rfl (fun _ _ => rfl) ?_
      refine Ev_store rfl rfl rfl rfl rfl q9 (by show 0 + 2 ≤ 2; decide) (by omega) ?_
      intro S10 n10 q10 f10
      have ok10 : Sok S10 := sok_upd ok9 (by omega) n10 q10 f10
      have f810 : ∀ c, c < S8.n → S10.h.get c = S8.h.get c := fun c hc => by rw [f10 c (by omega), f9 c hc]
      have h10 := h8.far ok10 f810 _ (fun c _ => rfl)
      refine ⟨by simp, [], by simp, ?_⟩
      have hfo : ∀ U : St, S10.n = U.n → (∀ c, c < S.n → y.tg c = 5 → U.h.get c = S10.h.get c) → Fo S U y { y with vp := v4, vi := v7, tg := fun c => if c < S5.n then (if c < S2.n then (if c = S.n then 5 else y.tg c) else 3) else 4 } 10 := fun U hU hf => ⟨by omega, by omega, fun c hc => by dsimp only; rw [if_pos (by omega), if_pos (by omega), if_neg (by omega)], fun c hc h5 => by rw [hf c hc h5, f810 c (by omega), f28 c hc h5]⟩
      cases ho2 : alook nm st.ones[j].ldd with
      | none =>
        repeat (
          first
            | refine WF_nil ?_
            | refine WF_pa rfl rfl (by kernel_rfl) (by kernel_rfl) rfl ?_
            | refine W_seq ?_
            | refine WO_nil ?_
            | refine V_seq ?_
            | refine W_region ?_
            | refine W_skip ?_
            | refine W_cond_f rfl ?_
            | refine WO_dst rfl rfl (by kernel_rfl) (by kernel_rfl) ?_
            | refine Ev_move rfl ?_
            | refine Ev_assign rfl ?_)
        repeat (
          refine W_seq ?_)
        refine V_mid ⟨st.prs.length, _, _, _, d, h10, hfo S10 rfl (fun _ _ _ => rfl), hu.snoc, by simp, ⟨rfl, rfl, trivial⟩, .inr ⟨rfl, rfl, if_pos rfl, ?_⟩⟩
        have hnew : newId st ((j : Nat) : Int) nm = -1 := by unfold newId; rw [hh, ho2]
        rw [hnew]
      | some x =>
        have q10 : S10.h.get S8.n = some (.cells 70 [.int .i64 x.1, .int .i64 x.2] false) := by rw [ho2] at q10; exact q10
        obtain ⟨bi, hvi, hbi⟩ := own_at h10.ids (j := st.prs.length) (by simp; omega)
        have hvi : v7 = .slice bi 0 (st.ids ++ [-1]).length (.op 1) := hvi
        have hbi : S10.h.get bi = some (.cells 3 ((st.ids ++ [-1]).map intV) true) := hbi
        have hidl : (st.ids ++ [(-1 : Int)]).length = st.prs.length + 1 := by simp; omega
        have hbin := ok10 _ _ hbi
        repeat (
          first
            | refine WF_nil ?_
            | refine WF_pa rfl rfl (by kernel_rfl) (by kernel_rfl) rfl ?_
            | refine W_seq ?_
            | refine WO_nil ?_
            | refine V_seq ?_
            | refine W_region ?_
            | refine W_cond_t rfl ?_
            | refine WO_dst rfl rfl (by kernel_rfl) (by kernel_rfl) ?_
            | refine Ev_move rfl ?_
            | refine Ev_assign rfl ?_)
        repeat (
          refine W_seq ?_)
        refine W_drawn (by kernel_rfl) ?_
        repeat (
          first
            | refine WO_dst rfl rfl (by kernel_rfl) (by kernel_rfl) ?_
            | refine Ev_load rfl rfl rfl h10.at_ rfl h10.ids.rd.self ?_
            | refine Ev_load rfl rfl rfl q10 rfl (veq_int _ _) ?_
            | refine Ev_move rfl ?_
            | refine Ev_nilCheck rfl ?_
            | refine Ev_fieldAddr rfl rfl rfl rfl rfl rfl ?_)
        refine Ev_indexAddr (i := st.prs.length) (b := bi) (o := 0) (len := (st.ids ++ [-1]).length) (cap := .op 1) rfl (congrArg some hvi) rfl rfl rfl (by omega) ?_
        repeat (
          refine WO_no rfl rfl ?_)
        refine Ev_store rfl rfl rfl rfl rfl hbi (by show 0 + st.prs.length * 1 + 1 ≤ _; rw [List.length_map]; omega) (by omega) ?_
        intro S11 n11 q11 f11
        have ok11 : Sok S11 := sok_upd ok10 hbin n11 q11 f11
        have how := own_set (l := st.ids ++ [-1]) (x := x.1) (by omega) q11
        rw [← hvi] at how
        have h11 := h10.set_ids ok11 ((st.ids ++ [-1]).set st.prs.length x.1) how (fun c hc => f11 c (fun e => hc (by rw [e]; exact congrArg blkOf hvi)))
        repeat (
          refine WO_nil ?_)
        refine V_mid ⟨st.prs.length, _, _, _, d, h11, hfo S11 n11.symm (fun c hc h5 => f11 c (fun e => ?_)), hu.snoc, by simp, ⟨rfl, rfl, trivial⟩, .inr ⟨rfl, rfl, if_pos rfl, ?_⟩⟩
        · have := h10.tid c (by rw [e]; exact congrArg blkOf hvi)
          dsimp only at this
          rw [if_pos (by omega), if_pos (by omega), if_neg (by omega)] at this
          omega
        · have hnew : newId st ((j : Nat) : Int) nm = x.1 := by unfold newId; rw [hh, ho2]
          rw [hnew, hpi]
          simp
  · rintro l' U ⟨i0, st1, y1, rt', d', h1', fo1, hu1, hi1, hs1, hcase⟩
    have hU := fo1.n
    refine V_weak hs1 ?_
    repeat (
      first
        | refine W_seq ?_
        | refine V_seq ?_
        | refine W_block ?_)
    refine W_inv (fun a : Nat × List Int => [(5, .int .i64 ((a.1 : Nat) : Int)), (0, .ptr p 0)]) (fun a T => Ls T p y1 { st1 with prs := a.2 } ∧ UF a.2 rt' d' ∧ a.2.length = st1.prs.length ∧ a.1 < a.2.length ∧ rt' a.1 = rt' i0 ∧ T.n = U.n ∧ (∀ c, y1.tg c = 5 → T.h.get c = U.h.get c) ∧ (st1.prs[i0]? = some ((i0 : Nat) : Int) → a = (i0, st1.prs))) (fun a => d' a.1) ?_ (i0, st1.prs) ⟨h1', hu1, rfl, hi1, rfl, rfl, fun _ _ => rfl, fun _ => rfl⟩ ⟨rfl, rfl, trivial⟩
    rintro ⟨n, l⟩ T ⟨ht, hul, hll, hnl, hrn, hTn, hTf, hst⟩ back
    dsimp only at ht hul hll hnl hrn hst back
    obtain ⟨q, k1, k2, k3, k4, k5⟩ := hul n hnl
    repeat (
      first
        | refine W_seq ?_
        | refine W_region ?_
        | refine WO_dst rfl rfl (by kernel_rfl) (by kernel_rfl) ?_
        | refine Ev_load rfl rfl rfl ht.at_ rfl ht.prs.rd.self ?_
        | refine Ev_move rfl ?_
        | refine Ev_nilCheck rfl ?_
        | refine Ev_fieldAddr rfl rfl rfl rfl rfl rfl ?_)
    refine Ev_indexAddr_rd (i := n) rfl rfl rfl rfl rfl ht.prs.rd hnl ?_
    intro a1 ha1
    repeat' (
      first
        | refine W_seq ?_
        | refine WO_nil ?_
        | refine V_seq ?_
        | refine W_region ?_
        | refine W_skip ?_
        | refine W_block ?_
        | refine W_ret ?_
        | refine W_exit ?_
        | refine V_block_x rfl ?_
        | refine V_seq_x ?_
        | refine V_loop_x ?_
        | refine WO_dst rfl rfl (by kernel_rfl) (by kernel_rfl) ?_
        | refine Ev_load_pt rfl rfl rfl ha1 (int_get k1) (veq_int _ _) ?_
        | refine Ev_move rfl ?_
        | refine Ev_assign rfl ?_
        | refine Ev_neqN rfl rfl ?_
        | (refine W_cond rfl (fun hc => ?_) (fun hc => ?_) <;> (try dsimp only at hc) <;> try (exfalso; first | omega | exact hc rfl)))
    · have hqn : q ≠ n := by assumption
      obtain ⟨g, m1, m2, _⟩ := hul q k2
      obtain ⟨r1, r2, r3, r4⟩ := hul.half k1 hqn m1
      obtain ⟨bp, hvp, hbp⟩ := own_at ht.prs hnl
      have hvp : y1.vp = .slice bp 0 l.length (.op 1) := hvp
      have hbp : T.h.get bp = some (.cells 3 (l.map intV) true) := hbp
      have hbn := ht.ok _ _ hbp
      refine W_drawn (by kernel_rfl) ?_
      repeat (
        first
          | refine WO_dst rfl rfl (by kernel_rfl) (by kernel_rfl) ?_
          | refine Ev_load rfl rfl rfl ht.at_ rfl ht.prs.rd.self ?_
          | refine Ev_move rfl ?_
          | refine Ev_nilCheck rfl ?_
          | refine Ev_fieldAddr rfl rfl rfl rfl rfl rfl ?_)
      refine Ev_indexAddr_rd (i := n) rfl rfl rfl rfl rfl ht.prs.rd hnl ?_
      intro a2 ha2
      repeat (
        refine WO_dst rfl rfl (by kernel_rfl) (by kernel_rfl) ?_)
      refine Ev_load_pt rfl rfl rfl ha2 (int_get k1) (veq_int _ _) ?_
      repeat (
        refine WO_dst rfl rfl (by kernel_rfl) (by kernel_rfl) ?_)
      refine Ev_indexAddr_rd (i := q) rfl rfl rfl rfl rfl ht.prs.rd k2 ?_
      intro a3 ha3
      repeat (
        refine WO_dst rfl rfl (by kernel_rfl) (by kernel_rfl) ?_)
      refine Ev_load_pt rfl rfl rfl ha3 (int_get m1) (veq_int _ _) ?_
      repeat (
        refine WO_dst rfl rfl (by kernel_rfl) (by kernel_rfl) ?_)
      refine Ev_indexAddr (i := n) (b := bp) (o := 0) (len := l.length) (cap := .op 1) rfl (congrArg some hvp) rfl rfl rfl hnl ?_
      repeat (
        refine WO_no rfl rfl ?_)
      refine Ev_store rfl rfl rfl rfl rfl hbp (by show 0 + n * 1 + 1 ≤ _; rw [List.length_map]; omega) (by omega) ?_
      intro T1 tn1 tq1 tf1
      have tok1 : Sok T1 := sok_upd ht.ok hbn tn1 tq1 tf1
      have how := own_set hnl tq1
      rw [← hvp] at how
      have ht1 := ht.set_prs tok1 (l.set n ((g : Nat) : Int)) how (fun c hc => tf1 c (fun e => hc (by rw [e]; exact congrArg blkOf hvp)))
      have hgn : (l.set n ((g : Nat) : Int))[n]? = some ((g : Nat) : Int) := List.getElem?_set_self hnl
      have hnl' : n < (l.set n ((g : Nat) : Int)).length := by rw [List.length_set]; exact hnl
      repeat (
        first
          | refine WO_nil ?_
          | refine V_seq ?_
          | refine W_region ?_
          | refine WO_dst rfl rfl (by kernel_rfl) (by kernel_rfl) ?_
          | refine Ev_load rfl rfl rfl ht1.at_ rfl ht1.prs.rd.self ?_
          | refine Ev_move rfl ?_
          | refine Ev_nilCheck rfl ?_
          | refine Ev_fieldAddr rfl rfl rfl rfl rfl rfl ?_)
      refine Ev_indexAddr_rd (i := n) rfl rfl rfl rfl rfl ht1.prs.rd hnl' ?_
      intro a4 ha4
      repeat (
        refine WO_dst rfl rfl (by kernel_rfl) (by kernel_rfl) ?_)
      refine Ev_load_pt rfl rfl rfl ha4 (int_get hgn) (veq_int _ _) ?_
      repeat (
        first
          | refine WO_nil ?_
          | refine V_block ?_
          | refine WO_dst rfl rfl (by kernel_rfl) (by kernel_rfl) ?_
          | refine Ev_assign rfl ?_)
      refine back (g, l.set n ((g : Nat) : Int)) T1 _ r2 ⟨ht1, r1, by dsimp only; rw [List.length_set]; exact hll, by dsimp only; rw [List.length_set]; exact r3, by dsimp only; rw [r4]; exact hrn, by omega, fun c hc => ?_, fun e => ?_⟩ ⟨rfl, rfl, trivial⟩
      · rw [tf1 c (fun e => ?_), hTf c hc]
        have := ht1.tpr c (by rw [e]; exact congrArg blkOf hvp)
        omega
      · have := hst e
        cases this
        rw [e] at k1
        have := Option.some.inj k1
        exact absurd (by omega) hqn
    · have hqn : q = n := Classical.byContradiction (by assumption)
      refine V_done rfl rfl ?_
      have hn1 : rt' n = n := k5 hqn
      refine ⟨n, rfl, { st1 with prs := l }, ?_, y1, ht, ⟨by have := fo1.le; omega, by omega, fo1.tg, fun c hc h5 => ?_⟩⟩
      · rcases hcase with ⟨v, hv, e1, e2, e3, e4⟩ | ⟨hv, e1, e2, e3⟩
        · subst e2 e3 e4
          refine ⟨fun v' hv' => ?_, fun hno => by rw [hv] at hno; cases hno⟩
          rw [hv] at hv'; cases hv'
          exact ⟨by rw [← e1, ← hrn, hn1], rfl, rfl, rfl, hll, hul⟩
        · refine ⟨fun v' hv' => (by rw [hv] at hv'; cases hv'), fun _ => ?_⟩
          have he : st1.prs[i0]? = some ((i0 : Nat) : Int) := by rw [e3, e1]; simp
          have := hst he
          cases this
          exact ⟨e1, by rw [e3]⟩
      · rw [hTf c (by rw [fo1.tg c hc]; exact h5), fo1.fo c hc h5]
end Go.Proofs.Ytjbpegggfacojaa
/- loader: set. (NODRAWN) -/


namespace Go.Proofs.Ytjbpegggfacojaa
open GX
set_option maxHeartbeats 16000000
set_option maxRecDepth 100000
/-- what keeps numbers and keys in order -/
structure LdOK (st : LdS) (rt d : Nat → Nat) : Prop where
  uf : UF st.prs rt d
  pi : st.prs.length = st.ids.length
  keys : ∀ k v, alook k st.keys = some v → ∃ i : Nat, v = (i : Int) ∧ i < st.prs.length
  small : st.ones.length ≤ 100
/-- set -/
inductive SetO (st : LdS) (j : Nat) (nm : Nm) (x : Int × Int) (rt d : Nat → Nat) : Int → LdS → Prop where
  | had (v : Int × Int) (h : hasS st ((j : Nat) : Int) nm = some v) : SetO st j nm x rt d 0 st
  | bound (st1 : LdS) (r : Nat) (h : hasS st ((j : Nat) : Int) nm = none) (hr : RootO st (((j : Nat) : Int), nm) rt d r st1) (v : Int) (hv : st1.ids[r]? = some v) (h1 : 0 ≤ v ∧ v ≠ x.1) : SetO st j nm x rt d 25 st1
  | put (st1 : LdS) (r : Nat) (o : One) (h : hasS st ((j : Nat) : Int) nm = none) (hr : RootO st (((j : Nat) : Int), nm) rt d r st1) (v : Int) (hv : st1.ids[r]? = some v) (h1 : ¬ (0 ≤ v ∧ v ≠ x.1)) (ho : st.ones[j]? = some o) :
      SetO st j nm x rt d 0 ({ st1 with ids := st1.ids.set r x.1 }.put j { o with ldd := aput nm x o.ldd })
theorem RootO.facts {st st1 : LdS} {k : Int × Nm} {rt d : Nat → Nat} {r : Nat} (hr : RootO st k rt d r st1) (hk : LdOK st rt d) (hlen : ∀ v : Nat, v < st.prs.length → rt v < st.prs.length) : st1.ones = st.ones ∧ r < st1.ids.length := by
  cases h : alook k st.keys with
  | some v =>
    obtain ⟨i, rfl, hi⟩ := hk.keys k v h
    obtain ⟨h1, h2, _, h4, h5, _⟩ := hr.old _ h
    refine ⟨h2, ?_⟩
    rw [h1, h4, ← hk.pi, Int.toNat_natCast]
    exact hlen i hi
  | none =>
    obtain ⟨h1, h2⟩ := hr.new h
    subst h2
    refine ⟨rfl, ?_⟩
    rw [h1, List.length_append, ← hk.pi]; simp
theorem UF.rt_lt {l : List Int} {rt d : Nat → Nat} (h : UF l rt d) : ∀ n i, d i = n → i < l.length → rt i < l.length := by
  intro n
  induction n using Nat.strongRecOn with
  | ind n ih =>
    intro i hn hi
    obtain ⟨q, k1, k2, k3, k4, k5⟩ := h i hi
    rcases k3 with e | k3
    · rw [k5 e]; exact hi
    · rw [← k4]; exact ih (d q) (by omega) q rfl k2
theorem ok_lt {S : St} {p : Nat} {y : Lay} {st : LdS} (h : Ls S p y st) {b : Nat} {x : AB} (hb : S.h.get b = some x) : b < S.n := h.ok _ _ hb
theorem set_runs {S : St} {p : Nat} {y : Lay} {st : LdS} {j : Nat} {nm : Nm} {x : Int × Int} {rt d : Nat → Nat} (h : Ls S p y st) (hj : j < st.ones.length) (hk : LdOK st rt d) (hps : st.prs.length ≤ 100000000) (hn : S.n + 40 ≤ 1000000000) :
    Runs X1 38 [.ptr p 0, .int .i64 ((j : Nat) : Int), .str nm, fndV x] S fun r U => ∃ (e : Int) (st' : LdS), r = .int .i64 e ∧ SetO st j nm x rt d e st' ∧ ∃ y', Ls U p y' st' ∧ Fo S U y y' 20 := by
  have hp := h.ok _ _ h.at_
  obtain ⟨b, hb, ho, hone⟩ := h.get hj
  have hjb : j < y.bs.length := by rw [h.len]; exact hj
  have hh : hasS st ((j : Nat) : Int) nm = alook nm st.ones[j].ldd := by unfold hasS; rw [Int.toNat_natCast, ho]
  refine Runs_fn (m := 73) (by kernel_rfl) Try.func38 rfl (by kernel_rfl) (by kernel_rfl) ?_
  repeat (
    first
      | refine W_seq ?_
      | refine W_region ?_
      | refine WO_dst rfl rfl (by kernel_rfl) (by kernel_rfl) ?_)
  refine Ev_box rfl h.ok (by omega) ?_
  intro S1 n1 ok1 q1 f1
  have q1 : S1.h.get S.n = some (.cells 70 [.int .i64 x.1, .int .i64 x.2] false) := q1
  have h1 : Ls S1 p { y with tg := fun c => if c = S.n then 5 else y.tg c } st := h.far ok1 f1 _ (fun c hc => if_neg (by omega))
  have hone1 : OneAt S1 b st.ones[j] := h1.one j b _ hb ho
  repeat (
    first
      | refine W_seq ?_
      | refine WO_nil ?_
      | refine V_seq ?_
      | refine W_region ?_
      | refine WO_dst rfl rfl (by kernel_rfl) (by kernel_rfl) ?_
      | refine Ev_load rfl rfl rfl h1.at_ rfl h1.l.rd.self ?_
      | refine Ev_move rfl ?_
      | refine Ev_assign rfl ?_
      | refine Ev_nilCheck rfl ?_
      | refine Ev_fieldAddr rfl rfl rfl rfl rfl rfl ?_)
  refine Ev_indexAddr_rd rfl rfl rfl rfl rfl h1.l.rd hjb ?_
  intro q hq
  repeat (
    refine WO_dst rfl rfl (by kernel_rfl) (by kernel_rfl) ?_)
  refine Ev_load_pt rfl rfl rfl hq (ptr_get hb) (veq_ptr _ _) ?_
  repeat (
    first
      | refine WO_dst rfl rfl (by kernel_rfl) (by kernel_rfl) ?_
      | refine Ev_load rfl rfl rfl hone1.cell rfl (veq_map _) ?_
      | refine Ev_move rfl ?_
      | refine Ev_nilCheck rfl ?_
      | refine Ev_fieldAddr rfl rfl rfl rfl rfl rfl ?_)
  refine Ev_look2 (k := nm) (z := .agg [.int .i64 0, .int .i64 0]) rfl rfl rfl rfl rfl rfl strK_ok hone1.ldd rfl (fun a _ => fnd_veq a) ?_
  rw [look_fnd]
  repeat (
    first
      | refine WO_dst rfl rfl (by kernel_rfl) (by kernel_rfl) ?_
      | refine Ev_move rfl ?_
      | refine Ev_extract rfl rfl ?_)
  refine Ev_alloc_ rfl ok1 (by omega) ?_
  intro S2 n2 ok2 q2 f2
  repeat (
    refine WO_no rfl rfl ?_)
  refine Ev_store rfl rfl rfl rfl rfl q2 (by show 0 + 2 ≤ 2; decide) (by omega) ?_
  intro S3 n3 q3 f3
  have f13 : ∀ c, c < S1.n → S3.h.get c = S1.h.get c := fun c hc => by rw [f3 c (by omega), f2 c hc]
  have ok3 : Sok S3 := sok_upd ok2 (by omega) n3 q3 f3
  have h3 : Ls S3 p { y with tg := fun c => if c = S.n then 5 else y.tg c } st := h1.far ok3 f13 _ (fun c _ => rfl)
  have q3 : S3.h.get S.n = some (.cells 70 [.int .i64 x.1, .int .i64 x.2] false) := by rw [f13 _ (by omega)]; exact q1
  have fo3 : Fo S S3 y { y with tg := fun c => if c = S.n then 5 else y.tg c } 2 := ⟨by omega, by omega, fun c hc => if_neg (by omega), fun c hc _ => by rw [f13 c (by omega), f1 c hc]⟩
  cases hA : alook nm st.ones[j].ldd with
  | some v =>
    repeat (
      first
        | refine W_seq ?_
        | refine WO_nil ?_
        | refine V_seq ?_
        | refine W_region ?_
        | refine W_ret ?_
        | refine V_ret ?_
        | refine W_cond_t rfl ?_
        | refine WO_dst rfl rfl (by kernel_rfl) (by kernel_rfl) ?_
        | refine Ev_move rfl ?_
        | refine Ev_assign rfl ?_)
    refine V_done rfl rfl ?_
    exact ⟨0, st, rfl, .had v (by rw [hh, hA]), _, h3, ⟨fo3.le, by omega, fo3.tg, fo3.fo⟩⟩
  | none =>
    repeat (
      first
        | refine W_seq ?_
        | refine WO_nil ?_
        | refine V_seq ?_
        | refine W_region ?_
        | refine W_skip ?_
        | refine W_cond_f rfl ?_
        | refine WO_dst rfl rfl (by kernel_rfl) (by kernel_rfl) ?_
        | refine Ev_move rfl ?_
        | refine Ev_assign rfl ?_)
    refine Ev_build (v := .agg [.int .i64 ((j : Nat) : Int), .str nm]) rfl rfl ?_
    repeat (
      refine WO_dst rfl rfl (by kernel_rfl) (by kernel_rfl) ?_)
    refine Ev_call rfl rfl ((root_runs (rt := rt) (d := d) (nm := nm) h3 hj hk.uf hk.pi (hk.keys _) hk.small hps (by omega)).mono ?_)
    rintro _ S4 - ⟨r, rfl, st1, hr, y1, h4, fo4⟩
    have g4 := fo4.n
    have g4l := fo4.le
    obtain ⟨e1, e2⟩ := hr.facts hk (fun v hv => hk.uf.rt_lt _ v rfl hv)
    have q4 : S4.h.get S.n = some (.cells 70 [.int .i64 x.1, .int .i64 x.2] false) := by rw [fo4.fo _ (by omega) (if_pos rfl)]; exact q3
    have hti : y1.tg S.n = 5 := by rw [fo4.tg _ (by omega)]; exact if_pos rfl
    obtain ⟨v, hv⟩ : ∃ v, st1.ids[r]? = some v := ⟨_, List.getElem?_eq_getElem e2⟩
    have fo34 : Fo S S4 y y1 12 := ⟨by omega, by omega, fun c hc => by rw [fo4.tg c (by omega)]; exact if_neg (by omega), fun c hc h5 => by rw [fo4.fo c (by omega) (by dsimp only; rw [if_neg (by omega)]; exact h5), fo3.fo c hc h5]⟩
    repeat (
      first
        | refine W_seq ?_
        | refine WO_nil ?_
        | refine V_seq ?_
        | refine WO_dst rfl rfl (by kernel_rfl) (by kernel_rfl) ?_
        | refine Ev_assign rfl ?_)
    refine W_drawn (by kernel_rfl) ?_
    repeat (
      first
        | refine WO_dst rfl rfl (by kernel_rfl) (by kernel_rfl) ?_
        | refine Ev_load rfl rfl rfl h4.at_ rfl h4.ids.rd.self ?_
        | refine Ev_move rfl ?_
        | refine Ev_nilCheck rfl ?_
        | refine Ev_fieldAddr rfl rfl rfl rfl rfl rfl ?_)
    refine Ev_indexAddr_rd (i := r) rfl rfl rfl rfl rfl h4.ids.rd e2 ?_
    intro a1 ha1
    repeat' (
      first
        | refine W_seq ?_
        | refine WO_nil ?_
        | refine V_seq ?_
        | refine W_region ?_
        | refine W_skip ?_
        | refine W_ret ?_
        | refine V_ret ?_
        | refine W_cond_f rfl ?_
        | refine WO_dst rfl rfl (by kernel_rfl) (by kernel_rfl) ?_
        | refine WO_guard_t rfl rfl rfl rfl rfl (by kernel_rfl) (by kernel_rfl) ?_
        | refine WO_guard_f rfl rfl rfl rfl rfl rfl (by kernel_rfl) (by kernel_rfl) ?_
        | refine Ev_load_pt rfl rfl rfl ha1 (int_get hv) (veq_int _ _) ?_
        | refine Ev_load rfl rfl rfl h4.at_ rfl h4.ids.rd.self ?_
        | (refine Ev_indexAddr_rd (i := r) rfl rfl rfl rfl rfl h4.ids.rd e2 ?_; intro a2 ha2)
        | refine Ev_load_pt rfl rfl rfl ha2 (int_get hv) (veq_int _ _) ?_
        | refine Ev_load rfl rfl rfl q4 rfl (veq_int _ _) ?_
        | refine Ev_move rfl ?_
        | refine Ev_assign rfl ?_
        | refine Ev_pick_t rfl rfl rfl ?_
        | refine Ev_pick_f rfl rfl rfl ?_
        | refine Ev_geq rfl rfl ?_
        | refine Ev_neq rfl rfl ?_
        | refine Ev_nilCheck rfl ?_
        | refine Ev_fieldAddr rfl rfl rfl rfl rfl rfl ?_
        | (refine WO_guard_dt rfl rfl rfl rfl rfl (by kernel_rfl) (by kernel_rfl) (fun hg => ?_) (fun hg => ?_) <;> (try dsimp only at hg) <;> try (exfalso; first | omega | exact hg rfl))
        | (refine W_cond rfl (fun hc => ?_) (fun hc => ?_) <;> (try dsimp only at hc) <;> try (exfalso; first | omega | exact hc rfl)))
    · refine V_done rfl rfl ?_
      exact ⟨25, st1, rfl, .bound st1 r (by rw [hh, hA]) hr v hv ⟨by assumption, by assumption⟩, y1, h4, ⟨fo34.le, by omega, fo34.tg, fo34.fo⟩⟩
    all_goals
      have key : ¬ (0 ≤ v ∧ v ≠ x.1) := by omega
      obtain ⟨bi, hvi, hbi⟩ := own_at h4.ids e2
      have hbin := ok_lt h4 hbi
      have hj1 : j < st1.ones.length := by rw [e1]; exact hj
      refine W_drawn (by kernel_rfl) ?_
      repeat (
        first
          | refine WO_dst rfl rfl (by kernel_rfl) (by kernel_rfl) ?_
          | refine Ev_load rfl rfl rfl h4.at_ rfl h4.ids.rd.self ?_
          | refine Ev_load rfl rfl rfl q4 rfl (veq_int _ _) ?_
          | refine Ev_move rfl ?_
          | refine Ev_nilCheck rfl ?_
          | refine Ev_fieldAddr rfl rfl rfl rfl rfl rfl ?_)
      refine Ev_indexAddr (i := r) (b := bi) (o := 0) (len := st1.ids.length) (cap := .op 1) rfl (congrArg some hvi) rfl rfl rfl e2 ?_
      repeat (
        refine WO_no rfl rfl ?_)
      refine Ev_store rfl rfl rfl rfl rfl hbi (by show 0 + r * 1 + 1 ≤ _; rw [List.length_map]; omega) (by omega) ?_
      intro S5 n5 q5 f5
      have ok5 : Sok S5 := sok_upd h4.ok hbin n5 q5 f5
      have how := own_set e2 q5
      rw [← hvi] at how
      have h5 := h4.set_ids ok5 (st1.ids.set r x.1) how (fun c hc => f5 c (fun e => hc (by rw [e]; exact congrArg blkOf hvi)))
      have tbi : y1.tg bi = 4 := h4.tid bi (congrArg blkOf hvi)
      have q5' : S5.h.get S.n = some (.cells 70 [.int .i64 x.1, .int .i64 x.2] false) := by rw [f5 _ (fun e => by rw [e, tbi] at hti; cases hti)]; exact q4
      obtain ⟨b5, hb5, ho5, hone5⟩ := h5.get (j := j) hj1
      have hjb5 : j < y1.bs.length := (List.getElem?_eq_some_iff.1 hb5).1
      repeat (
        first
          | refine W_seq ?_
          | refine WO_nil ?_
          | refine V_seq ?_)
      refine W_drawn (by kernel_rfl) ?_
      repeat (
        first
          | refine WO_dst rfl rfl (by kernel_rfl) (by kernel_rfl) ?_
          | refine Ev_load rfl rfl rfl h5.at_ rfl h5.l.rd.self ?_
          | refine Ev_move rfl ?_
          | refine Ev_nilCheck rfl ?_
          | refine Ev_fieldAddr rfl rfl rfl rfl rfl rfl ?_)
      refine Ev_indexAddr_rd rfl rfl rfl rfl rfl h5.l.rd hjb5 ?_
      intro a6 ha6
      repeat (
        refine WO_dst rfl rfl (by kernel_rfl) (by kernel_rfl) ?_)
      refine Ev_load_pt rfl rfl rfl ha6 (ptr_get hb5) (veq_ptr _ _) ?_
      repeat (
        first
          | refine WO_dst rfl rfl (by kernel_rfl) (by kernel_rfl) ?_
          | refine Ev_load rfl rfl rfl hone5.cell rfl (veq_map _) ?_
          | refine Ev_move rfl ?_
          | refine Ev_nilCheck rfl ?_
          | refine Ev_fieldAddr rfl rfl rfl rfl rfl rfl ?_)
      refine Ev_load_agg (ds := [.int .i64 x.1, .int .i64 x.2]) rfl rfl rfl q5' (by show 0 + 2 ≤ 2; decide) rfl (by simp [veqs, veq_int]) ?_
      repeat (
        refine WO_no rfl rfl ?_)
      have hrl := hone5.ldd.lt ok5
      refine Ev_mapUpdate (k := nm) x rfl rfl rfl rfl rfl strK_ok hone5.ldd (by omega) ?_
      intro S6 n6 m6 f6
      have ok6 := mp_sok m6 ok5 hrl n6 f6
      have h6 := h5.put_ldd ok6 hb5 ho5 nm x m6 f6
      have t6 := (h5.tb j b5 hb5).2.2
      repeat (
        first
          | refine W_seq ?_
          | refine WO_nil ?_
          | refine V_seq ?_
          | refine W_region ?_
          | refine W_ret ?_
          | refine WO_dst rfl rfl (by kernel_rfl) (by kernel_rfl) ?_
          | refine Ev_assign rfl ?_)
      refine V_done rfl rfl ?_
      refine ⟨0, _, rfl, .put st1 r st1.ones[j] (by rw [hh, hA]) hr v hv key ?_, y1, h6, ⟨by have := fo34.le; omega, by omega, fo34.tg, fun c hc h5' => ?_⟩⟩
      · rw [← e1]; exact List.getElem?_eq_getElem hj1
      · have ht5 : y1.tg c = 5 := by rw [fo34.tg c hc]; exact h5'
        rw [f6 c (fun e => by rw [e, t6] at ht5; omega), f5 c (fun e => by rw [e, tbi] at ht5; cases ht5), fo34.fo c hc h5']
end Go.Proofs.Ytjbpegggfacojaa
/- slices.Reverse; loader: line. (NODRAWN) -/


namespace Go.Proofs.Ytjbpegggfacojaa
open GX
set_option maxHeartbeats 16000000
set_option maxRecDepth 100000
theorem rev_get {l : List Int} {k : Nat} (h : k < l.length) : l.reverse[k]? = l[l.length - 1 - k]? := by
  rw [List.getElem?_reverse h]
theorem reverse_runs {S : St} {v : AV} {l : List Int} (hok : Sok S) (hv : Own S v 3 1 (l.map intV) l.length) (hl : 0 < l.length) (hb : l.length ≤ 100000) (hn : S.n ≤ 900000000) :
    Runs X1 40 [v] S fun _ U => Own U v 3 1 (l.reverse.map intV) l.reverse.length ∧ U.n = S.n ∧ Sok U ∧ ∀ c, blkOf v ≠ some c → U.h.get c = S.h.get c := by
  obtain ⟨b, rfl, hb0⟩ := own_at hv hl
  have hbn := hok _ _ hb0
  refine Runs_fn (m := 28) (by kernel_rfl) Try.func40 rfl (by kernel_rfl) (by kernel_rfl) ?_
  repeat (
    first
      | refine W_seq ?_
      | refine WO_nil ?_
      | refine V_seq ?_
      | refine W_region ?_
      | refine W_block ?_
      | refine WO_dst rfl rfl (by kernel_rfl) (by kernel_rfl) ?_
      | refine Ev_len rfl rfl rfl rfl rfl hv.rd.len ?_
      | refine Ev_move rfl ?_
      | refine Ev_assign rfl ?_
      | refine Ev_subN rfl rfl (by simp only [lim]; omega) (by first | omega | (dsimp only; done) | (dsimp only; omega)) ?_)
  refine W_inv (fun a : Nat × List Int => [(2, .int .i64 ((a.1 : Nat) : Int)), (3, .int .i64 (((l.length - 1 : Nat) : Int) - ((a.1 : Nat) : Int))), (0, .slice b 0 l.length (.op 1))]) (fun a T => a.2.length = l.length ∧ T.h.get b = some (.cells 3 (a.2.map intV) true) ∧ T.n = S.n ∧ Sok T ∧ (∀ c, c ≠ b → T.h.get c = S.h.get c) ∧ 2 * a.1 ≤ l.length ∧ ∀ k, k < l.length → a.2[k]? = if k < a.1 ∨ l.length - a.1 ≤ k then l.reverse[k]? else l[k]?) (fun a => l.length - a.1) ?_ (0, l) ⟨rfl, hb0, rfl, hok, fun _ _ => rfl, by omega, fun k hk => by dsimp only; rw [if_neg (by omega)]⟩ ⟨rfl, by show some (AV.int .i64 ((l.length - 1 : Nat) : Int)) = some (AV.int .i64 (((l.length - 1 : Nat) : Int) - ((0 : Nat) : Int))); congr 2, rfl, trivial⟩
  rintro ⟨i, m⟩ T ⟨hm, hT, hTn, hTok, hTf, hi, hk⟩ back
  dsimp only at hm hT hi hk back
  have hji : i < l.length → (((l.length - 1 : Nat) : Int) - ((i : Nat) : Int)) = ((l.length - 1 - i : Nat) : Int) := fun _ => by omega
  repeat' (
    first
      | refine W_seq ?_
      | refine WO_nil ?_
      | refine V_seq ?_
      | refine W_region ?_
      | refine W_skip ?_
      | refine W_block ?_
      | refine W_exit ?_
      | refine V_block_x rfl ?_
      | refine V_seq_x ?_
      | refine V_loop_x ?_
      | refine WO_dst rfl rfl (by kernel_rfl) (by kernel_rfl) ?_
      | refine Ev_move rfl ?_
      | refine Ev_lss rfl rfl ?_
      | (refine W_cond rfl (fun hc => ?_) (fun hc => ?_) <;> (try dsimp only at hc) <;> try (exfalso; first | omega | exact hc rfl)))
  · have hlt : ((i : Nat) : Int) < ((l.length - 1 : Nat) : Int) - ((i : Nat) : Int) := by assumption
    dsimp only
    rw [hji (by omega)]
    obtain ⟨xi, hxi⟩ : ∃ x, m[i]? = some x := ⟨_, List.getElem?_eq_getElem (by omega)⟩
    obtain ⟨xj, hxj⟩ : ∃ x, m[l.length - 1 - i]? = some x := ⟨_, List.getElem?_eq_getElem (by omega)⟩
    refine W_drawnF [] (by simp) (by kernel_rfl) ?_
    repeat (
      first
        | refine WF_pa rfl rfl (by kernel_rfl) (by kernel_rfl) rfl ?_
        | refine WF_rs rfl rfl (by kernel_rfl) (by kernel_rfl) (by kernel_rfl) (by kernel_rfl) ?_
        | refine Ev_move rfl ?_
        | refine Ev_indexAddr rfl rfl rfl rfl rfl (by first | omega | (dsimp only; done) | (dsimp only; omega)) ?_)
    refine Ev_load rfl rfl rfl hT (by show (m.map intV)[0 + _ * 1]? = _; rw [Nat.zero_add]; exact int_get hxj) (veq_int _ _) ?_
    repeat (
      first
        | refine WF_pa rfl rfl (by kernel_rfl) (by kernel_rfl) rfl ?_
        | refine WF_rs rfl rfl (by kernel_rfl) (by kernel_rfl) (by kernel_rfl) (by kernel_rfl) ?_
        | refine Ev_move rfl ?_
        | refine Ev_indexAddr rfl rfl rfl rfl rfl (by first | omega | (dsimp only; done) | (dsimp only; omega)) ?_)
    refine Ev_load rfl rfl rfl hT (by show (m.map intV)[0 + _ * 1]? = _; rw [Nat.zero_add]; exact int_get hxi) (veq_int _ _) ?_
    repeat (
      first
        | refine WF_pa rfl rfl (by kernel_rfl) (by kernel_rfl) rfl ?_
        | refine Ev_indexAddr rfl rfl rfl rfl rfl (by first | omega | (dsimp only; done) | (dsimp only; omega)) ?_)
    refine WF_ld0 rfl rfl (fun _ _ => rfl) ?_
    refine Ev_store rfl rfl rfl rfl rfl hT (by show 0 + i * 1 + 1 ≤ _; rw [List.length_map]; omega) (by omega) ?_
    intro T1 n1 q1 f1
    have q1 : T1.h.get b = some (.cells 3 ((m.set i xj).map intV) true) := by
      have e := lput_set m i xj (by omega)
      rw [q1]; congr 2
      rw [← e, Nat.zero_add, Nat.mul_one]; rfl
    refine ⟨by simp, [], by simp, ?_⟩
    repeat (
      first
        | refine WF_pa rfl rfl (by kernel_rfl) (by kernel_rfl) rfl ?_
        | refine Ev_indexAddr rfl rfl rfl rfl rfl (by first | omega | (dsimp only; done) | (dsimp only; omega)) ?_)
    refine WF_ld0 rfl rfl (fun _ _ => rfl) ?_
    refine Ev_store rfl rfl rfl rfl rfl q1 (by show 0 + (l.length - 1 - i) * 1 + 1 ≤ _; rw [List.length_map, List.length_set]; omega) (by omega) ?_
    intro T2 n2 q2 f2
    have q2 : T2.h.get b = some (.cells 3 (((m.set i xj).set (l.length - 1 - i) xi).map intV) true) := by
      have e := lput_set (m.set i xj) (l.length - 1 - i) xi (by rw [List.length_set]; omega)
      rw [q2]; congr 2
      rw [← e, Nat.zero_add, Nat.mul_one]; rfl
    refine ⟨by simp, [], by simp, ?_⟩
    repeat (
      first
        | refine WF_nil ?_
        | refine WO_nil ?_
        | refine V_seq ?_
        | refine W_region ?_
        | refine V_block ?_
        | refine WO_dst rfl rfl (by kernel_rfl) (by kernel_rfl) ?_
        | refine Ev_move rfl ?_
        | refine Ev_assign rfl ?_
        | refine Ev_addN rfl rfl (by simp only [lim]; omega) ?_
        | refine Ev_subN rfl rfl (by simp only [lim]; omega) (by first | omega | (dsimp only; done) | (dsimp only; omega)) ?_)
    repeat (
      refine W_seq ?_)
    refine back (i + 1, (m.set i xj).set (l.length - 1 - i) xi) T2 _ (by dsimp only; omega) ⟨by simp [hm], q2, by omega, sok_upd (sok_upd hTok (by omega) n1 q1 f1) (by omega) n2 q2 f2, fun c hc => by rw [f2 c hc, f1 c hc, hTf c hc], by dsimp only; omega, fun k hkl => ?_⟩ ⟨rfl, ?_, rfl, trivial⟩
    · dsimp only
      have h1 := hk i (by omega)
      rw [if_neg (by omega), hxi] at h1
      have h2 := hk (l.length - 1 - i) (by omega)
      rw [if_neg (by omega), hxj] at h2
      by_cases e1 : k = l.length - 1 - i
      · rw [e1, List.getElem?_set_self (by rw [List.length_set]; omega), if_pos (by omega), rev_get (by omega), show l.length - 1 - (l.length - 1 - i) = i by omega]
        exact h1
      · rw [List.getElem?_set_ne (fun e => e1 e.symm)]
        by_cases e2 : k = i
        · rw [e2, List.getElem?_set_self (by omega), if_pos (by omega), rev_get (by omega)]
          exact h2
        · rw [List.getElem?_set_ne (fun e => e2 e.symm), hk k hkl]
          by_cases e3 : k < i ∨ l.length - i ≤ k
          · rw [if_pos e3, if_pos (by omega)]
          · rw [if_neg e3, if_neg (by omega)]
    · show some (AV.int .i64 ((l.length - 1 - i - 1 : Nat) : Int)) = some (AV.int .i64 (((l.length - 1 : Nat) : Int) - ((i + 1 : Nat) : Int)))
      exact congrArg (fun z : Int => some (AV.int .i64 z)) (by omega)
  · refine V_done rfl rfl ?_
    have hge : ¬ ((i : Nat) : Int) < ((l.length - 1 : Nat) : Int) - ((i : Nat) : Int) := by assumption
    have e : m = l.reverse := by
      apply List.ext_getElem?
      intro k
      by_cases hkl : k < l.length
      · rw [hk k hkl]
        by_cases e3 : k < i ∨ l.length - i ≤ k
        · rw [if_pos e3]
        · rw [if_neg e3, rev_get hkl]
          congr 1
          omega
      · rw [List.getElem?_eq_none (by omega), List.getElem?_eq_none (by simp; omega)]
    subst e
    exact ⟨.inr ⟨b, by simp, hT, by simp⟩, hTn, hTok, fun c hc => hTf c (fun e => hc (by rw [e]; rfl))⟩
/-- from a loader up to the first one -/
def parS (st : LdS) (n : Int) : Int := match st.ones[n.toNat]? with | some o => o.par | none => -1
def upS (st : LdS) : Nat → Int → List Int
  | 0, _ => []
  | f + 1, n => if n < 0 then [] else n :: upS st f (parS st n)
/-- parents are older -/
def ParOK (st : LdS) : Prop := ∀ j o, st.ones[j]? = some o → -1 ≤ o.par ∧ o.par < ((j : Nat) : Int)
theorem parS_lt {st : LdS} (h : ParOK st) {n : Int} (h0 : 0 ≤ n) (hn : n < (st.ones.length : Int)) : -1 ≤ parS st n ∧ parS st n < n := by
  have hl : n.toNat < st.ones.length := by omega
  unfold parS
  rw [List.getElem?_eq_getElem hl]
  have := h _ _ (List.getElem?_eq_getElem hl)
  dsimp only
  omega
theorem upS_fuel {st : LdS} (h : ParOK st) : ∀ (f g : Nat) (n : Int), n < (f : Int) → n < (g : Int) → n < (st.ones.length : Int) → upS st f n = upS st g n
  | 0, 0, _, _, _, _ => rfl
  | 0, g + 1, n, h1, _, _ => by unfold upS; rw [if_pos (by omega)]
  | f + 1, 0, n, _, h2, _ => by unfold upS; rw [if_pos (by omega)]
  | f + 1, g + 1, n, h1, h2, h3 => by
    unfold upS
    by_cases h0 : n < 0
    · rw [if_pos h0, if_pos h0]
    · rw [if_neg h0, if_neg h0]
      have := parS_lt h (by omega) h3
      rw [upS_fuel h f g (parS st n) (by omega) (by omega) (by omega)]
def up (st : LdS) (n : Int) : List Int := upS st (n.toNat + 1) n
theorem up_neg {st : LdS} {n : Int} (h : n < 0) : up st n = [] := by unfold up upS; rw [if_pos h]
theorem up_cons {st : LdS} (h : ParOK st) {n : Int} (h0 : 0 ≤ n) (hn : n < (st.ones.length : Int)) : up st n = n :: up st (parS st n) := by
  have := parS_lt h h0 hn
  unfold up
  conv => lhs; unfold upS
  rw [if_neg (by omega), upS_fuel h n.toNat ((parS st n).toNat + 1) _ (by omega) (by omega) (by omega)]
theorem up_len {st : LdS} (h : ParOK st) : ∀ (k : Nat) (n : Int), n < (k : Int) → n < (st.ones.length : Int) → (up st n).length ≤ (n + 1).toNat ∧ ∀ x ∈ up st n, 0 ≤ x ∧ x ≤ n
  | 0, n, h1, _ => by rw [up_neg (by omega)]; exact ⟨Nat.zero_le _, fun x hx => by cases hx⟩
  | k + 1, n, h1, h2 => by
    by_cases h0 : n < 0
    · rw [up_neg h0]; exact ⟨Nat.zero_le _, fun x hx => by cases hx⟩
    · have hp := parS_lt h (by omega) h2
      obtain ⟨i1, i2⟩ := up_len h k (parS st n) (by omega) (by omega)
      rw [up_cons h (by omega) h2]
      refine ⟨by rw [List.length_cons]; omega, fun x hx => ?_⟩
      rcases List.mem_cons.1 hx with rfl | hx
      · omega
      · have := i2 x hx; omega
def lineS (st : LdS) (n : Int) : List Int := (up st n).reverse
theorem line_runs {S : St} {p : Nat} {y : Lay} {st : LdS} {n : Int} (h : Ls S p y st) (hpar : ParOK st) (h0 : 0 ≤ n) (hi : n < (st.ones.length : Int)) (hs : st.ones.length ≤ 100) (hn : S.n ≤ 800000000) :
    Runs X1 35 [.ptr p 0, .int .i64 n] S fun r U => Own U r 3 1 ((lineS st n).map intV) (lineS st n).length ∧ Sok U ∧ S.n ≤ U.n ∧ U.n ≤ S.n + 300 ∧ (∀ c, c < S.n → U.h.get c = S.h.get c) ∧ ∀ c, blkOf r = some c → S.n ≤ c := by
  have hlen := h.len
  refine Runs_fn (m := 25) (by kernel_rfl) Try.func35 rfl (by kernel_rfl) (by kernel_rfl) ?_
  repeat (
    first
      | refine W_seq ?_
      | refine WO_nil ?_
      | refine V_seq ?_
      | refine W_region ?_
      | refine W_block ?_
      | refine WO_dst rfl rfl (by kernel_rfl) (by kernel_rfl) ?_
      | refine Ev_assign rfl ?_)
  refine W_inv (fun a : Int × List Int × AV => [(1, .int .i64 a.1), (5, a.2.2), (0, .ptr p 0)]) (fun a T => Own T a.2.2 3 1 (a.2.1.map intV) a.2.1.length ∧ Sok T ∧ S.n ≤ T.n ∧ T.n ≤ S.n + 2 * a.2.1.length ∧ (∀ c, c < S.n → T.h.get c = S.h.get c) ∧ (∀ c, blkOf a.2.2 = some c → S.n ≤ c) ∧ a.2.1 ++ up st a.1 = up st n ∧ -1 ≤ a.1 ∧ a.1 < (st.ones.length : Int)) (fun a => (a.1 + 1).toNat) ?_ (n, [], .nils) ⟨.inl ⟨rfl, rfl, rfl⟩, h.ok, Nat.le_refl _, by dsimp only; omega, fun _ _ => rfl, fun c hc => (by cases hc), rfl, by dsimp only; omega, hi⟩ ⟨rfl, rfl, rfl, trivial⟩
  rintro ⟨m, acc, vv⟩ T ⟨hown, hTok, hTle, hTn, hTf, hTb, happ, hm1, hm2⟩ back
  dsimp only at hown hTn hTb happ hm1 hm2 back
  have hul := (up_len hpar st.ones.length n hi hi).1
  have hal : acc.length ≤ 100 := by
    have := congrArg List.length happ
    rw [List.length_append] at this
    omega
  have hT : Ls T p y st := h.far hTok hTf y.tg (fun _ _ => rfl)
  repeat' (
    first
      | refine W_seq ?_
      | refine WO_nil ?_
      | refine V_seq ?_
      | refine W_region ?_
      | refine W_skip ?_
      | refine W_block ?_
      | refine W_exit ?_
      | refine V_block_x rfl ?_
      | refine V_seq_x ?_
      | refine V_loop_x ?_
      | refine WO_dst rfl rfl (by kernel_rfl) (by kernel_rfl) ?_
      | refine Ev_move rfl ?_
      | refine Ev_geq rfl rfl ?_
      | (refine W_cond rfl (fun hc => ?_) (fun hc => ?_) <;> (try dsimp only at hc) <;> try (exfalso; first | omega | exact hc rfl)))
  · have hm0 : 0 ≤ m := by assumption
    obtain ⟨j, rfl⟩ : ∃ j : Nat, m = (j : Int) := ⟨m.toNat, by omega⟩
    have hj : j < st.ones.length := by omega
    refine Ev_buildSlice rfl rfl rfl rfl rfl rfl hTok (by omega) ?_
    intro T1 n1 ok1 q1 f1
    have o1 : Own T1 vv 3 1 (acc.map intV) acc.length := hown.keep (fun c hc => f1 c (hown.lt hTok hc))
    repeat (
      refine WO_dst rfl rfl (by kernel_rfl) (by kernel_rfl) ?_)
    refine Ev_append rfl rfl rfl rfl rfl rfl rfl rfl rfl rfl o1 (Rd_lit (m := 1) q1 rfl rfl) rfl ok1 (by omega) (by dsimp only; omega) (by omega) ?_
    intro v2 T2 le2 n2 ok2 ow2 f2 b2
    have fT2 : ∀ c, c < S.n → T2.h.get c = S.h.get c := fun c hc => by rw [f2 c (fun e => by have := hTb c e; omega) (by omega), f1 c (by omega), hTf c hc]
    have h2 : Ls T2 p y st := h.far ok2 fT2 y.tg (fun _ _ => rfl)
    obtain ⟨b, hb, ho, hone⟩ := h2.get hj
    have hjb : j < y.bs.length := by omega
    have hpj : parS st ((j : Nat) : Int) = (st.ones[j]).par := by unfold parS; rw [Int.toNat_natCast, ho]
    repeat (
      first
        | refine WO_nil ?_
        | refine V_seq ?_
        | refine W_region ?_
        | refine V_block ?_
        | refine WO_dst rfl rfl (by kernel_rfl) (by kernel_rfl) ?_
        | refine Ev_load rfl rfl rfl h2.at_ rfl h2.l.rd.self ?_
        | refine Ev_move rfl ?_
        | refine Ev_assign rfl ?_
        | refine Ev_nilCheck rfl ?_
        | refine Ev_fieldAddr rfl rfl rfl rfl rfl rfl ?_)
    refine Ev_indexAddr_rd rfl rfl rfl rfl rfl h2.l.rd hjb ?_
    intro q hq
    repeat (
      refine WO_dst rfl rfl (by kernel_rfl) (by kernel_rfl) ?_)
    refine Ev_load_pt rfl rfl rfl hq (ptr_get hb) (veq_ptr _ _) ?_
    repeat (
      first
        | refine WO_nil ?_
        | refine WO_dst rfl rfl (by kernel_rfl) (by kernel_rfl) ?_
        | refine Ev_load rfl rfl rfl hone.cell rfl (veq_int _ _) ?_
        | refine Ev_assign rfl ?_
        | refine Ev_nilCheck rfl ?_
        | refine Ev_fieldAddr rfl rfl rfl rfl rfl rfl ?_)
    have hpl := parS_lt hpar (n := ((j : Nat) : Int)) (by omega) hm2
    refine back (parS st ((j : Nat) : Int), acc ++ [((j : Nat) : Int)], v2) T2 _ (by dsimp only; omega) ⟨by dsimp only; rw [List.map_append, List.length_append]; exact ow2, ok2, by omega, by dsimp only; rw [List.length_append, List.length_singleton]; omega, fT2, fun c hc => ?_, ?_, by dsimp only; omega, by dsimp only; omega⟩ ⟨by rw [hpj]; rfl, rfl, rfl, trivial⟩
    · rcases b2 c hc with e | e
      · exact hTb c e
      · omega
    · dsimp only
      rw [← happ, up_cons hpar (n := ((j : Nat) : Int)) (by omega) hm2, List.append_assoc]; rfl
  · have hm0 : ¬ 0 ≤ m := by assumption
    rw [up_neg (by omega), List.append_nil] at happ
    have hpos : 0 < acc.length := by rw [happ, up_cons hpar h0 hi]; simp
    repeat (
      refine W_seq ?_)
    refine Ev_call rfl rfl ((reverse_runs hTok hown hpos (by omega) (by omega)).mono ?_)
    rintro _ T3 - ⟨o3, n3, ok3, f3⟩
    repeat (
      first
        | refine W_seq ?_
        | refine WO_nil ?_
        | refine V_seq ?_
        | refine W_region ?_
        | refine W_ret ?_
        | refine WO_dst rfl rfl (by kernel_rfl) (by kernel_rfl) ?_
        | refine Ev_move rfl ?_
        | refine Ev_assign rfl ?_)
    refine V_done rfl rfl ?_
    have e : lineS st n = acc.reverse := by unfold lineS; rw [happ]
    rw [e]
    exact ⟨o3, ok3, by omega, by omega, fun c hc => by rw [f3 c (fun e => by have := hTb c e; omega), hTf c hc], hTb⟩
end Go.Proofs.Ytjbpegggfacojaa
/- loader: who offers or has a class: load$1, slices.IndexFunc. (NODRAWN) -/


namespace Go.Proofs.Ytjbpegggfacojaa
open GX
set_option maxHeartbeats 16000000
set_option maxRecDepth 100000
/-- what a loader offers -/
def offS (st : LdS) (n : Int) (nm : Nm) : Option (Nm × Int) := match st.ones[n.toNat]? with
  | some o => alook nm o.off
  | none => none
def knowsS (st : LdS) (nm : Nm) (n : Int) : Bool := (hasS st n nm).isSome || (offS st n nm).isSome
/-- where two captured variables lie -/
structure Cap2 (S : St) (p c4 c6 : Nat) (nm : Nm) : Prop where
  a4 : S.h.get c4 = some (.cells 22 [.ptr p 0] false)
  a6 : S.h.get c6 = some (.cells 9 [.str nm] false)
theorem knows_runs {S : St} {p c4 c6 : Nat} {y : Lay} {st : LdS} {j : Nat} {nm : Nm} (h : Ls S p y st) (hc : Cap2 S p c4 c6 nm) (hj : j < st.ones.length) (hn : S.n + 4 ≤ 1000000000) :
    Runs X1 37 [.int .i64 ((j : Nat) : Int), .ptr c4 0, .ptr c6 0] S fun r U => r = .bool (knowsS st nm ((j : Nat) : Int)) ∧ Sok U ∧ S.n ≤ U.n ∧ U.n ≤ S.n + 2 ∧ ∀ c, c < S.n → U.h.get c = S.h.get c := by
  obtain ⟨b, hb, ho, hone⟩ := h.get hj
  have hjb : j < y.bs.length := by rw [h.len]; exact hj
  have hh : hasS st ((j : Nat) : Int) nm = alook nm st.ones[j].ldd := by unfold hasS; rw [Int.toNat_natCast, ho]
  have hf : offS st ((j : Nat) : Int) nm = alook nm st.ones[j].off := by unfold offS; rw [Int.toNat_natCast, ho]
  have b4 := h.ok _ _ hc.a4
  have b6 := h.ok _ _ hc.a6
  refine Runs_fn (m := 43) (by kernel_rfl) Try.func37 rfl (by kernel_rfl) (by kernel_rfl) ?_
  repeat (
    first
      | refine W_seq ?_
      | refine WO_nil ?_
      | refine V_seq ?_
      | refine W_region ?_
      | refine WO_dst rfl rfl (by kernel_rfl) (by kernel_rfl) ?_
      | refine Ev_assign rfl ?_)
  refine W_drawnF [] (by simp) (by kernel_rfl) ?_
  repeat (
    first
      | refine WF_pa rfl rfl (by kernel_rfl) (by kernel_rfl) rfl ?_
      | refine WF_rs rfl rfl (by kernel_rfl) (by kernel_rfl) (by kernel_rfl) (by kernel_rfl) ?_
      | refine Ev_load rfl rfl rfl hc.a4 rfl (veq_ptr _ _) ?_
      | refine Ev_load rfl rfl rfl hc.a6 rfl (veq_str _) ?_
      | refine Ev_load rfl rfl rfl h.at_ rfl h.l.rd.self ?_
      | (refine Ev_indexAddr_rd rfl rfl rfl rfl rfl h.l.rd hjb ?_; intro q hq)
      | refine Ev_load_pt rfl rfl rfl hq (ptr_get hb) (veq_ptr _ _) ?_
      | refine Ev_load rfl rfl rfl hone.cell rfl (veq_map _) ?_
      | (refine Ev_look2 (k := nm) (z := .agg [.int .i64 0, .int .i64 0]) rfl rfl rfl rfl rfl rfl strK_ok hone.ldd rfl (fun a _ => fnd_veq a) ?_; rw [look_fnd])
      | refine Ev_move rfl ?_
      | refine Ev_extract rfl rfl ?_
      | refine Ev_nilCheck rfl ?_
      | refine Ev_fieldAddr rfl rfl rfl rfl rfl rfl ?_)
  refine Ev_alloc_ rfl h.ok (by omega) ?_
  intro S1 n1 ok1 q1 f1
  repeat (
    refine W_seq ?_)
  refine WF_ld0 rfl rfl (fun _ _ => rfl) ?_
  refine Ev_store rfl rfl rfl rfl rfl q1 (by show 0 + 2 ≤ 2; decide) (by omega) ?_
  intro S2 n2 q2 f2
  have ok2 : Sok S2 := sok_upd ok1 (by omega) n2 q2 f2
  have f02 : ∀ c, c < S.n → S2.h.get c = S.h.get c := fun c hc => by rw [f2 c (by omega), f1 c hc]
  have h2 : Ls S2 p y st := h.far ok2 f02 y.tg (fun _ _ => rfl)
  have hone2 : OneAt S2 b st.ones[j] := h2.one j b _ hb ho
  have d4 : S2.h.get c4 = some (.cells 22 [.ptr p 0] false) := by rw [f02 _ b4]; exact hc.a4
  have d6 : S2.h.get c6 = some (.cells 9 [.str nm] false) := by rw [f02 _ b6]; exact hc.a6
  refine ⟨by simp, [], by simp, ?_⟩
  repeat (
    first
      | refine WF_nil ?_
      | refine WF_pa rfl rfl (by kernel_rfl) (by kernel_rfl) rfl ?_
      | refine W_seq ?_
      | refine V_seq ?_
      | refine Ev_assign rfl ?_)
  repeat (
    refine W_seq ?_)
  refine W_drawnF [] (by simp) (by kernel_rfl) ?_
  repeat (
    first
      | refine WF_pa rfl rfl (by kernel_rfl) (by kernel_rfl) rfl ?_
      | refine WF_rs rfl rfl (by kernel_rfl) (by kernel_rfl) (by kernel_rfl) (by kernel_rfl) ?_
      | refine Ev_load rfl rfl rfl d4 rfl (veq_ptr _ _) ?_
      | refine Ev_load rfl rfl rfl d6 rfl (veq_str _) ?_
      | refine Ev_load rfl rfl rfl h2.at_ rfl h2.l.rd.self ?_
      | (refine Ev_indexAddr_rd rfl rfl rfl rfl rfl h2.l.rd hjb ?_; intro q' hq')
      | refine Ev_load_pt rfl rfl rfl hq' (ptr_get hb) (veq_ptr _ _) ?_
      | refine Ev_load rfl rfl rfl hone2.cell rfl (veq_map _) ?_
      | (refine Ev_look2 (k := nm) (z := .agg [.str [], .int .i64 0]) rfl rfl rfl rfl rfl rfl strK_ok hone2.off rfl (fun a _ => off_veq a) ?_; rw [look_off])
      | refine Ev_move rfl ?_
      | refine Ev_extract rfl rfl ?_
      | refine Ev_nilCheck rfl ?_
      | refine Ev_fieldAddr rfl rfl rfl rfl rfl rfl ?_)
  refine Ev_alloc_ rfl ok2 (by omega) ?_
  intro S3 n3 ok3 q3 f3
  repeat (
    refine W_seq ?_)
  refine WF_ld0 rfl rfl (fun _ _ => rfl) ?_
  refine Ev_store rfl rfl rfl rfl rfl q3 (by show 0 + 2 ≤ 2; decide) (by omega) ?_
  intro S4 n4 q4 f4
  have ok4 : Sok S4 := sok_upd ok3 (by omega) n4 q4 f4
  have f04 : ∀ c, c < S.n → S4.h.get c = S.h.get c := fun c hc => by rw [f4 c (by omega), f3 c (by omega), f02 c hc]
  refine ⟨by simp, [], by simp, ?_⟩
  have hk : knowsS st nm ((j : Nat) : Int) = ((alook nm st.ones[j].ldd).isSome || (alook nm st.ones[j].off).isSome) := by unfold knowsS; rw [hh, hf]
  rw [hk]
  cases (alook nm st.ones[j].ldd).isSome with
  | true =>
    repeat (
      first
        | refine WF_nil ?_
        | refine WF_pa rfl rfl (by kernel_rfl) (by kernel_rfl) rfl ?_
        | refine W_seq ?_
        | refine WO_nil ?_
        | refine V_seq ?_
        | refine W_region ?_
        | refine W_ret ?_
        | refine WO_dst rfl rfl (by kernel_rfl) (by kernel_rfl) ?_
        | refine WO_guard_f rfl rfl rfl rfl rfl rfl (by kernel_rfl) (by kernel_rfl) ?_
        | refine Ev_move rfl ?_
        | refine Ev_assign rfl ?_
        | refine Ev_pick_t rfl rfl rfl ?_)
    repeat (
      refine W_seq ?_)
    refine V_done rfl rfl ?_
    exact ⟨rfl, ok4, by omega, by omega, f04⟩
  | false =>
    repeat (
      first
        | refine WF_nil ?_
        | refine WF_pa rfl rfl (by kernel_rfl) (by kernel_rfl) rfl ?_
        | refine W_seq ?_
        | refine WO_nil ?_
        | refine V_seq ?_
        | refine W_region ?_
        | refine W_ret ?_
        | refine WO_dst rfl rfl (by kernel_rfl) (by kernel_rfl) ?_
        | refine WO_guard_t rfl rfl rfl rfl rfl (by kernel_rfl) (by kernel_rfl) ?_
        | refine Ev_move rfl ?_
        | refine Ev_assign rfl ?_
        | refine Ev_pick_f rfl rfl rfl ?_)
    repeat (
      refine W_seq ?_)
    refine V_done rfl rfl ?_
    exact ⟨by cases (alook nm st.ones[j].off).isSome <;> rfl, ok4, by omega, by omega, f04⟩
/-- the first of a list that is so -/
def fidx (P : Int → Bool) : List Int → Nat → Option Nat
  | [], _ => none
  | x :: l, i => if P x = true then some i else fidx P l (i + 1)
theorem index_runs {S : St} {p c4 c6 : Nat} {y : Lay} {st : LdS} {v : AV} {l : List Int} {nm : Nm} (h : Ls S p y st) (hc : Cap2 S p c4 c6 nm) (hv : Rd S v 1 (l.map intV) l.length) (hl : ∀ x ∈ l, 0 ≤ x ∧ x < (st.ones.length : Int)) (hll : l.length ≤ 1000) (hn : S.n ≤ 800000000) :
    Runs X1 36 [v, .func (.func 37) [] [.ptr c4 0, .ptr c6 0]] S fun r U => r = .int .i64 (match fidx (knowsS st nm) l 0 with | some i => ((i : Nat) : Int) | none => -1) ∧ Sok U ∧ S.n ≤ U.n ∧ U.n ≤ S.n + 2 * l.length ∧ ∀ c, c < S.n → U.h.get c = S.h.get c := by
  have b4 := h.ok _ _ hc.a4
  have b6 := h.ok _ _ hc.a6
  refine Runs_fn (m := 19) (by kernel_rfl) Try.func36 rfl (by kernel_rfl) (by kernel_rfl) ?_
  repeat (
    first
      | refine W_seq ?_
      | refine WO_nil ?_
      | refine V_seq ?_
      | refine W_region ?_
      | refine W_block ?_
      | refine WO_dst rfl rfl (by kernel_rfl) (by kernel_rfl) ?_
      | refine Ev_len rfl rfl rfl rfl rfl hv.len ?_
      | refine Ev_move rfl ?_
      | refine Ev_assign rfl ?_)
  refine W_inv (fun i : Nat => [(8, .int .i64 ((i : Nat) : Int)), (7, .int .i64 ((l.length : Nat) : Int)), (0, v), (1, .func (.func 37) [] [.ptr c4 0, .ptr c6 0])]) (fun i T => i ≤ l.length ∧ Sok T ∧ S.n ≤ T.n ∧ T.n ≤ S.n + 2 * i ∧ (∀ c, c < S.n → T.h.get c = S.h.get c) ∧ fidx (knowsS st nm) l 0 = fidx (knowsS st nm) (l.drop i) i) (fun i => l.length - i) ?_ 0 ⟨Nat.zero_le _, h.ok, Nat.le_refl _, by omega, fun _ _ => rfl, rfl⟩ ⟨rfl, rfl, rfl, rfl, trivial⟩
  rintro i T ⟨hi, hTok, hTle, hTn, hTf, hfx⟩ back
  have hT : Ls T p y st := h.far hTok hTf y.tg (fun _ _ => rfl)
  have hvT : Rd T v 1 (l.map intV) l.length := hv.keep (fun c hc => hTf c (hv.lt h.ok hc))
  have hcT : Cap2 T p c4 c6 nm := ⟨by rw [hTf _ b4]; exact hc.a4, by rw [hTf _ b6]; exact hc.a6⟩
  repeat' (
    first
      | refine W_seq ?_
      | refine WO_nil ?_
      | refine V_seq ?_
      | refine W_region ?_
      | refine W_skip ?_
      | refine W_block ?_
      | refine W_ret ?_
      | refine W_exit ?_
      | refine V_block_x rfl ?_
      | refine V_seq_x ?_
      | refine V_loop_x ?_
      | refine WO_dst rfl rfl (by kernel_rfl) (by kernel_rfl) ?_
      | refine Ev_move rfl ?_
      | refine Ev_assign rfl ?_
      | refine Ev_lssN rfl rfl ?_
      | (refine W_cond rfl (fun hc => ?_) (fun hc => ?_) <;> (try dsimp only at hc) <;> try (exfalso; first | omega | exact hc rfl)))
  · have hlt : i < l.length := by assumption
    obtain ⟨hx0, hx1⟩ := hl _ (List.getElem_mem hlt)
    obtain ⟨j, hj⟩ : ∃ j : Nat, l[i] = (j : Int) := ⟨(l[i]).toNat, by omega⟩
    have hgi : l[i]? = some ((j : Nat) : Int) := by rw [List.getElem?_eq_getElem hlt, hj]
    have hjl : j < st.ones.length := by omega
    refine Ev_indexAddr_rd (i := i) rfl rfl rfl rfl rfl hvT hlt ?_
    intro q hq
    repeat (
      refine WO_dst rfl rfl (by kernel_rfl) (by kernel_rfl) ?_)
    refine Ev_load_pt rfl rfl rfl hq (int_get hgi) (veq_int _ _) ?_
    repeat (
      refine WO_dst rfl rfl (by kernel_rfl) (by kernel_rfl) ?_)
    refine Ev_call rfl rfl ((knows_runs hT hcT hjl (by omega)).mono ?_)
    rintro _ T1 - ⟨rfl, ok1, le1, n1, f1⟩
    have hdr : l.drop i = ((j : Nat) : Int) :: l.drop (i + 1) := by rw [List.drop_eq_getElem_cons hlt, hj]
    have hfs : fidx (knowsS st nm) (l.drop i) i = if knowsS st nm ((j : Nat) : Int) = true then some i else fidx (knowsS st nm) (l.drop (i + 1)) (i + 1) := by rw [hdr]; rfl
    have fT : ∀ c, c < S.n → T1.h.get c = S.h.get c := fun c hc => by rw [f1 c (by omega), hTf c hc]
    cases hK : knowsS st nm ((j : Nat) : Int) with
    | true =>
      repeat (
        first
          | refine W_seq ?_
          | refine WO_nil ?_
          | refine V_seq ?_
          | refine W_region ?_
          | refine W_ret ?_
          | refine V_ret ?_
          | refine W_cond_t rfl ?_
          | refine WO_dst rfl rfl (by kernel_rfl) (by kernel_rfl) ?_
          | refine Ev_move rfl ?_
          | refine Ev_assign rfl ?_)
      refine V_done rfl rfl ?_
      exact ⟨by rw [hfx, hfs, if_pos hK]; rfl, ok1, by omega, by omega, fT⟩
    | false =>
      repeat (
        first
          | refine WO_nil ?_
          | refine V_seq ?_
          | refine W_region ?_
          | refine W_skip ?_
          | refine V_block ?_
          | refine W_cond_f rfl ?_
          | refine WO_dst rfl rfl (by kernel_rfl) (by kernel_rfl) ?_
          | refine Ev_move rfl ?_
          | refine Ev_addN rfl rfl (by simp only [lim]; omega) ?_)
      exact back (i + 1) T1 _ (by omega) ⟨by omega, ok1, by omega, by omega, fT, by rw [hfx, hfs, if_neg (by rw [hK]; decide)]⟩ ⟨rfl, rfl, rfl, rfl, trivial⟩
  · refine V_done rfl rfl ?_
    have hge : ¬ i < l.length := by assumption
    rw [hfx, List.drop_eq_nil_of_le (by omega)]
    exact ⟨rfl, hTok, hTle, by omega, hTf⟩
end Go.Proofs.Ytjbpegggfacojaa
/- GX: reasoning about runs: an entry of a map that is looked up and stored again (m[k]++). -/

namespace GX
noncomputable section
open Go
variable {κ α : Type}
theorem aput_aput [DecidableEq κ] (k : κ) (v w : α) : ∀ m : List (κ × α), aput k w (aput k v m) = aput k w m
  | [] => by
    show (if k = k then [(k, w)] else (k, v) :: aput k w []) = [(k, w)]
    rw [if_pos rfl]
  | p :: m => by
    have e1 : ∀ z : α, aput k z (p :: m) = if k = p.1 then (k, z) :: m else p :: aput k z m := fun _ => rfl
    rw [e1, e1]
    by_cases h : k = p.1
    · rw [if_pos h, if_pos h]
      show (if k = k then (k, w) :: m else (k, v) :: aput k w m) = _
      rw [if_pos rfl]
    · rw [if_neg h, if_neg h]
      show (if k = p.1 then (k, w) :: aput k v m else p :: aput k w (aput k v m)) = _
      rw [if_neg h, aput_aput k v w m]
theorem aput_self [DecidableEq κ] {k : κ} {v : α} : ∀ {m : List (κ × α)}, alook k m = some v → aput k v m = m
  | [], h => by cases h
  | p :: m, h => by
    unfold alook at h
    unfold aput
    by_cases hk : k = p.1
    · rw [if_pos hk] at h ⊢
      cases h
      rw [hk]
    · rw [if_neg hk] at h ⊢
      rw [aput_self h]
theorem afindM_put [DecidableEq κ] (k : κ) (v : α) : ∀ (m : List (κ × α)) (i : Nat), ∃ j, afindM k (aput k v m) i = some (j, v) ∧ i ≤ j
  | [], i => ⟨i, by show (if k = k then some (i, v) else none) = _; rw [if_pos rfl], Nat.le_refl _⟩
  | p :: m, i => by
    unfold aput
    by_cases h : k = p.1
    · rw [if_pos h]
      exact ⟨i, by show (if k = k then some (i, v) else _) = _; rw [if_pos rfl], Nat.le_refl _⟩
    · rw [if_neg h]
      obtain ⟨j, h1, h2⟩ := afindM_put k v m (i + 1)
      exact ⟨j, by show (if k = p.1 then some (i, p.2) else afindM k (aput k v m) (i + 1)) = _; rw [if_neg h]; exact h1, by omega⟩
theorem stamp_mem : ∀ (es : List (AV × AV × Nat)) (i : Nat), i < es.length → stampAt es i ∈ es.map (·.2.2)
  | [], _, h => by simp at h
  | (a, b, c) :: es, 0, _ => List.mem_cons_self ..
  | (a, b, c) :: es, i + 1, h => by
    refine List.mem_cons_of_mem _ ?_
    have : stampAt ((a, b, c) :: es) (i + 1) = stampAt es i := rfl
    rw [this]
    exact stamp_mem es i (by simpa using h)
theorem mstamped_ok [DecidableEq κ] {kv : κ → AV} {vv : α → AV} (k : κ) (w : α) : ∀ (es : List (AV × AV × Nat)) (m : List (κ × α)) (i j : Nat) (v : α), mpE kv vv es m → (es.map (·.2.2)).Nodup → afindM k m i = some (j, v) →
    i ≤ j ∧ j - i < es.length ∧ ∃ es2, stamped es (stampAt es (j - i)) (vv w) = some es2 ∧ mpE kv vv es2 (aput k w m) ∧ es2.map (·.2.2) = es.map (·.2.2)
  | [], [], _, _, _, _, _, h => by cases h
  | [], p :: m, _, _, _, h, _, _ => by have := mpE_len h; simp at this
  | e :: es, [], _, _, _, h, _, _ => by have := mpE_len h; simp at this
  | (a, b, c) :: es, p :: m, i, j, v, h, hnd, hf => by
    obtain ⟨h1, h2, h3⟩ := mpE_cons h
    dsimp only at h1 h2
    subst h1 h2
    unfold afindM at hf
    by_cases hk : k = p.1
    · rw [if_pos hk] at hf
      cases hf
      rw [Nat.sub_self]
      refine ⟨Nat.le_refl _, by simp, (kv p.1, vv w, c) :: es, ?_, ?_, rfl⟩
      · show (bif Nat.beq c c then some ((kv p.1, vv w, c) :: es) else _) = _
        rw [Nat.beq_refl]; rfl
      · unfold aput; rw [if_pos hk, ← hk]
        exact mpE_mk h3
    · rw [if_neg hk] at hf
      obtain ⟨hn1, hn2⟩ := List.nodup_cons.1 hnd
      obtain ⟨g1, g2, es2, g3, g4, g5⟩ := mstamped_ok k w es m (i + 1) j v h3 hn2 hf
      have e : j - i = (j - (i + 1)) + 1 := by omega
      rw [e]
      refine ⟨by omega, by simp; omega, (kv p.1, vv p.2, c) :: es2, ?_, ?_, ?_⟩
      · have hs : stampAt ((kv p.1, vv p.2, c) :: es) (j - (i + 1) + 1) = stampAt es (j - (i + 1)) := rfl
        rw [hs]
        show (bif Nat.beq c (stampAt es (j - (i + 1))) then _ else match stamped es (stampAt es (j - (i + 1))) (vv w) with | some l => some ((kv p.1, vv p.2, c) :: l) | none => none) = _
        have hne : Nat.beq c (stampAt es (j - (i + 1))) = false := by
          rw [nbeq]
          refine decide_eq_false (fun e => hn1 ?_)
          rw [e]; exact stamp_mem es _ g2
        rw [hne, g3]; rfl
      · unfold aput; rw [if_neg hk]
        exact mpE_mk (k := p.1) (v := p.2) g4
      · show c :: es2.map (·.2.2) = c :: es.map (·.2.2)
        rw [g5]
/-- a map with an entry that can be stored to -/
structure Ent [DecidableEq κ] (S : St) (r : Nat) (kv : κ → AV) (vv : α → AV) (m : List (κ × α)) (k : κ) (stamp : Nat) : Prop where
  ex : ∃ es clock, S.h.get r = some (.map es clock) ∧ (∀ b ∈ es.map (·.2.2), b < clock) ∧ (es.map (·.2.2)).Nodup ∧ ∀ w, ∃ es2, stamped es stamp (vv w) = some es2 ∧ mpE kv vv es2 (aput k w m) ∧ es2.map (·.2.2) = es.map (·.2.2)
section
variable {X : X} {l : L} {S : St} {R : AV → St → Prop} {t : Nat} {x y u : Operand} {i ei : TI} {kt et r : Nat} {kv : κ → AV} {vv : α → AV} {m : List (κ × α)} {k : κ}
theorem Ev_mapEntry [DecidableEq κ] (a0 : α) (hx : od l x = some (.map r)) (hy : od l y = some (kv k)) (hi : X.ti t = some i) (hd : i.desc = .map kt et) (he : X.ti et = some ei) (hz : ei.zero = [vv a0]) (hag : aggD ei.desc = false) (hK : KeyT X kt kv) (hm : Mp S r kv vv m) (hrn : r < 1000000000)
    (hR : ∀ S' v st, S'.n = S.n → Ent S' r kv vv m k st → Mp S' r kv vv (aput k ((alook k m).getD a0) m) → (∀ c, c ≠ r → S'.h.get c = S.h.get c) → R (.tup [v, .int .i64 ((st : Nat) : Int)]) S') : Ev X l S (.mapEntry t x y) R := by
  obtain ⟨es, c, h1, h2, h3, h4⟩ := hm.ex
  have hloud : ∀ e, Ag l e → ∀ vS, aentry X S t (.map r) (kv k) = some vS → loudOp X e S (.mapEntry t x y) = some vS := fun e hA vS h => by
    unfold loudOp; dsimp only; rw [od_ok hA hx, od_ok hA hy]; dsimp only; exact h
  have hae : ∀ q, afindM k m 0 = q → aentry X S t (.map r) (kv k) = (match q with
      | some (j, a) => bif keyAt es j (kv k) then some (.tup [vv a, .int .i64 (.ofNat (stampAt es j))], S.put r (.map (mput es j (kv k) (vv a)) c)) else none
      | none => some (.tup [vv a0, .int .i64 (.ofNat c)], S.put r (.map (es ++ [(kv k, vv a0, c)]) (c + 1)))) := by
    intro q hq
    unfold aentry
    rw [hi]; dsimp only; rw [hd]; dsimp only; rw [hK.val]
    simp only [cond_true]
    rw [h1]; dsimp only; rw [afind_ok hK k es m 0 h2, hq]
    cases q with
    | some q => rfl
    | none =>
      dsimp only [Option.map]
      rw [he]
      dsimp only
      cases hde : ei.desc <;> rw [hde] at hag <;> first | (cases hag; done) | rw [hz]
  cases hf : afindM k m 0 with
  | some q =>
    obtain ⟨j, a⟩ := q
    have hl : alook k m = some a := by rw [← afindM_look k m 0, hf]; rfl
    obtain ⟨g1, g2, g3, g4⟩ := mput_ok hK k a es m 0 j a h2 hf
    rw [Nat.sub_zero] at g2 g3 g4
    rw [aput_self hl] at g2
    have hst : stampAt (mput es j (kv k) (vv a)) j = stampAt es j := by
      have e1 : ∀ (asx : List (AV × AV × Nat)) (n : Nat), stampAt asx n = ((asx.map (·.2.2))[n]?).getD 0 := by
        intro asx n
        unfold stampAt
        rw [List.getElem?_map]
        cases asx[n]? <;> rfl
      rw [e1, e1, g4]
    refine Ev_loud (S' := S.put r (.map (mput es j (kv k) (vv a)) c)) (v := .tup [vv a, .int .i64 ((stampAt es j : Nat) : Int)]) (fun e hA => ⟨rfl, hloud e hA _ (by rw [hae _ hf]; dsimp only; rw [g3]; rfl)⟩) (Nat.le_refl _) (hR _ _ (stampAt es j) rfl ⟨_, c, (get_put (by omega) _ _).trans (if_pos rfl), by rw [g4]; exact h4, by rw [g4]; exact h3, fun w => ?_⟩ ⟨_, c, (get_put (by omega) _ _).trans (if_pos rfl), by rw [hl]; show mpE kv vv _ (aput k a m); rw [aput_self hl]; exact g2, by rw [g4]; exact h3, by rw [g4]; exact h4⟩ (fun d hd => (get_put (by omega) _ _).trans (if_neg hd)))
    obtain ⟨_, _, es2, k1, k2, k3⟩ := mstamped_ok (kv := kv) (vv := vv) k w _ m 0 j a g2 (by rw [g4]; exact h3) hf
    rw [Nat.sub_zero, hst] at k1
    exact ⟨es2, k1, k2, k3⟩
  | none =>
    have g2 := put_new (kv := kv) (vv := vv) k a0 c es m 0 h2 hf
    have hnd : ((es ++ [(kv k, vv a0, c)]).map (·.2.2)).Nodup := by
      rw [List.map_append, List.nodup_append]
      refine ⟨h3, by simp, ?_⟩
      intro a ha b hb
      simp at hb
      have := h4 a ha
      omega
    have hclk : ∀ b ∈ (es ++ [(kv k, vv a0, c)]).map (·.2.2), b < c + 1 := by
      intro b hb
      rw [List.map_append, List.mem_append] at hb
      rcases hb with hb | hb
      · have := h4 b hb; omega
      · simp at hb; omega
    have hno : alook k m = none := by rw [← afindM_look k m 0, hf]; rfl
    refine Ev_loud (S' := S.put r (.map (es ++ [(kv k, vv a0, c)]) (c + 1))) (v := .tup [vv a0, .int .i64 ((c : Nat) : Int)]) (fun e hA => ⟨rfl, hloud e hA _ (by rw [hae _ hf]; rfl)⟩) (Nat.le_refl _) (hR _ _ c rfl ⟨_, c + 1, (get_put (by omega) _ _).trans (if_pos rfl), hclk, hnd, fun w => ?_⟩ ⟨_, c + 1, (get_put (by omega) _ _).trans (if_pos rfl), by rw [hno]; exact g2, hnd, hclk⟩ (fun d hd => (get_put (by omega) _ _).trans (if_neg hd)))
    · obtain ⟨j, hj, _⟩ := afindM_put k a0 m 0
      obtain ⟨_, k0, es2, k1, k2, k3⟩ := mstamped_ok (kv := kv) (vv := vv) k w _ _ 0 j a0 g2 hnd hj
      rw [Nat.sub_zero] at k0 k1
      rw [aput_aput] at k2
      have hjl : stampAt (es ++ [(kv k, vv a0, c)]) j = c := by
        have hlen : ∀ (m : List (κ × α)) (i : Nat), afindM k m i = none → ∀ j, afindM k (aput k a0 m) i = some (j, a0) → j = i + m.length := by
          intro m
          induction m with
          | nil =>
            intro i _ j hj
            have hj : (if k = k then some (i, a0) else none) = some (j, a0) := hj
            rw [if_pos rfl] at hj; cases hj; rfl
          | cons p m ih =>
            intro i hn j hj
            unfold afindM at hn
            by_cases hk : k = p.1
            · rw [if_pos hk] at hn; cases hn
            · rw [if_neg hk] at hn
              unfold aput at hj; rw [if_neg hk] at hj
              have hj : (if k = p.1 then some (i, p.2) else afindM k (aput k a0 m) (i + 1)) = some (j, a0) := hj
              rw [if_neg hk] at hj
              have := ih (i + 1) hn j hj
              rw [List.length_cons]; omega
        have hj2 := hlen m 0 hf j hj
        have : j = es.length := by rw [mpE_len h2]; omega
        subst this
        unfold stampAt
        simp
      rw [hjl] at k1
      exact ⟨es2, k1, k2, k3⟩
theorem Ev_entryStore [DecidableEq κ] {st : Nat} (w : α) (hx : od l x = some (.map r)) (hy : od l y = some (.int .i64 ((st : Nat) : Int))) (hu : od l u = some (vv w)) (hm : Ent S r kv vv m k st) (hrn : r < 1000000000)
    (hR : ∀ S', S'.n = S.n → Mp S' r kv vv (aput k w m) → (∀ c, c ≠ r → S'.h.get c = S.h.get c) → R (.tup []) S') : Ev X l S (.entryStore t x y u) R := by
  obtain ⟨es, c, h1, h2, h3, h4⟩ := hm.ex
  obtain ⟨es2, k1, k2, k3⟩ := h4 w
  refine Ev_loud (S' := S.put r (.map es2 c)) (fun e hA => ⟨rfl, ?_⟩) (Nat.le_refl _) (hR _ rfl ⟨es2, c, (get_put (by omega) _ _).trans (if_pos rfl), k2, by rw [k3]; exact h3, by rw [k3]; exact h2⟩ (fun d hd => (get_put (by omega) _ _).trans (if_neg hd)))
  unfold loudOp; dsimp only; rw [od_ok hA hx, od_ok hA hy, od_ok hA hu]; dsimp only
  have e1 : aentryStore S (.map r) (.int .i64 ((st : Nat) : Int)) (vv w) = some (S.put r (.map es2 c)) := by
    show (match S.h.get r with | some (.map es clock) => (match stamped es st (vv w) with | some es => some (S.put r (.map es clock)) | none => none) | _ => none) = _
    rw [h1]; dsimp only; rw [k1]
  rw [e1]
end
end
end GX
/- loader: what load answers; laws of states. -/





namespace Go.Proofs.Ytjbpegggfacojaa
open GX
set_option maxHeartbeats 16000000
section
open Go
variable {X : _root_.GX.X} {n : Nat} {ks : List Kt} {Q : Ex → Env → St → Prop} {l : L} {S : St} {c : Code}
/-- a piece of code that goes on behind itself, or returns -/
def Mid2 (I : L → St → Prop) (Q : Ex → Env → St → Prop) (x : Ex) (e : Env) (S : St) : Prop := Mid I x e S ∨ (x = .ret ∧ Q .ret e S)
theorem QK_ret {e : Env} : ∀ (ks : List Kt), Q .ret e S → QK X n ks Q .ret e S
  | [], h => h
  | .seq _ :: ks, h => QK_ret ks h
  | .block _ :: ks, h => QK_ret ks h
  | .loop _ :: ks, h => QK_ret ks h
theorem W_cut2 (I : L → St → Prop) (h : W X n c [] (Mid2 I Q) l S) (hk : ∀ l' S', I l' S' → V X n .nor ks Q l' S') : W X n c ks Q l S := by
  unfold W at h ⊢
  intro e he
  obtain ⟨f, x, e', S', h1, h2⟩ := h e he
  rcases (show Mid2 I Q x e' S' from h2) with ⟨rfl, l', h3, h4⟩ | ⟨rfl, h3⟩
  · have := hk l' S' h4
    unfold V at this
    exact ⟨f, .nor, e', S', h1, this e' h3⟩
  · exact ⟨f, .ret, e', S', h1, QK_ret ks h3⟩
theorem V_mid2 {I : L → St → Prop} (h : I l S) : V X n .nor [] (Mid2 I Q) l S := by
  unfold V
  intro e he
  exact .inl ⟨rfl, l, he, h⟩
theorem V_ret2 {I : L → St → Prop} (h : V X n .ret [] Q l S) : V X n .ret [] (Mid2 I Q) l S := by
  unfold V at h ⊢
  intro e he
  exact .inr ⟨rfl, h e he⟩
theorem V_done_ct {x : Ex} {a t u b o : Nat} {v w : AV} {R : AV → St → Prop} (hx : (match x with | .exit _ => false | _ => true) = true) (ha : lk l a = some (.ptr b o)) (hl : loadAt X S.h t b o = some v) (hu : lk l u = some w) (h : R (.tup [v, w]) S) : V X n x [] (QF X [.cell a t, .tmp u] R) l S := by
  unfold V
  intro e he
  refine ⟨fun i hi => ?_, [v, w], ?_, h⟩
  · subst hi; cases hx
  · simp only [rets, he a _ ha, he u _ hu, hl]
end
theorem loadAt_f {H : Tr AB} {b : Nat} {x : Int × Int} {sp : Bool} (h : H.get b = some (.cells 70 [.int .i64 x.1, .int .i64 x.2] sp)) : loadAt X1 H 70 b 0 = some (fndV x) := by
  have e : row H b 0 2 = some [.int .i64 x.1, .int .i64 x.2] := by unfold row; rw [h]; rfl
  show (match row H b 0 2 with | some cs => some (AV.agg cs) | none => none) = _
  rw [e]
/-- parents and offers are the same -/
def Sk (st st' : LdS) : Prop := st'.ones.length = st.ones.length ∧ ∀ (j : Nat) (o o' : One), st.ones[j]? = some o → st'.ones[j]? = some o' → o'.par = o.par ∧ o'.off = o.off
theorem Sk.refl (st : LdS) : Sk st st := ⟨rfl, fun j o o' h h' => by rw [h] at h'; cases h'; exact ⟨rfl, rfl⟩⟩
theorem Sk.of {st st' : LdS} (h : st'.ones = st.ones) : Sk st st' := ⟨by rw [h], fun j o o' h1 h2 => by rw [h, h1] at h2; cases h2; exact ⟨rfl, rfl⟩⟩
theorem Sk.trans {a b c : LdS} (h : Sk a b) (g : Sk b c) : Sk a c := by
  refine ⟨g.1.trans h.1, fun j o o' h1 h2 => ?_⟩
  have hj : j < b.ones.length := by rw [h.1]; exact (List.getElem?_eq_some_iff.1 h1).1
  obtain ⟨e1, e2⟩ := h.2 j o _ h1 (List.getElem?_eq_getElem hj)
  obtain ⟨e3, e4⟩ := g.2 j _ o' (List.getElem?_eq_getElem hj) h2
  exact ⟨e3.trans e1, e4.trans e2⟩
theorem Sk.put {st : LdS} {j : Nat} {o : One} {l : List (Nm × (Int × Int))} (h : st.ones[j]? = some o) : Sk st (st.put j { o with ldd := l }) := by
  refine ⟨by show (st.ones.set j _).length = _; rw [List.length_set], fun i a a' h1 h2 => ?_⟩
  have h2 : (st.ones.set j { o with ldd := l })[i]? = some a' := h2
  by_cases hij : j = i
  · subst hij
    rw [h] at h1; cases h1
    rw [List.getElem?_set_self (List.getElem?_eq_some_iff.1 h).1] at h2; cases h2
    exact ⟨rfl, rfl⟩
  · rw [List.getElem?_set_ne hij, h1] at h2; cases h2
    exact ⟨rfl, rfl⟩
theorem Sk.par {a b : LdS} (h : Sk a b) (n : Int) : parS b n = parS a n := by
  unfold parS
  cases h1 : a.ones[n.toNat]? with
  | none =>
    have : b.ones[n.toNat]? = none := by rw [List.getElem?_eq_none_iff] at h1 ⊢; rw [h.1]; exact h1
    rw [this]
  | some o =>
    have hj : n.toNat < b.ones.length := by rw [h.1]; exact (List.getElem?_eq_some_iff.1 h1).1
    rw [List.getElem?_eq_getElem hj]
    exact (h.2 _ o _ h1 (List.getElem?_eq_getElem hj)).1
theorem Sk.offS {a b : LdS} (h : Sk a b) (n : Int) (nm : Nm) : offS b n nm = offS a n nm := by
  unfold Ytjbpegggfacojaa.offS
  cases h1 : a.ones[n.toNat]? with
  | none =>
    have : b.ones[n.toNat]? = none := by rw [List.getElem?_eq_none_iff] at h1 ⊢; rw [h.1]; exact h1
    rw [this]
  | some o =>
    have hj : n.toNat < b.ones.length := by rw [h.1]; exact (List.getElem?_eq_some_iff.1 h1).1
    rw [List.getElem?_eq_getElem hj]
    dsimp only
    rw [(h.2 _ o _ h1 (List.getElem?_eq_getElem hj)).2]
theorem Sk.parOK {a b : LdS} (h : Sk a b) (hp : ParOK a) : ParOK b := by
  intro j o' ho'
  have hj : j < a.ones.length := by rw [← h.1]; exact (List.getElem?_eq_some_iff.1 ho').1
  obtain ⟨e, _⟩ := h.2 j _ o' (List.getElem?_eq_getElem hj) ho'
  rw [e]
  exact hp j _ (List.getElem?_eq_getElem hj)
theorem RootO.ok {st st1 : LdS} {k : Int × Nm} {rt d : Nat → Nat} {r : Nat} (hr : RootO st k rt d r st1) (hk : LdOK st rt d) : (∃ rt', LdOK st1 rt' d) ∧ st1.ones = st.ones ∧ st1.prs.length ≤ st.prs.length + 1 := by
  cases h : alook k st.keys with
  | some v =>
    obtain ⟨h1, h2, h3, h4, h5, h6⟩ := hr.old _ h
    exact ⟨⟨rt, h6, by rw [h5, h4]; exact hk.pi, fun k' v' hv => by rw [h3] at hv; rw [h5]; exact hk.keys k' v' hv, by rw [h2]; exact hk.small⟩, h2, by omega⟩
  | none =>
    obtain ⟨h1, h2⟩ := hr.new h
    subst h2
    refine ⟨⟨_, by rw [h1]; exact hk.uf.snoc, by dsimp only; rw [List.length_append, List.length_append, hk.pi]; rfl, fun k' v' hv => ?_, hk.small⟩, rfl, by dsimp only; rw [List.length_append]; exact Nat.le_refl _⟩
    dsimp only at hv ⊢
    rw [alook_aput] at hv
    rw [List.length_append, List.length_singleton]
    by_cases e : k' = k
    · rw [if_pos e] at hv; cases hv
      exact ⟨r, rfl, by omega⟩
    · rw [if_neg e] at hv
      obtain ⟨i, e1, e2⟩ := hk.keys k' v' hv
      exact ⟨i, e1, by omega⟩
def Good (st : LdS) : Prop := ∃ rt d, LdOK st rt d
def SetX (st : LdS) (j : Nat) (nm : Nm) (x : Int × Int) (e : Int) (st' : LdS) : Prop := ∃ rt d, LdOK st rt d ∧ SetO st j nm x rt d e st'
theorem SetX.ok {st st' : LdS} {j : Nat} {nm : Nm} {x : Int × Int} {e : Int} (h : SetX st j nm x e st') : Good st' ∧ Sk st st' ∧ st'.prs.length ≤ st.prs.length + 1 := by
  obtain ⟨rt, d, hk, hs⟩ := h
  cases hs with
  | had v h => exact ⟨⟨rt, d, hk⟩, .refl _, by omega⟩
  | bound st1 r h hr v hv h1 =>
    obtain ⟨⟨rt', h1⟩, h2, h3⟩ := hr.ok hk
    exact ⟨⟨rt', d, h1⟩, .of h2, h3⟩
  | put st1 r o h hr v hv h1 ho =>
    obtain ⟨⟨rt', h1⟩, h2, h3⟩ := hr.ok hk
    have ho1 : st1.ones[j]? = some o := by rw [h2]; exact ho
    refine ⟨⟨rt', d, h1.uf, ?_, h1.keys, ?_⟩, (Sk.of h2).trans (Sk.put (st := { st1 with ids := st1.ids.set r x.1 }) ho1), h3⟩
    · show st1.prs.length = (st1.ids.set r x.1).length
      rw [List.length_set]; exact h1.pi
    · show (st1.ones.set j _).length ≤ 100
      rw [List.length_set]; exact h1.small
/-- set, for each loader of a list, until one refuses -/
inductive SetsX (nm : Nm) (x : Int × Int) : LdS → List Int → Int → LdS → Prop where
  | nil (st : LdS) : SetsX nm x st [] 0 st
  | stop (st : LdS) (k : Nat) (l : List Int) (e : Int) (st1 : LdS) (h : SetX st k nm x e st1) (he : e ≠ 0) : SetsX nm x st (((k : Nat) : Int) :: l) e st1
  | next (st : LdS) (k : Nat) (l : List Int) (e : Int) (st1 st2 : LdS) (h : SetX st k nm x 0 st1) (h2 : SetsX nm x st1 l e st2) : SetsX nm x st (((k : Nat) : Int) :: l) e st2
/-- load -/
inductive LoadO : LdS → Int → Nm → List ((Int × Nm) × Int) → (Int × Int) → Int → LdS → List ((Int × Nm) × Int) → Prop where
  | had (st n nm lm) (v : Int × Int) (h : hasS st n nm = some v) : LoadO st n nm lm v 0 st lm
  | none (st n nm lm) (h : hasS st n nm = none) (hf : fidx (knowsS st nm) (lineS st n) 0 = none) : LoadO st n nm lm (0, 0) 22 st lm
  | done (st n nm lm) (i : Nat) (by_ : Int) (x : Int × Int) (e : Int) (st' : LdS) (h : hasS st n nm = none) (hf : fidx (knowsS st nm) (lineS st n) 0 = some i) (hb : (lineS st n)[i]? = some by_) (hx : hasS st by_ nm = some x)
      (hs : SetsX nm x st ((lineS st n).drop i) e st') : LoadO st n nm lm (if e = 0 then (hasS st' n nm).getD (0, 0) else (0, 0)) e st' lm
  | circ (st n nm lm) (i : Nat) (by_ : Int) (h : hasS st n nm = none) (hf : fidx (knowsS st nm) (lineS st n) 0 = some i) (hb : (lineS st n)[i]? = some by_) (hx : hasS st by_ nm = none) (hl : 0 < (alook (by_, nm) lm).getD 0) : LoadO st n nm lm (0, 0) 24 st lm
  | sup (st n nm lm) (i : Nat) (by_ : Int) (o : Nm × Int) (r : Int × Int) (e1 : Int) (st1 : LdS) (lm1) (h : hasS st n nm = none) (hf : fidx (knowsS st nm) (lineS st n) 0 = some i) (hb : (lineS st n)[i]? = some by_) (hx : hasS st by_ nm = none) (hl : ¬ 0 < (alook (by_, nm) lm).getD 0)
      (ho : offS st by_ nm = some o) (hne : o.1 ≠ []) (hr : LoadO st by_ o.1 (aput (by_, nm) ((alook (by_, nm) lm).getD 0 + 1) lm) r e1 st1 lm1) (he : e1 ≠ 0) : LoadO st n nm lm (0, 0) e1 st1 lm1
  | def0 (st n nm lm) (i : Nat) (by_ : Int) (o : Nm × Int) (e : Int) (st' : LdS) (lm') (h : hasS st n nm = none) (hf : fidx (knowsS st nm) (lineS st n) 0 = some i) (hb : (lineS st n)[i]? = some by_) (hx : hasS st by_ nm = none) (hl : ¬ 0 < (alook (by_, nm) lm).getD 0)
      (ho : offS st by_ nm = some o) (hne : o.1 = []) (hs : SetsX nm (o.2, by_) st ((lineS st n).drop i) e st') : LoadO st n nm lm (if e = 0 then (hasS st' n nm).getD (0, 0) else (0, 0)) e st' lm'
  | def1 (st n nm lm) (i : Nat) (by_ : Int) (o : Nm × Int) (r : Int × Int) (st1 : LdS) (lm1) (e : Int) (st' : LdS) (lm') (h : hasS st n nm = none) (hf : fidx (knowsS st nm) (lineS st n) 0 = some i) (hb : (lineS st n)[i]? = some by_) (hx : hasS st by_ nm = none) (hl : ¬ 0 < (alook (by_, nm) lm).getD 0)
      (ho : offS st by_ nm = some o) (hne : o.1 ≠ []) (hr : LoadO st by_ o.1 (aput (by_, nm) ((alook (by_, nm) lm).getD 0 + 1) lm) r 0 st1 lm1) (hs : SetsX nm (o.2, by_) st1 ((lineS st n).drop i) e st') : LoadO st n nm lm (if e = 0 then (hasS st' n nm).getD (0, 0) else (0, 0)) e st' lm'
theorem fidx_some {P : Int → Bool} : ∀ {l : List Int} {i j : Nat}, fidx P l i = some j → i ≤ j ∧ ∃ x, l[j - i]? = some x ∧ P x = true
  | [], _, _, h => by cases h
  | x :: l, i, j, h => by
    unfold fidx at h
    by_cases hp : P x = true
    · rw [if_pos hp] at h; cases h
      exact ⟨Nat.le_refl _, x, by rw [Nat.sub_self]; rfl, hp⟩
    · rw [if_neg hp] at h
      obtain ⟨h1, y, h2, h3⟩ := fidx_some h
      refine ⟨by omega, y, ?_, h3⟩
      rw [show j - i = (j - (i + 1)) + 1 by omega]
      exact h2
theorem countP_lt {α : Type} {p p' : α → Bool} : ∀ {K : List α} {k : α}, (∀ x ∈ K, p' x = true → p x = true) → k ∈ K → p k = true → p' k = false → K.countP p' < K.countP p
  | [], _, _, h, _, _ => by cases h
  | a :: K, k, hi, hm, h1, h2 => by
    have hle : K.countP p' ≤ K.countP p := List.countP_mono_left (fun x hx hp => hi x (List.mem_cons_of_mem _ hx) hp)
    rw [List.countP_cons, List.countP_cons]
    rcases List.mem_cons.1 hm with rfl | hm
    · rw [h1, h2]; simp; omega
    · have := countP_lt (fun x hx => hi x (List.mem_cons_of_mem _ hx)) hm h1 h2
      by_cases hp : p' a = true
      · rw [if_pos hp, if_pos (hi a (List.mem_cons_self ..) hp)]; omega
      · rw [if_neg hp]; omega
end Go.Proofs.Ytjbpegggfacojaa
/- loader: Agree. (NODRAWN) -/


namespace Go.Proofs.Ytjbpegggfacojaa
open GX
set_option maxHeartbeats 16000000
set_option maxRecDepth 100000
def RootX (st : LdS) (k : Int × Nm) (r : Nat) (st' : LdS) : Prop := ∃ rt d, LdOK st rt d ∧ RootO st k rt d r st'
theorem RootX.ok {st st1 : LdS} {k : Int × Nm} {r : Nat} (h : RootX st k r st1) : Good st1 ∧ st1.ones = st.ones ∧ st1.prs.length ≤ st.prs.length + 1 ∧ st.prs.length ≤ st1.prs.length ∧ r < st1.prs.length := by
  obtain ⟨rt, d, hk, hr⟩ := h
  obtain ⟨⟨rt', h1⟩, h2, h3⟩ := hr.ok hk
  obtain ⟨_, h4⟩ := hr.facts hk (fun v hv => hk.uf.rt_lt _ v rfl hv)
  refine ⟨⟨rt', d, h1⟩, h2, h3, ?_, by rw [h1.pi]; exact h4⟩
  cases ha : alook k st.keys with
  | some v => rw [(hr.old v ha).2.2.2.2.1]; exact Nat.le_refl _
  | none => rw [(hr.new ha).2]; simp
/-- Agree -/
inductive AgreeS (st : LdS) (a b : Int) (nm : Nm) : Int → LdS → Prop where
  | arg (h : ¬ (isL st a ∧ isL st b)) : AgreeS st a b nm 1 st
  | bound (h : isL st a ∧ isL st b) (st1 st2 : LdS) (rx ry : Nat) (vx vy : Int) (h1 : RootX st (a, nm) rx st1) (h2 : RootX st1 (b, nm) ry st2) (hx : st2.ids[rx]? = some vx) (hy : st2.ids[ry]? = some vy) (hb : 0 ≤ vx ∧ 0 ≤ vy ∧ vx ≠ vy) : AgreeS st a b nm 25 st2
  | ok (h : isL st a ∧ isL st b) (st1 st2 : LdS) (rx ry : Nat) (vx vy : Int) (h1 : RootX st (a, nm) rx st1) (h2 : RootX st1 (b, nm) ry st2) (hx : st2.ids[rx]? = some vx) (hy : st2.ids[ry]? = some vy) (hb : ¬ (0 ≤ vx ∧ 0 ≤ vy ∧ vx ≠ vy)) :
      AgreeS st a b nm 0 { st2 with prs := st2.prs.set rx ((ry : Nat) : Int), ids := st2.ids.set ry (max vx vy) }
theorem Agree_runs {S : St} {p : Nat} {y : Lay} {st : LdS} {a b : Int} {nm : Nm} (h : Ls S p y st) (hg : Good st) (hps : st.prs.length ≤ 90000000) (hn : S.n + 60 ≤ 1000000000) :
    Runs X1 15 [.ptr p 0, .int .i64 a, .int .i64 b, .str nm] S fun r U => ∃ e st' y', r = .int .i64 e ∧ AgreeS st a b nm e st' ∧ Ls U p y' st' ∧ Fo S U y y' 40 := by
  have hp := h.ok _ _ h.at_
  have hs : st.ones.length ≤ 100 := by obtain ⟨rt, d, hk⟩ := hg; exact hk.small
  refine Runs_fn (m := 94) (by kernel_rfl) Try.func15 rfl (by kernel_rfl) (by kernel_rfl) ?_
  repeat (
    first
      | refine W_seq ?_
      | refine WO_nil ?_
      | refine V_seq ?_
      | refine W_region ?_
      | refine WO_dst rfl rfl (by kernel_rfl) (by kernel_rfl) ?_
      | refine Ev_move rfl ?_
      | refine Ev_assign rfl ?_)
  refine Ev_call rfl rfl ((is_runs (n := a) h hs).mono ?_)
  rintro _ U0 - ⟨rfl, hU⟩
  rw [hU]
  by_cases hia : isL st a
  · rw [decide_eq_true hia]
    repeat (
      first
        | refine WO_dst rfl rfl (by kernel_rfl) (by kernel_rfl) ?_
        | refine WO_guard_t rfl rfl rfl rfl rfl (by kernel_rfl) (by kernel_rfl) ?_
        | refine Ev_move rfl ?_
        | refine Ev_notb rfl ?_)
    refine Ev_call rfl rfl ((is_runs (n := b) h hs).mono ?_)
    rintro _ U1 - ⟨rfl, hU1⟩
    rw [hU1]
    by_cases hib : isL st b
    · rw [decide_eq_true hib]
      obtain ⟨ja, rfl⟩ : ∃ j : Nat, a = (j : Int) := ⟨a.toNat, by unfold isL at hia; omega⟩
      obtain ⟨jb, rfl⟩ : ∃ j : Nat, b = (j : Int) := ⟨b.toNat, by unfold isL at hib; omega⟩
      have hja : ja < st.ones.length := by unfold isL at hia; omega
      have hjb : jb < st.ones.length := by unfold isL at hib; omega
      obtain ⟨rt, d, hk⟩ := hg
      repeat (
        first
          | refine W_seq ?_
          | refine WO_nil ?_
          | refine V_seq ?_
          | refine W_region ?_
          | refine W_skip ?_
          | refine W_cond_f rfl ?_
          | refine WO_dst rfl rfl (by kernel_rfl) (by kernel_rfl) ?_
          | refine WO_guard_t rfl rfl rfl rfl rfl (by kernel_rfl) (by kernel_rfl) ?_
          | refine Ev_move rfl ?_
          | refine Ev_pick_f rfl rfl rfl ?_
          | refine Ev_notb rfl ?_)
      refine Ev_build (v := .agg [.int .i64 ((ja : Nat) : Int), .str nm]) rfl rfl ?_
      repeat (
        refine WO_dst rfl rfl (by kernel_rfl) (by kernel_rfl) ?_)
      refine Ev_call rfl rfl ((root_runs (rt := rt) (d := d) (nm := nm) h hja hk.uf hk.pi (hk.keys _) hk.small (by omega) (by omega)).mono ?_)
      rintro _ S1 - ⟨rx, rfl, st1, hr1, y1, h1, fo1⟩
      have g1 := fo1.n
      have g1l := fo1.le
      have hX1 : RootX st (((ja : Nat) : Int), nm) rx st1 := ⟨rt, d, hk, hr1⟩
      obtain ⟨hg1, ho1, hp1, hp1', hrx⟩ := hX1.ok
      obtain ⟨rt1, d1, hk1⟩ := hg1
      repeat (
        first
          | refine WO_dst rfl rfl (by kernel_rfl) (by kernel_rfl) ?_
          | refine Ev_move rfl ?_)
      refine Ev_build (v := .agg [.int .i64 ((jb : Nat) : Int), .str nm]) rfl rfl ?_
      repeat (
        refine WO_dst rfl rfl (by kernel_rfl) (by kernel_rfl) ?_)
      refine Ev_call rfl rfl ((root_runs (rt := rt1) (d := d1) (nm := nm) h1 (by rw [ho1]; exact hjb) hk1.uf hk1.pi (hk1.keys _) hk1.small (by omega) (by omega)).mono ?_)
      rintro _ S2 - ⟨ry, rfl, st2, hr2, y2, h2, fo2⟩
      have g2 := fo2.n
      have g2l := fo2.le
      have hX2 : RootX st1 (((jb : Nat) : Int), nm) ry st2 := ⟨rt1, d1, hk1, hr2⟩
      obtain ⟨hg2, ho2, hp2, hp2', hry⟩ := hX2.ok
      obtain ⟨rt2, d2, hk2⟩ := hg2
      have hrx2 : rx < st2.ids.length := by rw [← hk2.pi]; omega
      have hry2 : ry < st2.ids.length := by rw [← hk2.pi]; omega
      obtain ⟨vx, hvx⟩ : ∃ v, st2.ids[rx]? = some v := ⟨_, List.getElem?_eq_getElem hrx2⟩
      obtain ⟨vy, hvy⟩ : ∃ v, st2.ids[ry]? = some v := ⟨_, List.getElem?_eq_getElem hry2⟩
      have foA : Fo S S2 y y2 20 := ⟨by omega, by omega, fun c hc => by rw [fo2.tg c (by omega), fo1.tg c hc], fun c hc h5 => by rw [fo2.fo c (by omega) (by rw [fo1.tg c hc]; exact h5), fo1.fo c hc h5]⟩
      repeat (
        first
          | refine W_seq ?_
          | refine WO_nil ?_
          | refine V_seq ?_
          | refine WO_dst rfl rfl (by kernel_rfl) (by kernel_rfl) ?_
          | refine Ev_assign rfl ?_)
      refine W_drawn (by kernel_rfl) ?_
      repeat' (
        first
          | refine W_seq ?_
          | refine WO_nil ?_
          | refine V_seq ?_
          | refine W_region ?_
          | refine W_skip ?_
          | refine W_ret ?_
          | refine V_ret ?_
          | refine W_cond_f rfl ?_
          | refine WO_dst rfl rfl (by kernel_rfl) (by kernel_rfl) ?_
          | refine WO_guard_t rfl rfl rfl rfl rfl (by kernel_rfl) (by kernel_rfl) ?_
          | refine WO_guard_f rfl rfl rfl rfl rfl rfl (by kernel_rfl) (by kernel_rfl) ?_
          | refine Ev_load rfl rfl rfl h2.at_ rfl h2.ids.rd.self ?_
          | (refine Ev_indexAddr_rd (i := rx) rfl rfl rfl rfl rfl h2.ids.rd hrx2 ?_; intro ax hax)
          | refine Ev_load_pt rfl rfl rfl hax (int_get hvx) (veq_int _ _) ?_
          | (refine Ev_indexAddr_rd (i := ry) rfl rfl rfl rfl rfl h2.ids.rd hry2 ?_; intro ay hay)
          | refine Ev_load_pt rfl rfl rfl hay (int_get hvy) (veq_int _ _) ?_
          | refine Ev_move rfl ?_
          | refine Ev_assign rfl ?_
          | refine Ev_pick_t rfl rfl rfl ?_
          | refine Ev_pick_f rfl rfl rfl ?_
          | refine Ev_geq rfl rfl ?_
          | refine Ev_neq rfl rfl ?_
          | refine Ev_nilCheck rfl ?_
          | refine Ev_fieldAddr rfl rfl rfl rfl rfl rfl ?_
          | (refine WO_guard_dt rfl rfl rfl rfl rfl (by kernel_rfl) (by kernel_rfl) (fun hg => ?_) (fun hg => ?_) <;> (try dsimp only at hg) <;> try (exfalso; first | omega | exact hg rfl))
          | (refine W_cond rfl (fun hc => ?_) (fun hc => ?_) <;> (try dsimp only at hc) <;> try (exfalso; first | omega | exact hc rfl)))
      · refine V_done rfl rfl ?_
        exact ⟨25, st2, y2, rfl, .bound ⟨hia, hib⟩ st1 st2 rx ry vx vy hX1 hX2 hvx hvy ⟨by assumption, by assumption, by assumption⟩, h2, ⟨foA.le, by omega, foA.tg, foA.fo⟩⟩
      all_goals
        have key : ¬ (0 ≤ vx ∧ 0 ≤ vy ∧ vx ≠ vy) := by omega
        have hrx3 : rx < st2.prs.length := by omega
        obtain ⟨bp, hvp, hbp⟩ := own_at h2.prs hrx3
        have hbpn := h2.ok _ _ hbp
        refine Ev_load rfl rfl rfl h2.at_ rfl h2.prs.rd.self ?_
        repeat (
          first
            | refine WO_dst rfl rfl (by kernel_rfl) (by kernel_rfl) ?_
            | refine Ev_move rfl ?_)
        refine Ev_indexAddr (i := rx) (b := bp) (o := 0) (len := st2.prs.length) (cap := .op 1) rfl (congrArg some hvp) rfl rfl rfl hrx3 ?_
        repeat (
          refine WO_no rfl rfl ?_)
        refine Ev_store rfl rfl rfl rfl rfl hbp (by show 0 + rx * 1 + 1 ≤ _; rw [List.length_map]; omega) (by omega) ?_
        intro S3 n3 q3 f3
        have ok3 : Sok S3 := sok_upd h2.ok hbpn n3 q3 f3
        have how3 := own_set (x := ((ry : Nat) : Int)) hrx3 q3
        rw [← hvp] at how3
        have h3 := h2.set_prs ok3 (st2.prs.set rx ((ry : Nat) : Int)) how3 (fun c hc => f3 c (fun e => hc (by rw [e]; exact congrArg blkOf hvp)))
        have tbp : y2.tg bp = 3 := h2.tpr bp (congrArg blkOf hvp)
        obtain ⟨bi, hvi, hbi⟩ := own_at h3.ids hry2
        have hbin := ok3 _ _ hbi
        repeat (
          first
            | refine W_seq ?_
            | refine WO_nil ?_
            | refine V_seq ?_)
        refine W_drawn (by kernel_rfl) ?_
        repeat (
          first
            | refine WO_dst rfl rfl (by kernel_rfl) (by kernel_rfl) ?_
            | refine Ev_load rfl rfl rfl h3.at_ rfl h3.ids.rd.self ?_
            | refine Ev_move rfl ?_
            | refine Ev_nilCheck rfl ?_
            | refine Ev_fieldAddr rfl rfl rfl rfl rfl rfl ?_)
        refine Ev_indexAddr_rd (i := rx) rfl rfl rfl rfl rfl h3.ids.rd hrx2 ?_
        intro bx hbx
        repeat (
          refine WO_dst rfl rfl (by kernel_rfl) (by kernel_rfl) ?_)
        refine Ev_load_pt rfl rfl rfl hbx (int_get hvx) (veq_int _ _) ?_
        repeat (
          first
            | refine WO_dst rfl rfl (by kernel_rfl) (by kernel_rfl) ?_
            | refine Ev_load rfl rfl rfl h3.at_ rfl h3.ids.rd.self ?_
            | refine Ev_move rfl ?_
            | refine Ev_nilCheck rfl ?_
            | refine Ev_fieldAddr rfl rfl rfl rfl rfl rfl ?_)
        refine Ev_indexAddr_rd (i := ry) rfl rfl rfl rfl rfl h3.ids.rd hry2 ?_
        intro by_ hby
        repeat (
          refine WO_dst rfl rfl (by kernel_rfl) (by kernel_rfl) ?_)
        refine Ev_load_pt rfl rfl rfl hby (int_get hvy) (veq_int _ _) ?_
        repeat (
          first
            | refine WO_dst rfl rfl (by kernel_rfl) (by kernel_rfl) ?_
            | refine Ev_max rfl rfl rfl ?_)
        refine Ev_indexAddr (i := ry) (b := bi) (o := 0) (len := st2.ids.length) (cap := .op 1) rfl (congrArg some hvi) rfl rfl rfl hry2 ?_
        repeat (
          refine WO_no rfl rfl ?_)
        refine Ev_store rfl rfl rfl rfl rfl hbi (by show 0 + ry * 1 + 1 ≤ (st2.ids.map intV).length; rw [List.length_map]; omega) (by omega) ?_
        intro S4 n4 q4 f4
        have ok4 : Sok S4 := sok_upd ok3 hbin n4 q4 f4
        have how4 := own_set (x := max vx vy) hry2 q4
        rw [← hvi] at how4
        have h4 := h3.set_ids ok4 (st2.ids.set ry (max vx vy)) how4 (fun c hc => f4 c (fun e => hc (by rw [e]; exact congrArg blkOf hvi)))
        have tbi : y2.tg bi = 4 := h3.tid bi (congrArg blkOf hvi)
        repeat (
          first
            | refine W_seq ?_
            | refine WO_nil ?_
            | refine V_seq ?_
            | refine W_region ?_
            | refine W_ret ?_
            | refine WO_dst rfl rfl (by kernel_rfl) (by kernel_rfl) ?_
            | refine Ev_assign rfl ?_)
        refine V_done rfl rfl ?_
        refine ⟨0, _, y2, rfl, .ok ⟨hia, hib⟩ st1 st2 rx ry vx vy hX1 hX2 hvx hvy key, h4, ⟨by have := foA.le; omega, by omega, foA.tg, fun c hc h5 => ?_⟩⟩
        have ht5 : y2.tg c = 5 := by rw [foA.tg c hc]; exact h5
        rw [f4 c (fun e => by rw [e, tbi] at ht5; cases ht5), f3 c (fun e => by rw [e, tbp] at ht5; cases ht5), foA.fo c hc h5]
    · rw [decide_eq_false hib]
      repeat (
        first
          | refine W_seq ?_
          | refine WO_nil ?_
          | refine V_seq ?_
          | refine W_region ?_
          | refine W_ret ?_
          | refine V_ret ?_
          | refine W_cond_t rfl ?_
          | refine WO_dst rfl rfl (by kernel_rfl) (by kernel_rfl) ?_
          | refine WO_guard_t rfl rfl rfl rfl rfl (by kernel_rfl) (by kernel_rfl) ?_
          | refine Ev_assign rfl ?_
          | refine Ev_pick_f rfl rfl rfl ?_
          | refine Ev_notb rfl ?_)
      refine V_done rfl rfl ?_
      exact ⟨1, st, y, rfl, .arg (fun hh => hib hh.2), h, ⟨Nat.le_refl _, by omega, fun _ _ => rfl, fun _ _ _ => rfl⟩⟩
  · rw [decide_eq_false hia]
    repeat (
      first
        | refine W_seq ?_
        | refine WO_nil ?_
        | refine V_seq ?_
        | refine W_region ?_
        | refine W_ret ?_
        | refine V_ret ?_
        | refine W_cond_t rfl ?_
        | refine WO_dst rfl rfl (by kernel_rfl) (by kernel_rfl) ?_
        | refine WO_guard_f rfl rfl rfl rfl rfl rfl (by kernel_rfl) (by kernel_rfl) ?_
        | refine Ev_move rfl ?_
        | refine Ev_assign rfl ?_
        | refine Ev_pick_t rfl rfl rfl ?_
        | refine Ev_notb rfl ?_)
    refine V_done rfl rfl ?_
    exact ⟨1, st, y, rfl, .arg (fun hh => hia hh.1), h, ⟨Nat.le_refl _, by omega, fun _ _ => rfl, fun _ _ _ => rfl⟩⟩
end Go.Proofs.Ytjbpegggfacojaa
/- GX: a region that draws its order, where reads look at blocks that later loud operations leave alone until one behind which no such read can come. -/

namespace GX
open Go
/-- all operations from one on are behind this one -/
def ZB (ops : List Oper) (z i : Nat) : Bool := (List.range ops.length).all fun j => Nat.blt j z || inM (masks ops []) j i
/-- .. until an operation from which on the blocks are known no more: all from there on are behind each such read -/
def RunZ (X : X) (rec : Rec) (n : Nat) (all : List Oper) (z : Nat) : List Fct → List Oper → Nat → Env → St → Env → St → Prop
  | _, [], _, e, S, e', S' => e' = e ∧ S' = S
  | D, o :: os, i, e, S, e', S' =>
    (wanted all e o = true ∧ ∃ v S1 e1 N, oper X rec e S o.op = some (v, S1) ∧ setDst n e o.dst v = some e1 ∧ rdv (cls X e o.op) v = true ∧
      (cls X e o.op = .read → rdStat (masks all []) (all.map (fun o => sk X o.op)) i = true ∨ ZB all z i = true ∧ FPD X D (masks all []) i e o.op v) ∧
      (isLC (cls X e o.op) = true → i < z → ∀ f ∈ D, S1.h.get f.id = some f.x) ∧
      (∀ f ∈ N, f.src = some i ∧ f.id < S1.n ∧ S1.h.get f.id = some f.x ∧ (isLC (cls X e o.op) = true ∨ cls X e o.op = .alloc ∧ f.id = S.n)) ∧ RunZ X rec n all z (D ++ N) os (i + 1) e1 S1 e' S') ∨
    (wanted all e o = false ∧ ∃ e1, setDst n e o.dst (.tup []) = some e1 ∧ RunZ X rec n all z D os (i + 1) e1 S e' S')
theorem RunZ_le {X : X} {rec rec' : Rec} (hr : RecLe rec rec') {n : Nat} {all : List Oper} {z : Nat} : ∀ {D : List Fct} {os : List Oper} {i : Nat} {e : Env} {S : St} {e' S'}, RunZ X rec n all z D os i e S e' S' → RunZ X rec' n all z D os i e S e' S'
  | _, [], _, _, _, _, _, h => h
  | _, o :: os, i, e, S, e', S', h => by
    unfold RunZ at h ⊢
    rcases h with ⟨hw, v, S1, e1, N, h1, h2, h3, h4, h5, h6, h7⟩ | ⟨hw, e1, h1, h2⟩
    · exact .inl ⟨hw, v, S1, e1, N, oper_le hr h1, h2, h3, h4, h5, h6, RunZ_le hr h7⟩
    · exact .inr ⟨hw, e1, h1, RunZ_le hr h2⟩
theorem RunZ_n {X : X} {rec : Rec} {n : Nat} {all : List Oper} {z : Nat} : ∀ {D : List Fct} {os : List Oper} {i : Nat} {e : Env} {S : St} {e' S'}, RunZ X rec n all z D os i e S e' S' → S.n ≤ S'.n
  | _, [], _, _, _, _, _, h => by unfold RunZ at h; rw [h.2]; exact Nat.le_refl _
  | _, o :: os, i, e, S, e', S', h => by
    unfold RunZ at h
    rcases h with ⟨_, v, S1, e1, N, h1, _, _, _, _, _, h6⟩ | ⟨_, e1, _, h2⟩
    · exact Nat.le_trans (oper_n h1) (RunZ_n h6)
    · exact RunZ_n h2
/-- a fact, and what the plan has put down -/
def FZ (ms : List Nat) (z : Nat) (N0 : Nat) (h0 : Tr AB) (acc : List R) (f : Fct) : Prop :=
  (f.src = none ∧ f.id < N0 ∧ h0.get f.id = some f.x ∧ ∀ (k : Nat) (r : R) h' m, acc[k]? = some r → r.k = .ld h' m → k < z → h'.get f.id = some f.x) ∨
  ∃ j r, f.src = some j ∧ acc[j]? = some r ∧ ((r.k = .mk f.x ∧ r.n0 = f.id) ∨ (∃ h' m, r.k = .ld h' m ∧ h'.get f.id = some f.x ∧ f.id < m ∧ ∀ (k : Nat) (r : R) b, acc[k]? = some r → r.k = .mk b → k < j → inM ms j k = true)) ∧
    ∀ (k : Nat) (r : R) h' m, acc[k]? = some r → r.k = .ld h' m → j < k → k < z → h'.get f.id = some f.x
theorem FZ_snoc {ms : List Nat} {z : Nat} {N0 : Nat} {h0 : Tr AB} {acc : List R} {f : Fct} {r : R} (h : FZ ms z N0 h0 acc f) (hr : ∀ h' m, r.k = .ld h' m → acc.length < z → h'.get f.id = some f.x) : FZ ms z N0 h0 (acc ++ [r]) f := by
  have key : ∀ (k : Nat) (r' : R), (acc ++ [r])[k]? = some r' → acc[k]? = some r' ∨ (k = acc.length ∧ r' = r) := by
    intro k r' hk
    by_cases hlt : k < acc.length
    · rw [List.getElem?_append_left hlt] at hk; exact .inl hk
    · have h2 : k = acc.length := by
        have := (List.getElem?_eq_some_iff.1 hk).1
        simp at this; omega
      subst h2
      simp at hk; exact .inr ⟨rfl, hk.symm⟩
  rcases h with ⟨h1, h2, h3, h4⟩ | ⟨j, r0, h1, h2, h3, h4⟩
  · refine .inl ⟨h1, h2, h3, fun k r' h' m hk hl hz => ?_⟩
    rcases key k r' hk with hk | ⟨hkk, rfl⟩
    · exact h4 k r' h' m hk hl hz
    · exact hr h' m hl (hkk ▸ hz)
  · have hj : j < acc.length := (List.getElem?_eq_some_iff.1 h2).1
    refine .inr ⟨j, r0, h1, by rw [List.getElem?_append_left hj]; exact h2, ?_, ?_⟩
    · rcases h3 with h3 | ⟨h', m, a1, a2, a3, a4⟩
      · exact .inl h3
      · refine .inr ⟨h', m, a1, a2, a3, ?_⟩
        intro k r' b hk hb hlt
        rcases key k r' hk with hk | ⟨hk, _⟩
        · exact a4 k r' b hk hb hlt
        · omega
    · intro k r' h' m hk hl hlt hz
      rcases key k r' hk with hk | ⟨hkk, rfl⟩
      · exact h4 k r' h' m hk hl hlt hz
      · exact hr h' m hl (hkk ▸ hz)
theorem FZ_get {ms : List Nat} {z : Nat} {N0 i : Nat} {h0 : Tr AB} {recs : List R} {f : Fct} {pf : List Nat} (hz : ∀ j ∈ pf, j < z) (hbd : ∀ (k : Nat) (r : R) b, recs[k]? = some r → r.k = .mk b → N0 ≤ r.n0 ∧ r.n0 < 1000000000)
    (hmono : ∀ (q q' : Nat) (r r' : R), q < q' → recs[q]? = some r → recs[q']? = some r' → r.n1 ≤ r'.n0) (hpf : pf.Pairwise (· < ·)) (hld : ∀ j ∈ pf, ∃ r, recs[j]? = some r ∧ r.isL) (hlt : ∀ j k, inM ms j k = true → k < j)
    (h : FZ ms z N0 h0 recs f) (hu : ∀ j, f.src = some j → inM ms i j = true ∧ ((∃ r, recs[j]? = some r ∧ r.isL) → j ∈ pf)) : (gh ms pf (inM ms i) recs 0 (hOf recs h0 pf)).get f.id = some f.x := by
  have hbd' := fun k r b h1 h2 => (hbd k r b h1 h2).2
  rcases h with ⟨_, h2, h3, h4⟩ | ⟨j, r, h1, h2, h3, h4⟩
  · rw [gh_miss hbd' (fun k r b a1 a2 _ _ => by have := (hbd k r b a1 a2).1; omega)]
    refine hOf_has (a := 0) hpf (fun k hk => ?_) (.inl ⟨h3, fun _ _ => Nat.zero_le _⟩)
    obtain ⟨r, b1, h', m, b2⟩ := hld k hk
    exact ⟨r, h', m, b1, b2, fun _ => h4 k r h' m b1 b2 (hz k hk)⟩
  · obtain ⟨u1, u2⟩ := hu j h1
    rcases h3 with ⟨g1, g2⟩ | ⟨h', m, g1, g2, g3, g4⟩
    · by_cases hun : Unm ms pf j
      · rw [← g2]
        exact gh_hit hbd' hmono h2 g1 (by rw [Nat.zero_add]; exact u1) (by rw [Nat.zero_add]; exact hun)
      · have huni : ∀ (k : Nat) (r' : R) b, recs[k]? = some r' → r'.k = .mk b → r'.n0 = f.id → k = j := by
          intro k r' b a1 a2 a3
          rcases Nat.lt_trichotomy k j with hk | hk | hk
          · have := hmono k j r' r hk a1 h2
            simp [R.n1, a2] at this; omega
          · exact hk
          · have := hmono j k r r' hk h2 a1
            simp [R.n1, g1] at this; omega
        rw [gh_miss hbd' (fun k r' b a1 a2 _ a4 a5 => by
          have := huni k r' b a1 a2 a5; subst this
          rw [Nat.zero_add] at a4; exact hun a4)]
        have hex : ∃ q ∈ pf, j + 1 ≤ q := by
          refine Classical.byContradiction fun hne => hun fun q hq => ?_
          cases hqq : inM ms q j with
          | false => rfl
          | true => exact absurd ⟨q, hq, hlt q j hqq⟩ hne
        refine hOf_has (a := j + 1) hpf (fun k hk => ?_) (.inr hex)
        obtain ⟨r', b1, h', m, b2⟩ := hld k hk
        exact ⟨r', h', m, b1, b2, fun hl => h4 k r' h' m b1 b2 hl (hz k hk)⟩
    · have hjp := u2 ⟨r, h2, h', m, g1⟩
      rw [gh_miss hbd' (fun k r' b a1 a2 _ a4 a5 => by
        rcases Nat.lt_trichotomy k j with hk | hk | hk
        · have e1 := g4 k r' b a1 a2 hk
          rw [Nat.zero_add] at a4
          have e2 := a4 j hjp
          rw [e1] at e2; cases e2
        · subst hk; rw [h2] at a1; cases a1; rw [g1] at a2; cases a2
        · have := hmono j k r r' hk h2 a1
          simp [R.n1, g1] at this; omega)]
      refine hOf_has (a := j) hpf (fun k hk => ?_) (.inr ⟨j, hjp, Nat.le_refl _⟩)
      obtain ⟨r', b1, h'', m', b2⟩ := hld k hk
      refine ⟨r', h'', m', b1, b2, fun hl => ?_⟩
      rcases Nat.lt_or_ge j k with hk2 | hk2
      · exact h4 k r' h'' m' b1 b2 hk2 (hz k hk)
      · have : k = j := by omega
        subst this
        rw [h2] at b1; cases b1; rw [g1] at b2; cases b2; exact g2
section
variable {X : X} {rec : Rec} {n : Nat} {ops : List Oper} {e : Env} {h0 : Tr AB}
def RFZ (X : _root_.GX.X) (n : Nat) (ops : List Oper) (z : Nat) (N0 : Nat) (e : Env) (h0 : Tr AB) (recs : List R) (lds : List Nat) (i : Nat) (o : Oper) (r : R) : Prop :=
  r.k = .rd → ∃ l1 l2 ei, lds = l1 ++ l2 ∧ (∀ j ∈ l1, j < i) ∧ (∀ j ∈ l2, i < j) ∧ (∀ t ∈ looks ops o, lookT (masks ops []) ops (recs.take i) e i t = some (ei.at t)) ∧ (∀ t ∈ looks ops o, t < n) ∧
    sk X o.op = .read ∧ veq r.v r.v = true ∧ ((rdStat (masks ops []) (ops.map (fun o => sk X o.op)) i = true ∧ readOp X ei (gh (masks ops []) l1 (fun _ => true) (recs.take i) 0 (hOf (recs.take i) h0 l1)) o.op = some r.v) ∨ ∃ D, ZB ops z i = true ∧ FPD X D (masks ops []) i ei o.op r.v ∧ ∀ f ∈ D, FZ (masks ops []) z N0 h0 recs f)
theorem plan_seqZ {z N0 : Nat} (hn : n < 1000001) (hE : edgesOk ops 0 = true) (hD : dstsOk n ops = true) (hK : seqB1 ops (masks ops []) (ops.map (fun o => sk X o.op)) n ops 0 = true) :
    ∀ (D : List Fct) (os pre : List Oper) (acc : List R) (lds : List Nat) (S : St) (ei : Env) (e' : Env) (S' : St), ops = pre ++ os → acc.length = pre.length → putAll n pre acc e = some ei →
    (∀ (k : Nat) (r : R) b, acc[k]? = some r → r.k = .mk b → (ops.map (fun o => sk X o.op)).getD k .pure = .alloc ∧ N0 ≤ r.n0 ∧ r.n0 < 1000000000) →
    (∀ f ∈ D, FZ (masks ops []) z N0 h0 acc f) →
    (∀ (k : Nat) (r : R), acc[k]? = some r → r.isL → k ∈ lds) → (∀ (q q' : Nat) (r r' : R), q < q' → acc[q]? = some r → acc[q']? = some r' → r.n1 ≤ r'.n0) → (∀ (q : Nat) (r : R), acc[q]? = some r → r.n1 ≤ S.n) →
    N0 ≤ S.n →
    (∀ j ∈ lds, j < pre.length ∧ isLC ((ops.map (fun o => sk X o.op)).getD j .pure) = true ∧ ∃ r, acc[j]? = some r ∧ r.isL) →
    lds.Pairwise (· < ·) →
    S.h = gh (masks ops []) lds (fun _ => true) acc 0 (hOf acc h0 lds) →
    RunZ X rec n ops z D os pre.length ei S e' S' →
    ∃ tl l2, plan X rec n ops (masks ops []) e os pre.length acc lds (hOf acc h0 lds) S.n = some (acc ++ tl, lds ++ l2, S'.n) ∧
      (∀ j ∈ l2, pre.length ≤ j ∧ isLC ((ops.map (fun o => sk X o.op)).getD j .pure) = true) ∧ putAll n ops (acc ++ tl) e = some e' ∧
      S'.h = gh (masks ops []) (lds ++ l2) (fun _ => true) (acc ++ tl) 0 (hOf (acc ++ tl) h0 (lds ++ l2)) ∧ tl.length = os.length ∧ (lds ++ l2).Pairwise (· < ·) ∧ (∀ (k : Nat) (r : R) b, (acc ++ tl)[k]? = some r → r.k = .mk b → (ops.map (fun o => sk X o.op)).getD k .pure = .alloc ∧ N0 ≤ r.n0 ∧ r.n0 < 1000000000) ∧ (∀ f ∈ D, FZ (masks ops []) z N0 h0 (acc ++ tl) f) ∧ (∀ (k : Nat) (r : R), (acc ++ tl)[k]? = some r → r.isL → k ∈ lds ++ l2) ∧ (∀ (q q' : Nat) (r r' : R), q < q' → (acc ++ tl)[q]? = some r → (acc ++ tl)[q']? = some r' → r.n1 ≤ r'.n0) ∧ (∀ j ∈ lds ++ l2, ∃ r, (acc ++ tl)[j]? = some r ∧ r.isL) ∧
      ∀ (k : Nat) (o : Oper) (r : R), os[k]? = some o → tl[k]? = some r → RFZ X n ops z N0 e h0 (acc ++ tl) (lds ++ l2) (pre.length + k) o r
  | D, [], pre, acc, lds, S, ei, e', S', hp, hl, hput, hmk, hF, hal, hmo, _, _, hld, hpw, hh, h => by
    unfold RunZ at h
    obtain ⟨rfl, rfl⟩ := h
    refine ⟨[], [], ?_, fun j hj => by simp at hj, ?_, ?_, rfl, by simpa using hpw, by simpa using hmk, by simpa using hF, by simpa using hal, by simpa using hmo, fun j hj => by simpa using (hld j (by simpa using hj)).2.2, fun k o r hk => by simp at hk⟩
    · simp [plan]
    · simp only [List.append_nil] at hp ⊢; rw [hp]; exact hput
    · simpa using hh
  | D, o :: os, pre, acc, lds, S, ei, e', S', hp, hl, hput, hmk, hF, hal, hmo, hmn, hN, hld, hpw, hh, h => by
    have ho : ops[pre.length]? = some o := by rw [hp]; simp
    have hsk : (ops.map (fun o => sk X o.op)).getD pre.length .pure = sk X o.op := by
      rw [List.getD_eq_getElem?_getD, List.getElem?_map, ho]; rfl
    obtain ⟨hk1, hk2⟩ := seqB1_at hK pre.length o ho
    simp only [Nat.zero_add] at hk1 hk2
    rw [hsk] at hk2
    have hlk := looks_seq hn hE hD hp hl hput hk1
    obtain ⟨re, hre, hag⟩ := renv_good (es := ei) hn hlk
    have hoe : OE re ei o.op := OE_of hag
    have hp' : ops = (pre ++ [o]) ++ os := by rw [hp]; simp
    -- what goes on behind
    have fin : ∀ (r : R) (ldn : List Nat) (S1 : St) (e1 : Env) (N : List Fct), setDst n ei o.dst r.v = some e1 → (∀ b, r.k = .mk b → sk X o.op = .alloc ∧ N0 ≤ r.n0 ∧ r.n0 < 1000000000) → (∀ h' m, r.k = .ld h' m → pre.length < z → ∀ f ∈ D, h'.get f.id = some f.x) → (∀ f ∈ N, FZ (masks ops []) z N0 h0 (acc ++ [r]) f) → r.n0 = S.n → r.n1 = S1.n → S.n ≤ S1.n → N0 ≤ S1.n → (ldn = [] ∧ ¬ r.isL ∨ ldn = [pre.length] ∧ isLC (sk X o.op) = true ∧ r.isL) →
        S1.h = gh (masks ops []) (lds ++ ldn) (fun _ => true) (acc ++ [r]) 0 (hOf (acc ++ [r]) h0 (lds ++ ldn)) →
        (r.k = .rd → ldn = [] ∧ sk X o.op = .read ∧ veq r.v r.v = true ∧ ((rdStat (masks ops []) (ops.map (fun o => sk X o.op)) pre.length = true ∧ readOp X ei S.h o.op = some r.v) ∨ ZB ops z pre.length = true ∧ FPD X D (masks ops []) pre.length ei o.op r.v)) →
        RunZ X rec n ops z (D ++ N) os (pre.length + 1) e1 S1 e' S' →
        plan X rec n ops (masks ops []) e (o :: os) pre.length acc lds (hOf acc h0 lds) S.n = plan X rec n ops (masks ops []) e os (pre.length + 1) (acc ++ [r]) (lds ++ ldn) (hOf (acc ++ [r]) h0 (lds ++ ldn)) S1.n →
        ∃ tl l2, plan X rec n ops (masks ops []) e (o :: os) pre.length acc lds (hOf acc h0 lds) S.n = some (acc ++ tl, lds ++ l2, S'.n) ∧
          (∀ j ∈ l2, pre.length ≤ j ∧ isLC ((ops.map (fun o => sk X o.op)).getD j .pure) = true) ∧ putAll n ops (acc ++ tl) e = some e' ∧
          S'.h = gh (masks ops []) (lds ++ l2) (fun _ => true) (acc ++ tl) 0 (hOf (acc ++ tl) h0 (lds ++ l2)) ∧ tl.length = (o :: os).length ∧ (lds ++ l2).Pairwise (· < ·) ∧ (∀ (k : Nat) (r : R) b, (acc ++ tl)[k]? = some r → r.k = .mk b → (ops.map (fun o => sk X o.op)).getD k .pure = .alloc ∧ N0 ≤ r.n0 ∧ r.n0 < 1000000000) ∧ (∀ f ∈ D, FZ (masks ops []) z N0 h0 (acc ++ tl) f) ∧ (∀ (k : Nat) (r : R), (acc ++ tl)[k]? = some r → r.isL → k ∈ lds ++ l2) ∧ (∀ (q q' : Nat) (r r' : R), q < q' → (acc ++ tl)[q]? = some r → (acc ++ tl)[q']? = some r' → r.n1 ≤ r'.n0) ∧ (∀ j ∈ lds ++ l2, ∃ r, (acc ++ tl)[j]? = some r ∧ r.isL) ∧
          ∀ (k : Nat) (o' : Oper) (r : R), (o :: os)[k]? = some o' → tl[k]? = some r → RFZ X n ops z N0 e h0 (acc ++ tl) (lds ++ l2) (pre.length + k) o' r := by
      intro r ldn S1 e1 N hset hmk1 hlb1 hNf hr0 hr1 hnS1 hN1 hldn hh1 hrd hrun hplan
      have hlast : ∀ (k : Nat) (r' : R), (acc ++ [r])[k]? = some r' → acc[k]? = some r' ∨ (k = acc.length ∧ r' = r) := by
        intro k r' hk
        by_cases hlt : k < acc.length
        · rw [List.getElem?_append_left hlt] at hk; exact .inl hk
        · have h2 : k = acc.length := by
            have := (List.getElem?_eq_some_iff.1 hk).1
            simp at this; omega
          subst h2
          simp at hk; exact .inr ⟨rfl, hk.symm⟩
      obtain ⟨tl, l2, p1, p2, p3, p4, p5, ppw, pmk, pF, pal, pmo, pld, p6⟩ := plan_seqZ hn hE hD hK (D ++ N) os (pre ++ [o]) (acc ++ [r]) (lds ++ ldn) S1 e1 e' S' hp' (by simp [hl]) (putAll_snoc hput hset)
        (by
          intro k r' b hk hb
          by_cases hlt : k < acc.length
          · rw [List.getElem?_append_left hlt] at hk; exact hmk k r' b hk hb
          · have : k = acc.length := by
              have := (List.getElem?_eq_some_iff.1 hk).1
              simp at this; omega
            subst this
            simp at hk; subst hk
            rw [hl, hsk]; exact hmk1 b hb)
        (by
          intro f hf
          rcases List.mem_append.1 hf with hf | hf
          · exact FZ_snoc (hF f hf) (fun h' m hk hz => hlb1 h' m hk (hl ▸ hz) f hf)
          · exact hNf f hf)
        (by
          intro k r' hk hkl
          rcases hlast k r' hk with hk | ⟨rfl, rfl⟩
          · exact List.mem_append_left _ (hal k r' hk hkl)
          · rcases hldn with ⟨_, hq⟩ | ⟨hq, _⟩
            · exact absurd hkl hq
            · rw [hq, hl]; simp)
        (by
          intro q q' r1 r2 hlt h1 h2
          rcases hlast q' r2 h2 with h2 | ⟨rfl, rfl⟩
          · have hlt2 := (List.getElem?_eq_some_iff.1 h2).1
            rcases hlast q r1 h1 with h1 | ⟨rfl, rfl⟩
            · exact hmo q q' r1 r2 hlt h1 h2
            · omega
          · rcases hlast q r1 h1 with h1 | ⟨rfl, rfl⟩
            · rw [hr0]; exact hmn q r1 h1
            · omega)
        (by
          intro q r1 h1
          rcases hlast q r1 h1 with h1 | ⟨rfl, rfl⟩
          · have h2 := hmn q r1 h1
            have h3 : r.n0 ≤ r.n1 := by
              rw [hr1, hr0]; exact hnS1
            omega
          · omega)
        hN1
        (by
          intro j hj
          rw [List.mem_append] at hj
          rcases hj with hj | hj
          · obtain ⟨g1, g2, r', g3, g4⟩ := hld j hj; exact ⟨by simp; omega, g2, r', by rw [List.getElem?_append_left (List.getElem?_eq_some_iff.1 g3).1]; exact g3, g4⟩
          · rcases hldn with ⟨hq, _⟩ | ⟨hq, hq2, hq3⟩
            · rw [hq] at hj; simp at hj
            · rw [hq] at hj; simp at hj; subst hj; exact ⟨by simp, by rw [hsk]; exact hq2, r, by rw [← hl]; simp, hq3⟩)
        (by
          rw [List.pairwise_append]
          refine ⟨hpw, ?_, fun a ha b hb => ?_⟩
          · rcases hldn with ⟨hq, _⟩ | ⟨hq, _⟩ <;> rw [hq] <;> simp
          · rcases hldn with ⟨hq, _⟩ | ⟨hq, _⟩
            · rw [hq] at hb; simp at hb
            · rw [hq] at hb; simp at hb; subst hb; exact (hld a ha).1)
        hh1 (by rw [List.length_append, List.length_singleton]; exact hrun)
      rw [List.length_append, List.length_singleton] at p1
      refine ⟨r :: tl, ldn ++ l2, ?_, ?_, ?_, ?_, by simp [p5], by simpa using ppw, by simpa using pmk, fun f hf => by simpa using pF f (List.mem_append_left _ hf), by simpa using pal, by simpa using pmo, by simpa using pld, ?_⟩
      · rw [hplan, p1]; simp
      · intro j hj
        rw [List.mem_append] at hj
        rcases hj with hj | hj
        · rcases hldn with ⟨hq, _⟩ | ⟨hq, hq2, _⟩
          · rw [hq] at hj; simp at hj
          · rw [hq] at hj; simp at hj; subst hj; exact ⟨Nat.le_refl _, by rw [hsk]; exact hq2⟩
        · have h1 := (p2 j hj).1; simp only [List.length_append, List.length_singleton] at h1; exact ⟨by omega, (p2 j hj).2⟩
      · rw [← p3]; simp
      · rw [p4]; simp
      · intro k o' r' hk hr'
        cases k with
        | zero =>
          simp at hk hr'; subst hk; subst hr'
          intro hrk
          obtain ⟨q1, q2, q4, q3⟩ := hrd hrk
          subst q1
          refine ⟨lds, l2, ei, by simp, fun j hj => by have := (hld j hj).1; simpa using this, fun j hj => by have := (p2 j hj).1; simp only [List.length_append, List.length_singleton] at this; omega, ?_, fun t ht => (hlk t ht).1, q2, q4, q3.imp (fun q => ⟨by simpa using q.1, ?_⟩) (fun q => ⟨D, by simpa using q.1, by simpa using q.2, fun f hf => by simpa using pF f (List.mem_append_left _ hf)⟩)⟩
          · intro t ht
            have : (acc ++ r :: tl).take (pre.length + 0) = acc := by rw [Nat.add_zero, ← hl]; simp
            rw [this]
            exact (hlk t ht).2
          · have : (acc ++ r :: tl).take (pre.length + 0) = acc := by rw [Nat.add_zero, ← hl]; simp
            rw [this, ← hh]; exact q.2
        | succ k =>
          have := p6 k o' r' (by simpa using hk) (by simpa using hr')
          simp only [List.length_append, List.length_singleton, List.append_assoc, List.singleton_append] at this
          rw [show pre.length + (k + 1) = pre.length + 1 + k by omega]
          exact this
    have hwc : wanted ops re o = wanted ops ei o := wanted_congr hag
    have hldlt : ∀ j ∈ lds, j < (acc).length := fun j hj => by rw [hl]; exact (hld j hj).1
    have hOfs : ∀ r : R, hOf (acc ++ [r]) h0 lds = hOf acc h0 lds := fun r => hOf_append hldlt
    have hgs : ∀ r : R, (∀ b, r.k ≠ .mk b) → gh (masks ops []) lds (fun _ => true) (acc ++ [r]) 0 (hOf (acc ++ [r]) h0 lds) = S.h := by
      intro r hr
      rw [hOfs, gh_snoc, ← hh]
      unfold ghStep
      split
      · rename_i b hb; exact absurd hb (hr b)
      · rfl
    have hgc : (∀ (k : Nat), k < pre.length → (ops.map (fun o => sk X o.op)).getD k .pure = .alloc → inM (masks ops []) pre.length k = true) → gh (masks ops []) lds (inM (masks ops []) pre.length) acc 0 (hOf acc h0 lds) = S.h := by
      intro hq
      rw [hh]
      apply gh_congr
      intro k r b h1 h2
      have hkl : k < pre.length := by have := (List.getElem?_eq_some_iff.1 h1).1; omega
      simp only [Nat.zero_add]
      exact hq k hkl (hmk k r b h1 h2).1
    have hzlt : ZB ops z pre.length = true → pre.length < z := by
      intro hzb
      have hlo : pre.length < ops.length := (List.getElem?_eq_some_iff.1 ho).1
      have h1 := List.all_eq_true.1 hzb pre.length (by simpa using hlo)
      rw [Bool.or_eq_true] at h1
      rcases h1 with h1 | h1
      · rw [nblt, decide_eq_true_eq] at h1; exact h1
      · have := inM_lt hE _ _ h1; omega
    have hgB : pre.length < z → ∀ f ∈ D, (∀ j, f.src = some j → inM (masks ops []) pre.length j = true) → (gh (masks ops []) lds (inM (masks ops []) pre.length) acc 0 (hOf acc h0 lds)).get f.id = some f.x := by
      intro hzz f hf hu
      refine FZ_get (fun j hj => Nat.lt_trans (hld j hj).1 hzz) (fun k r b h1 h2 => (hmk k r b h1 h2).2) hmo hpw (fun j hj => (hld j hj).2.2) (fun j k => inM_lt hE j k) (hF f hf) (fun j hj => ⟨hu j hj, fun ⟨r, h1, h2⟩ => hal j r h1 h2⟩)
    unfold RunZ at h
    rcases h with ⟨hw, v, S1, e1, N, hop, he1, hb, hrdc, hlc, hNf, h⟩ | ⟨hw, e1, he1, h⟩
    case inr =>
      refine fin ⟨.tup [], S.n, .val⟩ [] S e1 [] he1 (fun b hb => by cases hb) (fun h' m hb => by cases hb) (fun f hf => by cases hf) rfl rfl (Nat.le_refl _) hN (.inl ⟨rfl, fun ⟨_, _, q⟩ => by cases q⟩) ?_ (fun hb => by cases hb) (by rw [List.append_nil]; exact h) ?_
      · rw [List.append_nil, hgs _ (fun b hb => by cases hb)]
      · conv => lhs; unfold plan
        rw [hre]; dsimp only; rw [hwc, hw]; simp only [cond_false, List.append_nil]
        rw [hOfs]
    case inl =>
      have hck := sk_ok hop
      have hclr : cls X re o.op = cls X ei o.op := cls_congr hoe
      have hN1 : N0 ≤ S1.n := Nat.le_trans hN (oper_n hop)
      have hloud : isLC (cls X ei o.op) = true →
        ∃ tl l2, plan X rec n ops (masks ops []) e (o :: os) pre.length acc lds (hOf acc h0 lds) S.n = some (acc ++ tl, lds ++ l2, S'.n) ∧
          (∀ j ∈ l2, pre.length ≤ j ∧ isLC ((ops.map (fun o => sk X o.op)).getD j .pure) = true) ∧ putAll n ops (acc ++ tl) e = some e' ∧
          S'.h = gh (masks ops []) (lds ++ l2) (fun _ => true) (acc ++ tl) 0 (hOf (acc ++ tl) h0 (lds ++ l2)) ∧ tl.length = (o :: os).length ∧ (lds ++ l2).Pairwise (· < ·) ∧ (∀ (k : Nat) (r : R) b, (acc ++ tl)[k]? = some r → r.k = .mk b → (ops.map (fun o => sk X o.op)).getD k .pure = .alloc ∧ N0 ≤ r.n0 ∧ r.n0 < 1000000000) ∧ (∀ f ∈ D, FZ (masks ops []) z N0 h0 (acc ++ tl) f) ∧ (∀ (k : Nat) (r : R), (acc ++ tl)[k]? = some r → r.isL → k ∈ lds ++ l2) ∧ (∀ (q q' : Nat) (r r' : R), q < q' → (acc ++ tl)[q]? = some r → (acc ++ tl)[q']? = some r' → r.n1 ≤ r'.n0) ∧ (∀ j ∈ lds ++ l2, ∃ r, (acc ++ tl)[j]? = some r ∧ r.isL) ∧
          ∀ (k : Nat) (o' : Oper) (r : R), (o :: os)[k]? = some o' → tl[k]? = some r → RFZ X n ops z N0 e h0 (acc ++ tl) (lds ++ l2) (pre.length + k) o' r := by
        intro hlc0
        have hs : cls X ei o.op = sk X o.op := by
          rcases hck with hq | hq
          · rw [hq] at hlc0; cases hlc0
          · exact hq
        have hlc1 := hlc hlc0
        rw [hs] at hlc0
        have hbef : bef (masks ops []) (ops.map (fun o => sk X o.op)) pre.length isAll = true := hk2 hlc0
        have hg := hgc (fun k hk hq => bef_at hbef hk (by rw [hq]; rfl))
        have hall : lds.all (fun j => inM (masks ops []) pre.length j) = true := by
          apply List.all_eq_true.2
          intro j hj
          obtain ⟨q1, q2, -⟩ := hld j hj
          exact bef_at hbef q1 (by cases hq : (ops.map (fun o => sk X o.op)).getD j .pure <;> rw [hq] at q2 <;> first | rfl | cases q2)
        have hop' : oper X rec re { h := gh (masks ops []) lds (inM (masks ops []) pre.length) acc 0 (hOf acc h0 lds), n := S.n } o.op = some (v, S1) := by
          rw [hg, oper_congr hoe]; exact hop
        refine fin ⟨v, S.n, .ld S1.h S1.n⟩ [pre.length] S1 e1 N he1 (fun b hb => by cases hb) (fun h' m hb => by cases hb; exact hlc1) (fun f hf => ?_) rfl rfl (oper_n hop) hN1 (.inr ⟨rfl, hlc0, _, _, rfl⟩) ?_ (fun hb => by cases hb) h ?_
        · obtain ⟨n1, n2, n3, _⟩ := hNf f hf
          refine .inr ⟨pre.length, ⟨v, S.n, .ld S1.h S1.n⟩, n1, by rw [← hl]; simp, .inr ⟨_, _, rfl, n3, n2, ?_⟩, ?_⟩
          · intro k r b hk hb hlt
            rw [List.getElem?_append_left (by omega)] at hk
            exact bef_at hbef hlt (by rw [(hmk k r b hk hb).1]; rfl)
          · intro k r h' m hk _ hlt _
            have := (List.getElem?_eq_some_iff.1 hk).1
            simp at this; omega
        · rw [gh_snoc]
          have : hOf (acc ++ [(⟨v, S.n, .ld S1.h S1.n⟩ : R)]) h0 (lds ++ [pre.length]) = S1.h := hOf_snoc (r := ⟨v, S.n, .ld S1.h S1.n⟩) (m := S1.n) (by rw [← hl]; simp) rfl
          rw [this, gh_had (fun q r b h1 h2 => by
            have hkl : q < pre.length := by have := (List.getElem?_eq_some_iff.1 h1).1; omega
            rw [Nat.zero_add]
            exact bef_at hbef hkl (by rw [(hmk q r b h1 h2).1]; rfl))]
          rfl
        · conv => lhs; unfold plan
          rw [hre]; dsimp only; rw [hwc, hw]; simp only [cond_true]
          have : hOf (acc ++ [(⟨v, S.n, .ld S1.h S1.n⟩ : R)]) h0 (lds ++ [pre.length]) = S1.h := hOf_snoc (r := ⟨v, S.n, .ld S1.h S1.n⟩) (m := S1.n) (by rw [← hl]; simp) rfl
          rw [hclr, hs]
          cases hskc : sk X o.op with
          | loud => dsimp only; rw [hall]; simp only [cond_true]; rw [hop']; dsimp only; rw [this]
          | call => dsimp only; rw [hall]; simp only [cond_true]; rw [hop']; dsimp only; rw [this]
          | _ => rw [hskc] at hlc0; cases hlc0
      cases hc : cls X ei o.op with
      | loud => exact hloud (by rw [hc]; rfl)
      | call => exact hloud (by rw [hc]; rfl)
      | pure =>
        unfold oper at hop
        rw [hc] at hop
        dsimp only at hop
        split at hop
        · cases hop
        · rename_i v' hv
          cases hop
          have hN0 : N = [] := by
            cases N with
            | nil => rfl
            | cons f N => exfalso; have := (hNf f (List.mem_cons_self ..)).2.2.2; rw [hc] at this; exact absurd this (by rintro (q | ⟨q, _⟩) <;> cases q)
          subst hN0
          refine fin ⟨v, S.n, .val⟩ [] S e1 [] he1 (fun b hb => by cases hb) (fun h' m hb => by cases hb) (fun f hf => by cases hf) rfl rfl (Nat.le_refl _) hN (.inl ⟨rfl, fun ⟨_, _, q⟩ => by cases q⟩) ?_ (fun hb => by cases hb) h ?_
          · rw [List.append_nil, hgs _ (fun b hb => by cases hb)]
          · conv => lhs; unfold plan
            rw [hre]; dsimp only; rw [hwc, hw]; simp only [cond_true, List.append_nil]
            rw [hclr, hc]; dsimp only; rw [pureOp_congr hoe, hv]; dsimp only; rw [hOfs]
      | read =>
        have hs : sk X o.op = .read := by
          rcases hck with hq | hq
          · rw [hq] at hc; cases hc
          · rw [← hq]; exact hc
        have hrdc' := hrdc hc
        unfold oper at hop
        rw [hc] at hop
        dsimp only at hop
        split at hop
        · cases hop
        · rename_i v' hv
          cases hop
          rw [hc] at hb
          have hrd2 : readOp X ei (gh (masks ops []) lds (inM (masks ops []) pre.length) acc 0 (hOf acc h0 lds)) o.op = some v := by
            rcases hrdc' with hst | hfp
            · have hst' := hst
              unfold rdStat at hst'
              rw [Bool.and_eq_true] at hst'
              rw [hgc (fun k hk hq => bef_at hst'.1 hk (by rw [hq]; rfl))]; exact hv
            · exact hfp.2 _ (hgB (hzlt hfp.1))
          have hN0 : N = [] := by
            cases N with
            | nil => rfl
            | cons f N => exfalso; have := (hNf f (List.mem_cons_self ..)).2.2.2; rw [hc] at this; exact absurd this (by rintro (q | ⟨q, _⟩) <;> cases q)
          subst hN0
          refine fin ⟨v, S.n, .rd⟩ [] S e1 [] he1 (fun b hb => by cases hb) (fun h' m hb => by cases hb) (fun f hf => by cases hf) rfl rfl (Nat.le_refl _) hN (.inl ⟨rfl, fun ⟨_, _, q⟩ => by cases q⟩) ?_ (fun _ => ⟨rfl, hs, hb, hrdc'.imp (fun q => ⟨q, hv⟩) (fun q => q)⟩) h ?_
          · rw [List.append_nil, hgs _ (fun b hb => by cases hb)]
          · conv => lhs; unfold plan
            rw [hre]; dsimp only; rw [hwc, hw]; simp only [cond_true, List.append_nil]
            rw [hclr, hc]; dsimp only; rw [readOp_congr hoe, hrd2]; dsimp only; rw [hOfs]
      | alloc =>
        have hs : sk X o.op = .alloc := by
          rcases hck with hq | hq
          · rw [hq] at hc; cases hc
          · rw [← hq]; exact hc
        unfold oper at hop
        rw [hc] at hop
        dsimp only at hop
        cases hlt : Nat.blt S.n 1000000000 with
        | false => rw [hlt] at hop; cases hop
        | true =>
          rw [hlt] at hop
          simp only [cond_true] at hop
          have hlt2 : S.n < 1000000000 := by rw [nblt, decide_eq_true_eq] at hlt; exact hlt
          split at hop
          · cases hop
          · rename_i b' v' hv
            cases hop
            refine fin ⟨v, S.n, .mk b'⟩ [] (S.new b') e1 N he1 (fun _ _ => ⟨hs, hN, hlt2⟩) (fun h' m hb => by cases hb) (fun f hf => ?_) rfl rfl (Nat.le_succ _) hN1 (.inl ⟨rfl, fun ⟨_, _, q⟩ => by cases q⟩) ?_ (fun hb => by cases hb) h ?_
            · obtain ⟨n1, _, n3, n4⟩ := hNf f hf
              rw [hc] at n4
              rcases n4 with q | ⟨_, q⟩
              · cases q
              have hx : f.x = b' := by
                have h5 : (S.new b').h.get S.n = some b' := by unfold St.new; dsimp only; rw [Tr.get_set 40 _ _ _ _ (by omega), if_pos rfl]
                rw [q, h5] at n3; cases n3; rfl
              refine .inr ⟨pre.length, ⟨v, S.n, .mk b'⟩, n1, by rw [← hl]; simp, .inl ⟨by rw [hx], q.symm⟩, ?_⟩
              intro k r h' m hk _ hlt _
              have := (List.getElem?_eq_some_iff.1 hk).1
              simp at this; omega
            · rw [List.append_nil, hOfs, gh_snoc, ← hh]
              unfold ghStep
              dsimp only
              have : lds.all (fun j => !inM (masks ops []) j (0 + acc.length)) = true := by
                apply List.all_eq_true.2
                intro j hj
                have h1 := (hld j hj).1
                cases hq : inM (masks ops []) j (0 + acc.length) with
                | false => rfl
                | true => have := inM_lt hE _ _ hq; omega
              rw [this]
              rfl
            · conv => lhs; unfold plan
              rw [hre]; dsimp only; rw [hwc, hw]; simp only [cond_true, List.append_nil]
              rw [hclr, hc]; dsimp only; rw [hlt]; simp only [cond_true]; rw [allocOp_congr hoe, hv]; dsimp only; rw [hOfs]
              rfl
/-- WHERE THE EDGES SAY ENOUGH but for reads that loud operations leave alone, a region that draws its order gives what the text's order gives. -/
theorem drawn_Z {z : Nat} {D : List Fct} {S : St} {e' : Env} {S' : St} (hD0 : ∀ f ∈ D, f.src = none ∧ f.id < S.n ∧ S.h.get f.id = some f.x) (hs : seqB X n ops = true) (h : RunZ X rec n ops z D ops 0 e S e' S') : drawn X rec n ops e S = .ok .nor e' S' := by
  unfold seqB at hs
  simp only [Bool.and_eq_true, nblt, decide_eq_true_eq] at hs
  obtain ⟨⟨⟨⟨hE, hD⟩, hN⟩, hn⟩, hK⟩ := hs
  have hle := RunZ_n h
  obtain ⟨tl, l2, p1, p2, p3, p4, p5, ppw, pmk, -, pal, pmo, pld, p6⟩ := plan_seqZ (h0 := S.h) (e := e) (N0 := S.n) hn hE hD hK D ops [] [] [] S e e' S' (by simp) rfl (by simp [putAll]) (fun k r b hk => by simp at hk) (fun f hf => .inl ⟨(hD0 f hf).1, (hD0 f hf).2.1, (hD0 f hf).2.2, fun k r h' m hk _ => by simp at hk⟩) (fun k r hk => by simp at hk) (fun q q' r r' _ hk => by simp at hk) (fun k r hk => by simp at hk) (Nat.le_refl _) (fun j hj => by simp at hj) List.Pairwise.nil (by simp [gh, hOf]) h
  simp only [List.nil_append, List.length_nil, hOf, Nat.zero_add] at p1 p2 p3 p4 p6 ppw pmk pal pmo pld
  unfold drawn
  dsimp only
  rw [hE, hD, hN]
  simp only [Bool.and_self, cond_true]
  rw [p1]
  dsimp only
  have hrd : rdsOk X n ops (masks ops []) tl e S.h l2 ops 0 = true := by
    apply rdsOk_of
    intro i o ho
    have hi : i < ops.length := (List.getElem?_eq_some_iff.1 ho).1
    have hr : tl[i]? = some (tl[i]'(by omega)) := List.getElem?_eq_getElem _
    rw [Nat.zero_add]
    refine ⟨_, hr, fun hk => ?_⟩
    obtain ⟨l1, l3, ei, q1, q2, q3, q4, q5, q6, q8, q9⟩ := p6 i o _ ho hr hk
    have hlt : ∀ j, inM (masks ops []) i j = true → j < (tl.take i).length := fun j hj => by
      have := inM_lt hE _ _ hj
      simp; omega
    have htl : tl = tl.take i ++ tl.drop i := (List.take_append_drop i tl).symm
    obtain ⟨re, r1, r2⟩ := renv_good (ms := masks ops []) (ops := ops) (acc := tl) (e := e) (es := ei) (n := n) (i := i) hn (ts := looks ops o) (fun t ht => ⟨q5 t ht, by
      rw [htl, lookT_append hlt]; exact q4 t ht⟩)
    refine ⟨re, r1, rdOk_of fun a b hab => ?_⟩
    have hoe : OE re ei o.op := OE_of r2
    have hski : (ops.map (fun o => sk X o.op)).getD i .pure = sk X o.op := by
      rw [List.getD_eq_getElem?_getD, List.getElem?_map, ho]; rfl
    rw [List.nil_append]
    unfold rdOk.rd1
    cases hc : (a.all (fun j => !inM (masks ops []) j i) && l2.all (fun j => !inM (masks ops []) i j || a.contains j)) with
    | false => rfl
    | true =>
      simp only [cond_true]
      simp only [Bool.and_eq_true] at hc
      obtain ⟨c1, c2⟩ := hc
      rcases q9 with ⟨hst, q7⟩ | ⟨D', hzb, hfp, hfi⟩
      case inr =>
        have hsub : ∀ j ∈ a, j ∈ l2 := fun j hj => by rw [hab]; exact List.mem_append_left _ hj
        have hg : ∀ f ∈ D', (∀ j, f.src = some j → inM (masks ops []) i j = true) → (gh (masks ops []) a (inM (masks ops []) i) tl 0 (hOf tl S.h a)).get f.id = some f.x := by
          intro f hf hu
          refine FZ_get (fun j hj => ?_) (fun k r b h1 h2 => (pmk k r b h1 h2).2) pmo ?_ (fun j hj => pld j (hsub j hj)) (fun j k => inM_lt hE j k) (hfi f hf) (fun j hj => ⟨hu j hj, fun ⟨r, h1, h2⟩ => ?_⟩)
          · have h1 := List.all_eq_true.1 c1 j hj
            obtain ⟨r, h2, _⟩ := pld j (hsub j hj)
            have h3 := (List.getElem?_eq_some_iff.1 h2).1
            have h4 := List.all_eq_true.1 hzb j (by simp only [List.mem_range]; omega)
            rw [Bool.or_eq_true] at h4
            rcases h4 with h4 | h4
            · rw [nblt, decide_eq_true_eq] at h4; exact h4
            · rw [h4] at h1; cases h1
          · rw [hab, List.pairwise_append] at ppw; exact ppw.1
          · have h3 := List.all_eq_true.1 c2 j (pal j r h1 h2)
            rw [hu j hj] at h3
            simpa using h3
        rw [readOp_congr hoe, hfp _ hg]
        exact q8
      unfold rdStat at hst
      rw [Bool.and_eq_true] at hst
      obtain ⟨hk2, hk3⟩ := hst
      have hal : a = l1 := by
        have hpre : a ++ b = l1 ++ l3 := by rw [← hab, q1]
        have hin1 : ∀ j ∈ l1, j ∈ a := by
          intro j hj
          have hj2 : j ∈ l2 := by rw [q1]; exact List.mem_append_left _ hj
          have h1 := List.all_eq_true.1 c2 j hj2
          have h2 : inM (masks ops []) i j = true := by
            apply bef_at hk2 (q2 j hj)
            have := (p2 j hj2).2
            cases hq : (ops.map (fun o => sk X o.op)).getD j .pure <;> rw [hq] at this <;> first | rfl | cases this
          rw [h2] at h1
          simpa using h1
        have hin3 : ∀ j ∈ l3, j ∉ a := by
          intro j hj hja
          have hj2 : j ∈ l2 := by rw [q1]; exact List.mem_append_right _ hj
          have h1 := List.all_eq_true.1 c1 j hja
          have hjl : j < ops.length := by
            have := (p2 j hj2).2
            rw [List.getD_eq_getElem?_getD] at this
            by_cases hlt : j < ops.length
            · exact hlt
            · rw [List.getElem?_eq_none (by simpa using hlt)] at this; cases this
          have hl := (p2 j hj2).2
          have h3 := List.all_eq_true.1 hk3 j (by simpa using hjl)
          rw [hl, nble, decide_eq_false (by have := q3 j hj; omega)] at h3
          have : inM (masks ops []) j i = true := by simpa using h3
          rw [this] at h1
          cases h1
        rcases List.append_eq_append_iff.1 hpre with ⟨m, hm1, hm2⟩ | ⟨m, hm1, hm2⟩
        · -- l1 = a ++ m
          cases m with
          | nil => simpa using hm1.symm
          | cons y m =>
            exfalso
            have hy : y ∈ a := hin1 y (by rw [hm1]; simp)
            rw [q1, hm1, List.append_assoc, List.pairwise_append] at ppw
            have := ppw.2.2 y hy y (by simp)
            omega
        · cases m with
          | nil => simpa using hm1
          | cons y m =>
            exfalso
            exact hin3 y (by rw [hm2]; simp) (by rw [hm1]; simp)
      subst hal
      have hh : gh (masks ops []) a (inM (masks ops []) i) tl 0 (hOf tl S.h a) = gh (masks ops []) a (fun _ => true) (tl.take i) 0 (hOf (tl.take i) S.h a) := by
        conv => lhs; rw [htl]
        rw [gh_append (fun q hq => by
          cases hm : inM (masks ops []) i q with
          | false => rfl
          | true => have := hlt q hm; omega)]
        rw [hOf_append (fun j hj => by have := q2 j hj; simp; omega)]
        apply gh_congr
        intro k r b h1 h2
        rw [Nat.zero_add]
        have hki : k < i := by have := (List.getElem?_eq_some_iff.1 h1).1; simp at this; omega
        apply bef_at hk2 hki
        have : (ops.map (fun o => sk X o.op)).getD k .pure = .alloc := by
          have hkr : tl[k]? = some r := by rw [htl, List.getElem?_append_left (List.getElem?_eq_some_iff.1 h1).1]; exact h1
          exact (pmk k r b hkr h2).1
        rw [this]; rfl
      rw [hh, readOp_congr hoe, q7]
      exact q8
  rw [hrd]
  simp only [cond_true]
  rw [p3]
  dsimp only
  rw [nble, decide_eq_true hle]
  simp only [cond_true]
  rw [← p4]
end
end GX
