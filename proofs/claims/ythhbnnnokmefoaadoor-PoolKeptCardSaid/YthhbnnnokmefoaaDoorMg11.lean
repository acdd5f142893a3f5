/- What the row leans on, part 11: texts one behind the other. No condition. -/
import Derived.Test.YthhbnnnokmefoaaDoorMg10
import Derived.KernelRfl
/- GX: reasoning about runs: regions that draw their order, where reads look at blocks that later loud operations leave alone (blocks made in the region, too). -/


namespace GX
noncomputable section
open Go
def WF (X : X) (n : Nat) (all : List Oper) (D : List Fct) (os : List Oper) (i : Nat) (ks : List Kt) (Q : Ex → Env → St → Prop) (l : L) (S : St) : Prop :=
  ∀ e, Ag l e → ∃ f e' S', RunF X (exec X f) n all D os i e S e' S' ∧ QK X n ks Q .nor e' S'
section
variable {X : X} {n : Nat} {ks : List Kt} {Q : Ex → Env → St → Prop} {l : L} {S : St} {D : List Fct} {all os : List Oper} {o : Oper} {i : Nat}
theorem W_drawnF (D : List Fct) {id : Nat} {ops : Array Oper} (hD : ∀ f ∈ D, f.src = none ∧ f.id < S.n ∧ S.h.get f.id = some f.x) (hs : seqB X n ops.toList = true) (h : WF X n ops.toList D ops.toList 0 ks Q l S) : W X n (.region id ops true) ks Q l S := by
  unfold W
  intro e he
  obtain ⟨f, e1, S1, h1, h2⟩ := h e he
  exact ⟨f + 1, .nor, e1, S1, by show step X (exec X f) n (.region id ops true) e S = _; unfold step; exact drawn_F hD hs h1, h2⟩
theorem WF_nil (h : V X n .nor ks Q l S) : WF X n all D [] i ks Q l S := by
  unfold V at h
  exact fun e he => ⟨0, e, S, ⟨rfl, rfl⟩, h e he⟩
theorem WF_pa {d : Nat} (hg : o.guard = none) (hd : o.dst = some d) (hn : Nat.blt d n = true) (hn' : Nat.blt n 1000001 = true) (hsk : isPA (sk X o.op) = true)
    (h : Ev X l S o.op fun v S' => WF X n all D os (i + 1) ks Q ((d, v) :: l) S') : WF X n all D (o :: os) i ks Q l S := by
  intro e he
  unfold Ev at h
  obtain ⟨f, v, S1, h1, h2, h3⟩ := h e he
  rw [nblt, decide_eq_true_eq] at hn hn'
  obtain ⟨g, e2, S2, h4, h5⟩ := h3 _ (he.put hn' hn)
  have hck := sk_ok h1
  refine ⟨max f g, e2, S2, .inl ⟨wanted_none hg, v, S1, e.put d v, [], oper_le (exec_le (Nat.le_max_left f g)) h1, ?_, h2, fun hc => ?_, fun hc => ?_, fun f hf => (by cases hf), by rw [List.append_nil]; exact RunF_le (exec_le (Nat.le_max_right f g)) h4⟩, h5⟩
  · rw [hd]; unfold setDst; dsimp only; rw [nblt, decide_eq_true hn]; rfl
  · rcases hck with hq | hq
    · rw [hq] at hc; cases hc
    · rw [hq] at hc; rw [hc] at hsk; cases hsk
  · rcases hck with hq | hq
    · rw [hq] at hc; cases hc
    · rw [hq] at hc
      exfalso
      cases hs : sk X o.op <;> rw [hs] at hc hsk <;> first | (cases hc; done) | (cases hsk; done)
/-- an operation that makes a block, which is told -/
theorem WF_al {d : Nat} (hg : o.guard = none) (hd : o.dst = some d) (hn : Nat.blt d n = true) (hn' : Nat.blt n 1000001 = true) (hcl : ∀ e, Ag l e → cls X e o.op = .alloc)
    (h : Ev X l S o.op fun v S' => ∃ x, S'.h.get S.n = some x ∧ S.n < S'.n ∧ WF X n all (D ++ [⟨S.n, x, some i⟩]) os (i + 1) ks Q ((d, v) :: l) S') : WF X n all D (o :: os) i ks Q l S := by
  intro e he
  unfold Ev at h
  obtain ⟨f, v, S1, h1, h2, x, hx, hlt, h3⟩ := h e he
  rw [nblt, decide_eq_true_eq] at hn hn'
  obtain ⟨g, e2, S2, h4, h5⟩ := h3 _ (he.put hn' hn)
  have hc0 := hcl e he
  refine ⟨max f g, e2, S2, .inl ⟨wanted_none hg, v, S1, e.put d v, [⟨S.n, x, some i⟩], oper_le (exec_le (Nat.le_max_left f g)) h1, ?_, h2, fun hc => (by rw [hc0] at hc; cases hc), fun hc => (by rw [hc0] at hc; cases hc), fun f hf => ?_, RunF_le (exec_le (Nat.le_max_right f g)) h4⟩, h5⟩
  · rw [hd]; unfold setDst; dsimp only; rw [nblt, decide_eq_true hn]; rfl
  · rw [List.mem_singleton] at hf; subst hf
    exact ⟨rfl, hlt, hx, .inr ⟨hc0, rfl⟩⟩
/-- a read that is ordered with all loud operations -/
theorem WF_rs {d : Nat} (hg : o.guard = none) (hd : o.dst = some d) (hn : Nat.blt d n = true) (hn' : Nat.blt n 1000001 = true) (hsk : isLC (sk X o.op) = false) (hst : rdStat (masks all []) (all.map (fun o => sk X o.op)) i = true)
    (h : Ev X l S o.op fun v S' => WF X n all D os (i + 1) ks Q ((d, v) :: l) S') : WF X n all D (o :: os) i ks Q l S := by
  intro e he
  unfold Ev at h
  obtain ⟨f, v, S1, h1, h2, h3⟩ := h e he
  rw [nblt, decide_eq_true_eq] at hn hn'
  obtain ⟨g, e2, S2, h4, h5⟩ := h3 _ (he.put hn' hn)
  have hck := sk_ok h1
  refine ⟨max f g, e2, S2, .inl ⟨wanted_none hg, v, S1, e.put d v, [], oper_le (exec_le (Nat.le_max_left f g)) h1, ?_, h2, fun _ => .inl hst, fun hc => ?_, fun f hf => (by cases hf), by rw [List.append_nil]; exact RunF_le (exec_le (Nat.le_max_right f g)) h4⟩, h5⟩
  · rw [hd]; unfold setDst; dsimp only; rw [nblt, decide_eq_true hn]; rfl
  · rcases hck with hq | hq
    · rw [hq] at hc; cases hc
    · rw [hq, hsk] at hc; cases hc
/-- a read that looks at told blocks alone -/
theorem WF_rf {d : Nat} {v : AV} (hg : o.guard = none) (hd : o.dst = some d) (hn : Nat.blt d n = true) (hn' : Nat.blt n 1000001 = true) (hS : ∀ f ∈ D, S.h.get f.id = some f.x)
    (hfp : ∀ e, Ag l e → cls X e o.op = .read ∧ FPD X D (masks all []) i e o.op v) (hvv : veq v v = true) (h : WF X n all D os (i + 1) ks Q ((d, v) :: l) S) : WF X n all D (o :: os) i ks Q l S := by
  intro e he
  obtain ⟨hc, hf⟩ := hfp e he
  rw [nblt, decide_eq_true_eq] at hn hn'
  obtain ⟨g, e2, S2, h4, h5⟩ := h _ (he.put hn' hn)
  refine ⟨g, e2, S2, .inl ⟨wanted_none hg, v, S, e.put d v, [], ?_, ?_, by rw [hc]; exact hvv, fun _ => .inr hf, fun hl => (by rw [hc] at hl; cases hl), fun f hf => (by cases hf), by rw [List.append_nil]; exact h4⟩, h5⟩
  · unfold oper; rw [hc]; dsimp only; rw [hf S.h (fun f h1 _ => hS f h1)]
  · rw [hd]; unfold setDst; dsimp only; rw [nblt, decide_eq_true hn]; rfl
/-- a loud operation, or a call, that leaves the told blocks alone, and may tell more -/
theorem WF_ld {d : Nat} (hg : o.guard = none) (hd : o.dst = some d) (hn : Nat.blt d n = true) (hn' : Nat.blt n 1000001 = true) (hcl : ∀ e, Ag l e → isLC (cls X e o.op) = true)
    (h : Ev X l S o.op fun v S' => (∀ f ∈ D, S'.h.get f.id = some f.x) ∧ ∃ N : List Fct, (∀ f ∈ N, f.src = some i ∧ f.id < S'.n ∧ S'.h.get f.id = some f.x) ∧ WF X n all (D ++ N) os (i + 1) ks Q ((d, v) :: l) S') : WF X n all D (o :: os) i ks Q l S := by
  intro e he
  unfold Ev at h
  obtain ⟨f, v, S1, h1, h2, hB, N, hN, h3⟩ := h e he
  rw [nblt, decide_eq_true_eq] at hn hn'
  obtain ⟨g, e2, S2, h4, h5⟩ := h3 _ (he.put hn' hn)
  have hc0 := hcl e he
  refine ⟨max f g, e2, S2, .inl ⟨wanted_none hg, v, S1, e.put d v, N, oper_le (exec_le (Nat.le_max_left f g)) h1, ?_, h2, fun hc => ?_, fun _ => hB, fun f hf => ⟨(hN f hf).1, (hN f hf).2.1, (hN f hf).2.2, .inl hc0⟩, RunF_le (exec_le (Nat.le_max_right f g)) h4⟩, h5⟩
  · rw [hd]; unfold setDst; dsimp only; rw [nblt, decide_eq_true hn]; rfl
  · rw [hc] at hc0; cases hc0
theorem WF_ld0 (hg : o.guard = none) (hd : o.dst = none) (hcl : ∀ e, Ag l e → isLC (cls X e o.op) = true)
    (h : Ev X l S o.op fun _ S' => (∀ f ∈ D, S'.h.get f.id = some f.x) ∧ ∃ N : List Fct, (∀ f ∈ N, f.src = some i ∧ f.id < S'.n ∧ S'.h.get f.id = some f.x) ∧ WF X n all (D ++ N) os (i + 1) ks Q l S') : WF X n all D (o :: os) i ks Q l S := by
  intro e he
  unfold Ev at h
  obtain ⟨f, v, S1, h1, h2, hB, N, hN, h3⟩ := h e he
  obtain ⟨g, e2, S2, h4, h5⟩ := h3 _ he
  have hc0 := hcl e he
  refine ⟨max f g, e2, S2, .inl ⟨wanted_none hg, v, S1, e, N, oper_le (exec_le (Nat.le_max_left f g)) h1, ?_, h2, fun hc => ?_, fun _ => hB, fun f hf => ⟨(hN f hf).1, (hN f hf).2.1, (hN f hf).2.2, .inl hc0⟩, RunF_le (exec_le (Nat.le_max_right f g)) h4⟩, h5⟩
  · rw [hd]; rfl
  · rw [hc] at hc0; cases hc0
theorem WF_guard {j d0 : Nat} {want : Bool} {p : Oper} {c : Bool} {d : Nat} (hg : o.guard = some (j, want)) (hp : all[j]? = some p) (hd0 : p.dst = some d0) (hl : lk l d0 = some (.bool c)) (hd : o.dst = some d) (hn : Nat.blt d n = true) (hn' : Nat.blt n 1000001 = true)
    (h1 : c = want → WF X n all D ({ o with guard := none } :: os) i ks Q ((d0, .bool want) :: l) S) (h2 : c = (!want) → WF X n all D os (i + 1) ks Q ((d, .tup []) :: (d0, .bool (!want)) :: l) S) : WF X n all D (o :: os) i ks Q l S := by
  intro e he
  rw [nblt, decide_eq_true_eq] at hn hn'
  have hat : e.at d0 = .bool c := he d0 _ hl
  have hag : ∀ b, c = b → Ag ((d0, .bool b) :: l) e := by
    intro b hb t v ht
    unfold lk at ht
    rw [nbeq, cond_dec] at ht
    by_cases hh : d0 = t
    · subst hh; rw [if_pos rfl] at ht; cases ht; rw [hat, hb]
    · rw [if_neg hh] at ht; exact he t v ht
  have hw : wanted all e o = (c == want) := by unfold wanted; rw [hg]; dsimp only; rw [hp]; dsimp only; rw [hd0]; dsimp only; rw [hat]
  by_cases hc : c = want
  · obtain ⟨f, e2, S2, h3, h4⟩ := h1 hc e (hag want hc)
    refine ⟨f, e2, S2, ?_, h4⟩
    have hw' : wanted all e o = true := by rw [hw, hc]; cases want <;> rfl
    unfold RunF at h3 ⊢
    rcases h3 with ⟨_, h3⟩ | ⟨h3, _⟩
    · exact .inl ⟨hw', h3⟩
    · rw [wanted_none rfl] at h3; cases h3
  · have hc' : c = (!want) := by cases c <;> cases want <;> simp_all
    obtain ⟨f, e2, S2, h3, h4⟩ := h2 hc' _ ((hag _ hc').put hn' hn)
    refine ⟨f, e2, S2, ?_, h4⟩
    have hw' : wanted all e o = false := by rw [hw, hc']; cases want <;> rfl
    refine .inr ⟨hw', e.put d (.tup []), ?_, h3⟩
    rw [hd]; unfold setDst; dsimp only; rw [nblt, decide_eq_true hn]; rfl
theorem WF_guard_dt {j d0 : Nat} {q : Oper} {p : Prop} [Decidable p] {d : Nat} (hg : o.guard = some (j, true)) (hp : all[j]? = some q) (hd0 : q.dst = some d0) (hl : lk l d0 = some (.bool (decide p))) (hd : o.dst = some d) (hn : Nat.blt d n = true) (hn' : Nat.blt n 1000001 = true)
    (h1 : p → WF X n all D ({ o with guard := none } :: os) i ks Q ((d0, .bool true) :: l) S) (h2 : ¬ p → WF X n all D os (i + 1) ks Q ((d, .tup []) :: (d0, .bool false) :: l) S) : WF X n all D (o :: os) i ks Q l S :=
  WF_guard hg hp hd0 hl hd hn hn' (fun h => h1 (of_decide_eq_true h)) (fun h => h2 (of_decide_eq_false h))
theorem WF_guard_df {j d0 : Nat} {q : Oper} {p : Prop} [Decidable p] {d : Nat} (hg : o.guard = some (j, false)) (hp : all[j]? = some q) (hd0 : q.dst = some d0) (hl : lk l d0 = some (.bool (decide p))) (hd : o.dst = some d) (hn : Nat.blt d n = true) (hn' : Nat.blt n 1000001 = true)
    (h1 : ¬ p → WF X n all D ({ o with guard := none } :: os) i ks Q ((d0, .bool false) :: l) S) (h2 : p → WF X n all D os (i + 1) ks Q ((d, .tup []) :: (d0, .bool true) :: l) S) : WF X n all D (o :: os) i ks Q l S :=
  WF_guard hg hp hd0 hl hd hn hn' (fun h => h1 (of_decide_eq_false h)) (fun h => h2 (of_decide_eq_true h))
theorem WF_guard_t {j d0 : Nat} {want : Bool} {p : Oper} {d : Nat} (hg : o.guard = some (j, want)) (hp : all[j]? = some p) (hd0 : p.dst = some d0) (hl : lk l d0 = some (.bool want)) (hd : o.dst = some d) (hn : Nat.blt d n = true) (hn' : Nat.blt n 1000001 = true)
    (h1 : WF X n all D ({ o with guard := none } :: os) i ks Q l S) : WF X n all D (o :: os) i ks Q l S := by
  refine WF_guard hg hp hd0 hl hd hn hn' (fun _ => ?_) (fun h => ?_)
  · intro e he
    exact h1 e (fun t v ht => he t v (by
      unfold lk; rw [nbeq, cond_dec]
      by_cases hh : d0 = t
      · subst hh; rw [hl] at ht; cases ht; rw [if_pos rfl]
      · rw [if_neg hh]; exact ht))
  · cases want <;> cases h
theorem WF_skip {d : Nat} (hd : o.dst = some d) (hn : Nat.blt d n = true) (hn' : Nat.blt n 1000001 = true) (hw : ∀ e, Ag l e → wanted all e o = false) (h2 : WF X n all D os (i + 1) ks Q ((d, .tup []) :: l) S) : WF X n all D (o :: os) i ks Q l S := by
  intro e he
  rw [nblt, decide_eq_true_eq] at hn hn'
  obtain ⟨f, e2, S2, h3, h4⟩ := h2 _ (he.put hn' hn)
  refine ⟨f, e2, S2, .inr ⟨hw e he, e.put d (.tup []), ?_, h3⟩, h4⟩
  rw [hd]; unfold setDst; dsimp only; rw [nblt, decide_eq_true hn]; rfl
theorem WF_guard_f {j d0 : Nat} {want c : Bool} {p : Oper} {d : Nat} (hg : o.guard = some (j, want)) (hp : all[j]? = some p) (hd0 : p.dst = some d0) (hl : lk l d0 = some (.bool c)) (hc : (c == want) = false) (hd : o.dst = some d) (hn : Nat.blt d n = true) (hn' : Nat.blt n 1000001 = true)
    (h2 : WF X n all D os (i + 1) ks Q ((d, .tup []) :: l) S) : WF X n all D (o :: os) i ks Q l S :=
  WF_skip hd hn hn' (fun e he => by unfold wanted; rw [hg]; dsimp only; rw [hp]; dsimp only; rw [hd0]; dsimp only; rw [he d0 _ hl]; exact hc) h2
theorem WF_guard_x {j d0 : Nat} {want : Bool} {p : Oper} {d : Nat} (hg : o.guard = some (j, want)) (hp : all[j]? = some p) (hd0 : p.dst = some d0) (hl : lk l d0 = some (.tup [])) (hd : o.dst = some d) (hn : Nat.blt d n = true) (hn' : Nat.blt n 1000001 = true)
    (h2 : WF X n all D os (i + 1) ks Q ((d, .tup []) :: l) S) : WF X n all D (o :: os) i ks Q l S :=
  WF_skip hd hn hn' (fun e he => by unfold wanted; rw [hg]; dsimp only; rw [hp]; dsimp only; rw [hd0]; dsimp only; rw [he d0 _ hl]) h2
/-! footprints -/
theorem FPD_load {t : Nat} {x : Operand} {p : AV} {o : Nat} {i' : TI} {cs : List AV} {v : AV} {ms : List Nat} (hx : od l x = some p) (hi : X.ti t = some i') (hag : aggD i'.desc = false) (hp : Pt S p cs o) (hv : cs[o]? = some v)
    (hb : ∀ b, blkOf p = some b → ∃ f ∈ D, f.id = b ∧ S.h.get b = some f.x ∧ ∀ j, f.src = some j → inM ms i j = true) :
    ∀ e, Ag l e → cls X e (.load t x) = .read ∧ FPD X D ms i e (.load t x) v := fun _ he =>
  ⟨rfl, fun H hH => load_eq (m := S.n) (od_ok he hx) hi hag (hp.keep fun b h => by
    obtain ⟨f, h1, h2, h3, h4⟩ := hb b h
    show H.get b = _; rw [h3, ← h2]; exact hH f h1 h4) hv⟩
theorem FPD_conv {x : Operand} {s d el m : Nat} {si di ei : TI} {v : AV} {cs : List AV} {z : List Nat} {ms : List Nat} (hx : od l x = some v) (hs : X.ti s = some si) (hd : X.ti d = some di) (hdd : di.desc = .string) (hsd : si.desc = .slice el) (he' : X.ti el = some ei) (hk : ei.desc = .int .u8) (hrd : Rd S v 1 cs m) (hz : bytesOf cs = some z)
    (hb : ∀ b, blkOf v = some b → ∃ f ∈ D, f.id = b ∧ S.h.get b = some f.x ∧ ∀ j, f.src = some j → inM ms i j = true) :
    ∀ e, Ag l e → cls X e (.convert s d x) = .read ∧ FPD X D ms i e (.convert s d x) (.str z) := fun _ he =>
  ⟨by unfold cls; dsimp only; rw [hs]; dsimp only; rw [hsd]; dsimp only; rw [hd]; dsimp only; rw [hdd], fun H hH => conv_eq (m' := S.n) (od_ok he hx) hs hd hdd hsd he' hk (hrd.keep fun b h => by
    obtain ⟨f, h1, h2, h3, h4⟩ := hb b h
    show H.get b = _; rw [h3, ← h2]; exact hH f h1 h4) hz⟩
end
end
end GX
/- GX: reasoning about runs: rules for arguments that have no block; runes read in a region that draws its order. -/

namespace GX
noncomputable section
open Go
section
variable {X : X} {l : L} {S : St} {R : AV → St → Prop} {t : Nat} {x y : Operand} {D : List Fct} {i : Nat}
theorem Ev_indexAddr_n {v : AV} {k : IntKind} {i m : Nat} {ti ei : TI} {el : Nat} {cs : List AV} (hy : od l y = some (.int k ((i : Nat) : Int))) (hx : od l x = some v) (hi : X.ti t = some ti) (hd : ti.desc = .slice el) (he' : X.ti el = some ei) (hrd : Rd S v ei.size cs m) (hn : blkOf v = none) (hlt : i < m)
    (hR : R (.rptr cs (i * ei.size)) S) : Ev X l S (.indexAddr t x y) R := by
  have hc := hrd.cells
  have hl := hrd.len
  cases v with
  | slice b o n cap => cases hn
  | rsl cs0 n z =>
    cases hl
    have hz : z = ei.size ∧ cs0.length = m * z := by have := hrd.cap; simpa [capW] using this
    obtain ⟨hz, hl0⟩ := hz
    subst hz
    have hcs : cs = cs0 := by
      unfold srcCells at hc; dsimp only at hc
      rw [nbeq, nble, ← Bool.decide_and, cond_dec] at hc
      split at hc
      · cases hc; rw [List.take_of_length_le (by omega)]
      · cases hc
    subst hcs
    refine Ev_pure (v := .rptr cs (i * ei.size)) (fun e he => ⟨rfl, ?_⟩) hR
    unfold pureOp; dsimp only; rw [od_ok he hy]; show (match opd e x with | some (.slice b o len _) => _ | some (.rsl cs len sz) => _ | _ => none) = _
    rw [od_ok he hx]; dsimp only; rw [hi]; dsimp only; rw [hd]; dsimp only; rw [he']; dsimp only; rw [nblt, nbeq, decide_eq_true hlt, decide_eq_true rfl]; rfl
  | nils => cases hl; omega
  | emp => cases hl; omega
  | _ => cases hl
theorem Ev_fieldAddr_n {f o : Nat} {i fi : TI} {fs : Array Field} {fd : Field} {cs : List AV} (hx : od l x = some (.rptr cs o)) (hi : X.ti t = some i) (hd : i.desc = .struct fs) (hf : fs.toList[f]? = some fd) (hfi : X.ti fd.type = some fi) (hz : Nat.beq fi.size 0 = false)
    (hR : R (.rptr cs (o + fd.offset)) S) : Ev X l S (.fieldAddr t x f) R :=
  Ev_pure (fun e he => ⟨rfl, by unfold pureOp; dsimp only; rw [od_ok he hx]; dsimp only; rw [hi]; dsimp only; rw [hd]; dsimp only; rw [hf]; dsimp only; rw [hfi]; dsimp only; rw [hz]; rfl⟩) hR
theorem FPD_load_n {o : Nat} {i' : TI} {cs : List AV} {v : AV} {ms : List Nat} (hx : od l x = some (.rptr cs o)) (hi : X.ti t = some i') (hag : aggD i'.desc = false) (hv : cs[o]? = some v) :
    ∀ e, Ag l e → cls X e (.load t x) = .read ∧ FPD X D ms i e (.load t x) v :=
  FPD_load (S := { h := .leaf, n := 0 }) hx hi hag (.inr rfl) hv (fun b hb => by cases hb)
theorem conv_eq_r {e : Env} {H : Tr AB} {x : Operand} {s d el m m' : Nat} {si di ei : TI} {v : AV} {cs : List AV} {z : List Nat} (hx : opd e x = some v) (hs : X.ti s = some si) (hd : X.ti d = some di) (hdd : di.desc = .string) (hsd : si.desc = .slice el) (he' : X.ti el = some ei) (hk : ei.desc = .int .i32) (hrd : Rd { h := H, n := m' } v 1 cs m) (hz : runesOf cs = some z) : readOp X e H (.convert s d x) = some (.str z) := by
  unfold readOp; dsimp only; rw [hx]; dsimp only; rw [hd]; dsimp only; rw [hs]; dsimp only; rw [hdd]; dsimp only; rw [hsd]; dsimp only; rw [he']; dsimp only; rw [hk]
  have h2 := hrd.cells
  have h3 := hrd.len
  have h4 := hrd.size
  cases v with
  | slice b o n k =>
    cases h3
    unfold srcCells at h2; dsimp only at h2 ⊢
    rw [Nat.mul_one] at h2; rw [h2]; dsimp only; rw [hz]
  | rsl cs0 n z0 =>
    cases h3
    have hz0 : z0 = 1 ∧ cs0.length = m * z0 := by have := hrd.cap; simpa [capW] using this
    obtain ⟨hz0, hl0⟩ := hz0
    subst hz0
    unfold srcCells at h2; dsimp only at h2 ⊢
    rw [nbeq, nble, ← Bool.decide_and, cond_dec] at h2
    split at h2
    · cases h2
      rw [List.take_of_length_le (by omega)] at hz
      rw [show Nat.beq 1 1 = true from rfl]
      simp only [cond_true]
      rw [hz]
    · cases h2
  | nils => cases h3; cases List.eq_nil_of_length_eq_zero (by omega : cs.length = 0); cases hz; rfl
  | emp => cases h3; cases List.eq_nil_of_length_eq_zero (by omega : cs.length = 0); cases hz; rfl
  | _ => have := hrd.sl; cases this
theorem FPD_conv_r {x : Operand} {s d el m : Nat} {si di ei : TI} {v : AV} {cs : List AV} {z : List Nat} {ms : List Nat} (hx : od l x = some v) (hs : X.ti s = some si) (hd : X.ti d = some di) (hdd : di.desc = .string) (hsd : si.desc = .slice el) (he' : X.ti el = some ei) (hk : ei.desc = .int .i32) (hrd : Rd S v 1 cs m) (hz : runesOf cs = some z)
    (hb : ∀ b, blkOf v = some b → ∃ f ∈ D, f.id = b ∧ S.h.get b = some f.x ∧ ∀ j, f.src = some j → inM ms i j = true) :
    ∀ e, Ag l e → cls X e (.convert s d x) = .read ∧ FPD X D ms i e (.convert s d x) (.str z) := fun _ he =>
  ⟨by unfold cls; dsimp only; rw [hs]; dsimp only; rw [hsd]; dsimp only; rw [hd]; dsimp only; rw [hdd], fun H hH => conv_eq_r (m' := S.n) (od_ok he hx) hs hd hdd hsd he' hk (hrd.keep fun b h => by
    obtain ⟨f, h1, h2, h3, h4⟩ := hb b h
    show H.get b = _; rw [h3, ← h2]; exact hH f h1 h4) hz⟩
end
end
end GX
/- strings' prefixes and suffixes; caraferef2.Name, descr.Name. -/



namespace Go.Proofs.YthhbnnnokmefoaaDoor
open GX
set_option maxHeartbeats 8000000
theorem hasp_runs {S : St} {s p : List Nat} : Runs X1 63 [.str s, .str p] S fun v S' => S' = S ∧ v = .bool (decide (s.take p.length = p)) := by
  refine Runs_fn (m := 18) (by kernel_rfl) Tryd.func63 rfl (by kernel_rfl) (by kernel_rfl) ?_
  repeat' (
    first
      | refine W_seq ?_
      | refine WO_nil ?_
      | refine V_seq ?_
      | refine W_region ?_
      | refine W_ret ?_
      | refine WO_dst rfl rfl (by kernel_rfl) (by kernel_rfl) ?_
      | refine WO_guard_t rfl rfl rfl rfl rfl (by kernel_rfl) (by kernel_rfl) ?_
      | refine WO_guard_f rfl rfl rfl rfl rfl rfl (by kernel_rfl) (by kernel_rfl) ?_
      | refine Ev_slice_str (lo' := none) (hi' := some (.int .i64 ((p.length : Nat) : Int))) (mx' := none) rfl rfl rfl rfl rfl rfl (str_hi (by omega)) ?_
      | refine Ev_move rfl ?_
      | refine Ev_assign rfl ?_
      | refine Ev_pick_t rfl rfl rfl ?_
      | refine Ev_pick_f rfl rfl rfl ?_
      | refine Ev_geqN rfl rfl ?_
      | refine Ev_seql rfl rfl ?_
      | refine Ev_len_str rfl rfl rfl rfl rfl ?_
      | (refine WO_guard_dt rfl rfl rfl rfl rfl (by kernel_rfl) (by kernel_rfl) (fun hg => ?_) (fun hg => ?_) <;> (try dsimp only at hg) <;> try (exfalso; first | omega | exact hg rfl)))
  · refine V_done rfl rfl ?_
    exact ⟨rfl, rfl⟩
  · refine V_done rfl rfl ?_
    refine ⟨rfl, ?_⟩
    rw [decide_eq_false]; rfl
    intro h
    have := congrArg List.length h
    rw [List.length_take] at this; omega
theorem shasp_runs {S : St} {s p : List Nat} : Runs X1 44 [.str s, .str p] S fun v S' => S' = S ∧ v = .bool (decide (s.take p.length = p)) := by
  refine Runs_fn (m := 8) (by kernel_rfl) Tryd.func44 rfl (by kernel_rfl) (by kernel_rfl) ?_
  repeat (
    first
      | refine W_seq ?_
      | refine WO_nil ?_
      | refine V_seq ?_
      | refine W_region ?_
      | refine WO_dst rfl rfl (by kernel_rfl) (by kernel_rfl) ?_
      | refine Ev_move rfl ?_
      | refine Ev_assign rfl ?_)
  refine Ev_call rfl rfl (hasp_runs.mono ?_)
  rintro _ _ - ⟨rfl, rfl⟩
  repeat (
    first
      | refine WO_nil ?_
      | refine V_seq ?_
      | refine W_ret ?_
      | refine WO_dst rfl rfl (by kernel_rfl) (by kernel_rfl) ?_
      | refine Ev_assign rfl ?_)
  refine V_done rfl rfl ?_
  exact ⟨rfl, rfl⟩
def trimP (s p : List Nat) : List Nat := if s.take p.length = p then s.drop p.length else s
theorem take_le {s p : List Nat} (h : s.take p.length = p) : p.length ≤ s.length := by
  have := congrArg List.length h
  rw [List.length_take] at this; omega
theorem trimp_runs {S : St} {s p : List Nat} : Runs X1 79 [.str s, .str p] S fun v S' => S' = S ∧ v = .str (trimP s p) := by
  refine Runs_fn (m := 13) (by kernel_rfl) Tryd.func79 rfl (by kernel_rfl) (by kernel_rfl) ?_
  repeat (
    first
      | refine W_seq ?_
      | refine WO_nil ?_
      | refine V_seq ?_
      | refine W_region ?_
      | refine WO_dst rfl rfl (by kernel_rfl) (by kernel_rfl) ?_
      | refine Ev_move rfl ?_
      | refine Ev_assign rfl ?_)
  refine Ev_call rfl rfl (hasp_runs.mono ?_)
  rintro _ _ - ⟨rfl, rfl⟩
  rename_i S
  by_cases h : s.take p.length = p
  · have hle := take_le h
    rw [decide_eq_true h]
    repeat' (
      first
        | refine W_seq ?_
        | refine WO_nil ?_
        | refine V_seq ?_
        | refine W_region ?_
        | refine W_ret ?_
        | refine V_ret ?_
        | refine W_cond_t rfl ?_
        | refine WO_dst rfl rfl (by kernel_rfl) (by kernel_rfl) ?_
        | refine Ev_slice_str (lo' := some (.int .i64 ((p.length : Nat) : Int))) (hi' := none) (mx' := none) rfl rfl rfl rfl rfl rfl (str_lo hle) ?_
        | refine Ev_move rfl ?_
        | refine Ev_assign rfl ?_
        | refine Ev_len_str rfl rfl rfl rfl rfl ?_)
    refine V_done rfl rfl ?_
    refine ⟨rfl, ?_⟩
    unfold trimP; rw [if_pos h]; rfl
  · rw [decide_eq_false h]
    repeat' (
      first
        | refine W_seq ?_
        | refine WO_nil ?_
        | refine V_seq ?_
        | refine W_region ?_
        | refine W_skip ?_
        | refine W_ret ?_
        | refine W_cond_f rfl ?_
        | refine WO_dst rfl rfl (by kernel_rfl) (by kernel_rfl) ?_
        | refine Ev_move rfl ?_
        | refine Ev_assign rfl ?_)
    refine V_done rfl rfl ?_
    refine ⟨rfl, ?_⟩
    unfold trimP; rw [if_neg h]; rfl
theorem strimp_runs {S : St} {s p : List Nat} : Runs X1 64 [.str s, .str p] S fun v S' => S' = S ∧ v = .str (trimP s p) := by
  refine Runs_fn (m := 8) (by kernel_rfl) Tryd.func64 rfl (by kernel_rfl) (by kernel_rfl) ?_
  repeat (
    first
      | refine W_seq ?_
      | refine WO_nil ?_
      | refine V_seq ?_
      | refine W_region ?_
      | refine WO_dst rfl rfl (by kernel_rfl) (by kernel_rfl) ?_
      | refine Ev_move rfl ?_
      | refine Ev_assign rfl ?_)
  refine Ev_call rfl rfl (trimp_runs.mono ?_)
  rintro _ _ - ⟨rfl, rfl⟩
  repeat (
    first
      | refine WO_nil ?_
      | refine V_seq ?_
      | refine W_ret ?_
      | refine WO_dst rfl rfl (by kernel_rfl) (by kernel_rfl) ?_
      | refine Ev_assign rfl ?_)
  refine V_done rfl rfl ?_
  exact ⟨rfl, rfl⟩
theorem cutp_runs {S : St} {s p : List Nat} : Runs X1 81 [.str s, .str p] S fun v S' => S' = S ∧ v = .tup [.str (trimP s p), .bool (decide (s.take p.length = p))] := by
  refine Runs_fn (m := 15) (by kernel_rfl) Tryd.func81 rfl (by kernel_rfl) (by kernel_rfl) ?_
  repeat (
    first
      | refine W_seq ?_
      | refine WO_nil ?_
      | refine V_seq ?_
      | refine W_region ?_
      | refine WO_dst rfl rfl (by kernel_rfl) (by kernel_rfl) ?_
      | refine Ev_move rfl ?_
      | refine Ev_assign rfl ?_)
  refine Ev_call rfl rfl (hasp_runs.mono ?_)
  rintro _ _ - ⟨rfl, rfl⟩
  rename_i S
  by_cases h : s.take p.length = p
  · have hle := take_le h
    rw [decide_eq_true h]
    repeat' (
      first
        | refine W_seq ?_
        | refine WO_nil ?_
        | refine V_seq ?_
        | refine W_region ?_
        | refine W_skip ?_
        | refine W_ret ?_
        | refine W_cond_f rfl ?_
        | refine WO_dst rfl rfl (by kernel_rfl) (by kernel_rfl) ?_
        | refine Ev_slice_str (lo' := some (.int .i64 ((p.length : Nat) : Int))) (hi' := none) (mx' := none) rfl rfl rfl rfl rfl rfl (str_lo hle) ?_
        | refine Ev_move rfl ?_
        | refine Ev_assign rfl ?_
        | refine Ev_notb rfl ?_
        | refine Ev_len_str rfl rfl rfl rfl rfl ?_)
    refine V_done rfl rfl ?_
    refine ⟨rfl, ?_⟩
    unfold trimP; rw [if_pos h]; rfl
  · rw [decide_eq_false h]
    repeat' (
      first
        | refine W_seq ?_
        | refine WO_nil ?_
        | refine V_seq ?_
        | refine W_region ?_
        | refine W_ret ?_
        | refine V_ret ?_
        | refine W_cond_t rfl ?_
        | refine WO_dst rfl rfl (by kernel_rfl) (by kernel_rfl) ?_
        | refine Ev_move rfl ?_
        | refine Ev_assign rfl ?_
        | refine Ev_notb rfl ?_)
    refine V_done rfl rfl ?_
    refine ⟨rfl, ?_⟩
    unfold trimP; rw [if_neg h]; rfl
theorem scutp_runs {S : St} {s p : List Nat} : Runs X1 66 [.str s, .str p] S fun v S' => S' = S ∧ v = .tup [.str (trimP s p), .bool (decide (s.take p.length = p))] := by
  refine Runs_fn (m := 11) (by kernel_rfl) Tryd.func66 rfl (by kernel_rfl) (by kernel_rfl) ?_
  repeat (
    first
      | refine W_seq ?_
      | refine WO_nil ?_
      | refine V_seq ?_
      | refine W_region ?_
      | refine WO_dst rfl rfl (by kernel_rfl) (by kernel_rfl) ?_
      | refine Ev_move rfl ?_
      | refine Ev_assign rfl ?_)
  refine Ev_call rfl rfl (cutp_runs.mono ?_)
  rintro _ _ - ⟨rfl, rfl⟩
  repeat (
    first
      | refine WO_nil ?_
      | refine V_seq ?_
      | refine W_ret ?_
      | refine WO_dst rfl rfl (by kernel_rfl) (by kernel_rfl) ?_
      | refine Ev_assign rfl ?_
      | refine Ev_extract rfl rfl ?_)
  refine V_done rfl rfl ?_
  exact ⟨rfl, rfl⟩
def sufP (s p : List Nat) : Prop := p.length ≤ s.length ∧ s.drop (s.length - p.length) = p
instance (s p : List Nat) : Decidable (sufP s p) := by unfold sufP; exact inferInstance
theorem hass_runs {S : St} {s p : List Nat} (hs : s.length < 9223372036854775808) : Runs X1 91 [.str s, .str p] S fun v S' => S' = S ∧ v = .bool (decide (sufP s p)) := by
  refine Runs_fn (m := 21) (by kernel_rfl) Tryd.func91 rfl (by kernel_rfl) (by kernel_rfl) ?_
  repeat' (
    first
      | refine W_seq ?_
      | refine WO_nil ?_
      | refine V_seq ?_
      | refine W_region ?_
      | refine W_ret ?_
      | refine WO_dst rfl rfl (by kernel_rfl) (by kernel_rfl) ?_
      | refine WO_guard_t rfl rfl rfl rfl rfl (by kernel_rfl) (by kernel_rfl) ?_
      | refine WO_guard_f rfl rfl rfl rfl rfl rfl (by kernel_rfl) (by kernel_rfl) ?_
      | refine Ev_slice_str (lo' := some (.int .i64 ((s.length - p.length : Nat) : Int))) (hi' := none) (mx' := none) rfl rfl rfl rfl rfl rfl (str_lo (by omega)) ?_
      | refine Ev_move rfl ?_
      | refine Ev_assign rfl ?_
      | refine Ev_pick_t rfl rfl rfl ?_
      | refine Ev_pick_f rfl rfl rfl ?_
      | refine Ev_geqN rfl rfl ?_
      | refine Ev_seql rfl rfl ?_
      | refine Ev_len_str rfl rfl rfl rfl rfl ?_
      | refine Ev_subN rfl rfl (by simp only [lim]; omega) (by first | omega | (dsimp only; done) | (dsimp only; omega)) ?_
      | (refine WO_guard_dt rfl rfl rfl rfl rfl (by kernel_rfl) (by kernel_rfl) (fun hg => ?_) (fun hg => ?_) <;> (try dsimp only at hg) <;> try (exfalso; first | omega | exact hg rfl)))
  · refine V_done rfl rfl ?_
    refine ⟨rfl, ?_⟩
    show AV.bool (decide (s.drop (s.length - p.length) = p)) = _
    have h : p.length ≤ s.length := by omega
    congr 1
    exact decide_eq_decide.2 ⟨fun g => ⟨h, g⟩, fun g => g.2⟩
  · refine V_done rfl rfl ?_
    refine ⟨rfl, ?_⟩
    rw [decide_eq_false]; rfl
    intro h
    have := h.1; omega
def trimS (s p : List Nat) : List Nat := if sufP s p then s.take (s.length - p.length) else s
theorem cuts_runs {S : St} {s p : List Nat} (hs : s.length < 9223372036854775808) : Runs X1 87 [.str s, .str p] S fun v S' => S' = S ∧ v = .tup [.str (trimS s p), .bool (decide (sufP s p))] := by
  refine Runs_fn (m := 18) (by kernel_rfl) Tryd.func87 rfl (by kernel_rfl) (by kernel_rfl) ?_
  repeat (
    first
      | refine W_seq ?_
      | refine WO_nil ?_
      | refine V_seq ?_
      | refine W_region ?_
      | refine WO_dst rfl rfl (by kernel_rfl) (by kernel_rfl) ?_
      | refine Ev_move rfl ?_
      | refine Ev_assign rfl ?_)
  refine Ev_call rfl rfl ((hass_runs hs).mono ?_)
  rintro _ _ - ⟨rfl, rfl⟩
  rename_i S
  by_cases h : sufP s p
  · have hle := h.1
    rw [decide_eq_true h]
    repeat' (
      first
        | refine W_seq ?_
        | refine WO_nil ?_
        | refine V_seq ?_
        | refine W_region ?_
        | refine W_skip ?_
        | refine W_ret ?_
        | refine W_cond_f rfl ?_
        | refine WO_dst rfl rfl (by kernel_rfl) (by kernel_rfl) ?_
        | refine Ev_slice_str (lo' := none) (hi' := some (.int .i64 ((s.length - p.length : Nat) : Int))) (mx' := none) rfl rfl rfl rfl rfl rfl (str_hi (by omega)) ?_
        | refine Ev_move rfl ?_
        | refine Ev_assign rfl ?_
        | refine Ev_notb rfl ?_
        | refine Ev_len_str rfl rfl rfl rfl rfl ?_
        | refine Ev_subN rfl rfl (by simp only [lim]; omega) (by first | omega | (dsimp only; done) | (dsimp only; omega)) ?_)
    refine V_done rfl rfl ?_
    refine ⟨rfl, ?_⟩
    unfold trimS; rw [if_pos h]; rfl
  · rw [decide_eq_false h]
    repeat' (
      first
        | refine W_seq ?_
        | refine WO_nil ?_
        | refine V_seq ?_
        | refine W_region ?_
        | refine W_ret ?_
        | refine V_ret ?_
        | refine W_cond_t rfl ?_
        | refine WO_dst rfl rfl (by kernel_rfl) (by kernel_rfl) ?_
        | refine Ev_move rfl ?_
        | refine Ev_assign rfl ?_
        | refine Ev_notb rfl ?_)
    refine V_done rfl rfl ?_
    refine ⟨rfl, ?_⟩
    unfold trimS; rw [if_neg h]; rfl
theorem scuts_runs {S : St} {s p : List Nat} (hs : s.length < 9223372036854775808) : Runs X1 80 [.str s, .str p] S fun v S' => S' = S ∧ v = .tup [.str (trimS s p), .bool (decide (sufP s p))] := by
  refine Runs_fn (m := 11) (by kernel_rfl) Tryd.func80 rfl (by kernel_rfl) (by kernel_rfl) ?_
  repeat (
    first
      | refine W_seq ?_
      | refine WO_nil ?_
      | refine V_seq ?_
      | refine W_region ?_
      | refine WO_dst rfl rfl (by kernel_rfl) (by kernel_rfl) ?_
      | refine Ev_move rfl ?_
      | refine Ev_assign rfl ?_)
  refine Ev_call rfl rfl ((cuts_runs hs).mono ?_)
  rintro _ _ - ⟨rfl, rfl⟩
  repeat (
    first
      | refine WO_nil ?_
      | refine V_seq ?_
      | refine W_ret ?_
      | refine WO_dst rfl rfl (by kernel_rfl) (by kernel_rfl) ?_
      | refine Ev_assign rfl ?_
      | refine Ev_extract rfl rfl ?_)
  refine V_done rfl rfl ?_
  exact ⟨rfl, rfl⟩
/-- a letter of a name -/
def okc (i c : Nat) : Prop := (97 ≤ c ∧ c ≤ 122) ∨ (65 ≤ c ∧ c ≤ 90) ∨ c = 95 ∨ c = 36 ∨ (0 < i ∧ 48 ≤ c ∧ c ≤ 57)
instance (i c : Nat) : Decidable (okc i c) := by unfold okc; exact inferInstance
def nameP (s : List Nat) : Prop := (1 ≤ s.length ∧ s.length ≤ 64) ∧ ∀ i, i < s.length → okc i (s.getD i 0)
instance (s : List Nat) : Decidable (nameP s) := by unfold nameP; exact inferInstance
theorem get_some {s : List Nat} {i : Nat} (h : i < s.length) : s[i]? = some (s.getD i 0) := by
  rw [List.getD_eq_getElem?_getD, List.getElem?_eq_getElem h]; rfl
theorem name_runs {S : St} {s : List Nat} (hs : s.length < 9223372036854775808) : Runs X1 46 [.str s] S fun v S' => S' = S ∧ v = .bool (decide (nameP s)) := by
  refine Runs_fn (m := 58) (by kernel_rfl) Tryd.func46 rfl (by kernel_rfl) (by kernel_rfl) ?_
  repeat (
    first
      | refine W_seq ?_
      | refine WO_nil ?_
      | refine V_seq ?_
      | refine W_region ?_
      | refine W_block ?_
      | refine WO_dst rfl rfl (by kernel_rfl) (by kernel_rfl) ?_
      | refine Ev_move rfl ?_
      | refine Ev_assign rfl ?_
      | refine Ev_len_str rfl rfl rfl rfl rfl ?_)
  refine W_inv (fun i : Nat => [(8, .int .i64 ((i : Nat) : Int)), (7, .int .i64 ((s.length : Nat) : Int)), (0, .str s)]) (fun i T => T = S ∧ i ≤ s.length ∧ ∀ j, j < i → okc j (s.getD j 0)) (fun i => s.length - i) ?_ 0 ⟨rfl, by omega, fun j hj => by omega⟩ ⟨rfl, rfl, rfl, trivial⟩
  rintro i T ⟨rfl, hi, hall⟩ back
  repeat' (
    first
      | refine W_seq ?_
      | refine WO_nil ?_
      | refine V_seq ?_
      | refine W_region ?_
      | refine W_block ?_
      | refine W_skip ?_
      | refine W_ret ?_
      | refine W_exit ?_
      | refine V_ret ?_
      | refine V_block ?_
      | refine V_block_x rfl ?_
      | refine V_seq_x ?_
      | refine V_loop_x ?_
      | refine W_cond_t rfl ?_
      | refine W_cond_f rfl ?_
      | refine WO_dst rfl rfl (by kernel_rfl) (by kernel_rfl) ?_
      | refine WO_guard_t rfl rfl rfl rfl rfl (by kernel_rfl) (by kernel_rfl) ?_
      | refine WO_guard_f rfl rfl rfl rfl rfl rfl (by kernel_rfl) (by kernel_rfl) ?_
      | refine WO_guard_x rfl rfl rfl rfl rfl (by kernel_rfl) (by kernel_rfl) ?_
      | refine Ev_index rfl rfl rfl rfl (get_some (by first | omega | (dsimp only; omega))) ?_
      | refine Ev_move rfl ?_
      | refine Ev_assign rfl ?_
      | refine Ev_pick_t rfl rfl rfl ?_
      | refine Ev_pick_f rfl rfl rfl ?_
      | refine Ev_lssN rfl rfl ?_
      | refine Ev_leqN rfl rfl ?_
      | refine Ev_gtrN rfl rfl ?_
      | refine Ev_geqN rfl rfl ?_
      | refine Ev_eqlN rfl rfl ?_
      | refine Ev_sneq rfl rfl ?_
      | refine Ev_not rfl ?_
      | refine Ev_notb rfl ?_
      | refine Ev_len_str rfl rfl rfl rfl rfl ?_
      | refine Ev_addN rfl rfl (by simp only [lim]; omega) ?_
      | (refine WO_guard_dt rfl rfl rfl rfl rfl (by kernel_rfl) (by kernel_rfl) (fun hg => ?_) (fun hg => ?_) <;> (try dsimp only at hg) <;> try (exfalso; first | omega | exact hg rfl))
      | (refine WO_guard_df rfl rfl rfl rfl rfl (by kernel_rfl) (by kernel_rfl) (fun hg => ?_) (fun hg => ?_) <;> (try dsimp only at hg) <;> try (exfalso; first | omega | exact hg rfl))
      | (refine W_cond rfl (fun hc => ?_) (fun hc => ?_) <;> (try dsimp only at hc) <;> try (exfalso; first | omega | exact hc rfl)))
  all_goals first
    | (refine back (i + 1) _ _ (by omega) ⟨rfl, by omega, fun j hj => ?_⟩ ⟨rfl, rfl, rfl, trivial⟩
       rcases Nat.lt_or_ge j i with h | h
       · exact hall j h
       · have hji : j = i := by omega
         subst hji; unfold okc; omega)
    | (refine V_done rfl rfl ⟨rfl, ?_⟩
       rw [decide_eq_false (fun h => by have := h.2 i (by omega); unfold okc at this; omega)]; rfl)
    | (refine V_done rfl rfl ⟨rfl, ?_⟩
       have h0 : ¬ 1 ≤ s.length := by first | exact hg | (have h1 : s = [] := Classical.not_not.1 hg; rw [h1]; decide)
       rw [decide_eq_false (fun h => h0 h.1.1)]; rfl)
    | (refine V_done rfl rfl ⟨rfl, ?_⟩
       have hl : 1 ≤ s.length := by first | exact hg | exact List.length_pos_iff.2 hg
       show AV.bool (decide (s.length ≤ 64)) = _
       congr 1
       exact decide_eq_decide.2 ⟨fun g => ⟨⟨hl, g⟩, fun j hj => hall j (by omega)⟩, fun g => g.1.2⟩)
theorem rname_runs {S : St} {s : List Nat} (hs : s.length < 9223372036854775808) : Runs X1 50 [.str s] S fun v S' => S' = S ∧ v = .bool (decide (nameP s)) := by
  refine Runs_fn (m := 59) (by kernel_rfl) Tryd.func50 rfl (by kernel_rfl) (by kernel_rfl) ?_
  repeat (
    first
      | refine W_seq ?_
      | refine WO_nil ?_
      | refine V_seq ?_
      | refine W_region ?_
      | refine W_block ?_
      | refine WO_dst rfl rfl (by kernel_rfl) (by kernel_rfl) ?_
      | refine Ev_assign rfl ?_)
  refine W_inv (fun i : Nat => [(3, .int .i64 ((i : Nat) : Int)), (0, .str s)]) (fun i T => T = S ∧ i ≤ s.length ∧ ∀ j, j < i → okc j (s.getD j 0)) (fun i => s.length - i) ?_ 0 ⟨rfl, by omega, fun j hj => by omega⟩ ⟨rfl, rfl, trivial⟩
  rintro i T ⟨rfl, hi, hall⟩ back
  repeat' (
    first
      | refine W_seq ?_
      | refine WO_nil ?_
      | refine V_seq ?_
      | refine W_region ?_
      | refine W_block ?_
      | refine W_skip ?_
      | refine W_ret ?_
      | refine W_exit ?_
      | refine V_ret ?_
      | refine V_block ?_
      | refine V_block_x rfl ?_
      | refine V_seq_x ?_
      | refine V_loop_x ?_
      | refine W_cond_t rfl ?_
      | refine W_cond_f rfl ?_
      | refine WO_dst rfl rfl (by kernel_rfl) (by kernel_rfl) ?_
      | refine WO_guard_t rfl rfl rfl rfl rfl (by kernel_rfl) (by kernel_rfl) ?_
      | refine WO_guard_f rfl rfl rfl rfl rfl rfl (by kernel_rfl) (by kernel_rfl) ?_
      | refine WO_guard_x rfl rfl rfl rfl rfl (by kernel_rfl) (by kernel_rfl) ?_
      | refine Ev_index rfl rfl rfl rfl (get_some (by first | omega | (dsimp only; omega))) ?_
      | refine Ev_move rfl ?_
      | refine Ev_assign rfl ?_
      | refine Ev_pick_t rfl rfl rfl ?_
      | refine Ev_pick_f rfl rfl rfl ?_
      | refine Ev_lssN rfl rfl ?_
      | refine Ev_leqN rfl rfl ?_
      | refine Ev_gtrN rfl rfl ?_
      | refine Ev_geqN rfl rfl ?_
      | refine Ev_eqlN rfl rfl ?_
      | refine Ev_not rfl ?_
      | refine Ev_notb rfl ?_
      | refine Ev_len_str rfl rfl rfl rfl rfl ?_
      | refine Ev_addN rfl rfl (by simp only [lim]; omega) ?_
      | (refine WO_guard_dt rfl rfl rfl rfl rfl (by kernel_rfl) (by kernel_rfl) (fun hg => ?_) (fun hg => ?_) <;> (try dsimp only at hg) <;> try (exfalso; first | omega | exact hg rfl))
      | (refine WO_guard_df rfl rfl rfl rfl rfl (by kernel_rfl) (by kernel_rfl) (fun hg => ?_) (fun hg => ?_) <;> (try dsimp only at hg) <;> try (exfalso; first | omega | exact hg rfl))
      | (refine W_cond rfl (fun hc => ?_) (fun hc => ?_) <;> (try dsimp only at hc) <;> try (exfalso; first | omega | exact hc rfl)))
  all_goals first
    | (refine back (i + 1) _ _ (by omega) ⟨rfl, by omega, fun j hj => ?_⟩ ⟨rfl, rfl, trivial⟩
       rcases Nat.lt_or_ge j i with h | h
       · exact hall j h
       · have hji : j = i := by omega
         subst hji; unfold okc; omega)
    | (refine V_done rfl rfl ⟨rfl, ?_⟩
       rw [decide_eq_false (fun h => by have := h.2 i (by omega); unfold okc at this; omega)]; rfl)
    | (refine V_done rfl rfl ⟨rfl, ?_⟩
       have h0 : ¬ 1 ≤ s.length := by first | exact hg | (have h1 : s = [] := Classical.not_not.1 hg; rw [h1]; decide)
       rw [decide_eq_false (fun h => h0 h.1.1)]; rfl)
    | (refine V_done rfl rfl ⟨rfl, ?_⟩
       have hl : 1 ≤ s.length := by first | exact hg | exact List.length_pos_iff.2 hg
       show AV.bool (decide (s.length ≤ 64)) = _
       congr 1
       exact decide_eq_decide.2 ⟨fun g => ⟨⟨hl, g⟩, fun j hj => hall j (by omega)⟩, fun g => g.1.2⟩)
end Go.Proofs.YthhbnnnokmefoaaDoor
/- descr.Class, Field, split: what they tell. -/


namespace Go.Proofs.YthhbnnnokmefoaaDoor
open GX
set_option maxHeartbeats 8000000
/-- where the first ';' is -/
def semi : List Nat → Option Nat
  | [] => none
  | c :: l => if c = 59 then some 0 else (semi l).map (· + 1)
theorem ixb_semi : ∀ (l : List Nat) (i : Nat), ixb 59 l i = match semi l with | some k => ((i + k : Nat) : Int) | none => -1
  | [], _ => rfl
  | c :: l, i => by
    unfold ixb semi
    by_cases h : c = 59
    · subst h; rfl
    · have h2 : Nat.beq c 59 = false := by rw [nbeq]; exact decide_eq_false h
      rw [if_neg h]
      simp only [h2, cond_false]
      rw [ixb_semi l (i + 1)]
      cases semi l with
      | none => rfl
      | some k => simp only [Option.map_some]; congr 1; omega
theorem semi_some : ∀ {l : List Nat} {k : Nat}, semi l = some k → k < l.length ∧ l = l.take k ++ 59 :: l.drop (k + 1) ∧ ∀ c ∈ l.take k, c ≠ 59
  | [], _, h => by cases h
  | c :: l, k, h => by
    unfold semi at h
    by_cases hc : c = 59
    · rw [if_pos hc] at h; cases h; subst hc; simp
    · rw [if_neg hc] at h
      cases hs : semi l with
      | none => rw [hs] at h; cases h
      | some j =>
        rw [hs] at h
        simp only [Option.map_some, Option.some.injEq] at h
        subst h
        obtain ⟨h1, h2, h3⟩ := semi_some hs
        refine ⟨by simpa using h1, by simpa using h2, fun d hd => ?_⟩
        simp only [List.take_succ_cons, List.mem_cons] at hd
        rcases hd with rfl | hd
        · exact hc
        · exact h3 d hd
theorem semi_app : ∀ {n : List Nat} {r : List Nat}, (∀ c ∈ n, c ≠ 59) → semi (n ++ 59 :: r) = some n.length
  | [], r, _ => by simp [semi]
  | c :: n, r, h => by
    show semi (c :: (n ++ 59 :: r)) = _
    unfold semi
    rw [if_neg (h c (List.mem_cons_self ..)), semi_app (fun d hd => h d (List.mem_cons_of_mem _ hd))]; rfl
theorem name_c {n : List Nat} (h : nameP n) : ∀ c ∈ n, c ≠ 59 ∧ c ≠ 91 ∧ c < 128 ∧ 0 < c := by
  intro c hc
  obtain ⟨i, hi, rfl⟩ := List.mem_iff_getElem.1 hc
  have := h.2 i hi
  rw [List.getD_eq_getElem?_getD, List.getElem?_eq_getElem hi] at this
  simp only [Option.getD_some] at this
  unfold okc at this
  omega
def base1 : List Nat → Nat
  | [] => 0
  | c :: r => if c = 73 then 1 else if c = 76 then (match semi r with | some k => if nameP (r.take k) then k + 2 else 0 | none => 0) else 0
theorem base1_cons (c : Nat) (r : List Nat) : base1 (c :: r) = if c = 73 then 1 else if c = 76 then (match semi r with | some k => if nameP (r.take k) then k + 2 else 0 | none => 0) else 0 := rfl
/-- how many bytes the field has with which a text begins; 0: none -/
def oneS : List Nat → Nat
  | [] => 0
  | c :: r => if c = 91 then (if base1 r = 0 then 0 else base1 r + 1) else base1 (c :: r)
theorem oneS_cons (c : Nat) (r : List Nat) : oneS (c :: r) = if c = 91 then (if base1 r = 0 then 0 else base1 r + 1) else base1 (c :: r) := rfl
def fieldP (s : List Nat) : Prop := s ≠ [] ∧ oneS s = s.length
instance (s : List Nat) : Decidable (fieldP s) := by unfold fieldP; exact inferInstance
theorem base1_L {n r : List Nat} (h : ∀ c ∈ n, c ≠ 59) : base1 (76 :: (n ++ 59 :: r)) = if nameP n then n.length + 2 else 0 := by
  rw [base1_cons, if_neg (by decide), if_pos rfl, semi_app h]
  simp
theorem base1_len {t : List Nat} : (t ≠ [] ∧ base1 t = t.length) ↔ t = [73] ∨ ∃ n, t = 76 :: (n ++ [59]) ∧ nameP n := by
  constructor
  · rintro ⟨h1, h2⟩
    cases t with
    | nil => exact absurd rfl h1
    | cons c r =>
      rw [base1_cons] at h2
      split at h2
      · rename_i hc
        left
        have : r = [] := by simp at h2; exact h2
        rw [hc, this]
      · split at h2
        · rename_i hc
          split at h2
          · rename_i k hk
            split at h2
            · rename_i hn
              obtain ⟨g1, g2, g3⟩ := semi_some hk
              right
              refine ⟨r.take k, ?_, hn⟩
              have hd : r.drop (k + 1) = [] := List.drop_eq_nil_iff.2 (by simp at h2; omega)
              rw [hd] at g2
              rw [hc, ← g2]
            · simp at h2
          · simp at h2
        · simp at h2
  · rintro (rfl | ⟨n, rfl, hn⟩)
    · exact ⟨by simp, rfl⟩
    · refine ⟨by simp, ?_⟩
      rw [base1_L (fun c hc => (name_c hn c hc).1), if_pos hn]; simp
theorem field_iff {s : List Nat} : fieldP s ↔ (∃ t, s = 91 :: t ∧ (t = [73] ∨ ∃ n, t = 76 :: (n ++ [59]) ∧ nameP n)) ∨ (s = [73] ∨ ∃ n, s = 76 :: (n ++ [59]) ∧ nameP n) := by
  unfold fieldP
  cases s with
  | nil => simp
  | cons c r =>
    by_cases hc : c = 91
    · subst hc
      have e : oneS (91 :: r) = if base1 r = 0 then 0 else base1 r + 1 := by rw [oneS_cons, if_pos rfl]
      rw [e]
      constructor
      · rintro ⟨_, h⟩
        left
        refine ⟨r, rfl, base1_len.1 ?_⟩
        split at h
        · simp at h
        · rename_i h0
          simp at h
          refine ⟨fun hr => h0 (by rw [hr]; rfl), h⟩
      · rintro (⟨t, ht, h⟩ | h | ⟨n, h, _⟩)
        · cases ht
          obtain ⟨h1, h2⟩ := base1_len.2 h
          have h3 : 0 < r.length := List.length_pos_iff.2 h1
          rw [if_neg (by omega), h2]; simp
        · cases h
        · cases h
    · have e : oneS (c :: r) = base1 (c :: r) := by rw [oneS_cons, if_neg hc]
      rw [e]
      constructor
      · intro h; exact .inr (base1_len.1 h)
      · rintro (⟨t, ht, _⟩ | h)
        · cases ht; exact absurd rfl hc
        · exact base1_len.2 h
/-- the class that a type names that is no array's -/
def clsS (t : List Nat) : List Nat := if t.take 1 = [76] ∧ sufP (trimP t [76]) [59] ∧ nameP (trimS (trimP t [76]) [59]) then trimS (trimP t [76]) [59] else []
theorem cls_L {n : List Nat} (h : nameP n) : clsS (76 :: (n ++ [59])) = n := by
  have e1 : trimP (76 :: (n ++ [59])) [76] = n ++ [59] := by unfold trimP; simp
  have e2 : sufP (n ++ [59]) [59] := by unfold sufP; simp
  have e3 : trimS (n ++ [59]) [59] = n := by unfold trimS; rw [if_pos e2]; simp
  unfold clsS
  rw [e1, e3, if_pos ⟨by simp, e2, h⟩]
theorem cls_ne {t : List Nat} (h : clsS t ≠ []) : ∃ n, t = 76 :: (n ++ [59]) ∧ nameP n ∧ clsS t = n := by
  unfold clsS at h
  split at h
  · rename_i hh
    obtain ⟨h1, h2, h3⟩ := hh
    have e1 : trimP t [76] = t.drop 1 := by unfold trimP; exact if_pos h1
    rw [e1] at h2 h3
    have e3 : trimS (t.drop 1) [59] = (t.drop 1).take ((t.drop 1).length - 1) := by unfold trimS; exact if_pos h2
    rw [e3] at h3
    have h4 := h2.2
    have hd : t.drop 1 = (t.drop 1).take ((t.drop 1).length - 1) ++ [59] := by
      conv => lhs; rw [← List.take_append_drop ((t.drop 1).length - 1) (t.drop 1)]
      rw [show (t.drop 1).length - 1 = (t.drop 1).length - [59].length from rfl, h4]
    have ht : t = 76 :: (t.drop 1) := by
      conv => lhs; rw [← List.take_append_drop 1 t]
      rw [h1]; rfl
    refine ⟨(t.drop 1).take ((t.drop 1).length - 1), by rw [← hd]; exact ht, h3, ?_⟩
    rw [ht, hd]
    generalize hg : (t.drop 1).take ((t.drop 1).length - 1) = n at h3 ⊢
    rw [cls_L h3]
    simp
  · exact absurd rfl h
theorem field_cls {s : List Nat} : (trimP s [91] = [73] ∨ (¬ (trimP s [91]).take 1 = [91] ∧ clsS (trimP s [91]) ≠ [])) ↔ fieldP s := by
  rw [field_iff]
  have key : ∀ t : List Nat, (t = [73] ∨ (¬ t.take 1 = [91] ∧ clsS t ≠ [])) ↔ (t = [73] ∨ ∃ n, t = 76 :: (n ++ [59]) ∧ nameP n) := by
    intro t
    constructor
    · rintro (h | ⟨_, h⟩)
      · exact .inl h
      · obtain ⟨n, h1, h2, _⟩ := cls_ne h; exact .inr ⟨n, h1, h2⟩
    · rintro (h | ⟨n, rfl, h⟩)
      · exact .inl h
      · refine .inr ⟨by simp, ?_⟩
        rw [cls_L h]
        intro h0; have := h.1.1; rw [h0] at this; simp at this
  rw [key]
  unfold trimP
  cases s with
  | nil => simp
  | cons c r =>
    by_cases hc : c = 91
    · subst hc
      simp
    · simp [hc]
theorem cls_runs {S : St} {t : List Nat} (ht : t.length < 9223372036854775808) (hb : ¬ t.take 1 = [91]) : Runs X1 65 [.str t] S fun v S' => S' = S ∧ v = .str (clsS t) := by
  have hl1 : (trimP t [76]).length ≤ t.length := by unfold trimP; split <;> simp
  have hl2 : (trimS (trimP t [76]) [59]).length ≤ t.length := by
    unfold trimS; split
    · rw [List.length_take]; omega
    · exact hl1
  refine Runs_fn (m := 34) (by kernel_rfl) Tryd.func65 rfl (by kernel_rfl) (by kernel_rfl) ?_
  repeat (
    first
      | refine W_seq ?_
      | refine WO_nil ?_
      | refine V_seq ?_
      | refine W_region ?_
      | refine WO_dst rfl rfl (by kernel_rfl) (by kernel_rfl) ?_
      | refine Ev_move rfl ?_
      | refine Ev_assign rfl ?_)
  refine Ev_call rfl rfl ((shasp_runs (p := [91])).mono ?_)
  rintro _ _ - ⟨rfl, rfl⟩
  rename_i S
  rw [decide_eq_false (show ¬ t.take [91].length = [91] from hb)]
  repeat' (
    first
      | refine W_seq ?_
      | refine WO_nil ?_
      | refine V_seq ?_
      | refine W_region ?_
      | refine W_skip ?_
      | refine W_cond_f rfl ?_
      | refine WO_dst rfl rfl (by kernel_rfl) (by kernel_rfl) ?_
      | refine WO_guard_f rfl rfl rfl rfl rfl rfl (by kernel_rfl) (by kernel_rfl) ?_
      | refine Ev_move rfl ?_
      | refine Ev_pick_f rfl rfl rfl ?_)
  refine Ev_call rfl rfl ((scutp_runs (p := [76])).mono ?_)
  rintro _ _ - ⟨rfl, rfl⟩
  repeat' (
    first
      | refine W_seq ?_
      | refine WO_nil ?_
      | refine V_seq ?_
      | refine W_region ?_
      | refine WO_dst rfl rfl (by kernel_rfl) (by kernel_rfl) ?_
      | refine Ev_move rfl ?_
      | refine Ev_assign rfl ?_
      | refine Ev_extract rfl rfl ?_)
  refine Ev_call rfl rfl ((scuts_runs (p := [59]) (by omega)).mono ?_)
  rintro _ _ - ⟨rfl, rfl⟩
  rename_i S
  by_cases h1 : t.take 1 = [76]
  · rw [decide_eq_true (show t.take [76].length = [76] from h1)]
    by_cases h2 : sufP (trimP t [76]) [59]
    · rw [decide_eq_true h2]
      repeat' (
        first
          | refine W_seq ?_
          | refine WO_nil ?_
          | refine V_seq ?_
          | refine W_region ?_
          | refine WO_dst rfl rfl (by kernel_rfl) (by kernel_rfl) ?_
          | refine WO_guard_t rfl rfl rfl rfl rfl (by kernel_rfl) (by kernel_rfl) ?_
          | refine Ev_move rfl ?_
          | refine Ev_assign rfl ?_
          | refine Ev_extract rfl rfl ?_
          | refine Ev_pick_f rfl rfl rfl ?_
          | refine Ev_notb rfl ?_)
      refine Ev_call rfl rfl ((name_runs (by omega)).mono ?_)
      rintro _ _ - ⟨rfl, rfl⟩
      repeat' (
        first
          | refine W_seq ?_
          | refine WO_nil ?_
          | refine V_seq ?_
          | refine W_region ?_
          | refine W_skip ?_
          | refine W_ret ?_
          | refine V_ret ?_
          | refine WO_dst rfl rfl (by kernel_rfl) (by kernel_rfl) ?_
          | refine WO_guard_t rfl rfl rfl rfl rfl (by kernel_rfl) (by kernel_rfl) ?_
          | refine Ev_move rfl ?_
          | refine Ev_assign rfl ?_
          | refine Ev_pick_f rfl rfl rfl ?_
          | refine Ev_not rfl ?_
          | (refine W_cond rfl (fun hc => ?_) (fun hc => ?_) <;> (try dsimp only at hc) <;> try (exfalso; first | omega | exact hc rfl)))
      · refine V_done rfl rfl ⟨rfl, ?_⟩
        unfold clsS; rw [if_neg (fun h => by first | exact hc h.2.2 | exact absurd h.2.2 hc)]; rfl
      · refine V_done rfl rfl ⟨rfl, ?_⟩
        unfold clsS; rw [if_pos ⟨h1, h2, by first | exact Classical.not_not.1 hc | exact hc⟩]; rfl
    · rw [decide_eq_false h2]
      repeat' (
        first
          | refine W_seq ?_
          | refine WO_nil ?_
          | refine V_seq ?_
          | refine W_region ?_
          | refine W_ret ?_
          | refine V_ret ?_
          | refine W_cond_t rfl ?_
          | refine WO_dst rfl rfl (by kernel_rfl) (by kernel_rfl) ?_
          | refine WO_guard_t rfl rfl rfl rfl rfl (by kernel_rfl) (by kernel_rfl) ?_
          | refine WO_guard_f rfl rfl rfl rfl rfl rfl (by kernel_rfl) (by kernel_rfl) ?_
          | refine Ev_move rfl ?_
          | refine Ev_assign rfl ?_
          | refine Ev_extract rfl rfl ?_
          | refine Ev_pick_t rfl rfl rfl ?_
          | refine Ev_pick_f rfl rfl rfl ?_
          | refine Ev_notb rfl ?_)
      refine V_done rfl rfl ⟨rfl, ?_⟩
      unfold clsS; rw [if_neg (fun h => h2 h.2.1)]; rfl
  · rw [decide_eq_false (show ¬ t.take [76].length = [76] from h1)]
    repeat' (
      first
        | refine W_seq ?_
        | refine WO_nil ?_
        | refine V_seq ?_
        | refine W_region ?_
        | refine W_ret ?_
        | refine V_ret ?_
        | refine W_cond_t rfl ?_
        | refine WO_dst rfl rfl (by kernel_rfl) (by kernel_rfl) ?_
        | refine WO_guard_f rfl rfl rfl rfl rfl rfl (by kernel_rfl) (by kernel_rfl) ?_
        | refine Ev_move rfl ?_
        | refine Ev_assign rfl ?_
        | refine Ev_extract rfl rfl ?_
        | refine Ev_pick_t rfl rfl rfl ?_
        | refine Ev_notb rfl ?_)
    refine V_done rfl rfl ⟨rfl, ?_⟩
    unfold clsS; rw [if_neg (fun h => h1 h.1)]; rfl
theorem field_runs {S : St} {s : List Nat} (hs : s.length < 9223372036854775808) : Runs X1 45 [.str s] S fun v S' => S' = S ∧ v = .bool (decide (fieldP s)) := by
  have hl1 : (trimP s [91]).length ≤ s.length := by unfold trimP; split <;> simp
  have hf := field_cls (s := s)
  refine Runs_fn (m := 17) (by kernel_rfl) Tryd.func45 rfl (by kernel_rfl) (by kernel_rfl) ?_
  repeat (
    first
      | refine W_seq ?_
      | refine WO_nil ?_
      | refine V_seq ?_
      | refine W_region ?_
      | refine WO_dst rfl rfl (by kernel_rfl) (by kernel_rfl) ?_
      | refine Ev_move rfl ?_
      | refine Ev_assign rfl ?_)
  refine Ev_call rfl rfl ((strimp_runs (p := [91])).mono ?_)
  rintro _ _ - ⟨rfl, rfl⟩
  rename_i S
  generalize trimP s [91] = t at hl1 hf ⊢
  repeat' (
    first
      | refine W_seq ?_
      | refine WO_nil ?_
      | refine V_seq ?_
      | refine W_region ?_
      | refine W_ret ?_
      | refine WO_dst rfl rfl (by kernel_rfl) (by kernel_rfl) ?_
      | refine WO_guard_t rfl rfl rfl rfl rfl (by kernel_rfl) (by kernel_rfl) ?_
      | refine WO_guard_f rfl rfl rfl rfl rfl rfl (by kernel_rfl) (by kernel_rfl) ?_
      | refine WO_guard_x rfl rfl rfl rfl rfl (by kernel_rfl) (by kernel_rfl) ?_
      | refine Ev_move rfl ?_
      | refine Ev_assign rfl ?_
      | refine Ev_pick_t rfl rfl rfl ?_
      | refine Ev_seql rfl rfl ?_
      | (refine WO_guard_df rfl rfl rfl rfl rfl (by kernel_rfl) (by kernel_rfl) (fun hg => ?_) (fun hg => ?_) <;> (try dsimp only at hg) <;> try (exfalso; first | omega | exact hg rfl)))
  · refine Ev_call rfl rfl ((shasp_runs (p := [91])).mono ?_)
    rintro _ _ - ⟨rfl, rfl⟩
    rename_i S
    by_cases hb : t.take 1 = [91]
    · rw [decide_eq_true (show t.take [91].length = [91] from hb)]
      repeat' (
        first
          | refine WO_nil ?_
          | refine V_seq ?_
          | refine W_ret ?_
          | refine WO_dst rfl rfl (by kernel_rfl) (by kernel_rfl) ?_
          | refine WO_guard_t rfl rfl rfl rfl rfl (by kernel_rfl) (by kernel_rfl) ?_
          | refine WO_guard_f rfl rfl rfl rfl rfl rfl (by kernel_rfl) (by kernel_rfl) ?_
          | refine Ev_move rfl ?_
          | refine Ev_assign rfl ?_
          | refine Ev_pick_f rfl rfl rfl ?_
          | refine Ev_notb rfl ?_)
      refine V_done rfl rfl ⟨rfl, ?_⟩
      rw [decide_eq_false (fun h => by rcases hf.2 h with h | h; exact hg h; exact h.1 hb)]; rfl
    · rw [decide_eq_false (show ¬ t.take [91].length = [91] from hb)]
      repeat' (
        first
          | refine WO_dst rfl rfl (by kernel_rfl) (by kernel_rfl) ?_
          | refine WO_guard_t rfl rfl rfl rfl rfl (by kernel_rfl) (by kernel_rfl) ?_
          | refine Ev_move rfl ?_
          | refine Ev_notb rfl ?_)
      refine Ev_call rfl rfl ((cls_runs (by omega) hb).mono ?_)
      rintro _ _ - ⟨rfl, rfl⟩
      repeat' (
        first
          | refine WO_nil ?_
          | refine V_seq ?_
          | refine W_ret ?_
          | refine WO_dst rfl rfl (by kernel_rfl) (by kernel_rfl) ?_
          | refine WO_guard_t rfl rfl rfl rfl rfl (by kernel_rfl) (by kernel_rfl) ?_
          | refine Ev_assign rfl ?_
          | refine Ev_pick_t rfl rfl rfl ?_
          | refine Ev_pick_f rfl rfl rfl ?_
          | refine Ev_sneq rfl rfl ?_)
      refine V_done rfl rfl ⟨rfl, ?_⟩
      show AV.bool (decide (clsS t ≠ [])) = _
      congr 1
      exact decide_eq_decide.2 ⟨fun h => hf.1 (.inr ⟨hb, h⟩), fun h => by rcases hf.2 h with h | h; exact absurd h hg; exact h.2⟩
  · refine V_done rfl rfl ⟨rfl, ?_⟩
    rw [decide_eq_true (hf.1 (.inl hg))]; rfl
end Go.Proofs.YthhbnnnokmefoaaDoor
/- descr.split, Method. -/


namespace Go.Proofs.YthhbnnnokmefoaaDoor
open GX
set_option maxHeartbeats 8000000
theorem sixb_runs {S : St} {s : List Nat} : Runs X1 82 [.str s, .int .u8 59] S fun v S' => S' = S ∧ v = .int .i64 (ixb 59 s 0) := by
  refine Runs_fn (m := 8) (by kernel_rfl) Tryd.func82 rfl (by kernel_rfl) (by kernel_rfl) ?_
  repeat (
    first
      | refine W_seq ?_
      | refine WO_nil ?_
      | refine V_seq ?_
      | refine W_region ?_
      | refine WO_dst rfl rfl (by kernel_rfl) (by kernel_rfl) ?_
      | refine Ev_move rfl ?_
      | refine Ev_assign rfl ?_)
  refine Ev_call rfl rfl (Runs.mono (R := fun v S' => S' = S ∧ v = .int .i64 (ixb 59 s 0)) ?_ ?_)
  · refine Runs_fn (m := 8) (by kernel_rfl) Tryd.func88 rfl (by kernel_rfl) (by kernel_rfl) ?_
    repeat (
      first
        | refine W_seq ?_
        | refine WO_nil ?_
        | refine V_seq ?_
        | refine W_region ?_
        | refine WO_dst rfl rfl (by kernel_rfl) (by kernel_rfl) ?_
        | refine Ev_move rfl ?_
        | refine Ev_assign rfl ?_)
    refine Ev_call rfl rfl (Runs_ext (g := extByte) (v := .int .i64 (ixb 59 s 0)) (S' := S) rfl rfl (Nat.le_refl _) ?_)
    repeat (
      first
        | refine WO_nil ?_
        | refine V_seq ?_
        | refine W_ret ?_
        | refine WO_dst rfl rfl (by kernel_rfl) (by kernel_rfl) ?_
        | refine Ev_assign rfl ?_)
    refine V_done rfl rfl ?_
    exact ⟨rfl, rfl⟩
  · rintro _ _ - ⟨rfl, rfl⟩
    repeat (
      first
        | refine WO_nil ?_
        | refine V_seq ?_
        | refine W_ret ?_
        | refine WO_dst rfl rfl (by kernel_rfl) (by kernel_rfl) ?_
        | refine Ev_assign rfl ?_)
    refine V_done rfl rfl ?_
    exact ⟨rfl, rfl⟩
theorem semi_ne {c : Nat} {l : List Nat} (h : c ≠ 59) : semi (c :: l) = (semi l).map (· + 1) := by
  show (if c = 59 then some 0 else (semi l).map (· + 1)) = _
  rw [if_neg h]
theorem base1_76 (r : List Nat) : base1 (76 :: r) = match semi r with | some k => if nameP (r.take k) then k + 2 else 0 | none => 0 := rfl
theorem base1_d {d : Nat} {r : List Nat} (h : d ≠ 76) : base1 (d :: r) = if d = 73 then 1 else 0 := by rw [base1_cons, if_neg h]
theorem ite_iff {p q : Prop} [Decidable p] [Decidable q] (h : p ↔ q) (a b : Int) : (if p then a else b) = if q then a else b := by
  by_cases hp : p
  · rw [if_pos hp, if_pos (h.1 hp)]
  · rw [if_neg hp, if_neg (fun g => hp (h.2 g))]
/-- the end of the field with which a text may begin -/
def endN (s : List Nat) : Int :=
  let a : Nat := if s.take 1 = [91] then 1 else 0
  if a < s.length ∧ s.getD a 0 = 76 then ixb 59 s 0 + 1 else ((a + 1 : Nat) : Int)
theorem field_one {c : Nat} : fieldP [c] ↔ c = 73 := by
  rw [field_iff]
  constructor
  · rintro (⟨t, h, h2⟩ | h | ⟨n, h, _⟩)
    · cases h
      rcases h2 with h2 | ⟨n, h2, _⟩ <;> cases h2
    · cases h; rfl
    · have := congrArg List.length h
      simp at this
  · rintro rfl; exact .inr (.inl rfl)
theorem field_L {x : List Nat} (_ : ∀ c ∈ x, c ≠ 59) : fieldP (76 :: (x ++ [59])) ↔ nameP x := by
  rw [field_iff]
  constructor
  · rintro (⟨t, h, h2⟩ | h | ⟨n, h, h2⟩)
    · cases h
    · cases h
    · simp at h; rw [h]; exact h2
  · intro h; exact .inr (.inr ⟨x, rfl, h⟩)
theorem field_arr {s : List Nat} : fieldP (91 :: s) ↔ s = [73] ∨ ∃ n, s = 76 :: (n ++ [59]) ∧ nameP n := by
  rw [field_iff]
  constructor
  · rintro (⟨t, h, h2⟩ | h | ⟨n, h, h2⟩)
    · cases h; exact h2
    · cases h
    · cases h
  · intro h; exact .inl ⟨s, rfl, h⟩
theorem split_eq {s : List Nat} : (if endN s < 1 ∨ (s.length : Int) < endN s ∨ ¬ fieldP (s.take (endN s).toNat) then 0 else endN s) = ((oneS s : Nat) : Int) := by
  cases s with
  | nil => simp [endN, oneS]
  | cons c r =>
    by_cases hc : c = 91
    · subst hc
      rw [oneS_cons, if_pos rfl]
      cases r with
      | nil => simp [endN, base1]
      | cons d r =>
        by_cases hd : d = 76
        · subst hd
          have e : endN (91 :: 76 :: r) = ixb 59 (91 :: 76 :: r) 0 + 1 := by unfold endN; simp
          rw [e, ixb_semi]
          have e2 : semi (91 :: 76 :: r) = (semi r).map (· + 2) := by
            rw [semi_ne (by decide), semi_ne (by decide)]
            cases semi r <;> rfl
          rw [e2, base1_76]
          cases hs : semi r with
          | none => simp
          | some k =>
            obtain ⟨h1, h2, h3⟩ := semi_some hs
            have e3 : (91 :: 76 :: r).take (k + 3) = 91 :: 76 :: (r.take k ++ [59]) := by
              conv => lhs; rw [h2]
              rw [show k + 3 = (k + 1) + 2 from rfl, List.take_succ_cons, List.take_succ_cons, List.take_append]
              simp [List.length_take, Nat.min_eq_left (Nat.le_of_lt h1), List.take_take]
            have e4 : fieldP (91 :: 76 :: (r.take k ++ [59])) ↔ nameP (r.take k) := by
              rw [field_arr]
              constructor
              · rintro (h | ⟨n, h, h2⟩)
                · cases h
                · simp at h; rw [h]; exact h2
              · intro h; exact .inr ⟨_, rfl, h⟩
            simp only [Option.map_some]
            obtain ⟨z, hz⟩ : ∃ z : Int, z = ((0 + (k + 2) : Nat) : Int) + 1 := ⟨_, rfl⟩
            have hz2 : z = (k : Int) + 3 := by rw [hz]; simp; omega
            rw [← hz]
            have e5 : z.toNat = k + 3 := by omega
            rw [e5, e3, ite_iff (q := ¬ nameP (r.take k)) ⟨fun h => by rcases h with h | h | h; omega; (simp at h; omega); exact fun g => h (e4.2 g), fun h => .inr (.inr fun g => h (e4.1 g))⟩]
            by_cases hn : nameP (r.take k)
            · rw [if_neg (fun h => h hn), if_pos hn, if_neg (by omega)]; omega
            · rw [if_pos hn, if_neg hn, if_pos rfl]; rfl
        · have e : endN (91 :: d :: r) = 2 := by unfold endN; simp [hd]
          rw [e, base1_d hd]
          have e4 : fieldP ((91 :: d :: r).take ((2 : Int).toNat)) ↔ d = 73 := by
            show fieldP [91, d] ↔ _
            rw [field_arr]
            constructor
            · rintro (h | ⟨n, h, h2⟩)
              · cases h; rfl
              · have := congrArg List.length h; simp at this
            · rintro rfl; exact .inl rfl
          rw [ite_iff (q := ¬ d = 73) ⟨fun h => by rcases h with h | h | h; omega; (simp at h; omega); exact fun g => h (e4.2 g), fun h => .inr (.inr fun g => h (e4.1 g))⟩]
          by_cases hn : d = 73
          · rw [if_neg (fun h => h hn), if_pos hn]; rfl
          · rw [if_pos hn, if_neg hn]; rfl
    · rw [oneS_cons, if_neg hc]
      by_cases hd : c = 76
      · subst hd
        have e : endN (76 :: r) = ixb 59 (76 :: r) 0 + 1 := by unfold endN; simp
        rw [e, ixb_semi]
        have e2 : semi (76 :: r) = (semi r).map (· + 1) := by
          rw [semi_ne (by decide)]
        rw [e2, base1_76]
        cases hs : semi r with
        | none => simp
        | some k =>
          obtain ⟨h1, h2, h3⟩ := semi_some hs
          have e3 : (76 :: r).take (k + 2) = 76 :: (r.take k ++ [59]) := by
            conv => lhs; rw [h2]
            rw [show k + 2 = (k + 1) + 1 from rfl, List.take_succ_cons, List.take_append]
            simp [List.length_take, Nat.min_eq_left (Nat.le_of_lt h1), List.take_take]
          simp only [Option.map_some]
          obtain ⟨z, hz⟩ : ∃ z : Int, z = ((0 + (k + 1) : Nat) : Int) + 1 := ⟨_, rfl⟩
          have hz2 : z = (k : Int) + 2 := by rw [hz]; simp; omega
          rw [← hz]
          have e5 : z.toNat = k + 2 := by omega
          rw [e5, e3, ite_iff (q := ¬ nameP (r.take k)) ⟨fun h => by rcases h with h | h | h; omega; (simp at h; omega); exact fun g => h ((field_L h3).2 g), fun h => .inr (.inr fun g => h ((field_L h3).1 g))⟩]
          by_cases hn : nameP (r.take k)
          · rw [if_neg (fun h => h hn), if_pos hn]; omega
          · rw [if_pos hn, if_neg hn]; rfl
      · have e : endN (c :: r) = 1 := by unfold endN; simp [hc, hd]
        rw [e, base1_d hd]
        rw [ite_iff (q := ¬ c = 73) ⟨fun h => by rcases h with h | h | h; omega; (simp at h; omega); exact fun g => h (field_one.2 g), fun h => .inr (.inr fun g => h (field_one.1 g))⟩]
        by_cases hn : c = 73
        · rw [if_neg (fun h => h hn), if_pos hn]; rfl
        · rw [if_pos hn, if_neg hn]; rfl
theorem ixb_range (s : List Nat) : -1 ≤ ixb 59 s 0 ∧ ixb 59 s 0 < s.length := by
  rw [ixb_semi]
  cases h : semi s with
  | none => simp; omega
  | some k => have := (semi_some h).1; simp; omega
theorem split_runs {S : St} {s : List Nat} (hs : s.length < 9223372036854775808) : Runs X1 67 [.str s] S fun v S' => S' = S ∧ v = .int .i64 ((oneS s : Nat) : Int) := by
  rw [← split_eq]
  have hr := ixb_range s
  refine Runs_fn (m := 38) (by kernel_rfl) Tryd.func67 rfl (by kernel_rfl) (by kernel_rfl) ?_
  repeat' (
    first
      | refine W_seq ?_
      | refine WO_nil ?_
      | refine V_seq ?_
      | refine W_region ?_
      | refine WO_dst rfl rfl (by kernel_rfl) (by kernel_rfl) ?_
      | refine Ev_move rfl ?_
      | refine Ev_assign rfl ?_)
  refine Ev_call rfl rfl ((shasp_runs (p := [91])).mono ?_)
  rintro _ _ - ⟨rfl, rfl⟩
  rename_i S
  obtain ⟨a, ha, hae⟩ : ∃ a : Nat, a ≤ 1 ∧ (endN s = if a < s.length ∧ s.getD a 0 = 76 then ixb 59 s 0 + 1 else ((a + 1 : Nat) : Int)) ∧ a = if s.take 1 = [91] then 1 else 0 := ⟨if s.take 1 = [91] then 1 else 0, by split <;> omega, rfl, rfl⟩
  repeat' (
    first
      | refine WO_nil ?_
      | refine V_seq ?_)
  refine W_cut (fun l' T => T = S ∧ sub [(3, .int .i64 ((a : Nat) : Int)), (0, .str s)] l') ?_ ?_
  · obtain ⟨_, hae⟩ := hae
    by_cases hb : s.take 1 = [91]
    · rw [decide_eq_true (show s.take [91].length = [91] from hb)]
      rw [if_pos hb] at hae
      subst hae
      repeat' (
        first
          | refine WO_nil ?_
          | refine W_region ?_
          | refine W_cond_t rfl ?_
          | refine WO_dst rfl rfl (by kernel_rfl) (by kernel_rfl) ?_
          | refine Ev_assign rfl ?_)
      exact V_mid ⟨rfl, rfl, rfl, trivial⟩
    · rw [decide_eq_false (show ¬ s.take [91].length = [91] from hb)]
      rw [if_neg hb] at hae
      subst hae
      repeat' (
        first
          | refine W_skip ?_
          | refine W_cond_f rfl ?_)
      exact V_mid ⟨rfl, rfl, rfl, trivial⟩
  obtain ⟨hae, _⟩ := hae
  rintro l' T ⟨rfl, hsub⟩
  refine V_weak hsub ?_
  repeat' (
    first
      | refine W_seq ?_
      | refine WO_nil ?_
      | refine V_seq ?_
      | refine W_region ?_
      | refine WO_dst rfl rfl (by kernel_rfl) (by kernel_rfl) ?_
      | refine WO_guard_t rfl rfl rfl rfl rfl (by kernel_rfl) (by kernel_rfl) ?_
      | refine WO_guard_f rfl rfl rfl rfl rfl rfl (by kernel_rfl) (by kernel_rfl) ?_
      | refine Ev_index rfl rfl rfl rfl (get_some (by first | omega | (dsimp only; omega))) ?_
      | refine Ev_move rfl ?_
      | refine Ev_assign rfl ?_
      | refine Ev_pick_t rfl rfl rfl ?_
      | refine Ev_pick_f rfl rfl rfl ?_
      | refine Ev_lssN rfl rfl ?_
      | refine Ev_eqlN rfl rfl ?_
      | refine Ev_len_str rfl rfl rfl rfl rfl ?_
      | refine Ev_addN rfl rfl (by simp only [lim]; omega) ?_
      | (refine WO_guard_dt rfl rfl rfl rfl rfl (by kernel_rfl) (by kernel_rfl) (fun hg => ?_) (fun hg => ?_) <;> (try dsimp only at hg) <;> try (exfalso; first | omega | exact hg rfl)))
  all_goals
    refine W_cut (fun l' T' => T' = T ∧ sub [(4, .int .i64 (endN s)), (0, .str s)] l') ?_ ?_
    · first
        | (by_cases h76 : s.getD a 0 = 76
           · rw [if_pos ⟨by omega, h76⟩] at hae
             rw [decide_eq_true h76]
             repeat' (
               first
                 | refine W_region ?_
                 | refine W_cond_t rfl ?_
                 | refine WO_dst rfl rfl (by kernel_rfl) (by kernel_rfl) ?_
                 | refine Ev_move rfl ?_)
             refine Ev_call rfl rfl (sixb_runs.mono ?_)
             rintro _ _ - ⟨rfl, rfl⟩
             repeat' (
               first
                 | refine WO_nil ?_
                 | refine WO_dst rfl rfl (by kernel_rfl) (by kernel_rfl) ?_
                 | refine Ev_assign rfl ?_
                 | refine Ev_add rfl rfl (by simp only [inR]; omega) ?_)
             exact V_mid ⟨rfl, by show some (AV.int .i64 (ixb 59 s 0 + 1)) = _; rw [hae], rfl, trivial⟩
           · rw [if_neg (fun h => h76 h.2)] at hae
             rw [decide_eq_false h76]
             repeat' (
               first
                 | refine W_skip ?_
                 | refine W_cond_f rfl ?_)
             exact V_mid ⟨rfl, by rw [hae]; rfl, rfl, trivial⟩)
        | (rw [if_neg (fun h => by have := h.1; omega)] at hae
           repeat' (
             first
               | refine W_skip ?_
               | refine W_cond_f rfl ?_)
           exact V_mid ⟨rfl, by rw [hae]; rfl, rfl, trivial⟩)
    · rintro l'' T' ⟨rfl, hsub⟩
      refine V_weak hsub ?_
      generalize endN s = z
      by_cases hz : z < 1
      · rw [if_pos (.inl hz)]
        repeat' (
          first
            | refine W_seq ?_
            | refine WO_nil ?_
            | refine V_seq ?_
            | refine W_region ?_
            | refine W_ret ?_
            | refine V_ret ?_
            | refine W_cond_t rfl ?_
            | refine WO_dst rfl rfl (by kernel_rfl) (by kernel_rfl) ?_
            | refine WO_guard_f rfl rfl rfl rfl rfl rfl (by kernel_rfl) (by kernel_rfl) ?_
            | refine Ev_move rfl ?_
            | refine Ev_assign rfl ?_
            | refine Ev_pick_t rfl rfl rfl ?_
            | refine Ev_lss rfl rfl ?_
            | (refine WO_guard_df rfl rfl rfl rfl rfl (by kernel_rfl) (by kernel_rfl) (fun hg => ?_) (fun hg => ?_) <;> (try dsimp only at hg) <;> try (exfalso; first | omega | exact hg rfl)))
        refine V_done rfl rfl ?_
        exact ⟨rfl, rfl⟩
      · obtain ⟨m, rfl⟩ : ∃ m : Nat, z = (m : Int) := ⟨z.toNat, by omega⟩
        rw [Int.toNat_natCast]
        repeat' (
          first
            | refine W_seq ?_
            | refine WO_nil ?_
            | refine V_seq ?_
            | refine W_region ?_
            | refine W_ret ?_
            | refine V_ret ?_
            | refine W_cond_t rfl ?_
            | refine WO_dst rfl rfl (by kernel_rfl) (by kernel_rfl) ?_
            | refine WO_guard_t rfl rfl rfl rfl rfl (by kernel_rfl) (by kernel_rfl) ?_
            | refine WO_guard_f rfl rfl rfl rfl rfl rfl (by kernel_rfl) (by kernel_rfl) ?_
            | refine Ev_slice_str (lo' := none) (hi' := some (.int .i64 ((m : Nat) : Int))) (mx' := none) rfl rfl rfl rfl rfl rfl (str_hi (by omega)) ?_
            | refine Ev_move rfl ?_
            | refine Ev_assign rfl ?_
            | refine Ev_pick_t rfl rfl rfl ?_
            | refine Ev_pick_f rfl rfl rfl ?_
            | refine Ev_lssN rfl rfl ?_
            | refine Ev_gtrN rfl rfl ?_
            | refine Ev_len_str rfl rfl rfl rfl rfl ?_
            | (refine WO_guard_df rfl rfl rfl rfl rfl (by kernel_rfl) (by kernel_rfl) (fun hg => ?_) (fun hg => ?_) <;> (try dsimp only at hg) <;> try (exfalso; first | omega | exact hg rfl)))
        all_goals first
          | (refine V_done rfl rfl ⟨rfl, ?_⟩
             rw [if_pos (by omega)]; rfl)
          | (refine Ev_call rfl rfl ((field_runs (by rw [List.length_take]; omega)).mono ?_)
             rintro _ _ - ⟨rfl, rfl⟩
             repeat' (
               first
                 | refine W_seq ?_
                 | refine WO_nil ?_
                 | refine V_seq ?_
                 | refine W_region ?_
                 | refine W_skip ?_
                 | refine W_ret ?_
                 | refine V_ret ?_
                 | refine WO_dst rfl rfl (by kernel_rfl) (by kernel_rfl) ?_
                 | refine WO_guard_t rfl rfl rfl rfl rfl (by kernel_rfl) (by kernel_rfl) ?_
                 | refine Ev_move rfl ?_
                 | refine Ev_assign rfl ?_
                 | refine Ev_pick_f rfl rfl rfl ?_
                 | refine Ev_not rfl ?_
                 | (refine W_cond rfl (fun hc => ?_) (fun hc => ?_) <;> (try dsimp only at hc) <;> try (exfalso; first | omega | exact hc rfl)))
             · refine V_done rfl rfl ⟨rfl, ?_⟩
               rw [if_pos (.inr (.inr hc))]; rfl
             · refine V_done rfl rfl ⟨rfl, ?_⟩
               rw [if_neg (fun h => by rcases h with h | h | h; omega; omega; exact hc h)]; rfl)
end Go.Proofs.YthhbnnnokmefoaaDoor
/- Texts as runes, and their bytes in mutf: plain definitions. -/

namespace Go.Proofs.YthhbnnnokmefoaaDoor
open GX
theorem dec_pos (l : List Nat) : 1 ≤ (decodeR l).2 := by
  unfold decodeR
  split
  · exact Nat.le_refl _
  · dsimp only
    repeat' split
    all_goals simp
theorem dec_lt (l : List Nat) : (decodeR l).1 < 1114112 := by
  unfold decodeR
  split
  · simp [Utf8.runeError]
  · dsimp only
    split
    · rename_i h; dsimp only; omega
    · split
      · split
        · dsimp only; omega
        · simp [Utf8.runeError]
      · split
        · split
          · dsimp only; omega
          · simp [Utf8.runeError]
        · split
          · split
            · rename_i h
              simp only [Bool.and_eq_true, Utf8.valid] at h
              dsimp only
              simp at h ⊢
              omega
            · simp [Utf8.runeError]
          · simp [Utf8.runeError]
theorem cont_len {l : List Nat} {k : Nat} (h : (l.getD k 0 / 64 == 2) = true) : k < l.length := by
  rcases Nat.lt_or_ge k l.length with hk | hk
  · exact hk
  · rw [List.getD_eq_getElem?_getD, List.getElem?_eq_none hk] at h; cases h
theorem dec_le {l : List Nat} (h : l ≠ []) : (decodeR l).2 ≤ l.length := by
  cases l with
  | nil => exact absurd rfl h
  | cons b t =>
    unfold decodeR
    dsimp only
    split
    · simp
    · split
      · rename_i h1
        simp only [Bool.and_eq_true] at h1
        have := cont_len h1.2
        split <;> simp <;> omega
      · split
        · rename_i h1
          simp only [Bool.and_eq_true] at h1
          have := cont_len h1.2
          split <;> simp <;> omega
        · split
          · rename_i h1
            simp only [Bool.and_eq_true] at h1
            have := cont_len h1.2
            split <;> simp <;> omega
          · simp
/-- the runes of a text -/
def runesS (l : List Nat) : List Nat :=
  match l with
  | [] => []
  | b :: t => (decodeR (b :: t)).1 :: runesS ((b :: t).drop (decodeR (b :: t)).2)
termination_by l.length
decreasing_by have := dec_pos (b :: t); simp only [List.length_drop, List.length_cons]; omega
theorem runesS_nil : runesS [] = [] := by unfold runesS; rfl
theorem runesS_ne {l : List Nat} (h : l ≠ []) : runesS l = (decodeR l).1 :: runesS (l.drop (decodeR l).2) := by
  cases l with
  | nil => exact absurd rfl h
  | cons b t => rw [runesS]
theorem runesS_lt {l : List Nat} : ∀ c ∈ runesS l, c < 1114112 := by
  induction l using runesS.induct with
  | case1 => rw [runesS_nil]; simp
  | case2 b t ih =>
    rw [runesS_ne (by simp)]
    intro c hc
    rcases List.mem_cons.1 hc with h | h
    · rw [h]; exact dec_lt _
    · exact ih c h
theorem runesS_len {l : List Nat} : (runesS l).length ≤ l.length := by
  induction l using runesS.induct with
  | case1 => rw [runesS_nil]; simp
  | case2 b t ih =>
    rw [runesS_ne (by simp)]
    have := dec_pos (b :: t)
    simp only [List.length_cons, List.length_drop] at ih ⊢
    omega
theorem runesFrom_eq {n : Nat} {l : List Nat} (h : l.length ≤ n) : runesFrom n l = (runesS l).map fun c => .int .i32 ((c : Nat) : Int) := by
  induction n generalizing l with
  | zero => cases List.eq_nil_of_length_eq_zero (Nat.le_zero.1 h); rw [runesS_nil]; rfl
  | succ n ih =>
    cases l with
    | nil => rw [runesS_nil]; rfl
    | cons b t =>
      rw [runesS_ne (by simp)]
      unfold runesFrom
      dsimp only
      rw [ih (by have := dec_pos (b :: t); simp only [List.length_cons, List.length_drop] at h ⊢; omega)]
      rfl
def unitL (r : Nat) : List Nat :=
  if 0 < r ∧ r < 128 then [r] else if r < 2048 then [192 + r / 64, 128 + r % 64] else [224 + r / 4096, 128 + r / 64 % 64, 128 + r % 64]
def enc1 (r : Nat) : List Nat :=
  if 65535 < r then unitL (55296 + (r - 65536) / 1024) ++ unitL (56320 + (r - 65536) % 1024) else unitL r
/-- a text's bytes in mutf -/
def encS (l : List Nat) : List Nat := (runesS l).flatMap enc1
theorem encS_nil : encS [] = [] := by unfold encS; rw [runesS_nil]; rfl
theorem encS_ne {l : List Nat} (h : l ≠ []) : encS l = enc1 (decodeR l).1 ++ encS (l.drop (decodeR l).2) := by
  unfold encS; rw [runesS_ne h]; rfl
theorem unitL_len (r : Nat) : (unitL r).length ≤ 3 := by unfold unitL; (repeat' split) <;> simp
theorem enc1_len (r : Nat) : (enc1 r).length ≤ 6 := by
  unfold enc1
  split
  · have h1 := unitL_len (55296 + (r - 65536) / 1024); have h2 := unitL_len (56320 + (r - 65536) % 1024); simp only [List.length_append]; omega
  · have := unitL_len r; omega
theorem encS_len (l : List Nat) : (encS l).length ≤ 6 * l.length := by
  induction l using runesS.induct with
  | case1 => rw [encS_nil]; simp
  | case2 b t ih =>
    rw [encS_ne (by simp)]
    have := dec_pos (b :: t)
    have := enc1_len (decodeR (b :: t)).1
    simp only [List.length_cons, List.length_drop, List.length_append] at ih ⊢
    omega
/-- is it UTF-8? -/
noncomputable def vS (l : List Nat) : Bool := Lib.validD (l.map UInt8.ofNat)
/-! memory -/
/-- a slice of bytes of its own -/
abbrev Ow (S : St) (v : AV) (l : List Nat) : Prop := Own S v 5 1 (sbytes l) l.length
/-- what a run leaves as it was: the blocks below the number, but one slice's -/
structure Fr (S S' : St) (v : AV) (k : Nat) : Prop where
  le : S.n ≤ S'.n
  n : S'.n ≤ S.n + k
  ok : Sok S'
  same : ∀ c, blkOf v ≠ some c → c < S.n → S'.h.get c = S.h.get c
end Go.Proofs.YthhbnnnokmefoaaDoor
/- descr.Method; caraferef2's one, Field, Method. -/



namespace Go.Proofs.YthhbnnnokmefoaaDoor
open GX
set_option maxHeartbeats 8000000
/-- the fields with which a text begins, at most so many, and the rest -/
def fieldsM : Nat → List Nat → List (List Nat) × List Nat
  | 0, s => ([], s)
  | k + 1, s => if oneS s = 0 then ([], s) else (s.take (oneS s) :: (fieldsM k (s.drop (oneS s))).1, (fieldsM k (s.drop (oneS s))).2)
theorem fieldsM_s (k : Nat) (s : List Nat) : fieldsM (k + 1) s = if oneS s = 0 then ([], s) else (s.take (oneS s) :: (fieldsM k (s.drop (oneS s))).1, (fieldsM k (s.drop (oneS s))).2) := rfl
theorem fieldsM_stop {s : List Nat} (h : oneS s = 0) : ∀ k, fieldsM k s = ([], s)
  | 0 => rfl
  | k + 1 => by unfold fieldsM; rw [if_pos h]
theorem fieldsM_add : ∀ (a b : Nat) (s : List Nat), fieldsM (a + b) s = ((fieldsM a s).1 ++ (fieldsM b (fieldsM a s).2).1, (fieldsM b (fieldsM a s).2).2)
  | 0, b, s => by simp [fieldsM]
  | a + 1, b, s => by
    rw [show a + 1 + b = (a + b) + 1 by omega]
    by_cases h : oneS s = 0
    · rw [fieldsM_stop h, fieldsM_stop h, fieldsM_stop h]; simp
    · rw [fieldsM_s, fieldsM_s, if_neg h, if_neg h]
      rw [fieldsM_add a b]; simp
theorem fieldsM_len : ∀ (k : Nat) (s : List Nat), (fieldsM k s).1.length ≤ k ∧ (fieldsM k s).2.length ≤ s.length
  | 0, s => by simp [fieldsM]
  | k + 1, s => by
    unfold fieldsM
    have := fieldsM_len k (s.drop (oneS s))
    split
    · simp
    · simp only [List.length_cons, List.length_drop] at this ⊢; omega
theorem fieldsM_next {n : Nat} {s : List Nat} : fieldsM (n + 1) s = if oneS (fieldsM n s).2 = 0 then fieldsM n s else ((fieldsM n s).1 ++ [(fieldsM n s).2.take (oneS (fieldsM n s).2)], (fieldsM n s).2.drop (oneS (fieldsM n s).2)) := by
  rw [fieldsM_add n 1]
  by_cases h : oneS (fieldsM n s).2 = 0
  · rw [if_pos h, fieldsM_stop h]; simp
  · rw [if_neg h]
    have e : fieldsM 1 (fieldsM n s).2 = ([(fieldsM n s).2.take (oneS (fieldsM n s).2)], (fieldsM n s).2.drop (oneS (fieldsM n s).2)) := by
      rw [fieldsM_s, if_neg h]; rfl
    rw [e]
/-- what a method takes and answers -/
def methS (s : List Nat) : Option (List (List Nat) × List Nat) :=
  if s.take 1 = [40] ∧ (fieldsM 8 (s.drop 1)).2.take 1 = [41] ∧ ((fieldsM 8 (s.drop 1)).2.drop 1 = [86] ∨ fieldP ((fieldsM 8 (s.drop 1)).2.drop 1)) then
    some ((fieldsM 8 (s.drop 1)).1, (fieldsM 8 (s.drop 1)).2.drop 1) else none
def methR (s : List Nat) : List (List Nat) × List Nat := match methS s with | some x => x | none => ([], [])
/-- what a function that reads a method answers -/
structure MethO (S : St) (s : List Nat) (k : Nat) (v : AV) (S' : St) : Prop where
  fr : Fr S S' .nils k
  val : ∃ sl, v = .tup [sl, .str (methR s).2, .bool (decide ((methS s).isSome = true))] ∧ Own S' sl 9 1 ((methR s).1.map .str) (methR s).1.length ∧ ∀ c, blkOf sl = some c → S.n ≤ c
theorem trimP_one {s : List Nat} {c : Nat} : trimP s [c] = if s.take 1 = [c] then s.drop 1 else s := rfl
theorem base1_le : ∀ (s : List Nat), base1 s ≤ s.length
  | [] => Nat.le_refl _
  | c :: r => by
    rw [base1_cons]
    split
    · simp
    · split
      · split
        · rename_i k hk
          have := (semi_some hk).1
          split
          · simp; omega
          · simp
        · simp
      · simp
theorem oneS_le (s : List Nat) : oneS s ≤ s.length := by
  cases s with
  | nil => simp [oneS]
  | cons c r =>
    rw [oneS_cons]
    split
    · split
      · simp
      · have := base1_le r; simp; omega
    · exact base1_le _
theorem strs_rd {S : St} {q : Nat} {x : List Nat} (h : S.h.get q = some (.cells 9 [.str x] false)) : Rd S (.slice q 0 1 (.ex 1)) 1 [.str x] 1 := Rd_lit h rfl rfl
theorem method_runs {S : St} {s : List Nat} (hok : Sok S) (hs : s.length < 9223372036854775808) (hn : S.n + 20 ≤ 1000000000) : Runs X1 47 [.str s] S (MethO S s 18) := by
  refine Runs_fn (m := 54) (by kernel_rfl) Tryd.func47 rfl (by kernel_rfl) (by kernel_rfl) ?_
  repeat' (
    first
      | refine W_seq ?_
      | refine WO_nil ?_
      | refine V_seq ?_
      | refine W_region ?_
      | refine W_scope ?_
      | refine WO_dst rfl rfl (by kernel_rfl) (by kernel_rfl) ?_
      | refine Ev_move rfl ?_
      | refine Ev_assign rfl ?_)
  refine Ev_call rfl rfl ((scutp_runs (p := [40])).mono ?_)
  rintro _ _ - ⟨rfl, rfl⟩
  rename_i S
  by_cases hb : s.take 1 = [40]
  · rw [decide_eq_true (show s.take [40].length = [40] from hb), trimP_one, if_pos hb]
    repeat' (
      first
        | refine W_seq ?_
        | refine WO_nil ?_
        | refine V_seq ?_
        | refine W_region ?_
        | refine W_block ?_
        | refine W_skip ?_
        | refine W_label ?_
        | refine W_cond_f rfl ?_
        | refine WO_dst rfl rfl (by kernel_rfl) (by kernel_rfl) ?_
        | refine Ev_move rfl ?_
        | refine Ev_assign rfl ?_
        | refine Ev_extract rfl rfl ?_
        | refine Ev_notb rfl ?_)
    refine W_inv (fun a : Nat × AV => [(5, .str (fieldsM a.1 (s.drop 1)).2), (7, a.2)]) (fun a T => Fr S T .nils (2 * a.1) ∧ (fieldsM a.1 (s.drop 1)).1.length = a.1 ∧ a.1 ≤ 8 ∧ Own T a.2 9 1 ((fieldsM a.1 (s.drop 1)).1.map .str) a.1 ∧ ∀ c, blkOf a.2 = some c → S.n ≤ c) (fun a => 9 - a.1) ?_ (0, .nils) ⟨⟨Nat.le_refl _, Nat.le_refl _, hok, fun _ _ _ => rfl⟩, rfl, by simp, .inl ⟨rfl, rfl, rfl⟩, fun c hc => by cases hc⟩ ⟨rfl, rfl, trivial⟩
    rintro ⟨i, w⟩ T ⟨hF, hl, hi, how, hbw⟩ back
    dsimp only at hF hl hi how hbw back
    have hq := (fieldsM_len i (s.drop 1)).2
    rw [List.length_drop] at hq
    have gn := hF.n
    have gl := hF.le
    repeat' (
      first
        | refine W_seq ?_
        | refine W_region ?_
        | refine W_block ?_
        | refine WO_dst rfl rfl (by kernel_rfl) (by kernel_rfl) ?_
        | refine Ev_move rfl ?_)
    refine Ev_call rfl rfl ((split_runs (by dsimp only; omega)).mono ?_)
    rintro _ _ - ⟨rfl, rfl⟩
    rename_i T
    have hnx := fieldsM_next (n := i) (s := s.drop 1)
    obtain ⟨q, hqe⟩ : ∃ q, q = (fieldsM i (s.drop 1)).2 := ⟨_, rfl⟩
    rw [← hqe] at hq hnx
    have hle := oneS_le q
    dsimp only
    rw [← hqe]
    repeat' (
      first
        | refine W_seq ?_
        | refine WO_nil ?_
        | refine V_seq ?_
        | refine W_region ?_
        | refine W_block ?_
        | refine W_exit ?_
        | refine V_block_x rfl ?_
        | refine V_block_y rfl ?_
        | refine V_loop_x ?_
        | refine W_cond_f rfl ?_
        | refine WO_dst rfl rfl (by kernel_rfl) (by kernel_rfl) ?_
        | refine WO_guard_t rfl rfl rfl rfl rfl (by kernel_rfl) (by kernel_rfl) ?_
        | refine WO_guard_f rfl rfl rfl rfl rfl rfl (by kernel_rfl) (by kernel_rfl) ?_
        | refine Ev_len rfl rfl rfl rfl rfl how.rd.len ?_
        | refine Ev_slice_str (lo' := none) (hi' := some (.int .i64 ((oneS q : Nat) : Int))) (mx' := none) rfl rfl rfl rfl rfl rfl (str_hi (by omega)) ?_
        | refine Ev_move rfl ?_
        | refine Ev_assign rfl ?_
        | refine Ev_pick_t rfl rfl rfl ?_
        | refine Ev_pick_f rfl rfl rfl ?_
        | refine Ev_lssN rfl rfl ?_
        | refine Ev_gtrN rfl rfl ?_
        | (refine WO_guard_dt rfl rfl rfl rfl rfl (by kernel_rfl) (by kernel_rfl) (fun hg => ?_) (fun hg => ?_) <;> (try dsimp only at hg) <;> try (exfalso; first | omega | exact hg rfl))
        | (refine W_cond rfl (fun hc => ?_) (fun hc => ?_) <;> (try dsimp only at hc) <;> try (exfalso; first | omega | exact hc rfl)))
    · refine Ev_buildSlice rfl rfl rfl rfl rfl rfl hF.ok (by omega) ?_
      intro T1 n1 ok1 q1 f1
      have how1 := how.keep (fun c hc => f1 c (how.lt hF.ok hc))
      repeat (
        refine WO_dst rfl rfl (by kernel_rfl) (by kernel_rfl) ?_)
      refine Ev_append rfl rfl rfl rfl rfl rfl rfl rfl rfl rfl how1 (strs_rd q1) (by simp [AV.one]) ok1 (by omega) (by dsimp only; omega) (by omega) ?_
      intro w2 T2 gl2 gn2 gok2 how2 gf2 gb2
      rw [if_neg (by omega)] at hnx
      repeat (
        first
          | refine WO_nil ?_
          | refine V_seq ?_
          | refine W_region ?_
          | refine V_block ?_
          | refine WO_dst rfl rfl (by kernel_rfl) (by kernel_rfl) ?_
          | refine Ev_slice_str (lo' := some (.int .i64 ((oneS q : Nat) : Int))) (hi' := none) (mx' := none) rfl rfl rfl rfl rfl rfl (str_lo (by omega)) ?_
          | refine Ev_move rfl ?_
          | refine Ev_assign rfl ?_)
      refine back (i + 1, w2) T2 _ (by dsimp only; omega) ⟨⟨by omega, by dsimp only; omega, gok2, fun c _ h => ?_⟩, ?_, by dsimp only; omega, ?_, fun c hc => ?_⟩ ⟨?_, rfl, trivial⟩
      · rw [gf2 c (fun e => by have := hbw c e; omega) (by omega), f1 c (by omega), hF.same c (by simp [blkOf]) h]
      · dsimp only; rw [hnx, List.length_append, hl]; rfl
      · dsimp only; rw [hnx]; exact how2.eq (by simp) rfl
      · rcases gb2 c hc with h | h
        · exact hbw c h
        · omega
      · show some (AV.str _) = some (AV.str (fieldsM (i + 1) (s.drop 1)).2)
        rw [hnx]
    all_goals
      have he : fieldsM 8 (s.drop 1) = ((fieldsM i (s.drop 1)).1, q) := by
        have h8 : i = 8 ∨ oneS q = 0 := by omega
        rcases h8 with h8 | h8
        · rw [← h8, hqe]
        · have := fieldsM_add i (8 - i) (s.drop 1)
          rw [show i + (8 - i) = 8 by omega, ← hqe, fieldsM_stop h8] at this
          rw [this]; simp
      refine Ev_call rfl rfl ((scutp_runs (p := [41])).mono ?_)
      rintro _ _ - ⟨rfl, rfl⟩
      rename_i T
      by_cases hb2 : q.take 1 = [41]
      · rw [decide_eq_true (show q.take [41].length = [41] from hb2), trimP_one, if_pos hb2]
        obtain ⟨res, hres⟩ : ∃ res, res = q.drop 1 := ⟨_, rfl⟩
        rw [← hres]
        have hrl : res.length ≤ q.length := by rw [hres, List.length_drop]; omega
        by_cases hv : res = [86]
        · have e : methS s = some ((fieldsM i (s.drop 1)).1, res) := by
            unfold methS; rw [he]; dsimp only
            rw [← hres, if_pos ⟨hb, hb2, .inl hv⟩]
          subst hv
          repeat' (
            first
              | refine W_seq ?_
              | refine WO_nil ?_
              | refine V_seq ?_
              | refine W_region ?_
              | refine W_skip ?_
              | refine W_ret ?_
              | refine W_cond_f rfl ?_
              | refine WO_dst rfl rfl (by kernel_rfl) (by kernel_rfl) ?_
              | refine WO_guard_t rfl rfl rfl rfl rfl (by kernel_rfl) (by kernel_rfl) ?_
              | refine WO_guard_f rfl rfl rfl rfl rfl rfl (by kernel_rfl) (by kernel_rfl) ?_
              | refine Ev_move rfl ?_
              | refine Ev_assign rfl ?_
              | refine Ev_extract rfl rfl ?_
              | refine Ev_pick_f rfl rfl rfl ?_
              | refine Ev_sneq rfl rfl ?_
              | refine Ev_notb rfl ?_)
          refine V_done rfl rfl ⟨⟨by omega, by omega, hF.ok, hF.same⟩, w, ?_, ?_, hbw⟩
          · unfold methR; rw [e]; rfl
          · unfold methR; rw [e]; exact how.eq rfl hl.symm
        · repeat' (
            first
              | refine W_seq ?_
              | refine WO_nil ?_
              | refine V_seq ?_
              | refine W_region ?_
              | refine W_skip ?_
              | refine W_ret ?_
              | refine W_cond_f rfl ?_
              | refine WO_dst rfl rfl (by kernel_rfl) (by kernel_rfl) ?_
              | refine WO_guard_t rfl rfl rfl rfl rfl (by kernel_rfl) (by kernel_rfl) ?_
              | refine WO_guard_f rfl rfl rfl rfl rfl rfl (by kernel_rfl) (by kernel_rfl) ?_
              | refine Ev_move rfl ?_
              | refine Ev_assign rfl ?_
              | refine Ev_extract rfl rfl ?_
              | refine Ev_pick_f rfl rfl rfl ?_
              | refine Ev_sneq rfl rfl ?_
              | refine Ev_notb rfl ?_
              | (refine WO_guard_dt rfl rfl rfl rfl rfl (by kernel_rfl) (by kernel_rfl) (fun hg => ?_) (fun hg => ?_) <;> (try dsimp only at hg) <;> try (exfalso; first | omega | exact hg rfl)))
          rotate_left
          · exact absurd (Classical.not_not.1 hg) hv
          refine Ev_call rfl rfl ((field_runs (by omega)).mono ?_)
          rintro _ _ - ⟨rfl, rfl⟩
          rename_i T
          by_cases hp : fieldP res
          · have e : methS s = some ((fieldsM i (s.drop 1)).1, res) := by
              unfold methS; rw [he]; dsimp only
              rw [← hres, if_pos ⟨hb, hb2, .inr hp⟩]
            rw [decide_eq_true hp]
            repeat' (
              first
                | refine W_seq ?_
                | refine WO_nil ?_
                | refine V_seq ?_
                | refine W_region ?_
                | refine W_skip ?_
                | refine W_ret ?_
                | refine W_cond_f rfl ?_
                | refine WO_dst rfl rfl (by kernel_rfl) (by kernel_rfl) ?_
                | refine WO_guard_t rfl rfl rfl rfl rfl (by kernel_rfl) (by kernel_rfl) ?_
                | refine Ev_move rfl ?_
                | refine Ev_assign rfl ?_
                | refine Ev_pick_t rfl rfl rfl ?_
                | refine Ev_pick_f rfl rfl rfl ?_
                | refine Ev_notb rfl ?_)
            refine V_done rfl rfl ⟨⟨by omega, by omega, hF.ok, hF.same⟩, w, ?_, ?_, hbw⟩
            · unfold methR; rw [e]; rfl
            · unfold methR; rw [e]; exact how.eq rfl hl.symm
          · have e : methS s = none := by
              unfold methS; rw [he]; dsimp only
              rw [← hres, if_neg (fun h => by rcases h.2.2 with h | h; exact hv h; exact hp h)]
            rw [decide_eq_false hp]
            repeat' (
              first
                | refine W_seq ?_
                | refine WO_nil ?_
                | refine V_seq ?_
                | refine W_region ?_
                | refine W_ret ?_
                | refine V_ret ?_
                | refine W_cond_t rfl ?_
                | refine WO_dst rfl rfl (by kernel_rfl) (by kernel_rfl) ?_
                | refine WO_guard_t rfl rfl rfl rfl rfl (by kernel_rfl) (by kernel_rfl) ?_
                | refine Ev_assign rfl ?_
                | refine Ev_pick_t rfl rfl rfl ?_
                | refine Ev_pick_f rfl rfl rfl ?_
                | refine Ev_notb rfl ?_)
            refine V_done rfl rfl ⟨⟨by omega, by omega, hF.ok, hF.same⟩, .nils, ?_, ?_, fun c hc => by cases hc⟩
            · unfold methR; rw [e]; rfl
            · unfold methR; rw [e]; exact .inl ⟨rfl, rfl, rfl⟩
      · rw [decide_eq_false (show ¬ q.take [41].length = [41] from hb2)]
        have e : methS s = none := by
          unfold methS; rw [he]; dsimp only
          rw [if_neg (fun h => hb2 h.2.1)]
        repeat' (
          first
            | refine W_seq ?_
            | refine WO_nil ?_
            | refine V_seq ?_
            | refine W_region ?_
            | refine W_ret ?_
            | refine V_ret ?_
            | refine W_cond_t rfl ?_
            | refine WO_dst rfl rfl (by kernel_rfl) (by kernel_rfl) ?_
            | refine WO_guard_f rfl rfl rfl rfl rfl rfl (by kernel_rfl) (by kernel_rfl) ?_
            | refine WO_guard_x rfl rfl rfl rfl rfl (by kernel_rfl) (by kernel_rfl) ?_
            | refine Ev_move rfl ?_
            | refine Ev_assign rfl ?_
            | refine Ev_extract rfl rfl ?_
            | refine Ev_pick_t rfl rfl rfl ?_
            | refine Ev_notb rfl ?_)
        refine V_done rfl rfl ⟨⟨by omega, by omega, hF.ok, hF.same⟩, .nils, ?_, ?_, fun c hc => by cases hc⟩
        · unfold methR; rw [e]; rfl
        · unfold methR; rw [e]; exact .inl ⟨rfl, rfl, rfl⟩
  · rw [decide_eq_false (show ¬ s.take [40].length = [40] from hb)]
    repeat' (
      first
        | refine W_seq ?_
        | refine WO_nil ?_
        | refine V_seq ?_
        | refine W_region ?_
        | refine W_ret ?_
        | refine V_ret ?_
        | refine W_cond_t rfl ?_
        | refine WO_dst rfl rfl (by kernel_rfl) (by kernel_rfl) ?_
        | refine Ev_move rfl ?_
        | refine Ev_assign rfl ?_
        | refine Ev_extract rfl rfl ?_
        | refine Ev_notb rfl ?_)
    have e : methS s = none := by unfold methS; rw [if_neg (fun h => hb h.1)]
    refine V_done rfl rfl ⟨⟨Nat.le_refl _, by omega, hok, fun _ _ _ => rfl⟩, .nils, ?_, ?_, fun c hc => by cases hc⟩
    · unfold methR; rw [e]; rfl
    · unfold methR; rw [e]; exact .inl ⟨rfl, rfl, rfl⟩
theorem str_lh {X : X} {t : Nat} {k k' : IntKind} {s : List Nat} {lo hi : Nat} (h : lo ≤ hi) (h2 : hi ≤ s.length) : aslice X t (.str s) (some (.int k ((lo : Nat) : Int))) (some (.int k' ((hi : Nat) : Int))) none = some (.str ((s.take hi).drop lo)) := by
  unfold aslice bounds
  have e1 : bound (.int k' ((hi : Nat) : Int)) s.length = some hi := by
    show (bif Nat.ble hi s.length then some hi else none) = _
    rw [nble, decide_eq_true h2]; rfl
  have e2 : bound (.int k ((lo : Nat) : Int)) hi = some lo := by
    show (bif Nat.ble lo hi then some lo else none) = _
    rw [nble, decide_eq_true h]; rfl
  dsimp only; rw [e1]; dsimp only; rw [e2]
theorem semi_at {r : List Nat} {k : Nat} (hk : k < r.length) (h : r.getD k 0 = 59) (hn : ∀ c ∈ r.take k, c ≠ 59) : semi r = some k := by
  have e : r = r.take k ++ 59 :: r.drop (k + 1) := by
    conv => lhs; rw [← List.take_append_drop k r]
    rw [List.drop_eq_getElem_cons hk]
    have : r[k] = 59 := by rw [List.getD_eq_getElem?_getD, List.getElem?_eq_getElem hk] at h; exact h
    rw [this]
  conv => lhs; rw [e]
  rw [semi_app hn, List.length_take, Nat.min_eq_left (by omega)]
theorem semi_none : ∀ {r : List Nat}, (∀ c ∈ r, c ≠ 59) → semi r = none
  | [], _ => rfl
  | c :: r, h => by
    rw [semi_ne (h c (List.mem_cons_self ..)), semi_none (fun d hd => h d (List.mem_cons_of_mem _ hd))]; rfl
theorem rone1_runs {S : St} {s : List Nat} (hs : s.length < 1000000000) (hb : ¬ s.take 1 = [91]) : Runs X1 68 [.str s] S fun v S' => S' = S ∧ v = .int .i64 ((base1 s : Nat) : Int) := by
  cases s with
  | nil =>
    refine Runs_fn (m := 46) (by kernel_rfl) Tryd.func68 rfl (by kernel_rfl) (by kernel_rfl) ?_
    repeat' (
      first
        | refine W_seq ?_
        | refine WO_nil ?_
        | refine V_seq ?_
        | refine W_region ?_
        | refine W_ret ?_
        | refine V_ret ?_
        | refine W_cond_t rfl ?_
        | refine WO_dst rfl rfl (by kernel_rfl) (by kernel_rfl) ?_
        | refine Ev_move rfl ?_
        | refine Ev_assign rfl ?_
        | refine Ev_seql rfl rfl ?_)
    · refine V_done rfl rfl ?_
      exact ⟨rfl, rfl⟩
  | cons c r =>
    have hc91 : c ≠ 91 := fun h => hb (by rw [h]; rfl)
    have h0 : (c :: r)[0]? = some c := rfl
    refine Runs_fn (m := 46) (by kernel_rfl) Tryd.func68 rfl (by kernel_rfl) (by kernel_rfl) ?_
    repeat' (
      first
        | refine W_seq ?_
        | refine WO_nil ?_
        | refine V_seq ?_
        | refine W_region ?_
        | refine W_block ?_
        | refine W_skip ?_
        | refine W_ret ?_
        | refine V_ret ?_
        | refine V_block ?_
        | refine W_cond_f rfl ?_
        | refine WO_dst rfl rfl (by kernel_rfl) (by kernel_rfl) ?_
        | refine Ev_index rfl rfl rfl rfl h0 ?_
        | refine Ev_move rfl ?_
        | refine Ev_assign rfl ?_
        | refine Ev_eqlN rfl rfl ?_
        | refine Ev_seql rfl rfl ?_
        | (refine W_cond rfl (fun hc => ?_) (fun hc => ?_) <;> (try dsimp only at hc) <;> try (exfalso; first | omega | exact hc rfl)))
    · refine V_done rfl rfl ⟨rfl, ?_⟩
      rw [base1_cons, if_pos hc]; rfl
    · subst hc
      refine W_inv (fun i : Nat => [(4, .int .i64 ((i : Nat) : Int)), (0, .str (76 :: r)), (2, .int .i64 0)]) (fun i T => T = S ∧ 1 ≤ i ∧ i ≤ r.length + 1 ∧ ∀ d ∈ r.take (i - 1), d ≠ 59) (fun i => r.length + 1 - i) ?_ 1 ⟨rfl, by omega, by omega, by simp⟩ ⟨rfl, rfl, rfl, trivial⟩
      rintro i T ⟨rfl, hi1, hi2, hno⟩ back
      have hgi : ∀ h : i < (76 :: r).length, (76 :: r)[i]? = some (r.getD (i - 1) 0) := fun h => by
        obtain ⟨j, rfl⟩ : ∃ j, i = j + 1 := ⟨i - 1, by omega⟩
        rw [List.getElem?_cons_succ, get_some (by simpa using h)]; rfl
      repeat' (
        first
          | refine W_seq ?_
          | refine WO_nil ?_
          | refine V_seq ?_
          | refine W_region ?_
          | refine W_block ?_
          | refine W_skip ?_
          | refine W_ret ?_
          | refine W_exit ?_
          | refine V_block ?_
          | refine V_block_x rfl ?_
          | refine V_seq_x ?_
          | refine V_loop_x ?_
          | refine WO_dst rfl rfl (by kernel_rfl) (by kernel_rfl) ?_
          | refine Ev_index rfl rfl rfl rfl (hgi (by assumption)) ?_
          | refine Ev_slice_str (lo' := some (.int .i64 ((1 : Nat) : Int))) (hi' := some (.int .i64 ((i : Nat) : Int))) (mx' := none) rfl rfl rfl rfl rfl rfl (str_lh (by omega) (by first | omega | (simp; omega))) ?_
          | refine Ev_move rfl ?_
          | refine Ev_assign rfl ?_
          | refine Ev_lssN rfl rfl ?_
          | refine Ev_eqlN rfl rfl ?_
          | refine Ev_len_str rfl rfl rfl rfl rfl ?_
          | refine Ev_addN rfl rfl (by simp only [lim]; omega) ?_
          | (refine W_cond rfl (fun hc => ?_) (fun hc => ?_) <;> (try dsimp only at hc) <;> try (exfalso; first | omega | exact hc rfl)))
      · rename_i hlt
        have hse := semi_at (r := r) (k := i - 1) (by simp at hlt; omega) hc hno
        have e1 : ((76 :: r).take i).drop 1 = r.take (i - 1) := by
          obtain ⟨j, rfl⟩ : ∃ j, i = j + 1 := ⟨i - 1, by omega⟩
          simp
        rw [e1]
        refine Ev_call rfl rfl ((rname_runs (by rw [List.length_take]; simp at hs; omega)).mono ?_)
        rintro _ _ - ⟨rfl, rfl⟩
        repeat' (
          first
            | refine W_seq ?_
            | refine WO_nil ?_
            | refine V_seq ?_
            | refine W_region ?_
            | refine W_skip ?_
            | refine W_ret ?_
            | refine V_ret ?_
            | refine WO_dst rfl rfl (by kernel_rfl) (by kernel_rfl) ?_
            | refine Ev_move rfl ?_
            | refine Ev_assign rfl ?_
            | refine Ev_addN rfl rfl (by simp only [lim]; omega) ?_
            | (refine W_cond rfl (fun hc => ?_) (fun hc => ?_) <;> (try dsimp only at hc) <;> try (exfalso; first | omega | exact hc rfl)))
        · refine V_done rfl rfl ⟨rfl, ?_⟩
          rename_i hnm
          show AV.int .i64 ((i + 1 : Nat) : Int) = _
          rw [base1_76, hse]; dsimp only; rw [if_pos (by assumption)]; congr 2; omega
        · refine V_done rfl rfl ⟨rfl, ?_⟩
          rw [base1_76, hse]; dsimp only; rw [if_neg (by assumption)]; rfl
      · rename_i hlt
        refine back (i + 1) _ _ (by simp at hlt; omega) ⟨rfl, by omega, by simp at hlt; omega, fun d hd => ?_⟩ ⟨rfl, rfl, rfl, trivial⟩
        have hlt2 : i - 1 < r.length := by simp at hlt; omega
        rw [show i + 1 - 1 = (i - 1) + 1 by omega, List.take_succ_eq_append_getElem hlt2] at hd
        rcases List.mem_append.1 hd with h | h
        · exact hno d h
        · rw [List.mem_singleton] at h
          rw [List.getD_eq_getElem?_getD, List.getElem?_eq_getElem hlt2] at hc
          rw [h]; exact hc
      · have hall : ∀ d ∈ r, d ≠ 59 := by
          have : r.take (i - 1) = r := List.take_of_length_le (by simp at hc; omega)
          rw [this] at hno; exact hno
        refine V_done rfl rfl ⟨rfl, ?_⟩
        rw [base1_76, semi_none hall]; rfl
    · refine V_done rfl rfl ⟨rfl, ?_⟩
      rw [base1_cons, if_neg (by assumption), if_neg hc]; rfl
theorem rone_runs {S : St} {s : List Nat} (hs : s.length < 1000000000) : Runs X1 68 [.str s] S fun v S' => S' = S ∧ v = .int .i64 ((oneS s : Nat) : Int) := by
  by_cases hb : s.take 1 = [91]
  · cases s with
    | nil => simp at hb
    | cons c r =>
      have hc91 : c = 91 := by simpa using hb
      subst hc91
      have h0 : (91 :: r)[0]? = some 91 := rfl
      have h1 : 1 < (91 :: r).length → (91 :: r)[1]? = some (r.getD 0 0) := fun h => by
        rw [List.getElem?_cons_succ, get_some (by simpa using h)]
      rw [oneS_cons, if_pos rfl]
      refine Runs_fn (m := 46) (by kernel_rfl) Tryd.func68 rfl (by kernel_rfl) (by kernel_rfl) ?_
      repeat' (
        first
          | refine W_seq ?_
          | refine WO_nil ?_
          | refine V_seq ?_
          | refine W_region ?_
          | refine W_block ?_
          | refine W_skip ?_
          | refine W_ret ?_
          | refine V_block ?_
          | refine W_cond_t rfl ?_
          | refine W_cond_f rfl ?_
          | refine WO_dst rfl rfl (by kernel_rfl) (by kernel_rfl) ?_
          | refine WO_guard_t rfl rfl rfl rfl rfl (by kernel_rfl) (by kernel_rfl) ?_
          | refine WO_guard_f rfl rfl rfl rfl rfl rfl (by kernel_rfl) (by kernel_rfl) ?_
          | refine Ev_index rfl rfl rfl rfl h0 ?_
          | refine Ev_index rfl rfl rfl rfl (h1 (by assumption)) ?_
          | refine Ev_slice_str (lo' := some (.int .i64 ((1 : Nat) : Int))) (hi' := none) (mx' := none) rfl rfl rfl rfl rfl rfl (str_lo (by omega)) ?_
          | refine Ev_move rfl ?_
          | refine Ev_assign rfl ?_
          | refine Ev_pick_t rfl rfl rfl ?_
          | refine Ev_pick_f rfl rfl rfl ?_
          | refine Ev_gtrN rfl rfl ?_
          | refine Ev_eqlN rfl rfl ?_
          | refine Ev_neqN rfl rfl ?_
          | refine Ev_seql rfl rfl ?_
          | refine Ev_len_str rfl rfl rfl rfl rfl ?_
          | (refine WO_guard_dt rfl rfl rfl rfl rfl (by kernel_rfl) (by kernel_rfl) (fun hg => ?_) (fun hg => ?_) <;> (try dsimp only at hg) <;> try (exfalso; first | omega | exact hg rfl))
          | (refine W_cond rfl (fun hc => ?_) (fun hc => ?_) <;> (try dsimp only at hc) <;> try (exfalso; first | omega | exact hc rfl)))
      · have hr : ¬ r.take 1 = [91] := by
          intro h
          cases r with
          | nil => simp at h
          | cons d r => exact hc (by simpa using h)
        have hdr : (91 :: r).drop 1 = r := rfl
        rw [hdr]
        refine Ev_call rfl rfl ((rone1_runs (by simp at hs; omega) hr).mono ?_)
        rintro _ _ - ⟨rfl, rfl⟩
        have hbl := base1_le r
        simp only [List.length_cons] at hs
        repeat' (
          first
            | refine W_seq ?_
            | refine WO_nil ?_
            | refine V_seq ?_
            | refine W_region ?_
            | refine W_skip ?_
            | refine W_ret ?_
            | refine V_ret ?_
            | refine V_block ?_
            | refine WO_dst rfl rfl (by kernel_rfl) (by kernel_rfl) ?_
            | refine Ev_move rfl ?_
            | refine Ev_assign rfl ?_
            | refine Ev_gtrN rfl rfl ?_
            | refine Ev_addN rfl rfl (by simp only [lim]; omega) ?_
            | (refine W_cond rfl (fun hc => ?_) (fun hc => ?_) <;> (try dsimp only at hc) <;> try (exfalso; first | omega | exact hc rfl)))
        · refine V_done rfl rfl ⟨rfl, ?_⟩
          rw [if_neg (by omega)]; rfl
        · refine V_done rfl rfl ⟨rfl, ?_⟩
          rw [if_pos (by omega)]; rfl
      · refine V_done rfl rfl ⟨rfl, ?_⟩
        have hr : base1 r = 0 := by
          cases r with
          | nil => rfl
          | cons d r =>
            have : d = 91 := Classical.not_not.1 hc
            subst this; rfl
        rw [if_pos hr]; rfl
      · refine V_done rfl rfl ⟨rfl, ?_⟩
        have hr : r = [] := List.eq_nil_of_length_eq_zero (by simp only [List.length_cons] at hg; omega)
        subst hr; rfl
  · have e : oneS s = base1 s := by
      cases s with
      | nil => rfl
      | cons c r => rw [oneS_cons, if_neg (fun h => hb (by rw [h]; rfl))]
    rw [e]; exact rone1_runs hs hb
theorem rfield_runs {S : St} {s : List Nat} (hs : s.length < 1000000000) : Runs X1 49 [.str s] S fun v S' => S' = S ∧ v = .bool (decide (fieldP s)) := by
  refine Runs_fn (m := 12) (by kernel_rfl) Tryd.func49 rfl (by kernel_rfl) (by kernel_rfl) ?_
  repeat' (
    first
      | refine W_seq ?_
      | refine WO_nil ?_
      | refine V_seq ?_
      | refine W_region ?_
      | refine W_ret ?_
      | refine WO_dst rfl rfl (by kernel_rfl) (by kernel_rfl) ?_
      | refine WO_guard_t rfl rfl rfl rfl rfl (by kernel_rfl) (by kernel_rfl) ?_
      | refine WO_guard_f rfl rfl rfl rfl rfl rfl (by kernel_rfl) (by kernel_rfl) ?_
      | refine Ev_move rfl ?_
      | refine Ev_assign rfl ?_
      | refine Ev_pick_f rfl rfl rfl ?_
      | refine Ev_sneq rfl rfl ?_
      | (refine WO_guard_dt rfl rfl rfl rfl rfl (by kernel_rfl) (by kernel_rfl) (fun hg => ?_) (fun hg => ?_) <;> (try dsimp only at hg) <;> try (exfalso; first | omega | exact hg rfl)))
  · refine Ev_call rfl rfl ((rone_runs hs).mono ?_)
    rintro _ _ - ⟨rfl, rfl⟩
    repeat' (
      first
        | refine WO_nil ?_
        | refine V_seq ?_
        | refine W_ret ?_
        | refine WO_dst rfl rfl (by kernel_rfl) (by kernel_rfl) ?_
        | refine WO_guard_t rfl rfl rfl rfl rfl (by kernel_rfl) (by kernel_rfl) ?_
        | refine Ev_move rfl ?_
        | refine Ev_assign rfl ?_
        | refine Ev_pick_t rfl rfl rfl ?_
        | refine Ev_eqlN rfl rfl ?_
        | refine Ev_len_str rfl rfl rfl rfl rfl ?_)
    refine V_done rfl rfl ⟨rfl, ?_⟩
    show AV.bool (decide (oneS s = s.length)) = _
    congr 1
    exact decide_eq_decide.2 ⟨fun h => ⟨hg, h⟩, fun h => h.2⟩
  · refine V_done rfl rfl ⟨rfl, ?_⟩
    rw [decide_eq_false (fun h => hg h.1)]; rfl
theorem one_ne {x : List Nat} (h : oneS x ≠ 0) : x ≠ [] ∧ ¬ x.take 1 = [41] := by
  cases x with
  | nil => exact absurd rfl h
  | cons c r =>
    refine ⟨by simp, fun h2 => h ?_⟩
    have : c = 41 := by simpa using h2
    subst this; rfl
theorem fields_8 {r q : List Nat} {n : Nat} (hq : q = (fieldsM n r).2) (h8 : n ≤ 8) (h0 : oneS q = 0) : fieldsM 8 r = ((fieldsM n r).1, q) := by
  have := fieldsM_add n (8 - n) r
  rw [show n + (8 - n) = 8 by omega, ← hq, fieldsM_stop h0] at this
  rw [this]; simp
theorem fields_9 {r : List Nat} {n : Nat} (h8 : 8 < n) (hl : (fieldsM n r).1.length = n) : ¬ (fieldsM 8 r).2.take 1 = [41] := by
  refine (one_ne (fun h0 => ?_)).2
  have := fieldsM_add 8 (n - 8) r
  rw [show 8 + (n - 8) = n by omega, fieldsM_stop h0] at this
  rw [this] at hl
  have h3 := (fieldsM_len 8 r).1
  simp at hl; omega
theorem meth_bad {s r q : List Nat} {n : Nat} (hr : r = s.drop 1) (hq : q = (fieldsM n r).2) (hl : (fieldsM n r).1.length = n) (h0 : oneS q = 0) (h1 : ¬ q.take 1 = [41] ∨ 8 < n ∨ ¬ (q.drop 1 = [86] ∨ fieldP (q.drop 1))) : methS s = none := by
  unfold methS
  rw [← hr]
  by_cases h8 : n ≤ 8
  · rw [fields_8 hq h8 h0]
    rw [if_neg]
    rintro ⟨_, g1, g2⟩
    rcases h1 with h1 | h1 | h1
    · exact h1 g1
    · omega
    · exact h1 g2
  · rw [if_neg]
    rintro ⟨_, g1, _⟩
    exact fields_9 (by omega) hl g1
theorem rmethod_runs {S : St} {s : List Nat} (hok : Sok S) (hs : s.length < 100000000) (hn : S.n + 2 * s.length + 20 ≤ 1000000000) : Runs X1 48 [.str s] S (MethO S s (2 * s.length)) := by
  have hnone : methS s = none → (methR s).1 = [] ∧ (methR s).2 = [] ∧ decide ((methS s).isSome = true) = false := by
    intro h; unfold methR; rw [h]; exact ⟨rfl, rfl, rfl⟩
  have bad : ∀ T, Fr S T .nils (2 * s.length) → methS s = none → MethO S s (2 * s.length) (.tup [.nils, .str [], .bool false]) T := by
    intro T hF h
    obtain ⟨e1, e2, e3⟩ := hnone h
    refine ⟨hF, .nils, by rw [e2, e3], by rw [e1]; exact .inl ⟨rfl, rfl, rfl⟩, fun c hc => by cases hc⟩
  have h00 : ∀ h : s ≠ [], s[0]? = some (s.getD 0 0) := fun h => get_some (List.length_pos_iff.2 h)
  have ht40 : s.take 1 = [40] ↔ s ≠ [] ∧ s.getD 0 0 = 40 := by cases s <;> simp
  refine Runs_fn (m := 57) (by kernel_rfl) Tryd.func48 rfl (by kernel_rfl) (by kernel_rfl) ?_
  repeat' (
    first
      | refine W_seq ?_
      | refine WO_nil ?_
      | refine V_seq ?_
      | refine W_region ?_
      | refine W_block ?_
      | refine W_skip ?_
      | refine W_ret ?_
      | refine V_ret ?_
      | refine W_cond_t rfl ?_
      | refine WO_dst rfl rfl (by kernel_rfl) (by kernel_rfl) ?_
      | refine WO_guard_t rfl rfl rfl rfl rfl (by kernel_rfl) (by kernel_rfl) ?_
      | refine WO_guard_f rfl rfl rfl rfl rfl rfl (by kernel_rfl) (by kernel_rfl) ?_
      | refine Ev_index rfl rfl rfl rfl (h00 (by assumption)) ?_
      | refine Ev_slice_str (lo' := some (.int .i64 ((1 : Nat) : Int))) (hi' := none) (mx' := none) rfl rfl rfl rfl rfl rfl (str_lo (by have := List.length_pos_iff.2 (show s ≠ [] by assumption); omega)) ?_
      | refine Ev_move rfl ?_
      | refine Ev_assign rfl ?_
      | refine Ev_pick_t rfl rfl rfl ?_
      | refine Ev_pick_f rfl rfl rfl ?_
      | refine Ev_neqN rfl rfl ?_
      | refine Ev_seql rfl rfl ?_
      | (refine WO_guard_df rfl rfl rfl rfl rfl (by kernel_rfl) (by kernel_rfl) (fun hg => ?_) (fun hg => ?_) <;> (try dsimp only at hg) <;> try (exfalso; first | omega | exact hg rfl))
      | (refine W_cond rfl (fun hc => ?_) (fun hc => ?_) <;> (try dsimp only at hc) <;> try (exfalso; first | omega | exact hc rfl)))
  · refine V_done rfl rfl (bad _ ⟨Nat.le_refl _, by omega, hok, fun _ _ _ => rfl⟩ ?_)
    unfold methS; rw [if_neg (fun h => hc (ht40.1 h.1).2)]
  · have hs1 : s.take 1 = [40] := ht40.2 ⟨hg, Classical.not_not.1 hc⟩
    obtain ⟨r, hr⟩ : ∃ r, r = s.drop 1 := ⟨_, rfl⟩
    rw [← hr]
    have hrl : r.length + 1 = s.length := by
      have := List.length_pos_iff.2 (show s ≠ [] from hg)
      rw [hr, List.length_drop]; omega
    refine W_inv (fun a : Nat × AV => [(0, .str (fieldsM a.1 r).2), (5, a.2), (2, .nils), (3, .str []), (4, .bool false)]) (fun a T => Fr S T .nils (2 * a.1) ∧ (fieldsM a.1 r).1.length = a.1 ∧ a.1 + (fieldsM a.1 r).2.length ≤ r.length ∧ Own T a.2 9 1 ((fieldsM a.1 r).1.map .str) a.1 ∧ ∀ c, blkOf a.2 = some c → S.n ≤ c) (fun a => r.length - a.1) ?_ (0, .nils) ⟨⟨Nat.le_refl _, Nat.le_refl _, hok, fun _ _ _ => rfl⟩, rfl, by simp [fieldsM], .inl ⟨rfl, rfl, rfl⟩, fun c hc => by cases hc⟩ ⟨rfl, rfl, rfl, rfl, rfl, trivial⟩
    rintro ⟨i, w⟩ T ⟨hF, hl, hi, how, hbw⟩ back
    dsimp only at hF hl hi how hbw back
    obtain ⟨q, hqe⟩ : ∃ q, q = (fieldsM i r).2 := ⟨_, rfl⟩
    have hnx := fieldsM_next (n := i) (s := r)
    rw [← hqe] at hi hnx
    dsimp only
    rw [← hqe]
    have gn := hF.n
    have gl := hF.le
    have hle := oneS_le q
    have hq0 : ∀ h : q ≠ [], q[0]? = some (q.getD 0 0) := fun h => get_some (List.length_pos_iff.2 h)
    have hq41 : q.take 1 = [41] ↔ q ≠ [] ∧ q.getD 0 0 = 41 := by cases q <;> simp
    repeat' (
      first
        | refine W_seq ?_
        | refine WO_nil ?_
        | refine V_seq ?_
        | refine W_region ?_
        | refine W_block ?_
        | refine W_skip ?_
        | refine W_ret ?_
        | refine W_exit ?_
        | refine V_ret ?_
        | refine V_block_x rfl ?_
        | refine V_seq_x ?_
        | refine V_loop_x ?_
        | refine W_cond_t rfl ?_
        | refine W_cond_f rfl ?_
        | refine WO_dst rfl rfl (by kernel_rfl) (by kernel_rfl) ?_
        | refine WO_guard_t rfl rfl rfl rfl rfl (by kernel_rfl) (by kernel_rfl) ?_
        | refine WO_guard_f rfl rfl rfl rfl rfl rfl (by kernel_rfl) (by kernel_rfl) ?_
        | refine WO_guard_x rfl rfl rfl rfl rfl (by kernel_rfl) (by kernel_rfl) ?_
        | refine Ev_index rfl rfl rfl rfl (hq0 (by assumption)) ?_
        | refine Ev_move rfl ?_
        | refine Ev_assign rfl ?_
        | refine Ev_pick_t rfl rfl rfl ?_
        | refine Ev_pick_f rfl rfl rfl ?_
        | refine Ev_neqN rfl rfl ?_
        | refine Ev_seql rfl rfl ?_
        | refine Ev_sneq rfl rfl ?_
        | (refine WO_guard_dt rfl rfl rfl rfl rfl (by kernel_rfl) (by kernel_rfl) (fun hg => ?_) (fun hg => ?_) <;> (try dsimp only at hg) <;> try (exfalso; first | omega | exact hg rfl))
        | (refine WO_guard_df rfl rfl rfl rfl rfl (by kernel_rfl) (by kernel_rfl) (fun hg => ?_) (fun hg => ?_) <;> (try dsimp only at hg) <;> try (exfalso; first | omega | exact hg rfl))
        | (refine W_cond rfl (fun hc => ?_) (fun hc => ?_) <;> (try dsimp only at hc) <;> try (exfalso; first | omega | exact hc rfl)))
    · have hq1 : ¬ q.take 1 = [41] := fun h => hc (hq41.1 h).2
      refine Ev_call rfl rfl ((rone_runs (by omega)).mono ?_)
      rintro _ _ - ⟨rfl, rfl⟩
      rename_i T
      repeat' (
        first
          | refine W_seq ?_
          | refine WO_nil ?_
          | refine V_seq ?_
          | refine W_region ?_
          | refine W_skip ?_
          | refine W_ret ?_
          | refine V_ret ?_
          | refine WO_dst rfl rfl (by kernel_rfl) (by kernel_rfl) ?_
          | refine Ev_slice_str (lo' := none) (hi' := some (.int .i64 ((oneS q : Nat) : Int))) (mx' := none) rfl rfl rfl rfl rfl rfl (str_hi (by omega)) ?_
          | refine Ev_move rfl ?_
          | refine Ev_assign rfl ?_
          | refine Ev_eqlN rfl rfl ?_
          | (refine W_cond rfl (fun hc => ?_) (fun hc => ?_) <;> (try dsimp only at hc) <;> try (exfalso; first | omega | exact hc rfl)))
      · rename_i h0
        refine V_done rfl rfl (bad _ ⟨by omega, by omega, hF.ok, hF.same⟩ (meth_bad hr hqe hl hc (.inl hq1)))
      · refine Ev_buildSlice rfl rfl rfl rfl rfl rfl hF.ok (by omega) ?_
        intro T1 n1 ok1 q1 f1
        have how1 := how.keep (fun c hc => f1 c (how.lt hF.ok hc))
        repeat (
          refine WO_dst rfl rfl (by kernel_rfl) (by kernel_rfl) ?_)
        refine Ev_append rfl rfl rfl rfl rfl rfl rfl rfl rfl rfl how1 (strs_rd q1) (by simp [AV.one]) ok1 (by omega) (by dsimp only; omega) (by omega) ?_
        intro w2 T2 gl2 gn2 gok2 how2 gf2 gb2
        rw [if_neg hc] at hnx
        repeat (
          first
            | refine WO_nil ?_
            | refine V_seq ?_
            | refine W_region ?_
            | refine V_block ?_
            | refine WO_dst rfl rfl (by kernel_rfl) (by kernel_rfl) ?_
            | refine Ev_slice_str (lo' := some (.int .i64 ((oneS q : Nat) : Int))) (hi' := none) (mx' := none) rfl rfl rfl rfl rfl rfl (str_lo (by omega)) ?_
            | refine Ev_move rfl ?_
            | refine Ev_assign rfl ?_)
        refine back (i + 1, w2) T2 _ (by dsimp only; omega) ⟨⟨by omega, by dsimp only; omega, gok2, fun c _ h => ?_⟩, ?_, ?_, ?_, fun c hc => ?_⟩ ⟨?_, rfl, rfl, rfl, rfl, trivial⟩
        · rw [gf2 c (fun e => by have := hbw c e; omega) (by omega), f1 c (by omega), hF.same c (by simp [blkOf]) h]
        · dsimp only; rw [hnx, List.length_append, hl]; rfl
        · dsimp only; rw [hnx, List.length_drop]; omega
        · dsimp only; rw [hnx]; exact how2.eq (by simp) rfl
        · rcases gb2 c hc with h | h
          · exact hbw c h
          · omega
        · show some (AV.str _) = some (AV.str (fieldsM (i + 1) r).2)
          rw [hnx]
    · have h41 : q.take 1 = [41] := hq41.2 ⟨hg, Classical.not_not.1 hc⟩
      have h0 : oneS q = 0 := Classical.byContradiction fun h => (one_ne h).2 h41
      have hql : 1 ≤ q.length := List.length_pos_iff.2 hg
      by_cases h8 : i ≤ 8
      · have he := fields_8 hqe h8 h0
        obtain ⟨res, hres⟩ : ∃ res, res = q.drop 1 := ⟨_, rfl⟩
        have hrl2 : res.length < q.length := by rw [hres, List.length_drop]; omega
        repeat' (
          first
            | refine WO_dst rfl rfl (by kernel_rfl) (by kernel_rfl) ?_
            | refine WO_guard_t rfl rfl rfl rfl rfl (by kernel_rfl) (by kernel_rfl) ?_
            | refine Ev_len rfl rfl rfl rfl rfl how.rd.len ?_
            | refine Ev_move rfl ?_
            | refine Ev_pick_f rfl rfl rfl ?_
            | refine Ev_gtrN rfl rfl ?_
            | (refine WO_guard_df rfl rfl rfl rfl rfl (by kernel_rfl) (by kernel_rfl) (fun hg => ?_) (fun hg => ?_) <;> (try dsimp only at hg) <;> try (exfalso; first | omega | exact hg rfl)))
        refine Ev_slice_str (lo' := some (.int .i64 ((1 : Nat) : Int))) (hi' := none) (mx' := none) rfl rfl rfl rfl rfl rfl (str_lo hql) ?_
        rw [← hres]
        have good : ((res = [86]) ∨ fieldP res) → methS s = some ((fieldsM i r).1, res) := by
          intro h
          unfold methS; rw [← hr, he]; dsimp only
          rw [← hres, if_pos ⟨hs1, h41, h⟩]
        by_cases hv : res = [86]
        · have e := good (.inl hv)
          subst hv
          repeat' (
            first
              | refine W_seq ?_
              | refine WO_nil ?_
              | refine V_seq ?_
              | refine W_drawn (by kernel_rfl) ?_
              | refine W_skip ?_
              | refine W_cond_f rfl ?_
              | refine WO_dst rfl rfl (by kernel_rfl) (by kernel_rfl) ?_
              | refine WO_guard_t rfl rfl rfl rfl rfl (by kernel_rfl) (by kernel_rfl) ?_
              | refine WO_guard_f rfl rfl rfl rfl rfl rfl (by kernel_rfl) (by kernel_rfl) ?_
              | refine Ev_move rfl ?_
              | refine Ev_pick_f rfl rfl rfl ?_
              | refine Ev_sneq rfl rfl ?_)
          refine Ev_slice_str (lo' := some (.int .i64 ((1 : Nat) : Int))) (hi' := none) (mx' := none) rfl rfl rfl rfl rfl rfl (str_lo hql) ?_
          rw [← hres]
          repeat' (
            first
              | refine WO_nil ?_
              | refine V_seq ?_
              | refine W_ret ?_
              | refine WO_dst rfl rfl (by kernel_rfl) (by kernel_rfl) ?_
              | refine Ev_assign rfl ?_)
          refine V_done rfl rfl ⟨⟨by omega, by omega, hF.ok, hF.same⟩, w, ?_, ?_, hbw⟩
          · unfold methR; rw [e]; rfl
          · unfold methR; rw [e]; exact how.eq rfl hl.symm
        · repeat' (
            first
              | refine W_seq ?_
              | refine WO_nil ?_
              | refine V_seq ?_
              | refine W_drawn (by kernel_rfl) ?_
              | refine W_skip ?_
              | refine W_cond_f rfl ?_
              | refine WO_dst rfl rfl (by kernel_rfl) (by kernel_rfl) ?_
              | refine WO_guard_t rfl rfl rfl rfl rfl (by kernel_rfl) (by kernel_rfl) ?_
              | refine WO_guard_f rfl rfl rfl rfl rfl rfl (by kernel_rfl) (by kernel_rfl) ?_
              | refine Ev_move rfl ?_
              | refine Ev_pick_f rfl rfl rfl ?_
              | refine Ev_sneq rfl rfl ?_
              | (refine WO_guard_dt rfl rfl rfl rfl rfl (by kernel_rfl) (by kernel_rfl) (fun hg => ?_) (fun hg => ?_) <;> (try dsimp only at hg) <;> try (exfalso; first | omega | exact hg rfl)))
          rotate_left
          · exact absurd (Classical.not_not.1 hg) hv
          refine Ev_slice_str (lo' := some (.int .i64 ((1 : Nat) : Int))) (hi' := none) (mx' := none) rfl rfl rfl rfl rfl rfl (str_lo hql) ?_
          rw [← hres]
          repeat' (
            first
              | refine WO_dst rfl rfl (by kernel_rfl) (by kernel_rfl) ?_
              | refine WO_guard_t rfl rfl rfl rfl rfl (by kernel_rfl) (by kernel_rfl) ?_)
          refine Ev_call rfl rfl ((rfield_runs (by omega)).mono ?_)
          rintro _ _ - ⟨rfl, rfl⟩
          rename_i T
          by_cases hp : fieldP res
          · have e := good (.inr hp)
            rw [decide_eq_true hp]
            repeat' (
              first
                | refine W_seq ?_
                | refine WO_nil ?_
                | refine V_seq ?_
                | refine W_drawn (by kernel_rfl) ?_
                | refine W_skip ?_
                | refine W_cond_f rfl ?_
                | refine WO_dst rfl rfl (by kernel_rfl) (by kernel_rfl) ?_
                | refine WO_guard_t rfl rfl rfl rfl rfl (by kernel_rfl) (by kernel_rfl) ?_
                | refine Ev_move rfl ?_
                | refine Ev_pick_t rfl rfl rfl ?_
                | refine Ev_pick_f rfl rfl rfl ?_
                | refine Ev_notb rfl ?_)
            refine Ev_slice_str (lo' := some (.int .i64 ((1 : Nat) : Int))) (hi' := none) (mx' := none) rfl rfl rfl rfl rfl rfl (str_lo hql) ?_
            rw [← hres]
            repeat' (
              first
                | refine WO_nil ?_
                | refine V_seq ?_
                | refine W_ret ?_
                | refine WO_dst rfl rfl (by kernel_rfl) (by kernel_rfl) ?_
                | refine Ev_assign rfl ?_)
            refine V_done rfl rfl ⟨⟨by omega, by omega, hF.ok, hF.same⟩, w, ?_, ?_, hbw⟩
            · unfold methR; rw [e]; rfl
            · unfold methR; rw [e]; exact how.eq rfl hl.symm
          · rw [decide_eq_false hp]
            repeat' (
              first
                | refine W_seq ?_
                | refine WO_nil ?_
                | refine V_seq ?_
                | refine W_region ?_
                | refine W_ret ?_
                | refine V_ret ?_
                | refine W_cond_t rfl ?_
                | refine WO_dst rfl rfl (by kernel_rfl) (by kernel_rfl) ?_
                | refine WO_guard_t rfl rfl rfl rfl rfl (by kernel_rfl) (by kernel_rfl) ?_
                | refine Ev_assign rfl ?_
                | refine Ev_pick_t rfl rfl rfl ?_
                | refine Ev_pick_f rfl rfl rfl ?_
                | refine Ev_notb rfl ?_)
            exact V_done rfl rfl (bad _ ⟨by omega, by omega, hF.ok, hF.same⟩ (meth_bad hr hqe hl h0 (.inr (.inr fun h => by rw [← hres] at h; rcases h with h | h; exact hv h; exact hp h))))
      · have hbad := meth_bad hr hqe hl h0 (.inr (.inl (by omega)))
        repeat' (
          first
            | refine W_seq ?_
            | refine WO_nil ?_
            | refine V_seq ?_
            | refine W_region ?_
            | refine W_ret ?_
            | refine V_ret ?_
            | refine W_cond_t rfl ?_
            | refine WO_dst rfl rfl (by kernel_rfl) (by kernel_rfl) ?_
            | refine WO_guard_t rfl rfl rfl rfl rfl (by kernel_rfl) (by kernel_rfl) ?_
            | refine WO_guard_f rfl rfl rfl rfl rfl rfl (by kernel_rfl) (by kernel_rfl) ?_
            | refine WO_guard_x rfl rfl rfl rfl rfl (by kernel_rfl) (by kernel_rfl) ?_
            | refine Ev_len rfl rfl rfl rfl rfl how.rd.len ?_
            | refine Ev_move rfl ?_
            | refine Ev_assign rfl ?_
            | refine Ev_pick_t rfl rfl rfl ?_
            | refine Ev_pick_f rfl rfl rfl ?_
            | refine Ev_gtrN rfl rfl ?_
            | (refine WO_guard_df rfl rfl rfl rfl rfl (by kernel_rfl) (by kernel_rfl) (fun hg => ?_) (fun hg => ?_) <;> (try dsimp only at hg) <;> try (exfalso; first | omega | exact hg rfl)))
        exact V_done rfl rfl (bad _ ⟨by omega, by omega, hF.ok, hF.same⟩ hbad)
    · exact absurd hg (by assumption)
    · exact absurd hg (by assumption)
    · have hq0' : q = [] := hg
      have hbad := meth_bad hr hqe hl (by rw [hq0']; rfl) (.inl (by rw [hq0']; simp))
      exact V_done rfl rfl (bad _ ⟨by omega, by omega, hF.ok, hF.same⟩ hbad)
  · refine V_done rfl rfl (bad _ ⟨Nat.le_refl _, by omega, hok, fun _ _ _ => rfl⟩ ?_)
    unfold methS; rw [if_neg (fun h => (ht40.1 h.1).1 hg)]
end Go.Proofs.YthhbnnnokmefoaaDoor
/- pool.Right, caraferef3.Right. -/


namespace Go.Proofs.YthhbnnnokmefoaaDoor
open GX
set_option maxHeartbeats 16000000
structure CnA where
  kind : Int
  n : Int
  cl : List Nat
  nm : List Nat
  ds : List Nat
  deriving DecidableEq
def CnA.cells (c : CnA) : List AV := [.int .i64 c.kind, .int .i32 c.n, .str c.cl, .str c.nm, .str c.ds]
structure CnA.Good (c : CnA) : Prop where
  k1 : -9223372036854775808 ≤ c.kind
  k2 : c.kind < 9223372036854775808
  n1 : -2147483648 ≤ c.n
  n2 : c.n < 2147483648
  cl : c.cl.length < 9223372036854775808 ∧ ∀ b ∈ c.cl, b < 256
  nm : c.nm.length < 9223372036854775808 ∧ ∀ b ∈ c.nm, b < 256
  ds : c.ds.length < 9223372036854775808 ∧ ∀ b ∈ c.ds, b < 256
/-- what a constant is to be -/
def rightP (c : CnA) : Prop :=
  (c.kind = 3 ∧ c.cl = [] ∧ c.nm = [] ∧ c.ds = []) ∨
  (c.kind = 7 ∧ c.n = 0 ∧ ((c.cl.take 1 = [91] ∧ fieldP c.cl) ∨ nameP c.cl) ∧ c.nm = [] ∧ c.ds = []) ∨
  (c.kind = 10 ∧ (methS c.ds).isSome = true ∧ c.ds.length ≤ 256 ∧ c.n = 0 ∧ nameP c.cl ∧ nameP c.nm) ∨
  (c.kind = 9 ∧ fieldP c.ds ∧ c.n = 0 ∧ nameP c.cl ∧ nameP c.nm)
instance (c : CnA) : Decidable (rightP c) := by unfold rightP; exact inferInstance
theorem Fr.of1 {S T : St} (h : T.n = S.n + 1) (hok : Sok T) (hf : ∀ c, c < S.n → T.h.get c = S.h.get c) {k : Nat} : Fr S T .nils (k + 1) := ⟨by omega, by omega, hok, fun c _ h => hf c h⟩
theorem rightP_3 {c : CnA} (h : c.kind = 3) : rightP c ↔ c.cl = [] ∧ c.nm = [] ∧ c.ds = [] := by
  unfold rightP; rw [h]; simp
theorem rightP_7 {c : CnA} (h : c.kind = 7) : rightP c ↔ c.n = 0 ∧ ((c.cl.take 1 = [91] ∧ fieldP c.cl) ∨ nameP c.cl) ∧ c.nm = [] ∧ c.ds = [] := by
  unfold rightP; rw [h]; simp
theorem rightP_10 {c : CnA} (h : c.kind = 10) : rightP c ↔ (methS c.ds).isSome = true ∧ c.ds.length ≤ 256 ∧ c.n = 0 ∧ nameP c.cl ∧ nameP c.nm := by
  unfold rightP; rw [h]; simp
theorem rightP_9 {c : CnA} (h : c.kind = 9) : rightP c ↔ fieldP c.ds ∧ c.n = 0 ∧ nameP c.cl ∧ nameP c.nm := by
  unfold rightP; rw [h]; simp
theorem rightP_o {c : CnA} (h3 : ¬ c.kind = 3) (h7 : ¬ c.kind = 7) (h10 : ¬ c.kind = 10) (h9 : ¬ c.kind = 9) : rightP c ↔ False := by
  unfold rightP; simp [h3, h7, h10, h9]
theorem bool_fin {p : Prop} [Decidable p] {b : Bool} (h : b = true ↔ p) : AV.bool b = AV.bool (decide p) := by
  cases b with
  | true => rw [decide_eq_true (h.1 rfl)]
  | false => rw [decide_eq_false (fun g => by cases h.2 g)]
theorem right_runs {S : St} {c : CnA} (hok : Sok S) (hcg : c.Good) (hn : S.n + 40 ≤ 1000000000) : Runs X1 19 [.agg c.cells] S fun v S' => v = .bool (decide (rightP c)) ∧ Fr S S' .nils 20 := by
  have hcl := hcg.cl.1
  have hnm := hcg.nm.1
  have hds := hcg.ds.1
  refine Runs_fn (m := 93) (by kernel_rfl) Tryd.func19 rfl (by kernel_rfl) (by kernel_rfl) ?_
  repeat (
    first
      | refine W_seq ?_
      | refine W_region ?_
      | refine WO_dst rfl rfl (by kernel_rfl) (by kernel_rfl) ?_)
  refine Ev_box rfl hok (by omega) ?_
  intro T hTn hTok hTq hTf
  have hF := Fr.of1 hTn hTok hTf (k := 19)
  have hq : T.h.get S.n = some (.cells 24 c.cells false) := hTq
  repeat' (
    first
      | refine W_seq ?_
      | refine WO_nil ?_
      | refine V_seq ?_
      | refine W_region ?_
      | refine W_block ?_
      | refine W_skip ?_
      | refine W_ret ?_
      | refine W_exit ?_
      | refine V_ret ?_
      | refine V_block_x rfl ?_
      | refine V_block_y rfl ?_
      | refine V_seq_x ?_
      | refine WO_dst rfl rfl (by kernel_rfl) (by kernel_rfl) ?_
      | refine WO_guard_t rfl rfl rfl rfl rfl (by kernel_rfl) (by kernel_rfl) ?_
      | refine WO_guard_f rfl rfl rfl rfl rfl rfl (by kernel_rfl) (by kernel_rfl) ?_
      | refine WO_guard_x rfl rfl rfl rfl rfl (by kernel_rfl) (by kernel_rfl) ?_
      | refine Ev_load rfl rfl rfl hq rfl (veq_int _ _) ?_
      | refine Ev_load rfl rfl rfl hq rfl (veq_str _) ?_
      | (refine Ev_call rfl rfl ((shasp_runs (p := [91])).mono ?_); rintro _ _ - ⟨rfl, rfl⟩)
      | (refine Ev_call rfl rfl ((field_runs (by omega)).mono ?_); rintro _ _ - ⟨rfl, rfl⟩)
      | (refine Ev_call rfl rfl ((name_runs (by omega)).mono ?_); rintro _ _ - ⟨rfl, rfl⟩)
      | refine Ev_move rfl ?_
      | refine Ev_assign rfl ?_
      | refine Ev_pick_t rfl rfl rfl ?_
      | refine Ev_pick_f rfl rfl rfl ?_
      | refine Ev_eql rfl rfl ?_
      | refine Ev_seql rfl rfl ?_
      | refine Ev_fieldAddr rfl rfl rfl rfl rfl rfl ?_
      | (refine WO_guard_dt rfl rfl rfl rfl rfl (by kernel_rfl) (by kernel_rfl) (fun hg => ?_) (fun hg => ?_) <;> (try dsimp only at hg) <;> try (exfalso; first | omega | exact hg rfl))
      | (refine WO_guard_df rfl rfl rfl rfl rfl (by kernel_rfl) (by kernel_rfl) (fun hg => ?_) (fun hg => ?_) <;> (try dsimp only at hg) <;> try (exfalso; first | omega | exact hg rfl))
      | (refine W_cond rfl (fun hc => ?_) (fun hc => ?_) <;> (try dsimp only at hc) <;> try (exfalso; first | omega | exact hc rfl)))
  all_goals try
    refine V_done rfl rfl ⟨bool_fin ?_, hF⟩
    first
      | rw [rightP_3 (by assumption)]
      | rw [rightP_7 (by assumption)]
      | rw [rightP_9 (by assumption)]
      | rw [rightP_o (by assumption) (by assumption) (by assumption) (by assumption)]
    clear hn hcl hnm hds hok hcg hq hF hTn hTok hTq hTf
    simp_all
    done
  refine Ev_call rfl rfl ((method_runs hTok (by omega) (by omega)).mono ?_)
  rintro _ T1 - ⟨hF1, sl, rfl, -, -⟩
  have gn1 := hF1.n
  have gl1 := hF1.le
  have hF2 : Fr S T1 .nils 20 := ⟨by omega, by omega, hF1.ok, fun c _ h => by rw [hF1.same c (by simp [blkOf]) (by omega), hTf c h]⟩
  have hq1 : T1.h.get S.n = some (.cells 24 c.cells false) := by rw [hF1.same S.n (by simp [blkOf]) (by omega)]; exact hq
  repeat' (
    first
      | refine W_seq ?_
      | refine WO_nil ?_
      | refine V_seq ?_
      | refine W_region ?_
      | refine W_skip ?_
      | refine W_ret ?_
      | refine V_ret ?_
      | refine V_block ?_
      | refine WO_dst rfl rfl (by kernel_rfl) (by kernel_rfl) ?_
      | refine WO_guard_t rfl rfl rfl rfl rfl (by kernel_rfl) (by kernel_rfl) ?_
      | refine WO_guard_f rfl rfl rfl rfl rfl rfl (by kernel_rfl) (by kernel_rfl) ?_
      | refine Ev_load rfl rfl rfl hq1 rfl (veq_int _ _) ?_
      | refine Ev_load rfl rfl rfl hq1 rfl (veq_str _) ?_
      | (refine Ev_call rfl rfl ((name_runs (by omega)).mono ?_); rintro _ _ - ⟨rfl, rfl⟩)
      | refine Ev_move rfl ?_
      | refine Ev_assign rfl ?_
      | refine Ev_extract rfl rfl ?_
      | refine Ev_pick_t rfl rfl rfl ?_
      | refine Ev_pick_f rfl rfl rfl ?_
      | refine Ev_leqN rfl rfl ?_
      | refine Ev_eql rfl rfl ?_
      | refine Ev_fieldAddr rfl rfl rfl rfl rfl rfl ?_
      | refine Ev_len_str rfl rfl rfl rfl rfl ?_
      | (refine WO_guard_dt rfl rfl rfl rfl rfl (by kernel_rfl) (by kernel_rfl) (fun hg => ?_) (fun hg => ?_) <;> (try dsimp only at hg) <;> try (exfalso; first | omega | exact hg rfl))
      | (refine W_cond rfl (fun hc => ?_) (fun hc => ?_) <;> (try dsimp only at hc) <;> try (exfalso; first | omega | exact hc rfl)))
  all_goals
    refine V_done rfl rfl ⟨bool_fin ?_, hF2⟩
    rw [rightP_10 (by assumption)]
    clear hn hcl hnm hds hok hcg hq hF hTn hTok hTq hTf hF1 hF2 hq1 gn1 gl1
    simp_all <;> (intros; omega)
theorem rright_runs {S : St} {c : CnA} (hok : Sok S) (hsm : c.cl.length ≤ 1048576 ∧ c.nm.length ≤ 1048576 ∧ c.ds.length ≤ 1048576) (hn : S.n + 3000000 ≤ 1000000000) : Runs X1 20 [.agg c.cells] S fun v S' => v = .bool (decide (rightP c)) ∧ Fr S S' .nils (2 * c.ds.length + 30) := by
  obtain ⟨hcl, hnm, hds⟩ := hsm
  have h0 : 0 < c.cl.length → c.cl[0]? = some (c.cl.getD 0 0) := fun h => get_some h
  have h1 : c.cl.take 1 = [91] ↔ 0 < c.cl.length ∧ c.cl.getD 0 0 = 91 := by cases c.cl <;> simp
  refine Runs_fn (m := 113) (by kernel_rfl) Tryd.func20 rfl (by kernel_rfl) (by kernel_rfl) ?_
  repeat (
    first
      | refine W_seq ?_
      | refine W_region ?_
      | refine WO_dst rfl rfl (by kernel_rfl) (by kernel_rfl) ?_)
  refine Ev_box rfl hok (by omega) ?_
  intro T hTn hTok hTq hTf
  have hq : T.h.get S.n = some (.cells 24 c.cells false) := hTq
  repeat' (
    first
      | refine W_seq ?_
      | refine WO_nil ?_
      | refine V_seq ?_
      | refine W_region ?_
      | refine WO_dst rfl rfl (by kernel_rfl) (by kernel_rfl) ?_
      | refine Ev_load rfl rfl rfl hq rfl (veq_str _) ?_
      | refine Ev_assign rfl ?_
      | refine Ev_fieldAddr rfl rfl rfl rfl rfl rfl ?_)
  refine Ev_call rfl rfl ((rmethod_runs hTok (by omega) (by omega)).mono ?_)
  rintro _ T1 - ⟨hF1, sl, rfl, -, -⟩
  have gn1 := hF1.n
  have gl1 := hF1.le
  have hF2 : Fr S T1 .nils (2 * c.ds.length + 30) := ⟨by omega, by omega, hF1.ok, fun c _ h => by rw [hF1.same c (by simp [blkOf]) (by omega), hTf c h]⟩
  have hq1 : T1.h.get S.n = some (.cells 24 c.cells false) := by rw [hF1.same S.n (by simp [blkOf]) (by omega)]; exact hq
  repeat' (
    first
      | refine W_seq ?_
      | refine WO_nil ?_
      | refine V_seq ?_
      | refine W_region ?_
      | refine W_block ?_
      | refine WO_dst rfl rfl (by kernel_rfl) (by kernel_rfl) ?_
      | refine WO_guard_t rfl rfl rfl rfl rfl (by kernel_rfl) (by kernel_rfl) ?_
      | refine WO_guard_f rfl rfl rfl rfl rfl rfl (by kernel_rfl) (by kernel_rfl) ?_
      | refine Ev_load rfl rfl rfl hq1 rfl (veq_int _ _) ?_
      | refine Ev_load rfl rfl rfl hq1 rfl (veq_str _) ?_
      | refine Ev_index rfl rfl rfl rfl (h0 (by assumption)) ?_
      | (refine Ev_call rfl rfl ((rfield_runs (by omega)).mono ?_); rintro _ _ - ⟨rfl, rfl⟩)
      | refine Ev_move rfl ?_
      | refine Ev_assign rfl ?_
      | refine Ev_extract rfl rfl ?_
      | refine Ev_pick_t rfl rfl rfl ?_
      | refine Ev_pick_f rfl rfl rfl ?_
      | refine Ev_gtrN rfl rfl ?_
      | refine Ev_eqlN rfl rfl ?_
      | refine Ev_eql rfl rfl ?_
      | refine Ev_fieldAddr rfl rfl rfl rfl rfl rfl ?_
      | refine Ev_len_str rfl rfl rfl rfl rfl ?_
      | (refine WO_guard_dt rfl rfl rfl rfl rfl (by kernel_rfl) (by kernel_rfl) (fun hg => ?_) (fun hg => ?_) <;> (try dsimp only at hg) <;> try (exfalso; first | omega | exact hg rfl)))
  all_goals
    have h6 := h1
    clear h0 h1
    repeat' (
      first
        | refine W_seq ?_
        | refine WO_nil ?_
        | refine V_seq ?_
        | refine W_region ?_
        | refine W_skip ?_
        | refine W_ret ?_
        | refine V_ret ?_
        | refine V_block ?_
        | refine WO_dst rfl rfl (by kernel_rfl) (by kernel_rfl) ?_
        | refine WO_guard_t rfl rfl rfl rfl rfl (by kernel_rfl) (by kernel_rfl) ?_
        | refine WO_guard_f rfl rfl rfl rfl rfl rfl (by kernel_rfl) (by kernel_rfl) ?_
        | refine WO_guard_x rfl rfl rfl rfl rfl (by kernel_rfl) (by kernel_rfl) ?_
        | refine Ev_load rfl rfl rfl hq1 rfl (veq_int _ _) ?_
        | refine Ev_load rfl rfl rfl hq1 rfl (veq_str _) ?_
        | refine Ev_len_str rfl rfl rfl rfl rfl ?_
        | (refine Ev_call rfl rfl ((rfield_runs (by omega)).mono ?_); rintro _ _ - ⟨rfl, rfl⟩)
        | (refine Ev_call rfl rfl ((rname_runs (by omega)).mono ?_); rintro _ _ - ⟨rfl, rfl⟩)
        | refine Ev_move rfl ?_
        | refine Ev_assign rfl ?_
        | refine Ev_pick_t rfl rfl rfl ?_
        | refine Ev_pick_f rfl rfl rfl ?_
        | refine Ev_leqN rfl rfl ?_
        | refine Ev_eql rfl rfl ?_
        | refine Ev_seql rfl rfl ?_
        | refine Ev_fieldAddr rfl rfl rfl rfl rfl rfl ?_
        | (refine WO_guard_dt rfl rfl rfl rfl rfl (by kernel_rfl) (by kernel_rfl) (fun hg => ?_) (fun hg => ?_) <;> (try dsimp only at hg) <;> try (exfalso; first | omega | exact hg rfl))
        | (refine WO_guard_df rfl rfl rfl rfl rfl (by kernel_rfl) (by kernel_rfl) (fun hg => ?_) (fun hg => ?_) <;> (try dsimp only at hg) <;> try (exfalso; first | omega | exact hg rfl))
        | (refine W_cond rfl (fun hc => ?_) (fun hc => ?_) <;> (try dsimp only at hc) <;> try (exfalso; first | omega | exact hc rfl)))
    all_goals
      refine V_done rfl rfl ⟨bool_fin ?_, hF2⟩
      first
        | rw [rightP_3 (by assumption)]
        | rw [rightP_7 (by assumption)]
        | rw [rightP_9 (by assumption)]
        | rw [rightP_10 (by assumption)]
        | rw [rightP_o (by assumption) (by assumption) (by assumption) (by assumption)]
      clear hn hcl hnm hds hok hq hTn hTok hTq hTf hF1 hF2 hq1 gn1 gl1
      try rw [h6]
      clear h6
      first
        | (simp_all; done)
        | (simp_all; omega)
        | (simp_all; intros; omega)
end Go.Proofs.YthhbnnnokmefoaaDoor
/- GX: reasoning about runs: a slice that may be grown: owned, or made empty. -/

namespace GX
noncomputable section
open Go
/-- a slice that is owned, or an empty one that code has made -/
def Gz (S : St) (v : AV) (el sz : Nat) (cs : List AV) (m : Nat) : Prop :=
  Own S v el sz cs m ∨ (m = 0 ∧ cs = [] ∧ ∃ b o, v = .slice b o 0 (.ex 0) ∧ Rd S v sz [] 0)
theorem Gz.rd {S : St} {v : AV} {el sz m : Nat} {cs : List AV} (h : Gz S v el sz cs m) : Rd S v sz cs m := by
  rcases h with h | ⟨rfl, rfl, b, o, _, h⟩
  · exact h.rd
  · exact h
theorem Gz.keep {S S' : St} {v : AV} {el sz m : Nat} {cs : List AV} (h : Gz S v el sz cs m) (hk : ∀ b, blkOf v = some b → S'.h.get b = S.h.get b) : Gz S' v el sz cs m := by
  rcases h with h | ⟨rfl, rfl, b, o, hv, h⟩
  · exact .inl (h.keep hk)
  · exact .inr ⟨rfl, rfl, b, o, hv, h.keep hk⟩
theorem Gz.lt {S : St} {v : AV} {el sz m : Nat} {cs : List AV} (h : Gz S v el sz cs m) (hok : Sok S) {b : Nat} (hb : blkOf v = some b) : b < S.n := h.rd.lt hok hb
theorem Gz.own {S : St} {v : AV} {el sz m : Nat} {cs : List AV} (h : Gz S v el sz cs m) (hm : 0 < m) : Own S v el sz cs m := by
  rcases h with h | ⟨h, _⟩
  · exact h
  · omega
theorem Gz.eq {S : St} {v : AV} {el sz m m' : Nat} {cs cs' : List AV} (h : Gz S v el sz cs m) (hc : cs = cs') (hm : m = m') : Gz S v el sz cs' m' := by subst hc; subst hm; exact h
section
variable {X : X} {l : L} {S : St} {R : AV → St → Prop} {x y : Operand} {t t' : Nat}
theorem Ev_append_gz {xs : Array Operand} {ts : Array TypeId} {tr : List TypeId} {i i' ei : TI} {el m k : Nat} {vs vx : AV} {cs new : List AV} (hxs : xs.toList = [x, y]) (hts : ts.toList = t :: t' :: tr) (hi' : X.ti t' = some i') (hni : (match i'.desc with | .int _ => false | _ => true) = true)
    (hx : od l x = some vs) (hy : od l y = some vx) (hi : X.ti t = some i) (hd : i.desc = .slice el) (he' : X.ti el = some ei) (hz : (Nat.beq ei.size 0 || !(Nat.beq ei.zero.length ei.size)) = false)
    (hown : Gz S vs el ei.size cs m) (hnew : Rd S vx ei.size new k) (hone : new.all AV.one = true) (hok : Sok S) (hn : S.n < 1000000000) (hlim : (2 * (m + k) + 1000) * ei.bytes ≤ 140737488355328) (hlim2 : m + k ≤ 140737488355328)
    (hR : ∀ v' S', S.n ≤ S'.n → S'.n ≤ S.n + 1 → Sok S' → Gz S' v' el ei.size (cs ++ new) (m + k) → (∀ c, blkOf vs ≠ some c → c < S.n → S'.h.get c = S.h.get c) → (∀ c, blkOf v' = some c → blkOf vs = some c ∨ S.n ≤ c) → R v' S') :
    Ev X l S (.call { callee := .builtin .append, args := xs, argTypes := ts }) R := by
  rcases hown with h | ⟨rfl, rfl, b, o, rfl, h⟩
  · exact Ev_append hxs hts hi' hni hx hy hi hd he' hz h hnew hone hok hn hlim hlim2 (fun v' S' h1 h2 h3 h4 h5 h6 => hR v' S' h1 h2 h3 (.inl h4) h5 h6)
  · by_cases hk : k = 0
    · subst hk
      have hnil : new = [] := List.eq_nil_of_length_eq_zero (by rw [hnew.size]; omega)
      subst hnil
      have hrow : row S.h b o (0 * ei.size) = some [] := h.cells
      have hl := srcLen_of hnew.len
      have ha0 : aappend X S t (.slice b o 0 (.ex 0)) vx = (bif Nat.ble (0 + 0) 0 then
                (match storeAt S b (o + 0 * ei.size) [] with
                | none => none
                | some S => some (.slice b o (0 + 0) (.ex 0), S))
              else grow S el ei.size ei.bytes ([] ++ []) (0 + 0)) := by
        rw [app_eq hi hd he' hz hl hnew.cells]; unfold appBody; dsimp only; rw [hrow]; rfl
      unfold row at hrow
      split at hrow
      · rename_i ty cs sp hb
        rw [nble, cond_dec] at hrow
        split at hrow
        · rename_i hle
          have hbn : b < S.n := hok _ _ hb
          have hsame : ∀ c, (S.put b (.cells ty (lput cs (o + 0 * ei.size) []) sp)).h.get c = S.h.get c := by
            intro c
            rw [get_put (by omega), lput_nil]
            split
            · rename_i h; rw [h, hb]
            · rfl
          refine Ev_loud (S' := S.put b (.cells ty (lput cs (o + 0 * ei.size) []) sp)) (v := .slice b o 0 (.ex 0)) (fun e he => ⟨rfl, ?_⟩) (Nat.le_refl _) (hR _ _ (Nat.le_refl _) (Nat.le_succ _) ?_ (.inr ⟨rfl, rfl, b, o, rfl, ?_⟩) (fun c _ _ => hsame c) (fun c hc => .inl hc))
          · unfold loudOp; dsimp only; rw [hxs, hts]; dsimp only; rw [hi']; dsimp only
            split
            · rename_i hdd; rw [hdd] at hni; cases hni
            · rw [od_ok he hx, od_ok he hy]
              show aappend X S t (.slice b o 0 (.ex 0)) vx = _
              rw [ha0]
              unfold storeAt; rw [hb]; dsimp only
              rw [nble, nble, decide_eq_true (Nat.le_refl _), decide_eq_true (by simpa using hle)]; rfl
          · intro c x hc; rw [hsame] at hc; exact hok c x hc
          · exact h.keep (fun c _ => hsame c)
        · cases hrow
      · cases hrow
    · refine Ev_append_ex hxs hts hi' hni hx hy hi hd he' hz h hnew hok hn hlim hlim2 (fun v' S' h1 h2 h3 _ h5 h6 h7 => hR v' S' h1 h2 h3 ?_ (fun c _ hc => h6 c hc) (fun c hc => (h7 c hc).imp (fun h => by rw [h]; rfl) id))
      rcases h5 with h5 | h5
      · omega
      · exact .inl h5
/-- a slice, and nil -/
theorem Ev_eq_nils {t u : Nat} {i : TI} {el sz m : Nat} {v : AV} {cs : List AV} (hx : od l x = some v) (hy : od l y = some .nils) (hi : X.ti t = some i) (hd : i.desc = .slice el) (h : Rd S v sz cs m) (hR : ∀ b : Bool, (b = true → m = 0 ∧ cs = []) → R (.bool b) S) : Ev X l S (.binOp .eql t x y u) R := by
  have hsl := h.sl
  have hs := h.size
  have hlen := h.len
  have hae : ∃ b : Bool, aeq X 10 t v .nils = some b ∧ (b = true → v = .nils) := by
    unfold aeq; rw [hi]; dsimp only; rw [hd]
    cases v <;> first | exact ⟨_, rfl, fun h => by first | rfl | cases h⟩ | cases hsl
  obtain ⟨b, hb, hb2⟩ := hae
  refine Ev_bin hx hy (by cases v <;> first | rfl | cases hsl) ?_ (hR b (fun h => ?_))
  · unfold abin
    cases v <;> first | (dsimp only; rw [hb]; done) | cases hsl
  · have := hb2 h; subst this
    simp [slen] at hlen
    subst hlen
    exact ⟨rfl, List.eq_nil_of_length_eq_zero (by omega)⟩
/-- a pointer, and nil -/
theorem Ev_ptr_eql {t u b o el : Nat} {i : TI} (hx : od l x = some (.ptr b o)) (hy : od l y = some .nilp) (hi : X.ti t = some i) (hd : i.desc = .pointer el) (hR : R (.bool false) S) : Ev X l S (.binOp .eql t x y u) R := by
  refine Ev_pure (fun _ he => ⟨?_, ?_⟩) hR
  · unfold cls; dsimp only; rw [od_ok he hx]; dsimp only; rw [od_ok he hy]
  · unfold pureOp; dsimp only; rw [od_ok he hx]; dsimp only; rw [od_ok he hy]; dsimp only; unfold abin aeq; dsimp only; rw [hi]; dsimp only; rw [hd]
theorem Ev_ptr_neq {t u b o el : Nat} {i : TI} (hx : od l x = some (.ptr b o)) (hy : od l y = some .nilp) (hi : X.ti t = some i) (hd : i.desc = .pointer el) (hR : R (.bool true) S) : Ev X l S (.binOp .neq t x y u) R := by
  refine Ev_pure (fun _ he => ⟨?_, ?_⟩) hR
  · unfold cls; dsimp only; rw [od_ok he hx]; dsimp only; rw [od_ok he hy]
  · unfold pureOp; dsimp only; rw [od_ok he hx]; dsimp only; rw [od_ok he hy]; dsimp only; unfold abin aeq; dsimp only; rw [hi]; dsimp only; rw [hd]; rfl
end
end
end GX
/- lists of constants: Clone, Index, Same. -/



namespace Go.Proofs.YthhbnnnokmefoaaDoor
open GX
set_option maxHeartbeats 16000000
theorem aeq_raw (c d : CnA) : aeq X1 10 24 (.agg c.cells) (.agg d.cells) = (match ieq c.kind d.kind with | true => (match ieq c.n d.n with | true => (match seq c.cl d.cl with | true => (match seq c.nm d.nm with | true => (match seq c.ds d.ds with | true => some true | false => some false) | false => some false) | false => some false) | false => some false) | false => some false) := by kernel_rfl
theorem ieq_dec (a b : Int) : ieq a b = decide (a = b) := by rw [ieq_eq]; by_cases h : a = b <;> simp [h]
theorem aeq_const (c d : CnA) : aeq X1 10 24 (.agg c.cells) (.agg d.cells) = some (decide (c = d)) := by
  rw [aeq_raw, ieq_dec, ieq_dec, seq_eq, seq_eq, seq_eq]
  have e : c = d ↔ c.kind = d.kind ∧ c.n = d.n ∧ c.cl = d.cl ∧ c.nm = d.nm ∧ c.ds = d.ds := by
    cases c; cases d; simp
  by_cases h1 : c.kind = d.kind
  · rw [decide_eq_true h1]
    by_cases h2 : c.n = d.n
    · rw [decide_eq_true h2]
      by_cases h3 : c.cl = d.cl
      · rw [decide_eq_true h3]
        by_cases h4 : c.nm = d.nm
        · rw [decide_eq_true h4]
          by_cases h5 : c.ds = d.ds
          · rw [decide_eq_true h5, decide_eq_true (e.2 ⟨h1, h2, h3, h4, h5⟩)]
          · rw [decide_eq_false h5, decide_eq_false (fun h => h5 (e.1 h).2.2.2.2)]
        · rw [decide_eq_false h4, decide_eq_false (fun h => h4 (e.1 h).2.2.2.1)]
      · rw [decide_eq_false h3, decide_eq_false (fun h => h3 (e.1 h).2.2.1)]
    · rw [decide_eq_false h2, decide_eq_false (fun h => h2 (e.1 h).2.1)]
  · rw [decide_eq_false h1, decide_eq_false (fun h => h1 (e.1 h).1)]
theorem abin_eq (c d : CnA) : abin X1 .eql 24 (.agg c.cells) (.agg d.cells) = some (.bool (decide (c = d))) := by
  unfold abin; dsimp only; rw [aeq_const]
theorem abin_ne (c d : CnA) : abin X1 .neq 24 (.agg c.cells) (.agg d.cells) = some (.bool (decide (c ≠ d))) := by
  unfold abin; dsimp only; rw [aeq_const]; dsimp only; congr 2; by_cases h : c = d <;> simp [h]
section
variable {l : L} {S : St} {R : AV → St → Prop} {x y : Go.Operand} {u : Nat}
theorem Ev_ceql {c d : CnA} (hx : od l x = some (.agg c.cells)) (hy : od l y = some (.agg d.cells)) (hR : R (.bool (decide (c = d))) S) : Ev X1 l S (.binOp .eql 24 x y u) R :=
  Ev_bin hx hy rfl (abin_eq c d) hR
theorem Ev_cneq {c d : CnA} (hx : od l x = some (.agg c.cells)) (hy : od l y = some (.agg d.cells)) (hR : R (.bool (decide (c ≠ d))) S) : Ev X1 l S (.binOp .neq 24 x y u) R :=
  Ev_bin hx hy rfl (abin_ne c d) hR
end
def cellsC (cs : List CnA) : List AV := cs.flatMap CnA.cells
theorem cellsC_len : ∀ (cs : List CnA), (cellsC cs).length = 5 * cs.length
  | [] => rfl
  | c :: cs => by
    have := cellsC_len cs
    unfold cellsC at this ⊢
    simp only [List.flatMap_cons, List.length_append, this, CnA.cells, List.length_cons, List.length_nil]; omega
theorem cellsC_get : ∀ (cs : List CnA) (i : Nat) (h : i < cs.length), ((cellsC cs).drop (i * 5)).take 5 = (cs[i]).cells
  | p :: ps, 0, _ => by simp [cellsC, CnA.cells]
  | p :: ps, i + 1, h => by
    have e : (i + 1) * 5 = 5 + i * 5 := by omega
    show (((p.cells ++ cellsC ps).drop ((i + 1) * 5)).take 5) = _
    rw [e, ← List.drop_drop, List.drop_append_of_le_length (by simp [CnA.cells])]
    have e2 : p.cells.drop 5 = [] := by simp [CnA.cells]
    rw [e2, List.nil_append]
    exact cellsC_get ps i (by simpa using h)
theorem cellsC_at {cs : List CnA} {i k : Nat} {v : AV} (h : i < cs.length) (hk : k < 5) (hv : (cs[i]).cells[k]? = some v) : (cellsC cs)[i * 5 + k]? = some v := by
  have h2 : (((cellsC cs).drop (i * 5)).take 5)[k]? = (cs[i]).cells[k]? := by rw [cellsC_get cs i h]
  rw [List.getElem?_take, if_pos hk, List.getElem?_drop] at h2
  rw [h2]; exact hv
theorem CnA.veqs (c : CnA) : GX.veqs c.cells c.cells = true := by simp [CnA.cells, GX.veqs, veq_int, veq_str]
theorem CnA.ones (c : CnA) : c.cells.all AV.one = true := rfl
theorem cellsC_one (cs : List CnA) : (cellsC cs).all AV.one = true := by
  apply List.all_eq_true.2
  intro x hx
  obtain ⟨c, _, hc⟩ := List.mem_flatMap.1 hx
  exact List.all_eq_true.1 c.ones x hc
theorem cellsC_app (a b : List CnA) : cellsC (a ++ b) = cellsC a ++ cellsC b := List.flatMap_append
abbrev Cs (S : St) (v : AV) (cs : List CnA) : Prop := Rd S v 5 (cellsC cs) cs.length
/-- the same constants -/
theorem csame_runs {S : St} {v w : AV} {a b : List CnA} (hv : Cs S v a) (hw : Cs S w b) (hl : a.length ≤ 1000000000 ∧ b.length ≤ 1000000000) :
    Runs X1 21 [v, w] S fun r S' => r = .bool (decide (a = b)) ∧ S' = S := by
  refine Runs_fn (m := 26) (by kernel_rfl) Tryd.func21 rfl (by kernel_rfl) (by kernel_rfl) ?_
  repeat' (
    first
      | refine W_seq ?_
      | refine WO_nil ?_
      | refine V_seq ?_
      | refine W_region ?_
      | refine W_block ?_
      | refine W_skip ?_
      | refine W_ret ?_
      | refine V_ret ?_
      | refine WO_dst rfl rfl (by kernel_rfl) (by kernel_rfl) ?_
      | refine Ev_len rfl rfl rfl rfl rfl hv.len ?_
      | refine Ev_len rfl rfl rfl rfl rfl hw.len ?_
      | refine Ev_move rfl ?_
      | refine Ev_assign rfl ?_
      | refine Ev_neqN rfl rfl ?_
      | (refine W_cond rfl (fun hc => ?_) (fun hc => ?_) <;> (try dsimp only at hc) <;> try (exfalso; first | omega | exact hc rfl)))
  · refine V_done rfl rfl ⟨?_, rfl⟩
    rw [decide_eq_false (fun h => hc (by rw [h]))]; rfl
  · have hlen : a.length = b.length := Classical.not_not.1 hc
    refine W_inv (fun i : Nat => [(5, .int .i64 ((i : Nat) : Int)), (0, v), (1, w)]) (fun i T => T = S ∧ i ≤ a.length ∧ a.take i = b.take i) (fun i => a.length - i) ?_ 0 ⟨rfl, Nat.zero_le _, by simp⟩ ⟨rfl, rfl, rfl, trivial⟩
    rintro i T ⟨rfl, hi, heq⟩ back
    repeat' (
      first
        | refine W_seq ?_
        | refine WO_nil ?_
        | refine V_seq ?_
        | refine W_region ?_
        | refine W_drawn (by kernel_rfl) ?_
        | refine W_block ?_
        | refine W_skip ?_
        | refine W_ret ?_
        | refine W_exit ?_
        | refine V_block_x rfl ?_
        | refine V_seq_x ?_
        | refine V_loop_x ?_
        | refine WO_dst rfl rfl (by kernel_rfl) (by kernel_rfl) ?_
        | refine Ev_len rfl rfl rfl rfl rfl hv.len ?_
        | refine Ev_move rfl ?_
        | refine Ev_assign rfl ?_
        | refine Ev_lssN rfl rfl ?_
        | (refine W_cond rfl (fun hc => ?_) (fun hc => ?_) <;> (try dsimp only at hc) <;> try (exfalso; first | omega | exact hc rfl)))
    · have hlt : i < a.length := hc
      have hlb : i < b.length := by omega
      refine Ev_indexAddr_rd rfl rfl rfl rfl rfl hv hlt ?_
      intro q hq
      repeat (
        refine WO_dst rfl rfl (by kernel_rfl) (by kernel_rfl) ?_)
      refine Ev_load_pt_agg rfl rfl rfl hq (by rw [cellsC_len]; dsimp only; omega) (cellsC_get a i hlt) (CnA.veqs _) ?_
      repeat (
        first
          | refine WO_dst rfl rfl (by kernel_rfl) (by kernel_rfl) ?_
          | refine Ev_move rfl ?_)
      refine Ev_indexAddr_rd rfl rfl rfl rfl rfl hw hlb ?_
      intro q' hq'
      repeat (
        refine WO_dst rfl rfl (by kernel_rfl) (by kernel_rfl) ?_)
      refine Ev_load_pt_agg rfl rfl rfl hq' (by rw [cellsC_len]; dsimp only; omega) (cellsC_get b i hlb) (CnA.veqs _) ?_
      repeat (
        refine WO_dst rfl rfl (by kernel_rfl) (by kernel_rfl) ?_)
      refine Ev_cneq rfl rfl ?_
      repeat' (
        first
          | refine W_seq ?_
          | refine WO_nil ?_
          | refine V_seq ?_
          | refine W_region ?_
          | refine W_skip ?_
          | refine W_ret ?_
          | refine V_ret ?_
          | refine V_block ?_
          | refine WO_dst rfl rfl (by kernel_rfl) (by kernel_rfl) ?_
          | refine Ev_move rfl ?_
          | refine Ev_assign rfl ?_
          | refine Ev_addN rfl rfl (by simp only [lim]; omega) ?_
          | (refine W_cond rfl (fun hc => ?_) (fun hc => ?_) <;> (try dsimp only at hc) <;> try (exfalso; first | omega | exact hc rfl)))
      · refine V_done rfl rfl ⟨?_, rfl⟩
        rw [decide_eq_false]; rfl
        intro h
        subst h
        exact hc rfl
      · refine back (i + 1) _ _ (by omega) ⟨rfl, by omega, ?_⟩ ⟨rfl, rfl, rfl, trivial⟩
        rw [List.take_succ_eq_append_getElem hlt, List.take_succ_eq_append_getElem hlb, heq, Classical.not_not.1 hc]
    · refine V_done rfl rfl ⟨?_, rfl⟩
      have hi2 : i = a.length := by omega
      rw [decide_eq_true]; rfl
      rw [hi2, List.take_length, hlen, List.take_length] at heq
      exact heq
/-- a copy -/
theorem cclone_runs {S : St} {v : AV} {cs : List CnA} (hok : Sok S) (hv : Cs S v cs) (hb : cs.length ≤ 1000000000) (hn : S.n + 2 ≤ 1000000000) :
    Runs X1 42 [v] S fun r S' => Fr S S' .nils 2 ∧ Gz S' r 24 5 (cellsC cs) cs.length ∧ ∀ c, blkOf r = some c → S.n ≤ c := by
  refine Runs_fn (m := 8) (by kernel_rfl) Tryd.func42 rfl (by kernel_rfl) (by kernel_rfl) ?_
  repeat (
    first
      | refine W_seq ?_
      | refine WO_nil ?_
      | refine V_seq ?_
      | refine W_region ?_
      | refine WO_dst rfl rfl (by kernel_rfl) (by kernel_rfl) ?_
      | refine Ev_move rfl ?_
      | refine Ev_assign rfl ?_)
  refine Ev_eq_nils rfl rfl rfl rfl hv ?_
  intro q hq
  repeat (
    first
      | refine WO_nil ?_
      | refine V_seq ?_)
  refine W_condb rfl (fun hc => ?_) (fun hc => ?_)
  · have h0 := hq hc
    repeat (
      first
        | refine W_seq ?_
        | refine WO_nil ?_
        | refine V_seq ?_
        | refine W_region ?_
        | refine W_ret ?_
        | refine V_ret ?_
        | refine WO_dst rfl rfl (by kernel_rfl) (by kernel_rfl) ?_
        | refine Ev_assign rfl ?_)
    refine V_done rfl rfl ?_
    refine ⟨⟨Nat.le_refl _, by omega, hok, fun _ _ _ => rfl⟩, .inl (.inl ⟨rfl, h0.2, h0.1⟩), fun c hc => by cases hc⟩
  · repeat (
      first
        | refine W_seq ?_
        | refine V_seq ?_
        | refine W_region ?_
        | refine W_skip ?_
        | refine WO_dst rfl rfl (by kernel_rfl) (by kernel_rfl) ?_)
    refine Ev_buildSlice rfl rfl rfl rfl rfl rfl hok (by omega) ?_
    intro S1 hn1 hok1 hq1 hf1
    have hv1 := hv.keep (fun c h => hf1 c (hv.lt hok h))
    repeat (
      first
        | refine WO_dst rfl rfl (by kernel_rfl) (by kernel_rfl) ?_
        | refine Ev_move rfl ?_)
    refine Ev_append_gz (cs := []) (m := 0) rfl rfl rfl rfl rfl rfl rfl rfl rfl rfl (.inr ⟨rfl, rfl, S.n, 0, rfl, Rd_lit hq1 rfl (by kernel_rfl)⟩) hv1 (cellsC_one cs) hok1 (by omega) (by dsimp only; omega) (by omega) ?_
    intro v2 S2 hle2 hn2 hok2 hown2 hf2 hb2
    repeat (
      first
        | refine WO_nil ?_
        | refine V_seq ?_
        | refine W_ret ?_
        | refine WO_dst rfl rfl (by kernel_rfl) (by kernel_rfl) ?_
        | refine Ev_assign rfl ?_)
    refine V_done rfl rfl ?_
    refine ⟨⟨by omega, by omega, hok2, fun c _ h => by rw [hf2 c (fun h => by cases h; omega) (by omega), hf1 c h]⟩, hown2.eq rfl (by omega), fun c hc => ?_⟩
    rcases hb2 c hc with h | h
    · cases h; exact Nat.le_refl _
    · omega
/-- the first place of a constant -/
def cidx (c : CnA) : List CnA → Option Nat
  | [] => none
  | d :: l => if d = c then some 0 else (cidx c l).map (· + 1)
theorem cidx_none {c : CnA} : ∀ {l : List CnA}, (∀ d ∈ l, d ≠ c) → cidx c l = none
  | [], _ => rfl
  | d :: l, h => by
    show (if d = c then some 0 else (cidx c l).map (· + 1)) = none
    rw [if_neg (h d (List.mem_cons_self ..)), cidx_none (fun e he => h e (List.mem_cons_of_mem _ he))]; rfl
theorem cidx_app {c : CnA} : ∀ {l m : List CnA} {n : Nat}, cidx c l = some n → cidx c (l ++ m) = some n
  | [], _, _, h => by cases h
  | d :: l, m, n, h => by
    have h : (if d = c then some 0 else (cidx c l).map (· + 1)) = some n := h
    show (if d = c then some 0 else (cidx c (l ++ m)).map (· + 1)) = some n
    by_cases hd : d = c
    · rw [if_pos hd] at h ⊢; exact h
    · rw [if_neg hd] at h ⊢
      cases hl : cidx c l with
      | none => rw [hl] at h; cases h
      | some k => rw [hl] at h; rw [cidx_app hl]; exact h
theorem cidx_get {c : CnA} : ∀ {l : List CnA} {n : Nat}, cidx c l = some n → l[n]? = some c
  | [], _, h => by cases h
  | d :: l, n, h => by
    have h : (if d = c then some 0 else (cidx c l).map (· + 1)) = some n := h
    by_cases hd : d = c
    · rw [if_pos hd] at h; cases h; rw [hd]; rfl
    · rw [if_neg hd] at h
      cases hl : cidx c l with
      | none => rw [hl] at h; cases h
      | some k => rw [hl] at h; cases h; show (d :: l)[k + 1]? = some c; rw [List.getElem?_cons_succ]; exact cidx_get hl
theorem cidx_at {c : CnA} {l m : List CnA} (h : ∀ d ∈ l, d ≠ c) : cidx c (l ++ c :: m) = some l.length := by
  induction l with
  | nil => show (if c = c then some 0 else _) = _; rw [if_pos rfl]; rfl
  | cons d l ih =>
    show (if d = c then some 0 else (cidx c (l ++ c :: m)).map (· + 1)) = _
    rw [if_neg (h d (List.mem_cons_self ..)), ih (fun e he => h e (List.mem_cons_of_mem _ he))]; rfl
theorem cidx_mem {c : CnA} {l : List CnA} (h : cidx c l = none) : ∀ d ∈ l, d ≠ c := by
  intro d hd hdc
  subst hdc
  obtain ⟨s, t, rfl⟩ := List.append_of_mem hd
  induction s with
  | nil => have : (if d = d then some 0 else (cidx d t).map (· + 1)) = none := h; rw [if_pos rfl] at this; cases this
  | cons e s ih =>
    have h : (if e = d then some 0 else (cidx d (s ++ d :: t)).map (· + 1)) = none := h
    by_cases he : e = d
    · rw [if_pos he] at h; cases h
    · rw [if_neg he] at h
      cases hs : cidx d (s ++ d :: t) with
      | none => exact ih (by simp) hs
      | some k => rw [hs] at h; cases h
theorem cidx_snoc {c : CnA} {l : List CnA} (h : cidx c l = none) : cidx c (l ++ [c]) = some l.length := cidx_at (cidx_mem h)
def cidxI (c : CnA) (l : List CnA) : Int := match cidx c l with | some n => ((n : Nat) : Int) | none => -1
theorem cindex_runs {S : St} {v : AV} {cs : List CnA} {c : CnA} (hok : Sok S) (hv : Cs S v cs) (hb : cs.length ≤ 1000000000) (hn : S.n + 1 ≤ 1000000000) :
    Runs X1 43 [v, .agg c.cells] S fun r S' => r = .int .i64 (cidxI c cs) ∧ Fr S S' .nils 1 := by
  refine Runs_fn (m := 19) (by kernel_rfl) Tryd.func43 rfl (by kernel_rfl) (by kernel_rfl) ?_
  repeat (
    first
      | refine W_seq ?_
      | refine W_region ?_
      | refine WO_dst rfl rfl (by kernel_rfl) (by kernel_rfl) ?_)
  refine Ev_box rfl hok (by omega) ?_
  intro T hTn hTok hTq hTf
  have hF : Fr S T .nils 1 := ⟨by omega, by omega, hTok, fun c _ h => hTf c h⟩
  have hv1 := hv.keep (fun c h => hTf c (hv.lt hok h))
  have hq : T.h.get S.n = some (.cells 24 c.cells false) := hTq
  repeat (
    first
      | refine W_seq ?_
      | refine WO_nil ?_
      | refine V_seq ?_
      | refine W_region ?_
      | refine W_block ?_
      | refine WO_dst rfl rfl (by kernel_rfl) (by kernel_rfl) ?_
      | refine Ev_len rfl rfl rfl rfl rfl hv1.len ?_
      | refine Ev_move rfl ?_
      | refine Ev_assign rfl ?_)
  refine W_inv (fun i : Nat => [(8, .int .i64 ((i : Nat) : Int)), (7, .int .i64 ((cs.length : Nat) : Int)), (0, v), (3, .ptr S.n 0)]) (fun i T' => T' = T ∧ i ≤ cs.length ∧ ∀ d ∈ cs.take i, d ≠ c) (fun i => cs.length - i) ?_ 0 ⟨rfl, Nat.zero_le _, by simp⟩ ⟨rfl, rfl, rfl, rfl, trivial⟩
  rintro i T' ⟨rfl, hi, hall⟩ back
  repeat' (
    first
      | refine W_seq ?_
      | refine WO_nil ?_
      | refine V_seq ?_
      | refine W_region ?_
      | refine W_drawn (by kernel_rfl) ?_
      | refine W_block ?_
      | refine W_skip ?_
      | refine W_ret ?_
      | refine W_exit ?_
      | refine V_block_x rfl ?_
      | refine V_seq_x ?_
      | refine V_loop_x ?_
      | refine WO_dst rfl rfl (by kernel_rfl) (by kernel_rfl) ?_
      | refine Ev_move rfl ?_
      | refine Ev_assign rfl ?_
      | refine Ev_lssN rfl rfl ?_
      | (refine W_cond rfl (fun hc => ?_) (fun hc => ?_) <;> (try dsimp only at hc) <;> try (exfalso; first | omega | exact hc rfl)))
  · refine Ev_load_agg rfl rfl rfl hq (by simp [CnA.cells]) (show (c.cells.drop 0).take 5 = c.cells from rfl) (CnA.veqs c) ?_
    repeat (
      first
        | refine WO_dst rfl rfl (by kernel_rfl) (by kernel_rfl) ?_
        | refine Ev_move rfl ?_)
    have hlt : i < cs.length := by assumption
    refine Ev_indexAddr_rd rfl rfl rfl rfl rfl hv1 hlt ?_
    intro q hq2
    repeat (
      refine WO_dst rfl rfl (by kernel_rfl) (by kernel_rfl) ?_)
    refine Ev_load_pt_agg rfl rfl rfl hq2 (by rw [cellsC_len]; dsimp only; omega) (cellsC_get cs i hlt) (CnA.veqs _) ?_
    repeat (
      refine WO_dst rfl rfl (by kernel_rfl) (by kernel_rfl) ?_)
    refine Ev_ceql rfl rfl ?_
    repeat' (
      first
        | refine W_seq ?_
        | refine WO_nil ?_
        | refine V_seq ?_
        | refine W_region ?_
        | refine W_skip ?_
        | refine W_ret ?_
        | refine V_ret ?_
        | refine V_block ?_
        | refine WO_dst rfl rfl (by kernel_rfl) (by kernel_rfl) ?_
        | refine Ev_move rfl ?_
        | refine Ev_assign rfl ?_
        | refine Ev_addN rfl rfl (by simp only [lim]; omega) ?_
        | (refine W_cond rfl (fun hc => ?_) (fun hc => ?_) <;> (try dsimp only at hc) <;> try (exfalso; first | omega | exact hc rfl)))
    · refine V_done rfl rfl ⟨?_, hF⟩
      have e : cs = cs.take i ++ c :: cs.drop (i + 1) := by
        conv => lhs; rw [← List.take_append_drop i cs, List.drop_eq_getElem_cons hlt, ← hc]
      have : cidx c cs = some i := by
        rw [e, cidx_at hall, List.length_take, Nat.min_eq_left (by omega)]
      unfold cidxI; rw [this]; rfl
    · refine back (i + 1) _ _ (by omega) ⟨rfl, by omega, fun d hd => ?_⟩ ⟨rfl, rfl, rfl, rfl, trivial⟩
      rw [List.take_succ_eq_append_getElem hlt] at hd
      rcases List.mem_append.1 hd with h | h
      · exact hall d h
      · rw [List.mem_singleton] at h; rw [h]; exact fun e => hc e.symm
  · refine V_done rfl rfl ⟨?_, hF⟩
    have : cs.take i = cs := List.take_of_length_le (by omega)
    rw [this] at hall
    unfold cidxI; rw [cidx_none hall]; rfl
end Go.Proofs.YthhbnnnokmefoaaDoor
