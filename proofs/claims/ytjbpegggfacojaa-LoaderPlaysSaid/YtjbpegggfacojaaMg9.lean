/- What the row leans on, part 9: texts one behind the other. No condition. -/
import Derived.Test.YtjbpegggfacojaaMg8
import Derived.KernelRfl
import Derived.Test.YtjbpegggfacojaaMg7
/- GX: a region that draws its order, where reads look at blocks of which something is known (a predicate) until some operation. -/

namespace GX
open Go
/-- what is known of a block, from one operation on (or from the start) -/
structure FctQ where
  id : Nat
  p : AB → Prop
  src : Option Nat
def HQ (H : Tr AB) (f : FctQ) : Prop := ∃ b, H.get f.id = some b ∧ f.p b
def FPDQ (X : X) (D : List FctQ) (ms : List Nat) (i : Nat) (e : Env) (op : Op) (v : AV) : Prop := ∀ H : Tr AB, (∀ f ∈ D, (∀ j, f.src = some j → inM ms i j = true) → HQ H f) → readOp X e H op = some v
theorem hOf_hasQ {recs : List R} {id a : Nat} {p : AB → Prop} : ∀ {js : List Nat} {h : Tr AB}, js.Pairwise (· < ·) → (∀ j ∈ js, ∃ r h' m, recs[j]? = some r ∧ r.k = .ld h' m ∧ (a ≤ j → ∃ x, h'.get id = some x ∧ p x)) →
    (((∃ x, h.get id = some x ∧ p x) ∧ ∀ j ∈ js, a ≤ j) ∨ ∃ j ∈ js, a ≤ j) → ∃ x, (hOf recs h js).get id = some x ∧ p x
  | [], h, _, _, hh => by
    rcases hh with hh | ⟨j, hj, _⟩
    · exact hh.1
    · cases hj
  | j :: js, h, hp, hr, hh => by
    obtain ⟨r, h', m, h1, h2, h3⟩ := hr j (List.mem_cons_self ..)
    rw [List.pairwise_cons] at hp
    unfold hOf
    rw [h1]; dsimp only; rw [h2]; dsimp only
    refine hOf_hasQ hp.2 (fun k hk => hr k (List.mem_cons_of_mem _ hk)) ?_
    by_cases ha : a ≤ j
    · exact .inl ⟨h3 ha, fun k hk => by have := hp.1 k hk; omega⟩
    · rcases hh with hh | ⟨k, hk, hk2⟩
      · exact absurd (hh.2 j (List.mem_cons_self ..)) ha
      · rcases List.mem_cons.1 hk with rfl | hk
        · exact absurd hk2 ha
        · exact .inr ⟨k, hk, hk2⟩
/-- .. until an operation from which on the blocks are known no more: all from there on are behind each such read -/
def RunY (X : X) (rec : Rec) (n : Nat) (all : List Oper) (z : Nat) : List FctQ → List Oper → Nat → Env → St → Env → St → Prop
  | _, [], _, e, S, e', S' => e' = e ∧ S' = S
  | D, o :: os, i, e, S, e', S' =>
    (wanted all e o = true ∧ ∃ v S1 e1 N, oper X rec e S o.op = some (v, S1) ∧ setDst n e o.dst v = some e1 ∧ rdv (cls X e o.op) v = true ∧
      (cls X e o.op = .read → rdStat (masks all []) (all.map (fun o => sk X o.op)) i = true ∨ ZB all z i = true ∧ FPDQ X D (masks all []) i e o.op v) ∧
      (isLC (cls X e o.op) = true → i < z → ∀ f ∈ D, HQ S1.h f) ∧
      (∀ f ∈ N, f.src = some i ∧ f.id < S1.n ∧ HQ S1.h f ∧ (isLC (cls X e o.op) = true ∨ cls X e o.op = .alloc ∧ f.id = S.n)) ∧ RunY X rec n all z (D ++ N) os (i + 1) e1 S1 e' S') ∨
    (wanted all e o = false ∧ ∃ e1, setDst n e o.dst (.tup []) = some e1 ∧ RunY X rec n all z D os (i + 1) e1 S e' S')
theorem RunY_le {X : X} {rec rec' : Rec} (hr : RecLe rec rec') {n : Nat} {all : List Oper} {z : Nat} : ∀ {D : List FctQ} {os : List Oper} {i : Nat} {e : Env} {S : St} {e' S'}, RunY X rec n all z D os i e S e' S' → RunY X rec' n all z D os i e S e' S'
  | _, [], _, _, _, _, _, h => h
  | _, o :: os, i, e, S, e', S', h => by
    unfold RunY at h ⊢
    rcases h with ⟨hw, v, S1, e1, N, h1, h2, h3, h4, h5, h6, h7⟩ | ⟨hw, e1, h1, h2⟩
    · exact .inl ⟨hw, v, S1, e1, N, oper_le hr h1, h2, h3, h4, h5, h6, RunY_le hr h7⟩
    · exact .inr ⟨hw, e1, h1, RunY_le hr h2⟩
theorem RunY_n {X : X} {rec : Rec} {n : Nat} {all : List Oper} {z : Nat} : ∀ {D : List FctQ} {os : List Oper} {i : Nat} {e : Env} {S : St} {e' S'}, RunY X rec n all z D os i e S e' S' → S.n ≤ S'.n
  | _, [], _, _, _, _, _, h => by unfold RunY at h; rw [h.2]; exact Nat.le_refl _
  | _, o :: os, i, e, S, e', S', h => by
    unfold RunY at h
    rcases h with ⟨_, v, S1, e1, N, h1, _, _, _, _, _, h6⟩ | ⟨_, e1, _, h2⟩
    · exact Nat.le_trans (oper_n h1) (RunY_n h6)
    · exact RunY_n h2
/-- a fact, and what the plan has put down -/
def FY (ms : List Nat) (z : Nat) (N0 : Nat) (h0 : Tr AB) (acc : List R) (f : FctQ) : Prop :=
  (f.src = none ∧ f.id < N0 ∧ HQ h0 f ∧ ∀ (k : Nat) (r : R) h' m, acc[k]? = some r → r.k = .ld h' m → k < z → HQ h' f) ∨
  ∃ j r, f.src = some j ∧ acc[j]? = some r ∧ (((∃ b, r.k = .mk b ∧ f.p b) ∧ r.n0 = f.id) ∨ (∃ h' m, r.k = .ld h' m ∧ HQ h' f ∧ f.id < m ∧ ∀ (k : Nat) (r : R) b, acc[k]? = some r → r.k = .mk b → k < j → inM ms j k = true)) ∧
    ∀ (k : Nat) (r : R) h' m, acc[k]? = some r → r.k = .ld h' m → j < k → k < z → HQ h' f
theorem FY_snoc {ms : List Nat} {z : Nat} {N0 : Nat} {h0 : Tr AB} {acc : List R} {f : FctQ} {r : R} (h : FY ms z N0 h0 acc f) (hr : ∀ h' m, r.k = .ld h' m → acc.length < z → HQ h' f) : FY ms z N0 h0 (acc ++ [r]) f := by
  have key : ∀ (k : Nat) (r' : R), (acc ++ [r])[k]? = some r' → acc[k]? = some r' ∨ (k = acc.length ∧ r' = r) := by
    intro k r' hk
    by_cases hlt : k < acc.length
    · rw [List.getElem?_append_left hlt] at hk; exact .inl hk
    · have h2 : k = acc.length := by
        have := (List.getElem?_eq_some_iff.1 hk).1
        simp at this; omega
      subst h2
      simp at hk; exact .inr ⟨rfl, hk.symm⟩
  rcases h with ⟨h1, h2, h3, h4⟩ | ⟨j, r0, h1, h2, h3, h4⟩
  · refine .inl ⟨h1, h2, h3, fun k r' h' m hk hl hz => ?_⟩
    rcases key k r' hk with hk | ⟨hkk, rfl⟩
    · exact h4 k r' h' m hk hl hz
    · exact hr h' m hl (hkk ▸ hz)
  · have hj : j < acc.length := (List.getElem?_eq_some_iff.1 h2).1
    refine .inr ⟨j, r0, h1, by rw [List.getElem?_append_left hj]; exact h2, ?_, ?_⟩
    · rcases h3 with h3 | ⟨h', m, a1, a2, a3, a4⟩
      · exact .inl h3
      · refine .inr ⟨h', m, a1, a2, a3, ?_⟩
        intro k r' b hk hb hlt
        rcases key k r' hk with hk | ⟨hk, _⟩
        · exact a4 k r' b hk hb hlt
        · omega
    · intro k r' h' m hk hl hlt hz
      rcases key k r' hk with hk | ⟨hkk, rfl⟩
      · exact h4 k r' h' m hk hl hlt hz
      · exact hr h' m hl (hkk ▸ hz)
theorem FY_get {ms : List Nat} {z : Nat} {N0 i : Nat} {h0 : Tr AB} {recs : List R} {f : FctQ} {pf : List Nat} (hz : ∀ j ∈ pf, j < z) (hbd : ∀ (k : Nat) (r : R) b, recs[k]? = some r → r.k = .mk b → N0 ≤ r.n0 ∧ r.n0 < 1000000000)
    (hmono : ∀ (q q' : Nat) (r r' : R), q < q' → recs[q]? = some r → recs[q']? = some r' → r.n1 ≤ r'.n0) (hpf : pf.Pairwise (· < ·)) (hld : ∀ j ∈ pf, ∃ r, recs[j]? = some r ∧ r.isL) (hlt : ∀ j k, inM ms j k = true → k < j)
    (h : FY ms z N0 h0 recs f) (hu : ∀ j, f.src = some j → inM ms i j = true ∧ ((∃ r, recs[j]? = some r ∧ r.isL) → j ∈ pf)) : HQ (gh ms pf (inM ms i) recs 0 (hOf recs h0 pf)) f := by
  have hbd' := fun k r b h1 h2 => (hbd k r b h1 h2).2
  rcases h with ⟨_, h2, h3, h4⟩ | ⟨j, r, h1, h2, h3, h4⟩
  · unfold HQ
    rw [gh_miss hbd' (fun k r b a1 a2 _ _ => by have := (hbd k r b a1 a2).1; omega)]
    refine hOf_hasQ (a := 0) hpf (fun k hk => ?_) (.inl ⟨h3, fun _ _ => Nat.zero_le _⟩)
    obtain ⟨r, b1, h', m, b2⟩ := hld k hk
    exact ⟨r, h', m, b1, b2, fun _ => h4 k r h' m b1 b2 (hz k hk)⟩
  · obtain ⟨u1, u2⟩ := hu j h1
    rcases h3 with ⟨⟨b0, g1, gp⟩, g2⟩ | ⟨h', m, g1, g2, g3, g4⟩
    · by_cases hun : Unm ms pf j
      · refine ⟨b0, ?_, gp⟩
        rw [← g2]
        exact gh_hit hbd' hmono h2 g1 (by rw [Nat.zero_add]; exact u1) (by rw [Nat.zero_add]; exact hun)
      · have huni : ∀ (k : Nat) (r' : R) b, recs[k]? = some r' → r'.k = .mk b → r'.n0 = f.id → k = j := by
          intro k r' b a1 a2 a3
          rcases Nat.lt_trichotomy k j with hk | hk | hk
          · have := hmono k j r' r hk a1 h2
            simp [R.n1, a2] at this; omega
          · exact hk
          · have := hmono j k r r' hk h2 a1
            simp [R.n1, g1] at this; omega
        unfold HQ
        rw [gh_miss hbd' (fun k r' b a1 a2 _ a4 a5 => by
          have := huni k r' b a1 a2 a5; subst this
          rw [Nat.zero_add] at a4; exact hun a4)]
        have hex : ∃ q ∈ pf, j + 1 ≤ q := by
          refine Classical.byContradiction fun hne => hun fun q hq => ?_
          cases hqq : inM ms q j with
          | false => rfl
          | true => exact absurd ⟨q, hq, hlt q j hqq⟩ hne
        refine hOf_hasQ (a := j + 1) hpf (fun k hk => ?_) (.inr hex)
        obtain ⟨r', b1, h', m, b2⟩ := hld k hk
        exact ⟨r', h', m, b1, b2, fun hl => h4 k r' h' m b1 b2 hl (hz k hk)⟩
    · have hjp := u2 ⟨r, h2, h', m, g1⟩
      unfold HQ
      rw [gh_miss hbd' (fun k r' b a1 a2 _ a4 a5 => by
        rcases Nat.lt_trichotomy k j with hk | hk | hk
        · have e1 := g4 k r' b a1 a2 hk
          rw [Nat.zero_add] at a4
          have e2 := a4 j hjp
          rw [e1] at e2; cases e2
        · subst hk; rw [h2] at a1; cases a1; rw [g1] at a2; cases a2
        · have := hmono j k r r' hk h2 a1
          simp [R.n1, g1] at this; omega)]
      refine hOf_hasQ (a := j) hpf (fun k hk => ?_) (.inr ⟨j, hjp, Nat.le_refl _⟩)
      obtain ⟨r', b1, h'', m', b2⟩ := hld k hk
      refine ⟨r', h'', m', b1, b2, fun hl => ?_⟩
      rcases Nat.lt_or_ge j k with hk2 | hk2
      · exact h4 k r' h'' m' b1 b2 hk2 (hz k hk)
      · have : k = j := by omega
        subst this
        rw [h2] at b1; cases b1; rw [g1] at b2; cases b2; exact g2
section
variable {X : X} {rec : Rec} {n : Nat} {ops : List Oper} {e : Env} {h0 : Tr AB}
def RFY (X : _root_.GX.X) (n : Nat) (ops : List Oper) (z : Nat) (N0 : Nat) (e : Env) (h0 : Tr AB) (recs : List R) (lds : List Nat) (i : Nat) (o : Oper) (r : R) : Prop :=
  r.k = .rd → ∃ l1 l2 ei, lds = l1 ++ l2 ∧ (∀ j ∈ l1, j < i) ∧ (∀ j ∈ l2, i < j) ∧ (∀ t ∈ looks ops o, lookT (masks ops []) ops (recs.take i) e i t = some (ei.at t)) ∧ (∀ t ∈ looks ops o, t < n) ∧
    sk X o.op = .read ∧ veq r.v r.v = true ∧ ((rdStat (masks ops []) (ops.map (fun o => sk X o.op)) i = true ∧ readOp X ei (gh (masks ops []) l1 (fun _ => true) (recs.take i) 0 (hOf (recs.take i) h0 l1)) o.op = some r.v) ∨ ∃ D, ZB ops z i = true ∧ FPDQ X D (masks ops []) i ei o.op r.v ∧ ∀ f ∈ D, FY (masks ops []) z N0 h0 recs f)
theorem plan_seqY {z N0 : Nat} (hn : n < 1000001) (hE : edgesOk ops 0 = true) (hD : dstsOk n ops = true) (hK : seqB1 ops (masks ops []) (ops.map (fun o => sk X o.op)) n ops 0 = true) :
    ∀ (D : List FctQ) (os pre : List Oper) (acc : List R) (lds : List Nat) (S : St) (ei : Env) (e' : Env) (S' : St), ops = pre ++ os → acc.length = pre.length → putAll n pre acc e = some ei →
    (∀ (k : Nat) (r : R) b, acc[k]? = some r → r.k = .mk b → (ops.map (fun o => sk X o.op)).getD k .pure = .alloc ∧ N0 ≤ r.n0 ∧ r.n0 < 1000000000) →
    (∀ f ∈ D, FY (masks ops []) z N0 h0 acc f) →
    (∀ (k : Nat) (r : R), acc[k]? = some r → r.isL → k ∈ lds) → (∀ (q q' : Nat) (r r' : R), q < q' → acc[q]? = some r → acc[q']? = some r' → r.n1 ≤ r'.n0) → (∀ (q : Nat) (r : R), acc[q]? = some r → r.n1 ≤ S.n) →
    N0 ≤ S.n →
    (∀ j ∈ lds, j < pre.length ∧ isLC ((ops.map (fun o => sk X o.op)).getD j .pure) = true ∧ ∃ r, acc[j]? = some r ∧ r.isL) →
    lds.Pairwise (· < ·) →
    S.h = gh (masks ops []) lds (fun _ => true) acc 0 (hOf acc h0 lds) →
    RunY X rec n ops z D os pre.length ei S e' S' →
    ∃ tl l2, plan X rec n ops (masks ops []) e os pre.length acc lds (hOf acc h0 lds) S.n = some (acc ++ tl, lds ++ l2, S'.n) ∧
      (∀ j ∈ l2, pre.length ≤ j ∧ isLC ((ops.map (fun o => sk X o.op)).getD j .pure) = true) ∧ putAll n ops (acc ++ tl) e = some e' ∧
      S'.h = gh (masks ops []) (lds ++ l2) (fun _ => true) (acc ++ tl) 0 (hOf (acc ++ tl) h0 (lds ++ l2)) ∧ tl.length = os.length ∧ (lds ++ l2).Pairwise (· < ·) ∧ (∀ (k : Nat) (r : R) b, (acc ++ tl)[k]? = some r → r.k = .mk b → (ops.map (fun o => sk X o.op)).getD k .pure = .alloc ∧ N0 ≤ r.n0 ∧ r.n0 < 1000000000) ∧ (∀ f ∈ D, FY (masks ops []) z N0 h0 (acc ++ tl) f) ∧ (∀ (k : Nat) (r : R), (acc ++ tl)[k]? = some r → r.isL → k ∈ lds ++ l2) ∧ (∀ (q q' : Nat) (r r' : R), q < q' → (acc ++ tl)[q]? = some r → (acc ++ tl)[q']? = some r' → r.n1 ≤ r'.n0) ∧ (∀ j ∈ lds ++ l2, ∃ r, (acc ++ tl)[j]? = some r ∧ r.isL) ∧
      ∀ (k : Nat) (o : Oper) (r : R), os[k]? = some o → tl[k]? = some r → RFY X n ops z N0 e h0 (acc ++ tl) (lds ++ l2) (pre.length + k) o r
  | D, [], pre, acc, lds, S, ei, e', S', hp, hl, hput, hmk, hF, hal, hmo, _, _, hld, hpw, hh, h => by
    unfold RunY at h
    obtain ⟨rfl, rfl⟩ := h
    refine ⟨[], [], ?_, fun j hj => by simp at hj, ?_, ?_, rfl, by simpa using hpw, by simpa using hmk, by simpa using hF, by simpa using hal, by simpa using hmo, fun j hj => by simpa using (hld j (by simpa using hj)).2.2, fun k o r hk => by simp at hk⟩
    · simp [plan]
    · simp only [List.append_nil] at hp ⊢; rw [hp]; exact hput
    · simpa using hh
  | D, o :: os, pre, acc, lds, S, ei, e', S', hp, hl, hput, hmk, hF, hal, hmo, hmn, hN, hld, hpw, hh, h => by
    have ho : ops[pre.length]? = some o := by rw [hp]; simp
    have hsk : (ops.map (fun o => sk X o.op)).getD pre.length .pure = sk X o.op := by
      rw [List.getD_eq_getElem?_getD, List.getElem?_map, ho]; rfl
    obtain ⟨hk1, hk2⟩ := seqB1_at hK pre.length o ho
    simp only [Nat.zero_add] at hk1 hk2
    rw [hsk] at hk2
    have hlk := looks_seq hn hE hD hp hl hput hk1
    obtain ⟨re, hre, hag⟩ := renv_good (es := ei) hn hlk
    have hoe : OE re ei o.op := OE_of hag
    have hp' : ops = (pre ++ [o]) ++ os := by rw [hp]; simp
    -- what goes on behind
    have fin : ∀ (r : R) (ldn : List Nat) (S1 : St) (e1 : Env) (N : List FctQ), setDst n ei o.dst r.v = some e1 → (∀ b, r.k = .mk b → sk X o.op = .alloc ∧ N0 ≤ r.n0 ∧ r.n0 < 1000000000) → (∀ h' m, r.k = .ld h' m → pre.length < z → ∀ f ∈ D, HQ h' f) → (∀ f ∈ N, FY (masks ops []) z N0 h0 (acc ++ [r]) f) → r.n0 = S.n → r.n1 = S1.n → S.n ≤ S1.n → N0 ≤ S1.n → (ldn = [] ∧ ¬ r.isL ∨ ldn = [pre.length] ∧ isLC (sk X o.op) = true ∧ r.isL) →
        S1.h = gh (masks ops []) (lds ++ ldn) (fun _ => true) (acc ++ [r]) 0 (hOf (acc ++ [r]) h0 (lds ++ ldn)) →
        (r.k = .rd → ldn = [] ∧ sk X o.op = .read ∧ veq r.v r.v = true ∧ ((rdStat (masks ops []) (ops.map (fun o => sk X o.op)) pre.length = true ∧ readOp X ei S.h o.op = some r.v) ∨ ZB ops z pre.length = true ∧ FPDQ X D (masks ops []) pre.length ei o.op r.v)) →
        RunY X rec n ops z (D ++ N) os (pre.length + 1) e1 S1 e' S' →
        plan X rec n ops (masks ops []) e (o :: os) pre.length acc lds (hOf acc h0 lds) S.n = plan X rec n ops (masks ops []) e os (pre.length + 1) (acc ++ [r]) (lds ++ ldn) (hOf (acc ++ [r]) h0 (lds ++ ldn)) S1.n →
        ∃ tl l2, plan X rec n ops (masks ops []) e (o :: os) pre.length acc lds (hOf acc h0 lds) S.n = some (acc ++ tl, lds ++ l2, S'.n) ∧
          (∀ j ∈ l2, pre.length ≤ j ∧ isLC ((ops.map (fun o => sk X o.op)).getD j .pure) = true) ∧ putAll n ops (acc ++ tl) e = some e' ∧
          S'.h = gh (masks ops []) (lds ++ l2) (fun _ => true) (acc ++ tl) 0 (hOf (acc ++ tl) h0 (lds ++ l2)) ∧ tl.length = (o :: os).length ∧ (lds ++ l2).Pairwise (· < ·) ∧ (∀ (k : Nat) (r : R) b, (acc ++ tl)[k]? = some r → r.k = .mk b → (ops.map (fun o => sk X o.op)).getD k .pure = .alloc ∧ N0 ≤ r.n0 ∧ r.n0 < 1000000000) ∧ (∀ f ∈ D, FY (masks ops []) z N0 h0 (acc ++ tl) f) ∧ (∀ (k : Nat) (r : R), (acc ++ tl)[k]? = some r → r.isL → k ∈ lds ++ l2) ∧ (∀ (q q' : Nat) (r r' : R), q < q' → (acc ++ tl)[q]? = some r → (acc ++ tl)[q']? = some r' → r.n1 ≤ r'.n0) ∧ (∀ j ∈ lds ++ l2, ∃ r, (acc ++ tl)[j]? = some r ∧ r.isL) ∧
          ∀ (k : Nat) (o' : Oper) (r : R), (o :: os)[k]? = some o' → tl[k]? = some r → RFY X n ops z N0 e h0 (acc ++ tl) (lds ++ l2) (pre.length + k) o' r := by
      intro r ldn S1 e1 N hset hmk1 hlb1 hNf hr0 hr1 hnS1 hN1 hldn hh1 hrd hrun hplan
      have hlast : ∀ (k : Nat) (r' : R), (acc ++ [r])[k]? = some r' → acc[k]? = some r' ∨ (k = acc.length ∧ r' = r) := by
        intro k r' hk
        by_cases hlt : k < acc.length
        · rw [List.getElem?_append_left hlt] at hk; exact .inl hk
        · have h2 : k = acc.length := by
            have := (List.getElem?_eq_some_iff.1 hk).1
            simp at this; omega
          subst h2
          simp at hk; exact .inr ⟨rfl, hk.symm⟩
      obtain ⟨tl, l2, p1, p2, p3, p4, p5, ppw, pmk, pF, pal, pmo, pld, p6⟩ := plan_seqY hn hE hD hK (D ++ N) os (pre ++ [o]) (acc ++ [r]) (lds ++ ldn) S1 e1 e' S' hp' (by simp [hl]) (putAll_snoc hput hset)
        (by
          intro k r' b hk hb
          by_cases hlt : k < acc.length
          · rw [List.getElem?_append_left hlt] at hk; exact hmk k r' b hk hb
          · have : k = acc.length := by
              have := (List.getElem?_eq_some_iff.1 hk).1
              simp at this; omega
            subst this
            simp at hk; subst hk
            rw [hl, hsk]; exact hmk1 b hb)
        (by
          intro f hf
          rcases List.mem_append.1 hf with hf | hf
          · exact FY_snoc (hF f hf) (fun h' m hk hz => hlb1 h' m hk (hl ▸ hz) f hf)
          · exact hNf f hf)
        (by
          intro k r' hk hkl
          rcases hlast k r' hk with hk | ⟨rfl, rfl⟩
          · exact List.mem_append_left _ (hal k r' hk hkl)
          · rcases hldn with ⟨_, hq⟩ | ⟨hq, _⟩
            · exact absurd hkl hq
            · rw [hq, hl]; simp)
        (by
          intro q q' r1 r2 hlt h1 h2
          rcases hlast q' r2 h2 with h2 | ⟨rfl, rfl⟩
          · have hlt2 := (List.getElem?_eq_some_iff.1 h2).1
            rcases hlast q r1 h1 with h1 | ⟨rfl, rfl⟩
            · exact hmo q q' r1 r2 hlt h1 h2
            · omega
          · rcases hlast q r1 h1 with h1 | ⟨rfl, rfl⟩
            · rw [hr0]; exact hmn q r1 h1
            · omega)
        (by
          intro q r1 h1
          rcases hlast q r1 h1 with h1 | ⟨rfl, rfl⟩
          · have h2 := hmn q r1 h1
            have h3 : r.n0 ≤ r.n1 := by
              rw [hr1, hr0]; exact hnS1
            omega
          · omega)
        hN1
        (by
          intro j hj
          rw [List.mem_append] at hj
          rcases hj with hj | hj
          · obtain ⟨g1, g2, r', g3, g4⟩ := hld j hj; exact ⟨by simp; omega, g2, r', by rw [List.getElem?_append_left (List.getElem?_eq_some_iff.1 g3).1]; exact g3, g4⟩
          · rcases hldn with ⟨hq, _⟩ | ⟨hq, hq2, hq3⟩
            · rw [hq] at hj; simp at hj
            · rw [hq] at hj; simp at hj; subst hj; exact ⟨by simp, by rw [hsk]; exact hq2, r, by rw [← hl]; simp, hq3⟩)
        (by
          rw [List.pairwise_append]
          refine ⟨hpw, ?_, fun a ha b hb => ?_⟩
          · rcases hldn with ⟨hq, _⟩ | ⟨hq, _⟩ <;> rw [hq] <;> simp
          · rcases hldn with ⟨hq, _⟩ | ⟨hq, _⟩
            · rw [hq] at hb; simp at hb
            · rw [hq] at hb; simp at hb; subst hb; exact (hld a ha).1)
        hh1 (by rw [List.length_append, List.length_singleton]; exact hrun)
      rw [List.length_append, List.length_singleton] at p1
      refine ⟨r :: tl, ldn ++ l2, ?_, ?_, ?_, ?_, by simp [p5], by simpa using ppw, by simpa using pmk, fun f hf => by simpa using pF f (List.mem_append_left _ hf), by simpa using pal, by simpa using pmo, by simpa using pld, ?_⟩
      · rw [hplan, p1]; simp
      · intro j hj
        rw [List.mem_append] at hj
        rcases hj with hj | hj
        · rcases hldn with ⟨hq, _⟩ | ⟨hq, hq2, _⟩
          · rw [hq] at hj; simp at hj
          · rw [hq] at hj; simp at hj; subst hj; exact ⟨Nat.le_refl _, by rw [hsk]; exact hq2⟩
        · have h1 := (p2 j hj).1; simp only [List.length_append, List.length_singleton] at h1; exact ⟨by omega, (p2 j hj).2⟩
      · rw [← p3]; simp
      · rw [p4]; simp
      · intro k o' r' hk hr'
        cases k with
        | zero =>
          simp at hk hr'; subst hk; subst hr'
          intro hrk
          obtain ⟨q1, q2, q4, q3⟩ := hrd hrk
          subst q1
          refine ⟨lds, l2, ei, by simp, fun j hj => by have := (hld j hj).1; simpa using this, fun j hj => by have := (p2 j hj).1; simp only [List.length_append, List.length_singleton] at this; omega, ?_, fun t ht => (hlk t ht).1, q2, q4, q3.imp (fun q => ⟨by simpa using q.1, ?_⟩) (fun q => ⟨D, by simpa using q.1, by simpa using q.2, fun f hf => by simpa using pF f (List.mem_append_left _ hf)⟩)⟩
          · intro t ht
            have : (acc ++ r :: tl).take (pre.length + 0) = acc := by rw [Nat.add_zero, ← hl]; simp
            rw [this]
            exact (hlk t ht).2
          · have : (acc ++ r :: tl).take (pre.length + 0) = acc := by rw [Nat.add_zero, ← hl]; simp
            rw [this, ← hh]; exact q.2
        | succ k =>
          have := p6 k o' r' (by simpa using hk) (by simpa using hr')
          simp only [List.length_append, List.length_singleton, List.append_assoc, List.singleton_append] at this
          rw [show pre.length + (k + 1) = pre.length + 1 + k by omega]
          exact this
    have hwc : wanted ops re o = wanted ops ei o := wanted_congr hag
    have hldlt : ∀ j ∈ lds, j < (acc).length := fun j hj => by rw [hl]; exact (hld j hj).1
    have hOfs : ∀ r : R, hOf (acc ++ [r]) h0 lds = hOf acc h0 lds := fun r => hOf_append hldlt
    have hgs : ∀ r : R, (∀ b, r.k ≠ .mk b) → gh (masks ops []) lds (fun _ => true) (acc ++ [r]) 0 (hOf (acc ++ [r]) h0 lds) = S.h := by
      intro r hr
      rw [hOfs, gh_snoc, ← hh]
      unfold ghStep
      split
      · rename_i b hb; exact absurd hb (hr b)
      · rfl
    have hgc : (∀ (k : Nat), k < pre.length → (ops.map (fun o => sk X o.op)).getD k .pure = .alloc → inM (masks ops []) pre.length k = true) → gh (masks ops []) lds (inM (masks ops []) pre.length) acc 0 (hOf acc h0 lds) = S.h := by
      intro hq
      rw [hh]
      apply gh_congr
      intro k r b h1 h2
      have hkl : k < pre.length := by have := (List.getElem?_eq_some_iff.1 h1).1; omega
      simp only [Nat.zero_add]
      exact hq k hkl (hmk k r b h1 h2).1
    have hzlt : ZB ops z pre.length = true → pre.length < z := by
      intro hzb
      have hlo : pre.length < ops.length := (List.getElem?_eq_some_iff.1 ho).1
      have h1 := List.all_eq_true.1 hzb pre.length (by simpa using hlo)
      rw [Bool.or_eq_true] at h1
      rcases h1 with h1 | h1
      · rw [nblt, decide_eq_true_eq] at h1; exact h1
      · have := inM_lt hE _ _ h1; omega
    have hgB : pre.length < z → ∀ f ∈ D, (∀ j, f.src = some j → inM (masks ops []) pre.length j = true) → HQ (gh (masks ops []) lds (inM (masks ops []) pre.length) acc 0 (hOf acc h0 lds)) f := by
      intro hzz f hf hu
      refine FY_get (fun j hj => Nat.lt_trans (hld j hj).1 hzz) (fun k r b h1 h2 => (hmk k r b h1 h2).2) hmo hpw (fun j hj => (hld j hj).2.2) (fun j k => inM_lt hE j k) (hF f hf) (fun j hj => ⟨hu j hj, fun ⟨r, h1, h2⟩ => hal j r h1 h2⟩)
    unfold RunY at h
    rcases h with ⟨hw, v, S1, e1, N, hop, he1, hb, hrdc, hlc, hNf, h⟩ | ⟨hw, e1, he1, h⟩
    case inr =>
      refine fin ⟨.tup [], S.n, .val⟩ [] S e1 [] he1 (fun b hb => by cases hb) (fun h' m hb => by cases hb) (fun f hf => by cases hf) rfl rfl (Nat.le_refl _) hN (.inl ⟨rfl, fun ⟨_, _, q⟩ => by cases q⟩) ?_ (fun hb => by cases hb) (by rw [List.append_nil]; exact h) ?_
      · rw [List.append_nil, hgs _ (fun b hb => by cases hb)]
      · conv => lhs; unfold plan
        rw [hre]; dsimp only; rw [hwc, hw]; simp only [cond_false, List.append_nil]
        rw [hOfs]
    case inl =>
      have hck := sk_ok hop
      have hclr : cls X re o.op = cls X ei o.op := cls_congr hoe
      have hN1 : N0 ≤ S1.n := Nat.le_trans hN (oper_n hop)
      have hloud : isLC (cls X ei o.op) = true →
        ∃ tl l2, plan X rec n ops (masks ops []) e (o :: os) pre.length acc lds (hOf acc h0 lds) S.n = some (acc ++ tl, lds ++ l2, S'.n) ∧
          (∀ j ∈ l2, pre.length ≤ j ∧ isLC ((ops.map (fun o => sk X o.op)).getD j .pure) = true) ∧ putAll n ops (acc ++ tl) e = some e' ∧
          S'.h = gh (masks ops []) (lds ++ l2) (fun _ => true) (acc ++ tl) 0 (hOf (acc ++ tl) h0 (lds ++ l2)) ∧ tl.length = (o :: os).length ∧ (lds ++ l2).Pairwise (· < ·) ∧ (∀ (k : Nat) (r : R) b, (acc ++ tl)[k]? = some r → r.k = .mk b → (ops.map (fun o => sk X o.op)).getD k .pure = .alloc ∧ N0 ≤ r.n0 ∧ r.n0 < 1000000000) ∧ (∀ f ∈ D, FY (masks ops []) z N0 h0 (acc ++ tl) f) ∧ (∀ (k : Nat) (r : R), (acc ++ tl)[k]? = some r → r.isL → k ∈ lds ++ l2) ∧ (∀ (q q' : Nat) (r r' : R), q < q' → (acc ++ tl)[q]? = some r → (acc ++ tl)[q']? = some r' → r.n1 ≤ r'.n0) ∧ (∀ j ∈ lds ++ l2, ∃ r, (acc ++ tl)[j]? = some r ∧ r.isL) ∧
          ∀ (k : Nat) (o' : Oper) (r : R), (o :: os)[k]? = some o' → tl[k]? = some r → RFY X n ops z N0 e h0 (acc ++ tl) (lds ++ l2) (pre.length + k) o' r := by
        intro hlc0
        have hs : cls X ei o.op = sk X o.op := by
          rcases hck with hq | hq
          · rw [hq] at hlc0; cases hlc0
          · exact hq
        have hlc1 := hlc hlc0
        rw [hs] at hlc0
        have hbef : bef (masks ops []) (ops.map (fun o => sk X o.op)) pre.length isAll = true := hk2 hlc0
        have hg := hgc (fun k hk hq => bef_at hbef hk (by rw [hq]; rfl))
        have hall : lds.all (fun j => inM (masks ops []) pre.length j) = true := by
          apply List.all_eq_true.2
          intro j hj
          obtain ⟨q1, q2, -⟩ := hld j hj
          exact bef_at hbef q1 (by cases hq : (ops.map (fun o => sk X o.op)).getD j .pure <;> rw [hq] at q2 <;> first | rfl | cases q2)
        have hop' : oper X rec re { h := gh (masks ops []) lds (inM (masks ops []) pre.length) acc 0 (hOf acc h0 lds), n := S.n } o.op = some (v, S1) := by
          rw [hg, oper_congr hoe]; exact hop
        refine fin ⟨v, S.n, .ld S1.h S1.n⟩ [pre.length] S1 e1 N he1 (fun b hb => by cases hb) (fun h' m hb => by cases hb; exact hlc1) (fun f hf => ?_) rfl rfl (oper_n hop) hN1 (.inr ⟨rfl, hlc0, _, _, rfl⟩) ?_ (fun hb => by cases hb) h ?_
        · obtain ⟨n1, n2, n3, _⟩ := hNf f hf
          refine .inr ⟨pre.length, ⟨v, S.n, .ld S1.h S1.n⟩, n1, by rw [← hl]; simp, .inr ⟨_, _, rfl, n3, n2, ?_⟩, ?_⟩
          · intro k r b hk hb hlt
            rw [List.getElem?_append_left (by omega)] at hk
            exact bef_at hbef hlt (by rw [(hmk k r b hk hb).1]; rfl)
          · intro k r h' m hk _ hlt _
            have := (List.getElem?_eq_some_iff.1 hk).1
            simp at this; omega
        · rw [gh_snoc]
          have : hOf (acc ++ [(⟨v, S.n, .ld S1.h S1.n⟩ : R)]) h0 (lds ++ [pre.length]) = S1.h := hOf_snoc (r := ⟨v, S.n, .ld S1.h S1.n⟩) (m := S1.n) (by rw [← hl]; simp) rfl
          rw [this, gh_had (fun q r b h1 h2 => by
            have hkl : q < pre.length := by have := (List.getElem?_eq_some_iff.1 h1).1; omega
            rw [Nat.zero_add]
            exact bef_at hbef hkl (by rw [(hmk q r b h1 h2).1]; rfl))]
          rfl
        · conv => lhs; unfold plan
          rw [hre]; dsimp only; rw [hwc, hw]; simp only [cond_true]
          have : hOf (acc ++ [(⟨v, S.n, .ld S1.h S1.n⟩ : R)]) h0 (lds ++ [pre.length]) = S1.h := hOf_snoc (r := ⟨v, S.n, .ld S1.h S1.n⟩) (m := S1.n) (by rw [← hl]; simp) rfl
          rw [hclr, hs]
          cases hskc : sk X o.op with
          | loud => dsimp only; rw [hall]; simp only [cond_true]; rw [hop']; dsimp only; rw [this]
          | call => dsimp only; rw [hall]; simp only [cond_true]; rw [hop']; dsimp only; rw [this]
          | _ => rw [hskc] at hlc0; cases hlc0
      cases hc : cls X ei o.op with
      | loud => exact hloud (by rw [hc]; rfl)
      | call => exact hloud (by rw [hc]; rfl)
      | pure =>
        unfold oper at hop
        rw [hc] at hop
        dsimp only at hop
        split at hop
        · cases hop
        · rename_i v' hv
          cases hop
          have hN0 : N = [] := by
            cases N with
            | nil => rfl
            | cons f N => exfalso; have := (hNf f (List.mem_cons_self ..)).2.2.2; rw [hc] at this; exact absurd this (by rintro (q | ⟨q, _⟩) <;> cases q)
          subst hN0
          refine fin ⟨v, S.n, .val⟩ [] S e1 [] he1 (fun b hb => by cases hb) (fun h' m hb => by cases hb) (fun f hf => by cases hf) rfl rfl (Nat.le_refl _) hN (.inl ⟨rfl, fun ⟨_, _, q⟩ => by cases q⟩) ?_ (fun hb => by cases hb) h ?_
          · rw [List.append_nil, hgs _ (fun b hb => by cases hb)]
          · conv => lhs; unfold plan
            rw [hre]; dsimp only; rw [hwc, hw]; simp only [cond_true, List.append_nil]
            rw [hclr, hc]; dsimp only; rw [pureOp_congr hoe, hv]; dsimp only; rw [hOfs]
      | read =>
        have hs : sk X o.op = .read := by
          rcases hck with hq | hq
          · rw [hq] at hc; cases hc
          · rw [← hq]; exact hc
        have hrdc' := hrdc hc
        unfold oper at hop
        rw [hc] at hop
        dsimp only at hop
        split at hop
        · cases hop
        · rename_i v' hv
          cases hop
          rw [hc] at hb
          have hrd2 : readOp X ei (gh (masks ops []) lds (inM (masks ops []) pre.length) acc 0 (hOf acc h0 lds)) o.op = some v := by
            rcases hrdc' with hst | hfp
            · have hst' := hst
              unfold rdStat at hst'
              rw [Bool.and_eq_true] at hst'
              rw [hgc (fun k hk hq => bef_at hst'.1 hk (by rw [hq]; rfl))]; exact hv
            · exact hfp.2 _ (hgB (hzlt hfp.1))
          have hN0 : N = [] := by
            cases N with
            | nil => rfl
            | cons f N => exfalso; have := (hNf f (List.mem_cons_self ..)).2.2.2; rw [hc] at this; exact absurd this (by rintro (q | ⟨q, _⟩) <;> cases q)
          subst hN0
          refine fin ⟨v, S.n, .rd⟩ [] S e1 [] he1 (fun b hb => by cases hb) (fun h' m hb => by cases hb) (fun f hf => by cases hf) rfl rfl (Nat.le_refl _) hN (.inl ⟨rfl, fun ⟨_, _, q⟩ => by cases q⟩) ?_ (fun _ => ⟨rfl, hs, hb, hrdc'.imp (fun q => ⟨q, hv⟩) (fun q => q)⟩) h ?_
          · rw [List.append_nil, hgs _ (fun b hb => by cases hb)]
          · conv => lhs; unfold plan
            rw [hre]; dsimp only; rw [hwc, hw]; simp only [cond_true, List.append_nil]
            rw [hclr, hc]; dsimp only; rw [readOp_congr hoe, hrd2]; dsimp only; rw [hOfs]
      | alloc =>
        have hs : sk X o.op = .alloc := by
          rcases hck with hq | hq
          · rw [hq] at hc; cases hc
          · rw [← hq]; exact hc
        unfold oper at hop
        rw [hc] at hop
        dsimp only at hop
        cases hlt : Nat.blt S.n 1000000000 with
        | false => rw [hlt] at hop; cases hop
        | true =>
          rw [hlt] at hop
          simp only [cond_true] at hop
          have hlt2 : S.n < 1000000000 := by rw [nblt, decide_eq_true_eq] at hlt; exact hlt
          split at hop
          · cases hop
          · rename_i b' v' hv
            cases hop
            refine fin ⟨v, S.n, .mk b'⟩ [] (S.new b') e1 N he1 (fun _ _ => ⟨hs, hN, hlt2⟩) (fun h' m hb => by cases hb) (fun f hf => ?_) rfl rfl (Nat.le_succ _) hN1 (.inl ⟨rfl, fun ⟨_, _, q⟩ => by cases q⟩) ?_ (fun hb => by cases hb) h ?_
            · obtain ⟨n1, _, n3, n4⟩ := hNf f hf
              rw [hc] at n4
              rcases n4 with q | ⟨_, q⟩
              · cases q
              obtain ⟨bb, n3, n3p⟩ := n3
              have hx : bb = b' := by
                have h5 : (S.new b').h.get S.n = some b' := by unfold St.new; dsimp only; rw [Tr.get_set 40 _ _ _ _ (by omega), if_pos rfl]
                rw [q, h5] at n3; cases n3; rfl
              refine .inr ⟨pre.length, ⟨v, S.n, .mk b'⟩, n1, by rw [← hl]; simp, .inl ⟨⟨b', rfl, hx ▸ n3p⟩, q.symm⟩, ?_⟩
              intro k r h' m hk _ hlt _
              have := (List.getElem?_eq_some_iff.1 hk).1
              simp at this; omega
            · rw [List.append_nil, hOfs, gh_snoc, ← hh]
              unfold ghStep
              dsimp only
              have : lds.all (fun j => !inM (masks ops []) j (0 + acc.length)) = true := by
                apply List.all_eq_true.2
                intro j hj
                have h1 := (hld j hj).1
                cases hq : inM (masks ops []) j (0 + acc.length) with
                | false => rfl
                | true => have := inM_lt hE _ _ hq; omega
              rw [this]
              rfl
            · conv => lhs; unfold plan
              rw [hre]; dsimp only; rw [hwc, hw]; simp only [cond_true, List.append_nil]
              rw [hclr, hc]; dsimp only; rw [hlt]; simp only [cond_true]; rw [allocOp_congr hoe, hv]; dsimp only; rw [hOfs]
              rfl
/-- WHERE THE EDGES SAY ENOUGH but for reads that loud operations leave alone, a region that draws its order gives what the text's order gives. -/
theorem drawn_Y {z : Nat} {D : List FctQ} {S : St} {e' : Env} {S' : St} (hD0 : ∀ f ∈ D, f.src = none ∧ f.id < S.n ∧ HQ S.h f) (hs : seqB X n ops = true) (h : RunY X rec n ops z D ops 0 e S e' S') : drawn X rec n ops e S = .ok .nor e' S' := by
  unfold seqB at hs
  simp only [Bool.and_eq_true, nblt, decide_eq_true_eq] at hs
  obtain ⟨⟨⟨⟨hE, hD⟩, hN⟩, hn⟩, hK⟩ := hs
  have hle := RunY_n h
  obtain ⟨tl, l2, p1, p2, p3, p4, p5, ppw, pmk, -, pal, pmo, pld, p6⟩ := plan_seqY (h0 := S.h) (e := e) (N0 := S.n) hn hE hD hK D ops [] [] [] S e e' S' (by simp) rfl (by simp [putAll]) (fun k r b hk => by simp at hk) (fun f hf => .inl ⟨(hD0 f hf).1, (hD0 f hf).2.1, (hD0 f hf).2.2, fun k r h' m hk _ => by simp at hk⟩) (fun k r hk => by simp at hk) (fun q q' r r' _ hk => by simp at hk) (fun k r hk => by simp at hk) (Nat.le_refl _) (fun j hj => by simp at hj) List.Pairwise.nil (by simp [gh, hOf]) h
  simp only [List.nil_append, List.length_nil, hOf, Nat.zero_add] at p1 p2 p3 p4 p6 ppw pmk pal pmo pld
  unfold drawn
  dsimp only
  rw [hE, hD, hN]
  simp only [Bool.and_self, cond_true]
  rw [p1]
  dsimp only
  have hrd : rdsOk X n ops (masks ops []) tl e S.h l2 ops 0 = true := by
    apply rdsOk_of
    intro i o ho
    have hi : i < ops.length := (List.getElem?_eq_some_iff.1 ho).1
    have hr : tl[i]? = some (tl[i]'(by omega)) := List.getElem?_eq_getElem _
    rw [Nat.zero_add]
    refine ⟨_, hr, fun hk => ?_⟩
    obtain ⟨l1, l3, ei, q1, q2, q3, q4, q5, q6, q8, q9⟩ := p6 i o _ ho hr hk
    have hlt : ∀ j, inM (masks ops []) i j = true → j < (tl.take i).length := fun j hj => by
      have := inM_lt hE _ _ hj
      simp; omega
    have htl : tl = tl.take i ++ tl.drop i := (List.take_append_drop i tl).symm
    obtain ⟨re, r1, r2⟩ := renv_good (ms := masks ops []) (ops := ops) (acc := tl) (e := e) (es := ei) (n := n) (i := i) hn (ts := looks ops o) (fun t ht => ⟨q5 t ht, by
      rw [htl, lookT_append hlt]; exact q4 t ht⟩)
    refine ⟨re, r1, rdOk_of fun a b hab => ?_⟩
    have hoe : OE re ei o.op := OE_of r2
    have hski : (ops.map (fun o => sk X o.op)).getD i .pure = sk X o.op := by
      rw [List.getD_eq_getElem?_getD, List.getElem?_map, ho]; rfl
    rw [List.nil_append]
    unfold rdOk.rd1
    cases hc : (a.all (fun j => !inM (masks ops []) j i) && l2.all (fun j => !inM (masks ops []) i j || a.contains j)) with
    | false => rfl
    | true =>
      simp only [cond_true]
      simp only [Bool.and_eq_true] at hc
      obtain ⟨c1, c2⟩ := hc
      rcases q9 with ⟨hst, q7⟩ | ⟨D', hzb, hfp, hfi⟩
      case inr =>
        have hsub : ∀ j ∈ a, j ∈ l2 := fun j hj => by rw [hab]; exact List.mem_append_left _ hj
        have hg : ∀ f ∈ D', (∀ j, f.src = some j → inM (masks ops []) i j = true) → HQ (gh (masks ops []) a (inM (masks ops []) i) tl 0 (hOf tl S.h a)) f := by
          intro f hf hu
          refine FY_get (fun j hj => ?_) (fun k r b h1 h2 => (pmk k r b h1 h2).2) pmo ?_ (fun j hj => pld j (hsub j hj)) (fun j k => inM_lt hE j k) (hfi f hf) (fun j hj => ⟨hu j hj, fun ⟨r, h1, h2⟩ => ?_⟩)
          · have h1 := List.all_eq_true.1 c1 j hj
            obtain ⟨r, h2, _⟩ := pld j (hsub j hj)
            have h3 := (List.getElem?_eq_some_iff.1 h2).1
            have h4 := List.all_eq_true.1 hzb j (by simp only [List.mem_range]; omega)
            rw [Bool.or_eq_true] at h4
            rcases h4 with h4 | h4
            · rw [nblt, decide_eq_true_eq] at h4; exact h4
            · rw [h4] at h1; cases h1
          · rw [hab, List.pairwise_append] at ppw; exact ppw.1
          · have h3 := List.all_eq_true.1 c2 j (pal j r h1 h2)
            rw [hu j hj] at h3
            simpa using h3
        rw [readOp_congr hoe, hfp _ hg]
        exact q8
      unfold rdStat at hst
      rw [Bool.and_eq_true] at hst
      obtain ⟨hk2, hk3⟩ := hst
      have hal : a = l1 := by
        have hpre : a ++ b = l1 ++ l3 := by rw [← hab, q1]
        have hin1 : ∀ j ∈ l1, j ∈ a := by
          intro j hj
          have hj2 : j ∈ l2 := by rw [q1]; exact List.mem_append_left _ hj
          have h1 := List.all_eq_true.1 c2 j hj2
          have h2 : inM (masks ops []) i j = true := by
            apply bef_at hk2 (q2 j hj)
            have := (p2 j hj2).2
            cases hq : (ops.map (fun o => sk X o.op)).getD j .pure <;> rw [hq] at this <;> first | rfl | cases this
          rw [h2] at h1
          simpa using h1
        have hin3 : ∀ j ∈ l3, j ∉ a := by
          intro j hj hja
          have hj2 : j ∈ l2 := by rw [q1]; exact List.mem_append_right _ hj
          have h1 := List.all_eq_true.1 c1 j hja
          have hjl : j < ops.length := by
            have := (p2 j hj2).2
            rw [List.getD_eq_getElem?_getD] at this
            by_cases hlt : j < ops.length
            · exact hlt
            · rw [List.getElem?_eq_none (by simpa using hlt)] at this; cases this
          have hl := (p2 j hj2).2
          have h3 := List.all_eq_true.1 hk3 j (by simpa using hjl)
          rw [hl, nble, decide_eq_false (by have := q3 j hj; omega)] at h3
          have : inM (masks ops []) j i = true := by simpa using h3
          rw [this] at h1
          cases h1
        rcases List.append_eq_append_iff.1 hpre with ⟨m, hm1, hm2⟩ | ⟨m, hm1, hm2⟩
        · -- l1 = a ++ m
          cases m with
          | nil => simpa using hm1.symm
          | cons y m =>
            exfalso
            have hy : y ∈ a := hin1 y (by rw [hm1]; simp)
            rw [q1, hm1, List.append_assoc, List.pairwise_append] at ppw
            have := ppw.2.2 y hy y (by simp)
            omega
        · cases m with
          | nil => simpa using hm1
          | cons y m =>
            exfalso
            exact hin3 y (by rw [hm2]; simp) (by rw [hm1]; simp)
      subst hal
      have hh : gh (masks ops []) a (inM (masks ops []) i) tl 0 (hOf tl S.h a) = gh (masks ops []) a (fun _ => true) (tl.take i) 0 (hOf (tl.take i) S.h a) := by
        conv => lhs; rw [htl]
        rw [gh_append (fun q hq => by
          cases hm : inM (masks ops []) i q with
          | false => rfl
          | true => have := hlt q hm; omega)]
        rw [hOf_append (fun j hj => by have := q2 j hj; simp; omega)]
        apply gh_congr
        intro k r b h1 h2
        rw [Nat.zero_add]
        have hki : k < i := by have := (List.getElem?_eq_some_iff.1 h1).1; simp at this; omega
        apply bef_at hk2 hki
        have : (ops.map (fun o => sk X o.op)).getD k .pure = .alloc := by
          have hkr : tl[k]? = some r := by rw [htl, List.getElem?_append_left (List.getElem?_eq_some_iff.1 h1).1]; exact h1
          exact (pmk k r b hkr h2).1
        rw [this]; rfl
      rw [hh, readOp_congr hoe, q7]
      exact q8
  rw [hrd]
  simp only [cond_true]
  rw [p3]
  dsimp only
  rw [nble, decide_eq_true hle]
  simp only [cond_true]
  rw [← p4]
end
end GX
/- GX: reasoning about runs: W_drawnF where the last operations may write to the told blocks. -/


namespace GX
noncomputable section
open Go
def WY (X : X) (n : Nat) (all : List Oper) (z : Nat) (D : List FctQ) (os : List Oper) (i : Nat) (ks : List Kt) (Q : Ex → Env → St → Prop) (l : L) (S : St) : Prop :=
  ∀ e, Ag l e → ∃ f e' S', RunY X (exec X f) n all z D os i e S e' S' ∧ QK X n ks Q .nor e' S'
section
variable {X : X} {n : Nat} {ks : List Kt} {Q : Ex → Env → St → Prop} {l : L} {S : St} {z : Nat} {D : List FctQ} {all os : List Oper} {o : Oper} {i : Nat}
theorem W_drawnY (z : Nat) (D : List FctQ) {id : Nat} {ops : Array Oper} (hD : ∀ f ∈ D, f.src = none ∧ f.id < S.n ∧ HQ S.h f) (hs : seqB X n ops.toList = true) (h : WY X n ops.toList z D ops.toList 0 ks Q l S) : W X n (.region id ops true) ks Q l S := by
  unfold W
  intro e he
  obtain ⟨f, e1, S1, h1, h2⟩ := h e he
  exact ⟨f + 1, .nor, e1, S1, by show step X (exec X f) n (.region id ops true) e S = _; unfold step; exact drawn_Y hD hs h1, h2⟩
theorem WY_nil (h : V X n .nor ks Q l S) : WY X n all z D [] i ks Q l S := by
  unfold V at h
  exact fun e he => ⟨0, e, S, ⟨rfl, rfl⟩, h e he⟩
theorem WY_pa {d : Nat} (hg : o.guard = none) (hd : o.dst = some d) (hn : Nat.blt d n = true) (hn' : Nat.blt n 1000001 = true) (hsk : isPA (sk X o.op) = true)
    (h : Ev X l S o.op fun v S' => WY X n all z D os (i + 1) ks Q ((d, v) :: l) S') : WY X n all z D (o :: os) i ks Q l S := by
  intro e he
  unfold Ev at h
  obtain ⟨f, v, S1, h1, h2, h3⟩ := h e he
  rw [nblt, decide_eq_true_eq] at hn hn'
  obtain ⟨g, e2, S2, h4, h5⟩ := h3 _ (he.put hn' hn)
  have hck := sk_ok h1
  refine ⟨max f g, e2, S2, .inl ⟨wanted_none hg, v, S1, e.put d v, [], oper_le (exec_le (Nat.le_max_left f g)) h1, ?_, h2, fun hc => ?_, fun hc _ => ?_, fun f hf => (by cases hf), by rw [List.append_nil]; exact RunY_le (exec_le (Nat.le_max_right f g)) h4⟩, h5⟩
  · rw [hd]; unfold setDst; dsimp only; rw [nblt, decide_eq_true hn]; rfl
  · rcases hck with hq | hq
    · rw [hq] at hc; cases hc
    · rw [hq] at hc; rw [hc] at hsk; cases hsk
  · rcases hck with hq | hq
    · rw [hq] at hc; cases hc
    · rw [hq] at hc
      exfalso
      cases hs : sk X o.op <;> rw [hs] at hc hsk <;> first | (cases hc; done) | (cases hsk; done)
/-- an operation that makes a block, which is told -/
theorem WY_al {d : Nat} (hg : o.guard = none) (hd : o.dst = some d) (hn : Nat.blt d n = true) (hn' : Nat.blt n 1000001 = true) (hcl : ∀ e, Ag l e → cls X e o.op = .alloc)
    (h : Ev X l S o.op fun v S' => ∃ x, S'.h.get S.n = some x ∧ S.n < S'.n ∧ WY X n all z (D ++ [⟨S.n, fun b => b = x, some i⟩]) os (i + 1) ks Q ((d, v) :: l) S') : WY X n all z D (o :: os) i ks Q l S := by
  intro e he
  unfold Ev at h
  obtain ⟨f, v, S1, h1, h2, x, hx, hlt, h3⟩ := h e he
  rw [nblt, decide_eq_true_eq] at hn hn'
  obtain ⟨g, e2, S2, h4, h5⟩ := h3 _ (he.put hn' hn)
  have hc0 := hcl e he
  refine ⟨max f g, e2, S2, .inl ⟨wanted_none hg, v, S1, e.put d v, [⟨S.n, fun b => b = x, some i⟩], oper_le (exec_le (Nat.le_max_left f g)) h1, ?_, h2, fun hc => (by rw [hc0] at hc; cases hc), fun hc _ => (by rw [hc0] at hc; cases hc), fun f hf => ?_, RunY_le (exec_le (Nat.le_max_right f g)) h4⟩, h5⟩
  · rw [hd]; unfold setDst; dsimp only; rw [nblt, decide_eq_true hn]; rfl
  · rw [List.mem_singleton] at hf; subst hf
    exact ⟨rfl, hlt, ⟨x, hx, rfl⟩, .inr ⟨hc0, rfl⟩⟩
/-- a read that is ordered with all loud operations -/
theorem WY_rs {d : Nat} (hg : o.guard = none) (hd : o.dst = some d) (hn : Nat.blt d n = true) (hn' : Nat.blt n 1000001 = true) (hsk : isLC (sk X o.op) = false) (hst : rdStat (masks all []) (all.map (fun o => sk X o.op)) i = true)
    (h : Ev X l S o.op fun v S' => WY X n all z D os (i + 1) ks Q ((d, v) :: l) S') : WY X n all z D (o :: os) i ks Q l S := by
  intro e he
  unfold Ev at h
  obtain ⟨f, v, S1, h1, h2, h3⟩ := h e he
  rw [nblt, decide_eq_true_eq] at hn hn'
  obtain ⟨g, e2, S2, h4, h5⟩ := h3 _ (he.put hn' hn)
  have hck := sk_ok h1
  refine ⟨max f g, e2, S2, .inl ⟨wanted_none hg, v, S1, e.put d v, [], oper_le (exec_le (Nat.le_max_left f g)) h1, ?_, h2, fun _ => .inl hst, fun hc _ => ?_, fun f hf => (by cases hf), by rw [List.append_nil]; exact RunY_le (exec_le (Nat.le_max_right f g)) h4⟩, h5⟩
  · rw [hd]; unfold setDst; dsimp only; rw [nblt, decide_eq_true hn]; rfl
  · rcases hck with hq | hq
    · rw [hq] at hc; cases hc
    · rw [hq, hsk] at hc; cases hc
/-- a read that looks at told blocks alone -/
theorem WY_rf {d : Nat} {v : AV} (hzb : ZB all z i = true) (hg : o.guard = none) (hd : o.dst = some d) (hn : Nat.blt d n = true) (hn' : Nat.blt n 1000001 = true) (hS : ∀ f ∈ D, HQ S.h f)
    (hfp : ∀ e, Ag l e → cls X e o.op = .read ∧ FPDQ X D (masks all []) i e o.op v) (hvv : veq v v = true) (h : WY X n all z D os (i + 1) ks Q ((d, v) :: l) S) : WY X n all z D (o :: os) i ks Q l S := by
  intro e he
  obtain ⟨hc, hf⟩ := hfp e he
  rw [nblt, decide_eq_true_eq] at hn hn'
  obtain ⟨g, e2, S2, h4, h5⟩ := h _ (he.put hn' hn)
  refine ⟨g, e2, S2, .inl ⟨wanted_none hg, v, S, e.put d v, [], ?_, ?_, by rw [hc]; exact hvv, fun _ => .inr ⟨hzb, hf⟩, fun hl _ => (by rw [hc] at hl; cases hl), fun f hf => (by cases hf), by rw [List.append_nil]; exact h4⟩, h5⟩
  · unfold oper; rw [hc]; dsimp only; rw [hf S.h (fun f h1 _ => hS f h1)]
  · rw [hd]; unfold setDst; dsimp only; rw [nblt, decide_eq_true hn]; rfl
/-- a loud operation, or a call, that leaves the told blocks alone, and may tell more -/
theorem WY_ld {d : Nat} (hg : o.guard = none) (hd : o.dst = some d) (hn : Nat.blt d n = true) (hn' : Nat.blt n 1000001 = true) (hcl : ∀ e, Ag l e → isLC (cls X e o.op) = true)
    (h : Ev X l S o.op fun v S' => (Nat.blt i z = true → ∀ f ∈ D, HQ S'.h f) ∧ ∃ N : List FctQ, (∀ f ∈ N, f.src = some i ∧ f.id < S'.n ∧ HQ S'.h f) ∧ WY X n all z (D ++ N) os (i + 1) ks Q ((d, v) :: l) S') : WY X n all z D (o :: os) i ks Q l S := by
  intro e he
  unfold Ev at h
  obtain ⟨f, v, S1, h1, h2, hB, N, hN, h3⟩ := h e he
  rw [nblt, decide_eq_true_eq] at hn hn'
  obtain ⟨g, e2, S2, h4, h5⟩ := h3 _ (he.put hn' hn)
  have hc0 := hcl e he
  refine ⟨max f g, e2, S2, .inl ⟨wanted_none hg, v, S1, e.put d v, N, oper_le (exec_le (Nat.le_max_left f g)) h1, ?_, h2, fun hc => ?_, fun _ hz => hB (by rw [nblt]; exact decide_eq_true hz), fun f hf => ⟨(hN f hf).1, (hN f hf).2.1, (hN f hf).2.2, .inl hc0⟩, RunY_le (exec_le (Nat.le_max_right f g)) h4⟩, h5⟩
  · rw [hd]; unfold setDst; dsimp only; rw [nblt, decide_eq_true hn]; rfl
  · rw [hc] at hc0; cases hc0
theorem WY_ld0 (hg : o.guard = none) (hd : o.dst = none) (hcl : ∀ e, Ag l e → isLC (cls X e o.op) = true)
    (h : Ev X l S o.op fun _ S' => (Nat.blt i z = true → ∀ f ∈ D, HQ S'.h f) ∧ ∃ N : List FctQ, (∀ f ∈ N, f.src = some i ∧ f.id < S'.n ∧ HQ S'.h f) ∧ WY X n all z (D ++ N) os (i + 1) ks Q l S') : WY X n all z D (o :: os) i ks Q l S := by
  intro e he
  unfold Ev at h
  obtain ⟨f, v, S1, h1, h2, hB, N, hN, h3⟩ := h e he
  obtain ⟨g, e2, S2, h4, h5⟩ := h3 _ he
  have hc0 := hcl e he
  refine ⟨max f g, e2, S2, .inl ⟨wanted_none hg, v, S1, e, N, oper_le (exec_le (Nat.le_max_left f g)) h1, ?_, h2, fun hc => ?_, fun _ hz => hB (by rw [nblt]; exact decide_eq_true hz), fun f hf => ⟨(hN f hf).1, (hN f hf).2.1, (hN f hf).2.2, .inl hc0⟩, RunY_le (exec_le (Nat.le_max_right f g)) h4⟩, h5⟩
  · rw [hd]; rfl
  · rw [hc] at hc0; cases hc0
theorem WY_guard {j d0 : Nat} {want : Bool} {p : Oper} {c : Bool} {d : Nat} (hg : o.guard = some (j, want)) (hp : all[j]? = some p) (hd0 : p.dst = some d0) (hl : lk l d0 = some (.bool c)) (hd : o.dst = some d) (hn : Nat.blt d n = true) (hn' : Nat.blt n 1000001 = true)
    (h1 : c = want → WY X n all z D ({ o with guard := none } :: os) i ks Q ((d0, .bool want) :: l) S) (h2 : c = (!want) → WY X n all z D os (i + 1) ks Q ((d, .tup []) :: (d0, .bool (!want)) :: l) S) : WY X n all z D (o :: os) i ks Q l S := by
  intro e he
  rw [nblt, decide_eq_true_eq] at hn hn'
  have hat : e.at d0 = .bool c := he d0 _ hl
  have hag : ∀ b, c = b → Ag ((d0, .bool b) :: l) e := by
    intro b hb t v ht
    unfold lk at ht
    rw [nbeq, cond_dec] at ht
    by_cases hh : d0 = t
    · subst hh; rw [if_pos rfl] at ht; cases ht; rw [hat, hb]
    · rw [if_neg hh] at ht; exact he t v ht
  have hw : wanted all e o = (c == want) := by unfold wanted; rw [hg]; dsimp only; rw [hp]; dsimp only; rw [hd0]; dsimp only; rw [hat]
  by_cases hc : c = want
  · obtain ⟨f, e2, S2, h3, h4⟩ := h1 hc e (hag want hc)
    refine ⟨f, e2, S2, ?_, h4⟩
    have hw' : wanted all e o = true := by rw [hw, hc]; cases want <;> rfl
    unfold RunY at h3 ⊢
    rcases h3 with ⟨_, h3⟩ | ⟨h3, _⟩
    · exact .inl ⟨hw', h3⟩
    · rw [wanted_none rfl] at h3; cases h3
  · have hc' : c = (!want) := by cases c <;> cases want <;> simp_all
    obtain ⟨f, e2, S2, h3, h4⟩ := h2 hc' _ ((hag _ hc').put hn' hn)
    refine ⟨f, e2, S2, ?_, h4⟩
    have hw' : wanted all e o = false := by rw [hw, hc']; cases want <;> rfl
    refine .inr ⟨hw', e.put d (.tup []), ?_, h3⟩
    rw [hd]; unfold setDst; dsimp only; rw [nblt, decide_eq_true hn]; rfl
theorem WY_guard_dt {j d0 : Nat} {q : Oper} {p : Prop} [Decidable p] {d : Nat} (hg : o.guard = some (j, true)) (hp : all[j]? = some q) (hd0 : q.dst = some d0) (hl : lk l d0 = some (.bool (decide p))) (hd : o.dst = some d) (hn : Nat.blt d n = true) (hn' : Nat.blt n 1000001 = true)
    (h1 : p → WY X n all z D ({ o with guard := none } :: os) i ks Q ((d0, .bool true) :: l) S) (h2 : ¬ p → WY X n all z D os (i + 1) ks Q ((d, .tup []) :: (d0, .bool false) :: l) S) : WY X n all z D (o :: os) i ks Q l S :=
  WY_guard hg hp hd0 hl hd hn hn' (fun h => h1 (of_decide_eq_true h)) (fun h => h2 (of_decide_eq_false h))
theorem WY_guard_df {j d0 : Nat} {q : Oper} {p : Prop} [Decidable p] {d : Nat} (hg : o.guard = some (j, false)) (hp : all[j]? = some q) (hd0 : q.dst = some d0) (hl : lk l d0 = some (.bool (decide p))) (hd : o.dst = some d) (hn : Nat.blt d n = true) (hn' : Nat.blt n 1000001 = true)
    (h1 : ¬ p → WY X n all z D ({ o with guard := none } :: os) i ks Q ((d0, .bool false) :: l) S) (h2 : p → WY X n all z D os (i + 1) ks Q ((d, .tup []) :: (d0, .bool true) :: l) S) : WY X n all z D (o :: os) i ks Q l S :=
  WY_guard hg hp hd0 hl hd hn hn' (fun h => h1 (of_decide_eq_false h)) (fun h => h2 (of_decide_eq_true h))
theorem WY_guard_t {j d0 : Nat} {want : Bool} {p : Oper} {d : Nat} (hg : o.guard = some (j, want)) (hp : all[j]? = some p) (hd0 : p.dst = some d0) (hl : lk l d0 = some (.bool want)) (hd : o.dst = some d) (hn : Nat.blt d n = true) (hn' : Nat.blt n 1000001 = true)
    (h1 : WY X n all z D ({ o with guard := none } :: os) i ks Q l S) : WY X n all z D (o :: os) i ks Q l S := by
  refine WY_guard hg hp hd0 hl hd hn hn' (fun _ => ?_) (fun h => ?_)
  · intro e he
    exact h1 e (fun t v ht => he t v (by
      unfold lk; rw [nbeq, cond_dec]
      by_cases hh : d0 = t
      · subst hh; rw [hl] at ht; cases ht; rw [if_pos rfl]
      · rw [if_neg hh]; exact ht))
  · cases want <;> cases h
theorem WY_skip {d : Nat} (hd : o.dst = some d) (hn : Nat.blt d n = true) (hn' : Nat.blt n 1000001 = true) (hw : ∀ e, Ag l e → wanted all e o = false) (h2 : WY X n all z D os (i + 1) ks Q ((d, .tup []) :: l) S) : WY X n all z D (o :: os) i ks Q l S := by
  intro e he
  rw [nblt, decide_eq_true_eq] at hn hn'
  obtain ⟨f, e2, S2, h3, h4⟩ := h2 _ (he.put hn' hn)
  refine ⟨f, e2, S2, .inr ⟨hw e he, e.put d (.tup []), ?_, h3⟩, h4⟩
  rw [hd]; unfold setDst; dsimp only; rw [nblt, decide_eq_true hn]; rfl
theorem WY_guard_f {j d0 : Nat} {want c : Bool} {p : Oper} {d : Nat} (hg : o.guard = some (j, want)) (hp : all[j]? = some p) (hd0 : p.dst = some d0) (hl : lk l d0 = some (.bool c)) (hc : (c == want) = false) (hd : o.dst = some d) (hn : Nat.blt d n = true) (hn' : Nat.blt n 1000001 = true)
    (h2 : WY X n all z D os (i + 1) ks Q ((d, .tup []) :: l) S) : WY X n all z D (o :: os) i ks Q l S :=
  WY_skip hd hn hn' (fun e he => by unfold wanted; rw [hg]; dsimp only; rw [hp]; dsimp only; rw [hd0]; dsimp only; rw [he d0 _ hl]; exact hc) h2
theorem WY_guard_x {j d0 : Nat} {want : Bool} {p : Oper} {d : Nat} (hg : o.guard = some (j, want)) (hp : all[j]? = some p) (hd0 : p.dst = some d0) (hl : lk l d0 = some (.tup [])) (hd : o.dst = some d) (hn : Nat.blt d n = true) (hn' : Nat.blt n 1000001 = true)
    (h2 : WY X n all z D os (i + 1) ks Q ((d, .tup []) :: l) S) : WY X n all z D (o :: os) i ks Q l S :=
  WY_skip hd hn hn' (fun e he => by unfold wanted; rw [hg]; dsimp only; rw [hp]; dsimp only; rw [hd0]; dsimp only; rw [he d0 _ hl]) h2
end
end
end GX
/- loader: load. (NODRAWN) -/



namespace Go.Proofs.Ytjbpegggfacojaa
open GX
set_option maxHeartbeats 32000000
set_option maxRecDepth 100000
def MpB (b : AB) (m : List ((Int × Nm) × Int)) : Prop := ∃ es c, b = .map es c ∧ mpE keyK intV es m ∧ (es.map (·.2.2)).Nodup ∧ ∀ x ∈ es.map (·.2.2), x < c
def lmF (lk : Nat) (k : Int × Nm) (w : Int) : FctQ := ⟨lk, fun b => ∃ m, MpB b m ∧ (alook k m).getD 0 = w, none⟩
theorem hq_of {S : St} {lk : Nat} {k : Int × Nm} {m : List ((Int × Nm) × Int)} (h : Mp S lk keyK intV m) : HQ S.h (lmF lk k ((alook k m).getD 0)) := by
  obtain ⟨es, c, h1, h2⟩ := h.ex
  exact ⟨_, h1, m, ⟨es, c, rfl, h2⟩, rfl⟩
theorem look_int (o : Option Int) : lookV intV (.int .i64 0) o = intV (o.getD 0) := by cases o <;> rfl
theorem look_q {l : L} {x y : Go.Operand} {lk : Nat} {k : Int × Nm} {w : Int} {ms : List Nat} {i : Nat} (hx : od l x = some (.map lk)) (hy : od l y = some (keyK k)) : ∀ e, Ag l e → cls X1 e (.lookup 53 x y false) = .read ∧ FPDQ X1 [lmF lk k w] ms i e (.lookup 53 x y false) (.int .i64 w) := fun e he =>
  ⟨rfl, fun H hH => by
    obtain ⟨b, h1, m, ⟨es, c, rfl, h2⟩, h3⟩ := hH _ (List.mem_singleton.2 rfl) (fun j hj => by cases hj)
    have hm : Mp { h := H, n := 0 } lk keyK intV m := ⟨es, c, h1, h2⟩
    have := look_read (X := X1) (t := 53) (ok := false) (z := .int .i64 0) (od_ok he hx) (od_ok he hy) rfl rfl rfl rfl keyK_ok hm
    rw [this, look_int, h3]; rfl⟩
section
variable {X : X} {l : L} {S : St} {R : AV → St → Prop} {x y : Go.Operand} {t u : Nat} {k : Go.IntKind} {a b : Int}
theorem Ev_subw (hx : od l x = some (.int k a)) (hy : od l y = some (.int k b)) (hR : R (.int k (wrp k (a - b))) S) : Ev X l S (.binOp .sub t x y u) R :=
  Ev_ibin hx hy ⟨by simp, by simp⟩ (by unfold ibin; rfl) hR
end
theorem line_lt {st : LdS} (h : ParOK st) {n : Int} (hn : n < (st.ones.length : Int)) : (lineS st n).length ≤ (n + 1).toNat ∧ ∀ x ∈ lineS st n, 0 ≤ x ∧ x < (st.ones.length : Int) := by
  obtain ⟨h1, h2⟩ := up_len h st.ones.length n hn hn
  unfold lineS
  refine ⟨by rw [List.length_reverse]; exact h1, fun x hx => ?_⟩
  have := h2 x (List.mem_reverse.1 hx)
  omega
/-- what load is asked, and what it answers -/
structure LoadR (S : St) (p lk : Nat) (y : Lay) (st : LdS) (j : Nat) (nm : Nm) (lm : List ((Int × Nm) × Int)) (μ : Nat) (r : AV) (U : St) : Prop where
  ex : ∃ x e st' lm' y', r = .tup [fndV x, .int .i64 e] ∧ LoadO st ((j : Nat) : Int) nm lm x e st' lm' ∧ Good st' ∧ Sk st st' ∧ st'.prs.length ≤ st.prs.length + 200 * (μ + 1) ∧ Ls U p y' st' ∧ Mp U lk keyK intV lm' ∧ ∀ c, c < S.n → y'.tg c = y.tg c
  le : S.n ≤ U.n
  n : U.n ≤ S.n + 5000 * (μ + 1)
  fo : ∀ c, c < S.n → y.tg c = 5 → c ≠ lk → U.h.get c = S.h.get c
theorem load_runs : ∀ (μ : Nat) {S : St} {p lk : Nat} {y : Lay} {st : LdS} {j : Nat} {nm : Nm} {lm : List ((Int × Nm) × Int)} {K : List (Int × Nm)}, Ls S p y st → Good st → ParOK st → j < st.ones.length → Mp S lk keyK intV lm → y.tg lk = 5 → (∀ k v, alook k lm = some v → 0 ≤ v) →
    (∀ (m : Int) nm' o, 0 ≤ m → offS st m nm' = some o → (m, nm') ∈ K) → K.countP (fun k => !decide (0 < (alook k lm).getD 0)) ≤ μ → st.prs.length + 200 * (μ + 1) ≤ 100000000 → S.n + 5000 * (μ + 1) ≤ 500000000 →
    Runs X1 26 [.ptr p 0, .int .i64 ((j : Nat) : Int), .str nm, .map lk] S (LoadR S p lk y st j nm lm μ) := by
  intro μ
  induction μ using Nat.strongRecOn with
  | ind μ ih =>
  intro S p lk y st j nm lm K h hg hpar hj hlk htk hlm hK hμ hps hn
  have hs : st.ones.length ≤ 100 := by obtain ⟨rt, d, hk⟩ := hg; exact hk.small
  have hlkn := hlk.lt h.ok
  have hp := h.ok _ _ h.at_
  obtain ⟨tg0, htg0⟩ : ∃ tg0 : Nat → Nat, tg0 = fun c => if c < S.n then y.tg c else 5 := ⟨_, rfl⟩
  have tlo : ∀ c, c < S.n → tg0 c = y.tg c := fun c hc => by rw [htg0]; exact if_pos hc
  have thi : ∀ c, S.n ≤ c → tg0 c = 5 := fun c hc => by rw [htg0]; exact if_neg (by omega)
  refine Runs_fn (m := 155) (by kernel_rfl) Try.func26 rfl (by kernel_rfl) (by kernel_rfl) ?_
  repeat (
    first
      | refine W_seq ?_
      | refine W_region ?_
      | refine WO_dst rfl rfl (by kernel_rfl) (by kernel_rfl) ?_)
  refine Ev_box rfl h.ok (by omega) ?_
  intro S1 n1 ok1 q1 f1
  repeat (
    refine WO_dst rfl rfl (by kernel_rfl) (by kernel_rfl) ?_)
  refine Ev_box rfl ok1 (by omega) ?_
  intro S2 n2 ok2 q2 f2
  repeat (
    refine WO_dst rfl rfl (by kernel_rfl) (by kernel_rfl) ?_)
  refine Ev_alloc_ rfl ok2 (by omega) ?_
  intro S3 n3 ok3 q3 f3
  have f03 : ∀ c, c < S.n → S3.h.get c = S.h.get c := fun c hc => by rw [f3 c (by omega), f2 c (by omega), f1 c hc]
  have h3 : Ls S3 p { y with tg := tg0 } st := h.far ok3 f03 tg0 tlo
  have a4 : S3.h.get S.n = some (.cells 22 [.ptr p 0] false) := by rw [f3 _ (by omega), f2 _ (by omega)]; exact q1
  have a6 : S3.h.get S1.n = some (.cells 9 [.str nm] false) := by rw [f3 _ (by omega)]; exact q2
  have a8 : S3.h.get S2.n = some (.cells 70 [.int .i64 0, .int .i64 0] false) := q3
  obtain ⟨b, hb, ho, hone⟩ := h3.get hj
  have hjb : j < y.bs.length := by rw [h.len]; exact hj
  have hh : hasS st ((j : Nat) : Int) nm = alook nm st.ones[j].ldd := by unfold hasS; rw [Int.toNat_natCast, List.getElem?_eq_getElem hj]
  repeat (
    first
      | refine W_seq ?_
      | refine WO_nil ?_
      | refine V_seq ?_
      | refine WO_dst rfl rfl (by kernel_rfl) (by kernel_rfl) ?_
      | refine Ev_assign rfl ?_)
  refine W_drawnF [] (by simp) (by kernel_rfl) ?_
  repeat (
    first
      | refine WF_pa rfl rfl (by kernel_rfl) (by kernel_rfl) rfl ?_
      | refine WF_rs rfl rfl (by kernel_rfl) (by kernel_rfl) (by kernel_rfl) (by kernel_rfl) ?_
      | refine Ev_load rfl rfl rfl a4 rfl (veq_ptr _ _) ?_
      | refine Ev_load rfl rfl rfl a6 rfl (veq_str _) ?_
      | refine Ev_load rfl rfl rfl h3.at_ rfl h3.l.rd.self ?_
      | (refine Ev_indexAddr_rd rfl rfl rfl rfl rfl h3.l.rd hjb ?_; intro q hq)
      | refine Ev_load_pt rfl rfl rfl hq (ptr_get hb) (veq_ptr _ _) ?_
      | refine Ev_load rfl rfl rfl hone.cell rfl (veq_map _) ?_
      | (refine Ev_look2 (k := nm) (z := .agg [.int .i64 0, .int .i64 0]) rfl rfl rfl rfl rfl rfl strK_ok hone.ldd rfl (fun a _ => fnd_veq a) ?_; rw [look_fnd])
      | refine Ev_move rfl ?_
      | refine Ev_extract rfl rfl ?_
      | refine Ev_nilCheck rfl ?_
      | refine Ev_fieldAddr rfl rfl rfl rfl rfl rfl ?_)
  refine Ev_alloc_ rfl ok3 (by omega) ?_
  intro S4 n4 ok4 q4 f4
  repeat (
    refine W_seq ?_)
  refine WF_ld0 rfl rfl (fun _ _ => rfl) ?_
  refine Ev_store rfl rfl rfl rfl rfl q4 (by show 0 + 2 ≤ 2; decide) (by omega) ?_
  intro S5 n5 q5 f5
  have ok5 : Sok S5 := sok_upd ok4 (by omega) n5 q5 f5
  have f35 : ∀ c, c < S3.n → S5.h.get c = S3.h.get c := fun c hc => by rw [f5 c (by omega), f4 c hc]
  have f05 : ∀ c, c < S.n → S5.h.get c = S.h.get c := fun c hc => by rw [f35 c (by omega), f03 c hc]
  have a4 : S5.h.get S.n = some (.cells 22 [.ptr p 0] false) := by rw [f35 _ (by omega)]; exact a4
  have a6 : S5.h.get S1.n = some (.cells 9 [.str nm] false) := by rw [f35 _ (by omega)]; exact a6
  have a8 : S5.h.get S2.n = some (.cells 70 [.int .i64 0, .int .i64 0] false) := by rw [f35 _ (by omega)]; exact a8
  refine ⟨by simp, [], by simp, ?_⟩
  cases hA : alook nm st.ones[j].ldd with
  | some v =>
    have q5 : S5.h.get S3.n = some (.cells 70 [.int .i64 v.1, .int .i64 v.2] false) := by rw [hA] at q5; exact q5
    repeat (
      first
        | refine WF_nil ?_
        | refine WF_pa rfl rfl (by kernel_rfl) (by kernel_rfl) rfl ?_
        | refine W_seq ?_
        | refine WO_nil ?_
        | refine V_seq ?_
        | refine W_region ?_
        | refine W_cond_t rfl ?_
        | refine WO_dst rfl rfl (by kernel_rfl) (by kernel_rfl) ?_
        | refine Ev_move rfl ?_
        | refine Ev_assign rfl ?_)
    repeat (
      refine W_seq ?_)
    refine Ev_load_agg (ds := [.int .i64 v.1, .int .i64 v.2]) rfl rfl rfl q5 (by show 0 + 2 ≤ 2; decide) rfl (by simp [veqs, veq_int]) ?_
    repeat (
      refine WO_no rfl rfl ?_)
    refine Ev_store rfl rfl rfl rfl rfl a8 (by show 0 + 2 ≤ 2; decide) (by omega) ?_
    intro S6 n6 q6 f6
    have ok6 : Sok S6 := sok_upd ok5 (by omega) n6 q6 f6
    have f06 : ∀ c, c < S.n → S6.h.get c = S.h.get c := fun c hc => by rw [f6 c (by omega), f05 c hc]
    repeat (
      first
        | refine WO_nil ?_
        | refine V_seq ?_
        | refine W_ret ?_
        | refine V_ret ?_
        | refine WO_dst rfl rfl (by kernel_rfl) (by kernel_rfl) ?_
        | refine Ev_assign rfl ?_)
    refine V_done_ct rfl rfl (loadAt_f (x := v) q6) rfl ?_
    refine ⟨⟨v, 0, st, lm, _, rfl, .had _ _ _ _ v (by rw [hh, hA]), hg, .refl _, by omega, h.far ok6 f06 tg0 tlo, hlk.keep (f06 lk hlkn), tlo⟩, by omega, by omega, fun c hc _ _ => f06 c hc⟩
  | none =>
    have hno : hasS st ((j : Nat) : Int) nm = none := by rw [hh, hA]
    have h5 : Ls S5 p { y with tg := tg0 } st := h.far ok5 f05 tg0 tlo
    repeat (
      first
        | refine WF_nil ?_
        | refine WF_pa rfl rfl (by kernel_rfl) (by kernel_rfl) rfl ?_
        | refine W_seq ?_
        | refine WO_nil ?_
        | refine V_seq ?_
        | refine W_region ?_
        | refine W_skip ?_
        | refine W_cond_f rfl ?_
        | refine WO_dst rfl rfl (by kernel_rfl) (by kernel_rfl) ?_
        | refine Ev_move rfl ?_
        | refine Ev_assign rfl ?_)
    repeat (
      first
        | refine WO_dst rfl rfl (by kernel_rfl) (by kernel_rfl) ?_
        | refine Ev_load rfl rfl rfl a4 rfl (veq_ptr _ _) ?_
        | refine Ev_move rfl ?_)
    refine Ev_call rfl rfl ((line_runs h5 hpar (by omega) (by omega) hs (by omega)).mono ?_)
    rintro vl S6 - ⟨ow6, ok6, le6, n6, f6, b6⟩
    have f06 : ∀ c, c < S.n → S6.h.get c = S.h.get c := fun c hc => by rw [f6 c (by omega), f05 c hc]
    have h6 : Ls S6 p { y with tg := tg0 } st := h.far ok6 f06 tg0 tlo
    have a4 : S6.h.get S.n = some (.cells 22 [.ptr p 0] false) := by rw [f6 _ (by omega)]; exact a4
    have a6 : S6.h.get S1.n = some (.cells 9 [.str nm] false) := by rw [f6 _ (by omega)]; exact a6
    have a8 : S6.h.get S2.n = some (.cells 70 [.int .i64 0, .int .i64 0] false) := by rw [f6 _ (by omega)]; exact a8
    obtain ⟨hll, hlm2⟩ := line_lt hpar (n := ((j : Nat) : Int)) (by omega)
    repeat (
      first
        | refine W_seq ?_
        | refine WO_nil ?_
        | refine V_seq ?_
        | refine W_region ?_
        | refine WO_dst rfl rfl (by kernel_rfl) (by kernel_rfl) ?_
        | refine Ev_move rfl ?_
        | refine Ev_assign rfl ?_
        | refine Ev_makeFunc rfl rfl ?_)
    refine Ev_call rfl rfl ((index_runs h6 ⟨a4, a6⟩ ow6.rd hlm2 (by omega) (by omega)).mono ?_)
    rintro _ S7 - ⟨rfl, ok7, le7, n7, f7⟩
    have f07 : ∀ c, c < S.n → S7.h.get c = S.h.get c := fun c hc => by rw [f7 c (by omega), f06 c hc]
    have h7 : Ls S7 p { y with tg := tg0 } st := h.far ok7 f07 tg0 tlo
    have a4 : S7.h.get S.n = some (.cells 22 [.ptr p 0] false) := by rw [f7 _ (by omega)]; exact a4
    have a6 : S7.h.get S1.n = some (.cells 9 [.str nm] false) := by rw [f7 _ (by omega)]; exact a6
    have a8 : S7.h.get S2.n = some (.cells 70 [.int .i64 0, .int .i64 0] false) := by rw [f7 _ (by omega)]; exact a8
    have bl6 : ∀ c, blkOf vl = some c → S5.n ≤ c ∧ c < S6.n := fun c hc => ⟨b6 c hc, ow6.lt ok6 hc⟩
    have rd7 : Rd S7 vl 1 ((lineS st ((j : Nat) : Int)).map intV) (lineS st ((j : Nat) : Int)).length := ow6.rd.keep (fun c hc => f7 c (bl6 c hc).2)
    cases hfx : fidx (knowsS st nm) (lineS st ((j : Nat) : Int)) 0 with
    | none =>
      repeat (
        first
          | refine W_seq ?_
          | refine WO_nil ?_
          | refine V_seq ?_
          | refine W_region ?_
          | refine W_cond_t rfl ?_
          | refine WO_dst rfl rfl (by kernel_rfl) (by kernel_rfl) ?_
          | refine Ev_move rfl ?_
          | refine Ev_assign rfl ?_
          | refine Ev_lss rfl rfl ?_)
      refine Ev_build (v := .agg [.int .i64 0, .int .i64 0]) rfl rfl ?_
      repeat (
        refine WO_no rfl rfl ?_)
      refine Ev_store rfl rfl rfl rfl rfl a8 (by show 0 + 2 ≤ 2; decide) (by omega) ?_
      intro S8 n8 q8 f8
      have ok8 : Sok S8 := sok_upd ok7 (by omega) n8 q8 f8
      have f08 : ∀ c, c < S.n → S8.h.get c = S.h.get c := fun c hc => by rw [f8 c (by omega), f07 c hc]
      repeat (
        first
          | refine WO_nil ?_
          | refine V_seq ?_
          | refine W_ret ?_
          | refine V_ret ?_
          | refine WO_dst rfl rfl (by kernel_rfl) (by kernel_rfl) ?_
          | refine Ev_assign rfl ?_)
      refine V_done_ct rfl rfl (loadAt_f (x := (0, 0)) q8) rfl ?_
      refine ⟨⟨(0, 0), 22, st, lm, _, rfl, .none _ _ _ _ hno hfx, hg, .refl _, by omega, h.far ok8 f08 tg0 tlo, hlk.keep (f08 lk hlkn), tlo⟩, by omega, by omega, fun c hc _ _ => f08 c hc⟩
    | some i =>
      obtain ⟨_, jb', hgi, hkn⟩ := fidx_some hfx
      rw [Nat.sub_zero] at hgi
      have hil : i < (lineS st ((j : Nat) : Int)).length := (List.getElem?_eq_some_iff.1 hgi).1
      have hrg := hlm2 _ (List.mem_of_getElem? hgi)
      obtain ⟨jb, rfl⟩ : ∃ n : Nat, jb' = (n : Int) := ⟨jb'.toNat, by omega⟩
      have hjb1 : jb < st.ones.length := by omega
      obtain ⟨bb, hbb, hob, honeb⟩ := h7.get hjb1
      have hjbb : jb < y.bs.length := by rw [h.len]; exact hjb1
      have hhb : hasS st ((jb : Nat) : Int) nm = alook nm st.ones[jb].ldd := by unfold hasS; rw [Int.toNat_natCast, List.getElem?_eq_getElem hjb1]
      have hfb : offS st ((jb : Nat) : Int) nm = alook nm st.ones[jb].off := by unfold offS; rw [Int.toNat_natCast, List.getElem?_eq_getElem hjb1]
      repeat' (
        first
          | refine W_seq ?_
          | refine WO_nil ?_
          | refine V_seq ?_
          | refine W_region ?_
          | refine W_skip ?_
          | refine W_cond_f rfl ?_
          | refine WO_dst rfl rfl (by kernel_rfl) (by kernel_rfl) ?_
          | refine Ev_move rfl ?_
          | refine Ev_assign rfl ?_
          | refine Ev_lssN rfl rfl ?_)
      refine Ev_indexAddr_rd (i := i) rfl rfl rfl rfl rfl rd7 hil ?_
      intro a1 ha1
      repeat (
        refine WO_dst rfl rfl (by kernel_rfl) (by kernel_rfl) ?_)
      refine Ev_load_pt rfl rfl rfl ha1 (int_get hgi) (veq_int _ _) ?_
      repeat (
        first
          | refine W_seq ?_
          | refine WO_nil ?_
          | refine V_seq ?_
          | refine WO_dst rfl rfl (by kernel_rfl) (by kernel_rfl) ?_
          | refine Ev_assign rfl ?_)
      refine W_drawnF [] (by simp) (by kernel_rfl) ?_
      repeat (
        first
          | refine WF_pa rfl rfl (by kernel_rfl) (by kernel_rfl) rfl ?_
          | refine WF_rs rfl rfl (by kernel_rfl) (by kernel_rfl) (by kernel_rfl) (by kernel_rfl) ?_
          | refine Ev_load rfl rfl rfl a4 rfl (veq_ptr _ _) ?_
          | refine Ev_load rfl rfl rfl a6 rfl (veq_str _) ?_
          | refine Ev_load rfl rfl rfl h7.at_ rfl h7.l.rd.self ?_
          | (refine Ev_indexAddr_rd rfl rfl rfl rfl rfl h7.l.rd hjbb ?_; intro q2 hq2)
          | refine Ev_load_pt rfl rfl rfl hq2 (ptr_get hbb) (veq_ptr _ _) ?_
          | refine Ev_load rfl rfl rfl honeb.cell rfl (veq_map _) ?_
          | (refine Ev_look2 (k := nm) (z := .agg [.int .i64 0, .int .i64 0]) rfl rfl rfl rfl rfl rfl strK_ok honeb.ldd rfl (fun a _ => fnd_veq a) ?_; rw [look_fnd])
          | refine Ev_move rfl ?_
          | refine Ev_extract rfl rfl ?_
          | refine Ev_nilCheck rfl ?_
          | refine Ev_fieldAddr rfl rfl rfl rfl rfl rfl ?_)
      refine Ev_alloc_ rfl ok7 (by omega) ?_
      intro S8 n8 ok8 q8 f8
      repeat (
        refine W_seq ?_)
      refine WF_ld0 rfl rfl (fun _ _ => rfl) ?_
      refine Ev_store rfl rfl rfl rfl rfl q8 (by show 0 + 2 ≤ 2; decide) (by omega) ?_
      intro S9 n9 q9 f9
      have ok9 : Sok S9 := sok_upd ok8 (by omega) n9 q9 f9
      have f79 : ∀ c, c < S7.n → S9.h.get c = S7.h.get c := fun c hc => by rw [f9 c (by omega), f8 c hc]
      have f09 : ∀ c, c < S.n → S9.h.get c = S.h.get c := fun c hc => by rw [f79 c (by omega), f07 c hc]
      have h9 : Ls S9 p { y with tg := tg0 } st := h.far ok9 f09 tg0 tlo
      have a4 : S9.h.get S.n = some (.cells 22 [.ptr p 0] false) := by rw [f79 _ (by omega)]; exact a4
      have a6 : S9.h.get S1.n = some (.cells 9 [.str nm] false) := by rw [f79 _ (by omega)]; exact a6
      have a8 : S9.h.get S2.n = some (.cells 70 [.int .i64 0, .int .i64 0] false) := by rw [f79 _ (by omega)]; exact a8
      have rd9 : Rd S9 vl 1 ((lineS st ((j : Nat) : Int)).map intV) (lineS st ((j : Nat) : Int)).length := rd7.keep (fun c hc => f79 c (by have := bl6 c hc; omega))
      have lk9 : Mp S9 lk keyK intV lm := hlk.keep (f09 lk hlkn)
      refine ⟨by simp, [], by simp, ?_⟩
      repeat (
        first
          | refine WF_nil ?_
          | refine WF_pa rfl rfl (by kernel_rfl) (by kernel_rfl) rfl ?_
          | refine W_seq ?_
          | refine WO_nil ?_
          | refine V_seq ?_
          | refine W_region ?_
          | refine WO_dst rfl rfl (by kernel_rfl) (by kernel_rfl) ?_
          | refine Ev_move rfl ?_
          | refine Ev_assign rfl ?_
          | refine Ev_notb rfl ?_)
      repeat' (
        refine W_seq ?_)
      refine W_cut2 (fun l' U => ∃ (st1 : LdS) (y1 : Lay) (lm1 : List ((Int × Nm) × Int)) (x : Int × Int) (z8 : List AV), Ls U p y1 st1 ∧ Good st1 ∧ Sk st st1 ∧ st1.prs.length ≤ st.prs.length + 200 * μ ∧ S9.n ≤ U.n ∧ U.n ≤ S9.n + 5000 * μ + 10 ∧ (∀ c, c < S9.n → y1.tg c = tg0 c) ∧ (∀ c, c < S.n → y.tg c = 5 → c ≠ lk → U.h.get c = S.h.get c) ∧ Mp U lk keyK intV lm1 ∧
        U.h.get S.n = some (.cells 22 [.ptr p 0] false) ∧ U.h.get S1.n = some (.cells 9 [.str nm] false) ∧ (z8.length = 2 ∧ U.h.get S2.n = some (.cells 70 z8 false)) ∧ U.h.get S7.n = some (.cells 70 [.int .i64 x.1, .int .i64 x.2] false) ∧ (∀ c, blkOf vl = some c → U.h.get c = S9.h.get c) ∧
        sub [(1, .int .i64 ((j : Nat) : Int)), (4, .ptr S.n 0), (6, .ptr S1.n 0), (8, .ptr S2.n 0), (12, vl), (13, .int .i64 ((i : Nat) : Int)), (15, .ptr S7.n 0)] l' ∧
        ∀ e st', SetsX nm x st1 ((lineS st ((j : Nat) : Int)).drop i) e st' → LoadO st ((j : Nat) : Int) nm lm (if e = 0 then (hasS st' ((j : Nat) : Int) nm).getD (0, 0) else (0, 0)) e st' lm1) ?_ ?_
      · cases hB : alook nm st.ones[jb].ldd with
        | some v =>
          have q9 : S9.h.get S7.n = some (.cells 70 [.int .i64 v.1, .int .i64 v.2] false) := by rw [hB] at q9; exact q9
          repeat (
            first
              | refine W_skip ?_
              | refine W_cond_f rfl ?_)
          exact V_mid2 ⟨st, { y with tg := tg0 }, lm, v, _, h9, hg, .refl _, by omega, Nat.le_refl _, by omega, fun _ _ => rfl, fun c h1 _ _ => f09 c h1, lk9, a4, a6, ⟨rfl, a8⟩, q9, fun _ _ => rfl, ⟨rfl, rfl, rfl, rfl, rfl, rfl, rfl, trivial⟩, fun e st' hs' => .done _ _ _ _ i _ v e st' hno hfx hgi (by rw [hhb, hB]) hs'⟩
        | none =>
          have hx0 : hasS st ((jb : Nat) : Int) nm = none := by rw [hhb, hB]
          obtain ⟨o, hoff⟩ : ∃ o, alook nm st.ones[jb].off = some o := by
            unfold knowsS at hkn
            rw [hx0, hfb] at hkn
            cases h : alook nm st.ones[jb].off with
            | some o => exact ⟨o, rfl⟩
            | none => rw [h] at hkn; cases hkn
          have hoS : offS st ((jb : Nat) : Int) nm = some o := by rw [hfb, hoff]
          obtain ⟨w0, hw0⟩ : ∃ w0, w0 = (alook (((jb : Nat) : Int), nm) lm).getD 0 := ⟨_, rfl⟩
          have hw0p : 0 ≤ w0 := by
            rw [hw0]
            cases h : alook (((jb : Nat) : Int), nm) lm with
            | some v => exact hlm _ v h
            | none => exact Int.le_refl _
          have q9' : ∃ z1 z2, S9.h.get S7.n = some (.cells 70 [z1, z2] false) := ⟨_, _, q9⟩
          obtain ⟨z1, z2, q9⟩ := q9'
          repeat (
            first
              | refine W_seq ?_
              | refine W_region ?_
              | refine W_cond_t rfl ?_
              | refine WO_dst rfl rfl (by kernel_rfl) (by kernel_rfl) ?_
              | refine Ev_load rfl rfl rfl a6 rfl (veq_str _) ?_
              | refine Ev_move rfl ?_)
          refine Ev_build (v := .agg [.int .i64 ((jb : Nat) : Int), .str nm]) rfl rfl ?_
          repeat (
            refine WO_dst rfl rfl (by kernel_rfl) (by kernel_rfl) ?_)
          refine Ev_look (k := (((jb : Nat) : Int), nm)) (z := .int .i64 0) rfl rfl rfl rfl rfl rfl keyK_ok lk9 (veq_int _ _) (fun a _ => veq_int _ _) ?_
          rw [look_int, ← hw0]
          repeat' (
            first
              | refine W_seq ?_
              | refine WO_nil ?_
              | refine V_seq ?_
              | refine W_region ?_
              | refine W_skip ?_
              | refine WO_dst rfl rfl (by kernel_rfl) (by kernel_rfl) ?_
              | refine Ev_gtr rfl rfl ?_
              | (refine W_cond rfl (fun hc => ?_) (fun hc => ?_) <;> (try dsimp only at hc) <;> try (exfalso; first | omega | exact hc rfl)))
          · have hc : 0 < w0 := by assumption
            refine Ev_build (v := .agg [.int .i64 0, .int .i64 0]) rfl rfl ?_
            repeat (
              refine WO_no rfl rfl ?_)
            refine Ev_store rfl rfl rfl rfl rfl a8 (by show 0 + 2 ≤ 2; decide) (by omega) ?_
            intro S10 n10 q10 f10
            have ok10 : Sok S10 := sok_upd ok9 (by omega) n10 q10 f10
            have f010 : ∀ c, c < S.n → S10.h.get c = S.h.get c := fun c hc => by rw [f10 c (by omega), f09 c hc]
            repeat (
              first
                | refine WO_nil ?_
                | refine V_seq ?_
                | refine W_ret ?_
                | refine V_ret ?_
                | refine WO_dst rfl rfl (by kernel_rfl) (by kernel_rfl) ?_
                | refine Ev_assign rfl ?_)
            refine V_ret2 (V_done_ct rfl rfl (loadAt_f (x := (0, 0)) q10) rfl ?_)
            refine ⟨⟨(0, 0), 24, st, lm, _, rfl, .circ _ _ _ _ i _ hno hfx hgi hx0 (by rw [← hw0]; exact hc), hg, .refl _, by omega, h.far ok10 f010 tg0 tlo, hlk.keep (f010 lk hlkn), tlo⟩, by omega, by omega, fun c hc _ _ => f010 c hc⟩
          · have hnc : ¬ 0 < w0 := by assumption
            have hw00 : w0 = 0 := by omega
            have hD9 : ∀ f ∈ [lmF lk (((jb : Nat) : Int), nm) w0], HQ S9.h f := by
              intro f hf; rw [List.mem_singleton] at hf; subst hf; rw [hw0]; exact hq_of lk9
            refine W_drawnY 8 [lmF lk (((jb : Nat) : Int), nm) w0] (fun f hf => ?_) (by kernel_rfl) ?_
            · rw [List.mem_singleton] at hf; subst hf
              exact ⟨rfl, by show lk < S9.n; omega, hD9 _ (List.mem_singleton.2 rfl)⟩
            refine WY_pa rfl rfl (by kernel_rfl) (by kernel_rfl) rfl ?_
            refine Ev_move rfl ?_
            refine WY_pa rfl rfl (by kernel_rfl) (by kernel_rfl) rfl ?_
            refine Ev_move rfl ?_
            refine WY_rs rfl rfl (by kernel_rfl) (by kernel_rfl) (by kernel_rfl) (by kernel_rfl) ?_
            refine Ev_load rfl rfl rfl a6 rfl (veq_str _) ?_
            refine WY_pa rfl rfl (by kernel_rfl) (by kernel_rfl) rfl ?_
            refine Ev_build (v := .agg [.int .i64 ((jb : Nat) : Int), .str nm]) rfl rfl ?_
            refine WY_rf (by kernel_rfl) rfl rfl (by kernel_rfl) (by kernel_rfl) hD9 (look_q (k := (((jb : Nat) : Int), nm)) rfl rfl) (veq_int _ _) ?_
            refine WY_pa rfl rfl (by kernel_rfl) (by kernel_rfl) rfl ?_
            refine Ev_add rfl rfl (by simp only [inR]; omega) ?_
            refine WY_ld rfl rfl (by kernel_rfl) (by kernel_rfl) (fun _ _ => rfl) ?_
            refine Ev_mapEntry (k := (((jb : Nat) : Int), nm)) (vv := intV) 0 rfl rfl rfl rfl rfl rfl rfl keyK_ok lk9 (by omega) ?_
            intro S10 v10 st10 n10 e10 m10 f10
            rw [← hw0] at m10
            have hD10 : ∀ f ∈ [lmF lk (((jb : Nat) : Int), nm) w0], HQ S10.h f := by
              intro f hf; rw [List.mem_singleton] at hf; subst hf
              have := hq_of (k := (((jb : Nat) : Int), nm)) m10
              rw [alook_aput, if_pos rfl] at this
              exact this
            refine ⟨fun _ => hD10, [], by simp, ?_⟩
            refine WY_pa rfl rfl (by kernel_rfl) (by kernel_rfl) rfl ?_
            refine Ev_extract rfl rfl ?_
            refine WY_ld0 rfl rfl (fun _ _ => rfl) ?_
            refine Ev_entryStore (w0 + 1) rfl rfl rfl e10 (by omega) ?_
            intro S11 n11 m11 f11
            refine ⟨fun h => absurd h (by decide), [], by simp, ?_⟩
            refine WY_nil ?_
            have tk0 : tg0 lk = 5 := by rw [tlo lk hlkn]; exact htk
            have ok10 : Sok S10 := mp_sok m10 ok9 (by omega) n10 f10
            have ok11 : Sok S11 := mp_sok m11 ok10 (by omega) n11 f11
            have f911 : ∀ c, c ≠ lk → S11.h.get c = S9.h.get c := fun c hc => by rw [f11 c hc, f10 c hc]
            have h11 : Ls S11 p { y with tg := tg0 } st := h9.other ok11 (fun c _ hc => f911 c (fun e => hc (by rw [e]; exact tk0)))
            have b4 : S11.h.get S.n = some (.cells 22 [.ptr p 0] false) := by rw [f911 _ (by omega)]; exact a4
            have b6' : S11.h.get S1.n = some (.cells 9 [.str nm] false) := by rw [f911 _ (by omega)]; exact a6
            have honeb11 : OneAt S11 bb st.ones[jb] := h11.one jb bb _ hbb hob
            repeat (
              first
                | refine W_seq ?_
                | refine V_seq ?_)
            refine W_drawnF [] (by simp) (by kernel_rfl) ?_
            repeat (
              first
                | refine WF_pa rfl rfl (by kernel_rfl) (by kernel_rfl) rfl ?_
                | refine WF_rs rfl rfl (by kernel_rfl) (by kernel_rfl) (by kernel_rfl) (by kernel_rfl) ?_
                | refine Ev_load rfl rfl rfl b4 rfl (veq_ptr _ _) ?_
                | refine Ev_load rfl rfl rfl b6' rfl (veq_str _) ?_
                | refine Ev_load rfl rfl rfl h11.at_ rfl h11.l.rd.self ?_
                | (refine Ev_indexAddr_rd rfl rfl rfl rfl rfl h11.l.rd hjbb ?_; intro q3 hq3)
                | refine Ev_load_pt rfl rfl rfl hq3 (ptr_get hbb) (veq_ptr _ _) ?_
                | refine Ev_load rfl rfl rfl honeb11.cell rfl (veq_map _) ?_
                | (refine Ev_look (k := nm) (z := .agg [.str [], .int .i64 0]) rfl rfl rfl rfl rfl rfl strK_ok honeb11.off rfl (fun a _ => off_veq a) ?_; rw [look_off, hoff])
                | refine Ev_move rfl ?_
                | refine Ev_nilCheck rfl ?_
                | refine Ev_fieldAddr rfl rfl rfl rfl rfl rfl ?_)
            refine Ev_alloc_ rfl ok11 (by omega) ?_
            intro S12 n12 ok12 q12 f12
            repeat (
              refine W_seq ?_)
            refine WF_ld0 rfl rfl (fun _ _ => rfl) ?_
            refine Ev_store rfl rfl rfl rfl rfl q12 (by show 0 + 2 ≤ 2; decide) (by omega) ?_
            intro S13 n13 q13 f13
            have q13 : S13.h.get S11.n = some (.cells 62 [.str o.1, .int .i64 o.2] false) := q13
            have ok13 : Sok S13 := sok_upd ok12 (by omega) n13 q13 f13
            have f1113 : ∀ c, c < S11.n → S13.h.get c = S11.h.get c := fun c hc => by rw [f13 c (by omega), f12 c hc]
            have f913 : ∀ c, c < S9.n → c ≠ lk → S13.h.get c = S9.h.get c := fun c h1 h2 => by rw [f1113 c (by omega), f911 c h2]
            have h13 : Ls S13 p { y with tg := tg0 } st := h11.far ok13 f1113 tg0 (fun _ _ => rfl)
            have m13 : Mp S13 lk keyK intV (aput (((jb : Nat) : Int), nm) (w0 + 1) lm) := m11.keep (f1113 lk (by omega))
            have a4 : S13.h.get S.n = some (.cells 22 [.ptr p 0] false) := by rw [f913 _ (by omega) (by omega)]; exact a4
            have a6 : S13.h.get S1.n = some (.cells 9 [.str nm] false) := by rw [f913 _ (by omega) (by omega)]; exact a6
            have a8 : S13.h.get S2.n = some (.cells 70 [.int .i64 0, .int .i64 0] false) := by rw [f913 _ (by omega) (by omega)]; exact a8
            have q9 : S13.h.get S7.n = some (.cells 70 [z1, z2] false) := by rw [f913 _ (by omega) (by omega)]; exact q9
            refine ⟨by simp, [], by simp, ?_⟩
            repeat (
              first
                | refine WF_nil ?_
                | refine W_seq ?_
                | refine V_seq ?_
                | refine W_region ?_
                | refine WO_dst rfl rfl (by kernel_rfl) (by kernel_rfl) ?_
                | refine Ev_fieldAddr rfl rfl rfl rfl rfl rfl ?_)
            repeat' (
              first
                | refine WO_nil ?_
                | refine V_seq ?_
                | refine WO_dst rfl rfl (by kernel_rfl) (by kernel_rfl) ?_
                | refine Ev_load rfl rfl rfl q13 rfl (veq_str _) ?_
                | refine Ev_sneq rfl rfl ?_)
            refine W_cut2 (fun l' V => ∃ (st1 : LdS) (y1 : Lay) (lm1 : List ((Int × Nm) × Int)), Ls V p y1 st1 ∧ Good st1 ∧ Sk st st1 ∧ st1.prs.length ≤ st.prs.length + 200 * μ ∧ S13.n ≤ V.n ∧ V.n ≤ S13.n + 5000 * μ + 1 ∧ (∀ c, c < S13.n → y1.tg c = tg0 c) ∧ (∀ c, c < S13.n → tg0 c = 5 → c ≠ lk → V.h.get c = S13.h.get c) ∧ Mp V lk keyK intV lm1 ∧
              sub [(1, .int .i64 ((j : Nat) : Int)), (3, .map lk), (4, .ptr S.n 0), (6, .ptr S1.n 0), (8, .ptr S2.n 0), (12, vl), (13, .int .i64 ((i : Nat) : Int)), (14, .int .i64 ((jb : Nat) : Int)), (15, .ptr S7.n 0), (17, .ptr S11.n 0)] l' ∧
              ∀ e st' lm', SetsX nm (o.2, ((jb : Nat) : Int)) st1 ((lineS st ((j : Nat) : Int)).drop i) e st' → LoadO st ((j : Nat) : Int) nm lm (if e = 0 then (hasS st' ((j : Nat) : Int) nm).getD (0, 0) else (0, 0)) e st' lm') ?_ ?_
            · repeat' (
                first
                  | refine W_seq ?_
                  | refine W_region ?_
                  | refine W_skip ?_
                  | refine WO_dst rfl rfl (by kernel_rfl) (by kernel_rfl) ?_
                  | (refine W_cond rfl (fun hc => ?_) (fun hc => ?_) <;> (try dsimp only at hc) <;> try (exfalso; first | omega | exact hc rfl)))
              · have hne : o.1 ≠ [] := by assumption
                have hkK := hK _ _ o (by omega) hoS
                have hcnt : K.countP (fun k => !decide (0 < (alook k (aput (((jb : Nat) : Int), nm) (w0 + 1) lm)).getD 0)) < K.countP (fun k => !decide (0 < (alook k lm).getD 0)) := by
                  refine countP_lt (k := (((jb : Nat) : Int), nm)) (fun q _ hq => ?_) hkK (by rw [← hw0, decide_eq_false hnc]; rfl) (by rw [alook_aput, if_pos rfl, decide_eq_true (by show 0 < w0 + 1; omega)]; rfl)
                  rw [alook_aput] at hq
                  by_cases e : q = (((jb : Nat) : Int), nm)
                  · rw [if_pos e, decide_eq_true (by show 0 < w0 + 1; omega)] at hq; cases hq
                  · rw [if_neg e] at hq; exact hq
                have hlm' : ∀ k v, alook k (aput (((jb : Nat) : Int), nm) (w0 + 1) lm) = some v → 0 ≤ v := by
                  intro k v hv
                  rw [alook_aput] at hv
                  by_cases e : k = (((jb : Nat) : Int), nm)
                  · rw [if_pos e] at hv; cases hv; omega
                  · rw [if_neg e] at hv; exact hlm k v hv
                repeat (
                  first
                    | refine WO_dst rfl rfl (by kernel_rfl) (by kernel_rfl) ?_
                    | refine Ev_load rfl rfl rfl a4 rfl (veq_ptr _ _) ?_
                    | refine Ev_load rfl rfl rfl q13 rfl (veq_str _) ?_
                    | refine Ev_move rfl ?_
                    | refine Ev_fieldAddr rfl rfl rfl rfl rfl rfl ?_)
                refine Ev_call rfl rfl ((ih (μ - 1) (by omega) h13 hg hpar hjb1 m13 tk0 hlm' hK (by omega) (by omega) (by omega)).mono ?_)
                rintro _ T1 - hR
                have r1 := hR.le
                have r2 := hR.n
                obtain ⟨x1, e1, st1, lm1, y1, rfl, hlo, hg1, hsk1, hpr1, hLs1, hmp1, htg1⟩ := hR.ex
                repeat (
                  first
                    | refine WO_dst rfl rfl (by kernel_rfl) (by kernel_rfl) ?_
                    | refine Ev_move rfl ?_
                    | refine Ev_extract rfl rfl ?_)
                refine Ev_alloc_ rfl hLs1.ok (by omega) ?_
                intro T2 tn2 tok2 tq2 tf2
                repeat (
                  refine WO_no rfl rfl ?_)
                refine Ev_store rfl rfl rfl rfl rfl tq2 (by show 0 + 2 ≤ 2; decide) (by omega) ?_
                intro T3 tn3 tq3 tf3
                have tok3 : Sok T3 := sok_upd tok2 (by omega) tn3 tq3 tf3
                have tf13 : ∀ c, c < T1.n → T3.h.get c = T1.h.get c := fun c hc => by rw [tf3 c (by omega), tf2 c hc]
                have hLs3 : Ls T3 p y1 st1 := hLs1.far tok3 tf13 y1.tg (fun _ _ => rfl)
                have hmp3 : Mp T3 lk keyK intV lm1 := hmp1.keep (tf13 lk (by omega))
                have hfo3 : ∀ c, c < S13.n → tg0 c = 5 → c ≠ lk → T3.h.get c = S13.h.get c := fun c h1 h2 h4 => by rw [tf13 c (by omega), hR.fo c h1 h2 h4]
                repeat' (
                  first
                    | refine W_seq ?_
                    | refine WO_nil ?_
                    | refine V_seq ?_
                    | refine W_region ?_
                    | refine W_skip ?_
                    | refine WO_dst rfl rfl (by kernel_rfl) (by kernel_rfl) ?_
                    | refine Ev_move rfl ?_
                    | refine Ev_assign rfl ?_
                    | refine Ev_neq rfl rfl ?_
                    | (refine W_cond rfl (fun hc => ?_) (fun hc => ?_) <;> (try dsimp only at hc) <;> try (exfalso; first | omega | exact hc rfl)))
                · have he : e1 ≠ 0 := by assumption
                  have t8 : T3.h.get S2.n = some (.cells 70 [.int .i64 0, .int .i64 0] false) := by rw [hfo3 _ (by omega) (thi _ (by omega)) (by omega)]; exact a8
                  refine Ev_build (v := .agg [.int .i64 0, .int .i64 0]) rfl rfl ?_
                  repeat (
                    first
                      | refine WO_dst rfl rfl (by kernel_rfl) (by kernel_rfl) ?_
                      | refine WO_no rfl rfl ?_
                      | refine Ev_move rfl ?_)
                  refine Ev_store rfl rfl rfl rfl rfl t8 (by show 0 + 2 ≤ 2; decide) (by omega) ?_
                  intro T4 tn4 tq4 tf4
                  have tok4 : Sok T4 := sok_upd tok3 (by omega) tn4 tq4 tf4
                  have ts2 : y1.tg S2.n = 5 := by rw [htg1 _ (by omega)]; exact thi _ (by omega)
                  repeat (
                    first
                      | refine WO_nil ?_
                      | refine V_seq ?_
                      | refine W_ret ?_
                      | refine WO_dst rfl rfl (by kernel_rfl) (by kernel_rfl) ?_
                      | refine Ev_assign rfl ?_)
                  refine V_ret2 (V_ret2 (V_done_ct rfl rfl (loadAt_f (x := (0, 0)) tq4) rfl ?_))
                  refine ⟨⟨(0, 0), e1, st1, lm1, y1, rfl, .sup _ _ _ _ i _ o x1 e1 st1 lm1 hno hfx hgi hx0 (by rw [← hw0]; exact hnc) hoS hne (by rw [← hw0]; exact hlo) he, hg1, hsk1, by omega, hLs3.other tok4 (fun c _ hc => tf4 c (fun e => hc (by rw [e]; exact ts2))), hmp3.keep (tf4 lk (by omega)), fun c hc => by rw [htg1 c (by omega)]; exact tlo c hc⟩, by omega, by omega, fun c h1 h2 h4 => ?_⟩
                  rw [tf4 c (by omega), hfo3 c (by omega) (by rw [tlo c h1]; exact h2) h4, f913 c (by omega) h4, f09 c h1]
                · have he : e1 = 0 := Classical.byContradiction (by assumption)
                  subst he
                  exact V_mid2 ⟨st1, y1, lm1, hLs3, hg1, hsk1, by omega, by omega, by omega, htg1, hfo3, hmp3, ⟨rfl, rfl, rfl, rfl, rfl, rfl, rfl, rfl, rfl, rfl, trivial⟩, fun e st' lm' hs' => .def1 _ _ _ _ i _ o x1 st1 lm1 e st' lm' hno hfx hgi hx0 (by rw [← hw0]; exact hnc) hoS hne (by rw [← hw0]; exact hlo) hs'⟩
              · have hne : o.1 = [] := Classical.byContradiction (by assumption)
                exact V_mid2 ⟨st, { y with tg := tg0 }, _, h13, hg, .refl _, by omega, Nat.le_refl _, by omega, fun _ _ => rfl, fun _ _ _ _ => rfl, m13, ⟨rfl, rfl, rfl, rfl, rfl, rfl, rfl, rfl, rfl, rfl, trivial⟩, fun e st' lm' hs' => .def0 _ _ _ _ i _ o e st' lm' hno hfx hgi hx0 (by rw [← hw0]; exact hnc) hoS hne hs'⟩
            · rintro l' V ⟨st1, y1, lm1, hV, hg1, hsk1, hpr1, hle1, hn1, htg1, hfo1, hmp1, hsub1, cont1⟩
              obtain ⟨w1, hw1⟩ : ∃ w1, w1 = (alook (((jb : Nat) : Int), nm) lm1).getD 0 := ⟨_, rfl⟩
              have v4 : V.h.get S.n = some (.cells 22 [.ptr p 0] false) := by rw [hfo1 _ (by omega) (thi _ (by omega)) (by omega)]; exact a4
              have v6 : V.h.get S1.n = some (.cells 9 [.str nm] false) := by rw [hfo1 _ (by omega) (thi _ (by omega)) (by omega)]; exact a6
              have v8 : V.h.get S2.n = some (.cells 70 [.int .i64 0, .int .i64 0] false) := by rw [hfo1 _ (by omega) (thi _ (by omega)) (by omega)]; exact a8
              have v15 : V.h.get S7.n = some (.cells 70 [z1, z2] false) := by rw [hfo1 _ (by omega) (thi _ (by omega)) (by omega)]; exact q9
              have v17 : V.h.get S11.n = some (.cells 62 [.str o.1, .int .i64 o.2] false) := by rw [hfo1 _ (by omega) (thi _ (by omega)) (by omega)]; exact q13
              have hDV : ∀ f ∈ [lmF lk (((jb : Nat) : Int), nm) w1], HQ V.h f := by
                intro f hf; rw [List.mem_singleton] at hf; subst hf; rw [hw1]; exact hq_of hmp1
              refine V_weak hsub1 ?_
              repeat (
                first
                  | refine W_seq ?_
                  | refine V_seq ?_)
              refine W_drawnY 8 [lmF lk (((jb : Nat) : Int), nm) w1] (fun f hf => ?_) (by kernel_rfl) ?_
              · rw [List.mem_singleton] at hf; subst hf
                exact ⟨rfl, by show lk < V.n; omega, hDV _ (List.mem_singleton.2 rfl)⟩
              refine WY_pa rfl rfl (by kernel_rfl) (by kernel_rfl) rfl ?_
              refine Ev_move rfl ?_
              refine WY_pa rfl rfl (by kernel_rfl) (by kernel_rfl) rfl ?_
              refine Ev_move rfl ?_
              refine WY_rs rfl rfl (by kernel_rfl) (by kernel_rfl) (by kernel_rfl) (by kernel_rfl) ?_
              refine Ev_load rfl rfl rfl v6 rfl (veq_str _) ?_
              refine WY_pa rfl rfl (by kernel_rfl) (by kernel_rfl) rfl ?_
              refine Ev_build (v := .agg [.int .i64 ((jb : Nat) : Int), .str nm]) rfl rfl ?_
              refine WY_rf (by kernel_rfl) rfl rfl (by kernel_rfl) (by kernel_rfl) hDV (look_q (k := (((jb : Nat) : Int), nm)) rfl rfl) (veq_int _ _) ?_
              refine WY_pa rfl rfl (by kernel_rfl) (by kernel_rfl) rfl ?_
              refine Ev_subw rfl rfl ?_
              refine WY_ld rfl rfl (by kernel_rfl) (by kernel_rfl) (fun _ _ => rfl) ?_
              refine Ev_mapEntry (k := (((jb : Nat) : Int), nm)) (vv := intV) 0 rfl rfl rfl rfl rfl rfl rfl keyK_ok hmp1 (by omega) ?_
              intro V1 v10 st10 n10 e10 m10 f10
              rw [← hw1] at m10
              have hD10 : ∀ f ∈ [lmF lk (((jb : Nat) : Int), nm) w1], HQ V1.h f := by
                intro f hf; rw [List.mem_singleton] at hf; subst hf
                have := hq_of (k := (((jb : Nat) : Int), nm)) m10
                rw [alook_aput, if_pos rfl] at this
                exact this
              refine ⟨fun _ => hD10, [], by simp, ?_⟩
              refine WY_pa rfl rfl (by kernel_rfl) (by kernel_rfl) rfl ?_
              refine Ev_extract rfl rfl ?_
              refine WY_ld0 rfl rfl (fun _ _ => rfl) ?_
              refine Ev_entryStore (wrp .i64 (w1 - 1)) rfl rfl rfl e10 (by omega) ?_
              intro V2 n2' m2' f2'
              refine ⟨fun h => absurd h (by decide), [], by simp, ?_⟩
              refine WY_nil ?_
              have okV1 : Sok V1 := mp_sok m10 hV.ok (by omega) n10 f10
              have okV2 : Sok V2 := mp_sok m2' okV1 (by omega) n2' f2'
              have fV2 : ∀ c, c ≠ lk → V2.h.get c = V.h.get c := fun c hc => by rw [f2' c hc, f10 c hc]
              have tk1 : y1.tg lk = 5 := by rw [htg1 lk (by omega)]; exact tk0
              have hV2 : Ls V2 p y1 st1 := hV.other okV2 (fun c _ hc => fV2 c (fun e => hc (by rw [e]; exact tk1)))
              have w17 : V2.h.get S11.n = some (.cells 62 [.str o.1, .int .i64 o.2] false) := by rw [fV2 _ (by omega)]; exact v17
              have w15 : V2.h.get S7.n = some (.cells 70 [z1, z2] false) := by rw [fV2 _ (by omega)]; exact v15
              repeat (
                first
                  | refine V_seq ?_
                  | refine W_region ?_
                  | refine WO_dst rfl rfl (by kernel_rfl) (by kernel_rfl) ?_
                  | refine Ev_load rfl rfl rfl w17 rfl (veq_int _ _) ?_
                  | refine Ev_move rfl ?_
                  | refine Ev_fieldAddr rfl rfl rfl rfl rfl rfl ?_)
              refine Ev_build (v := .agg [.int .i64 o.2, .int .i64 ((jb : Nat) : Int)]) rfl rfl ?_
              repeat (
                refine WO_no rfl rfl ?_)
              refine Ev_store rfl rfl rfl rfl rfl w15 (by show 0 + 2 ≤ 2; decide) (by omega) ?_
              intro V3 n3' q3' f3'
              have okV3 : Sok V3 := sok_upd okV2 (by omega) n3' q3' f3'
              have ts15 : y1.tg S7.n = 5 := by rw [htg1 _ (by omega)]; exact thi _ (by omega)
              have hV3 : Ls V3 p y1 st1 := hV2.other okV3 (fun c _ hc => f3' c (fun e => hc (by rw [e]; exact ts15)))
              have fV3 : ∀ c, c ≠ lk → c ≠ S7.n → V3.h.get c = V.h.get c := fun c h1 h2 => by rw [f3' c h2, fV2 c h1]
              repeat (
                refine WO_nil ?_)
              refine V_mid2 ⟨st1, y1, aput (((jb : Nat) : Int), nm) (wrp .i64 (w1 - 1)) lm1, (o.2, ((jb : Nat) : Int)), _, hV3, hg1, hsk1, hpr1, by omega, by omega, fun c hc => htg1 c (by omega), fun c h1 h2 h4 => ?_, m2'.keep (f3' lk (by omega)), by rw [fV3 _ (by omega) (by omega)]; exact v4, by rw [fV3 _ (by omega) (by omega)]; exact v6, ⟨rfl, by rw [fV3 _ (by omega) (by omega)]; exact v8⟩, q3', fun c hc => ?_, ⟨rfl, rfl, rfl, rfl, rfl, rfl, rfl, trivial⟩, fun e st' hs' => cont1 e st' _ hs'⟩
              · rw [fV3 c h4 (by omega), hfo1 c (by omega) (by rw [tlo c h1]; exact h2) h4, f913 c (by omega) h4, f09 c h1]
              · have := bl6 c hc
                rw [fV3 c (by omega) (by omega), hfo1 c (by omega) (thi c (by omega)) (by omega), f913 c (by omega) (by omega)]
      · rintro l' U ⟨st1, y1, lm1, x, z8, hU, hg1, hsk, hpr, hle, hUn, htgU, hfoU, hlmU, u4, u6, ⟨hz8, u8⟩, u15, hvl, hsub, cont⟩
        have rdU : Rd U vl 1 ((lineS st ((j : Nat) : Int)).map intV) (lineS st ((j : Nat) : Int)).length := rd9.keep hvl
        obtain ⟨L, hL⟩ : ∃ L, L = (lineS st ((j : Nat) : Int)).drop i := ⟨_, rfl⟩
        have hLl : L.length ≤ 101 := by rw [hL, List.length_drop]; omega
        have hLm : ∀ q ∈ L, 0 ≤ q ∧ q < (st.ones.length : Int) := fun q hq => hlm2 q (List.mem_of_mem_drop (by rw [← hL]; exact hq))
        rw [← hL] at cont
        have tgl : ∀ c, S.n ≤ c → c < S9.n → y1.tg c = 5 := fun c h1 h2 => by rw [htgU c h2]; exact thi c h1
        have tgk : y1.tg lk = 5 := by rw [htgU lk (by omega), tlo lk hlkn]; exact htk
        refine V_weak hsub ?_
        repeat (
          first
            | refine W_seq ?_
            | refine V_seq ?_
            | refine W_region ?_
            | refine WO_dst rfl rfl (by kernel_rfl) (by kernel_rfl) ?_
            | refine Ev_move rfl ?_)
        refine Ev_slice_lo (lo := i) rfl rfl rfl rfl rfl rdU (by omega) ?_
        intro v7 hv7 hv7b
        have hv7' : Rd U v7 1 (L.map intV) L.length := hv7.eq (by rw [hL, List.map_drop, Nat.mul_one]) (by rw [hL, List.length_drop])
        repeat (
          first
            | refine WO_nil ?_
            | refine V_seq ?_
            | refine W_block ?_
            | refine WO_dst rfl rfl (by kernel_rfl) (by kernel_rfl) ?_
            | refine Ev_len rfl rfl rfl rfl rfl hv7'.len ?_
            | refine Ev_move rfl ?_)
        refine W_inv (fun a : Nat × LdS × Lay => [(129, .int .i64 ((a.1 : Nat) : Int)), (128, .int .i64 ((L.length : Nat) : Int)), (127, v7), (1, .int .i64 ((j : Nat) : Int)), (4, .ptr S.n 0), (6, .ptr S1.n 0), (8, .ptr S2.n 0), (15, .ptr S7.n 0)]) (fun a T => a.1 ≤ L.length ∧ Ls T p a.2.2 a.2.1 ∧ Good a.2.1 ∧ Sk st a.2.1 ∧ a.2.1.prs.length ≤ st1.prs.length + a.1 ∧ U.n ≤ T.n ∧ T.n ≤ U.n + 30 * a.1 ∧ (∀ c, c < U.n → a.2.2.tg c = y1.tg c) ∧ (∀ c, c < U.n → y1.tg c = 5 → T.h.get c = U.h.get c) ∧ ∀ e st', SetsX nm x a.2.1 (L.drop a.1) e st' → SetsX nm x st1 L e st') (fun a => L.length - a.1) ?_ (0, st1, y1) ⟨Nat.zero_le _, hU, hg1, hsk, by dsimp only; omega, Nat.le_refl _, by dsimp only; omega, fun _ _ => rfl, fun _ _ _ => rfl, fun e st' hh => hh⟩ ⟨rfl, rfl, rfl, rfl, rfl, rfl, rfl, rfl, trivial⟩
        rintro ⟨m, st2, y2⟩ T ⟨hm, hT, hg2, hsk2, hpr2, hTle, hTn, htg2, hfo2, cont2⟩ back
        dsimp only at hm hT hg2 hsk2 hpr2 hTn htg2 cont2 back
        have keepT : ∀ c, S.n ≤ c → c < S9.n → T.h.get c = U.h.get c := fun c h1 h2 => hfo2 c (by omega) (tgl c h1 h2)
        have t4 : T.h.get S.n = some (.cells 22 [.ptr p 0] false) := by rw [keepT _ (by omega) (by omega)]; exact u4
        have t6 : T.h.get S1.n = some (.cells 9 [.str nm] false) := by rw [keepT _ (by omega) (by omega)]; exact u6
        have t8 : T.h.get S2.n = some (.cells 70 z8 false) := by rw [keepT _ (by omega) (by omega)]; exact u8
        have t15 : T.h.get S7.n = some (.cells 70 [.int .i64 x.1, .int .i64 x.2] false) := by rw [keepT _ (by omega) (by omega)]; exact u15
        have rdT : Rd T v7 1 (L.map intV) L.length := hv7'.keep (fun c hc => by have := bl6 c (hv7b c hc); exact keepT c (by omega) (by omega))
        have lmT : Mp T lk keyK intV lm1 := hlmU.keep (hfo2 lk (by omega) tgk)
        have foT : ∀ c, c < S.n → y.tg c = 5 → c ≠ lk → T.h.get c = S.h.get c := fun c h1 h2 h4 => by rw [hfo2 c (by omega) (by rw [htgU c (by omega), tlo c h1]; exact h2), hfoU c h1 h2 h4]
        have hs2 : st2.ones.length = st.ones.length := hsk2.1
        repeat' (
          first
            | refine W_seq ?_
            | refine WO_nil ?_
            | refine V_seq ?_
            | refine W_region ?_
            | refine W_skip ?_
            | refine W_block ?_
            | refine W_exit ?_
            | refine V_block_x rfl ?_
            | refine V_seq_x ?_
            | refine V_loop_x ?_
            | refine WO_dst rfl rfl (by kernel_rfl) (by kernel_rfl) ?_
            | refine Ev_lssN rfl rfl ?_
            | (refine W_cond rfl (fun hc => ?_) (fun hc => ?_) <;> (try dsimp only at hc) <;> try (exfalso; first | omega | exact hc rfl)))
        · have hml : m < L.length := by assumption
          obtain ⟨k0, k1⟩ := hLm _ (List.getElem_mem hml)
          obtain ⟨k, hk⟩ : ∃ k : Nat, L[m] = (k : Int) := ⟨(L[m]).toNat, by omega⟩
          have hgk : L[m]? = some ((k : Nat) : Int) := by rw [List.getElem?_eq_getElem hml, hk]
          have hdr : L.drop m = ((k : Nat) : Int) :: L.drop (m + 1) := by rw [List.drop_eq_getElem_cons hml, hk]
          have hkl : k < st2.ones.length := by omega
          refine Ev_indexAddr_rd (i := m) rfl rfl rfl rfl rfl rdT hml ?_
          intro b1 hb1
          repeat (
            refine WO_dst rfl rfl (by kernel_rfl) (by kernel_rfl) ?_)
          refine Ev_load_pt rfl rfl rfl hb1 (int_get hgk) (veq_int _ _) ?_
          repeat (
            first
              | refine W_seq ?_
              | refine WO_nil ?_
              | refine V_seq ?_
              | refine W_region ?_
              | refine WO_dst rfl rfl (by kernel_rfl) (by kernel_rfl) ?_
              | refine Ev_load rfl rfl rfl t4 rfl (veq_ptr _ _) ?_
              | refine Ev_load rfl rfl rfl t6 rfl (veq_str _) ?_
              | refine Ev_move rfl ?_
              | refine Ev_assign rfl ?_)
          refine Ev_load_agg (ds := [.int .i64 x.1, .int .i64 x.2]) rfl rfl rfl t15 (by show 0 + 2 ≤ 2; decide) rfl (by simp [veqs, veq_int]) ?_
          repeat (
            refine WO_dst rfl rfl (by kernel_rfl) (by kernel_rfl) ?_)
          obtain ⟨rt, d, hld⟩ := hg2
          refine Ev_call rfl rfl ((set_runs (rt := rt) (d := d) (x := x) hT hkl hld (by omega) (by omega)).mono ?_)
          rintro _ T2 - ⟨e, st3, rfl, hset, y3, h3', fo3⟩
          have g3n := fo3.n
          have g3l := fo3.le
          obtain ⟨gd3, sk3, pr3⟩ := SetX.ok ⟨rt, d, hld, hset⟩
          have hX : SetX st2 k nm x e st3 := ⟨rt, d, hld, hset⟩
          repeat' (
            first
              | refine W_seq ?_
              | refine WO_nil ?_
              | refine V_seq ?_
              | refine W_region ?_
              | refine W_skip ?_
              | refine V_block ?_
              | refine WO_dst rfl rfl (by kernel_rfl) (by kernel_rfl) ?_
              | refine Ev_move rfl ?_
              | refine Ev_assign rfl ?_
              | refine Ev_neq rfl rfl ?_
              | refine Ev_addN rfl rfl (by simp only [lim]; omega) ?_
              | (refine W_cond rfl (fun hc => ?_) (fun hc => ?_) <;> (try dsimp only at hc) <;> try (exfalso; first | omega | exact hc rfl)))
          · have he : e ≠ 0 := by assumption
            have t28 : T2.h.get S2.n = some (.cells 70 z8 false) := by rw [fo3.fo _ (by omega) (by rw [htg2 _ (by omega)]; exact tgl _ (by omega) (by omega))]; exact t8
            refine Ev_build (v := .agg [.int .i64 0, .int .i64 0]) rfl rfl ?_
            repeat (
              first
                | refine WO_dst rfl rfl (by kernel_rfl) (by kernel_rfl) ?_
                | refine WO_no rfl rfl ?_
                | refine Ev_move rfl ?_)
            refine Ev_store rfl rfl rfl rfl rfl t28 (by show 0 + 2 ≤ z8.length; omega) (by omega) ?_
            intro T3 n3' q3' f3'
            have q3' : T3.h.get S2.n = some (.cells 70 [.int .i64 (0, 0).1, .int .i64 (0, 0).2] false) := by
              match z8, hz8 with
              | [_, _], _ => exact q3'
            have ok3' : Sok T3 := sok_upd h3'.ok (by omega) n3' q3' f3'
            have ts2 : y3.tg S2.n = 5 := by rw [fo3.tg _ (by omega), htg2 _ (by omega)]; exact tgl _ (by omega) (by omega)
            have tk3 : y2.tg lk = 5 := by rw [htg2 _ (by omega)]; exact tgk
            repeat (
              first
                | refine WO_nil ?_
                | refine V_seq ?_
                | refine W_ret ?_
                | refine V_ret ?_
                | refine WO_dst rfl rfl (by kernel_rfl) (by kernel_rfl) ?_
                | refine Ev_assign rfl ?_)
            refine V_done_ct rfl rfl (loadAt_f (x := (0, 0)) q3') rfl ?_
            have hlo := cont e st3 (cont2 e st3 (by rw [hdr]; exact .stop _ _ _ _ _ hX he))
            rw [if_neg he] at hlo
            refine ⟨⟨(0, 0), e, st3, lm1, y3, rfl, hlo, gd3, hsk2.trans sk3, by omega, h3'.other ok3' (fun c _ hc => f3' c (fun e => hc (by rw [e]; exact ts2))), lmT.keep (by rw [f3' lk (by omega), fo3.fo lk (by omega) tk3]), fun c hc => by rw [fo3.tg c (by omega), htg2 c (by omega), htgU c (by omega), tlo c hc]⟩, by omega, by omega, fun c h1 h2 h4 => ?_⟩
            rw [f3' c (by omega), fo3.fo c (by omega) (by rw [htg2 c (by omega), htgU c (by omega), tlo c h1]; exact h2), foT c h1 h2 h4]
          · have he : e = 0 := Classical.byContradiction (by assumption)
            subst he
            refine back (m + 1, st3, y3) T2 _ (by dsimp only; omega) ⟨by dsimp only; omega, h3', gd3, hsk2.trans sk3, by dsimp only; omega, by omega, by dsimp only; omega, fun c hc => by dsimp only; rw [fo3.tg c (by omega), htg2 c hc], fun c hc h5 => by rw [fo3.fo c (by omega) (by rw [htg2 c hc]; exact h5), hfo2 c hc h5], fun e' st' hh => cont2 e' st' (by rw [hdr]; exact .next _ _ _ _ _ _ hX hh)⟩ ⟨rfl, rfl, rfl, rfl, rfl, rfl, rfl, rfl, trivial⟩
        · have hmL : m = L.length := by omega
          have hj2 : j < st2.ones.length := by omega
          obtain ⟨b2, hb2, ho2, hone2⟩ := hT.get hj2
          have hjb2 : j < y2.bs.length := (List.getElem?_eq_some_iff.1 hb2).1
          have hh2 : hasS st2 ((j : Nat) : Int) nm = alook nm st2.ones[j].ldd := by unfold hasS; rw [Int.toNat_natCast, ho2]
          refine W_drawnF [] (by simp) (by kernel_rfl) ?_
          repeat (
            first
              | refine WF_pa rfl rfl (by kernel_rfl) (by kernel_rfl) rfl ?_
              | refine WF_rs rfl rfl (by kernel_rfl) (by kernel_rfl) (by kernel_rfl) (by kernel_rfl) ?_
              | refine Ev_load rfl rfl rfl t4 rfl (veq_ptr _ _) ?_
              | refine Ev_load rfl rfl rfl t6 rfl (veq_str _) ?_
              | refine Ev_load rfl rfl rfl hT.at_ rfl hT.l.rd.self ?_
              | (refine Ev_indexAddr_rd rfl rfl rfl rfl rfl hT.l.rd hjb2 ?_; intro q5' hq5')
              | refine Ev_load_pt rfl rfl rfl hq5' (ptr_get hb2) (veq_ptr _ _) ?_
              | refine Ev_load rfl rfl rfl hone2.cell rfl (veq_map _) ?_
              | (refine Ev_look (k := nm) (z := .agg [.int .i64 0, .int .i64 0]) rfl rfl rfl rfl rfl rfl strK_ok hone2.ldd rfl (fun a _ => fnd_veq a) ?_; rw [look_fnd])
              | refine Ev_move rfl ?_
              | refine Ev_nilCheck rfl ?_
              | refine Ev_fieldAddr rfl rfl rfl rfl rfl rfl ?_)
          refine WF_ld0 rfl rfl (fun _ _ => rfl) ?_
          refine Ev_store rfl rfl rfl rfl rfl t8 (by show 0 + 2 ≤ z8.length; omega) (by omega) ?_
          intro T3 n3' q3' f3'
          have q3' : T3.h.get S2.n = some (.cells 70 [.int .i64 ((alook nm st2.ones[j].ldd).getD (0, 0)).1, .int .i64 ((alook nm st2.ones[j].ldd).getD (0, 0)).2] false) := by
            match z8, hz8 with
            | [_, _], _ => exact q3'
          have ok3' : Sok T3 := sok_upd hT.ok (by omega) n3' q3' f3'
          have ts2 : y2.tg S2.n = 5 := by rw [htg2 _ (by omega)]; exact tgl _ (by omega) (by omega)
          refine ⟨by simp, [], by simp, ?_⟩
          repeat (
            first
              | refine WF_nil ?_
              | refine WF_pa rfl rfl (by kernel_rfl) (by kernel_rfl) rfl ?_
              | refine V_seq ?_
              | refine W_ret ?_
              | refine Ev_assign rfl ?_)
          repeat (
            refine W_seq ?_)
          refine V_done_ct rfl rfl (loadAt_f (x := (alook nm st2.ones[j].ldd).getD (0, 0)) q3') rfl ?_
          have hlo := cont 0 st2 (cont2 0 st2 (by rw [hmL, List.drop_length]; exact .nil _))
          rw [if_pos rfl, hh2] at hlo
          refine ⟨⟨_, 0, st2, lm1, y2, rfl, hlo, hg2, hsk2, by omega, hT.other ok3' (fun c _ hc => f3' c (fun e => hc (by rw [e]; exact ts2))), lmT.keep (f3' lk (by omega)), fun c hc => by rw [htg2 c (by omega), htgU c (by omega), tlo c hc]⟩, by omega, by omega, fun c h1 h2 h4 => by rw [f3' c (by omega), foT c h1 h2 h4]⟩
end Go.Proofs.Ytjbpegggfacojaa
/- loader: Load. (NODRAWN) -/


namespace Go.Proofs.Ytjbpegggfacojaa
open GX
set_option maxHeartbeats 16000000
set_option maxRecDepth 100000
/-- what Load answers -/
inductive LoadS (st : LdS) (n : Int) (nm : Nm) : Int × Int → Int → LdS → Prop where
  | arg (h : ¬ isL st n) : LoadS st n nm (0, 0) 1 st
  | bad (h : isL st n) (x : Int × Int) (e : Int) (st' : LdS) (lm) (hl : LoadO st n nm [] x e st' lm) (he : e ≠ 0) : LoadS st n nm (0, 0) e st'
  | good (h : isL st n) (x : Int × Int) (st' : LdS) (lm) (hl : LoadO st n nm [] x 0 st' lm) : LoadS st n nm x 0 st'
theorem Load_runs {S : St} {p : Nat} {y : Lay} {st : LdS} {n : Int} {nm : Nm} {K : List (Int × Nm)} (h : Ls S p y st) (hg : Good st) (hpar : ParOK st) (hK : ∀ (m : Int) nm' o, 0 ≤ m → offS st m nm' = some o → (m, nm') ∈ K) (hps : st.prs.length + 200 * (K.length + 1) ≤ 100000000) (hn : S.n + 5000 * (K.length + 2) ≤ 500000000) :
    Runs X1 12 [.ptr p 0, .int .i64 n, .str nm] S fun r U => ∃ x e st' y', r = .tup [.int .i64 x.1, .int .i64 x.2, .int .i64 e] ∧ LoadS st n nm x e st' ∧ Good st' ∧ Sk st st' ∧ st'.prs.length ≤ st.prs.length + 200 * (K.length + 1) ∧ Ls U p y' st' ∧ Fo S U y y' (5000 * (K.length + 2)) := by
  have hs : st.ones.length ≤ 100 := by obtain ⟨rt, d, hk⟩ := hg; exact hk.small
  have hp := h.ok _ _ h.at_
  refine Runs_fn (m := 30) (by kernel_rfl) Try.func12 rfl (by kernel_rfl) (by kernel_rfl) ?_
  repeat (
    first
      | refine W_seq ?_
      | refine WO_nil ?_
      | refine V_seq ?_
      | refine W_region ?_
      | refine WO_dst rfl rfl (by kernel_rfl) (by kernel_rfl) ?_
      | refine Ev_move rfl ?_
      | refine Ev_assign rfl ?_)
  refine Ev_call rfl rfl ((is_runs (n := n) h hs).mono ?_)
  rintro _ U0 - ⟨rfl, hU⟩
  rw [hU]
  by_cases hi : isL st n
  · rw [decide_eq_true hi]
    obtain ⟨j, rfl⟩ : ∃ j : Nat, n = (j : Int) := ⟨n.toNat, by unfold isL at hi; omega⟩
    have hj : j < st.ones.length := by unfold isL at hi; omega
    repeat (
      first
        | refine W_seq ?_
        | refine WO_nil ?_
        | refine V_seq ?_
        | refine W_region ?_
        | refine W_skip ?_
        | refine W_cond_f rfl ?_
        | refine WO_dst rfl rfl (by kernel_rfl) (by kernel_rfl) ?_
        | refine Ev_move rfl ?_
        | refine Ev_notb rfl ?_)
    refine Ev_makeMap (kv := keyK) (vv := intV) h.ok (by omega) ?_
    intro S1 n1 ok1 m1 f1
    have h1 : Ls S1 p { y with tg := fun c => if c < S.n then y.tg c else 5 } st := h.far ok1 f1 _ (fun c hc => if_pos hc)
    repeat (
      refine WO_dst rfl rfl (by kernel_rfl) (by kernel_rfl) ?_)
    refine Ev_call rfl rfl ((load_runs K.length (K := K) h1 hg hpar hj m1 (if_neg (by omega)) (fun k v hv => by cases hv) hK (List.countP_le_length) hps (by omega)).mono ?_)
    rintro _ S2 - hR
    have r1 := hR.le
    have r2 := hR.n
    obtain ⟨x, e, st', lm', y', rfl, hlo, hg', hsk, hpr, hLs, hmp, htg⟩ := hR.ex
    have fo2 : Fo S S2 y y' (5000 * (K.length + 1) + 1) := ⟨by omega, by omega, fun c hc => by rw [htg c (by omega)]; exact if_pos hc, fun c hc h5 => by rw [hR.fo c (by omega) ((if_pos hc).trans h5) (by omega), f1 c hc]⟩
    repeat (
      first
        | refine WO_dst rfl rfl (by kernel_rfl) (by kernel_rfl) ?_
        | refine Ev_move rfl ?_
        | refine Ev_extract rfl rfl ?_)
    refine Ev_alloc_ rfl hLs.ok (by omega) ?_
    intro S3 n3 ok3 q3 f3
    repeat (
      refine WO_no rfl rfl ?_)
    refine Ev_store rfl rfl rfl rfl rfl q3 (by show 0 + 2 ≤ 2; decide) (by omega) ?_
    intro S4 n4 q4 f4
    have q4 : S4.h.get S2.n = some (.cells 70 [.int .i64 x.1, .int .i64 x.2] false) := q4
    have ok4 : Sok S4 := sok_upd ok3 (by omega) n4 q4 f4
    have f24 : ∀ c, c < S2.n → S4.h.get c = S2.h.get c := fun c hc => by rw [f4 c (by omega), f3 c hc]
    have h4 : Ls S4 p y' st' := hLs.far ok4 f24 y'.tg (fun _ _ => rfl)
    have fo4 : Fo S S4 y y' (5000 * (K.length + 2)) := ⟨by omega, by omega, fo2.tg, fun c hc h5 => by rw [f24 c (by omega), fo2.fo c hc h5]⟩
    repeat' (
      first
        | refine W_seq ?_
        | refine WO_nil ?_
        | refine V_seq ?_
        | refine W_region ?_
        | refine W_skip ?_
        | refine W_ret ?_
        | refine V_ret ?_
        | refine WO_dst rfl rfl (by kernel_rfl) (by kernel_rfl) ?_
        | refine Ev_move rfl ?_
        | refine Ev_assign rfl ?_
        | refine Ev_neq rfl rfl ?_
        | (refine W_cond rfl (fun hc => ?_) (fun hc => ?_) <;> (try dsimp only at hc) <;> try (exfalso; first | omega | exact hc rfl)))
    · have he : e ≠ 0 := by assumption
      refine V_done rfl rfl ?_
      exact ⟨(0, 0), e, st', y', rfl, .bad hi x e st' lm' hlo he, hg', hsk, hpr, h4, fo4⟩
    · have he : e = 0 := Classical.byContradiction (by assumption)
      subst he
      refine W_drawn (by kernel_rfl) ?_
      repeat (
        first
          | refine WO_nil ?_
          | refine V_seq ?_
          | refine W_ret ?_
          | refine WO_dst rfl rfl (by kernel_rfl) (by kernel_rfl) ?_
          | refine Ev_load rfl rfl rfl q4 rfl (veq_int _ _) ?_
          | refine Ev_assign rfl ?_
          | refine Ev_fieldAddr rfl rfl rfl rfl rfl rfl ?_)
      refine V_done rfl rfl ?_
      exact ⟨x, 0, st', y', rfl, .good hi x st' lm' hlo, hg', hsk, hpr, h4, fo4⟩
  · rw [decide_eq_false hi]
    repeat (
      first
        | refine W_seq ?_
        | refine WO_nil ?_
        | refine V_seq ?_
        | refine W_region ?_
        | refine W_ret ?_
        | refine V_ret ?_
        | refine W_cond_t rfl ?_
        | refine WO_dst rfl rfl (by kernel_rfl) (by kernel_rfl) ?_
        | refine Ev_assign rfl ?_
        | refine Ev_notb rfl ?_)
    refine V_done rfl rfl ?_
    exact ⟨(0, 0), 1, st, y, rfl, .arg hi, hg, .refl _, by omega, h, ⟨Nat.le_refl _, by omega, fun _ _ => rfl, fun _ _ _ => rfl⟩⟩
end Go.Proofs.Ytjbpegggfacojaa
/- caraferef2.Name, descr.Name. -/



namespace Go.Proofs.Ytjbpegggfacojaa
open GX
set_option maxHeartbeats 8000000
/-- a letter of a name -/
def okc (i c : Nat) : Prop := (97 ≤ c ∧ c ≤ 122) ∨ (65 ≤ c ∧ c ≤ 90) ∨ c = 95 ∨ c = 36 ∨ (0 < i ∧ 48 ≤ c ∧ c ≤ 57)
instance (i c : Nat) : Decidable (okc i c) := by unfold okc; exact inferInstance
def nameP (s : List Nat) : Prop := (1 ≤ s.length ∧ s.length ≤ 64) ∧ ∀ i, i < s.length → okc i (s.getD i 0)
instance (s : List Nat) : Decidable (nameP s) := by unfold nameP; exact inferInstance
theorem get_some {s : List Nat} {i : Nat} (h : i < s.length) : s[i]? = some (s.getD i 0) := by
  rw [List.getD_eq_getElem?_getD, List.getElem?_eq_getElem h]; rfl
theorem name_runs {S : St} {s : List Nat} (hs : s.length < 9223372036854775808) : Runs X1 25 [.str s] S fun v S' => S' = S ∧ v = .bool (decide (nameP s)) := by
  refine Runs_fn (m := 58) (by kernel_rfl) Try.func25 rfl (by kernel_rfl) (by kernel_rfl) ?_
  repeat (
    first
      | refine W_seq ?_
      | refine WO_nil ?_
      | refine V_seq ?_
      | refine W_region ?_
      | refine W_block ?_
      | refine WO_dst rfl rfl (by kernel_rfl) (by kernel_rfl) ?_
      | refine Ev_move rfl ?_
      | refine Ev_assign rfl ?_
      | refine Ev_len_str rfl rfl rfl rfl rfl ?_)
  refine W_inv (fun i : Nat => [(8, .int .i64 ((i : Nat) : Int)), (7, .int .i64 ((s.length : Nat) : Int)), (0, .str s)]) (fun i T => T = S ∧ i ≤ s.length ∧ ∀ j, j < i → okc j (s.getD j 0)) (fun i => s.length - i) ?_ 0 ⟨rfl, by omega, fun j hj => by omega⟩ ⟨rfl, rfl, rfl, trivial⟩
  rintro i T ⟨rfl, hi, hall⟩ back
  repeat' (
    first
      | refine W_seq ?_
      | refine WO_nil ?_
      | refine V_seq ?_
      | refine W_region ?_
      | refine W_block ?_
      | refine W_skip ?_
      | refine W_ret ?_
      | refine W_exit ?_
      | refine V_ret ?_
      | refine V_block ?_
      | refine V_block_x rfl ?_
      | refine V_seq_x ?_
      | refine V_loop_x ?_
      | refine W_cond_t rfl ?_
      | refine W_cond_f rfl ?_
      | refine WO_dst rfl rfl (by kernel_rfl) (by kernel_rfl) ?_
      | refine WO_guard_t rfl rfl rfl rfl rfl (by kernel_rfl) (by kernel_rfl) ?_
      | refine WO_guard_f rfl rfl rfl rfl rfl rfl (by kernel_rfl) (by kernel_rfl) ?_
      | refine WO_guard_x rfl rfl rfl rfl rfl (by kernel_rfl) (by kernel_rfl) ?_
      | refine Ev_index rfl rfl rfl rfl (get_some (by first | omega | (dsimp only; omega))) ?_
      | refine Ev_move rfl ?_
      | refine Ev_assign rfl ?_
      | refine Ev_pick_t rfl rfl rfl ?_
      | refine Ev_pick_f rfl rfl rfl ?_
      | refine Ev_lssN rfl rfl ?_
      | refine Ev_leqN rfl rfl ?_
      | refine Ev_gtrN rfl rfl ?_
      | refine Ev_geqN rfl rfl ?_
      | refine Ev_eqlN rfl rfl ?_
      | refine Ev_sneq rfl rfl ?_
      | refine Ev_not rfl ?_
      | refine Ev_notb rfl ?_
      | refine Ev_len_str rfl rfl rfl rfl rfl ?_
      | refine Ev_addN rfl rfl (by simp only [lim]; omega) ?_
      | (refine WO_guard_dt rfl rfl rfl rfl rfl (by kernel_rfl) (by kernel_rfl) (fun hg => ?_) (fun hg => ?_) <;> (try dsimp only at hg) <;> try (exfalso; first | omega | exact hg rfl))
      | (refine WO_guard_df rfl rfl rfl rfl rfl (by kernel_rfl) (by kernel_rfl) (fun hg => ?_) (fun hg => ?_) <;> (try dsimp only at hg) <;> try (exfalso; first | omega | exact hg rfl))
      | (refine W_cond rfl (fun hc => ?_) (fun hc => ?_) <;> (try dsimp only at hc) <;> try (exfalso; first | omega | exact hc rfl)))
  all_goals first
    | (refine back (i + 1) _ _ (by omega) ⟨rfl, by omega, fun j hj => ?_⟩ ⟨rfl, rfl, rfl, trivial⟩
       rcases Nat.lt_or_ge j i with h | h
       · exact hall j h
       · have hji : j = i := by omega
         subst hji; unfold okc; omega)
    | (refine V_done rfl rfl ⟨rfl, ?_⟩
       rw [decide_eq_false (fun h => by have := h.2 i (by omega); unfold okc at this; omega)]; rfl)
    | (refine V_done rfl rfl ⟨rfl, ?_⟩
       have h0 : ¬ 1 ≤ s.length := by first | exact hg | (have h1 : s = [] := Classical.not_not.1 hg; rw [h1]; decide)
       rw [decide_eq_false (fun h => h0 h.1.1)]; rfl)
    | (refine V_done rfl rfl ⟨rfl, ?_⟩
       have hl : 1 ≤ s.length := by first | exact hg | exact List.length_pos_iff.2 hg
       show AV.bool (decide (s.length ≤ 64)) = _
       congr 1
       exact decide_eq_decide.2 ⟨fun g => ⟨⟨hl, g⟩, fun j hj => hall j (by omega)⟩, fun g => g.1.2⟩)
theorem rname_runs {S : St} {s : List Nat} (hs : s.length < 9223372036854775808) : Runs X1 29 [.str s] S fun v S' => S' = S ∧ v = .bool (decide (nameP s)) := by
  refine Runs_fn (m := 59) (by kernel_rfl) Try.func29 rfl (by kernel_rfl) (by kernel_rfl) ?_
  repeat (
    first
      | refine W_seq ?_
      | refine WO_nil ?_
      | refine V_seq ?_
      | refine W_region ?_
      | refine W_block ?_
      | refine WO_dst rfl rfl (by kernel_rfl) (by kernel_rfl) ?_
      | refine Ev_assign rfl ?_)
  refine W_inv (fun i : Nat => [(3, .int .i64 ((i : Nat) : Int)), (0, .str s)]) (fun i T => T = S ∧ i ≤ s.length ∧ ∀ j, j < i → okc j (s.getD j 0)) (fun i => s.length - i) ?_ 0 ⟨rfl, by omega, fun j hj => by omega⟩ ⟨rfl, rfl, trivial⟩
  rintro i T ⟨rfl, hi, hall⟩ back
  repeat' (
    first
      | refine W_seq ?_
      | refine WO_nil ?_
      | refine V_seq ?_
      | refine W_region ?_
      | refine W_block ?_
      | refine W_skip ?_
      | refine W_ret ?_
      | refine W_exit ?_
      | refine V_ret ?_
      | refine V_block ?_
      | refine V_block_x rfl ?_
      | refine V_seq_x ?_
      | refine V_loop_x ?_
      | refine W_cond_t rfl ?_
      | refine W_cond_f rfl ?_
      | refine WO_dst rfl rfl (by kernel_rfl) (by kernel_rfl) ?_
      | refine WO_guard_t rfl rfl rfl rfl rfl (by kernel_rfl) (by kernel_rfl) ?_
      | refine WO_guard_f rfl rfl rfl rfl rfl rfl (by kernel_rfl) (by kernel_rfl) ?_
      | refine WO_guard_x rfl rfl rfl rfl rfl (by kernel_rfl) (by kernel_rfl) ?_
      | refine Ev_index rfl rfl rfl rfl (get_some (by first | omega | (dsimp only; omega))) ?_
      | refine Ev_move rfl ?_
      | refine Ev_assign rfl ?_
      | refine Ev_pick_t rfl rfl rfl ?_
      | refine Ev_pick_f rfl rfl rfl ?_
      | refine Ev_lssN rfl rfl ?_
      | refine Ev_leqN rfl rfl ?_
      | refine Ev_gtrN rfl rfl ?_
      | refine Ev_geqN rfl rfl ?_
      | refine Ev_eqlN rfl rfl ?_
      | refine Ev_not rfl ?_
      | refine Ev_notb rfl ?_
      | refine Ev_len_str rfl rfl rfl rfl rfl ?_
      | refine Ev_addN rfl rfl (by simp only [lim]; omega) ?_
      | (refine WO_guard_dt rfl rfl rfl rfl rfl (by kernel_rfl) (by kernel_rfl) (fun hg => ?_) (fun hg => ?_) <;> (try dsimp only at hg) <;> try (exfalso; first | omega | exact hg rfl))
      | (refine WO_guard_df rfl rfl rfl rfl rfl (by kernel_rfl) (by kernel_rfl) (fun hg => ?_) (fun hg => ?_) <;> (try dsimp only at hg) <;> try (exfalso; first | omega | exact hg rfl))
      | (refine W_cond rfl (fun hc => ?_) (fun hc => ?_) <;> (try dsimp only at hc) <;> try (exfalso; first | omega | exact hc rfl)))
  all_goals first
    | (refine back (i + 1) _ _ (by omega) ⟨rfl, by omega, fun j hj => ?_⟩ ⟨rfl, rfl, trivial⟩
       rcases Nat.lt_or_ge j i with h | h
       · exact hall j h
       · have hji : j = i := by omega
         subst hji; unfold okc; omega)
    | (refine V_done rfl rfl ⟨rfl, ?_⟩
       rw [decide_eq_false (fun h => by have := h.2 i (by omega); unfold okc at this; omega)]; rfl)
    | (refine V_done rfl rfl ⟨rfl, ?_⟩
       have h0 : ¬ 1 ≤ s.length := by first | exact hg | (have h1 : s = [] := Classical.not_not.1 hg; rw [h1]; decide)
       rw [decide_eq_false (fun h => h0 h.1.1)]; rfl)
    | (refine V_done rfl rfl ⟨rfl, ?_⟩
       have hl : 1 ≤ s.length := by first | exact hg | exact List.length_pos_iff.2 hg
       show AV.bool (decide (s.length ≤ 64)) = _
       congr 1
       exact decide_eq_decide.2 ⟨fun g => ⟨⟨hl, g⟩, fun j hj => hall j (by omega)⟩, fun g => g.1.2⟩)
end Go.Proofs.Ytjbpegggfacojaa
/- loader: Offer; carafelaw15.within. (NODRAWN) -/



namespace Go.Proofs.Ytjbpegggfacojaa
open GX
set_option maxHeartbeats 16000000
set_option maxRecDepth 100000
/-- Offer -/
inductive OfferS (st : LdS) (n : Int) (nm sup : Nm) (id : Int) : Int → LdS → Prop where
  | arg (h : ¬ (isL st n ∧ nameP nm ∧ (sup = [] ∨ nameP sup) ∧ 0 ≤ id)) : OfferS st n nm sup id 1 st
  | taken (h : isL st n ∧ nameP nm ∧ (sup = [] ∨ nameP sup) ∧ 0 ≤ id) (o : Nm × Int) (ho : offS st n nm = some o) : OfferS st n nm sup id 23 st
  | put (h : isL st n ∧ nameP nm ∧ (sup = [] ∨ nameP sup) ∧ 0 ≤ id) (ho : offS st n nm = none) (o : One) (hn : st.ones[n.toNat]? = some o) : OfferS st n nm sup id 0 (st.put n.toNat { o with off := aput nm (sup, id) o.off })
theorem Offer_runs {S : St} {p : Nat} {y : Lay} {st : LdS} {n id : Int} {nm sup : Nm} (h : Ls S p y st) (hs : st.ones.length ≤ 100) (hnm : nm.length < 9223372036854775808) (hsup : sup.length < 9223372036854775808) (hn : S.n + 10 ≤ 1000000000) :
    Runs X1 11 [.ptr p 0, .int .i64 n, .str nm, .str sup, .int .i64 id] S fun r U => ∃ e st' y', r = .int .i64 e ∧ OfferS st n nm sup id e st' ∧ Ls U p y' st' ∧ Fo S U y y' 2 := by
  have hp := h.ok _ _ h.at_
  refine Runs_fn (m := 65) (by kernel_rfl) Try.func11 rfl (by kernel_rfl) (by kernel_rfl) ?_
  repeat (
    first
      | refine W_seq ?_
      | refine WO_nil ?_
      | refine V_seq ?_
      | refine W_region ?_
      | refine WO_dst rfl rfl (by kernel_rfl) (by kernel_rfl) ?_
      | refine Ev_move rfl ?_
      | refine Ev_assign rfl ?_)
  refine Ev_call rfl rfl ((is_runs (n := n) h hs).mono ?_)
  rintro _ U0 - ⟨rfl, hU⟩
  rw [hU]
  by_cases hi : isL st n
  · rw [decide_eq_true hi]
    repeat (
      first
        | refine WO_dst rfl rfl (by kernel_rfl) (by kernel_rfl) ?_
        | refine WO_guard_t rfl rfl rfl rfl rfl (by kernel_rfl) (by kernel_rfl) ?_
        | refine Ev_move rfl ?_
        | refine Ev_notb rfl ?_)
    refine Ev_call rfl rfl ((name_runs hnm).mono ?_)
    rintro _ U1 - ⟨hU1, rfl⟩
    rw [hU1]
    by_cases hnp : nameP nm
    · rw [decide_eq_true hnp]
      repeat' (
        first
          | refine W_seq ?_
          | refine WO_nil ?_
          | refine V_seq ?_
          | refine W_region ?_
          | refine W_skip ?_
          | refine W_ret ?_
          | refine V_ret ?_
          | refine WO_dst rfl rfl (by kernel_rfl) (by kernel_rfl) ?_
          | refine WO_guard_t rfl rfl rfl rfl rfl (by kernel_rfl) (by kernel_rfl) ?_
          | refine WO_guard_f rfl rfl rfl rfl rfl rfl (by kernel_rfl) (by kernel_rfl) ?_
          | refine Ev_move rfl ?_
          | refine Ev_assign rfl ?_
          | refine Ev_pick_f rfl rfl rfl ?_
          | refine Ev_lss rfl rfl ?_
          | refine Ev_sneq rfl rfl ?_
          | refine Ev_notb rfl ?_
          | refine Ev_nilCheck rfl ?_
          | refine Ev_fieldAddr rfl rfl rfl rfl rfl rfl ?_
          | (refine WO_guard_dt rfl rfl rfl rfl rfl (by kernel_rfl) (by kernel_rfl) (fun hg => ?_) (fun hg => ?_) <;> (try dsimp only at hg) <;> try (exfalso; first | omega | exact hg rfl))
          | (refine W_cond rfl (fun hc => ?_) (fun hc => ?_) <;> (try dsimp only at hc) <;> try (exfalso; first | omega | exact hc rfl)))
      · have hs0 : sup ≠ [] := by assumption
        refine Ev_call rfl rfl ((name_runs hsup).mono ?_)
        rintro _ U2 - ⟨hU2, rfl⟩
        rw [hU2]
        by_cases hsp : nameP sup
        · rw [decide_eq_true hsp]
          repeat' (
            first
              | refine W_seq ?_
              | refine WO_nil ?_
              | refine V_seq ?_
              | refine W_region ?_
              | refine W_skip ?_
              | refine W_ret ?_
              | refine V_ret ?_
              | refine WO_dst rfl rfl (by kernel_rfl) (by kernel_rfl) ?_
              | refine WO_guard_t rfl rfl rfl rfl rfl (by kernel_rfl) (by kernel_rfl) ?_
              | refine Ev_move rfl ?_
              | refine Ev_assign rfl ?_
              | refine Ev_pick_t rfl rfl rfl ?_
              | refine Ev_pick_f rfl rfl rfl ?_
              | refine Ev_lss rfl rfl ?_
              | refine Ev_notb rfl ?_
              | refine Ev_nilCheck rfl ?_
              | refine Ev_fieldAddr rfl rfl rfl rfl rfl rfl ?_
              | (refine W_cond rfl (fun hc => ?_) (fun hc => ?_) <;> (try dsimp only at hc) <;> try (exfalso; first | omega | exact hc rfl)))
          · have hid : id < 0 := by assumption
            refine V_done rfl rfl ?_
            exact ⟨1, st, y, rfl, .arg (fun hh => by have := hh.2.2.2; omega), h, ⟨Nat.le_refl _, by omega, fun _ _ => rfl, fun _ _ _ => rfl⟩⟩
          have hid : 0 ≤ id := by omega
          have hall : isL st n ∧ nameP nm ∧ (sup = [] ∨ nameP sup) ∧ 0 ≤ id := ⟨hi, hnp, .inr hsp, hid⟩
          obtain ⟨j, rfl⟩ : ∃ j : Nat, n = (j : Int) := ⟨n.toNat, by unfold isL at hi; omega⟩
          have hj : j < st.ones.length := by unfold isL at hi; omega
          obtain ⟨b, hb, ho, hone⟩ := h.get hj
          have hjb : j < y.bs.length := by rw [h.len]; exact hj
          have hoS : offS st ((j : Nat) : Int) nm = alook nm st.ones[j].off := by unfold offS; rw [Int.toNat_natCast, ho]
          refine Ev_load rfl rfl rfl h.at_ rfl h.l.rd.self ?_
          repeat (
            first
              | refine WO_dst rfl rfl (by kernel_rfl) (by kernel_rfl) ?_
              | refine Ev_move rfl ?_)
          refine Ev_indexAddr_rd rfl rfl rfl rfl rfl h.l.rd hjb ?_
          intro q hq
          repeat (
            refine WO_dst rfl rfl (by kernel_rfl) (by kernel_rfl) ?_)
          refine Ev_load_pt rfl rfl rfl hq (ptr_get hb) (veq_ptr _ _) ?_
          repeat (
            first
              | refine WO_dst rfl rfl (by kernel_rfl) (by kernel_rfl) ?_
              | refine Ev_load rfl rfl rfl hone.cell rfl (veq_map _) ?_
              | refine Ev_move rfl ?_
              | refine Ev_nilCheck rfl ?_
              | refine Ev_fieldAddr rfl rfl rfl rfl rfl rfl ?_)
          refine Ev_look2 (k := nm) (z := .agg [.str [], .int .i64 0]) rfl rfl rfl rfl rfl rfl strK_ok hone.off rfl (fun a _ => off_veq a) ?_
          rw [look_off]
          repeat (
            first
              | refine WO_dst rfl rfl (by kernel_rfl) (by kernel_rfl) ?_
              | refine Ev_move rfl ?_
              | refine Ev_extract rfl rfl ?_)
          refine Ev_alloc_ rfl h.ok (by omega) ?_
          intro S1 n1 ok1 q1 f1
          repeat (
            refine WO_no rfl rfl ?_)
          refine Ev_store rfl rfl rfl rfl rfl q1 (by show 0 + 2 ≤ 2; decide) (by omega) ?_
          intro S2 n2 q2 f2
          have ok2 : Sok S2 := sok_upd ok1 (by omega) n2 q2 f2
          have f02 : ∀ c, c < S.n → S2.h.get c = S.h.get c := fun c hc => by rw [f2 c (by omega), f1 c hc]
          have h2 : Ls S2 p y st := h.far ok2 f02 y.tg (fun _ _ => rfl)
          have hone2 : OneAt S2 b st.ones[j] := h2.one j b _ hb ho
          cases hA : alook nm st.ones[j].off with
          | some o =>
            repeat (
              first
                | refine W_seq ?_
                | refine WO_nil ?_
                | refine V_seq ?_
                | refine W_region ?_
                | refine W_ret ?_
                | refine V_ret ?_
                | refine W_cond_t rfl ?_
                | refine WO_dst rfl rfl (by kernel_rfl) (by kernel_rfl) ?_
                | refine Ev_move rfl ?_
                | refine Ev_assign rfl ?_)
            refine V_done rfl rfl ?_
            exact ⟨23, st, y, rfl, .taken hall o (by rw [hoS, hA]), h2, ⟨by omega, by omega, fun _ _ => rfl, fun c hc _ => f02 c hc⟩⟩
          | none =>
            repeat (
              first
                | refine W_seq ?_
                | refine WO_nil ?_
                | refine V_seq ?_
                | refine W_region ?_
                | refine W_skip ?_
                | refine W_cond_f rfl ?_
                | refine WO_dst rfl rfl (by kernel_rfl) (by kernel_rfl) ?_
                | refine Ev_load rfl rfl rfl h2.at_ rfl h2.l.rd.self ?_
                | refine Ev_move rfl ?_
                | refine Ev_assign rfl ?_
                | refine Ev_nilCheck rfl ?_
                | refine Ev_fieldAddr rfl rfl rfl rfl rfl rfl ?_)
            refine Ev_indexAddr_rd rfl rfl rfl rfl rfl h2.l.rd hjb ?_
            intro q3 hq3
            repeat (
              refine WO_dst rfl rfl (by kernel_rfl) (by kernel_rfl) ?_)
            refine Ev_load_pt rfl rfl rfl hq3 (ptr_get hb) (veq_ptr _ _) ?_
            repeat (
              first
                | refine WO_dst rfl rfl (by kernel_rfl) (by kernel_rfl) ?_
                | refine Ev_load rfl rfl rfl hone2.cell rfl (veq_map _) ?_
                | refine Ev_move rfl ?_
                | refine Ev_nilCheck rfl ?_
                | refine Ev_fieldAddr rfl rfl rfl rfl rfl rfl ?_)
            refine Ev_build (v := .agg [.str sup, .int .i64 id]) rfl rfl ?_
            repeat (
              refine WO_no rfl rfl ?_)
            have hrl := hone2.off.lt ok2
            refine Ev_mapUpdate (k := nm) (vv := offV) (sup, id) rfl rfl rfl rfl rfl strK_ok hone2.off (by omega) ?_
            intro S3 n3 m3 f3
            have ok3 := mp_sok m3 ok2 hrl n3 f3
            have h3 := h2.put_off ok3 hb ho nm (sup, id) m3 f3
            have t3 := (h.tb j b hb).2.1
            repeat (
              first
                | refine W_seq ?_
                | refine WO_nil ?_
                | refine V_seq ?_
                | refine W_region ?_
                | refine W_ret ?_
                | refine WO_dst rfl rfl (by kernel_rfl) (by kernel_rfl) ?_
                | refine Ev_assign rfl ?_)
            refine V_done rfl rfl ?_
            refine ⟨0, _, y, rfl, .put hall (by rw [hoS, hA]) st.ones[j] (by rw [Int.toNat_natCast]; exact ho), by rw [Int.toNat_natCast]; exact h3, ⟨by omega, by omega, fun _ _ => rfl, fun c hc h5 => ?_⟩⟩
            rw [f3 c (fun e => by rw [e, t3] at h5; omega), f02 c hc]
        · rw [decide_eq_false hsp]
          repeat (
            first
              | refine W_seq ?_
              | refine WO_nil ?_
              | refine V_seq ?_
              | refine W_region ?_
              | refine W_ret ?_
              | refine V_ret ?_
              | refine W_cond_t rfl ?_
              | refine WO_dst rfl rfl (by kernel_rfl) (by kernel_rfl) ?_
              | refine WO_guard_t rfl rfl rfl rfl rfl (by kernel_rfl) (by kernel_rfl) ?_
              | refine WO_guard_f rfl rfl rfl rfl rfl rfl (by kernel_rfl) (by kernel_rfl) ?_
              | refine Ev_move rfl ?_
              | refine Ev_assign rfl ?_
              | refine Ev_pick_t rfl rfl rfl ?_
              | refine Ev_pick_f rfl rfl rfl ?_
              | refine Ev_notb rfl ?_)
          refine V_done rfl rfl ?_
          exact ⟨1, st, y, rfl, .arg (fun hh => hh.2.2.1.elim hs0 hsp), h, ⟨Nat.le_refl _, by omega, fun _ _ => rfl, fun _ _ _ => rfl⟩⟩
      · have hid : id < 0 := by assumption
        refine V_done rfl rfl ?_
        exact ⟨1, st, y, rfl, .arg (fun hh => by have := hh.2.2.2; omega), h, ⟨Nat.le_refl _, by omega, fun _ _ => rfl, fun _ _ _ => rfl⟩⟩
      · have hs0 : sup = [] := Classical.byContradiction (by assumption)
        have hid : 0 ≤ id := by omega
        have hall : isL st n ∧ nameP nm ∧ (sup = [] ∨ nameP sup) ∧ 0 ≤ id := ⟨hi, hnp, .inl hs0, hid⟩
        obtain ⟨j, rfl⟩ : ∃ j : Nat, n = (j : Int) := ⟨n.toNat, by unfold isL at hi; omega⟩
        have hj : j < st.ones.length := by unfold isL at hi; omega
        obtain ⟨b, hb, ho, hone⟩ := h.get hj
        have hjb : j < y.bs.length := by rw [h.len]; exact hj
        have hoS : offS st ((j : Nat) : Int) nm = alook nm st.ones[j].off := by unfold offS; rw [Int.toNat_natCast, ho]
        refine Ev_load rfl rfl rfl h.at_ rfl h.l.rd.self ?_
        repeat (
          first
            | refine WO_dst rfl rfl (by kernel_rfl) (by kernel_rfl) ?_
            | refine Ev_move rfl ?_)
        refine Ev_indexAddr_rd rfl rfl rfl rfl rfl h.l.rd hjb ?_
        intro q hq
        repeat (
          refine WO_dst rfl rfl (by kernel_rfl) (by kernel_rfl) ?_)
        refine Ev_load_pt rfl rfl rfl hq (ptr_get hb) (veq_ptr _ _) ?_
        repeat (
          first
            | refine WO_dst rfl rfl (by kernel_rfl) (by kernel_rfl) ?_
            | refine Ev_load rfl rfl rfl hone.cell rfl (veq_map _) ?_
            | refine Ev_move rfl ?_
            | refine Ev_nilCheck rfl ?_
            | refine Ev_fieldAddr rfl rfl rfl rfl rfl rfl ?_)
        refine Ev_look2 (k := nm) (z := .agg [.str [], .int .i64 0]) rfl rfl rfl rfl rfl rfl strK_ok hone.off rfl (fun a _ => off_veq a) ?_
        rw [look_off]
        repeat (
          first
            | refine WO_dst rfl rfl (by kernel_rfl) (by kernel_rfl) ?_
            | refine Ev_move rfl ?_
            | refine Ev_extract rfl rfl ?_)
        refine Ev_alloc_ rfl h.ok (by omega) ?_
        intro S1 n1 ok1 q1 f1
        repeat (
          refine WO_no rfl rfl ?_)
        refine Ev_store rfl rfl rfl rfl rfl q1 (by show 0 + 2 ≤ 2; decide) (by omega) ?_
        intro S2 n2 q2 f2
        have ok2 : Sok S2 := sok_upd ok1 (by omega) n2 q2 f2
        have f02 : ∀ c, c < S.n → S2.h.get c = S.h.get c := fun c hc => by rw [f2 c (by omega), f1 c hc]
        have h2 : Ls S2 p y st := h.far ok2 f02 y.tg (fun _ _ => rfl)
        have hone2 : OneAt S2 b st.ones[j] := h2.one j b _ hb ho
        cases hA : alook nm st.ones[j].off with
        | some o =>
          repeat (
            first
              | refine W_seq ?_
              | refine WO_nil ?_
              | refine V_seq ?_
              | refine W_region ?_
              | refine W_ret ?_
              | refine V_ret ?_
              | refine W_cond_t rfl ?_
              | refine WO_dst rfl rfl (by kernel_rfl) (by kernel_rfl) ?_
              | refine Ev_move rfl ?_
              | refine Ev_assign rfl ?_)
          refine V_done rfl rfl ?_
          exact ⟨23, st, y, rfl, .taken hall o (by rw [hoS, hA]), h2, ⟨by omega, by omega, fun _ _ => rfl, fun c hc _ => f02 c hc⟩⟩
        | none =>
          repeat (
            first
              | refine W_seq ?_
              | refine WO_nil ?_
              | refine V_seq ?_
              | refine W_region ?_
              | refine W_skip ?_
              | refine W_cond_f rfl ?_
              | refine WO_dst rfl rfl (by kernel_rfl) (by kernel_rfl) ?_
              | refine Ev_load rfl rfl rfl h2.at_ rfl h2.l.rd.self ?_
              | refine Ev_move rfl ?_
              | refine Ev_assign rfl ?_
              | refine Ev_nilCheck rfl ?_
              | refine Ev_fieldAddr rfl rfl rfl rfl rfl rfl ?_)
          refine Ev_indexAddr_rd rfl rfl rfl rfl rfl h2.l.rd hjb ?_
          intro q3 hq3
          repeat (
            refine WO_dst rfl rfl (by kernel_rfl) (by kernel_rfl) ?_)
          refine Ev_load_pt rfl rfl rfl hq3 (ptr_get hb) (veq_ptr _ _) ?_
          repeat (
            first
              | refine WO_dst rfl rfl (by kernel_rfl) (by kernel_rfl) ?_
              | refine Ev_load rfl rfl rfl hone2.cell rfl (veq_map _) ?_
              | refine Ev_move rfl ?_
              | refine Ev_nilCheck rfl ?_
              | refine Ev_fieldAddr rfl rfl rfl rfl rfl rfl ?_)
          refine Ev_build (v := .agg [.str sup, .int .i64 id]) rfl rfl ?_
          repeat (
            refine WO_no rfl rfl ?_)
          have hrl := hone2.off.lt ok2
          refine Ev_mapUpdate (k := nm) (vv := offV) (sup, id) rfl rfl rfl rfl rfl strK_ok hone2.off (by omega) ?_
          intro S3 n3 m3 f3
          have ok3 := mp_sok m3 ok2 hrl n3 f3
          have h3 := h2.put_off ok3 hb ho nm (sup, id) m3 f3
          have t3 := (h.tb j b hb).2.1
          repeat (
            first
              | refine W_seq ?_
              | refine WO_nil ?_
              | refine V_seq ?_
              | refine W_region ?_
              | refine W_ret ?_
              | refine WO_dst rfl rfl (by kernel_rfl) (by kernel_rfl) ?_
              | refine Ev_assign rfl ?_)
          refine V_done rfl rfl ?_
          refine ⟨0, _, y, rfl, .put hall (by rw [hoS, hA]) st.ones[j] (by rw [Int.toNat_natCast]; exact ho), by rw [Int.toNat_natCast]; exact h3, ⟨by omega, by omega, fun _ _ => rfl, fun c hc h5 => ?_⟩⟩
          rw [f3 c (fun e => by rw [e, t3] at h5; omega), f02 c hc]
    · rw [decide_eq_false hnp]
      repeat (
        first
          | refine W_seq ?_
          | refine WO_nil ?_
          | refine V_seq ?_
          | refine W_region ?_
          | refine W_ret ?_
          | refine V_ret ?_
          | refine W_cond_t rfl ?_
          | refine WO_dst rfl rfl (by kernel_rfl) (by kernel_rfl) ?_
          | refine WO_guard_t rfl rfl rfl rfl rfl (by kernel_rfl) (by kernel_rfl) ?_
          | refine WO_guard_f rfl rfl rfl rfl rfl rfl (by kernel_rfl) (by kernel_rfl) ?_
          | refine WO_guard_x rfl rfl rfl rfl rfl (by kernel_rfl) (by kernel_rfl) ?_
          | refine Ev_move rfl ?_
          | refine Ev_assign rfl ?_
          | refine Ev_pick_t rfl rfl rfl ?_
          | refine Ev_pick_f rfl rfl rfl ?_
          | refine Ev_notb rfl ?_)
      refine V_done rfl rfl ?_
      exact ⟨1, st, y, rfl, .arg (fun hh => hnp hh.2.1), h, ⟨Nat.le_refl _, by omega, fun _ _ => rfl, fun _ _ _ => rfl⟩⟩
  · rw [decide_eq_false hi]
    repeat (
      first
        | refine W_seq ?_
        | refine WO_nil ?_
        | refine V_seq ?_
        | refine W_region ?_
        | refine W_ret ?_
        | refine V_ret ?_
        | refine W_cond_t rfl ?_
        | refine WO_dst rfl rfl (by kernel_rfl) (by kernel_rfl) ?_
        | refine WO_guard_f rfl rfl rfl rfl rfl rfl (by kernel_rfl) (by kernel_rfl) ?_
        | refine WO_guard_x rfl rfl rfl rfl rfl (by kernel_rfl) (by kernel_rfl) ?_
        | refine Ev_move rfl ?_
        | refine Ev_assign rfl ?_
        | refine Ev_pick_t rfl rfl rfl ?_
        | refine Ev_notb rfl ?_)
    refine V_done rfl rfl ?_
    exact ⟨1, st, y, rfl, .arg (fun hh => hi hh.1), h, ⟨Nat.le_refl _, by omega, fun _ _ => rfl, fun _ _ _ => rfl⟩⟩
end Go.Proofs.Ytjbpegggfacojaa
/- carafelaw15.LoaderSteady: what loaders keep: the plain law. -/



namespace Go.Proofs.Ytjbpegggfacojaa
open GX
set_option maxHeartbeats 16000000
theorem UF.uniq {l : List Int} {rt d rt' d' : Nat → Nat} (h : UF l rt d) (g : UF l rt' d') : ∀ n i, d i = n → i < l.length → rt i = rt' i := by
  intro n
  induction n using Nat.strongRecOn with
  | ind n ih =>
    intro i hn hi
    obtain ⟨q, k1, k2, k3, k4, k5⟩ := h i hi
    obtain ⟨q', m1, m2, m3, m4, m5⟩ := g i hi
    rw [k1] at m1
    have e : q = q' := by have := Option.some.inj m1; omega
    subst e
    rcases k3 with e | k3
    · rw [k5 e, m5 e]
    · rw [← k4, ← m4]
      exact ih (d q) (by omega) q rfl k2
theorem UF.root {l : List Int} {rt d : Nat → Nat} (h : UF l rt d) : ∀ n i, d i = n → i < l.length → rt (rt i) = rt i ∧ l[rt i]? = some ((rt i : Nat) : Int) := by
  intro n
  induction n using Nat.strongRecOn with
  | ind n ih =>
    intro i hn hi
    obtain ⟨q, k1, k2, k3, k4, k5⟩ := h i hi
    rcases k3 with e | k3
    · rw [k5 e, k5 e]
      exact ⟨rfl, by rw [k1, e]⟩
    · rw [← k4]
      exact ih (d q) (by omega) q rfl k2
theorem UF.merge {l : List Int} {rt d : Nat → Nat} (h : UF l rt d) {rx ry : Nat} (hx : rt rx = rx) (hy : rt ry = ry) (hxl : rx < l.length) (hyl : ry < l.length) (hne : rx ≠ ry) :
    UF (l.set rx ((ry : Nat) : Int)) (fun i => if rt i = rx then ry else rt i) (fun i => if rt i = rx then d i + d ry + 1 else d i) := by
  intro i hi
  rw [List.length_set] at hi ⊢
  by_cases hir : rx = i
  · subst hir
    refine ⟨ry, List.getElem?_set_self hxl, hyl, .inr ?_, ?_, fun e => absurd e.symm hne⟩
    · dsimp only
      rw [if_neg (by rw [hy]; exact Ne.symm hne), if_pos hx]; omega
    · dsimp only
      rw [if_neg (by rw [hy]; exact Ne.symm hne), if_pos hx, hy]
  · rw [List.getElem?_set_ne hir]
    obtain ⟨q, k1, k2, k3, k4, k5⟩ := h i hi
    refine ⟨q, k1, k2, ?_, by dsimp only; rw [k4], fun e => ?_⟩
    · dsimp only
      rw [k4]
      split
      · rcases k3 with e | k3
        · exact .inl e
        · exact .inr (by omega)
      · exact k3
    · dsimp only
      have := k5 e
      rw [this, if_neg (fun e => hir e.symm)]
def Lk (st : LdS) (rt : Nat → Nat) : Prop := ∀ (n : Nat) nm x, hasS st ((n : Nat) : Int) nm = some x → 0 ≤ x.1 ∧ ∃ i : Nat, alook (((n : Nat) : Int), nm) st.keys = some ((i : Nat) : Int) ∧ st.ids[rt i]? = some x.1
def Pk (st : LdS) (rt : Nat → Nat) (ps : List (Nat × Nat × Nm)) : Prop := ∀ q ∈ ps, ∃ i j : Nat, alook (((q.1 : Nat) : Int), q.2.2) st.keys = some ((i : Nat) : Int) ∧ alook (((q.2.1 : Nat) : Int), q.2.2) st.keys = some ((j : Nat) : Int) ∧ rt i = rt j
/-- what keeps -/
structure Kp (st : LdS) (ps : List (Nat × Nat × Nm)) (rt d : Nat → Nat) : Prop where
  ok : LdOK st rt d
  lk : Lk st rt
  pk : Pk st rt ps
def Inv (st : LdS) (ps : List (Nat × Nat × Nm)) : Prop := (∃ rt d, Kp st ps rt d) ∧ ∀ (n : Nat) nm o, offS st ((n : Nat) : Int) nm = some o → 0 ≤ o.2
theorem Kp.cong {st : LdS} {ps : List (Nat × Nat × Nm)} {rt d rt' d' : Nat → Nat} (h : Kp st ps rt d) (g : LdOK st rt' d') : Kp st ps rt' d' := by
  have he : ∀ i, i < st.prs.length → rt i = rt' i := fun i hi => h.ok.uf.uniq g.uf _ i rfl hi
  have hk : ∀ k (i : Nat), alook k st.keys = some ((i : Nat) : Int) → i < st.prs.length := fun k i hi => by
    obtain ⟨j, e, hj⟩ := h.ok.keys k _ hi
    omega
  refine ⟨g, fun n nm x hx => ?_, fun q hq => ?_⟩
  · obtain ⟨h1, i, h2, h3⟩ := h.lk n nm x hx
    exact ⟨h1, i, h2, by rw [← he i (hk _ _ h2)]; exact h3⟩
  · obtain ⟨i, j, h1, h2, h3⟩ := h.pk q hq
    exact ⟨i, j, h1, h2, by rw [← he i (hk _ _ h1), ← he j (hk _ _ h2)]; exact h3⟩
/-- a root that was found -/
structure Rt (st : LdS) (k : Int × Nm) (r : Nat) (rt : Nat → Nat) : Prop where
  root : rt r = r
  lt : r < st.prs.length
  key : ∃ i : Nat, alook k st.keys = some ((i : Nat) : Int) ∧ rt i = r
theorem RootX.keep {st st1 : LdS} {k : Int × Nm} {r : Nat} {ps : List (Nat × Nat × Nm)} {rt0 d0 : Nat → Nat} (h : RootX st k r st1) (g : Kp st ps rt0 d0) : ∃ rt d, Kp st1 ps rt d ∧ Rt st1 k r rt ∧ (∀ i, i < st.prs.length → rt i = rt0 i) ∧ ∀ k' v, alook k' st.keys = some v → alook k' st1.keys = some v := by
  obtain ⟨_, ho, _, _, hrl⟩ := h.ok
  obtain ⟨rt, d, hk, hr⟩ := h
  have he : ∀ i, i < st.prs.length → rt i = rt0 i := fun i hi => hk.uf.uniq g.ok.uf _ i rfl hi
  replace g := g.cong hk
  have hh : ∀ n nm, hasS st1 n nm = hasS st n nm := fun n nm => by unfold hasS; rw [ho]
  have hkl : ∀ k' (i : Nat), alook k' st.keys = some ((i : Nat) : Int) → i < st.prs.length := fun k' i hi => by
    obtain ⟨j, e, hj⟩ := hk.keys k' _ hi
    omega
  cases ha : alook k st.keys with
  | some v =>
    obtain ⟨h1, h2, h3, h4, h5, h6⟩ := hr.old v ha
    obtain ⟨i0, rfl, hi0⟩ := hk.keys k v ha
    rw [Int.toNat_natCast] at h1
    refine ⟨rt, d, ⟨⟨h6, by rw [h5, h4]; exact hk.pi, fun k' v' hv => by rw [h3] at hv; rw [h5]; exact hk.keys k' v' hv, by rw [h2]; exact hk.small⟩, fun n nm x hx => ?_, fun q hq => ?_⟩, ⟨by rw [h1]; exact (hk.uf.root _ _ rfl hi0).1, hrl, i0, by rw [h3]; exact ha, h1.symm⟩, he, fun k' v' hv => by rw [h3]; exact hv⟩
    · rw [hh] at hx
      rw [h3, h4]
      exact g.lk n nm x hx
    · rw [h3]
      exact g.pk q hq
  | none =>
    obtain ⟨h1, h2⟩ := hr.new ha
    have hpi := hk.pi
    have hlt : ∀ i, i < st.prs.length → rt i < st.prs.length := fun i hi => hk.uf.rt_lt _ i rfl hi
    have hkeep : ∀ k' v, alook k' st.keys = some v → alook k' st1.keys = some v := fun k' v hv => by
      rw [h2]
      show alook k' (aput k ((r : Nat) : Int) st.keys) = _
      rw [alook_aput, if_neg (fun e => by rw [e, ha] at hv; cases hv)]
      exact hv
    refine ⟨fun x => if x = st.prs.length then st.prs.length else rt x, d, ⟨⟨?_, ?_, ?_, ?_⟩, fun n nm x hx => ?_, fun q hq => ?_⟩, ⟨by rw [if_pos h1, h1], hrl, r, ?_, by rw [if_pos h1, h1]⟩, fun i hi => by dsimp only; rw [if_neg (by omega)]; exact he i hi, hkeep⟩
    · rw [h2, h1]; exact hk.uf.snoc
    · rw [h2]; show (st.prs ++ _).length = (st.ids ++ _).length; rw [List.length_append, List.length_append, hpi]; rfl
    · intro k' v' hv
      rw [h2] at hv ⊢
      have hv : alook k' (aput k ((r : Nat) : Int) st.keys) = some v' := hv
      show ∃ i : Nat, v' = i ∧ i < (st.prs ++ [((r : Nat) : Int)]).length
      rw [List.length_append, List.length_singleton]
      rw [alook_aput] at hv
      by_cases e : k' = k
      · rw [if_pos e] at hv; cases hv
        exact ⟨r, rfl, by omega⟩
      · rw [if_neg e] at hv
        obtain ⟨i, e1, e2⟩ := hk.keys k' v' hv
        exact ⟨i, e1, by omega⟩
    · rw [ho]; exact hk.small
    · rw [hh] at hx
      obtain ⟨g1, i, g2, g3⟩ := g.lk n nm x hx
      have hil := hkl _ _ g2
      refine ⟨g1, i, hkeep _ _ g2, ?_⟩
      rw [h2]
      show (st.ids ++ [newId st k.1 k.2])[if i = st.prs.length then st.prs.length else rt i]? = _
      rw [if_neg (by omega), List.getElem?_append_left (by rw [← hpi]; exact hlt i hil)]
      exact g3
    · obtain ⟨i, j, g1, g2, g3⟩ := g.pk q hq
      have hil := hkl _ _ g1
      have hjl := hkl _ _ g2
      refine ⟨i, j, hkeep _ _ g1, hkeep _ _ g2, ?_⟩
      rw [if_neg (by omega), if_neg (by omega)]; exact g3
    · rw [h2]
      show alook k (aput k ((r : Nat) : Int) st.keys) = _
      rw [alook_aput, if_pos rfl]
/-- what is loaded stays -/
def Ex (st st' : LdS) : Prop := ∀ (n : Nat) nm x, hasS st ((n : Nat) : Int) nm = some x → hasS st' ((n : Nat) : Int) nm = some x
theorem offS_ones {st st' : LdS} (h : st'.ones = st.ones) (n : Int) (nm : Nm) : offS st' n nm = offS st n nm := by unfold offS; rw [h]
theorem hasS_same {st st' : LdS} (h : st'.ones = st.ones) (n : Int) (nm : Nm) : hasS st' n nm = hasS st n nm := by unfold hasS; rw [h]
theorem hasS_put2 {st : LdS} {j : Nat} {o : One} {l : List (Nm × (Int × Int))} (ho : st.ones[j]? = some o) (k : Nat) (nm : Nm) : hasS (st.put j { o with ldd := l }) ((k : Nat) : Int) nm = if k = j then alook nm l else hasS st ((k : Nat) : Int) nm := by
  have hj := (List.getElem?_eq_some_iff.1 ho).1
  unfold hasS
  rw [Int.toNat_natCast]
  show (match (st.ones.set j { o with ldd := l })[k]? with | some o => alook nm o.ldd | none => none) = _
  by_cases e : k = j
  · subst e
    rw [List.getElem?_set_self hj, if_pos rfl]
  · rw [List.getElem?_set_ne (Ne.symm e), if_neg e]; rfl
theorem SetX.keep {st st' : LdS} {k : Nat} {nm : Nm} {x : Int × Int} {e : Int} {ps : List (Nat × Nat × Nm)} (h : SetX st k nm x e st') (hx : 0 ≤ x.1) (g : Inv st ps) : Inv st' ps ∧ Ex st st' ∧ (e = 0 → (hasS st' ((k : Nat) : Int) nm).isSome = true) := by
  obtain ⟨_, hsk, _⟩ := h.ok
  obtain ⟨⟨rt0, d0, gk⟩, goff⟩ := g
  have hoff : ∀ (n : Nat) nm o, offS st' ((n : Nat) : Int) nm = some o → 0 ≤ o.2 := fun n nm o ho => goff n nm o (by rw [← hsk.offS]; exact ho)
  obtain ⟨rt, d, hk, hs⟩ := h
  cases hs with
  | had v h => exact ⟨⟨⟨rt0, d0, gk⟩, hoff⟩, fun _ _ _ h => h, fun _ => by rw [h]; rfl⟩
  | bound st1 r h hr v hv h1 =>
    have hX : RootX st (((k : Nat) : Int), nm) r st' := ⟨rt, d, hk, hr⟩
    obtain ⟨rt1, d1, k1, _⟩ := hX.keep gk
    exact ⟨⟨⟨rt1, d1, k1⟩, hoff⟩, fun n nm' x' hx' => by rw [hasS_same hX.ok.2.1]; exact hx', fun e => by cases e⟩
  | put st1 r o h hr v hv h1 ho =>
    have hX : RootX st (((k : Nat) : Int), nm) r st1 := ⟨rt, d, hk, hr⟩
    obtain ⟨rt1, d1, k1, hrt, _⟩ := hX.keep gk
    have ho1 : st1.ones[k]? = some o := by rw [hX.ok.2.1]; exact ho
    have hhas : ∀ (n : Nat) nm', hasS ({ st1 with ids := st1.ids.set r x.1 }.put k { o with ldd := aput nm x o.ldd }) ((n : Nat) : Int) nm' = if n = k ∧ nm' = nm then some x else hasS st ((n : Nat) : Int) nm' := fun n nm' => by
      rw [hasS_put2 (st := { st1 with ids := st1.ids.set r x.1 }) (o := o) ho1 n nm']
      by_cases e1 : n = k
      · subst e1
        have hal : hasS st ((n : Nat) : Int) nm' = alook nm' o.ldd := by unfold hasS; rw [Int.toNat_natCast, ho]
        rw [if_pos rfl, alook_aput, hal]
        by_cases e2 : nm' = nm
        · rw [if_pos e2, if_pos ⟨rfl, e2⟩]
        · rw [if_neg e2, if_neg (fun e => e2 e.2)]
      · rw [if_neg e1, if_neg (fun e => e1 e.1)]
        exact (hasS_same (st := st1) rfl _ _).trans (hasS_same hX.ok.2.1 _ _)
    have hridl : r < st1.ids.length := by rw [← k1.ok.pi]; exact hrt.lt
    refine ⟨⟨⟨rt1, d1, ⟨k1.ok.uf, ?_, k1.ok.keys, ?_⟩, fun n nm' x' hx' => ?_, k1.pk⟩, hoff⟩, fun n nm' x' hx' => ?_, fun _ => by rw [hhas, if_pos ⟨rfl, rfl⟩]; rfl⟩
    · show st1.prs.length = (st1.ids.set r x.1).length
      rw [List.length_set]; exact k1.ok.pi
    · show (st1.ones.set k _).length ≤ 100
      rw [List.length_set]; exact k1.ok.small
    · rw [hhas] at hx'
      show 0 ≤ x'.1 ∧ ∃ i : Nat, alook (((n : Nat) : Int), nm') st1.keys = some ((i : Nat) : Int) ∧ (st1.ids.set r x.1)[rt1 i]? = some x'.1
      by_cases e : n = k ∧ nm' = nm
      · rw [if_pos e] at hx'; cases hx'
        obtain ⟨i, g1, g2⟩ := hrt.key
        refine ⟨hx, i, by rw [e.1, e.2]; exact g1, ?_⟩
        rw [g2, List.getElem?_set_self hridl]
      · rw [if_neg e] at hx'
        obtain ⟨g1, i, g2, g3⟩ := k1.lk n nm' x' (by rw [hasS_same hX.ok.2.1]; exact hx')
        refine ⟨g1, i, g2, ?_⟩
        by_cases hir : r = rt1 i
        · rw [← hir, hv] at g3
          cases g3
          rw [← hir, List.getElem?_set_self hridl]
          have : x'.1 = x.1 := Classical.byContradiction fun hc => h1 ⟨g1, hc⟩
          rw [this]
        · rw [List.getElem?_set_ne hir]; exact g3
    · rw [hhas]
      by_cases e : n = k ∧ nm' = nm
      · rw [e.1, e.2, h] at hx'; cases hx'
      · rw [if_neg e]; exact hx'
theorem SetsX.keep {nm : Nm} {x : Int × Int} {st st' : LdS} {l : List Int} {e : Int} {ps : List (Nat × Nat × Nm)} (h : SetsX nm x st l e st') (hx : 0 ≤ x.1) : Inv st ps → Inv st' ps ∧ Ex st st' ∧ Sk st st' ∧ (e = 0 → ∀ k : Nat, ((k : Nat) : Int) ∈ l → (hasS st' ((k : Nat) : Int) nm).isSome = true) := by
  induction h with
  | nil st => exact fun g => ⟨g, fun _ _ _ h => h, .refl _, fun _ k hk => by cases hk⟩
  | stop st k l e st1 h he =>
    intro g
    obtain ⟨a1, a2, _⟩ := h.keep hx g
    exact ⟨a1, a2, h.ok.2.1, fun e => absurd e he⟩
  | next st k l e st1 st2 h h2 ih =>
    intro g
    obtain ⟨a1, a2, a3⟩ := h.keep hx g
    obtain ⟨b1, b2, b3, b4⟩ := ih a1
    refine ⟨b1, fun n nm' x' hx' => b2 _ _ _ (a2 _ _ _ hx'), h.ok.2.1.trans b3, fun e0 q hq => ?_⟩
    rcases List.mem_cons.1 hq with hq | hq
    · have : q = k := by omega
      subst this
      have hs := a3 rfl
      cases hh : hasS st1 ((q : Nat) : Int) nm with
      | some v => rw [b2 _ _ _ hh]; rfl
      | none => rw [hh] at hs; cases hs
    · exact b4 e0 q hq
theorem line_last {st : LdS} (h : ParOK st) {n : Nat} (hn : n < st.ones.length) {i : Nat} (hi : i < (lineS st ((n : Nat) : Int)).length) : ((n : Nat) : Int) ∈ (lineS st ((n : Nat) : Int)).drop i := by
  have e : lineS st ((n : Nat) : Int) = (up st (parS st ((n : Nat) : Int))).reverse ++ [((n : Nat) : Int)] := by
    unfold lineS; rw [up_cons h (by omega) (by omega), List.reverse_cons]
  rw [e] at hi ⊢
  rw [List.length_append, List.length_singleton] at hi
  rw [List.drop_append_of_le_length (by omega)]
  exact List.mem_append_right _ (List.mem_cons_self ..)
theorem LoadO.keep {st st' : LdS} {n : Int} {nm : Nm} {lm lm' : List ((Int × Nm) × Int)} {x : Int × Int} {e : Int} {ps : List (Nat × Nat × Nm)} (h : LoadO st n nm lm x e st' lm') : ParOK st → Inv st ps → 0 ≤ n → n < (st.ones.length : Int) →
    Inv st' ps ∧ Ex st st' ∧ Sk st st' ∧ (e = 0 → hasS st' n nm = some x) := by
  induction h with
  | had n nm lm v h => exact fun _ g _ _ => ⟨g, fun _ _ _ h => h, .refl _, fun _ => h⟩
  | none n nm lm h hf => exact fun _ g _ _ => ⟨g, fun _ _ _ h => h, .refl _, fun e => by cases e⟩
  | circ n nm lm i by_ h hf hb hx hl => exact fun _ g _ _ => ⟨g, fun _ _ _ h => h, .refl _, fun e => by cases e⟩
  | done n nm lm i by_ x e st' h hf hb hx hs =>
    intro hp g h0 hn
    obtain ⟨k, rfl⟩ : ∃ k : Nat, n = k := ⟨n.toNat, by omega⟩
    have hil := (List.getElem?_eq_some_iff.1 hb).1
    obtain ⟨q0, q1⟩ := (line_lt hp hn).2 _ (List.mem_of_getElem? hb)
    obtain ⟨q, rfl⟩ : ∃ q : Nat, by_ = q := ⟨by_.toNat, by omega⟩
    obtain ⟨⟨rt, d, gk⟩, _⟩ := id g
    obtain ⟨a1, a2, a3, a4⟩ := hs.keep (gk.lk q nm x hx).1 g
    refine ⟨a1, a2, a3, fun e0 => ?_⟩
    have hs2 := a4 e0 k (line_last hp (by omega) hil)
    rw [if_pos e0]
    cases hh : hasS st' ((k : Nat) : Int) nm with
    | some v => rfl
    | none => rw [hh] at hs2; cases hs2
  | sup n nm lm i by_ o r e1 st1 lm1 h hf hb hx hl ho hne hr he ih =>
    intro hp g h0 hn
    obtain ⟨q0, q1⟩ := (line_lt hp hn).2 _ (List.mem_of_getElem? hb)
    obtain ⟨a1, a2, a3, _⟩ := ih hp g q0 q1
    exact ⟨a1, a2, a3, fun e => absurd e he⟩
  | def0 n nm lm i by_ o e st' lm' h hf hb hx hl ho hne hs =>
    intro hp g h0 hn
    obtain ⟨k, rfl⟩ : ∃ k : Nat, n = k := ⟨n.toNat, by omega⟩
    have hil := (List.getElem?_eq_some_iff.1 hb).1
    obtain ⟨q0, q1⟩ := (line_lt hp hn).2 _ (List.mem_of_getElem? hb)
    obtain ⟨q, rfl⟩ : ∃ q : Nat, by_ = q := ⟨by_.toNat, by omega⟩
    obtain ⟨a1, a2, a3, a4⟩ := hs.keep (g.2 q nm o ho) g
    refine ⟨a1, a2, a3, fun e0 => ?_⟩
    have hs2 := a4 e0 k (line_last hp (by omega) hil)
    rw [if_pos e0]
    cases hh : hasS st' ((k : Nat) : Int) nm with
    | some v => rfl
    | none => rw [hh] at hs2; cases hs2
  | def1 n nm lm i by_ o r st1 lm1 e st' lm' h hf hb hx hl ho hne hr hs ih =>
    intro hp g h0 hn
    obtain ⟨k, rfl⟩ : ∃ k : Nat, n = k := ⟨n.toNat, by omega⟩
    have hil := (List.getElem?_eq_some_iff.1 hb).1
    obtain ⟨q0, q1⟩ := (line_lt hp hn).2 _ (List.mem_of_getElem? hb)
    obtain ⟨b1, b2, b3, _⟩ := ih hp g q0 q1
    obtain ⟨q, rfl⟩ : ∃ q : Nat, by_ = q := ⟨by_.toNat, by omega⟩
    obtain ⟨a1, a2, a3, a4⟩ := hs.keep (g.2 q nm o ho) b1
    refine ⟨a1, fun n nm' x' hx' => a2 _ _ _ (b2 _ _ _ hx'), b3.trans a3, fun e0 => ?_⟩
    have hs2 := a4 e0 k (line_last hp (by omega) hil)
    rw [if_pos e0]
    cases hh : hasS st' ((k : Nat) : Int) nm with
    | some v => rfl
    | none => rw [hh] at hs2; cases hs2
/-- all that keeps, of the loaders and of what was agreed on -/
structure All (st : LdS) (ps : List (Nat × Nat × Nm)) : Prop where
  inv : Inv st ps
  par : ParOK st
theorem LoadS.keep {st st' : LdS} {n : Int} {nm : Nm} {x : Int × Int} {e : Int} {ps : List (Nat × Nat × Nm)} (h : LoadS st n nm x e st') (g : All st ps) : All st' ps ∧ Ex st st' ∧ Sk st st' ∧ (e = 0 → isL st n ∧ hasS st' n nm = some x) := by
  cases h with
  | arg h => exact ⟨g, fun _ _ _ h => h, .refl _, fun e => by cases e⟩
  | bad h x0 e st' lm hl he =>
    obtain ⟨a1, a2, a3, _⟩ := hl.keep g.par g.inv h.1 h.2
    exact ⟨⟨a1, a3.parOK g.par⟩, a2, a3, fun e => absurd e he⟩
  | good h x st' lm hl =>
    obtain ⟨a1, a2, a3, a4⟩ := hl.keep g.par g.inv h.1 h.2
    exact ⟨⟨a1, a3.parOK g.par⟩, a2, a3, fun _ => ⟨h, a4 rfl⟩⟩
theorem child_keep {st : LdS} {n : Int} {ps : List (Nat × Nat × Nm)} (g : All st ps) : All (childS st n).2 ps ∧ Ex st (childS st n).2 := by
  unfold childS
  by_cases h1 : isL st n
  · rw [if_pos h1]
    by_cases h2 : 16 ≤ st.ones.length
    · rw [if_pos h2]; exact ⟨g, fun _ _ _ h => h⟩
    · rw [if_neg h2]
      have hhas : ∀ (k : Nat) nm, hasS { st with ones := st.ones ++ [⟨n, [], []⟩] } ((k : Nat) : Int) nm = hasS st ((k : Nat) : Int) nm := fun k nm => by
        unfold hasS
        rw [Int.toNat_natCast]
        dsimp only
        by_cases hk : k < st.ones.length
        · rw [List.getElem?_append_left hk]
        · rw [List.getElem?_eq_none (l := st.ones) (by omega)]
          by_cases hk2 : k = st.ones.length
          · subst hk2; simp [alook]
          · rw [List.getElem?_eq_none (by simp; omega)]
      have hoff : ∀ (k : Nat) nm, offS { st with ones := st.ones ++ [⟨n, [], []⟩] } ((k : Nat) : Int) nm = offS st ((k : Nat) : Int) nm := fun k nm => by
        unfold offS
        rw [Int.toNat_natCast]
        dsimp only
        by_cases hk : k < st.ones.length
        · rw [List.getElem?_append_left hk]
        · rw [List.getElem?_eq_none (l := st.ones) (by omega)]
          by_cases hk2 : k = st.ones.length
          · subst hk2; simp [alook]
          · rw [List.getElem?_eq_none (by simp; omega)]
      obtain ⟨⟨rt, d, gk⟩, go⟩ := g.inv
      refine ⟨⟨⟨⟨rt, d, ⟨gk.ok.uf, gk.ok.pi, gk.ok.keys, by dsimp only; rw [List.length_append, List.length_singleton]; omega⟩, fun k nm x hx => gk.lk k nm x (by rw [← hhas]; exact hx), gk.pk⟩, fun k nm o ho => go k nm o (by rw [← hoff]; exact ho)⟩, fun j o ho => ?_⟩, fun k nm x hx => (hhas k nm).trans hx⟩
      dsimp only at ho
      by_cases hj : j < st.ones.length
      · rw [List.getElem?_append_left hj] at ho
        exact g.par j o ho
      · have h3 := (List.getElem?_eq_some_iff.1 ho).1
        simp at h3
        have : j = st.ones.length := by omega
        subst this
        simp at ho
        subst ho
        unfold isL at h1
        dsimp only
        omega
  · rw [if_neg h1]; exact ⟨g, fun _ _ _ h => h⟩
theorem OfferS.keep {st st' : LdS} {n id : Int} {nm sup : Nm} {e : Int} {ps : List (Nat × Nat × Nm)} (h : OfferS st n nm sup id e st') (g : All st ps) : All st' ps ∧ Ex st st' := by
  cases h with
  | arg h => exact ⟨g, fun _ _ _ h => h⟩
  | taken h o ho => exact ⟨g, fun _ _ _ h => h⟩
  | put h ho o hn =>
    have hj := (List.getElem?_eq_some_iff.1 hn).1
    have hhas : ∀ (k : Nat) nm', hasS (st.put n.toNat { o with off := aput nm (sup, id) o.off }) ((k : Nat) : Int) nm' = hasS st ((k : Nat) : Int) nm' := fun k nm' => by
      unfold hasS
      rw [Int.toNat_natCast]
      show (match (st.ones.set n.toNat { o with off := aput nm (sup, id) o.off })[k]? with | some o => alook nm' o.ldd | none => none) = _
      by_cases e : n.toNat = k
      · subst e
        rw [List.getElem?_set_self hj, hn]
      · rw [List.getElem?_set_ne e]; rfl
    have hoff : ∀ (k : Nat) nm', offS (st.put n.toNat { o with off := aput nm (sup, id) o.off }) ((k : Nat) : Int) nm' = if n.toNat = k ∧ nm' = nm then some (sup, id) else offS st ((k : Nat) : Int) nm' := fun k nm' => by
      unfold offS
      rw [Int.toNat_natCast]
      show (match (st.ones.set n.toNat { o with off := aput nm (sup, id) o.off })[k]? with | some o => alook nm' o.off | none => none) = _
      by_cases e : n.toNat = k
      · subst e
        rw [List.getElem?_set_self hj, hn]
        dsimp only
        rw [alook_aput]
        by_cases e2 : nm' = nm
        · rw [if_pos e2, if_pos ⟨rfl, e2⟩]
        · rw [if_neg e2, if_neg (fun q => e2 q.2)]
      · rw [List.getElem?_set_ne e, if_neg (fun q => e q.1)]; rfl
    obtain ⟨⟨rt, d, gk⟩, go⟩ := g.inv
    refine ⟨⟨⟨⟨rt, d, ⟨gk.ok.uf, gk.ok.pi, gk.ok.keys, by show (st.ones.set _ _).length ≤ 100; rw [List.length_set]; exact gk.ok.small⟩, fun k nm x hx => gk.lk k nm x (by rw [← hhas]; exact hx), gk.pk⟩, fun k nm' o' ho' => ?_⟩, fun j q hq => ?_⟩, fun k nm' x hx => (hhas k nm').trans hx⟩
    · rw [hoff] at ho'
      by_cases e : n.toNat = k ∧ nm' = nm
      · rw [if_pos e] at ho'; cases ho'; exact h.2.2.2
      · rw [if_neg e] at ho'; exact go k nm' o' ho'
    · have hq : (st.ones.set n.toNat { o with off := aput nm (sup, id) o.off })[j]? = some q := hq
      by_cases e : n.toNat = j
      · subst e
        rw [List.getElem?_set_self hj] at hq; cases hq
        exact g.par _ o hn
      · rw [List.getElem?_set_ne e] at hq
        exact g.par j q hq
theorem AgreeS.keep {st st' : LdS} {a b : Nat} {nm : Nm} {e : Int} {ps : List (Nat × Nat × Nm)} (h : AgreeS st ((a : Nat) : Int) ((b : Nat) : Int) nm e st') (g : All st ps) : All st' (if e = 0 then (a, b, nm) :: ps else ps) ∧ Ex st st' := by
  cases h with
  | arg h => exact ⟨by rw [if_neg (by decide)]; exact g, fun _ _ _ h => h⟩
  | bound h st1 st2 rx ry vx vy h1 h2 hx hy hb =>
    rw [if_neg (by decide)]
    obtain ⟨⟨rt, d, gk⟩, go⟩ := g.inv
    obtain ⟨rt1, d1, k1, _⟩ := h1.keep gk
    obtain ⟨rt2, d2, k2, _⟩ := h2.keep k1
    have ho : st'.ones = st.ones := h2.ok.2.1.trans h1.ok.2.1
    exact ⟨⟨⟨⟨rt2, d2, k2⟩, fun n nm o hh => go n nm o (by rw [← offS_ones ho]; exact hh)⟩, (Sk.of ho).parOK g.par⟩, fun n nm x hh => by rw [hasS_same ho]; exact hh⟩
  | ok h st1 st2 rx ry vx vy h1 h2 hx hy hb =>
    rw [if_pos rfl]
    obtain ⟨⟨rt, d, gk⟩, go⟩ := g.inv
    obtain ⟨rt1, d1, k1, r1, _, kk1⟩ := h1.keep gk
    obtain ⟨rt2, d2, k2, r2, he2, kk2⟩ := h2.keep k1
    have ho : st2.ones = st.ones := h2.ok.2.1.trans h1.ok.2.1
    have hrx : rt2 rx = rx := by rw [he2 rx r1.lt]; exact r1.root
    have hry := r2.root
    have hrxl : rx < st2.prs.length := Nat.lt_of_lt_of_le r1.lt h2.ok.2.2.2.1
    have hryl := r2.lt
    obtain ⟨ia, ka, ra⟩ := r1.key
    obtain ⟨ib, kb, rb⟩ := r2.key
    have ka2 := kk2 _ _ ka
    have hial : ia < st1.prs.length := by obtain ⟨q, e, hq⟩ := k1.ok.keys _ _ ka; omega
    have ra2 : rt2 ia = rx := by rw [he2 ia hial]; exact ra
    have hpi := k2.ok.pi
    refine ⟨⟨⟨?_, fun n nm o hh => go n nm o (by rw [← offS_ones ho]; exact hh)⟩, (Sk.of ho).parOK g.par⟩, fun n nm x hh => (hasS_same ho _ _).trans hh⟩
    by_cases hxy : rx = ry
    · subst hxy
      rw [hx] at hy; cases hy
      have hp : st2.prs.set rx ((rx : Nat) : Int) = st2.prs := by
        apply List.ext_getElem?
        intro i
        by_cases e : rx = i
        · subst e
          rw [List.getElem?_set_self hrxl]
          have := (k2.ok.uf.root _ rx rfl hrxl).2
          rw [hrx] at this
          exact this.symm
        · rw [List.getElem?_set_ne e]
      have hi : st2.ids.set rx (max vx vx) = st2.ids := by
        apply List.ext_getElem?
        intro i
        by_cases e : rx = i
        · subst e
          rw [List.getElem?_set_self (by omega), hx, Int.max_self]
        · rw [List.getElem?_set_ne e]
      refine ⟨rt2, d2, ⟨?_, ?_, ?_, k2.ok.small⟩, fun n nm x hh => ?_, fun q hq => ?_⟩
      · show UF (st2.prs.set rx ((rx : Nat) : Int)) rt2 d2
        rw [hp]; exact k2.ok.uf
      · show (st2.prs.set rx _).length = (st2.ids.set rx _).length
        rw [List.length_set, List.length_set]; exact hpi
      · show ∀ k v, alook k st2.keys = some v → ∃ i : Nat, v = i ∧ i < (st2.prs.set rx ((rx : Nat) : Int)).length
        rw [List.length_set]; exact k2.ok.keys
      · show 0 ≤ x.1 ∧ ∃ i : Nat, alook (((n : Nat) : Int), nm) st2.keys = some ((i : Nat) : Int) ∧ (st2.ids.set rx (max vx vx))[rt2 i]? = some x.1
        rw [hi]
        exact k2.lk n nm x hh
      · rcases List.mem_cons.1 hq with rfl | hq
        · exact ⟨ia, ib, ka2, kb, by rw [ra2, rb]⟩
        · exact k2.pk q hq
    · refine ⟨_, _, ⟨k2.ok.uf.merge hrx hry hrxl hryl hxy, ?_, ?_, k2.ok.small⟩, fun n nm x hh => ?_, fun q hq => ?_⟩
      · show (st2.prs.set rx _).length = (st2.ids.set ry _).length
        rw [List.length_set, List.length_set]; exact hpi
      · show ∀ k v, alook k st2.keys = some v → ∃ i : Nat, v = i ∧ i < (st2.prs.set rx ((ry : Nat) : Int)).length
        rw [List.length_set]; exact k2.ok.keys
      · obtain ⟨g1, i, g2, g3⟩ := k2.lk n nm x hh
        refine ⟨g1, i, g2, ?_⟩
        show (st2.ids.set ry (max vx vy))[if rt2 i = rx then ry else rt2 i]? = some x.1
        by_cases e : rt2 i = rx
        · rw [if_pos e, List.getElem?_set_self (by omega)]
          rw [e, hx] at g3; cases g3
          congr 1
          omega
        · rw [if_neg e]
          by_cases e2 : ry = rt2 i
          · rw [← e2, List.getElem?_set_self (by omega)]
            rw [← e2, hy] at g3; cases g3
            congr 1
            omega
          · rw [List.getElem?_set_ne e2]; exact g3
      · rcases List.mem_cons.1 hq with rfl | hq
        · exact ⟨ia, ib, ka2, kb, by rw [if_pos ra2, if_neg (by rw [rb]; exact Ne.symm hxy), rb]⟩
        · obtain ⟨i, j, g1, g2, g3⟩ := k2.pk q hq
          exact ⟨i, j, g1, g2, by rw [g3]⟩
/-- who agrees never has unlike ids -/
theorem Inv.alike {st : LdS} {ps : List (Nat × Nat × Nm)} (h : Inv st ps) {q : Nat × Nat × Nm} (hq : q ∈ ps) {x y : Int × Int} (hx : hasS st ((q.1 : Nat) : Int) q.2.2 = some x) (hy : hasS st ((q.2.1 : Nat) : Int) q.2.2 = some y) : x.1 = y.1 := by
  obtain ⟨⟨rt, d, gk⟩, _⟩ := h
  obtain ⟨i, j, h1, h2, h3⟩ := gk.pk q hq
  obtain ⟨_, i', k1, k2⟩ := gk.lk _ _ _ hx
  obtain ⟨_, j', m1, m2⟩ := gk.lk _ _ _ hy
  rw [h1] at k1
  rw [h2] at m1
  have e1 : i = i' := by have := Option.some.inj k1; omega
  have e2 : j = j' := by have := Option.some.inj m1; omega
  subst e1 e2
  rw [h3, m2] at k2
  exact (Option.some.inj k2).symm
end Go.Proofs.Ytjbpegggfacojaa
/- carafelaw15.LoaderPlays: groups by pacts, against the numbers: the plain law. -/

namespace Go.Proofs.Ytjbpegggfacojaa
open GX
set_option maxHeartbeats 16000000
abbrev Ps := List (Nat × Nat × Nm)
/-- who agrees with whom on a name, by chains -/
inductive Conn (ps : Ps) (nm : Nm) (a : Nat) : Nat → Prop where
  | refl : Conn ps nm a a
  | step (b c : Nat) (h : Conn ps nm a b) (hp : (b, c, nm) ∈ ps ∨ (c, b, nm) ∈ ps) : Conn ps nm a c
theorem Conn.trans {ps : Ps} {nm : Nm} {a b c : Nat} (h : Conn ps nm a b) (g : Conn ps nm b c) : Conn ps nm a c := by
  induction g with
  | refl => exact h
  | step x y _ hp ih => exact .step x y ih hp
theorem Conn.one {ps : Ps} {nm : Nm} {a b : Nat} (h : (a, b, nm) ∈ ps ∨ (b, a, nm) ∈ ps) : Conn ps nm a b := .step a b .refl h
theorem Conn.symm {ps : Ps} {nm : Nm} {a b : Nat} (h : Conn ps nm a b) : Conn ps nm b a := by
  induction h with
  | refl => exact .refl
  | step x y _ hp ih => exact (Conn.one hp.symm).trans ih
theorem Conn.mono {ps qs : Ps} {nm : Nm} {a b : Nat} (h : Conn ps nm a b) (hs : ∀ q ∈ ps, q ∈ qs) : Conn qs nm a b := by
  induction h with
  | refl => exact .refl
  | step x y _ hp ih => exact .step x y ih (hp.imp (hs _) (hs _))
/-- the converse of what keeps -/
structure Kq (st : LdS) (ps : Ps) (rt : Nat → Nat) : Prop where
  cn : ∀ (a b : Nat) nm nm' (i j : Nat), alook (((a : Nat) : Int), nm) st.keys = some ((i : Nat) : Int) → alook (((b : Nat) : Int), nm') st.keys = some ((j : Nat) : Int) → rt i = rt j → nm = nm' ∧ Conn ps nm a b
  id : ∀ (a : Nat) nm (i : Nat) v, alook (((a : Nat) : Int), nm) st.keys = some ((i : Nat) : Int) → st.ids[rt i]? = some v → v = -1 ∨ ∃ (b : Nat) (x : Int × Int), Conn ps nm a b ∧ hasS st ((b : Nat) : Int) nm = some x ∧ x.1 = v
def Both (st : LdS) (ps : Ps) : Prop := ∃ rt d, Kp st ps rt d ∧ Kq st ps rt
theorem Kq.cong {st : LdS} {ps : Ps} {rt d rt' d' : Nat → Nat} (h : Kq st ps rt) (g : LdOK st rt d) (g' : LdOK st rt' d') : Kq st ps rt' := by
  have he : ∀ i, i < st.prs.length → rt i = rt' i := fun i hi => g.uf.uniq g'.uf _ i rfl hi
  have hk : ∀ k (i : Nat), alook k st.keys = some ((i : Nat) : Int) → i < st.prs.length := fun k i hi => by
    obtain ⟨j, e, hj⟩ := g.keys k _ hi
    omega
  refine ⟨fun a b nm nm' i j h1 h2 h3 => h.cn a b nm nm' i j h1 h2 ?_, fun a nm i v h1 h2 => h.id a nm i v h1 ?_⟩
  · rw [he i (hk _ _ h1), he j (hk _ _ h2)]; exact h3
  · rw [he i (hk _ _ h1)]; exact h2
theorem Both.of {st : LdS} {ps : Ps} {rt d : Nat → Nat} (h : Both st ps) (g : LdOK st rt d) : Kp st ps rt d ∧ Kq st ps rt := by
  obtain ⟨rt0, d0, h1, h2⟩ := h
  exact ⟨h1.cong g, h2.cong h1.ok g⟩
theorem RootX.both {st st1 : LdS} {a : Nat} {nm : Nm} {r : Nat} {ps : Ps} {rt0 d0 : Nat → Nat} (h : RootX st (((a : Nat) : Int), nm) r st1) (g : Kp st ps rt0 d0) (q : Kq st ps rt0) : ∃ rt d, Kp st1 ps rt d ∧ Kq st1 ps rt ∧ Rt st1 (((a : Nat) : Int), nm) r rt ∧ (∀ i, i < st.prs.length → rt i = rt0 i) ∧ ∀ k' v, alook k' st.keys = some v → alook k' st1.keys = some v := by
  obtain ⟨_, ho, _, _, hrl⟩ := h.ok
  obtain ⟨rt, d, k1, hrt, he, hkk⟩ := h.keep g
  refine ⟨rt, d, k1, ?_, hrt, he, hkk⟩
  have hh : ∀ n nm, hasS st1 n nm = hasS st n nm := fun n nm => hasS_same ho n nm
  have hkl : ∀ k' (i : Nat), alook k' st.keys = some ((i : Nat) : Int) → i < st.prs.length := fun k' i hi => by
    obtain ⟨j, e, hj⟩ := g.ok.keys k' _ hi
    omega
  obtain ⟨rt9, d9, hk9, hr⟩ := h
  cases ha : alook (((a : Nat) : Int), nm) st.keys with
  | some v =>
    obtain ⟨_, h2, h3, h4, h5, h6⟩ := hr.old v ha
    refine ⟨fun x y n n' i j h1 h2 h3' => ?_, fun x n i v h1 h2 => ?_⟩
    · rw [h3] at h1 h2
      exact q.cn x y n n' i j h1 h2 (by rw [← he i (hkl _ _ h1), ← he j (hkl _ _ h2)]; exact h3')
    · rw [h3] at h1
      rw [h4, he i (hkl _ _ h1)] at h2
      rcases q.id x n i v h1 h2 with e | ⟨b, w, c1, c2, c3⟩
      · exact .inl e
      · exact .inr ⟨b, w, c1, by rw [hh]; exact c2, c3⟩
  | none =>
    obtain ⟨h1, h2⟩ := hr.new ha
    have hlt : ∀ i, i < st.prs.length → rt0 i < st.prs.length := fun i hi => g.ok.uf.rt_lt _ i rfl hi
    have hpi := g.ok.pi
    have hkeys : st1.keys = aput (((a : Nat) : Int), nm) ((r : Nat) : Int) st.keys := by rw [h2]
    have hids : st1.ids = st.ids ++ [newId st ((a : Nat) : Int) nm] := by rw [h2]
    have hcase : ∀ (x : Nat) n (i : Nat), alook (((x : Nat) : Int), n) st1.keys = some ((i : Nat) : Int) → (x = a ∧ n = nm ∧ i = r) ∨ alook (((x : Nat) : Int), n) st.keys = some ((i : Nat) : Int) := fun x n i hi => by
      rw [hkeys, alook_aput] at hi
      by_cases e : (((x : Nat) : Int), n) = (((a : Nat) : Int), nm)
      · rw [if_pos e] at hi
        have e1 := congrArg Prod.fst e
        have e2 := congrArg Prod.snd e
        have e3 := Option.some.inj hi
        dsimp only at e1 e2
        exact .inl ⟨by omega, e2, by omega⟩
      · rw [if_neg e] at hi
        exact .inr hi
    refine ⟨fun x y n n' i j g1 g2 g3 => ?_, fun x n i v g1 g2 => ?_⟩
    · rcases hcase x n i g1 with ⟨rfl, rfl, rfl⟩ | g1
      · rcases hcase y n' j g2 with ⟨rfl, rfl, rfl⟩ | g2
        · exact ⟨rfl, .refl⟩
        · exfalso
          rw [hrt.root, he j (hkl _ _ g2)] at g3
          have := hlt j (hkl _ _ g2)
          omega
      · rcases hcase y n' j g2 with ⟨rfl, rfl, rfl⟩ | g2
        · exfalso
          rw [hrt.root, he i (hkl _ _ g1)] at g3
          have := hlt i (hkl _ _ g1)
          omega
        · exact q.cn x y n n' i j g1 g2 (by rw [← he i (hkl _ _ g1), ← he j (hkl _ _ g2)]; exact g3)
    · rcases hcase x n i g1 with ⟨rfl, rfl, rfl⟩ | g1
      · rw [hrt.root, hids, h1, hpi, List.getElem?_append_right (Nat.le_refl _), Nat.sub_self] at g2
        have g2 : newId st ((x : Nat) : Int) n = v := Option.some.inj g2
        unfold newId at g2
        cases hx : hasS st ((x : Nat) : Int) n with
        | none => rw [hx] at g2; exact .inl g2.symm
        | some w => rw [hx] at g2; exact .inr ⟨x, w, .refl, by rw [hh]; exact hx, g2⟩
      · have hil := hkl _ _ g1
        rw [he i hil, hids, List.getElem?_append_left (by rw [← hpi]; exact hlt i hil)] at g2
        rcases q.id x n i v g1 g2 with e | ⟨b, w, c1, c2, c3⟩
        · exact .inl e
        · exact .inr ⟨b, w, c1, by rw [hh]; exact c2, c3⟩
/-- the id that a group has loaded; -1: none -/
def GidO (st : LdS) (ps : Ps) (nm : Nm) (a : Nat) (v : Int) : Prop := (v = -1 ∧ ∀ b : Nat, b < st.ones.length → Conn ps nm a b → hasS st ((b : Nat) : Int) nm = none) ∨ ∃ (b : Nat) (x : Int × Int), Conn ps nm a b ∧ hasS st ((b : Nat) : Int) nm = some x ∧ v = x.1
theorem has_lt {st : LdS} {b : Nat} {nm : Nm} {x : Int × Int} (h : hasS st ((b : Nat) : Int) nm = some x) : b < st.ones.length := by
  unfold hasS at h
  rw [Int.toNat_natCast] at h
  rcases Nat.lt_or_ge b st.ones.length with hb | hb
  · exact hb
  · rw [List.getElem?_eq_none hb] at h; cases h
theorem conn_rt {st : LdS} {ps : Ps} {rt : Nat → Nat} (h : Pk st rt ps) {nm : Nm} {a b : Nat} (hc : Conn ps nm a b) : a = b ∨ ∃ i j : Nat, alook (((a : Nat) : Int), nm) st.keys = some ((i : Nat) : Int) ∧ alook (((b : Nat) : Int), nm) st.keys = some ((j : Nat) : Int) ∧ rt i = rt j := by
  induction hc with
  | refl => exact .inl rfl
  | step x y _ hp ih =>
    have hp : ∃ i j : Nat, alook (((x : Nat) : Int), nm) st.keys = some ((i : Nat) : Int) ∧ alook (((y : Nat) : Int), nm) st.keys = some ((j : Nat) : Int) ∧ rt i = rt j := by
      rcases hp with hp | hp
      · exact h _ hp
      · obtain ⟨i, j, h1, h2, h3⟩ := h _ hp
        exact ⟨j, i, h2, h1, h3.symm⟩
    obtain ⟨i, j, h1, h2, h3⟩ := hp
    rcases ih with rfl | ⟨i', j', g1, g2, g3⟩
    · exact .inr ⟨i, j, h1, h2, h3⟩
    · rw [h1] at g2
      have e : i = j' := by have := Option.some.inj g2; omega
      subst e
      exact .inr ⟨i', j, g1, h2, by rw [g3, h3]⟩
theorem gid_eq {st st1 : LdS} {ps : Ps} {rt d : Nat → Nat} (g : Kp st1 ps rt d) (q : Kq st1 ps rt) (ho : st1.ones = st.ones) {a : Nat} {nm : Nm} {r : Nat} (hr : Rt st1 (((a : Nat) : Int), nm) r rt) {v w : Int} (hv : st1.ids[r]? = some v) (hw : GidO st ps nm a w) : w = v := by
  obtain ⟨i, h1, h2⟩ := hr.key
  rw [← h2] at hv
  have hh : ∀ n nm, hasS st1 n nm = hasS st n nm := fun n nm => hasS_same ho n nm
  rcases hw with ⟨rfl, hno⟩ | ⟨b, x, hc, hx, rfl⟩
  · rcases q.id a nm i v h1 hv with e | ⟨b, x, hc, hx, rfl⟩
    · exact e.symm
    · rw [hh] at hx
      rw [hno b (has_lt hx) hc] at hx; cases hx
  · obtain ⟨_, j, k1, k2⟩ := g.lk b nm x (by rw [hh]; exact hx)
    have e : rt i = rt j := by
      rcases conn_rt g.pk hc with rfl | ⟨i', j', g1, g2, g3⟩
      · rw [h1] at k1
        have : i = j := by have := Option.some.inj k1; omega
        rw [this]
      · rw [h1] at g1
        rw [k1] at g2
        have e1 : i = i' := by have := Option.some.inj g1; omega
        have e2 : j = j' := by have := Option.some.inj g2; omega
        rw [e1, e2]; exact g3
    rw [e, k2] at hv
    exact Option.some.inj hv
/-- set, as the document says it -/
inductive RSet (ps : Ps) (nm : Nm) (x : Int × Int) (st : LdS) (k : Nat) : Int → LdS → Prop where
  | had (v : Int × Int) (h : hasS st ((k : Nat) : Int) nm = some v) : RSet ps nm x st k 0 st
  | bound (w : Int) (h : hasS st ((k : Nat) : Int) nm = none) (hw : GidO st ps nm k w) (h1 : 0 ≤ w ∧ w ≠ x.1) : RSet ps nm x st k 25 st
  | put (w : Int) (o : One) (h : hasS st ((k : Nat) : Int) nm = none) (hw : GidO st ps nm k w) (h1 : ¬ (0 ≤ w ∧ w ≠ x.1)) (ho : st.ones[k]? = some o) : RSet ps nm x st k 0 (st.put k { o with ldd := aput nm x o.ldd })
theorem SetX.both {st st' : LdS} {k : Nat} {nm : Nm} {x : Int × Int} {e : Int} {ps : Ps} (h : SetX st k nm x e st') (hx : 0 ≤ x.1) (g : Inv st ps) (q : Both st ps) : Both st' ps := by
  have gg := (h.keep hx g).1
  obtain ⟨⟨rt9, d9, kp9⟩, _⟩ := gg
  obtain ⟨rt, d, hk, hs⟩ := h
  obtain ⟨gk, gq⟩ := q.of hk
  cases hs with
  | had v h => exact ⟨rt, d, gk, gq⟩
  | bound st1 r h hr v hv h1 =>
    obtain ⟨rt1, d1, k1, q1, _⟩ := (show RootX st _ r st' from ⟨rt, d, hk, hr⟩).both gk gq
    exact ⟨rt1, d1, k1, q1⟩
  | put st1 r o h hr v hv h1 ho =>
    have hX : RootX st (((k : Nat) : Int), nm) r st1 := ⟨rt, d, hk, hr⟩
    obtain ⟨rt1, d1, k1, q1, hrt, _⟩ := hX.both gk gq
    have ho1 : st1.ones[k]? = some o := by rw [hX.ok.2.1]; exact ho
    have hridl : r < st1.ids.length := by rw [← k1.ok.pi]; exact hrt.lt
    have hhas : ∀ (n : Nat) nm', hasS ({ st1 with ids := st1.ids.set r x.1 }.put k { o with ldd := aput nm x o.ldd }) ((n : Nat) : Int) nm' = if n = k ∧ nm' = nm then some x else hasS st1 ((n : Nat) : Int) nm' := fun n nm' => by
      rw [hasS_put2 (st := { st1 with ids := st1.ids.set r x.1 }) (o := o) ho1 n nm']
      by_cases e1 : n = k
      · subst e1
        have hal : hasS st1 ((n : Nat) : Int) nm' = alook nm' o.ldd := by unfold hasS; rw [Int.toNat_natCast, ho1]
        rw [if_pos rfl, alook_aput, hal]
        by_cases e2 : nm' = nm
        · rw [if_pos e2, if_pos ⟨rfl, e2⟩]
        · rw [if_neg e2, if_neg (fun e => e2 e.2)]
      · rw [if_neg e1, if_neg (fun e => e1 e.1)]
        rfl
    have hno : hasS st1 ((k : Nat) : Int) nm = none := by rw [hasS_same hX.ok.2.1]; exact h
    have hok : LdOK ({ st1 with ids := st1.ids.set r x.1 }.put k { o with ldd := aput nm x o.ldd }) rt1 d1 := by
      refine ⟨k1.ok.uf, ?_, k1.ok.keys, ?_⟩
      · show st1.prs.length = (st1.ids.set r x.1).length
        rw [List.length_set]; exact k1.ok.pi
      · show (st1.ones.set k _).length ≤ 100
        rw [List.length_set]; exact k1.ok.small
    refine ⟨rt1, d1, kp9.cong hok, q1.cn, fun a n i w g1 g2 => ?_⟩
    have g1 : alook (((a : Nat) : Int), n) st1.keys = some ((i : Nat) : Int) := g1
    have g2 : (st1.ids.set r x.1)[rt1 i]? = some w := g2
    by_cases hir : r = rt1 i
    · rw [← hir, List.getElem?_set_self hridl] at g2
      have g3 := Option.some.inj g2
      obtain ⟨i0, e1, e2⟩ := hrt.key
      obtain ⟨rfl, hc⟩ := q1.cn a k n nm i i0 g1 e1 (by rw [e2, hir])
      exact .inr ⟨k, x, hc, by rw [hhas, if_pos ⟨rfl, rfl⟩], g3⟩
    · rw [List.getElem?_set_ne hir] at g2
      rcases q1.id a n i w g1 g2 with e | ⟨b, y, c1, c2, c3⟩
      · exact .inl e
      · refine .inr ⟨b, y, c1, ?_, c3⟩
        rw [hhas]
        by_cases e : b = k ∧ n = nm
        · rw [e.1, e.2, hno] at c2; cases c2
        · rw [if_neg e]; exact c2
/-- the states are the same to the document -/
def Eo (a b : LdS) : Prop := a.ones = b.ones
theorem RSet.law {st st' rs rs' : LdS} {k : Nat} {nm : Nm} {x : Int × Int} {e f : Int} {ps : Ps} (h : SetX st k nm x e st') (r : RSet ps nm x rs k f rs') (hE : st.ones = rs.ones) (q : Both st ps) : e = f ∧ st'.ones = rs'.ones := by
  have hh : ∀ n nm, hasS st n nm = hasS rs n nm := fun n nm => hasS_same hE n nm
  obtain ⟨rt, d, hk, hs⟩ := h
  obtain ⟨gk, gq⟩ := q.of hk
  cases hs with
  | had v h =>
    cases r with
    | had w g => exact ⟨rfl, hE⟩
    | bound w g => rw [← hh, h] at g; cases g
    | put w o g => rw [← hh, h] at g; cases g
  | bound st1 r0 h hr v hv h1 =>
    have hX : RootX st (((k : Nat) : Int), nm) r0 st' := ⟨rt, d, hk, hr⟩
    obtain ⟨rt1, d1, k1, q1, hrt, _⟩ := hX.both gk gq
    cases r with
    | had w g => rw [← hh, h] at g; cases g
    | bound w g hw h2 => exact ⟨rfl, hX.ok.2.1.trans hE⟩
    | put w o g hw h2 => exact absurd (by rw [gid_eq k1 q1 (hX.ok.2.1.trans hE) hrt hv hw]; exact h1) h2
  | put st1 r0 o h hr v hv h1 ho =>
    have hX : RootX st (((k : Nat) : Int), nm) r0 st1 := ⟨rt, d, hk, hr⟩
    obtain ⟨rt1, d1, k1, q1, hrt, _⟩ := hX.both gk gq
    cases r with
    | had w g => rw [← hh, h] at g; cases g
    | bound w g hw h2 => exact absurd (by rw [← gid_eq k1 q1 (hX.ok.2.1.trans hE) hrt hv hw]; exact h2) h1
    | put w o' g hw h2 ho' =>
      rw [← hE, ho] at ho'; cases ho'
      refine ⟨rfl, ?_⟩
      show st1.ones.set k _ = rs.ones.set k _
      rw [hX.ok.2.1, hE]
/-- set, for each loader of a list, until one refuses -/
inductive RSets (ps : Ps) (nm : Nm) (x : Int × Int) : LdS → List Int → Int → LdS → Prop where
  | nil (st : LdS) : RSets ps nm x st [] 0 st
  | stop (st : LdS) (k : Nat) (l : List Int) (e : Int) (st1 : LdS) (h : RSet ps nm x st k e st1) (he : e ≠ 0) : RSets ps nm x st (((k : Nat) : Int) :: l) e st1
  | next (st : LdS) (k : Nat) (l : List Int) (e : Int) (st1 st2 : LdS) (h : RSet ps nm x st k 0 st1) (h2 : RSets ps nm x st1 l e st2) : RSets ps nm x st (((k : Nat) : Int) :: l) e st2
theorem RSets.law {nm : Nm} {x : Int × Int} {st st' : LdS} {l : List Int} {e : Int} {ps : Ps} (h : SetsX nm x st l e st') (hx : 0 ≤ x.1) : ∀ {rs rs' : LdS} {f : Int}, RSets ps nm x rs l f rs' → st.ones = rs.ones → Inv st ps → Both st ps → e = f ∧ st'.ones = rs'.ones ∧ Both st' ps := by
  induction h with
  | nil st =>
    intro rs rs' f r hE g q
    cases r
    exact ⟨rfl, hE, q⟩
  | stop st k l e st1 h he =>
    intro rs rs' f r hE g q
    generalize hk : ((k : Nat) : Int) :: l = L at r
    cases r with
    | nil => cases hk
    | stop _ k2 l2 f2 _ h2 hf =>
      have := (List.cons.inj hk).1
      have e1 : k = k2 := by omega
      subst e1
      obtain ⟨a1, a2⟩ := h2.law h hE q
      exact ⟨a1, a2, h.both hx g q⟩
    | next _ k2 l2 f2 rs1 _ h2 h3 =>
      have := (List.cons.inj hk).1
      have e1 : k = k2 := by omega
      subst e1
      obtain ⟨a1, a2⟩ := h2.law h hE q
      exact absurd a1 he
  | next st k l e st1 st2 h h2 ih =>
    intro rs rs' f r hE g q
    generalize hk : ((k : Nat) : Int) :: l = L at r
    cases r with
    | nil => cases hk
    | stop _ k2 l2 f2 _ h3 hf =>
      have := (List.cons.inj hk).1
      have e1 : k = k2 := by omega
      subst e1
      obtain ⟨a1, a2⟩ := h3.law h hE q
      exact absurd a1.symm hf
    | next _ k2 l2 f2 rs1 _ h3 h4 =>
      have hj := List.cons.inj hk
      have e1 : k = k2 := by omega
      have e2 := hj.2
      subst e1 e2
      obtain ⟨a1, a2⟩ := h3.law h hE q
      exact ih h4 a2 (h.keep hx g).1 (h.both hx g q)
/-- Agree, as the document says it -/
inductive RAgree (ps : Ps) (st : LdS) (a b : Int) (nm : Nm) : Int → Ps → Prop where
  | arg (h : ¬ (isL st a ∧ isL st b)) : RAgree ps st a b nm 1 ps
  | bound (h : isL st a ∧ isL st b) (v w : Int) (hv : GidO st ps nm a.toNat v) (hw : GidO st ps nm b.toNat w) (hb : 0 ≤ v ∧ 0 ≤ w ∧ v ≠ w) : RAgree ps st a b nm 25 ps
  | ok (h : isL st a ∧ isL st b) (v w : Int) (hv : GidO st ps nm a.toNat v) (hw : GidO st ps nm b.toNat w) (hb : ¬ (0 ≤ v ∧ 0 ≤ w ∧ v ≠ w)) : RAgree ps st a b nm 0 (ps ++ [(a.toNat, b.toNat, nm)])
theorem Kq.mono {st : LdS} {ps qs : Ps} {rt : Nat → Nat} (h : Kq st ps rt) (hs : ∀ q ∈ ps, q ∈ qs) : Kq st qs rt :=
  ⟨fun a b nm nm' i j h1 h2 h3 => ⟨(h.cn a b nm nm' i j h1 h2 h3).1, (h.cn a b nm nm' i j h1 h2 h3).2.mono hs⟩, fun a nm i v h1 h2 => (h.id a nm i v h1 h2).imp (fun e => e) fun ⟨b, x, c1, c2, c3⟩ => ⟨b, x, c1.mono hs, c2, c3⟩⟩
theorem Kp.perm {st : LdS} {ps qs : Ps} {rt d : Nat → Nat} (h : Kp st ps rt d) (hs : ∀ q ∈ qs, q ∈ ps) : Kp st qs rt d := ⟨h.ok, h.lk, fun q hq => h.pk q (hs q hq)⟩
theorem RAgree.law {st st' rs : LdS} {a b : Int} {nm : Nm} {e f : Int} {ps ps' : Ps} (h : AgreeS st a b nm e st') (r : RAgree ps rs a b nm f ps') (hE : st.ones = rs.ones) (g : All st ps) (q : Both st ps) : e = f ∧ st'.ones = rs.ones ∧ All st' ps' ∧ Both st' ps' ∧ (e = 0 → isL st a ∧ isL st b ∧ ps' = ps ++ [(a.toNat, b.toNat, nm)]) ∧ (e ≠ 0 → ps' = ps) := by
  have hL : ∀ n, isL st n ↔ isL rs n := fun n => by unfold isL; rw [hE]
  have hg : ∀ (c : Nat) v, GidO rs ps nm c v → GidO st ps nm c v := fun c v hv => by
    rcases hv with ⟨e, hno⟩ | ⟨b, x, h1, h2, h3⟩
    · exact .inl ⟨e, fun b hb hc => by rw [hasS_same hE]; exact hno b (by rw [← hE]; exact hb) hc⟩
    · exact .inr ⟨b, x, h1, by rw [hasS_same hE]; exact h2, h3⟩
  by_cases hi : isL st a ∧ isL st b
  rotate_left
  · have hi' : ¬ (isL rs a ∧ isL rs b) := fun hh => hi ⟨(hL a).2 hh.1, (hL b).2 hh.2⟩
    cases h with
    | arg =>
      cases r with
      | arg => exact ⟨rfl, hE, g, q, fun e => (by cases e), fun _ => rfl⟩
      | bound hh => exact absurd hh hi'
      | ok hh => exact absurd hh hi'
    | bound hh => exact absurd hh hi
    | ok hh => exact absurd hh hi
  obtain ⟨ja, rfl⟩ : ∃ j : Nat, a = (j : Int) := ⟨a.toNat, by have := hi.1; unfold isL at this; omega⟩
  obtain ⟨jb, rfl⟩ : ∃ j : Nat, b = (j : Int) := ⟨b.toNat, by have := hi.2; unfold isL at this; omega⟩
  have hi' : isL rs ((ja : Nat) : Int) ∧ isL rs ((jb : Nat) : Int) := ⟨(hL _).1 hi.1, (hL _).1 hi.2⟩
  have kp := (h.keep g).1
  cases h with
  | arg hh => exact absurd hi hh
  | bound hh st1 st2 rx ry vx vy h1 h2 hx hy hb =>
    obtain ⟨rt0, d0, g0, q0⟩ := q
    obtain ⟨rt1, d1, k1, q1, r1, he1, kk1⟩ := h1.both g0 q0
    obtain ⟨rt2, d2, k2, q2, r2, he2, kk2⟩ := h2.both k1 q1
    have ho : st'.ones = st.ones := h2.ok.2.1.trans h1.ok.2.1
    have r1' : Rt st' (((ja : Nat) : Int), nm) rx rt2 := by
      obtain ⟨i, e1, e2⟩ := r1.key
      have hil : i < st1.prs.length := by obtain ⟨q, e, hq⟩ := k1.ok.keys _ _ e1; omega
      exact ⟨by rw [he2 rx r1.lt]; exact r1.root, Nat.lt_of_lt_of_le r1.lt h2.ok.2.2.2.1, i, kk2 _ _ e1, by rw [he2 i hil]; exact e2⟩
    cases r with
    | arg hh => exact absurd hi' hh
    | bound _ v w hv hw hb2 =>
      rw [if_neg (by decide)] at kp
      exact ⟨rfl, ho.trans hE, kp, ⟨rt2, d2, k2, q2⟩, fun e => (by cases e), fun _ => rfl⟩
    | ok _ v w hv hw hb2 =>
      rw [Int.toNat_natCast] at hv hw
      have e1 := gid_eq k2 q2 ho r1' hx (hg _ _ hv)
      have e2 := gid_eq k2 q2 ho r2 hy (hg _ _ hw)
      rw [e1, e2] at hb2
      exact absurd hb hb2
  | ok hh st1 st2 rx ry vx vy h1 h2 hx hy hb =>
    obtain ⟨rt0, d0, g0, q0⟩ := q
    obtain ⟨rt1, d1, k1, q1, r1, he1, kk1⟩ := h1.both g0 q0
    obtain ⟨rt2, d2, k2, q2, r2, he2, kk2⟩ := h2.both k1 q1
    have ho : st2.ones = st.ones := h2.ok.2.1.trans h1.ok.2.1
    obtain ⟨ia, ka, ra⟩ := r1.key
    have hial : ia < st1.prs.length := by obtain ⟨q, e, hq⟩ := k1.ok.keys _ _ ka; omega
    have r1' : Rt st2 (((ja : Nat) : Int), nm) rx rt2 := ⟨by rw [he2 rx r1.lt]; exact r1.root, Nat.lt_of_lt_of_le r1.lt h2.ok.2.2.2.1, ia, kk2 _ _ ka, by rw [he2 ia hial]; exact ra⟩
    cases r with
    | arg hh => exact absurd hi' hh
    | bound _ v w hv hw hb2 =>
      rw [Int.toNat_natCast] at hv hw
      have e1 := gid_eq k2 q2 ho r1' hx (hg _ _ hv)
      have e2 := gid_eq k2 q2 ho r2 hy (hg _ _ hw)
      rw [e1, e2] at hb2
      exact absurd hb2 hb
    | ok _ v w hv hw hb2 =>
      rw [if_pos rfl] at kp
      rw [Int.toNat_natCast, Int.toNat_natCast]
      have hmem : ∀ q ∈ ps ++ [(ja, jb, nm)], q ∈ (ja, jb, nm) :: ps := fun q hq => by
        rcases List.mem_append.1 hq with h | h
        · exact List.mem_cons_of_mem _ h
        · rw [List.mem_singleton.1 h]; exact List.mem_cons_self ..
      obtain ⟨⟨⟨rt9, d9, kp9⟩, off9⟩, par9⟩ := kp
      have kp9' := kp9.perm hmem
      refine ⟨rfl, ho.trans hE, ⟨⟨⟨rt9, d9, kp9'⟩, off9⟩, par9⟩, ?_, fun _ => ⟨hi.1, hi.2, rfl⟩, fun e => absurd rfl e⟩
      have hsub : ∀ q ∈ ps, q ∈ ps ++ [(ja, jb, nm)] := fun q hq => List.mem_append_left _ hq
      have q2m := q2.mono hsub
      have hpact : (ja, jb, nm) ∈ ps ++ [(ja, jb, nm)] := List.mem_append_right _ (List.mem_singleton.2 rfl)
      have ra2 : rt2 ia = rx := r1'.key.elim fun i h => by
        have e : i = ia := by have := (kk2 _ _ ka).symm.trans h.1; have := Option.some.inj this; omega
        rw [← e]; exact h.2
      obtain ⟨ib, kb, rb⟩ := r2.key
      have hpi := k2.ok.pi
      have hrx := r1'.root
      have hry := r2.root
      by_cases hxy : rx = ry
      · subst hxy
        rw [hx] at hy; cases hy
        have hp : st2.prs.set rx ((rx : Nat) : Int) = st2.prs := by
          apply List.ext_getElem?
          intro i
          by_cases e : rx = i
          · subst e
            rw [List.getElem?_set_self r1'.lt]
            have := (k2.ok.uf.root _ rx rfl r1'.lt).2
            rw [hrx] at this
            exact this.symm
          · rw [List.getElem?_set_ne e]
        have hi : st2.ids.set rx (max vx vx) = st2.ids := by
          apply List.ext_getElem?
          intro i
          by_cases e : rx = i
          · subst e
            rw [List.getElem?_set_self (by have := r1'.lt; omega), hx, Int.max_self]
          · rw [List.getElem?_set_ne e]
        rw [hp, hi] at kp9' ⊢
        exact ⟨rt2, d2, kp9'.cong k2.ok, q2m.cn, q2m.id⟩
      · have hok : LdOK { st2 with prs := st2.prs.set rx ((ry : Nat) : Int), ids := st2.ids.set ry (max vx vy) } (fun i => if rt2 i = rx then ry else rt2 i) (fun i => if rt2 i = rx then d2 i + d2 ry + 1 else d2 i) := by
          refine ⟨k2.ok.uf.merge hrx hry r1'.lt r2.lt hxy, ?_, ?_, k2.ok.small⟩
          · show (st2.prs.set rx _).length = (st2.ids.set ry _).length
            rw [List.length_set, List.length_set]; exact hpi
          · show ∀ k v, alook k st2.keys = some v → ∃ i : Nat, v = i ∧ i < (st2.prs.set rx ((ry : Nat) : Int)).length
            rw [List.length_set]; exact k2.ok.keys
        have toA : ∀ (c : Nat) n (i : Nat), alook (((c : Nat) : Int), n) st2.keys = some ((i : Nat) : Int) → rt2 i = rx → n = nm ∧ Conn (ps ++ [(ja, jb, nm)]) nm c ja := fun c n i h1 h2 => by
          obtain ⟨rfl, hc⟩ := q2m.cn c ja n nm i ia h1 (kk2 _ _ ka) (by rw [h2, ra2])
          exact ⟨rfl, hc⟩
        have toB : ∀ (c : Nat) n (i : Nat), alook (((c : Nat) : Int), n) st2.keys = some ((i : Nat) : Int) → rt2 i = ry → n = nm ∧ Conn (ps ++ [(ja, jb, nm)]) nm c jb := fun c n i h1 h2 => by
          obtain ⟨rfl, hc⟩ := q2m.cn c jb n nm i ib h1 kb (by rw [h2, rb])
          exact ⟨rfl, hc⟩
        refine ⟨_, _, kp9'.cong hok, fun c d n n' i j w1 w2 w3 => ?_, fun c n i z w1 w2 => ?_⟩
        · have w1 : alook (((c : Nat) : Int), n) st2.keys = some ((i : Nat) : Int) := w1
          have w2 : alook (((d : Nat) : Int), n') st2.keys = some ((j : Nat) : Int) := w2
          have w3 : (if rt2 i = rx then ry else rt2 i) = (if rt2 j = rx then ry else rt2 j) := w3
          by_cases e1 : rt2 i = rx
          · rw [if_pos e1] at w3
            obtain ⟨rfl, c1⟩ := toA c n i w1 e1
            by_cases e2 : rt2 j = rx
            · obtain ⟨rfl, c2⟩ := toA d n' j w2 e2
              exact ⟨rfl, c1.trans c2.symm⟩
            · rw [if_neg e2] at w3
              obtain ⟨rfl, c2⟩ := toB d n' j w2 w3.symm
              exact ⟨rfl, (c1.trans (Conn.one (.inl hpact))).trans c2.symm⟩
          · rw [if_neg e1] at w3
            by_cases e2 : rt2 j = rx
            · rw [if_pos e2] at w3
              obtain ⟨rfl, c1⟩ := toB c n i w1 w3
              obtain ⟨rfl, c2⟩ := toA d n' j w2 e2
              exact ⟨rfl, (c1.trans (Conn.one (.inr hpact))).trans c2.symm⟩
            · rw [if_neg e2] at w3
              exact q2m.cn c d n n' i j w1 w2 w3
        · have w1 : alook (((c : Nat) : Int), n) st2.keys = some ((i : Nat) : Int) := w1
          have w2 : (st2.ids.set ry (max vx vy))[if rt2 i = rx then ry else rt2 i]? = some z := w2
          have viaA : n = nm → Conn (ps ++ [(ja, jb, nm)]) nm c ja → vx = z → z = -1 ∨ ∃ (b : Nat) (x : Int × Int), Conn (ps ++ [(ja, jb, nm)]) n c b ∧ hasS st2 ((b : Nat) : Int) n = some x ∧ x.1 = z := fun en hc ez => by
            rcases q2m.id ja nm ia vx (kk2 _ _ ka) (by rw [ra2]; exact hx) with e | ⟨b, x, c1, c2, c3⟩
            · exact .inl (by rw [← ez, e])
            · exact .inr ⟨b, x, by rw [en]; exact hc.trans c1, by rw [en]; exact c2, by rw [c3, ez]⟩
          have viaB : n = nm → Conn (ps ++ [(ja, jb, nm)]) nm c jb → vy = z → z = -1 ∨ ∃ (b : Nat) (x : Int × Int), Conn (ps ++ [(ja, jb, nm)]) n c b ∧ hasS st2 ((b : Nat) : Int) n = some x ∧ x.1 = z := fun en hc ez => by
            rcases q2m.id jb nm ib vy kb (by rw [rb]; exact hy) with e | ⟨b, x, c1, c2, c3⟩
            · exact .inl (by rw [← ez, e])
            · exact .inr ⟨b, x, by rw [en]; exact hc.trans c1, by rw [en]; exact c2, by rw [c3, ez]⟩
          have hryl : ry < st2.ids.length := by rw [← hpi]; exact r2.lt
          have via : n = nm → Conn (ps ++ [(ja, jb, nm)]) nm c ja → Conn (ps ++ [(ja, jb, nm)]) nm c jb → max vx vy = z → z = -1 ∨ ∃ (b : Nat) (x : Int × Int), Conn (ps ++ [(ja, jb, nm)]) n c b ∧ hasS st2 ((b : Nat) : Int) n = some x ∧ x.1 = z := fun en ha hb' ez => by
            rcases Int.le_total vx vy with hle | hle
            · exact viaB en hb' (by rw [Int.max_eq_right hle] at ez; exact ez)
            · exact viaA en ha (by rw [Int.max_eq_left hle] at ez; exact ez)
          by_cases e1 : rt2 i = rx
          · rw [if_pos e1, List.getElem?_set_self hryl] at w2
            obtain ⟨en, c1⟩ := toA c n i w1 e1
            exact via en c1 (c1.trans (Conn.one (.inl hpact))) (Option.some.inj w2)
          · rw [if_neg e1] at w2
            by_cases e2 : ry = rt2 i
            · rw [← e2, List.getElem?_set_self hryl] at w2
              obtain ⟨en, c1⟩ := toB c n i w1 e2.symm
              exact via en (c1.trans (Conn.one (.inr hpact))) c1 (Option.some.inj w2)
            · rw [List.getElem?_set_ne e2] at w2
              exact q2m.id c n i z w1 w2
end Go.Proofs.Ytjbpegggfacojaa
/- carafelaw15.LoaderPlays: load against the document's: the plain law. -/

namespace Go.Proofs.Ytjbpegggfacojaa
open GX
set_option maxHeartbeats 16000000
theorem line_take {st : LdS} (h : ParOK st) : ∀ (b : Nat) (m : Int), m < (b : Int) → m < (st.ones.length : Int) → ∀ (j : Nat) (k : Int), (lineS st m)[j]? = some k → lineS st k = (lineS st m).take (j + 1)
  | 0, m, h1, _, j, k, hj => by
    unfold lineS at hj
    rw [up_neg (by omega)] at hj
    cases hj
  | b + 1, m, h1, h2, j, k, hj => by
    by_cases h0 : m < 0
    · unfold lineS at hj
      rw [up_neg h0] at hj
      cases hj
    · have hp := parS_lt h (by omega) h2
      have e : lineS st m = lineS st (parS st m) ++ [m] := by
        unfold lineS; rw [up_cons h (by omega) (by omega), List.reverse_cons]
      rw [e] at hj
      by_cases hl : j < (lineS st (parS st m)).length
      · rw [List.getElem?_append_left hl] at hj
        rw [line_take h b (parS st m) (by omega) (by omega) j k hj, e, List.take_append_of_le_length (by omega)]
      · have h3 := (List.getElem?_eq_some_iff.1 hj).1
        rw [List.length_append, List.length_singleton] at h3
        have hjl : j = (lineS st (parS st m)).length := by omega
        rw [hjl, List.getElem?_append_right (Nat.le_refl _), Nat.sub_self] at hj
        have : m = k := Option.some.inj hj
        subst this
        rw [e, List.take_of_length_le (by rw [List.length_append, List.length_singleton]; omega)]
theorem fidx_min {P : Int → Bool} : ∀ {l : List Int} {i j : Nat}, fidx P l i = some j → ∀ k, i + k < j → ∀ x, l[k]? = some x → P x = false
  | [], _, _, h, _, _, _, _ => by cases h
  | x :: l, i, j, h, k, hk, z, hz => by
    unfold fidx at h
    by_cases hp : P x = true
    · rw [if_pos hp] at h; cases h; omega
    · rw [if_neg hp] at h
      cases k with
      | zero => cases hz; exact Bool.eq_false_iff.2 hp
      | succ k => exact fidx_min h k (by omega) z hz
theorem SetX.eff {st st' : LdS} {k : Nat} {nm : Nm} {x : Int × Int} {e : Int} (h : SetX st k nm x e st') : (∀ (n : Nat) nm', hasS st' ((n : Nat) : Int) nm' = hasS st ((n : Nat) : Int) nm' ∨ (n = k ∧ nm' = nm ∧ hasS st ((n : Nat) : Int) nm' = none)) ∧ (e = 0 → hasS st ((k : Nat) : Int) nm = none → hasS st' ((k : Nat) : Int) nm = some x) := by
  obtain ⟨rt, d, hk, hs⟩ := h
  cases hs with
  | had v h => exact ⟨fun n nm' => .inl rfl, fun _ h' => by rw [h] at h'; cases h'⟩
  | bound st1 r h hr v hv h1 => exact ⟨fun n nm' => .inl (hasS_same (show RootX st _ r st' from ⟨rt, d, hk, hr⟩).ok.2.1 _ _), fun e => by cases e⟩
  | put st1 r o h hr v hv h1 ho =>
    have hX : RootX st (((k : Nat) : Int), nm) r st1 := ⟨rt, d, hk, hr⟩
    have ho1 : st1.ones[k]? = some o := by rw [hX.ok.2.1]; exact ho
    have hp := fun (n : Nat) nm' => hasS_put2 (st := { st1 with ids := st1.ids.set r x.1 }) (l := aput nm x o.ldd) (o := o) ho1 n nm'
    refine ⟨fun n nm' => ?_, fun _ _ => ?_⟩
    · by_cases e1 : n = k
      · subst e1
        by_cases e2 : nm' = nm
        · subst e2; exact .inr ⟨rfl, rfl, h⟩
        · refine .inl ?_
          rw [hp, if_pos rfl, alook_aput, if_neg e2]
          unfold hasS; rw [Int.toNat_natCast, ho]
      · refine .inl ?_
        rw [hp, if_neg e1]
        exact (hasS_same (st := st1) rfl _ _).trans (hasS_same hX.ok.2.1 _ _)
    · rw [hp, if_pos rfl, alook_aput, if_pos rfl]
theorem SetsX.eff {nm : Nm} {x : Int × Int} {st st' : LdS} {l : List Int} {e : Int} (h : SetsX nm x st l e st') : (∀ (n : Nat) nm', hasS st' ((n : Nat) : Int) nm' = hasS st ((n : Nat) : Int) nm' ∨ (((n : Nat) : Int) ∈ l ∧ nm' = nm ∧ hasS st ((n : Nat) : Int) nm' = none)) ∧ (∀ k : Nat, e = 0 → ((k : Nat) : Int) ∈ l → hasS st ((k : Nat) : Int) nm = none → hasS st' ((k : Nat) : Int) nm = some x) := by
  induction h with
  | nil st => exact ⟨fun n nm' => .inl rfl, fun k _ hk => by cases hk⟩
  | stop st k l e st1 h he =>
    refine ⟨fun n nm' => (h.eff.1 n nm').imp id fun ⟨a, b, c⟩ => ⟨by rw [a]; exact List.mem_cons_self .., b, c⟩, fun k e0 => absurd e0 he⟩
  | next st k l e st1 st2 h h2 ih =>
    refine ⟨fun n nm' => ?_, fun q e0 hq hn => ?_⟩
    · rcases ih.1 n nm' with a | ⟨a1, a2, a3⟩
      · rcases h.eff.1 n nm' with b | ⟨b1, b2, b3⟩
        · exact .inl (a.trans b)
        · exact .inr ⟨by rw [b1]; exact List.mem_cons_self .., b2, b3⟩
      · rcases h.eff.1 n nm' with b | ⟨b1, b2, b3⟩
        · exact .inr ⟨List.mem_cons_of_mem _ a1, a2, by rw [← b]; exact a3⟩
        · exact .inr ⟨by rw [b1]; exact List.mem_cons_self .., b2, b3⟩
    · by_cases hqk : q = k
      · subst hqk
        have h1 := h.eff.2 rfl hn
        rcases ih.1 q nm with a | ⟨_, _, a3⟩
        · rw [a]; exact h1
        · rw [h1] at a3; cases a3
      · rcases List.mem_cons.1 hq with hq | hq
        · exact absurd (by omega) hqk
        · refine ih.2 q e0 hq ?_
          rcases h.eff.1 q nm with b | ⟨b1, _, _⟩
          · rw [b]; exact hn
          · exact absurd b1 hqk
theorem at_of_drop {l : List Int} {i : Nat} {k : Int} (h : k ∈ l.drop i) : ∃ j, i ≤ j ∧ l[j]? = some k := by
  obtain ⟨q, hq⟩ := List.mem_iff_getElem?.1 h
  rw [List.getElem?_drop] at hq
  exact ⟨i + q, by omega, hq⟩
/-- where a class that is being loaded is set, its first loader that knows it stands in line -/
theorem drop_line {st : LdS} (hp : ParOK st) {m : Int} (hm : m < (st.ones.length : Int)) {i : Nat} {by_ k : Int} (hb : (lineS st m)[i]? = some by_) (hk : k ∈ (lineS st m).drop i) : by_ ∈ lineS st k := by
  obtain ⟨j, hj, hjk⟩ := at_of_drop hk
  rw [line_take hp (m.toNat + 1) m (by omega) hm j k hjk]
  refine List.mem_iff_getElem?.2 ⟨i, ?_⟩
  rw [List.getElem?_take, if_pos (by omega)]; exact hb
theorem drop_first {st : LdS} (hp : ParOK st) {m : Int} (hm : m < (st.ones.length : Int)) {i : Nat} {nm : Nm} {by_ k b : Int} (hf : fidx (knowsS st nm) (lineS st m) 0 = some i) (hb : (lineS st m)[i]? = some by_) (hk : k ∈ (lineS st m).drop i) (hkm : k < (st.ones.length : Int)) (hbk : b ∈ lineS st k) (hkn : knowsS st nm b = true) (ho : ∀ a ∈ lineS st b, a ≠ b → knowsS st nm a = false) : by_ = b := by
  obtain ⟨j, hj, hjk⟩ := at_of_drop hk
  have e1 := line_take hp (m.toNat + 1) m (by omega) hm j k hjk
  obtain ⟨jb, hjb⟩ := List.mem_iff_getElem?.1 hbk
  have e2 := line_take hp (k.toNat + 1) k (by omega) hkm jb b hjb
  rw [e1, List.getElem?_take] at hjb
  have hjj : jb < j + 1 := by
    rcases Nat.lt_or_ge jb (j + 1) with h | h
    · exact h
    · rw [if_neg (by omega)] at hjb; cases hjb
  rw [if_pos hjj] at hjb
  have hij : i ≤ jb := by
    rcases Nat.lt_or_ge jb i with h | h
    · have := fidx_min hf jb (by omega) b hjb
      rw [hkn] at this; cases this
    · exact h
  have hmem : by_ ∈ lineS st b := by
    rw [e2, e1]
    refine List.mem_iff_getElem?.2 ⟨i, ?_⟩
    rw [List.getElem?_take, if_pos (by omega), List.getElem?_take, if_pos (by omega)]; exact hb
  apply Classical.byContradiction
  intro hne
  have h1 := ho by_ hmem hne
  obtain ⟨_, x, hx, hpx⟩ := fidx_some hf
  rw [Nat.sub_zero, hb] at hx
  cases hx
  rw [hpx] at h1; cases h1
theorem load_quiet {st st' : LdS} {m : Int} {nm0 : Nm} {lm lm' : List ((Int × Nm) × Int)} {x : Int × Int} {e : Int} (h : LoadO st m nm0 lm x e st' lm') : ParOK st → 0 ≤ m → m < (st.ones.length : Int) →
    (∀ (k : Nat) nm, k < st.ones.length → hasS st ((k : Nat) : Int) nm = none → (∀ a ∈ lineS st ((k : Nat) : Int), knowsS st nm a = false) → hasS st' ((k : Nat) : Int) nm = none) ∧
    (∀ (k b : Nat) nm, k < st.ones.length → 0 < (alook (((b : Nat) : Int), nm) lm).getD 0 → hasS st ((b : Nat) : Int) nm = none → ((b : Nat) : Int) ∈ lineS st ((k : Nat) : Int) → knowsS st nm ((b : Nat) : Int) = true → (∀ a ∈ lineS st ((b : Nat) : Int), a ≠ ((b : Nat) : Int) → knowsS st nm a = false) → hasS st ((k : Nat) : Int) nm = none → hasS st' ((k : Nat) : Int) nm = none) := by
  have fin : ∀ {st st1 : LdS} {m : Int} {nm0 : Nm} {lm : List ((Int × Nm) × Int)} {i : Nat} {by_ : Int} {y : Int × Int} {e : Int} {st' : LdS}, ParOK st → m < (st.ones.length : Int) → fidx (knowsS st nm0) (lineS st m) 0 = some i → (lineS st m)[i]? = some by_ → (¬ 0 < (alook (by_, nm0) lm).getD 0 ∨ hasS st by_ nm0 ≠ none) →
      ((∀ (k : Nat) nm, k < st.ones.length → hasS st ((k : Nat) : Int) nm = none → (∀ a ∈ lineS st ((k : Nat) : Int), knowsS st nm a = false) → hasS st1 ((k : Nat) : Int) nm = none) ∧
      (∀ (k b : Nat) nm, k < st.ones.length → 0 < (alook (((b : Nat) : Int), nm) lm).getD 0 → hasS st ((b : Nat) : Int) nm = none → ((b : Nat) : Int) ∈ lineS st ((k : Nat) : Int) → knowsS st nm ((b : Nat) : Int) = true → (∀ a ∈ lineS st ((b : Nat) : Int), a ≠ ((b : Nat) : Int) → knowsS st nm a = false) → hasS st ((k : Nat) : Int) nm = none → hasS st1 ((k : Nat) : Int) nm = none)) →
      SetsX nm0 y st1 ((lineS st m).drop i) e st' →
      ((∀ (k : Nat) nm, k < st.ones.length → hasS st ((k : Nat) : Int) nm = none → (∀ a ∈ lineS st ((k : Nat) : Int), knowsS st nm a = false) → hasS st' ((k : Nat) : Int) nm = none) ∧
      (∀ (k b : Nat) nm, k < st.ones.length → 0 < (alook (((b : Nat) : Int), nm) lm).getD 0 → hasS st ((b : Nat) : Int) nm = none → ((b : Nat) : Int) ∈ lineS st ((k : Nat) : Int) → knowsS st nm ((b : Nat) : Int) = true → (∀ a ∈ lineS st ((b : Nat) : Int), a ≠ ((b : Nat) : Int) → knowsS st nm a = false) → hasS st ((k : Nat) : Int) nm = none → hasS st' ((k : Nat) : Int) nm = none)) := by
    intro st st1 m nm0 lm i by_ y e st' hp hm hf hb hor hst hs
    refine ⟨fun k nm hk hn hno => ?_, fun k b nm hk hl hbn hbk hkn ho hn => ?_⟩
    · have h1 := hst.1 k nm hk hn hno
      rcases hs.eff.1 k nm with a | ⟨a1, a2, _⟩
      · rw [a]; exact h1
      · subst a2
        have h2 := hno _ (drop_line hp hm hb a1)
        obtain ⟨_, x, hx, hpx⟩ := fidx_some hf
        rw [Nat.sub_zero, hb] at hx
        cases hx
        rw [hpx] at h2; cases h2
    · have h1 := hst.2 k b nm hk hl hbn hbk hkn ho hn
      rcases hs.eff.1 k nm with a | ⟨a1, a2, _⟩
      · rw [a]; exact h1
      · subst a2
        have e := drop_first hp hm hf hb a1 (by omega) hbk hkn ho
        subst e
        rcases hor with g | g
        · exact absurd hl g
        · exact absurd hbn g
  induction h with
  | had n nm lm v h => exact fun _ _ _ => ⟨fun _ _ _ h _ => h, fun _ _ _ _ _ _ _ _ _ h => h⟩
  | none n nm lm h hf => exact fun _ _ _ => ⟨fun _ _ _ h _ => h, fun _ _ _ _ _ _ _ _ _ h => h⟩
  | circ n nm lm i by_ h hf hb hx hl => exact fun _ _ _ => ⟨fun _ _ _ h _ => h, fun _ _ _ _ _ _ _ _ _ h => h⟩
  | done n nm lm i by_ x e st' h hf hb hx hs =>
    intro hp h0 hn
    exact fin hp hn hf hb (.inr (by rw [hx]; simp)) ⟨fun _ _ _ h _ => h, fun _ _ _ _ _ _ _ _ _ h => h⟩ hs
  | def0 n nm lm i by_ o e st' lm' h hf hb hx hl ho hne hs =>
    intro hp h0 hn
    exact fin hp hn hf hb (.inl hl) ⟨fun _ _ _ h _ => h, fun _ _ _ _ _ _ _ _ _ h => h⟩ hs
  | sup n nm lm i by_ o r e1 st1 lm1 h hf hb hx hl ho hne hr he ih =>
    intro hp h0 hn
    obtain ⟨g1, g2⟩ := (line_lt hp hn).2 by_ (List.mem_of_getElem? hb)
    obtain ⟨i1, i2⟩ := ih hp g1 g2
    refine ⟨i1, fun k b nm' hk hl' hbn hbk hkn hoo hn' => i2 k b nm' hk ?_ hbn hbk hkn hoo hn'⟩
    rw [alook_aput]
    by_cases e : (((b : Nat) : Int), nm') = (by_, nm)
    · rw [if_pos e]
      rw [e] at hl'
      exact absurd hl' hl
    · rw [if_neg e]; exact hl'
  | def1 n nm lm i by_ o r st1 lm1 e st' lm' h hf hb hx hl ho hne hr hs ih =>
    intro hp h0 hn
    obtain ⟨g1, g2⟩ := (line_lt hp hn).2 by_ (List.mem_of_getElem? hb)
    obtain ⟨i1, i2⟩ := ih hp g1 g2
    refine fin hp hn hf hb (.inl hl) ⟨i1, fun k b nm' hk hl' hbn hbk hkn hoo hn' => i2 k b nm' hk ?_ hbn hbk hkn hoo hn'⟩ hs
    rw [alook_aput]
    by_cases e : (((b : Nat) : Int), nm') = (by_, nm)
    · rw [if_pos e]
      rw [e] at hl'
      exact absurd hl' hl
    · rw [if_neg e]; exact hl'
/-- load, as the document says it; bz: what is being loaded -/
inductive RLoad (ps : Ps) : LdS → Int → Nm → List (Int × Nm) → (Int × Int) → Int → LdS → Prop where
  | had (st n nm bz) (v : Int × Int) (h : hasS st n nm = some v) : RLoad ps st n nm bz v 0 st
  | none (st n nm bz) (h : hasS st n nm = none) (hf : fidx (knowsS st nm) (lineS st n) 0 = none) : RLoad ps st n nm bz (0, 0) 22 st
  | done (st n nm bz) (i : Nat) (by_ : Int) (x : Int × Int) (e : Int) (st' : LdS) (h : hasS st n nm = none) (hf : fidx (knowsS st nm) (lineS st n) 0 = some i) (hb : (lineS st n)[i]? = some by_) (hx : hasS st by_ nm = some x)
      (hs : RSets ps nm x st ((lineS st n).drop i) e st') : RLoad ps st n nm bz (if e = 0 then x else (0, 0)) e st'
  | circ (st n nm bz) (i : Nat) (by_ : Int) (h : hasS st n nm = none) (hf : fidx (knowsS st nm) (lineS st n) 0 = some i) (hb : (lineS st n)[i]? = some by_) (hx : hasS st by_ nm = none) (hl : (by_, nm) ∈ bz) : RLoad ps st n nm bz (0, 0) 24 st
  | sup (st n nm bz) (i : Nat) (by_ : Int) (o : Nm × Int) (r : Int × Int) (e1 : Int) (st1 : LdS) (h : hasS st n nm = none) (hf : fidx (knowsS st nm) (lineS st n) 0 = some i) (hb : (lineS st n)[i]? = some by_) (hx : hasS st by_ nm = none) (hl : (by_, nm) ∉ bz)
      (ho : offS st by_ nm = some o) (hne : o.1 ≠ []) (hr : RLoad ps st by_ o.1 (bz ++ [(by_, nm)]) r e1 st1) (he : e1 ≠ 0) : RLoad ps st n nm bz (0, 0) e1 st1
  | def0 (st n nm bz) (i : Nat) (by_ : Int) (o : Nm × Int) (e : Int) (st' : LdS) (h : hasS st n nm = none) (hf : fidx (knowsS st nm) (lineS st n) 0 = some i) (hb : (lineS st n)[i]? = some by_) (hx : hasS st by_ nm = none) (hl : (by_, nm) ∉ bz)
      (ho : offS st by_ nm = some o) (hne : o.1 = []) (hs : RSets ps nm (o.2, by_) st ((lineS st n).drop i) e st') : RLoad ps st n nm bz (if e = 0 then (o.2, by_) else (0, 0)) e st'
  | def1 (st n nm bz) (i : Nat) (by_ : Int) (o : Nm × Int) (r : Int × Int) (st1 : LdS) (e : Int) (st' : LdS) (h : hasS st n nm = none) (hf : fidx (knowsS st nm) (lineS st n) 0 = some i) (hb : (lineS st n)[i]? = some by_) (hx : hasS st by_ nm = none) (hl : (by_, nm) ∉ bz)
      (ho : offS st by_ nm = some o) (hne : o.1 ≠ []) (hr : RLoad ps st by_ o.1 (bz ++ [(by_, nm)]) r 0 st1) (hs : RSets ps nm (o.2, by_) st1 ((lineS st n).drop i) e st') : RLoad ps st n nm bz (if e = 0 then (o.2, by_) else (0, 0)) e st'
theorem line_ones {a b : LdS} (h : a.ones = b.ones) (n : Int) : lineS a n = lineS b n := by
  obtain ⟨o, k, p, i⟩ := a
  obtain ⟨o', k', p', i'⟩ := b
  cases (show o = o' from h)
  have hu : ∀ f m, upS ⟨o, k, p, i⟩ f m = upS ⟨o, k', p', i'⟩ f m := fun f => by
    induction f with
    | zero => intro m; rfl
    | succ f ih =>
      intro m
      unfold upS
      by_cases hm : m < 0
      · rw [if_pos hm, if_pos hm]
      · rw [if_neg hm, if_neg hm, ih]; rfl
  unfold lineS up
  rw [hu]
theorem knows_ones {a b : LdS} (h : a.ones = b.ones) (nm : Nm) : knowsS a nm = knowsS b nm := by
  funext n
  unfold knowsS
  rw [hasS_same h, offS_ones h]
/-- what both agree on of a loader's line -/
theorem same_first {st rs : LdS} (hE : st.ones = rs.ones) {n : Int} {nm : Nm} {i j : Nat} {by_ by2 : Int} (hf : fidx (knowsS st nm) (lineS st n) 0 = some i) (hb : (lineS st n)[i]? = some by_) (hf2 : fidx (knowsS rs nm) (lineS rs n) 0 = some j) (hb2 : (lineS rs n)[j]? = some by2) : i = j ∧ by_ = by2 := by
  rw [← knows_ones hE, ← line_ones hE, hf] at hf2
  cases hf2
  rw [← line_ones hE, hb] at hb2
  cases hb2
  exact ⟨rfl, rfl⟩
theorem rload_law {ps : Ps} {st st' : LdS} {n : Int} {nm : Nm} {lm lm' : List ((Int × Nm) × Int)} {x : Int × Int} {e : Int} (h : LoadO st n nm lm x e st' lm') : ∀ {rs rs' : LdS} {bz : List (Int × Nm)} {y : Int × Int} {f : Int}, RLoad ps rs n nm bz y f rs' → st.ones = rs.ones → ParOK st → Inv st ps → Both st ps → 0 ≤ n → n < (st.ones.length : Int) → (∀ k, k ∈ bz ↔ 0 < (alook k lm).getD 0) → (∀ k v, alook k lm = some v → 0 ≤ v) →
    e = f ∧ (e = 0 → x = y) ∧ st'.ones = rs'.ones ∧ Both st' ps := by
  have bzl : ∀ {lm : List ((Int × Nm) × Int)} {bz : List (Int × Nm)} {c : Int × Nm}, (∀ k, k ∈ bz ↔ 0 < (alook k lm).getD 0) → (∀ k v, alook k lm = some v → 0 ≤ v) → ((∀ k, k ∈ bz ++ [c] ↔ 0 < (alook k (aput c ((alook c lm).getD 0 + 1) lm)).getD 0) ∧ (∀ k v, alook k (aput c ((alook c lm).getD 0 + 1) lm) = some v → 0 ≤ v)) := by
    intro lm bz c h1 h2
    have h0 : 0 ≤ (alook c lm).getD 0 := by
      cases hc : alook c lm with
      | none => exact Int.le_refl _
      | some v => exact h2 c v hc
    refine ⟨fun k => ?_, fun k v hv => ?_⟩
    · rw [alook_aput, List.mem_append, List.mem_singleton]
      by_cases e : k = c
      · rw [if_pos e]
        exact ⟨fun _ => by rw [Option.getD_some]; omega, fun _ => .inr e⟩
      · rw [if_neg e, ← h1]
        exact ⟨fun h => h.resolve_right e, .inl⟩
    · rw [alook_aput] at hv
      by_cases e : k = c
      · rw [if_pos e] at hv; cases hv; omega
      · rw [if_neg e] at hv; exact h2 k v hv
  induction h with
  | had n nm lm v h =>
    intro rs rs' bz y f r hE hp g q h0 hn hbz hlm
    have hh := hasS_same hE n nm
    cases r with
    | had _ _ _ w h2 => rw [hh, h2] at h; cases h; exact ⟨rfl, fun _ => rfl, hE, q⟩
    | none _ _ _ h2 => rw [hh, h2] at h; cases h
    | done _ _ _ i b x e st' h2 => rw [hh, h2] at h; cases h
    | circ _ _ _ i b h2 => rw [hh, h2] at h; cases h
    | sup _ _ _ i b o r e st1 h2 => rw [hh, h2] at h; cases h
    | def0 _ _ _ i b o e st' h2 => rw [hh, h2] at h; cases h
    | def1 _ _ _ i b o r st1 e st' h2 => rw [hh, h2] at h; cases h
  | none n nm lm h hf =>
    intro rs rs' bz y f r hE hp g q h0 hn hbz hlm
    have hh := hasS_same hE n nm
    have hf' : fidx (knowsS rs nm) (lineS rs n) 0 = none := by rw [← knows_ones hE, ← line_ones hE]; exact hf
    cases r with
    | had _ _ _ w h2 => rw [hh, h2] at h; cases h
    | none _ _ _ h2 => exact ⟨rfl, (fun e => by cases e), hE, q⟩
    | done _ _ _ i b x e st' h2 hf2 => rw [hf'] at hf2; cases hf2
    | circ _ _ _ i b h2 hf2 => rw [hf'] at hf2; cases hf2
    | sup _ _ _ i b o r e st1 h2 hf2 => rw [hf'] at hf2; cases hf2
    | def0 _ _ _ i b o e st' h2 hf2 => rw [hf'] at hf2; cases hf2
    | def1 _ _ _ i b o r st1 e st' h2 hf2 => rw [hf'] at hf2; cases hf2
  | done n nm lm i by_ x e st' h hf hb hx hs =>
    intro rs rs' bz y f r hE hp g q h0 hn hbz hlm
    have hh := hasS_same hE n nm
    obtain ⟨k, rfl⟩ : ∃ k : Nat, n = (k : Int) := ⟨n.toNat, by omega⟩
    have hxp : 0 ≤ x.1 := by
      obtain ⟨⟨rt, d, gk⟩, _⟩ := g
      have hbl := (line_lt hp hn).2 by_ (List.mem_of_getElem? hb)
      obtain ⟨b, rfl⟩ : ∃ b : Nat, by_ = (b : Int) := ⟨by_.toNat, by omega⟩
      exact (gk.lk b nm x hx).1
    cases r with
    | had _ _ _ w h2 => rw [hh, h2] at h; cases h
    | none _ _ _ h2 hf2 => rw [← knows_ones hE, ← line_ones hE, hf] at hf2; cases hf2
    | done _ _ _ i2 b2 x2 e2 st2 h2 hf2 hb2 hx2 hs2 =>
      obtain ⟨rfl, rfl⟩ := same_first hE hf hb hf2 hb2
      rw [hasS_same hE, hx2] at hx; cases hx
      rw [← line_ones hE] at hs2
      obtain ⟨a1, a2, a3⟩ := RSets.law hs hxp hs2 hE g q
      subst a1
      refine ⟨rfl, fun e0 => ?_, a2, a3⟩
      subst e0
      have hi := (List.getElem?_eq_some_iff.1 hb).1
      rw [if_pos rfl, if_pos rfl, hs.eff.2 k rfl (line_last hp (by omega) hi) h]; rfl
    | circ _ _ _ i2 b2 h2 hf2 hb2 hx2 =>
      obtain ⟨rfl, rfl⟩ := same_first hE hf hb hf2 hb2
      rw [hasS_same hE, hx2] at hx; cases hx
    | sup _ _ _ i2 b2 o r e st1 h2 hf2 hb2 hx2 =>
      obtain ⟨rfl, rfl⟩ := same_first hE hf hb hf2 hb2
      rw [hasS_same hE, hx2] at hx; cases hx
    | def0 _ _ _ i2 b2 o e st' h2 hf2 hb2 hx2 =>
      obtain ⟨rfl, rfl⟩ := same_first hE hf hb hf2 hb2
      rw [hasS_same hE, hx2] at hx; cases hx
    | def1 _ _ _ i2 b2 o r st1 e st' h2 hf2 hb2 hx2 =>
      obtain ⟨rfl, rfl⟩ := same_first hE hf hb hf2 hb2
      rw [hasS_same hE, hx2] at hx; cases hx
  | circ n nm lm i by_ h hf hb hx hl =>
    intro rs rs' bz y f r hE hp g q h0 hn hbz hlm
    have hh := hasS_same hE n nm
    cases r with
    | had _ _ _ w h2 => rw [hh, h2] at h; cases h
    | none _ _ _ h2 hf2 => rw [← knows_ones hE, ← line_ones hE, hf] at hf2; cases hf2
    | done _ _ _ i2 b2 x2 e2 st2 h2 hf2 hb2 hx2 hs2 =>
      obtain ⟨rfl, rfl⟩ := same_first hE hf hb hf2 hb2
      rw [hasS_same hE, hx2] at hx; cases hx
    | circ _ _ _ i2 b2 h2 hf2 hb2 hx2 => exact ⟨rfl, (fun e => by cases e), hE, q⟩
    | sup _ _ _ i2 b2 o r e st1 h2 hf2 hb2 hx2 hl2 =>
      obtain ⟨rfl, rfl⟩ := same_first hE hf hb hf2 hb2
      exact absurd ((hbz _).2 hl) hl2
    | def0 _ _ _ i2 b2 o e st' h2 hf2 hb2 hx2 hl2 =>
      obtain ⟨rfl, rfl⟩ := same_first hE hf hb hf2 hb2
      exact absurd ((hbz _).2 hl) hl2
    | def1 _ _ _ i2 b2 o r st1 e st' h2 hf2 hb2 hx2 hl2 =>
      obtain ⟨rfl, rfl⟩ := same_first hE hf hb hf2 hb2
      exact absurd ((hbz _).2 hl) hl2
  | sup n nm lm i by_ o r e1 st1 lm1 h hf hb hx hl ho hne hr he ih =>
    intro rs rs' bz y f r hE hp g q h0 hn hbz hlm
    have hh := hasS_same hE n nm
    obtain ⟨g1, g2⟩ := (line_lt hp hn).2 by_ (List.mem_of_getElem? hb)
    cases r with
    | had _ _ _ w h2 => rw [hh, h2] at h; cases h
    | none _ _ _ h2 hf2 => rw [← knows_ones hE, ← line_ones hE, hf] at hf2; cases hf2
    | done _ _ _ i2 b2 x2 e2 st2 h2 hf2 hb2 hx2 hs2 =>
      obtain ⟨rfl, rfl⟩ := same_first hE hf hb hf2 hb2
      rw [hasS_same hE, hx2] at hx; cases hx
    | circ _ _ _ i2 b2 h2 hf2 hb2 hx2 hl2 =>
      obtain ⟨rfl, rfl⟩ := same_first hE hf hb hf2 hb2
      exact absurd ((hbz _).1 hl2) hl
    | sup _ _ _ i2 b2 o2 r2 e2 st2 h2 hf2 hb2 hx2 hl2 ho2 hne2 hr2 he2 =>
      obtain ⟨rfl, rfl⟩ := same_first hE hf hb hf2 hb2
      rw [offS_ones hE.symm, ho] at ho2; cases ho2
      obtain ⟨b1, b2⟩ := bzl (c := (by_, nm)) hbz hlm
      obtain ⟨a1, a2, a3, a4⟩ := ih hr2 hE hp g q g1 g2 b1 b2
      exact ⟨a1, fun e0 => absurd e0 he, a3, a4⟩
    | def0 _ _ _ i2 b2 o2 e st' h2 hf2 hb2 hx2 hl2 ho2 hne2 =>
      obtain ⟨rfl, rfl⟩ := same_first hE hf hb hf2 hb2
      rw [offS_ones hE.symm, ho] at ho2; cases ho2
      exact absurd hne2 hne
    | def1 _ _ _ i2 b2 o2 r2 st2 e st' h2 hf2 hb2 hx2 hl2 ho2 hne2 hr2 =>
      obtain ⟨rfl, rfl⟩ := same_first hE hf hb hf2 hb2
      rw [offS_ones hE.symm, ho] at ho2; cases ho2
      obtain ⟨b1, b2⟩ := bzl (c := (by_, nm)) hbz hlm
      obtain ⟨a1, a2, a3, a4⟩ := ih hr2 hE hp g q g1 g2 b1 b2
      exact absurd a1 he
  | def0 n nm lm i by_ o e st' lm' h hf hb hx hl ho hne hs =>
    intro rs rs' bz y f r hE hp g q h0 hn hbz hlm
    have hh := hasS_same hE n nm
    obtain ⟨g1, g2⟩ := (line_lt hp hn).2 by_ (List.mem_of_getElem? hb)
    obtain ⟨k, rfl⟩ : ∃ k : Nat, n = (k : Int) := ⟨n.toNat, by omega⟩
    have hxp : 0 ≤ o.2 := by
      obtain ⟨b, rfl⟩ : ∃ b : Nat, by_ = (b : Int) := ⟨by_.toNat, by omega⟩
      exact g.2 b nm o ho
    cases r with
    | had _ _ _ w h2 => rw [hh, h2] at h; cases h
    | none _ _ _ h2 hf2 => rw [← knows_ones hE, ← line_ones hE, hf] at hf2; cases hf2
    | done _ _ _ i2 b2 x2 e2 st2 h2 hf2 hb2 hx2 hs2 =>
      obtain ⟨rfl, rfl⟩ := same_first hE hf hb hf2 hb2
      rw [hasS_same hE, hx2] at hx; cases hx
    | circ _ _ _ i2 b2 h2 hf2 hb2 hx2 hl2 =>
      obtain ⟨rfl, rfl⟩ := same_first hE hf hb hf2 hb2
      exact absurd ((hbz _).1 hl2) hl
    | sup _ _ _ i2 b2 o2 r2 e2 st2 h2 hf2 hb2 hx2 hl2 ho2 hne2 =>
      obtain ⟨rfl, rfl⟩ := same_first hE hf hb hf2 hb2
      rw [offS_ones hE.symm, ho] at ho2; cases ho2
      exact absurd hne hne2
    | def0 _ _ _ i2 b2 o2 e2 st2 h2 hf2 hb2 hx2 hl2 ho2 hne2 hs2 =>
      obtain ⟨rfl, rfl⟩ := same_first hE hf hb hf2 hb2
      rw [offS_ones hE.symm, ho] at ho2; cases ho2
      rw [← line_ones hE] at hs2
      obtain ⟨a1, a2, a3⟩ := RSets.law hs hxp hs2 hE g q
      subst a1
      refine ⟨rfl, fun e0 => ?_, a2, a3⟩
      subst e0
      have hi := (List.getElem?_eq_some_iff.1 hb).1
      rw [if_pos rfl, if_pos rfl, hs.eff.2 k rfl (line_last hp (by omega) hi) h]; rfl
    | def1 _ _ _ i2 b2 o2 r2 st2 e st' h2 hf2 hb2 hx2 hl2 ho2 hne2 hr2 =>
      obtain ⟨rfl, rfl⟩ := same_first hE hf hb hf2 hb2
      rw [offS_ones hE.symm, ho] at ho2; cases ho2
      exact absurd hne hne2
  | def1 n nm lm i by_ o r st1 lm1 e st' lm' h hf hb hx hl ho hne hr hs ih =>
    intro rs rs' bz y f r2 hE hp g q h0 hn hbz hlm
    have hh := hasS_same hE n nm
    obtain ⟨g1, g2⟩ := (line_lt hp hn).2 by_ (List.mem_of_getElem? hb)
    obtain ⟨k, rfl⟩ : ∃ k : Nat, n = (k : Int) := ⟨n.toNat, by omega⟩
    obtain ⟨b, rfl⟩ : ∃ b : Nat, by_ = (b : Int) := ⟨by_.toNat, by omega⟩
    have hxp : 0 ≤ o.2 := g.2 b nm o ho
    obtain ⟨kp1, kp2, kp3, kp4⟩ := hr.keep hp g g1 g2
    cases r2 with
    | had _ _ _ w h2 => rw [hh, h2] at h; cases h
    | none _ _ _ h2 hf2 => rw [← knows_ones hE, ← line_ones hE, hf] at hf2; cases hf2
    | done _ _ _ i2 b2 x2 e2 st2 h2 hf2 hb2 hx2 hs2 =>
      obtain ⟨rfl, rfl⟩ := same_first hE hf hb hf2 hb2
      rw [hasS_same hE, hx2] at hx; cases hx
    | circ _ _ _ i2 b2 h2 hf2 hb2 hx2 hl2 =>
      obtain ⟨rfl, rfl⟩ := same_first hE hf hb hf2 hb2
      exact absurd ((hbz _).1 hl2) hl
    | sup _ _ _ i2 b2 o2 r2 e2 st2 h2 hf2 hb2 hx2 hl2 ho2 hne2 hr2 he2 =>
      obtain ⟨rfl, rfl⟩ := same_first hE hf hb hf2 hb2
      rw [offS_ones hE.symm, ho] at ho2; cases ho2
      obtain ⟨b1, b2⟩ := bzl (c := (((b : Nat) : Int), nm)) hbz hlm
      obtain ⟨a1, a2, a3, a4⟩ := ih hr2 hE hp g q g1 g2 b1 b2
      exact absurd a1.symm he2
    | def0 _ _ _ i2 b2 o2 e st' h2 hf2 hb2 hx2 hl2 ho2 hne2 =>
      obtain ⟨rfl, rfl⟩ := same_first hE hf hb hf2 hb2
      rw [offS_ones hE.symm, ho] at ho2; cases ho2
      exact absurd hne2 hne
    | def1 _ _ _ i2 b2 o2 r2 st2 e2 st3 h2 hf2 hb2 hx2 hl2 ho2 hne2 hr2 hs2 =>
      obtain ⟨rfl, rfl⟩ := same_first hE hf hb hf2 hb2
      rw [offS_ones hE.symm, ho] at ho2; cases ho2
      obtain ⟨b1, b2⟩ := bzl (c := (((b : Nat) : Int), nm)) hbz hlm
      obtain ⟨a1, a2, a3, a4⟩ := ih hr2 hE hp g q g1 g2 b1 b2
      rw [← line_ones hE] at hs2
      obtain ⟨c1, c2, c3⟩ := RSets.law hs hxp hs2 a3 kp1 a4
      subst c1
      refine ⟨rfl, fun e0 => ?_, c2, c3⟩
      subst e0
      have hi := (List.getElem?_eq_some_iff.1 hb).1
      have hbk : ((b : Nat) : Int) ∈ lineS st ((k : Nat) : Int) := List.mem_of_getElem? hb
      have hkn : knowsS st nm ((b : Nat) : Int) = true := by unfold knowsS; rw [ho]; simp
      have hon : ∀ a ∈ lineS st ((b : Nat) : Int), a ≠ ((b : Nat) : Int) → knowsS st nm a = false := fun a ha hne => by
        rw [line_take hp (k + 1) _ (by omega) hn i _ hb] at ha
        obtain ⟨j, hj⟩ := List.mem_iff_getElem?.1 ha
        rw [List.getElem?_take] at hj
        by_cases hji : j < i + 1
        · rw [if_pos hji] at hj
          by_cases hje : j = i
          · rw [hje, hb] at hj; exact absurd (Option.some.inj hj).symm hne
          · exact fidx_min hf j (by omega) a hj
        · rw [if_neg hji] at hj; cases hj
      have hst1 : hasS st1 ((k : Nat) : Int) nm = none := (load_quiet hr hp g1 g2).2 k b nm (by omega) ((b1 _).1 (List.mem_append_right _ (List.mem_singleton.2 rfl))) hx hbk hkn hon h
      rw [if_pos rfl, if_pos rfl, hs.eff.2 k rfl (line_last hp (by omega) hi) hst1]; rfl
end Go.Proofs.Ytjbpegggfacojaa
/- carafelaw15.LoaderLine: what the loaders are, and what they answer: the plain law. -/



namespace Go.Proofs.Ytjbpegggfacojaa
open GX
set_option maxHeartbeats 16000000
set_option linter.unusedVariables false
def nA : Nm := [65]
def nB : Nm := [66]
def offers (i : Nat) : List (Nm × (Nm × Int)) := [(nA, (nB, 100 + (i : Int))), (nB, ([], 200 + (i : Int)))]
/-- a line of loaders, of which some offer both classes -/
structure Cfg (st : LdS) (d a m : Nat) : Prop where
  len : st.ones.length = d + 1
  keys : st.keys = []
  prs : st.prs = []
  ids : st.ids = []
  one : ∀ (i : Nat) (o : One), st.ones[i]? = some o → o.par = (i : Int) - 1 ∧ o.ldd = [] ∧ o.off = if a ≤ i ∧ i < m then offers i else []
theorem cfg0 : Cfg ⟨[⟨-1, [], []⟩], [], [], []⟩ 0 0 0 := by
  refine ⟨rfl, rfl, rfl, rfl, fun i o h => ?_⟩
  match i, h with
  | 0, h => cases h; exact ⟨rfl, rfl, by rw [if_neg (by omega)]⟩
  | i + 1, h => simp at h
theorem Cfg.child {st : LdS} {d : Nat} (h : Cfg st d 0 0) : Cfg { st with ones := st.ones ++ [⟨(d : Int), [], []⟩] } (d + 1) 0 0 := by
  refine ⟨by simp [h.len], h.keys, h.prs, h.ids, fun i o ho => ?_⟩
  dsimp only at ho
  by_cases hi : i < st.ones.length
  · rw [List.getElem?_append_left hi] at ho
    exact h.one i o ho
  · have h2 := (List.getElem?_eq_some_iff.1 ho).1
    simp at h2
    have : i = st.ones.length := by omega
    subst this
    simp at ho
    subst ho
    exact ⟨by dsimp only; rw [h.len]; omega, rfl, by rw [if_neg (by omega)]⟩
theorem Cfg.start {st : LdS} {d : Nat} (h : Cfg st d 0 0) (a : Nat) : Cfg st d a a :=
  ⟨h.len, h.keys, h.prs, h.ids, fun i o ho => by
    obtain ⟨h1, h2, h3⟩ := h.one i o ho
    rw [if_neg (by omega)] at h3
    exact ⟨h1, h2, by rw [if_neg (by omega)]; exact h3⟩⟩
theorem Cfg.get {st : LdS} {d a m : Nat} (h : Cfg st d a m) {i : Nat} (hi : i ≤ d) : ∃ o, st.ones[i]? = some o ∧ o.par = (i : Int) - 1 ∧ o.ldd = [] ∧ o.off = if a ≤ i ∧ i < m then offers i else [] := by
  have hl : i < st.ones.length := by rw [h.len]; omega
  exact ⟨_, List.getElem?_eq_getElem hl, h.one i _ (List.getElem?_eq_getElem hl)⟩
theorem Cfg.isL {st : LdS} {d a m i : Nat} (h : Cfg st d a m) (hi : i ≤ d) : isL st ((i : Nat) : Int) := by
  unfold Ytjbpegggfacojaa.isL; rw [h.len]; omega
theorem nameA : nameP nA := by decide
theorem nameB : nameP nB := by decide
theorem Cfg.offer {st : LdS} {d a m : Nat} (h : Cfg st d a m) (h1 : a ≤ m) (h2 : m ≤ d) {e1 : Int} {st1 : LdS} (ho : OfferS st ((m : Nat) : Int) nA nB (100 + (m : Int)) e1 st1) :
    e1 = 0 ∧ st1.ones.length = d + 1 ∧ ∀ e2 st2, OfferS st1 ((m : Nat) : Int) nB [] (200 + (m : Int)) e2 st2 → e2 = 0 ∧ Cfg st2 d a (m + 1) := by
  obtain ⟨o, g1, g2, g3, g4⟩ := h.get h2
  rw [if_neg (by omega)] at g4
  cases ho with
  | arg hn => exact absurd ⟨h.isL h2, nameA, .inr nameB, by omega⟩ hn
  | taken _ o' ho' =>
    exfalso
    unfold Ytjbpegggfacojaa.offS at ho'
    rw [Int.toNat_natCast, g1] at ho'
    dsimp only at ho'
    rw [g4] at ho'; cases ho'
  | put _ _ o' hn =>
    rw [Int.toNat_natCast, g1] at hn
    cases hn
    rw [Int.toNat_natCast]
    have hl : (st.put m { o with off := aput nA (nB, 100 + (m : Int)) o.off }).ones.length = d + 1 := by
      show (st.ones.set m _).length = _
      rw [List.length_set]; exact h.len
    refine ⟨rfl, hl, fun e2 st2 ho2 => ?_⟩
    have hm1 : (st.put m { o with off := aput nA (nB, 100 + (m : Int)) o.off }).ones[m]? = some { o with off := aput nA (nB, 100 + (m : Int)) o.off } := List.getElem?_set_self (by rw [h.len]; omega)
    rw [g4] at hm1 ho2
    cases ho2 with
    | arg hn => exact absurd ⟨by unfold Ytjbpegggfacojaa.isL; rw [show (st.put m { o with off := aput nA (nB, 100 + (m : Int)) [] }).ones.length = d + 1 by rw [g4] at hl; exact hl]; omega, nameB, .inl rfl, by omega⟩ hn
    | taken _ o' ho' =>
      exfalso
      unfold Ytjbpegggfacojaa.offS at ho'
      rw [Int.toNat_natCast, hm1] at ho'
      cases ho'
    | put _ _ o' hn =>
      rw [Int.toNat_natCast, hm1] at hn
      cases hn
      rw [Int.toNat_natCast]
      refine ⟨rfl, ?_, h.keys, h.prs, h.ids, fun i q hq => ?_⟩
      · show ((st.ones.set m _).set m _).length = _
        rw [List.length_set, List.length_set]; exact h.len
      · have hq : ((st.ones.set m { o with off := aput nA (nB, 100 + (m : Int)) [] }).set m { o with off := aput nB ([], 200 + (m : Int)) (aput nA (nB, 100 + (m : Int)) []) })[i]? = some q := hq
        by_cases him : m = i
        · subst him
          rw [List.getElem?_set_self (by rw [List.length_set, h.len]; omega)] at hq
          cases hq
          exact ⟨g2, g3, by rw [if_pos (by omega)]; rfl⟩
        · rw [List.getElem?_set_ne him, List.getElem?_set_ne him] at hq
          obtain ⟨k1, k2, k3⟩ := h.one i q hq
          refine ⟨k1, k2, ?_⟩
          rw [k3]
          by_cases hc : a ≤ i ∧ i < m
          · rw [if_pos hc, if_pos (by omega)]
          · rw [if_neg hc, if_neg (by omega)]
theorem Cfg.good {st : LdS} {d a m : Nat} (h : Cfg st d a m) (hd : d ≤ 15) : Good st :=
  ⟨fun _ => 0, fun _ => 0, fun i hi => (by rw [h.prs] at hi; cases hi), by rw [h.prs, h.ids], fun k v hv => (by rw [h.keys] at hv; cases hv), by rw [h.len]; omega⟩
theorem Cfg.par {st : LdS} {d a m : Nat} (h : Cfg st d a m) : ParOK st := fun j o ho => by
  obtain ⟨h1, _⟩ := h.one j o ho
  omega
/-- the names that are offered -/
def offK (d : Nat) : List (Int × Nm) := (List.range (d + 1)).flatMap fun (i : Nat) => [((i : Int), nA), ((i : Int), nB)]
theorem offK_len (d : Nat) : (offK d).length = 2 * (d + 1) := by
  unfold offK
  induction d with
  | zero => rfl
  | succ d ih =>
    rw [List.range_succ, List.flatMap_append, List.length_append, ih]
    simp
    omega
theorem Cfg.offS {st : LdS} {d a m : Nat} (h : Cfg st d a m) (n : Nat) (hn : n ≤ d) (nm : Nm) : offS st ((n : Nat) : Int) nm = if a ≤ n ∧ n < m then alook nm (offers n) else none := by
  obtain ⟨o, g1, _, _, g4⟩ := h.get hn
  unfold Ytjbpegggfacojaa.offS
  rw [Int.toNat_natCast, g1]
  dsimp only
  rw [g4]
  split <;> rfl
theorem Cfg.offIn {st : LdS} {d a m : Nat} (h : Cfg st d a m) : ∀ (n : Int) nm o, 0 ≤ n → Ytjbpegggfacojaa.offS st n nm = some o → (n, nm) ∈ offK d := by
  intro n nm o hn ho
  obtain ⟨k, rfl⟩ : ∃ k : Nat, n = k := ⟨n.toNat, by omega⟩
  have hk : k ≤ d := by
    refine Classical.byContradiction fun hc => ?_
    unfold Ytjbpegggfacojaa.offS at ho
    rw [Int.toNat_natCast, List.getElem?_eq_none (by rw [h.len]; omega)] at ho
    cases ho
  rw [h.offS k hk] at ho
  have hnm : nm = nA ∨ nm = nB := by
    split at ho
    · unfold offers alook at ho
      by_cases e1 : nm = nA
      · exact .inl e1
      · rw [if_neg e1] at ho
        unfold alook at ho
        by_cases e2 : nm = nB
        · exact .inr e2
        · rw [if_neg e2] at ho; cases ho
    · cases ho
  unfold offK
  rw [List.mem_flatMap]
  refine ⟨k, List.mem_range.2 (by omega), ?_⟩
  rcases hnm with rfl | rfl <;> simp
theorem Cfg.has {st : LdS} {d a m : Nat} (h : Cfg st d a m) (n : Nat) (nm : Nm) : hasS st ((n : Nat) : Int) nm = none := by
  unfold hasS
  rw [Int.toNat_natCast]
  cases hn : st.ones[n]? with
  | none => rfl
  | some o =>
    obtain ⟨_, h2, _⟩ := h.one n o hn
    dsimp only
    rw [h2]; rfl
theorem Cfg.parS {st : LdS} {d a m : Nat} (h : Cfg st d a m) (n : Nat) (hn : n ≤ d) : parS st ((n : Nat) : Int) = (n : Int) - 1 := by
  obtain ⟨o, g1, g2, _⟩ := h.get hn
  unfold Ytjbpegggfacojaa.parS
  rw [Int.toNat_natCast, g1]
  exact g2
/-- the line of a loader: from the first one on -/
theorem Cfg.line {st : LdS} {d a m : Nat} (h : Cfg st d a m) : ∀ n : Nat, n ≤ d → lineS st ((n : Nat) : Int) = (List.range (n + 1)).map fun (i : Nat) => (i : Int)
  | 0, hn => by
    unfold lineS
    rw [up_cons h.par (by omega) (by rw [h.len]; omega), h.parS 0 hn, up_neg (by omega)]; rfl
  | n + 1, hn => by
    have ih := h.line n (by omega)
    unfold lineS at ih ⊢
    rw [up_cons h.par (by omega) (by rw [h.len]; omega), h.parS (n + 1) hn]
    have e : (((n + 1 : Nat) : Int) - 1) = ((n : Nat) : Int) := by omega
    rw [e, List.reverse_cons, ih, List.range_succ (n := n + 1), List.map_append]
    rfl
/-- what 'set' does along a list of loaders that have not heard of a name -/
theorem hasS_put {st : LdS} {j : Nat} {o : One} {l : List (Nm × (Int × Int))} (ho : st.ones[j]? = some o) (k : Nat) (nm : Nm) : hasS (st.put j { o with ldd := l }) ((k : Nat) : Int) nm = if k = j then alook nm l else hasS st ((k : Nat) : Int) nm := by
  have hj := (List.getElem?_eq_some_iff.1 ho).1
  unfold hasS
  rw [Int.toNat_natCast]
  show (match (st.ones.set j { o with ldd := l })[k]? with | some o => alook nm o.ldd | none => none) = _
  by_cases e : k = j
  · subst e
    rw [List.getElem?_set_self hj, if_pos rfl]
  · rw [List.getElem?_set_ne (Ne.symm e), if_neg e]; rfl
theorem hasS_ones {st st' : LdS} (h : st'.ones = st.ones) (n : Int) (nm : Nm) : hasS st' n nm = hasS st n nm := by unfold hasS; rw [h]
theorem SetX.fresh {st st' : LdS} {k : Nat} {nm : Nm} {x : Int × Int} {e : Int} (h : SetX st k nm x e st') (hh : hasS st ((k : Nat) : Int) nm = none) (hkey : alook (((k : Nat) : Int), nm) st.keys = none) :
    e = 0 ∧ (∀ (n : Nat) nm', hasS st' ((n : Nat) : Int) nm' = if n = k ∧ nm' = nm then some x else hasS st ((n : Nat) : Int) nm') ∧ ∀ (n : Int) nm', (n, nm') ≠ (((k : Nat) : Int), nm) → alook (n, nm') st'.keys = alook (n, nm') st.keys := by
  obtain ⟨rt, d, hk, hs⟩ := h
  cases hs with
  | had v h => rw [hh] at h; cases h
  | bound st1 r h hr v hv h1 =>
    exfalso
    obtain ⟨g1, g2⟩ := hr.new hkey
    subst g2
    try dsimp only at hv
    rw [g1, hk.pi] at hv
    rw [List.getElem?_append_right (Nat.le_refl _), Nat.sub_self] at hv
    have : newId st ((k : Nat) : Int) nm = -1 := by unfold newId; rw [hh]
    try dsimp only at hv
    rw [this] at hv
    cases hv
    omega
  | put st1 r o h hr v hv h1 ho =>
    obtain ⟨g1, g2⟩ := hr.new hkey
    subst g2
    refine ⟨rfl, fun n nm' => ?_, fun n nm' hne => ?_⟩
    · rw [hasS_put (st := { ones := st.ones, keys := aput (((k : Nat) : Int), nm) ((r : Nat) : Int) st.keys, prs := st.prs ++ [((r : Nat) : Int)], ids := (st.ids ++ [newId st ((k : Nat) : Int) nm]).set r x.1 }) (o := o) ho n nm']
      by_cases e1 : n = k
      · subst e1
        have hal : hasS st ((n : Nat) : Int) nm' = alook nm' o.ldd := by unfold hasS; rw [Int.toNat_natCast, ho]
        rw [if_pos rfl, alook_aput, hal]
        by_cases e2 : nm' = nm
        · rw [if_pos e2, if_pos ⟨rfl, e2⟩]
        · rw [if_neg e2, if_neg (fun e => e2 e.2)]
      · rw [if_neg e1, if_neg (fun e => e1 e.1)]
        exact hasS_ones rfl _ _
    · show alook (n, nm') (aput (((k : Nat) : Int), nm) ((r : Nat) : Int) st.keys) = _
      rw [alook_aput, if_neg hne]
theorem SetsX.fresh {nm : Nm} {x : Int × Int} {st st' : LdS} {l : List Int} {e : Int} (h : SetsX nm x st l e st') : l.Nodup → (∀ k : Nat, ((k : Nat) : Int) ∈ l → hasS st ((k : Nat) : Int) nm = none ∧ alook (((k : Nat) : Int), nm) st.keys = none) →
    e = 0 ∧ (∀ (n : Nat) nm', hasS st' ((n : Nat) : Int) nm' = if ((n : Nat) : Int) ∈ l ∧ nm' = nm then some x else hasS st ((n : Nat) : Int) nm') ∧ ∀ (n : Int) nm', nm' ≠ nm → alook (n, nm') st'.keys = alook (n, nm') st.keys := by
  induction h with
  | nil st => exact fun _ _ => ⟨rfl, fun n nm' => by rw [if_neg (fun e => by cases e.1)], fun _ _ _ => rfl⟩
  | stop st k l e st1 h he =>
    intro _ hf
    obtain ⟨h1, h2⟩ := hf k (List.mem_cons_self ..)
    exact absurd (h.fresh h1 h2).1 he
  | next st k l e st1 st2 h h2 ih =>
    intro hnd hf
    obtain ⟨hn1, hn2⟩ := List.nodup_cons.1 hnd
    obtain ⟨g1, g2⟩ := hf k (List.mem_cons_self ..)
    obtain ⟨_, a2, a3⟩ := h.fresh g1 g2
    obtain ⟨b1, b2, b3⟩ := ih hn2 (fun q hq => by
      obtain ⟨c1, c2⟩ := hf q (List.mem_cons_of_mem _ hq)
      have hqk : q ≠ k := fun e => hn1 (by rw [← e]; exact hq)
      refine ⟨by rw [a2, if_neg (fun e => hqk e.1)]; exact c1, ?_⟩
      rw [a3 _ _ (fun e => hqk (by have := congrArg Prod.fst e; dsimp only at this; omega))]
      exact c2)
    refine ⟨b1, fun n nm' => ?_, fun n nm' hne => by rw [b3 n nm' hne, a3 _ _ (fun e => hne (congrArg Prod.snd e))]⟩
    rw [b2, a2]
    by_cases e2 : nm' = nm
    · by_cases e1 : ((n : Nat) : Int) ∈ l
      · rw [if_pos ⟨e1, e2⟩, if_pos ⟨List.mem_cons_of_mem _ e1, e2⟩]
      · rw [if_neg (fun e => e1 e.1)]
        by_cases e3 : n = k
        · rw [if_pos ⟨e3, e2⟩, if_pos ⟨by rw [e3]; exact List.mem_cons_self .., e2⟩]
        · rw [if_neg (fun e => e3 e.1), if_neg (fun e => by
            rcases List.mem_cons.1 e.1 with g | g
            · exact e3 (by omega)
            · exact e1 g)]
    · rw [if_neg (fun e => e2 e.2), if_neg (fun e => e2 e.2), if_neg (fun e => e2 e.2)]
/-- the first loader of the line that offers -/
theorem fidx_range (P : Int → Bool) (a : Nat) (h1 : ∀ i : Nat, i < a → P ((i : Nat) : Int) = false) : ∀ (n s : Nat), fidx P ((List.range' s n).map fun (i : Nat) => (i : Int)) s = if s ≤ a ∧ a < s + n ∧ P ((a : Nat) : Int) = true then some a else (if P ((a : Nat) : Int) = true ∧ s ≤ a then none else fidx P ((List.range' s n).map fun (i : Nat) => (i : Int)) s)
  | 0, s => by
    by_cases hp : P ((a : Nat) : Int) = true ∧ s ≤ a
    · rw [if_neg (by omega), if_pos hp]; rfl
    · rw [if_neg (by omega), if_neg hp]
  | n + 1, s => by
    by_cases hp : P ((a : Nat) : Int) = true ∧ s ≤ a
    · rw [if_pos hp]
      have e : (List.range' s (n + 1)).map (fun (i : Nat) => (i : Int)) = ((s : Nat) : Int) :: (List.range' (s + 1) n).map fun (i : Nat) => (i : Int) := by rw [List.range'_succ]; rfl
      rw [e]
      show (if P ((s : Nat) : Int) = true then some s else fidx P ((List.range' (s + 1) n).map fun (i : Nat) => (i : Int)) (s + 1)) = _
      by_cases hs : s = a
      · subst hs
        rw [if_pos hp.1, if_pos ⟨Nat.le_refl _, by omega, hp.1⟩]
      · rw [if_neg (by rw [h1 s (by omega)]; decide), fidx_range P a h1 n (s + 1)]
        by_cases hc : a < s + (n + 1)
        · rw [if_pos ⟨by omega, by omega, hp.1⟩, if_pos ⟨hp.2, hc, hp.1⟩]
        · rw [if_neg (by omega), if_pos ⟨hp.1, by omega⟩, if_neg (by omega)]
    · rw [if_neg (fun e => hp ⟨e.2.2, e.1⟩), if_neg hp]
theorem fidx_none {P : Int → Bool} : ∀ {l : List Int} {i : Nat}, (∀ x ∈ l, P x = false) → fidx P l i = none
  | [], _, _ => rfl
  | x :: l, i, h => by
    unfold fidx
    rw [if_neg (by rw [h x (List.mem_cons_self ..)]; decide)]
    exact fidx_none (fun y hy => h y (List.mem_cons_of_mem _ hy))
theorem line_nodup (s n : Nat) : ((List.range' s n).map fun (i : Nat) => (i : Int)).Nodup := by
  unfold List.Nodup
  rw [List.pairwise_map]
  refine List.Pairwise.imp (fun {a b} h e => h ?_) (List.nodup_range' (s := s) (n := n) (step := 1))
  have : ((a : Nat) : Int) = ((b : Nat) : Int) := e
  omega
theorem Cfg.knows {st : LdS} {d a m : Nat} (h : Cfg st d a m) (n : Nat) (hn : n ≤ d) (nm : Nm) : knowsS st nm ((n : Nat) : Int) = (if a ≤ n ∧ n < m then alook nm (offers n) else none).isSome := by
  unfold knowsS
  rw [h.has, h.offS n hn]; rfl
theorem Cfg.fidx {st : LdS} {d a : Nat} (h : Cfg st d a (d + 1)) (n : Nat) (hn : n ≤ d) {nm : Nm} {o : Nm × Int} (ho : ∀ i, ∃ o, alook nm (offers i) = some o) : Ytjbpegggfacojaa.fidx (knowsS st nm) (lineS st ((n : Nat) : Int)) 0 = if a ≤ n then some a else none := by
  rw [h.line n hn, List.range_eq_range']
  by_cases han : a ≤ n
  · have hka : knowsS st nm ((a : Nat) : Int) = true := by
      obtain ⟨o, ho⟩ := ho a
      rw [h.knows a (by omega), if_pos (by omega), ho]; rfl
    rw [fidx_range (knowsS st nm) a (fun i hi => by rw [h.knows i (by omega), if_neg (by omega)]; rfl) (n + 1) 0, if_pos ⟨Nat.zero_le _, by omega, hka⟩, if_pos han]
  · rw [if_neg han]
    refine fidx_none (fun x hx => ?_)
    obtain ⟨i, hi, rfl⟩ := List.mem_map.1 hx
    have := List.mem_range'.1 hi
    rw [h.knows i (by omega), if_neg (by omega)]; rfl
theorem Cfg.at_ {st : LdS} {d a m : Nat} (h : Cfg st d a m) {n i : Nat} (hn : n ≤ d) (hi : i ≤ n) : (lineS st ((n : Nat) : Int))[i]? = some ((i : Nat) : Int) := by
  rw [h.line n hn, List.getElem?_map, List.getElem?_range (by omega)]; rfl
theorem Cfg.drop {st : LdS} {d a m : Nat} (h : Cfg st d a m) {n i : Nat} (hn : n ≤ d) : (lineS st ((n : Nat) : Int)).drop i = (List.range' i (n + 1 - i)).map fun (i : Nat) => (i : Int) := by
  rw [h.line n hn, ← List.map_drop, List.range_eq_range', List.drop_range']
  simp
theorem mem_line {i n k : Nat} : ((k : Nat) : Int) ∈ ((List.range' i (n + 1 - i)).map fun (i : Nat) => (i : Int)) ↔ i ≤ k ∧ k ≤ n := by
  rw [List.mem_map]
  constructor
  · rintro ⟨q, hq, e⟩
    have h1 := List.mem_range'.1 hq
    have : ((q : Nat) : Int) = ((k : Nat) : Int) := e
    omega
  · rintro ⟨h1, h2⟩
    exact ⟨k, List.mem_range'.2 ⟨k - i, by omega, by omega⟩, rfl⟩
theorem offA (i : Nat) : alook nA (offers i) = some (nB, 100 + (i : Int)) := rfl
theorem offB (i : Nat) : alook nB (offers i) = some ([], 200 + (i : Int)) := rfl
theorem Cfg.loadB {st : LdS} {d a : Nat} (h : Cfg st d a (d + 1)) (ha : a ≤ d) {lm lm1 : List ((Int × Nm) × Int)} (hlm : (alook (((a : Nat) : Int), nB) lm).getD 0 = 0) {r : Int × Int} {e : Int} {st1 : LdS} (hl : LoadO st ((a : Nat) : Int) nB lm r e st1 lm1) :
    e = 0 ∧ (∀ (n : Nat) nm', hasS st1 ((n : Nat) : Int) nm' = if n = a ∧ nm' = nB then some (200 + (a : Int), (a : Int)) else none) ∧ ∀ (n : Int) nm', nm' ≠ nB → alook (n, nm') st1.keys = none := by
  have hfx := h.fidx a ha (nm := nB) (o := ([], 0)) (fun i => ⟨_, offB i⟩)
  rw [if_pos (Nat.le_refl _)] at hfx
  have hoff : Ytjbpegggfacojaa.offS st ((a : Nat) : Int) nB = some ([], 200 + (a : Int)) := by rw [h.offS a ha, if_pos (by omega), offB]
  cases hl with
  | had _ _ _ v hv => rw [h.has] at hv; cases hv
  | none _ _ _ _ hf => rw [hfx] at hf; cases hf
  | done _ _ _ i by_ x e st' _ hf hb hx hs =>
    rw [hfx] at hf; cases hf
    rw [h.at_ ha (Nat.le_refl _)] at hb; cases hb
    rw [h.has] at hx; cases hx
  | circ _ _ _ i by_ _ hf hb hx hc =>
    rw [hfx] at hf; cases hf
    rw [h.at_ ha (Nat.le_refl _)] at hb; cases hb
    rw [hlm] at hc; omega
  | sup _ _ _ i by_ o r e1 st1 lm1 _ hf hb hx hc ho hne hr he =>
    rw [hfx] at hf; cases hf
    rw [h.at_ ha (Nat.le_refl _)] at hb; cases hb
    rw [hoff] at ho; cases ho
    exact absurd rfl hne
  | def1 _ _ _ i by_ o r st2 lm2 e st' lm' _ hf hb hx hc ho hne hr hs =>
    rw [hfx] at hf; cases hf
    rw [h.at_ ha (Nat.le_refl _)] at hb; cases hb
    rw [hoff] at ho; cases ho
    exact absurd rfl hne
  | def0 _ _ _ i by_ o e st' lm' _ hf hb hx hc ho hne hs =>
    rw [hfx] at hf; cases hf
    rw [h.at_ ha (Nat.le_refl _)] at hb; cases hb
    rw [hoff] at ho; cases ho
    rw [h.drop ha] at hs
    obtain ⟨g1, g2, g3⟩ := hs.fresh (line_nodup _ _) (fun k _ => ⟨h.has k _, by rw [h.keys]; rfl⟩)
    refine ⟨g1, fun n nm' => ?_, fun n nm' hne' => by rw [g3 n nm' hne', h.keys]; rfl⟩
    rw [g2, h.has]
    by_cases hc2 : n = a ∧ nm' = nB
    · rw [if_pos hc2, if_pos ⟨by rw [mem_line]; omega, hc2.2⟩]
    · rw [if_neg hc2, if_neg (fun q => hc2 ⟨by have := mem_line.1 q.1; omega, q.2⟩)]
theorem Cfg.loadA {st : LdS} {d a n : Nat} (h : Cfg st d a (d + 1)) (ha : a ≤ d) (hn : n ≤ d) {lm' : List ((Int × Nm) × Int)} {x : Int × Int} {e : Int} {st' : LdS} (hl : LoadO st ((n : Nat) : Int) nA [] x e st' lm') :
    (n < a → e = 22) ∧ (a ≤ n → e = 0 ∧ x = (100 + (a : Int), (a : Int)) ∧ hasS st' ((a : Nat) : Int) nB = some (200 + (a : Int), (a : Int)) ∧ (hasS st' ((n : Nat) : Int) nB).isSome = decide (n = a)) := by
  have hfx := h.fidx n hn (nm := nA) (o := ([], 0)) (fun i => ⟨_, offA i⟩)
  have hoff : Ytjbpegggfacojaa.offS st ((a : Nat) : Int) nA = some (nB, 100 + (a : Int)) := by rw [h.offS a ha, if_pos (by omega), offA]
  have hneB : nB ≠ [] := by decide
  have hAB : nA ≠ nB := by decide
  have key : ∀ i, Ytjbpegggfacojaa.fidx (knowsS st nA) (lineS st ((n : Nat) : Int)) 0 = some i → a ≤ n ∧ i = a := fun i hi => by
    rw [hfx] at hi
    by_cases hc : a ≤ n
    · rw [if_pos hc] at hi; cases hi; exact ⟨hc, rfl⟩
    · rw [if_neg hc] at hi; cases hi
  cases hl with
  | had _ _ _ v hv => rw [h.has] at hv; cases hv
  | none _ _ _ _ hf =>
    rw [hfx] at hf
    by_cases hc : a ≤ n
    · rw [if_pos hc] at hf; cases hf
    · exact ⟨fun _ => rfl, fun hc2 => absurd hc2 hc⟩
  | done _ _ _ i by_ x e st' _ hf hb hx hs =>
    obtain ⟨k1, rfl⟩ := key i hf
    rw [h.at_ hn k1] at hb; cases hb
    rw [h.has] at hx; cases hx
  | circ _ _ _ i by_ _ hf hb hx hc =>
    obtain ⟨k1, rfl⟩ := key i hf
    rw [h.at_ hn k1] at hb; cases hb
    exact absurd hc (by show ¬ (0 : Int) < 0; omega)
  | sup _ _ _ i by_ o r e1 st1 lm1 _ hf hb hx hc ho hne hr he =>
    obtain ⟨k1, rfl⟩ := key i hf
    rw [h.at_ hn k1] at hb; cases hb
    rw [hoff] at ho; cases ho
    exact absurd (h.loadB ha (by rw [alook_aput, if_neg (fun e => hAB (congrArg Prod.snd e).symm)]; rfl) hr).1 he
  | def0 _ _ _ i by_ o e st' lm' _ hf hb hx hc ho hne hs =>
    obtain ⟨k1, rfl⟩ := key i hf
    rw [h.at_ hn k1] at hb; cases hb
    rw [hoff] at ho; cases ho
    exact absurd hne hneB
  | def1 _ _ _ i by_ o r st2 lm2 e st' lm' _ hf hb hx hc ho hne hr hs =>
    obtain ⟨k1, rfl⟩ := key i hf
    rw [h.at_ hn k1] at hb; cases hb
    rw [hoff] at ho; cases ho
    obtain ⟨_, b2, b3⟩ := h.loadB ha (by rw [alook_aput, if_neg (fun e => hAB (congrArg Prod.snd e).symm)]; rfl) hr
    rw [h.drop hn] at hs
    obtain ⟨g1, g2, _⟩ := hs.fresh (line_nodup _ _) (fun k _ => ⟨by rw [b2, if_neg (fun q => hAB q.2)], b3 _ _ hAB⟩)
    refine ⟨fun hc => by omega, fun _ => ⟨g1, ?_, ?_, ?_⟩⟩
    · rw [if_pos g1, g2, if_pos ⟨by rw [mem_line]; omega, rfl⟩]; rfl
    · rw [g2, if_neg (fun q => hAB q.2.symm), b2, if_pos ⟨rfl, rfl⟩]
    · rw [g2, if_neg (fun q => hAB q.2.symm), b2]
      by_cases hc2 : n = i
      · rw [if_pos ⟨hc2, rfl⟩, decide_eq_true hc2]; rfl
      · rw [if_neg (fun q => hc2 q.1), decide_eq_false hc2]; rfl
end Go.Proofs.Ytjbpegggfacojaa
/- carafelaw15: within; LoaderLine. (NODRAWN) -/




namespace Go.Proofs.Ytjbpegggfacojaa
open GX
set_option maxHeartbeats 16000000
set_option maxRecDepth 100000
theorem known_true {S : St} {R : AV → St → Prop} (h : R (.bool true) S) : Runs X1 13 [] S R := Runs_ext (g := extTrue) rfl rfl (Nat.le_refl _) h
theorem Ev_remN {X : X} {l : L} {S : St} {R : AV → St → Prop} {x y : Go.Operand} {t u : Nat} {k : Go.IntKind} {a b : Nat} (hx : od l x = some (.int k ((a : Nat) : Int))) (hy : od l y = some (.int k ((b : Nat) : Int))) (hb : b ≠ 0) (hR : R (.int k ((a % b : Nat) : Int)) S) : Ev X l S (.binOp .rem t x y u) R :=
  Ev_ibin hx hy ⟨by simp, by simp⟩ (by unfold ibin; dsimp only; rw [ieq_eq, show (((b : Nat) : Int) == 0) = false by simpa using hb, ← Int.ofNat_tmod]; rfl) hR
theorem within_runs {S : St} {n : Int} {hi : Nat} (hn : -9223372036854775808 ≤ n ∧ n < 9223372036854775808) (hh : hi ≤ 1000) : Runs X1 9 [.int .i64 n, .int .i64 ((hi : Nat) : Int)] S fun r U => U = S ∧ ∃ k : Nat, r = .int .i64 ((k : Nat) : Int) ∧ k ≤ hi := by
  have hmod : ∀ m : Nat, m % (hi + 1) ≤ hi := fun m => by have := Nat.mod_lt m (show 0 < hi + 1 by omega); omega
  refine Runs_fn (m := 14) (by kernel_rfl) Try.func9 rfl (by kernel_rfl) (by kernel_rfl) ?_
  by_cases h0 : n < 0
  · repeat (
      first
        | refine W_seq ?_
        | refine WO_nil ?_
        | refine V_seq ?_
        | refine W_region ?_
        | refine WO_dst rfl rfl (by kernel_rfl) (by kernel_rfl) ?_
        | refine Ev_move rfl ?_
        | refine Ev_assign rfl ?_
        | refine Ev_lss rfl rfl ?_)
    refine W_condb rfl (fun hc => ?_) (fun hc => absurd h0 (of_decide_eq_false hc))
    obtain ⟨m, hm⟩ : ∃ m : Nat, -(n + 1) = (m : Int) := ⟨(-(n + 1)).toNat, by omega⟩
    repeat (
      first
        | refine W_region ?_
        | refine WO_dst rfl rfl (by kernel_rfl) (by kernel_rfl) ?_
        | refine Ev_move rfl ?_
        | refine Ev_add rfl rfl (by simp only [inR]; omega) ?_)
    refine Ev_un (v := .int .i64 ((m : Nat) : Int)) rfl (by show some (AV.int .i64 (wrp .i64 (0 - (n + 1)))) = _; rw [wrp_in (by simp only [inR]; omega)]; congr 2; omega) ?_
    repeat (
      first
        | refine W_seq ?_
        | refine WO_nil ?_
        | refine V_seq ?_
        | refine W_region ?_
        | refine WO_dst rfl rfl (by kernel_rfl) (by kernel_rfl) ?_
        | refine Ev_move rfl ?_
        | refine Ev_assign rfl ?_
        | refine Ev_addN rfl rfl (by simp only [lim]; omega) ?_)
    refine Ev_remN (a := m) (b := hi + 1) rfl rfl (by omega) ?_
    repeat (
      first
        | refine WO_nil ?_
        | refine V_seq ?_
        | refine W_ret ?_
        | refine WO_dst rfl rfl (by kernel_rfl) (by kernel_rfl) ?_
        | refine Ev_assign rfl ?_)
    exact V_done rfl rfl ⟨rfl, _, rfl, hmod m⟩
  · obtain ⟨m, rfl⟩ : ∃ m : Nat, n = (m : Int) := ⟨n.toNat, by omega⟩
    repeat' (
      first
        | refine W_seq ?_
        | refine WO_nil ?_
        | refine V_seq ?_
        | refine W_region ?_
        | refine W_skip ?_
        | refine W_cond_f rfl ?_
        | refine WO_dst rfl rfl (by kernel_rfl) (by kernel_rfl) ?_
        | refine Ev_move rfl ?_
        | refine Ev_assign rfl ?_
        | refine Ev_lssN rfl rfl ?_
        | refine Ev_addN rfl rfl (by simp only [lim]; omega) ?_)
    refine Ev_remN (a := m) (b := hi + 1) rfl rfl (by omega) ?_
    repeat (
      first
        | refine WO_nil ?_
        | refine V_seq ?_
        | refine W_ret ?_
        | refine WO_dst rfl rfl (by kernel_rfl) (by kernel_rfl) ?_
        | refine Ev_assign rfl ?_)
    exact V_done rfl rfl ⟨rfl, _, rfl, hmod m⟩
theorem Cfg.loadS {st : LdS} {d a n : Nat} (h : Cfg st d a (d + 1)) (ha : a ≤ d) (hn : n ≤ d) {x : Int × Int} {e : Int} {st' : LdS} (hl : LoadS st ((n : Nat) : Int) nA x e st') :
    (n < a → e = 22) ∧ (a ≤ n → e = 0 ∧ x = (100 + (a : Int), (a : Int)) ∧ hasS st' ((a : Nat) : Int) nB = some (200 + (a : Int), (a : Int)) ∧ (hasS st' ((n : Nat) : Int) nB).isSome = decide (n = a)) := by
  cases hl with
  | arg hc => exact absurd (h.isL hn) hc
  | bad _ x0 e st' lm hl he =>
    obtain ⟨h1, h2⟩ := h.loadA ha hn hl
    exact ⟨h1, fun hc => absurd (h2 hc).1 he⟩
  | good _ x0 st' lm hl => exact h.loadA ha hn hl
theorem loaderline_runs {S : St} {n1 n2 n3 : Int} (hok : Sok S) (h1 : -9223372036854775808 ≤ n1 ∧ n1 < 9223372036854775808) (h2 : -9223372036854775808 ≤ n2 ∧ n2 < 9223372036854775808) (h3 : -9223372036854775808 ≤ n3 ∧ n3 < 9223372036854775808) (hn : S.n ≤ 1000) :
    Runs X1 3 [.int .i64 n1, .int .i64 n2, .int .i64 n3] S fun r _ => r = .bool true := by
  refine Runs_fn (m := 122) (by kernel_rfl) Try.func3 rfl (by kernel_rfl) (by kernel_rfl) ?_
  repeat (
    first
      | refine W_seq ?_
      | refine WO_nil ?_
      | refine V_seq ?_
      | refine W_region ?_
      | refine WO_dst rfl rfl (by kernel_rfl) (by kernel_rfl) ?_
      | refine Ev_assign rfl ?_)
  refine Ev_call rfl rfl ((new_runs hok (by omega)).mono ?_)
  rintro _ T0 - ⟨p, y0, rfl, hL0, t0l, t0n, _⟩
  repeat (
    first
      | refine W_seq ?_
      | refine WO_nil ?_
      | refine V_seq ?_
      | refine W_region ?_
      | refine W_skip ?_
      | refine W_cond_f rfl ?_
      | refine WO_dst rfl rfl (by kernel_rfl) (by kernel_rfl) ?_
      | refine Ev_move rfl ?_
      | refine Ev_assign rfl ?_
      | refine Ev_ptr_eql rfl rfl rfl rfl ?_)
  refine Ev_call rfl rfl ((within_runs (hi := 15) h1 (by omega)).mono ?_)
  rintro _ U1 - ⟨hU1, d, rfl, hd⟩
  rw [hU1]
  repeat (
    first
      | refine W_seq ?_
      | refine WO_nil ?_
      | refine V_seq ?_
      | refine W_region ?_
      | refine WO_dst rfl rfl (by kernel_rfl) (by kernel_rfl) ?_
      | refine Ev_move rfl ?_
      | refine Ev_assign rfl ?_)
  refine Ev_call rfl rfl ((within_runs (hi := d) h2 (by omega)).mono ?_)
  rintro _ U2 - ⟨hU2, a, rfl, ha⟩
  rw [hU2]
  repeat (
    first
      | refine W_seq ?_
      | refine WO_nil ?_
      | refine V_seq ?_
      | refine W_region ?_
      | refine WO_dst rfl rfl (by kernel_rfl) (by kernel_rfl) ?_
      | refine Ev_move rfl ?_
      | refine Ev_assign rfl ?_)
  refine Ev_call rfl rfl ((within_runs (hi := d) h3 (by omega)).mono ?_)
  rintro _ U3 - ⟨hU3, n, rfl, hnd⟩
  rw [hU3]
  repeat (
    first
      | refine W_seq ?_
      | refine WO_nil ?_
      | refine V_seq ?_
      | refine W_region ?_
      | refine W_block ?_
      | refine WO_dst rfl rfl (by kernel_rfl) (by kernel_rfl) ?_
      | refine Ev_assign rfl ?_)
  refine W_inv (fun x : Nat × Lay × LdS => [(8, .int .i64 ((x.1 : Nat) : Int)), (7, .ptr p 0), (0, .int .i64 ((d : Nat) : Int)), (1, .int .i64 ((a : Nat) : Int)), (2, .int .i64 ((n : Nat) : Int))]) (fun x T => Ls T p x.2.1 x.2.2 ∧ Cfg x.2.2 x.1 0 0 ∧ x.1 ≤ d ∧ T.n ≤ T0.n + 10 * x.1) (fun x => d - x.1) ?_ (0, y0, st0) ⟨hL0, cfg0, Nat.zero_le _, by dsimp only; omega⟩ ⟨rfl, rfl, rfl, rfl, rfl, trivial⟩
  rintro ⟨i, y, st⟩ T ⟨hL, hC, hi, hTn⟩ back
  dsimp only at hL hC hi hTn back
  have hlen := hC.len
  repeat' (
    first
      | refine W_seq ?_
      | refine WO_nil ?_
      | refine V_seq ?_
      | refine W_region ?_
      | refine W_skip ?_
      | refine W_block ?_
      | refine W_exit ?_
      | refine V_block_x rfl ?_
      | refine V_seq_x ?_
      | refine V_loop_x ?_
      | refine WO_dst rfl rfl (by kernel_rfl) (by kernel_rfl) ?_
      | refine Ev_move rfl ?_
      | refine Ev_assign rfl ?_
      | refine Ev_lssN rfl rfl ?_
      | (refine W_cond rfl (fun hc => ?_) (fun hc => ?_) <;> (try dsimp only at hc) <;> try (exfalso; first | omega | exact hc rfl)))
  · have hlt : i < d := by assumption
    refine Ev_call rfl rfl ((Child_runs (n := ((i : Nat) : Int)) hL (by omega) (by omega)).mono ?_)
    rintro _ T1 - ⟨rfl, y1, hL1, fo1⟩
    have g1 := fo1.n
    have hcs : childS st ((i : Nat) : Int) = ((((i + 1 : Nat) : Int), 0), { st with ones := st.ones ++ [⟨((i : Nat) : Int), [], []⟩] }) := by
      unfold childS
      rw [if_pos (hC.isL (Nat.le_refl _)), if_neg (by omega), hlen]
    rw [hcs] at hL1 ⊢
    repeat (
      first
        | refine W_seq ?_
        | refine WO_nil ?_
        | refine V_seq ?_
        | refine W_region ?_
        | refine W_skip ?_
        | refine V_block ?_
        | refine W_cond_f rfl ?_
        | refine WO_dst rfl rfl (by kernel_rfl) (by kernel_rfl) ?_
        | refine Ev_move rfl ?_
        | refine Ev_assign rfl ?_
        | refine Ev_extract rfl rfl ?_
        | refine Ev_neqN rfl rfl ?_
        | refine Ev_addN rfl rfl (by simp only [lim]; omega) ?_)
    refine back (i + 1, y1, _) T1 _ (by dsimp only; omega) ⟨hL1, hC.child, by dsimp only; omega, by dsimp only; omega⟩ ⟨rfl, rfl, rfl, rfl, rfl, trivial⟩
  have hid : i = d := by omega
  subst hid
  refine W_inv (fun x : Nat × Lay × LdS => [(11, .int .i64 ((x.1 : Nat) : Int)), (7, .ptr p 0), (0, .int .i64 ((i : Nat) : Int)), (1, .int .i64 ((a : Nat) : Int)), (2, .int .i64 ((n : Nat) : Int))]) (fun x U => Ls U p x.2.1 x.2.2 ∧ Cfg x.2.2 i a x.1 ∧ a ≤ x.1 ∧ x.1 ≤ i + 1 ∧ U.n ≤ T.n + 10 * x.1) (fun x => i + 1 - x.1) ?_ (a, y, st) ⟨hL, hC.start a, Nat.le_refl _, by dsimp only; omega, by dsimp only; omega⟩ ⟨rfl, rfl, rfl, rfl, rfl, trivial⟩
  rintro ⟨m, y2, st2⟩ U ⟨hL2, hC2, ham, hmi, hUn⟩ back
  dsimp only at hL2 hC2 ham hmi hUn back
  have hlen2 := hC2.len
  repeat' (
    first
      | refine W_seq ?_
      | refine WO_nil ?_
      | refine V_seq ?_
      | refine W_region ?_
      | refine W_skip ?_
      | refine W_block ?_
      | refine W_exit ?_
      | refine V_block_x rfl ?_
      | refine V_seq_x ?_
      | refine V_loop_x ?_
      | refine WO_dst rfl rfl (by kernel_rfl) (by kernel_rfl) ?_
      | refine Ev_move rfl ?_
      | refine Ev_leqN rfl rfl ?_
      | refine Ev_addN rfl rfl (by simp only [lim]; omega) ?_
      | (refine W_cond rfl (fun hc => ?_) (fun hc => ?_) <;> (try dsimp only at hc) <;> try (exfalso; first | omega | exact hc rfl)))
  · have hle : m ≤ i := by assumption
    refine Ev_call rfl rfl ((Offer_runs (nm := nA) (sup := nB) (id := ((100 + m : Nat) : Int)) hL2 (by omega) (by decide) (by decide) (by omega)).mono ?_)
    rintro _ U4 - ⟨e1, st3, y3, rfl, ho1, hL3, fo3⟩
    have g3 := fo3.n
    rw [show ((100 + m : Nat) : Int) = 100 + (m : Int) by omega] at ho1
    obtain ⟨rfl, hl3, hnext⟩ := hC2.offer ham hle ho1
    repeat (
      first
        | refine WO_dst rfl rfl (by kernel_rfl) (by kernel_rfl) ?_
        | refine WO_guard_t rfl rfl rfl rfl rfl (by kernel_rfl) (by kernel_rfl) ?_
        | refine Ev_move rfl ?_
        | refine Ev_neqN rfl rfl ?_
        | refine Ev_addN rfl rfl (by simp only [lim]; omega) ?_)
    refine Ev_call rfl rfl ((Offer_runs (nm := nB) (sup := []) (id := ((200 + m : Nat) : Int)) hL3 (by omega) (by decide) (by decide) (by omega)).mono ?_)
    rintro _ U5 - ⟨e2, st4, y4, rfl, ho2, hL4, fo4⟩
    have g4 := fo4.n
    rw [show ((200 + m : Nat) : Int) = 200 + (m : Int) by omega] at ho2
    obtain ⟨rfl, hC4⟩ := hnext e2 st4 ho2
    repeat (
      first
        | refine WO_nil ?_
        | refine V_seq ?_
        | refine W_region ?_
        | refine W_skip ?_
        | refine V_block ?_
        | refine W_cond_f rfl ?_
        | refine WO_dst rfl rfl (by kernel_rfl) (by kernel_rfl) ?_
        | refine WO_guard_t rfl rfl rfl rfl rfl (by kernel_rfl) (by kernel_rfl) ?_
        | refine Ev_move rfl ?_
        | refine Ev_assign rfl ?_
        | refine Ev_pick_f rfl rfl rfl ?_
        | refine Ev_neqN rfl rfl ?_
        | refine Ev_addN rfl rfl (by simp only [lim]; omega) ?_)
    refine back (m + 1, y4, st4) U5 _ (by dsimp only; omega) ⟨hL4, hC4, by dsimp only; omega, by dsimp only; omega, by dsimp only; omega⟩ ⟨rfl, rfl, rfl, rfl, rfl, trivial⟩
  have hmi2 : m = i + 1 := by omega
  subst hmi2
  have hKl := offK_len i
  have hpr2 : st2.prs.length = 0 := by rw [hC2.prs]; rfl
  refine Ev_call rfl rfl ((Load_runs (nm := nA) (n := ((n : Nat) : Int)) (K := offK i) hL2 (hC2.good (by omega)) hC2.par hC2.offIn (by omega) (by omega)).mono ?_)
  rintro _ U6 - ⟨x, e, st', y', rfl, hl, hg', hsk, hpr, hL6, fo6⟩
  have g6 := fo6.n
  have hlen6 : st'.ones.length = i + 1 := by rw [hsk.1]; exact hlen2
  obtain ⟨k1, k2⟩ := hC2.loadS ha hnd hl
  repeat' (
    first
      | refine W_seq ?_
      | refine WO_nil ?_
      | refine V_seq ?_
      | refine W_region ?_
      | refine W_skip ?_
      | refine WO_dst rfl rfl (by kernel_rfl) (by kernel_rfl) ?_
      | refine Ev_move rfl ?_
      | refine Ev_assign rfl ?_
      | refine Ev_extract rfl rfl ?_
      | refine Ev_lssN rfl rfl ?_
      | refine Ev_eql rfl rfl ?_
      | (refine WO_guard_dt rfl rfl rfl rfl rfl (by kernel_rfl) (by kernel_rfl) (fun hg => ?_) (fun hg => ?_) <;> (try dsimp only at hg) <;> try (exfalso; first | omega | exact hg rfl))
      | (refine W_cond rfl (fun hc => ?_) (fun hc => ?_) <;> (try dsimp only at hc) <;> try (exfalso; first | omega | exact hc rfl)))
  · have hna : n < a := by assumption
    obtain rfl := k1 hna
    repeat' (
      refine W_seq ?_)
    refine Ev_call rfl rfl (known_true ?_)
    repeat (
      first
        | refine WO_nil ?_
        | refine V_seq ?_
        | refine W_ret ?_
        | refine V_ret ?_
        | refine WO_dst rfl rfl (by kernel_rfl) (by kernel_rfl) ?_
        | refine Ev_assign rfl ?_
        | refine Ev_pick_t rfl rfl rfl ?_)
    exact V_done rfl rfl rfl
  · have hna : a ≤ n := by omega
    obtain ⟨rfl, rfl, k3, k4⟩ := k2 hna
    have hisL : ∀ q : Nat, q ≤ i → isL st' ((q : Nat) : Int) := fun q hq => by unfold Ytjbpegggfacojaa.isL; rw [hlen6]; omega
    refine Ev_call rfl rfl ((Loaded_runs (n := ((a : Nat) : Int)) (nm := nB) hL6 (by omega) (by omega)).mono ?_)
    rintro _ U7 - ⟨rfl, y7, hL7, fo7⟩
    have g7 := fo7.n
    rw [if_pos (hisL a ha), k3]
    repeat (
      first
        | refine W_seq ?_
        | refine WO_nil ?_
        | refine V_seq ?_
        | refine W_region ?_
        | refine WO_dst rfl rfl (by kernel_rfl) (by kernel_rfl) ?_
        | refine Ev_move rfl ?_
        | refine Ev_assign rfl ?_
        | refine Ev_extract rfl rfl ?_)
    refine Ev_call rfl rfl ((Loaded_runs (n := ((n : Nat) : Int)) (nm := nB) hL7 (by omega) (by omega)).mono ?_)
    rintro _ U8 - ⟨rfl, y8, hL8, fo8⟩
    rw [if_pos (hisL n hnd), k4]
    have hx1 : 100 + (a : Int) = ((100 + a : Nat) : Int) := by omega
    have hx2 : 200 + (a : Int) = ((200 + a : Nat) : Int) := by omega
    rw [hx1, hx2]
    dsimp only [Option.getD, Option.isSome]
    repeat' (
      first
        | refine W_seq ?_
        | refine WO_nil ?_
        | refine V_seq ?_
        | refine W_region ?_
        | refine WO_dst rfl rfl (by kernel_rfl) (by kernel_rfl) ?_
        | refine WO_guard_t rfl rfl rfl rfl rfl (by kernel_rfl) (by kernel_rfl) ?_
        | (refine Ev_beql rfl rfl rfl rfl ?_; rw [beq_self_eq_true])
        | refine Ev_move rfl ?_
        | refine Ev_assign rfl ?_
        | refine Ev_extract rfl rfl ?_
        | refine Ev_pick_t rfl rfl rfl ?_
        | refine Ev_eqlN rfl rfl ?_
        | refine Ev_addN rfl rfl (by simp only [lim]; omega) ?_
        | (refine WO_guard_dt rfl rfl rfl rfl rfl (by kernel_rfl) (by kernel_rfl) (fun hg => ?_) (fun hg => ?_) <;> (try dsimp only at hg) <;> try (exfalso; first | omega | exact hg rfl)))
    refine Ev_call rfl rfl (known_true ?_)
    repeat (
      first
        | refine WO_nil ?_
        | refine V_seq ?_
        | refine W_ret ?_
        | refine WO_dst rfl rfl (by kernel_rfl) (by kernel_rfl) ?_
        | refine Ev_assign rfl ?_
        | refine Ev_pick_t rfl rfl rfl ?_)
    exact V_done rfl rfl rfl
end Go.Proofs.Ytjbpegggfacojaa
