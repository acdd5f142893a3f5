/- What the row leans on, part 10: texts one behind the other. No condition. -/
import Derived.Test.YtnlfcoojlgdgaaaDoorMg9
import Derived.KernelRfl
/- GX: a region that draws its order gives what the text's order gives, where reads look at blocks that later loud operations leave alone. -/

namespace GX
open Go
section
variable {X : X} {rec : Rec} {n : Nat} {ops : List Oper} {e : Env} {h0 : Tr AB}
def RFF (X : _root_.GX.X) (n : Nat) (ops : List Oper) (N0 : Nat) (e : Env) (h0 : Tr AB) (recs : List R) (lds : List Nat) (i : Nat) (o : Oper) (r : R) : Prop :=
  r.k = .rd → ∃ l1 l2 ei, lds = l1 ++ l2 ∧ (∀ j ∈ l1, j < i) ∧ (∀ j ∈ l2, i < j) ∧ (∀ t ∈ looks ops o, lookT (masks ops []) ops (recs.take i) e i t = some (ei.at t)) ∧ (∀ t ∈ looks ops o, t < n) ∧
    sk X o.op = .read ∧ veq r.v r.v = true ∧ ((rdStat (masks ops []) (ops.map (fun o => sk X o.op)) i = true ∧ readOp X ei (gh (masks ops []) l1 (fun _ => true) (recs.take i) 0 (hOf (recs.take i) h0 l1)) o.op = some r.v) ∨ ∃ D, FPD X D (masks ops []) i ei o.op r.v ∧ ∀ f ∈ D, FI (masks ops []) N0 h0 recs f)
theorem plan_seqF {N0 : Nat} (hn : n < 1000001) (hE : edgesOk ops 0 = true) (hD : dstsOk n ops = true) (hK : seqB1 ops (masks ops []) (ops.map (fun o => sk X o.op)) n ops 0 = true) :
    ∀ (D : List Fct) (os pre : List Oper) (acc : List R) (lds : List Nat) (S : St) (ei : Env) (e' : Env) (S' : St), ops = pre ++ os → acc.length = pre.length → putAll n pre acc e = some ei →
    (∀ (k : Nat) (r : R) b, acc[k]? = some r → r.k = .mk b → (ops.map (fun o => sk X o.op)).getD k .pure = .alloc ∧ N0 ≤ r.n0 ∧ r.n0 < 1000000000) →
    (∀ f ∈ D, FI (masks ops []) N0 h0 acc f) →
    (∀ (k : Nat) (r : R), acc[k]? = some r → r.isL → k ∈ lds) → (∀ (q q' : Nat) (r r' : R), q < q' → acc[q]? = some r → acc[q']? = some r' → r.n1 ≤ r'.n0) → (∀ (q : Nat) (r : R), acc[q]? = some r → r.n1 ≤ S.n) →
    N0 ≤ S.n →
    (∀ j ∈ lds, j < pre.length ∧ isLC ((ops.map (fun o => sk X o.op)).getD j .pure) = true ∧ ∃ r, acc[j]? = some r ∧ r.isL) →
    lds.Pairwise (· < ·) →
    S.h = gh (masks ops []) lds (fun _ => true) acc 0 (hOf acc h0 lds) →
    RunF X rec n ops D os pre.length ei S e' S' →
    ∃ tl l2, plan X rec n ops (masks ops []) e os pre.length acc lds (hOf acc h0 lds) S.n = some (acc ++ tl, lds ++ l2, S'.n) ∧
      (∀ j ∈ l2, pre.length ≤ j ∧ isLC ((ops.map (fun o => sk X o.op)).getD j .pure) = true) ∧ putAll n ops (acc ++ tl) e = some e' ∧
      S'.h = gh (masks ops []) (lds ++ l2) (fun _ => true) (acc ++ tl) 0 (hOf (acc ++ tl) h0 (lds ++ l2)) ∧ tl.length = os.length ∧ (lds ++ l2).Pairwise (· < ·) ∧ (∀ (k : Nat) (r : R) b, (acc ++ tl)[k]? = some r → r.k = .mk b → (ops.map (fun o => sk X o.op)).getD k .pure = .alloc ∧ N0 ≤ r.n0 ∧ r.n0 < 1000000000) ∧ (∀ f ∈ D, FI (masks ops []) N0 h0 (acc ++ tl) f) ∧ (∀ (k : Nat) (r : R), (acc ++ tl)[k]? = some r → r.isL → k ∈ lds ++ l2) ∧ (∀ (q q' : Nat) (r r' : R), q < q' → (acc ++ tl)[q]? = some r → (acc ++ tl)[q']? = some r' → r.n1 ≤ r'.n0) ∧ (∀ j ∈ lds ++ l2, ∃ r, (acc ++ tl)[j]? = some r ∧ r.isL) ∧
      ∀ (k : Nat) (o : Oper) (r : R), os[k]? = some o → tl[k]? = some r → RFF X n ops N0 e h0 (acc ++ tl) (lds ++ l2) (pre.length + k) o r
  | D, [], pre, acc, lds, S, ei, e', S', hp, hl, hput, hmk, hF, hal, hmo, _, _, hld, hpw, hh, h => by
    unfold RunF at h
    obtain ⟨rfl, rfl⟩ := h
    refine ⟨[], [], ?_, fun j hj => by simp at hj, ?_, ?_, rfl, by simpa using hpw, by simpa using hmk, by simpa using hF, by simpa using hal, by simpa using hmo, fun j hj => by simpa using (hld j (by simpa using hj)).2.2, fun k o r hk => by simp at hk⟩
    · simp [plan]
    · simp only [List.append_nil] at hp ⊢; rw [hp]; exact hput
    · simpa using hh
  | D, o :: os, pre, acc, lds, S, ei, e', S', hp, hl, hput, hmk, hF, hal, hmo, hmn, hN, hld, hpw, hh, h => by
    have ho : ops[pre.length]? = some o := by rw [hp]; simp
    have hsk : (ops.map (fun o => sk X o.op)).getD pre.length .pure = sk X o.op := by
      rw [List.getD_eq_getElem?_getD, List.getElem?_map, ho]; rfl
    obtain ⟨hk1, hk2⟩ := seqB1_at hK pre.length o ho
    simp only [Nat.zero_add] at hk1 hk2
    rw [hsk] at hk2
    have hlk := looks_seq hn hE hD hp hl hput hk1
    obtain ⟨re, hre, hag⟩ := renv_good (es := ei) hn hlk
    have hoe : OE re ei o.op := OE_of hag
    have hp' : ops = (pre ++ [o]) ++ os := by rw [hp]; simp
    -- what goes on behind
    have fin : ∀ (r : R) (ldn : List Nat) (S1 : St) (e1 : Env) (N : List Fct), setDst n ei o.dst r.v = some e1 → (∀ b, r.k = .mk b → sk X o.op = .alloc ∧ N0 ≤ r.n0 ∧ r.n0 < 1000000000) → (∀ h' m, r.k = .ld h' m → ∀ f ∈ D, h'.get f.id = some f.x) → (∀ f ∈ N, FI (masks ops []) N0 h0 (acc ++ [r]) f) → r.n0 = S.n → r.n1 = S1.n → S.n ≤ S1.n → N0 ≤ S1.n → (ldn = [] ∧ ¬ r.isL ∨ ldn = [pre.length] ∧ isLC (sk X o.op) = true ∧ r.isL) →
        S1.h = gh (masks ops []) (lds ++ ldn) (fun _ => true) (acc ++ [r]) 0 (hOf (acc ++ [r]) h0 (lds ++ ldn)) →
        (r.k = .rd → ldn = [] ∧ sk X o.op = .read ∧ veq r.v r.v = true ∧ ((rdStat (masks ops []) (ops.map (fun o => sk X o.op)) pre.length = true ∧ readOp X ei S.h o.op = some r.v) ∨ FPD X D (masks ops []) pre.length ei o.op r.v)) →
        RunF X rec n ops (D ++ N) os (pre.length + 1) e1 S1 e' S' →
        plan X rec n ops (masks ops []) e (o :: os) pre.length acc lds (hOf acc h0 lds) S.n = plan X rec n ops (masks ops []) e os (pre.length + 1) (acc ++ [r]) (lds ++ ldn) (hOf (acc ++ [r]) h0 (lds ++ ldn)) S1.n →
        ∃ tl l2, plan X rec n ops (masks ops []) e (o :: os) pre.length acc lds (hOf acc h0 lds) S.n = some (acc ++ tl, lds ++ l2, S'.n) ∧
          (∀ j ∈ l2, pre.length ≤ j ∧ isLC ((ops.map (fun o => sk X o.op)).getD j .pure) = true) ∧ putAll n ops (acc ++ tl) e = some e' ∧
          S'.h = gh (masks ops []) (lds ++ l2) (fun _ => true) (acc ++ tl) 0 (hOf (acc ++ tl) h0 (lds ++ l2)) ∧ tl.length = (o :: os).length ∧ (lds ++ l2).Pairwise (· < ·) ∧ (∀ (k : Nat) (r : R) b, (acc ++ tl)[k]? = some r → r.k = .mk b → (ops.map (fun o => sk X o.op)).getD k .pure = .alloc ∧ N0 ≤ r.n0 ∧ r.n0 < 1000000000) ∧ (∀ f ∈ D, FI (masks ops []) N0 h0 (acc ++ tl) f) ∧ (∀ (k : Nat) (r : R), (acc ++ tl)[k]? = some r → r.isL → k ∈ lds ++ l2) ∧ (∀ (q q' : Nat) (r r' : R), q < q' → (acc ++ tl)[q]? = some r → (acc ++ tl)[q']? = some r' → r.n1 ≤ r'.n0) ∧ (∀ j ∈ lds ++ l2, ∃ r, (acc ++ tl)[j]? = some r ∧ r.isL) ∧
          ∀ (k : Nat) (o' : Oper) (r : R), (o :: os)[k]? = some o' → tl[k]? = some r → RFF X n ops N0 e h0 (acc ++ tl) (lds ++ l2) (pre.length + k) o' r := by
      intro r ldn S1 e1 N hset hmk1 hlb1 hNf hr0 hr1 hnS1 hN1 hldn hh1 hrd hrun hplan
      have hlast : ∀ (k : Nat) (r' : R), (acc ++ [r])[k]? = some r' → acc[k]? = some r' ∨ (k = acc.length ∧ r' = r) := by
        intro k r' hk
        by_cases hlt : k < acc.length
        · rw [List.getElem?_append_left hlt] at hk; exact .inl hk
        · have h2 : k = acc.length := by
            have := (List.getElem?_eq_some_iff.1 hk).1
            simp at this; omega
          subst h2
          simp at hk; exact .inr ⟨rfl, hk.symm⟩
      obtain ⟨tl, l2, p1, p2, p3, p4, p5, ppw, pmk, pF, pal, pmo, pld, p6⟩ := plan_seqF hn hE hD hK (D ++ N) os (pre ++ [o]) (acc ++ [r]) (lds ++ ldn) S1 e1 e' S' hp' (by simp [hl]) (putAll_snoc hput hset)
        (by
          intro k r' b hk hb
          by_cases hlt : k < acc.length
          · rw [List.getElem?_append_left hlt] at hk; exact hmk k r' b hk hb
          · have : k = acc.length := by
              have := (List.getElem?_eq_some_iff.1 hk).1
              simp at this; omega
            subst this
            simp at hk; subst hk
            rw [hl, hsk]; exact hmk1 b hb)
        (by
          intro f hf
          rcases List.mem_append.1 hf with hf | hf
          · exact FI_snoc (hF f hf) (fun h' m hk => hlb1 h' m hk f hf)
          · exact hNf f hf)
        (by
          intro k r' hk hkl
          rcases hlast k r' hk with hk | ⟨rfl, rfl⟩
          · exact List.mem_append_left _ (hal k r' hk hkl)
          · rcases hldn with ⟨_, hq⟩ | ⟨hq, _⟩
            · exact absurd hkl hq
            · rw [hq, hl]; simp)
        (by
          intro q q' r1 r2 hlt h1 h2
          rcases hlast q' r2 h2 with h2 | ⟨rfl, rfl⟩
          · have hlt2 := (List.getElem?_eq_some_iff.1 h2).1
            rcases hlast q r1 h1 with h1 | ⟨rfl, rfl⟩
            · exact hmo q q' r1 r2 hlt h1 h2
            · omega
          · rcases hlast q r1 h1 with h1 | ⟨rfl, rfl⟩
            · rw [hr0]; exact hmn q r1 h1
            · omega)
        (by
          intro q r1 h1
          rcases hlast q r1 h1 with h1 | ⟨rfl, rfl⟩
          · have h2 := hmn q r1 h1
            have h3 : r.n0 ≤ r.n1 := by
              rw [hr1, hr0]; exact hnS1
            omega
          · omega)
        hN1
        (by
          intro j hj
          rw [List.mem_append] at hj
          rcases hj with hj | hj
          · obtain ⟨g1, g2, r', g3, g4⟩ := hld j hj; exact ⟨by simp; omega, g2, r', by rw [List.getElem?_append_left (List.getElem?_eq_some_iff.1 g3).1]; exact g3, g4⟩
          · rcases hldn with ⟨hq, _⟩ | ⟨hq, hq2, hq3⟩
            · rw [hq] at hj; simp at hj
            · rw [hq] at hj; simp at hj; subst hj; exact ⟨by simp, by rw [hsk]; exact hq2, r, by rw [← hl]; simp, hq3⟩)
        (by
          rw [List.pairwise_append]
          refine ⟨hpw, ?_, fun a ha b hb => ?_⟩
          · rcases hldn with ⟨hq, _⟩ | ⟨hq, _⟩ <;> rw [hq] <;> simp
          · rcases hldn with ⟨hq, _⟩ | ⟨hq, _⟩
            · rw [hq] at hb; simp at hb
            · rw [hq] at hb; simp at hb; subst hb; exact (hld a ha).1)
        hh1 (by rw [List.length_append, List.length_singleton]; exact hrun)
      rw [List.length_append, List.length_singleton] at p1
      refine ⟨r :: tl, ldn ++ l2, ?_, ?_, ?_, ?_, by simp [p5], by simpa using ppw, by simpa using pmk, fun f hf => by simpa using pF f (List.mem_append_left _ hf), by simpa using pal, by simpa using pmo, by simpa using pld, ?_⟩
      · rw [hplan, p1]; simp
      · intro j hj
        rw [List.mem_append] at hj
        rcases hj with hj | hj
        · rcases hldn with ⟨hq, _⟩ | ⟨hq, hq2, _⟩
          · rw [hq] at hj; simp at hj
          · rw [hq] at hj; simp at hj; subst hj; exact ⟨Nat.le_refl _, by rw [hsk]; exact hq2⟩
        · have h1 := (p2 j hj).1; simp only [List.length_append, List.length_singleton] at h1; exact ⟨by omega, (p2 j hj).2⟩
      · rw [← p3]; simp
      · rw [p4]; simp
      · intro k o' r' hk hr'
        cases k with
        | zero =>
          simp at hk hr'; subst hk; subst hr'
          intro hrk
          obtain ⟨q1, q2, q4, q3⟩ := hrd hrk
          subst q1
          refine ⟨lds, l2, ei, by simp, fun j hj => by have := (hld j hj).1; simpa using this, fun j hj => by have := (p2 j hj).1; simp only [List.length_append, List.length_singleton] at this; omega, ?_, fun t ht => (hlk t ht).1, q2, q4, q3.imp (fun q => ⟨by simpa using q.1, ?_⟩) (fun q => ⟨D, by simpa using q, fun f hf => by simpa using pF f (List.mem_append_left _ hf)⟩)⟩
          · intro t ht
            have : (acc ++ r :: tl).take (pre.length + 0) = acc := by rw [Nat.add_zero, ← hl]; simp
            rw [this]
            exact (hlk t ht).2
          · have : (acc ++ r :: tl).take (pre.length + 0) = acc := by rw [Nat.add_zero, ← hl]; simp
            rw [this, ← hh]; exact q.2
        | succ k =>
          have := p6 k o' r' (by simpa using hk) (by simpa using hr')
          simp only [List.length_append, List.length_singleton, List.append_assoc, List.singleton_append] at this
          rw [show pre.length + (k + 1) = pre.length + 1 + k by omega]
          exact this
    have hwc : wanted ops re o = wanted ops ei o := wanted_congr hag
    have hldlt : ∀ j ∈ lds, j < (acc).length := fun j hj => by rw [hl]; exact (hld j hj).1
    have hOfs : ∀ r : R, hOf (acc ++ [r]) h0 lds = hOf acc h0 lds := fun r => hOf_append hldlt
    have hgs : ∀ r : R, (∀ b, r.k ≠ .mk b) → gh (masks ops []) lds (fun _ => true) (acc ++ [r]) 0 (hOf (acc ++ [r]) h0 lds) = S.h := by
      intro r hr
      rw [hOfs, gh_snoc, ← hh]
      unfold ghStep
      split
      · rename_i b hb; exact absurd hb (hr b)
      · rfl
    have hgc : (∀ (k : Nat), k < pre.length → (ops.map (fun o => sk X o.op)).getD k .pure = .alloc → inM (masks ops []) pre.length k = true) → gh (masks ops []) lds (inM (masks ops []) pre.length) acc 0 (hOf acc h0 lds) = S.h := by
      intro hq
      rw [hh]
      apply gh_congr
      intro k r b h1 h2
      have hkl : k < pre.length := by have := (List.getElem?_eq_some_iff.1 h1).1; omega
      simp only [Nat.zero_add]
      exact hq k hkl (hmk k r b h1 h2).1
    have hgB : ∀ f ∈ D, (∀ j, f.src = some j → inM (masks ops []) pre.length j = true) → (gh (masks ops []) lds (inM (masks ops []) pre.length) acc 0 (hOf acc h0 lds)).get f.id = some f.x := by
      intro f hf hu
      refine FI_get (fun k r b h1 h2 => (hmk k r b h1 h2).2) hmo hpw (fun j hj => (hld j hj).2.2) (fun j k => inM_lt hE j k) (hF f hf) (fun j hj => ⟨hu j hj, fun ⟨r, h1, h2⟩ => hal j r h1 h2⟩)
    unfold RunF at h
    rcases h with ⟨hw, v, S1, e1, N, hop, he1, hb, hrdc, hlc, hNf, h⟩ | ⟨hw, e1, he1, h⟩
    case inr =>
      refine fin ⟨.tup [], S.n, .val⟩ [] S e1 [] he1 (fun b hb => by cases hb) (fun h' m hb => by cases hb) (fun f hf => by cases hf) rfl rfl (Nat.le_refl _) hN (.inl ⟨rfl, fun ⟨_, _, q⟩ => by cases q⟩) ?_ (fun hb => by cases hb) (by rw [List.append_nil]; exact h) ?_
      · rw [List.append_nil, hgs _ (fun b hb => by cases hb)]
      · conv => lhs; unfold plan
        rw [hre]; dsimp only; rw [hwc, hw]; simp only [cond_false, List.append_nil]
        rw [hOfs]
    case inl =>
      have hck := sk_ok hop
      have hclr : cls X re o.op = cls X ei o.op := cls_congr hoe
      have hN1 : N0 ≤ S1.n := Nat.le_trans hN (oper_n hop)
      have hloud : isLC (cls X ei o.op) = true →
        ∃ tl l2, plan X rec n ops (masks ops []) e (o :: os) pre.length acc lds (hOf acc h0 lds) S.n = some (acc ++ tl, lds ++ l2, S'.n) ∧
          (∀ j ∈ l2, pre.length ≤ j ∧ isLC ((ops.map (fun o => sk X o.op)).getD j .pure) = true) ∧ putAll n ops (acc ++ tl) e = some e' ∧
          S'.h = gh (masks ops []) (lds ++ l2) (fun _ => true) (acc ++ tl) 0 (hOf (acc ++ tl) h0 (lds ++ l2)) ∧ tl.length = (o :: os).length ∧ (lds ++ l2).Pairwise (· < ·) ∧ (∀ (k : Nat) (r : R) b, (acc ++ tl)[k]? = some r → r.k = .mk b → (ops.map (fun o => sk X o.op)).getD k .pure = .alloc ∧ N0 ≤ r.n0 ∧ r.n0 < 1000000000) ∧ (∀ f ∈ D, FI (masks ops []) N0 h0 (acc ++ tl) f) ∧ (∀ (k : Nat) (r : R), (acc ++ tl)[k]? = some r → r.isL → k ∈ lds ++ l2) ∧ (∀ (q q' : Nat) (r r' : R), q < q' → (acc ++ tl)[q]? = some r → (acc ++ tl)[q']? = some r' → r.n1 ≤ r'.n0) ∧ (∀ j ∈ lds ++ l2, ∃ r, (acc ++ tl)[j]? = some r ∧ r.isL) ∧
          ∀ (k : Nat) (o' : Oper) (r : R), (o :: os)[k]? = some o' → tl[k]? = some r → RFF X n ops N0 e h0 (acc ++ tl) (lds ++ l2) (pre.length + k) o' r := by
        intro hlc0
        have hs : cls X ei o.op = sk X o.op := by
          rcases hck with hq | hq
          · rw [hq] at hlc0; cases hlc0
          · exact hq
        have hlc1 := hlc hlc0
        rw [hs] at hlc0
        have hbef : bef (masks ops []) (ops.map (fun o => sk X o.op)) pre.length isAll = true := hk2 hlc0
        have hg := hgc (fun k hk hq => bef_at hbef hk (by rw [hq]; rfl))
        have hall : lds.all (fun j => inM (masks ops []) pre.length j) = true := by
          apply List.all_eq_true.2
          intro j hj
          obtain ⟨q1, q2, -⟩ := hld j hj
          exact bef_at hbef q1 (by cases hq : (ops.map (fun o => sk X o.op)).getD j .pure <;> rw [hq] at q2 <;> first | rfl | cases q2)
        have hop' : oper X rec re { h := gh (masks ops []) lds (inM (masks ops []) pre.length) acc 0 (hOf acc h0 lds), n := S.n } o.op = some (v, S1) := by
          rw [hg, oper_congr hoe]; exact hop
        refine fin ⟨v, S.n, .ld S1.h S1.n⟩ [pre.length] S1 e1 N he1 (fun b hb => by cases hb) (fun h' m hb => by cases hb; exact hlc1) (fun f hf => ?_) rfl rfl (oper_n hop) hN1 (.inr ⟨rfl, hlc0, _, _, rfl⟩) ?_ (fun hb => by cases hb) h ?_
        · obtain ⟨n1, n2, n3, _⟩ := hNf f hf
          refine .inr ⟨pre.length, ⟨v, S.n, .ld S1.h S1.n⟩, n1, by rw [← hl]; simp, .inr ⟨_, _, rfl, n3, n2, ?_⟩, ?_⟩
          · intro k r b hk hb hlt
            rw [List.getElem?_append_left (by omega)] at hk
            exact bef_at hbef hlt (by rw [(hmk k r b hk hb).1]; rfl)
          · intro k r h' m hk _ hlt
            have := (List.getElem?_eq_some_iff.1 hk).1
            simp at this; omega
        · rw [gh_snoc]
          have : hOf (acc ++ [(⟨v, S.n, .ld S1.h S1.n⟩ : R)]) h0 (lds ++ [pre.length]) = S1.h := hOf_snoc (r := ⟨v, S.n, .ld S1.h S1.n⟩) (m := S1.n) (by rw [← hl]; simp) rfl
          rw [this, gh_had (fun q r b h1 h2 => by
            have hkl : q < pre.length := by have := (List.getElem?_eq_some_iff.1 h1).1; omega
            rw [Nat.zero_add]
            exact bef_at hbef hkl (by rw [(hmk q r b h1 h2).1]; rfl))]
          rfl
        · conv => lhs; unfold plan
          rw [hre]; dsimp only; rw [hwc, hw]; simp only [cond_true]
          have : hOf (acc ++ [(⟨v, S.n, .ld S1.h S1.n⟩ : R)]) h0 (lds ++ [pre.length]) = S1.h := hOf_snoc (r := ⟨v, S.n, .ld S1.h S1.n⟩) (m := S1.n) (by rw [← hl]; simp) rfl
          rw [hclr, hs]
          cases hskc : sk X o.op with
          | loud => dsimp only; rw [hall]; simp only [cond_true]; rw [hop']; dsimp only; rw [this]
          | call => dsimp only; rw [hall]; simp only [cond_true]; rw [hop']; dsimp only; rw [this]
          | _ => rw [hskc] at hlc0; cases hlc0
      cases hc : cls X ei o.op with
      | loud => exact hloud (by rw [hc]; rfl)
      | call => exact hloud (by rw [hc]; rfl)
      | pure =>
        unfold oper at hop
        rw [hc] at hop
        dsimp only at hop
        split at hop
        · cases hop
        · rename_i v' hv
          cases hop
          have hN0 : N = [] := by
            cases N with
            | nil => rfl
            | cons f N => exfalso; have := (hNf f (List.mem_cons_self ..)).2.2.2; rw [hc] at this; exact absurd this (by rintro (q | ⟨q, _⟩) <;> cases q)
          subst hN0
          refine fin ⟨v, S.n, .val⟩ [] S e1 [] he1 (fun b hb => by cases hb) (fun h' m hb => by cases hb) (fun f hf => by cases hf) rfl rfl (Nat.le_refl _) hN (.inl ⟨rfl, fun ⟨_, _, q⟩ => by cases q⟩) ?_ (fun hb => by cases hb) h ?_
          · rw [List.append_nil, hgs _ (fun b hb => by cases hb)]
          · conv => lhs; unfold plan
            rw [hre]; dsimp only; rw [hwc, hw]; simp only [cond_true, List.append_nil]
            rw [hclr, hc]; dsimp only; rw [pureOp_congr hoe, hv]; dsimp only; rw [hOfs]
      | read =>
        have hs : sk X o.op = .read := by
          rcases hck with hq | hq
          · rw [hq] at hc; cases hc
          · rw [← hq]; exact hc
        have hrdc' := hrdc hc
        unfold oper at hop
        rw [hc] at hop
        dsimp only at hop
        split at hop
        · cases hop
        · rename_i v' hv
          cases hop
          rw [hc] at hb
          have hrd2 : readOp X ei (gh (masks ops []) lds (inM (masks ops []) pre.length) acc 0 (hOf acc h0 lds)) o.op = some v := by
            rcases hrdc' with hst | hfp
            · have hst' := hst
              unfold rdStat at hst'
              rw [Bool.and_eq_true] at hst'
              rw [hgc (fun k hk hq => bef_at hst'.1 hk (by rw [hq]; rfl))]; exact hv
            · exact hfp _ hgB
          have hN0 : N = [] := by
            cases N with
            | nil => rfl
            | cons f N => exfalso; have := (hNf f (List.mem_cons_self ..)).2.2.2; rw [hc] at this; exact absurd this (by rintro (q | ⟨q, _⟩) <;> cases q)
          subst hN0
          refine fin ⟨v, S.n, .rd⟩ [] S e1 [] he1 (fun b hb => by cases hb) (fun h' m hb => by cases hb) (fun f hf => by cases hf) rfl rfl (Nat.le_refl _) hN (.inl ⟨rfl, fun ⟨_, _, q⟩ => by cases q⟩) ?_ (fun _ => ⟨rfl, hs, hb, hrdc'.imp (fun q => ⟨q, hv⟩) (fun q => q)⟩) h ?_
          · rw [List.append_nil, hgs _ (fun b hb => by cases hb)]
          · conv => lhs; unfold plan
            rw [hre]; dsimp only; rw [hwc, hw]; simp only [cond_true, List.append_nil]
            rw [hclr, hc]; dsimp only; rw [readOp_congr hoe, hrd2]; dsimp only; rw [hOfs]
      | alloc =>
        have hs : sk X o.op = .alloc := by
          rcases hck with hq | hq
          · rw [hq] at hc; cases hc
          · rw [← hq]; exact hc
        unfold oper at hop
        rw [hc] at hop
        dsimp only at hop
        cases hlt : Nat.blt S.n 1000000000 with
        | false => rw [hlt] at hop; cases hop
        | true =>
          rw [hlt] at hop
          simp only [cond_true] at hop
          have hlt2 : S.n < 1000000000 := by rw [nblt, decide_eq_true_eq] at hlt; exact hlt
          split at hop
          · cases hop
          · rename_i b' v' hv
            cases hop
            refine fin ⟨v, S.n, .mk b'⟩ [] (S.new b') e1 N he1 (fun _ _ => ⟨hs, hN, hlt2⟩) (fun h' m hb => by cases hb) (fun f hf => ?_) rfl rfl (Nat.le_succ _) hN1 (.inl ⟨rfl, fun ⟨_, _, q⟩ => by cases q⟩) ?_ (fun hb => by cases hb) h ?_
            · obtain ⟨n1, _, n3, n4⟩ := hNf f hf
              rw [hc] at n4
              rcases n4 with q | ⟨_, q⟩
              · cases q
              have hx : f.x = b' := by
                have h5 : (S.new b').h.get S.n = some b' := by unfold St.new; dsimp only; rw [Tr.get_set 40 _ _ _ _ (by omega), if_pos rfl]
                rw [q, h5] at n3; cases n3; rfl
              refine .inr ⟨pre.length, ⟨v, S.n, .mk b'⟩, n1, by rw [← hl]; simp, .inl ⟨by rw [hx], q.symm⟩, ?_⟩
              intro k r h' m hk _ hlt
              have := (List.getElem?_eq_some_iff.1 hk).1
              simp at this; omega
            · rw [List.append_nil, hOfs, gh_snoc, ← hh]
              unfold ghStep
              dsimp only
              have : lds.all (fun j => !inM (masks ops []) j (0 + acc.length)) = true := by
                apply List.all_eq_true.2
                intro j hj
                have h1 := (hld j hj).1
                cases hq : inM (masks ops []) j (0 + acc.length) with
                | false => rfl
                | true => have := inM_lt hE _ _ hq; omega
              rw [this]
              rfl
            · conv => lhs; unfold plan
              rw [hre]; dsimp only; rw [hwc, hw]; simp only [cond_true, List.append_nil]
              rw [hclr, hc]; dsimp only; rw [hlt]; simp only [cond_true]; rw [allocOp_congr hoe, hv]; dsimp only; rw [hOfs]
              rfl
/-- WHERE THE EDGES SAY ENOUGH but for reads that loud operations leave alone, a region that draws its order gives what the text's order gives. -/
theorem drawn_F {D : List Fct} {S : St} {e' : Env} {S' : St} (hD0 : ∀ f ∈ D, f.src = none ∧ f.id < S.n ∧ S.h.get f.id = some f.x) (hs : seqB X n ops = true) (h : RunF X rec n ops D ops 0 e S e' S') : drawn X rec n ops e S = .ok .nor e' S' := by
  unfold seqB at hs
  simp only [Bool.and_eq_true, nblt, decide_eq_true_eq] at hs
  obtain ⟨⟨⟨⟨hE, hD⟩, hN⟩, hn⟩, hK⟩ := hs
  have hle := RunF_n h
  obtain ⟨tl, l2, p1, p2, p3, p4, p5, ppw, pmk, -, pal, pmo, pld, p6⟩ := plan_seqF (h0 := S.h) (e := e) (N0 := S.n) hn hE hD hK D ops [] [] [] S e e' S' (by simp) rfl (by simp [putAll]) (fun k r b hk => by simp at hk) (fun f hf => .inl ⟨(hD0 f hf).1, (hD0 f hf).2.1, (hD0 f hf).2.2, fun k r h' m hk => by simp at hk⟩) (fun k r hk => by simp at hk) (fun q q' r r' _ hk => by simp at hk) (fun k r hk => by simp at hk) (Nat.le_refl _) (fun j hj => by simp at hj) List.Pairwise.nil (by simp [gh, hOf]) h
  simp only [List.nil_append, List.length_nil, hOf, Nat.zero_add] at p1 p2 p3 p4 p6 ppw pmk pal pmo pld
  unfold drawn
  dsimp only
  rw [hE, hD, hN]
  simp only [Bool.and_self, cond_true]
  rw [p1]
  dsimp only
  have hrd : rdsOk X n ops (masks ops []) tl e S.h l2 ops 0 = true := by
    apply rdsOk_of
    intro i o ho
    have hi : i < ops.length := (List.getElem?_eq_some_iff.1 ho).1
    have hr : tl[i]? = some (tl[i]'(by omega)) := List.getElem?_eq_getElem _
    rw [Nat.zero_add]
    refine ⟨_, hr, fun hk => ?_⟩
    obtain ⟨l1, l3, ei, q1, q2, q3, q4, q5, q6, q8, q9⟩ := p6 i o _ ho hr hk
    have hlt : ∀ j, inM (masks ops []) i j = true → j < (tl.take i).length := fun j hj => by
      have := inM_lt hE _ _ hj
      simp; omega
    have htl : tl = tl.take i ++ tl.drop i := (List.take_append_drop i tl).symm
    obtain ⟨re, r1, r2⟩ := renv_good (ms := masks ops []) (ops := ops) (acc := tl) (e := e) (es := ei) (n := n) (i := i) hn (ts := looks ops o) (fun t ht => ⟨q5 t ht, by
      rw [htl, lookT_append hlt]; exact q4 t ht⟩)
    refine ⟨re, r1, rdOk_of fun a b hab => ?_⟩
    have hoe : OE re ei o.op := OE_of r2
    have hski : (ops.map (fun o => sk X o.op)).getD i .pure = sk X o.op := by
      rw [List.getD_eq_getElem?_getD, List.getElem?_map, ho]; rfl
    rw [List.nil_append]
    unfold rdOk.rd1
    cases hc : (a.all (fun j => !inM (masks ops []) j i) && l2.all (fun j => !inM (masks ops []) i j || a.contains j)) with
    | false => rfl
    | true =>
      simp only [cond_true]
      simp only [Bool.and_eq_true] at hc
      obtain ⟨c1, c2⟩ := hc
      rcases q9 with ⟨hst, q7⟩ | ⟨D', hfp, hfi⟩
      case inr =>
        have hsub : ∀ j ∈ a, j ∈ l2 := fun j hj => by rw [hab]; exact List.mem_append_left _ hj
        have hg : ∀ f ∈ D', (∀ j, f.src = some j → inM (masks ops []) i j = true) → (gh (masks ops []) a (inM (masks ops []) i) tl 0 (hOf tl S.h a)).get f.id = some f.x := by
          intro f hf hu
          refine FI_get (fun k r b h1 h2 => (pmk k r b h1 h2).2) pmo ?_ (fun j hj => pld j (hsub j hj)) (fun j k => inM_lt hE j k) (hfi f hf) (fun j hj => ⟨hu j hj, fun ⟨r, h1, h2⟩ => ?_⟩)
          · rw [hab, List.pairwise_append] at ppw; exact ppw.1
          · have h3 := List.all_eq_true.1 c2 j (pal j r h1 h2)
            rw [hu j hj] at h3
            simpa using h3
        rw [readOp_congr hoe, hfp _ hg]
        exact q8
      unfold rdStat at hst
      rw [Bool.and_eq_true] at hst
      obtain ⟨hk2, hk3⟩ := hst
      have hal : a = l1 := by
        have hpre : a ++ b = l1 ++ l3 := by rw [← hab, q1]
        have hin1 : ∀ j ∈ l1, j ∈ a := by
          intro j hj
          have hj2 : j ∈ l2 := by rw [q1]; exact List.mem_append_left _ hj
          have h1 := List.all_eq_true.1 c2 j hj2
          have h2 : inM (masks ops []) i j = true := by
            apply bef_at hk2 (q2 j hj)
            have := (p2 j hj2).2
            cases hq : (ops.map (fun o => sk X o.op)).getD j .pure <;> rw [hq] at this <;> first | rfl | cases this
          rw [h2] at h1
          simpa using h1
        have hin3 : ∀ j ∈ l3, j ∉ a := by
          intro j hj hja
          have hj2 : j ∈ l2 := by rw [q1]; exact List.mem_append_right _ hj
          have h1 := List.all_eq_true.1 c1 j hja
          have hjl : j < ops.length := by
            have := (p2 j hj2).2
            rw [List.getD_eq_getElem?_getD] at this
            by_cases hlt : j < ops.length
            · exact hlt
            · rw [List.getElem?_eq_none (by simpa using hlt)] at this; cases this
          have hl := (p2 j hj2).2
          have h3 := List.all_eq_true.1 hk3 j (by simpa using hjl)
          rw [hl, nble, decide_eq_false (by have := q3 j hj; omega)] at h3
          have : inM (masks ops []) j i = true := by simpa using h3
          rw [this] at h1
          cases h1
        rcases List.append_eq_append_iff.1 hpre with ⟨m, hm1, hm2⟩ | ⟨m, hm1, hm2⟩
        · -- l1 = a ++ m
          cases m with
          | nil => simpa using hm1.symm
          | cons y m =>
            exfalso
            have hy : y ∈ a := hin1 y (by rw [hm1]; simp)
            rw [q1, hm1, List.append_assoc, List.pairwise_append] at ppw
            have := ppw.2.2 y hy y (by simp)
            omega
        · cases m with
          | nil => simpa using hm1
          | cons y m =>
            exfalso
            exact hin3 y (by rw [hm2]; simp) (by rw [hm1]; simp)
      subst hal
      have hh : gh (masks ops []) a (inM (masks ops []) i) tl 0 (hOf tl S.h a) = gh (masks ops []) a (fun _ => true) (tl.take i) 0 (hOf (tl.take i) S.h a) := by
        conv => lhs; rw [htl]
        rw [gh_append (fun q hq => by
          cases hm : inM (masks ops []) i q with
          | false => rfl
          | true => have := hlt q hm; omega)]
        rw [hOf_append (fun j hj => by have := q2 j hj; simp; omega)]
        apply gh_congr
        intro k r b h1 h2
        rw [Nat.zero_add]
        have hki : k < i := by have := (List.getElem?_eq_some_iff.1 h1).1; simp at this; omega
        apply bef_at hk2 hki
        have : (ops.map (fun o => sk X o.op)).getD k .pure = .alloc := by
          have hkr : tl[k]? = some r := by rw [htl, List.getElem?_append_left (List.getElem?_eq_some_iff.1 h1).1]; exact h1
          exact (pmk k r b hkr h2).1
        rw [this]; rfl
      rw [hh, readOp_congr hoe, q7]
      exact q8
  rw [hrd]
  simp only [cond_true]
  rw [p3]
  dsimp only
  rw [nble, decide_eq_true hle]
  simp only [cond_true]
  rw [← p4]
end
end GX
/- GX: reasoning about runs: regions that draw their order, where reads look at blocks that later loud operations leave alone (blocks made in the region, too). -/


namespace GX
noncomputable section
open Go
def WF (X : X) (n : Nat) (all : List Oper) (D : List Fct) (os : List Oper) (i : Nat) (ks : List Kt) (Q : Ex → Env → St → Prop) (l : L) (S : St) : Prop :=
  ∀ e, Ag l e → ∃ f e' S', RunF X (exec X f) n all D os i e S e' S' ∧ QK X n ks Q .nor e' S'
section
variable {X : X} {n : Nat} {ks : List Kt} {Q : Ex → Env → St → Prop} {l : L} {S : St} {D : List Fct} {all os : List Oper} {o : Oper} {i : Nat}
theorem W_drawnF (D : List Fct) {id : Nat} {ops : Array Oper} (hD : ∀ f ∈ D, f.src = none ∧ f.id < S.n ∧ S.h.get f.id = some f.x) (hs : seqB X n ops.toList = true) (h : WF X n ops.toList D ops.toList 0 ks Q l S) : W X n (.region id ops true) ks Q l S := by
  unfold W
  intro e he
  obtain ⟨f, e1, S1, h1, h2⟩ := h e he
  exact ⟨f + 1, .nor, e1, S1, by show step X (exec X f) n (.region id ops true) e S = _; unfold step; exact drawn_F hD hs h1, h2⟩
theorem WF_nil (h : V X n .nor ks Q l S) : WF X n all D [] i ks Q l S := by
  unfold V at h
  exact fun e he => ⟨0, e, S, ⟨rfl, rfl⟩, h e he⟩
theorem WF_pa {d : Nat} (hg : o.guard = none) (hd : o.dst = some d) (hn : Nat.blt d n = true) (hn' : Nat.blt n 1000001 = true) (hsk : isPA (sk X o.op) = true)
    (h : Ev X l S o.op fun v S' => WF X n all D os (i + 1) ks Q ((d, v) :: l) S') : WF X n all D (o :: os) i ks Q l S := by
  intro e he
  unfold Ev at h
  obtain ⟨f, v, S1, h1, h2, h3⟩ := h e he
  rw [nblt, decide_eq_true_eq] at hn hn'
  obtain ⟨g, e2, S2, h4, h5⟩ := h3 _ (he.put hn' hn)
  have hck := sk_ok h1
  refine ⟨max f g, e2, S2, .inl ⟨wanted_none hg, v, S1, e.put d v, [], oper_le (exec_le (Nat.le_max_left f g)) h1, ?_, h2, fun hc => ?_, fun hc => ?_, fun f hf => (by cases hf), by rw [List.append_nil]; exact RunF_le (exec_le (Nat.le_max_right f g)) h4⟩, h5⟩
  · rw [hd]; unfold setDst; dsimp only; rw [nblt, decide_eq_true hn]; rfl
  · rcases hck with hq | hq
    · rw [hq] at hc; cases hc
    · rw [hq] at hc; rw [hc] at hsk; cases hsk
  · rcases hck with hq | hq
    · rw [hq] at hc; cases hc
    · rw [hq] at hc
      exfalso
      cases hs : sk X o.op <;> rw [hs] at hc hsk <;> first | (cases hc; done) | (cases hsk; done)
/-- an operation that makes a block, which is told -/
theorem WF_al {d : Nat} (hg : o.guard = none) (hd : o.dst = some d) (hn : Nat.blt d n = true) (hn' : Nat.blt n 1000001 = true) (hcl : ∀ e, Ag l e → cls X e o.op = .alloc)
    (h : Ev X l S o.op fun v S' => ∃ x, S'.h.get S.n = some x ∧ S.n < S'.n ∧ WF X n all (D ++ [⟨S.n, x, some i⟩]) os (i + 1) ks Q ((d, v) :: l) S') : WF X n all D (o :: os) i ks Q l S := by
  intro e he
  unfold Ev at h
  obtain ⟨f, v, S1, h1, h2, x, hx, hlt, h3⟩ := h e he
  rw [nblt, decide_eq_true_eq] at hn hn'
  obtain ⟨g, e2, S2, h4, h5⟩ := h3 _ (he.put hn' hn)
  have hc0 := hcl e he
  refine ⟨max f g, e2, S2, .inl ⟨wanted_none hg, v, S1, e.put d v, [⟨S.n, x, some i⟩], oper_le (exec_le (Nat.le_max_left f g)) h1, ?_, h2, fun hc => (by rw [hc0] at hc; cases hc), fun hc => (by rw [hc0] at hc; cases hc), fun f hf => ?_, RunF_le (exec_le (Nat.le_max_right f g)) h4⟩, h5⟩
  · rw [hd]; unfold setDst; dsimp only; rw [nblt, decide_eq_true hn]; rfl
  · rw [List.mem_singleton] at hf; subst hf
    exact ⟨rfl, hlt, hx, .inr ⟨hc0, rfl⟩⟩
/-- a read that is ordered with all loud operations -/
theorem WF_rs {d : Nat} (hg : o.guard = none) (hd : o.dst = some d) (hn : Nat.blt d n = true) (hn' : Nat.blt n 1000001 = true) (hsk : isLC (sk X o.op) = false) (hst : rdStat (masks all []) (all.map (fun o => sk X o.op)) i = true)
    (h : Ev X l S o.op fun v S' => WF X n all D os (i + 1) ks Q ((d, v) :: l) S') : WF X n all D (o :: os) i ks Q l S := by
  intro e he
  unfold Ev at h
  obtain ⟨f, v, S1, h1, h2, h3⟩ := h e he
  rw [nblt, decide_eq_true_eq] at hn hn'
  obtain ⟨g, e2, S2, h4, h5⟩ := h3 _ (he.put hn' hn)
  have hck := sk_ok h1
  refine ⟨max f g, e2, S2, .inl ⟨wanted_none hg, v, S1, e.put d v, [], oper_le (exec_le (Nat.le_max_left f g)) h1, ?_, h2, fun _ => .inl hst, fun hc => ?_, fun f hf => (by cases hf), by rw [List.append_nil]; exact RunF_le (exec_le (Nat.le_max_right f g)) h4⟩, h5⟩
  · rw [hd]; unfold setDst; dsimp only; rw [nblt, decide_eq_true hn]; rfl
  · rcases hck with hq | hq
    · rw [hq] at hc; cases hc
    · rw [hq, hsk] at hc; cases hc
/-- a read that looks at told blocks alone -/
theorem WF_rf {d : Nat} {v : AV} (hg : o.guard = none) (hd : o.dst = some d) (hn : Nat.blt d n = true) (hn' : Nat.blt n 1000001 = true) (hS : ∀ f ∈ D, S.h.get f.id = some f.x)
    (hfp : ∀ e, Ag l e → cls X e o.op = .read ∧ FPD X D (masks all []) i e o.op v) (hvv : veq v v = true) (h : WF X n all D os (i + 1) ks Q ((d, v) :: l) S) : WF X n all D (o :: os) i ks Q l S := by
  intro e he
  obtain ⟨hc, hf⟩ := hfp e he
  rw [nblt, decide_eq_true_eq] at hn hn'
  obtain ⟨g, e2, S2, h4, h5⟩ := h _ (he.put hn' hn)
  refine ⟨g, e2, S2, .inl ⟨wanted_none hg, v, S, e.put d v, [], ?_, ?_, by rw [hc]; exact hvv, fun _ => .inr hf, fun hl => (by rw [hc] at hl; cases hl), fun f hf => (by cases hf), by rw [List.append_nil]; exact h4⟩, h5⟩
  · unfold oper; rw [hc]; dsimp only; rw [hf S.h (fun f h1 _ => hS f h1)]
  · rw [hd]; unfold setDst; dsimp only; rw [nblt, decide_eq_true hn]; rfl
/-- a loud operation, or a call, that leaves the told blocks alone, and may tell more -/
theorem WF_ld {d : Nat} (hg : o.guard = none) (hd : o.dst = some d) (hn : Nat.blt d n = true) (hn' : Nat.blt n 1000001 = true) (hcl : ∀ e, Ag l e → isLC (cls X e o.op) = true)
    (h : Ev X l S o.op fun v S' => (∀ f ∈ D, S'.h.get f.id = some f.x) ∧ ∃ N : List Fct, (∀ f ∈ N, f.src = some i ∧ f.id < S'.n ∧ S'.h.get f.id = some f.x) ∧ WF X n all (D ++ N) os (i + 1) ks Q ((d, v) :: l) S') : WF X n all D (o :: os) i ks Q l S := by
  intro e he
  unfold Ev at h
  obtain ⟨f, v, S1, h1, h2, hB, N, hN, h3⟩ := h e he
  rw [nblt, decide_eq_true_eq] at hn hn'
  obtain ⟨g, e2, S2, h4, h5⟩ := h3 _ (he.put hn' hn)
  have hc0 := hcl e he
  refine ⟨max f g, e2, S2, .inl ⟨wanted_none hg, v, S1, e.put d v, N, oper_le (exec_le (Nat.le_max_left f g)) h1, ?_, h2, fun hc => ?_, fun _ => hB, fun f hf => ⟨(hN f hf).1, (hN f hf).2.1, (hN f hf).2.2, .inl hc0⟩, RunF_le (exec_le (Nat.le_max_right f g)) h4⟩, h5⟩
  · rw [hd]; unfold setDst; dsimp only; rw [nblt, decide_eq_true hn]; rfl
  · rw [hc] at hc0; cases hc0
theorem WF_ld0 (hg : o.guard = none) (hd : o.dst = none) (hcl : ∀ e, Ag l e → isLC (cls X e o.op) = true)
    (h : Ev X l S o.op fun _ S' => (∀ f ∈ D, S'.h.get f.id = some f.x) ∧ ∃ N : List Fct, (∀ f ∈ N, f.src = some i ∧ f.id < S'.n ∧ S'.h.get f.id = some f.x) ∧ WF X n all (D ++ N) os (i + 1) ks Q l S') : WF X n all D (o :: os) i ks Q l S := by
  intro e he
  unfold Ev at h
  obtain ⟨f, v, S1, h1, h2, hB, N, hN, h3⟩ := h e he
  obtain ⟨g, e2, S2, h4, h5⟩ := h3 _ he
  have hc0 := hcl e he
  refine ⟨max f g, e2, S2, .inl ⟨wanted_none hg, v, S1, e, N, oper_le (exec_le (Nat.le_max_left f g)) h1, ?_, h2, fun hc => ?_, fun _ => hB, fun f hf => ⟨(hN f hf).1, (hN f hf).2.1, (hN f hf).2.2, .inl hc0⟩, RunF_le (exec_le (Nat.le_max_right f g)) h4⟩, h5⟩
  · rw [hd]; rfl
  · rw [hc] at hc0; cases hc0
theorem WF_guard {j d0 : Nat} {want : Bool} {p : Oper} {c : Bool} {d : Nat} (hg : o.guard = some (j, want)) (hp : all[j]? = some p) (hd0 : p.dst = some d0) (hl : lk l d0 = some (.bool c)) (hd : o.dst = some d) (hn : Nat.blt d n = true) (hn' : Nat.blt n 1000001 = true)
    (h1 : c = want → WF X n all D ({ o with guard := none } :: os) i ks Q ((d0, .bool want) :: l) S) (h2 : c = (!want) → WF X n all D os (i + 1) ks Q ((d, .tup []) :: (d0, .bool (!want)) :: l) S) : WF X n all D (o :: os) i ks Q l S := by
  intro e he
  rw [nblt, decide_eq_true_eq] at hn hn'
  have hat : e.at d0 = .bool c := he d0 _ hl
  have hag : ∀ b, c = b → Ag ((d0, .bool b) :: l) e := by
    intro b hb t v ht
    unfold lk at ht
    rw [nbeq, cond_dec] at ht
    by_cases hh : d0 = t
    · subst hh; rw [if_pos rfl] at ht; cases ht; rw [hat, hb]
    · rw [if_neg hh] at ht; exact he t v ht
  have hw : wanted all e o = (c == want) := by unfold wanted; rw [hg]; dsimp only; rw [hp]; dsimp only; rw [hd0]; dsimp only; rw [hat]
  by_cases hc : c = want
  · obtain ⟨f, e2, S2, h3, h4⟩ := h1 hc e (hag want hc)
    refine ⟨f, e2, S2, ?_, h4⟩
    have hw' : wanted all e o = true := by rw [hw, hc]; cases want <;> rfl
    unfold RunF at h3 ⊢
    rcases h3 with ⟨_, h3⟩ | ⟨h3, _⟩
    · exact .inl ⟨hw', h3⟩
    · rw [wanted_none rfl] at h3; cases h3
  · have hc' : c = (!want) := by cases c <;> cases want <;> simp_all
    obtain ⟨f, e2, S2, h3, h4⟩ := h2 hc' _ ((hag _ hc').put hn' hn)
    refine ⟨f, e2, S2, ?_, h4⟩
    have hw' : wanted all e o = false := by rw [hw, hc']; cases want <;> rfl
    refine .inr ⟨hw', e.put d (.tup []), ?_, h3⟩
    rw [hd]; unfold setDst; dsimp only; rw [nblt, decide_eq_true hn]; rfl
theorem WF_guard_dt {j d0 : Nat} {q : Oper} {p : Prop} [Decidable p] {d : Nat} (hg : o.guard = some (j, true)) (hp : all[j]? = some q) (hd0 : q.dst = some d0) (hl : lk l d0 = some (.bool (decide p))) (hd : o.dst = some d) (hn : Nat.blt d n = true) (hn' : Nat.blt n 1000001 = true)
    (h1 : p → WF X n all D ({ o with guard := none } :: os) i ks Q ((d0, .bool true) :: l) S) (h2 : ¬ p → WF X n all D os (i + 1) ks Q ((d, .tup []) :: (d0, .bool false) :: l) S) : WF X n all D (o :: os) i ks Q l S :=
  WF_guard hg hp hd0 hl hd hn hn' (fun h => h1 (of_decide_eq_true h)) (fun h => h2 (of_decide_eq_false h))
theorem WF_guard_df {j d0 : Nat} {q : Oper} {p : Prop} [Decidable p] {d : Nat} (hg : o.guard = some (j, false)) (hp : all[j]? = some q) (hd0 : q.dst = some d0) (hl : lk l d0 = some (.bool (decide p))) (hd : o.dst = some d) (hn : Nat.blt d n = true) (hn' : Nat.blt n 1000001 = true)
    (h1 : ¬ p → WF X n all D ({ o with guard := none } :: os) i ks Q ((d0, .bool false) :: l) S) (h2 : p → WF X n all D os (i + 1) ks Q ((d, .tup []) :: (d0, .bool true) :: l) S) : WF X n all D (o :: os) i ks Q l S :=
  WF_guard hg hp hd0 hl hd hn hn' (fun h => h1 (of_decide_eq_false h)) (fun h => h2 (of_decide_eq_true h))
theorem WF_guard_t {j d0 : Nat} {want : Bool} {p : Oper} {d : Nat} (hg : o.guard = some (j, want)) (hp : all[j]? = some p) (hd0 : p.dst = some d0) (hl : lk l d0 = some (.bool want)) (hd : o.dst = some d) (hn : Nat.blt d n = true) (hn' : Nat.blt n 1000001 = true)
    (h1 : WF X n all D ({ o with guard := none } :: os) i ks Q l S) : WF X n all D (o :: os) i ks Q l S := by
  refine WF_guard hg hp hd0 hl hd hn hn' (fun _ => ?_) (fun h => ?_)
  · intro e he
    exact h1 e (fun t v ht => he t v (by
      unfold lk; rw [nbeq, cond_dec]
      by_cases hh : d0 = t
      · subst hh; rw [hl] at ht; cases ht; rw [if_pos rfl]
      · rw [if_neg hh]; exact ht))
  · cases want <;> cases h
theorem WF_skip {d : Nat} (hd : o.dst = some d) (hn : Nat.blt d n = true) (hn' : Nat.blt n 1000001 = true) (hw : ∀ e, Ag l e → wanted all e o = false) (h2 : WF X n all D os (i + 1) ks Q ((d, .tup []) :: l) S) : WF X n all D (o :: os) i ks Q l S := by
  intro e he
  rw [nblt, decide_eq_true_eq] at hn hn'
  obtain ⟨f, e2, S2, h3, h4⟩ := h2 _ (he.put hn' hn)
  refine ⟨f, e2, S2, .inr ⟨hw e he, e.put d (.tup []), ?_, h3⟩, h4⟩
  rw [hd]; unfold setDst; dsimp only; rw [nblt, decide_eq_true hn]; rfl
theorem WF_guard_f {j d0 : Nat} {want c : Bool} {p : Oper} {d : Nat} (hg : o.guard = some (j, want)) (hp : all[j]? = some p) (hd0 : p.dst = some d0) (hl : lk l d0 = some (.bool c)) (hc : (c == want) = false) (hd : o.dst = some d) (hn : Nat.blt d n = true) (hn' : Nat.blt n 1000001 = true)
    (h2 : WF X n all D os (i + 1) ks Q ((d, .tup []) :: l) S) : WF X n all D (o :: os) i ks Q l S :=
  WF_skip hd hn hn' (fun e he => by unfold wanted; rw [hg]; dsimp only; rw [hp]; dsimp only; rw [hd0]; dsimp only; rw [he d0 _ hl]; exact hc) h2
theorem WF_guard_x {j d0 : Nat} {want : Bool} {p : Oper} {d : Nat} (hg : o.guard = some (j, want)) (hp : all[j]? = some p) (hd0 : p.dst = some d0) (hl : lk l d0 = some (.tup [])) (hd : o.dst = some d) (hn : Nat.blt d n = true) (hn' : Nat.blt n 1000001 = true)
    (h2 : WF X n all D os (i + 1) ks Q ((d, .tup []) :: l) S) : WF X n all D (o :: os) i ks Q l S :=
  WF_skip hd hn hn' (fun e he => by unfold wanted; rw [hg]; dsimp only; rw [hp]; dsimp only; rw [hd0]; dsimp only; rw [he d0 _ hl]) h2
/-! footprints -/
theorem FPD_load {t : Nat} {x : Operand} {p : AV} {o : Nat} {i' : TI} {cs : List AV} {v : AV} {ms : List Nat} (hx : od l x = some p) (hi : X.ti t = some i') (hag : aggD i'.desc = false) (hp : Pt S p cs o) (hv : cs[o]? = some v)
    (hb : ∀ b, blkOf p = some b → ∃ f ∈ D, f.id = b ∧ S.h.get b = some f.x ∧ ∀ j, f.src = some j → inM ms i j = true) :
    ∀ e, Ag l e → cls X e (.load t x) = .read ∧ FPD X D ms i e (.load t x) v := fun _ he =>
  ⟨rfl, fun H hH => load_eq (m := S.n) (od_ok he hx) hi hag (hp.keep fun b h => by
    obtain ⟨f, h1, h2, h3, h4⟩ := hb b h
    show H.get b = _; rw [h3, ← h2]; exact hH f h1 h4) hv⟩
theorem FPD_conv {x : Operand} {s d el m : Nat} {si di ei : TI} {v : AV} {cs : List AV} {z : List Nat} {ms : List Nat} (hx : od l x = some v) (hs : X.ti s = some si) (hd : X.ti d = some di) (hdd : di.desc = .string) (hsd : si.desc = .slice el) (he' : X.ti el = some ei) (hk : ei.desc = .int .u8) (hrd : Rd S v 1 cs m) (hz : bytesOf cs = some z)
    (hb : ∀ b, blkOf v = some b → ∃ f ∈ D, f.id = b ∧ S.h.get b = some f.x ∧ ∀ j, f.src = some j → inM ms i j = true) :
    ∀ e, Ag l e → cls X e (.convert s d x) = .read ∧ FPD X D ms i e (.convert s d x) (.str z) := fun _ he =>
  ⟨by unfold cls; dsimp only; rw [hs]; dsimp only; rw [hsd]; dsimp only; rw [hd]; dsimp only; rw [hdd], fun H hH => conv_eq (m' := S.n) (od_ok he hx) hs hd hdd hsd he' hk (hrd.keep fun b h => by
    obtain ⟨f, h1, h2, h3, h4⟩ := hb b h
    show H.get b = _; rw [h3, ← h2]; exact hH f h1 h4) hz⟩
end
end
end GX
/- GX: reasoning about runs: rules for arguments that have no block; runes read in a region that draws its order. -/

namespace GX
noncomputable section
open Go
section
variable {X : X} {l : L} {S : St} {R : AV → St → Prop} {t : Nat} {x y : Operand} {D : List Fct} {i : Nat}
theorem Ev_indexAddr_n {v : AV} {k : IntKind} {i m : Nat} {ti ei : TI} {el : Nat} {cs : List AV} (hy : od l y = some (.int k ((i : Nat) : Int))) (hx : od l x = some v) (hi : X.ti t = some ti) (hd : ti.desc = .slice el) (he' : X.ti el = some ei) (hrd : Rd S v ei.size cs m) (hn : blkOf v = none) (hlt : i < m)
    (hR : R (.rptr cs (i * ei.size)) S) : Ev X l S (.indexAddr t x y) R := by
  have hc := hrd.cells
  have hl := hrd.len
  cases v with
  | slice b o n cap => cases hn
  | rsl cs0 n z =>
    cases hl
    have hz : z = ei.size ∧ cs0.length = m * z := by have := hrd.cap; simpa [capW] using this
    obtain ⟨hz, hl0⟩ := hz
    subst hz
    have hcs : cs = cs0 := by
      unfold srcCells at hc; dsimp only at hc
      rw [nbeq, nble, ← Bool.decide_and, cond_dec] at hc
      split at hc
      · cases hc; rw [List.take_of_length_le (by omega)]
      · cases hc
    subst hcs
    refine Ev_pure (v := .rptr cs (i * ei.size)) (fun e he => ⟨rfl, ?_⟩) hR
    unfold pureOp; dsimp only; rw [od_ok he hy]; show (match opd e x with | some (.slice b o len _) => _ | some (.rsl cs len sz) => _ | _ => none) = _
    rw [od_ok he hx]; dsimp only; rw [hi]; dsimp only; rw [hd]; dsimp only; rw [he']; dsimp only; rw [nblt, nbeq, decide_eq_true hlt, decide_eq_true rfl]; rfl
  | nils => cases hl; omega
  | emp => cases hl; omega
  | _ => cases hl
theorem Ev_fieldAddr_n {f o : Nat} {i fi : TI} {fs : Array Field} {fd : Field} {cs : List AV} (hx : od l x = some (.rptr cs o)) (hi : X.ti t = some i) (hd : i.desc = .struct fs) (hf : fs.toList[f]? = some fd) (hfi : X.ti fd.type = some fi) (hz : Nat.beq fi.size 0 = false)
    (hR : R (.rptr cs (o + fd.offset)) S) : Ev X l S (.fieldAddr t x f) R :=
  Ev_pure (fun e he => ⟨rfl, by unfold pureOp; dsimp only; rw [od_ok he hx]; dsimp only; rw [hi]; dsimp only; rw [hd]; dsimp only; rw [hf]; dsimp only; rw [hfi]; dsimp only; rw [hz]; rfl⟩) hR
theorem FPD_load_n {o : Nat} {i' : TI} {cs : List AV} {v : AV} {ms : List Nat} (hx : od l x = some (.rptr cs o)) (hi : X.ti t = some i') (hag : aggD i'.desc = false) (hv : cs[o]? = some v) :
    ∀ e, Ag l e → cls X e (.load t x) = .read ∧ FPD X D ms i e (.load t x) v :=
  FPD_load (S := { h := .leaf, n := 0 }) hx hi hag (.inr rfl) hv (fun b hb => by cases hb)
theorem conv_eq_r {e : Env} {H : Tr AB} {x : Operand} {s d el m m' : Nat} {si di ei : TI} {v : AV} {cs : List AV} {z : List Nat} (hx : opd e x = some v) (hs : X.ti s = some si) (hd : X.ti d = some di) (hdd : di.desc = .string) (hsd : si.desc = .slice el) (he' : X.ti el = some ei) (hk : ei.desc = .int .i32) (hrd : Rd { h := H, n := m' } v 1 cs m) (hz : runesOf cs = some z) : readOp X e H (.convert s d x) = some (.str z) := by
  unfold readOp; dsimp only; rw [hx]; dsimp only; rw [hd]; dsimp only; rw [hs]; dsimp only; rw [hdd]; dsimp only; rw [hsd]; dsimp only; rw [he']; dsimp only; rw [hk]
  have h2 := hrd.cells
  have h3 := hrd.len
  have h4 := hrd.size
  cases v with
  | slice b o n k =>
    cases h3
    unfold srcCells at h2; dsimp only at h2 ⊢
    rw [Nat.mul_one] at h2; rw [h2]; dsimp only; rw [hz]
  | rsl cs0 n z0 =>
    cases h3
    have hz0 : z0 = 1 ∧ cs0.length = m * z0 := by have := hrd.cap; simpa [capW] using this
    obtain ⟨hz0, hl0⟩ := hz0
    subst hz0
    unfold srcCells at h2; dsimp only at h2 ⊢
    rw [nbeq, nble, ← Bool.decide_and, cond_dec] at h2
    split at h2
    · cases h2
      rw [List.take_of_length_le (by omega)] at hz
      rw [show Nat.beq 1 1 = true from rfl]
      simp only [cond_true]
      rw [hz]
    · cases h2
  | nils => cases h3; cases List.eq_nil_of_length_eq_zero (by omega : cs.length = 0); cases hz; rfl
  | emp => cases h3; cases List.eq_nil_of_length_eq_zero (by omega : cs.length = 0); cases hz; rfl
  | _ => have := hrd.sl; cases this
theorem FPD_conv_r {x : Operand} {s d el m : Nat} {si di ei : TI} {v : AV} {cs : List AV} {z : List Nat} {ms : List Nat} (hx : od l x = some v) (hs : X.ti s = some si) (hd : X.ti d = some di) (hdd : di.desc = .string) (hsd : si.desc = .slice el) (he' : X.ti el = some ei) (hk : ei.desc = .int .i32) (hrd : Rd S v 1 cs m) (hz : runesOf cs = some z)
    (hb : ∀ b, blkOf v = some b → ∃ f ∈ D, f.id = b ∧ S.h.get b = some f.x ∧ ∀ j, f.src = some j → inM ms i j = true) :
    ∀ e, Ag l e → cls X e (.convert s d x) = .read ∧ FPD X D ms i e (.convert s d x) (.str z) := fun _ he =>
  ⟨by unfold cls; dsimp only; rw [hs]; dsimp only; rw [hsd]; dsimp only; rw [hd]; dsimp only; rw [hdd], fun H hH => conv_eq_r (m' := S.n) (od_ok he hx) hs hd hdd hsd he' hk (hrd.keep fun b h => by
    obtain ⟨f, h1, h2, h3, h4⟩ := hb b h
    show H.get b = _; rw [h3, ← h2]; exact hH f h1 h4) hz⟩
end
end
end GX
/- carafebook.Bytes as a function that makes no block; bytes as things that are kept. -/




namespace Go.Proofs.YtnlfcoojlgdgaaaDoor
open GX
set_option maxHeartbeats 16000000
set_option maxRecDepth 100000
section
variable {X : X} {l : L} {S : St} {R : AV → St → Prop} {x y : Go.Operand} {t u : Nat} {k : Go.IntKind} {a b : Int}
theorem Ev_addw (hx : od l x = some (.int k a)) (hy : od l y = some (.int k b)) (hR : R (.int k (wrp k (a + b))) S) : Ev X l S (.binOp .add t x y u) R :=
  Ev_ibin hx hy ⟨by simp, by simp⟩ (by unfold ibin; rfl) hR
theorem Ev_subw (hx : od l x = some (.int k a)) (hy : od l y = some (.int k b)) (hR : R (.int k (wrp k (a - b))) S) : Ev X l S (.binOp .sub t x y u) R :=
  Ev_ibin hx hy ⟨by simp, by simp⟩ (by unfold ibin; rfl) hR
theorem Ev_remN {a b : Nat} (hx : od l x = some (.int k ((a : Nat) : Int))) (hy : od l y = some (.int k ((b : Nat) : Int))) (hb : b ≠ 0) (hR : R (.int k ((a % b : Nat) : Int)) S) : Ev X l S (.binOp .rem t x y u) R :=
  Ev_ibin hx hy ⟨by simp, by simp⟩ (by unfold ibin; dsimp only; rw [ieq_eq, show (((b : Nat) : Int) == 0) = false by simpa using hb, ← Int.ofNat_tmod]; rfl) hR
theorem Ev_ene {a b : Nat} (hx : od l x = some (.int k ((a : Nat) : Int))) (hy : od l y = some (.int k ((b : Nat) : Int))) (hR : R (.bool (decide (a ≠ b))) S) : Ev X l S (.binOp .neq t x y u) R := Ev_neqN hx hy hR
end
abbrev El := Nat
abbrev elV (c : El) : AV := .int .u8 ((c : Nat) : Int)
theorem elV_one (c : El) : AV.one (elV c) = true := rfl
theorem elV_veq (c : El) : veq (elV c) (elV c) = true := veq_int _ _
def cellsE (cs : List El) : List AV := cs.map elV
def mk1 (i j : Nat) : El := (i + 1) / 2 ^ (8 * (j % 3)) % 256
theorem mark_runs {S : St} {i j : Nat} (hi : i < 4611686018427387904) (_ : j < 9223372036854775808) :
    Runs X1 27 [.int .i64 ((i : Nat) : Int), .int .i64 ((j : Nat) : Int)] S fun r _ => r = elV (mk1 i j) := by
  refine Runs_fn (m := 13) (by kernel_rfl) Tryd.func27 rfl (by kernel_rfl) (by kernel_rfl) ?_
  repeat (
    first
      | refine W_seq ?_
      | refine WO_nil ?_
      | refine V_seq ?_
      | refine W_region ?_
      | refine WO_dst rfl rfl (by kernel_rfl) (by kernel_rfl) ?_
      | refine Ev_move rfl ?_
      | refine Ev_assign rfl ?_
      | refine Ev_addN rfl rfl (by simp only [lim]; omega) ?_)
  refine Ev_remN (a := j) (b := 3) rfl rfl (by decide) ?_
  repeat (
    first
      | refine WO_dst rfl rfl (by kernel_rfl) (by kernel_rfl) ?_
      | refine Ev_mulN rfl rfl (by simp only [lim]; omega) ?_
      | refine Ev_convN rfl rfl rfl rfl rfl (by simp only [lim]; omega) ?_)
  refine Ev_shrN (m := 8 * (j % 3)) (q := 2 ^ (8 * (j % 3))) rfl rfl ?_ rfl ?_
  · rw [nble]; refine decide_eq_true ?_
    show 8 * (j % 3) ≤ 64
    omega
  repeat (
    first
      | refine WO_nil ?_
      | refine V_seq ?_
      | refine W_ret ?_
      | refine WO_dst rfl rfl (by kernel_rfl) (by kernel_rfl) ?_
      | refine Ev_assign rfl ?_
      | refine Ev_conv8 rfl rfl rfl rfl rfl ?_)
  exact V_done rfl rfl rfl
/-- the machine in which a mark is made in one step -/
def extMark (args : List AV) (S : St) : Option (AV × St) := match args with
  | [.int .i64 (.ofNat i), .int .i64 (.ofNat j)] => if i < 4611686018427387904 ∧ j < 9223372036854775808 then some (elV (mk1 i j), S) else none
  | _ => none
noncomputable def ext2 (f : Nat) : Option (List AV → St → Option (AV × St)) := bif Nat.beq f 27 then some extMark else X1.ext f
noncomputable abbrev X2 : X := { X1 with ext := ext2 }
theorem mark2 {S : St} {i j : Nat} {R : AV → St → Prop} (hi : i < 4611686018427387904) (hj : j < 9223372036854775808) (h : R (elV (mk1 i j)) S) : Runs X2 27 [.int .i64 ((i : Nat) : Int), .int .i64 ((j : Nat) : Int)] S R :=
  Runs_ext (g := extMark) rfl (show (if i < 4611686018427387904 ∧ j < 9223372036854775808 then some (elV (mk1 i j), S) else none) = some (elV (mk1 i j), S) from if_pos ⟨hi, hj⟩) (Nat.le_refl _) h
theorem extMark_ok [Val] (hx : ∀ f g, X1.ext f = some g → ExtOK Tryd.prog f g) : ExtOK Tryd.prog 27 extMark := by
  intro args S r S' h
  unfold extMark at h
  split at h
  · rename_i i j
    split at h
    · rename_i hij
      simp only [Option.some.injEq, Prod.mk.injEq] at h
      obtain ⟨rfl, rfl⟩ := h
      refine ⟨Nat.le_refl _, ?_⟩
      intro φ w vs hv hw _
      have hv0 : vrels φ0 [.int .i64 ((i : Nat) : Int), .int .i64 ((j : Nat) : Int)] vs.toList := by
        simp only [vrels, vrel] at hv ⊢
        exact hv
      obtain ⟨fuel, v, S1, h1, _, rfl⟩ := (mark_runs (i := i) (j := j) (S := { h := .leaf, n := 0 }) hij.1 hij.2).elim
      have hs := call_sound xok1 hx h1 hv0 (wrel_empty w (fun g o ho => (hw.ro g o ho).1)) (fun _ _ _ => rfl)
      intro o a next Q hq
      refine hs o a next Q ?_
      rintro u w' ⟨φ', k1, k2, k3⟩
      have hbel : Go.RowKit.Below w.heap.size w w' := ⟨k3.os, k3.tape, k3.output, k3.size, fun k hk => k3.frame k hk (by intro id b l e; cases e)⟩
      obtain ⟨m1, m2⟩ := kept_below (n := S.n) hw hbel
      refine hq u w' ⟨φ, ?_, m1, m2⟩
      simp only [vrel] at k1 ⊢
      exact k1
    · cases h
  · cases h
theorem xok2 [Val] : XOK Tryd.prog X2 := ⟨xok1.ti, xok1.fn, xok1.gor, xok1.mixed, xok1.eqs⟩
theorem ext2_ok [Val] (hx : ∀ f g, X1.ext f = some g → ExtOK Tryd.prog f g) : ∀ f g, X2.ext f = some g → ExtOK Tryd.prog f g := by
  intro f g h
  have h' : (bif Nat.beq f 27 then some extMark else X1.ext f) = some g := h
  rw [nbeq, cond_dec] at h'
  split at h'
  · rename_i e; subst e; cases h'; exact extMark_ok hx
  · exact hx f g h'
end Go.Proofs.YtnlfcoojlgdgaaaDoor
/- GX: reasoning about runs: loads of whole structs in a region that draws its order; two bools compared. -/

namespace GX
noncomputable section
open Go
section
variable {X : X} {l : L} {S : St} {R : AV → St → Prop} {t u : Nat} {x y : Operand} {D : List Fct} {i : Nat}
theorem load_eq_agg {e : Env} {H : Tr AB} {t : Nat} {x : Operand} {p : AV} {o : Nat} {i : TI} {cs ds : List AV} {m : Nat} (hx : opd e x = some p) (hi : X.ti t = some i) (hag : aggD i.desc = true) (hp : Pt { h := H, n := m } p cs o) (hle : o + i.size ≤ cs.length) (hv : (cs.drop o).take i.size = ds) : readOp X e H (.load t x) = some (.agg ds) := by
  unfold readOp; dsimp only; rw [hx]
  rcases hp with ⟨b, o0, ty, cs0, sp, rfl, h2, h3, h4⟩ | rfl
  · have hrow : row H b (o0 + o) i.size = some ds := by
      unfold row; rw [h2]; dsimp only; rw [nble, decide_eq_true (by omega)]; simp only [cond_true]; rw [drop_take_eq h4 hle, hv]
    dsimp only; unfold loadAt; rw [hi]; dsimp only
    split
    · rw [hrow]
    · rw [hrow]
    · rename_i h1 h2
      cases hd : i.desc with
      | struct f => exact absurd hd (h1 f)
      | array a b => exact absurd hd (h2 a b)
      | _ => rw [hd] at hag; cases hag
  · dsimp only; unfold loadR; rw [hi]; dsimp only
    split
    · rw [nble, decide_eq_true hle]; simp only [cond_true]; rw [hv]
    · rw [nble, decide_eq_true hle]; simp only [cond_true]; rw [hv]
    · rename_i h1 h2
      cases hd : i.desc with
      | struct f => exact absurd hd (h1 f)
      | array a b => exact absurd hd (h2 a b)
      | _ => rw [hd] at hag; cases hag
theorem FPD_loadA {t : Nat} {x : Operand} {p : AV} {o : Nat} {i' : TI} {cs ds : List AV} {ms : List Nat} (hx : od l x = some p) (hi : X.ti t = some i') (hag : aggD i'.desc = true) (hp : Pt S p cs o) (hle : o + i'.size ≤ cs.length) (hv : (cs.drop o).take i'.size = ds)
    (hb : ∀ b, blkOf p = some b → ∃ f ∈ D, f.id = b ∧ S.h.get b = some f.x ∧ ∀ j, f.src = some j → inM ms i j = true) :
    ∀ e, Ag l e → cls X e (.load t x) = .read ∧ FPD X D ms i e (.load t x) (.agg ds) := fun _ he =>
  ⟨rfl, fun H hH => load_eq_agg (m := S.n) (od_ok he hx) hi hag (hp.keep fun b h => by
    obtain ⟨f, h1, h2, h3, h4⟩ := hb b h
    show H.get b = _; rw [h3, ← h2]; exact hH f h1 h4) hle hv⟩
theorem FPD_loadA_n {o : Nat} {i' : TI} {cs ds : List AV} {ms : List Nat} (hx : od l x = some (.rptr cs o)) (hi : X.ti t = some i') (hag : aggD i'.desc = true) (hle : o + i'.size ≤ cs.length) (hv : (cs.drop o).take i'.size = ds) :
    ∀ e, Ag l e → cls X e (.load t x) = .read ∧ FPD X D ms i e (.load t x) (.agg ds) :=
  FPD_loadA (S := { h := .leaf, n := 0 }) hx hi hag (.inr rfl) hle hv (fun b hb => by cases hb)
theorem Ev_beql {a b : Bool} {i : TI} (hx : od l x = some (.bool a)) (hy : od l y = some (.bool b)) (hi : X.ti t = some i) (hd : i.desc = .bool) (hR : R (.bool (a == b)) S) : Ev X l S (.binOp .eql t x y u) R :=
  Ev_bin hx hy rfl (by unfold abin; dsimp only; unfold aeq; rw [hi]; dsimp only; rw [hd]) hR
end
end
end GX
/- GX: reasoning about runs: a slice that may be grown: owned, or made empty. -/

namespace GX
noncomputable section
open Go
/-- a slice that is owned, or an empty one that code has made -/
def Gz (S : St) (v : AV) (el sz : Nat) (cs : List AV) (m : Nat) : Prop :=
  Own S v el sz cs m ∨ (m = 0 ∧ cs = [] ∧ ∃ b o, v = .slice b o 0 (.ex 0) ∧ Rd S v sz [] 0)
theorem Gz.rd {S : St} {v : AV} {el sz m : Nat} {cs : List AV} (h : Gz S v el sz cs m) : Rd S v sz cs m := by
  rcases h with h | ⟨rfl, rfl, b, o, _, h⟩
  · exact h.rd
  · exact h
theorem Gz.keep {S S' : St} {v : AV} {el sz m : Nat} {cs : List AV} (h : Gz S v el sz cs m) (hk : ∀ b, blkOf v = some b → S'.h.get b = S.h.get b) : Gz S' v el sz cs m := by
  rcases h with h | ⟨rfl, rfl, b, o, hv, h⟩
  · exact .inl (h.keep hk)
  · exact .inr ⟨rfl, rfl, b, o, hv, h.keep hk⟩
theorem Gz.lt {S : St} {v : AV} {el sz m : Nat} {cs : List AV} (h : Gz S v el sz cs m) (hok : Sok S) {b : Nat} (hb : blkOf v = some b) : b < S.n := h.rd.lt hok hb
theorem Gz.own {S : St} {v : AV} {el sz m : Nat} {cs : List AV} (h : Gz S v el sz cs m) (hm : 0 < m) : Own S v el sz cs m := by
  rcases h with h | ⟨h, _⟩
  · exact h
  · omega
theorem Gz.eq {S : St} {v : AV} {el sz m m' : Nat} {cs cs' : List AV} (h : Gz S v el sz cs m) (hc : cs = cs') (hm : m = m') : Gz S v el sz cs' m' := by subst hc; subst hm; exact h
section
variable {X : X} {l : L} {S : St} {R : AV → St → Prop} {x y : Operand} {t t' : Nat}
theorem Ev_append_gz {xs : Array Operand} {ts : Array TypeId} {tr : List TypeId} {i i' ei : TI} {el m k : Nat} {vs vx : AV} {cs new : List AV} (hxs : xs.toList = [x, y]) (hts : ts.toList = t :: t' :: tr) (hi' : X.ti t' = some i') (hni : (match i'.desc with | .int _ => false | _ => true) = true)
    (hx : od l x = some vs) (hy : od l y = some vx) (hi : X.ti t = some i) (hd : i.desc = .slice el) (he' : X.ti el = some ei) (hz : (Nat.beq ei.size 0 || !(Nat.beq ei.zero.length ei.size)) = false)
    (hown : Gz S vs el ei.size cs m) (hnew : Rd S vx ei.size new k) (hone : new.all AV.one = true) (hok : Sok S) (hn : S.n < 1000000000) (hlim : (2 * (m + k) + 1000) * ei.bytes ≤ 140737488355328) (hlim2 : m + k ≤ 140737488355328)
    (hR : ∀ v' S', S.n ≤ S'.n → S'.n ≤ S.n + 1 → Sok S' → Gz S' v' el ei.size (cs ++ new) (m + k) → (∀ c, blkOf vs ≠ some c → c < S.n → S'.h.get c = S.h.get c) → (∀ c, blkOf v' = some c → blkOf vs = some c ∨ S.n ≤ c) → R v' S') :
    Ev X l S (.call { callee := .builtin .append, args := xs, argTypes := ts }) R := by
  rcases hown with h | ⟨rfl, rfl, b, o, rfl, h⟩
  · exact Ev_append hxs hts hi' hni hx hy hi hd he' hz h hnew hone hok hn hlim hlim2 (fun v' S' h1 h2 h3 h4 h5 h6 => hR v' S' h1 h2 h3 (.inl h4) h5 h6)
  · by_cases hk : k = 0
    · subst hk
      have hnil : new = [] := List.eq_nil_of_length_eq_zero (by rw [hnew.size]; omega)
      subst hnil
      have hrow : row S.h b o (0 * ei.size) = some [] := h.cells
      have hl := srcLen_of hnew.len
      have ha0 : aappend X S t (.slice b o 0 (.ex 0)) vx = (bif Nat.ble (0 + 0) 0 then
                (match storeAt S b (o + 0 * ei.size) [] with
                | none => none
                | some S => some (.slice b o (0 + 0) (.ex 0), S))
              else grow S el ei.size ei.bytes ([] ++ []) (0 + 0)) := by
        rw [app_eq hi hd he' hz hl hnew.cells]; unfold appBody; dsimp only; rw [hrow]; rfl
      unfold row at hrow
      split at hrow
      · rename_i ty cs sp hb
        rw [nble, cond_dec] at hrow
        split at hrow
        · rename_i hle
          have hbn : b < S.n := hok _ _ hb
          have hsame : ∀ c, (S.put b (.cells ty (lput cs (o + 0 * ei.size) []) sp)).h.get c = S.h.get c := by
            intro c
            rw [get_put (by omega), lput_nil]
            split
            · rename_i h; rw [h, hb]
            · rfl
          refine Ev_loud (S' := S.put b (.cells ty (lput cs (o + 0 * ei.size) []) sp)) (v := .slice b o 0 (.ex 0)) (fun e he => ⟨rfl, ?_⟩) (Nat.le_refl _) (hR _ _ (Nat.le_refl _) (Nat.le_succ _) ?_ (.inr ⟨rfl, rfl, b, o, rfl, ?_⟩) (fun c _ _ => hsame c) (fun c hc => .inl hc))
          · unfold loudOp; dsimp only; rw [hxs, hts]; dsimp only; rw [hi']; dsimp only
            split
            · rename_i hdd; rw [hdd] at hni; cases hni
            · rw [od_ok he hx, od_ok he hy]
              show aappend X S t (.slice b o 0 (.ex 0)) vx = _
              rw [ha0]
              unfold storeAt; rw [hb]; dsimp only
              rw [nble, nble, decide_eq_true (Nat.le_refl _), decide_eq_true (by simpa using hle)]; rfl
          · intro c x hc; rw [hsame] at hc; exact hok c x hc
          · exact h.keep (fun c _ => hsame c)
        · cases hrow
      · cases hrow
    · refine Ev_append_ex hxs hts hi' hni hx hy hi hd he' hz h hnew hok hn hlim hlim2 (fun v' S' h1 h2 h3 _ h5 h6 h7 => hR v' S' h1 h2 h3 ?_ (fun c _ hc => h6 c hc) (fun c hc => (h7 c hc).imp (fun h => by rw [h]; rfl) id))
      rcases h5 with h5 | h5
      · omega
      · exact .inl h5
/-- a slice, and nil -/
theorem Ev_eq_nils {t u : Nat} {i : TI} {el sz m : Nat} {v : AV} {cs : List AV} (hx : od l x = some v) (hy : od l y = some .nils) (hi : X.ti t = some i) (hd : i.desc = .slice el) (h : Rd S v sz cs m) (hR : ∀ b : Bool, (b = true → m = 0 ∧ cs = []) → R (.bool b) S) : Ev X l S (.binOp .eql t x y u) R := by
  have hsl := h.sl
  have hs := h.size
  have hlen := h.len
  have hae : ∃ b : Bool, aeq X 10 t v .nils = some b ∧ (b = true → v = .nils) := by
    unfold aeq; rw [hi]; dsimp only; rw [hd]
    cases v <;> first | exact ⟨_, rfl, fun h => by first | rfl | cases h⟩ | cases hsl
  obtain ⟨b, hb, hb2⟩ := hae
  refine Ev_bin hx hy (by cases v <;> first | rfl | cases hsl) ?_ (hR b (fun h => ?_))
  · unfold abin
    cases v <;> first | (dsimp only; rw [hb]; done) | cases hsl
  · have := hb2 h; subst this
    simp [slen] at hlen
    subst hlen
    exact ⟨rfl, List.eq_nil_of_length_eq_zero (by omega)⟩
/-- a pointer, and nil -/
theorem Ev_ptr_eql {t u b o el : Nat} {i : TI} (hx : od l x = some (.ptr b o)) (hy : od l y = some .nilp) (hi : X.ti t = some i) (hd : i.desc = .pointer el) (hR : R (.bool false) S) : Ev X l S (.binOp .eql t x y u) R := by
  refine Ev_pure (fun _ he => ⟨?_, ?_⟩) hR
  · unfold cls; dsimp only; rw [od_ok he hx]; dsimp only; rw [od_ok he hy]
  · unfold pureOp; dsimp only; rw [od_ok he hx]; dsimp only; rw [od_ok he hy]; dsimp only; unfold abin aeq; dsimp only; rw [hi]; dsimp only; rw [hd]
theorem Ev_ptr_neq {t u b o el : Nat} {i : TI} (hx : od l x = some (.ptr b o)) (hy : od l y = some .nilp) (hi : X.ti t = some i) (hd : i.desc = .pointer el) (hR : R (.bool true) S) : Ev X l S (.binOp .neq t x y u) R := by
  refine Ev_pure (fun _ he => ⟨?_, ?_⟩) hR
  · unfold cls; dsimp only; rw [od_ok he hx]; dsimp only; rw [od_ok he hy]
  · unfold pureOp; dsimp only; rw [od_ok he hx]; dsimp only; rw [od_ok he hy]; dsimp only; unfold abin aeq; dsimp only; rw [hi]; dsimp only; rw [hd]; rfl
end
end
end GX
/- GX: reasoning about runs: slices that are appended to, and whose beginning is let go. -/

namespace GX
noncomputable section
open Go
/-- a slice of its own, from somewhere in its block on -/
def OwA (S : St) (v : AV) (el sz : Nat) (cs : List AV) (m : Nat) : Prop :=
  (v = .nils ∧ cs = [] ∧ m = 0) ∨ ∃ b pre, v = .slice b pre.length m (.op sz) ∧ S.h.get b = some (.cells el (pre ++ cs) true) ∧ cs.length = m * sz
theorem OwA.keep {S S' : St} {v : AV} {el sz : Nat} {cs : List AV} {m : Nat} (h : OwA S v el sz cs m) (hk : ∀ b, blkOf v = some b → S'.h.get b = S.h.get b) : OwA S' v el sz cs m := by
  rcases h with h | ⟨b, pre, h1, h2, h3⟩
  · exact .inl h
  · exact .inr ⟨b, pre, h1, by rw [hk b (by rw [h1]; rfl)]; exact h2, h3⟩
theorem OwA.of {S : St} {v : AV} {el sz : Nat} {cs : List AV} {m : Nat} (h : Own S v el sz cs m) : OwA S v el sz cs m := by
  rcases h with h | ⟨b, h1, h2, h3⟩
  · exact .inl h
  · exact .inr ⟨b, [], h1, h2, h3⟩
theorem OwA.rd {S : St} {v : AV} {el sz : Nat} {cs : List AV} {m : Nat} (h : OwA S v el sz cs m) : Rd S v sz cs m := by
  rcases h with ⟨h1, h2, h3⟩ | ⟨b, pre, h1, h2, h3⟩
  · subst h1; subst h2; subst h3; exact ⟨rfl, rfl, rfl, rfl, rfl, by simp⟩
  · subst h1
    refine ⟨by simp [capW], veq_slice _ _ _ _, rfl, rfl, ?_, h3⟩
    unfold srcCells row; dsimp only; rw [h2]; dsimp only
    rw [nble, decide_eq_true (by rw [List.length_append]; omega)]
    simp only [cond_true, List.drop_left]
    rw [List.take_of_length_le (by omega)]
theorem OwA.lt {S : St} {v : AV} {el sz : Nat} {cs : List AV} {m : Nat} (h : OwA S v el sz cs m) (hok : Sok S) {b : Nat} (hb : blkOf v = some b) : b < S.n := h.rd.lt hok hb
section
variable {X : X} {l : L} {S : St} {R : AV → St → Prop} {x y : Operand} {t t' : Nat}
theorem Ev_append_a {xs : Array Operand} {ts : Array TypeId} {tr : List TypeId} {i i' ei : TI} {el m k : Nat} {vs vx : AV} {cs new : List AV} (hxs : xs.toList = [x, y]) (hts : ts.toList = t :: t' :: tr) (hi' : X.ti t' = some i') (hni : (match i'.desc with | .int _ => false | _ => true) = true)
    (hx : od l x = some vs) (hy : od l y = some vx) (hi : X.ti t = some i) (hd : i.desc = .slice el) (he' : X.ti el = some ei) (hz : (Nat.beq ei.size 0 || !(Nat.beq ei.zero.length ei.size)) = false)
    (hown : OwA S vs el ei.size cs m) (hk : k ≠ 0) (hnew : Rd S vx ei.size new k) (hone : new.all AV.one = true) (hok : Sok S) (hn : S.n < 1000000000) (hlim : (2 * (m + k) + 1000) * ei.bytes ≤ 140737488355328) (hlim2 : m + k ≤ 140737488355328)
    (hR : ∀ v' S', S'.n = S.n + 1 → Sok S' → OwA S' v' el ei.size (cs ++ new) (m + k) → (∀ c, blkOf vs ≠ some c → c < S.n → S'.h.get c = S.h.get c) → blkOf v' = some S.n → R v' S') :
    Ev X l S (.call { callee := .builtin .append, args := xs, argTypes := ts }) R := by
  have key : ∀ v' S', aappend X S t vs vx = some (v', S') → S.n ≤ S'.n → R v' S' → Ev X l S (.call { callee := .builtin .append, args := xs, argTypes := ts }) R := by
    intro v' S' ha hle hr
    refine Ev_loud (fun e he => ⟨rfl, ?_⟩) hle hr
    unfold loudOp; dsimp only; rw [hxs, hts]; dsimp only; rw [hi']; dsimp only
    split
    · rename_i hdd; rw [hdd] at hni; cases hni
    · rw [od_ok he hx, od_ok he hy]; exact ha
  have hz0 : ei.size ≠ 0 := by intro h; rw [h] at hz; simp [nbeq] at hz
  have hl := srcLen_of hnew.len
  have ha0 : aappend X S t vs vx = appBody S el ei.size ei.bytes k new vs := app_eq hi hd he' hz hl hnew.cells
  have hkb : Nat.beq k 0 = false := by rw [nbeq]; simp [hk]
  rcases hown with ⟨h1, h2, h3⟩ | ⟨b, pre, h1, h2, h3⟩
  · subst h1; subst h2; subst h3
    rw [Nat.zero_add] at hlim hlim2
    refine key (.slice S.n 0 k (.op ei.size)) (S.new (.cells el new true)) ?_ (Nat.le_succ _) (hR _ _ rfl ?_ (.inr ⟨S.n, [], by rw [Nat.zero_add]; rfl, ?_, ?_⟩) ?_ rfl)
    · rw [ha0]; unfold appBody; dsimp only; rw [hkb]; simp only [cond_false]; unfold grow
      rw [nblt, nble, nble, decide_eq_true hn, decide_eq_true hlim, decide_eq_true hlim2]; rfl
    · intro c x hc
      rw [get_new hn] at hc
      by_cases h : c = S.n
      · rw [h]; exact Nat.lt_succ_self _
      · rw [if_neg h] at hc; exact Nat.lt_succ_of_lt (hok c x hc)
    · rw [get_new hn, if_pos rfl]; rfl
    · simpa using hnew.size
    · intro c _ hc; rw [get_new hn, if_neg (by omega)]
  · subst h1
    have hbn : b < S.n := hok _ _ h2
    have hns : ¬ (pre.length + (m + k) * ei.size ≤ (pre ++ cs).length) := by
      rw [List.length_append, h3, Nat.add_mul]
      have : 0 < k * ei.size := Nat.mul_pos (by omega) (by omega)
      omega
    refine key (.slice S.n 0 (m + k) (.op ei.size)) { h := Tr.set 40 (S.h.del b) S.n (.cells el ((pre ++ cs).drop pre.length ++ new) true), n := S.n + 1 } ?_ (Nat.le_succ _) (hR _ _ rfl ?_ (.inr ⟨S.n, [], rfl, ?_, ?_⟩) ?_ rfl)
    · rw [ha0]; unfold appBody; dsimp only; rw [hkb]; simp only [cond_false]
      rw [nbeq, decide_eq_true rfl]; simp only [Bool.not_true, cond_false]
      rw [h2]; dsimp only
      rw [nble, decide_eq_false hns]; simp only [cond_false]
      rw [nblt, nble, nble, nbeq, nbeq, decide_eq_true hn, decide_eq_true hlim, decide_eq_true hlim2, decide_eq_true rfl, decide_eq_true (by rw [List.length_append]; omega : pre.length + m * ei.size = (pre ++ cs).length), hone]; rfl
    · intro c x hc
      dsimp only at hc
      rw [Tr.get_set 40 _ _ _ _ (by omega)] at hc
      by_cases h : c = S.n
      · rw [h]; exact Nat.lt_succ_self _
      · rw [if_neg h, Tr.get_del] at hc
        split at hc
        · cases hc
        · exact Nat.lt_succ_of_lt (hok c x hc)
    · dsimp only; rw [Tr.get_set 40 _ _ _ _ (by omega), if_pos rfl, List.drop_left]; rfl
    · rw [List.length_append, h3, hnew.size, Nat.add_mul]
    · intro c hcb hc
      dsimp only
      rw [Tr.get_set 40 _ _ _ _ (by omega), if_neg (by omega), Tr.get_del, if_neg (fun h => hcb (by rw [h]; rfl))]
theorem Ev_slice_a {k : IntKind} {i ei : TI} {el m lo : Nat} {v : AV} {cs : List AV} (hx : od l x = some v) (hy : od l y = some (.int k ((lo : Nat) : Int))) (hi0 : X.ti t = some i) (hd : i.desc = .slice el) (he' : X.ti el = some ei) (hown : OwA S v el ei.size cs m) (hlo : lo < m)
    (hR : ∀ v', OwA S v' el ei.size (cs.drop (lo * ei.size)) (m - lo) → blkOf v' = blkOf v → R v' S) : Ev X l S (.slice t x (some y) none none) R := by
  rcases hown with ⟨_, _, h3⟩ | ⟨b, pre, h1, h2, h3⟩
  · omega
  · subst h1
    have hle : lo * ei.size ≤ cs.length := by rw [h3]; exact Nat.mul_le_mul_right _ (by omega)
    have hpl : (pre ++ cs.take (lo * ei.size)).length = pre.length + lo * ei.size := by rw [List.length_append, List.length_take]; omega
    refine Ev_slice hx (by unfold odopt; dsimp only; rw [hy]) rfl rfl hi0 hd he' rfl (r := .slice b (pre.length + lo * ei.size) (m - lo) (.op ei.size)) ?_ (hR _ (.inr ⟨b, pre ++ cs.take (lo * ei.size), by rw [hpl], ?_, ?_⟩) rfl)
    · unfold aslice
      dsimp only
      rw [hi0]; dsimp only; rw [hd]; dsimp only; rw [he']; dsimp only
      have hb : bounds m m (some (.int k ((lo : Nat) : Int))) none = some (lo, m) := by
        unfold bounds
        dsimp only
        have : bound (.int k ((lo : Nat) : Int)) m = some lo := by
          show (bif Nat.ble lo m then some lo else none) = some lo
          rw [nble, decide_eq_true (by omega)]; rfl
        rw [this]
      rw [hb]
      dsimp only
      rw [nblt, nbeq, decide_eq_true hlo, decide_eq_true rfl]; rfl
    · rw [List.append_assoc, List.take_append_drop]; exact h2
    · rw [List.length_drop, h3, Nat.sub_mul]
end
end
end GX
/- carafebook.Book of bytes: Same, Stays, Apart, for lists whose capacity is known. (NODRAWN) -/




namespace Go.Proofs.YtnlfcoojlgdgaaaDoor
open GX
set_option maxHeartbeats 16000000
set_option maxRecDepth 100000
theorem sok_upd {S S' : St} {p : Nat} {b : AB} (h : Sok S) (hp : p < S.n) (hn : S'.n = S.n) (_ : S'.h.get p = some b) (hf : ∀ c, c ≠ p → S'.h.get c = S.h.get c) : Sok S' := by
  intro c x hx
  by_cases hc : c = p
  · rw [hc, hn]; exact hp
  · rw [hf c hc] at hx; rw [hn]; exact h c x hx
theorem cellsE_len (cs : List El) : (cellsE cs).length = cs.length := by simp [cellsE]
theorem cellsE_get {cs : List El} {i : Nat} (h : i < cs.length) : (cellsE cs)[i * 1]? = some (elV cs[i]) := by
  unfold cellsE; rw [Nat.mul_one, List.getElem?_map, List.getElem?_eq_getElem h]; rfl
theorem cellsE_one (cs : List El) : (cellsE cs).all AV.one = true := by
  apply List.all_eq_true.2
  intro x hx
  unfold cellsE at hx
  obtain ⟨c, _, rfl⟩ := List.mem_map.1 hx
  exact elV_one c
theorem cellsE_app (a b : List El) : cellsE (a ++ b) = cellsE a ++ cellsE b := List.map_append
abbrev Es (S : St) (v : AV) (cs : List El) : Prop := Rd S v 1 (cellsE cs) cs.length
/-- the same lists -/
theorem esame_runs {S : St} {v w : AV} {a b : List El} (hv : Es S v a) (hw : Es S w b) (hl : a.length ≤ 1000000000 ∧ b.length ≤ 1000000000) :
    Runs X2 52 [v, w] S fun r S' => r = .bool (decide (a = b)) ∧ S' = S := by
  refine Runs_fn (m := 26) (by kernel_rfl) Tryd.func52 rfl (by kernel_rfl) (by kernel_rfl) ?_
  repeat' (
    first
      | refine W_seq ?_
      | refine WO_nil ?_
      | refine V_seq ?_
      | refine W_region ?_
      | refine W_skip ?_
      | refine W_block ?_
      | refine W_ret ?_
      | refine V_ret ?_
      | refine WO_dst rfl rfl (by kernel_rfl) (by kernel_rfl) ?_
      | refine Ev_len rfl rfl rfl rfl rfl hv.len ?_
      | refine Ev_len rfl rfl rfl rfl rfl hw.len ?_
      | refine Ev_move rfl ?_
      | refine Ev_assign rfl ?_
      | refine Ev_neqN rfl rfl ?_
      | (refine W_cond rfl (fun hc => ?_) (fun hc => ?_) <;> (try dsimp only at hc) <;> try (exfalso; first | omega | exact hc rfl)))
  · refine V_done rfl rfl ⟨?_, rfl⟩
    rw [decide_eq_false (fun h => hc (by rw [h]))]; rfl
  · have hlen : a.length = b.length := Classical.not_not.1 hc
    refine W_inv (fun i : Nat => [(5, .int .i64 ((i : Nat) : Int)), (0, v), (1, w)]) (fun i T => T = S ∧ i ≤ a.length ∧ a.take i = b.take i) (fun i => a.length - i) ?_ 0 ⟨rfl, Nat.zero_le _, by simp⟩ ⟨rfl, rfl, rfl, trivial⟩
    rintro i T ⟨rfl, hi, heq⟩ back
    repeat' (
      first
        | refine W_seq ?_
        | refine WO_nil ?_
        | refine V_seq ?_
        | refine W_region ?_
        | refine W_skip ?_
        | refine W_block ?_
        | refine W_ret ?_
        | refine W_exit ?_
        | refine V_block_x rfl ?_
        | refine V_seq_x ?_
        | refine V_loop_x ?_
        | refine WO_dst rfl rfl (by kernel_rfl) (by kernel_rfl) ?_
        | refine Ev_len rfl rfl rfl rfl rfl hv.len ?_
        | refine Ev_move rfl ?_
        | refine Ev_assign rfl ?_
        | refine Ev_lssN rfl rfl ?_
        | (refine W_cond rfl (fun hc => ?_) (fun hc => ?_) <;> (try dsimp only at hc) <;> try (exfalso; first | omega | exact hc rfl)))
    · have hlt : i < a.length := hc
      have hlb : i < b.length := by omega
      refine W_drawn (by kernel_rfl) ?_
      repeat (
        first
          | refine WO_dst rfl rfl (by kernel_rfl) (by kernel_rfl) ?_
          | refine Ev_move rfl ?_)
      refine Ev_indexAddr_rd rfl rfl rfl rfl rfl hv hlt ?_
      intro q hq
      repeat (
        refine WO_dst rfl rfl (by kernel_rfl) (by kernel_rfl) ?_)
      refine Ev_load_pt rfl rfl rfl hq (cellsE_get hlt) (elV_veq _) ?_
      repeat (
        first
          | refine WO_dst rfl rfl (by kernel_rfl) (by kernel_rfl) ?_
          | refine Ev_move rfl ?_)
      refine Ev_indexAddr_rd rfl rfl rfl rfl rfl hw hlb ?_
      intro q' hq'
      repeat (
        refine WO_dst rfl rfl (by kernel_rfl) (by kernel_rfl) ?_)
      refine Ev_load_pt rfl rfl rfl hq' (cellsE_get hlb) (elV_veq _) ?_
      repeat (
        first
          | refine WO_nil ?_
          | refine V_seq ?_
          | refine WO_dst rfl rfl (by kernel_rfl) (by kernel_rfl) ?_
          | refine Ev_ene rfl rfl ?_)
      repeat' (
        first
          | refine W_seq ?_
          | refine WO_nil ?_
          | refine V_seq ?_
          | refine W_region ?_
          | refine W_skip ?_
          | refine W_ret ?_
          | refine V_ret ?_
          | refine V_block ?_
          | refine WO_dst rfl rfl (by kernel_rfl) (by kernel_rfl) ?_
          | refine Ev_move rfl ?_
          | refine Ev_assign rfl ?_
          | refine Ev_addN rfl rfl (by simp only [lim]; omega) ?_
          | (refine W_cond rfl (fun hc => ?_) (fun hc => ?_) <;> (try dsimp only at hc) <;> try (exfalso; first | omega | exact hc rfl)))
      · refine V_done rfl rfl ⟨?_, rfl⟩
        rw [decide_eq_false]; rfl
        intro h
        subst h
        exact hc rfl
      · refine back (i + 1) _ _ (by omega) ⟨rfl, by omega, ?_⟩ ⟨rfl, rfl, rfl, trivial⟩
        rw [List.take_succ_eq_append_getElem hlt, List.take_succ_eq_append_getElem hlb, heq, Classical.not_not.1 hc]
    · refine V_done rfl rfl ⟨?_, rfl⟩
      have hi2 : i = a.length := by omega
      rw [decide_eq_true]; rfl
      rw [hi2, List.take_length, hlen, List.take_length] at heq
      exact heq
section
variable {X : X} {l : L} {S : St} {R : AV → St → Prop} {x : Go.Operand}
theorem Ev_cap_ex {xs : Array Go.Operand} {ts : Array Go.TypeId} {t : Nat} {tr : List Go.TypeId} {i : TI} {el b o n k : Nat} (hxs : xs.toList = [x]) (hts : ts.toList = t :: tr) (hi : X.ti t = some i) (hd : i.desc = .slice el) (hx : od l x = some (.slice b o n (.ex k))) (hR : R (.int .i64 ((k : Nat) : Int)) S) :
    Ev X l S (.call { callee := .builtin .cap, args := xs, argTypes := ts }) R :=
  Ev_pure (fun e he => ⟨by unfold cls; rfl, by unfold pureOp; dsimp only; rw [hxs, hts]; dsimp only; rw [hi]; dsimp only; rw [hd, od_ok he hx]; rfl⟩) hR
theorem Ev_slice_cap {t : Nat} {y : Go.Operand} {kk : Go.IntKind} {ti ei : TI} {el b n k : Nat} (hx : od l x = some (.slice b 0 n (.ex k))) (hy : od l y = some (.int kk ((k : Nat) : Int))) (hti : X.ti t = some ti) (hd : ti.desc = .slice el) (he' : X.ti el = some ei) (hR : R (.slice b 0 k (.ex k)) S) :
    Ev X l S (.slice t x none (some y) none) R := by
  refine Ev_slice hx rfl (by unfold odopt; dsimp only; rw [hy]) rfl hti hd he' rfl (r := .slice b 0 k (.ex k)) ?_ hR
  unfold aslice
  dsimp only
  rw [hti]; dsimp only; rw [hd]; dsimp only; rw [he']; dsimp only
  have hb : bounds n k none (some (.int kk ((k : Nat) : Int))) = some (0, k) := by
    unfold bounds
    dsimp only
    have : bound (.int kk ((k : Nat) : Int)) k = some k := by
      show (match nat? ((k : Nat) : Int) with | some m => _ | none => none) = some k
      show (bif Nat.ble k k then some k else none) = some k
      rw [nble, decide_eq_true (Nat.le_refl k)]; rfl
    rw [this]
  rw [hb]
  dsimp only
  have e : (bif Nat.beq k 0 then 0 else 0 + 0 * ei.size) = 0 := by cases Nat.beq k 0 <;> simp
  rw [e]; rfl
end
/-- a list that is kept: its capacity, what is in it, what is behind that, and a copy -/
structure It where
  v : AV
  c : Nat
  cs : List El
  extra : List AV
  w : AV
structure ItOK (T : St) (i : It) : Prop where
  kind : (∃ b, i.v = .slice b 0 i.cs.length (.ex i.c) ∧ T.h.get b = some (.cells 5 (cellsE i.cs ++ i.extra) true) ∧ i.cs.length ≤ i.c ∧ i.c ≤ i.cs.length + i.extra.length) ∨ (i.cs = [] ∧ i.c = 0 ∧ (i.v = .nils ∨ ∃ b o, i.v = .slice b o 0 (.ex 0) ∧ Es T i.v []))
  lim : i.c < 9223372036854775808
  wr : Es T i.w i.cs
  small : i.cs.length ≤ 10000000
theorem ItOK.rd {T : St} {i : It} (h : ItOK T i) : Es T i.v i.cs := by
  rcases h.kind with ⟨b, h1, h2, h3⟩ | ⟨h1, h2, h3 | ⟨b, o, h3, h4⟩⟩
  · rw [h1]
    refine ⟨?_, veq_slice _ _ _ _, rfl, rfl, ?_, by rw [cellsE_len]; omega⟩
    · show Nat.ble i.cs.length i.c = true
      rw [nble]; exact decide_eq_true (by omega)
    · unfold srcCells row; dsimp only; rw [h2]; dsimp only
      rw [nble, decide_eq_true (by rw [List.length_append, cellsE_len]; omega)]
      simp only [cond_true, List.drop_zero]
      rw [List.take_append_of_le_length (by rw [cellsE_len]; omega), List.take_of_length_le (by rw [cellsE_len]; omega)]
  · rw [h1, h3]; exact ⟨rfl, rfl, rfl, rfl, rfl, rfl⟩
  · rw [h1]; exact h4
theorem ItOK.keep {T U : St} {i : It} (h : ItOK T i) (hv : ∀ b, blkOf i.v = some b → U.h.get b = T.h.get b) (hw : ∀ b, blkOf i.w = some b → U.h.get b = T.h.get b) : ItOK U i := by
  refine ⟨?_, h.lim, h.wr.keep hw, h.small⟩
  rcases h.kind with ⟨b, h1, h2, h3⟩ | ⟨h1, h2, h3 | ⟨b, o, h3, h4⟩⟩
  · exact .inl ⟨b, h1, by rw [hv b (by rw [h1]; rfl)]; exact h2, h3⟩
  · exact .inr ⟨h1, h2, .inl h3⟩
  · exact .inr ⟨h1, h2, .inr ⟨b, o, h3, h4.keep hv⟩⟩
/-- a list's capacity -/
theorem ItOK.cap {T : St} {i : It} (h : ItOK T i) : (∃ b o, i.v = .slice b o i.cs.length (.ex i.c)) ∨ (i.v = .nils ∧ i.c = 0) := by
  rcases h.kind with ⟨b, h1, h2, h3⟩ | ⟨h1, h2, h3 | ⟨b, o, h3, h4⟩⟩
  · exact .inl ⟨b, 0, h1⟩
  · exact .inr ⟨h3, h2⟩
  · exact .inl ⟨b, o, by rw [h1, h2]; exact h3⟩
section
variable {X : X} {l : L} {S : St} {R : AV → St → Prop} {x : Go.Operand}
theorem Ev_cap_it {xs : Array Go.Operand} {ts : Array Go.TypeId} {t : Nat} {tr : List Go.TypeId} {ti : TI} {el : Nat} {T : St} {i : It} (hxs : xs.toList = [x]) (hts : ts.toList = t :: tr) (hi : X.ti t = some ti) (hd : ti.desc = .slice el) (hx : od l x = some i.v) (hit : ItOK T i) (hR : R (.int .i64 ((i.c : Nat) : Int)) S) :
    Ev X l S (.call { callee := .builtin .cap, args := xs, argTypes := ts }) R := by
  rcases hit.cap with ⟨b, o, h⟩ | ⟨h, h2⟩
  · exact Ev_cap_ex hxs hts hi hd (by rw [hx, h]) hR
  · rw [h2] at hR
    rw [h] at hx
    exact Ev_pure (fun e he => ⟨by unfold cls; rfl, by unfold pureOp; dsimp only; rw [hxs, hts]; dsimp only; rw [hi]; dsimp only; rw [hd, od_ok he hx]; rfl⟩) hR
theorem Ev_slice_it {t : Nat} {y : Go.Operand} {kk : Go.IntKind} {ti ei : TI} {el : Nat} {T : St} {i : It} (hx : od l x = some i.v) (hy : od l y = some (.int kk ((i.c : Nat) : Int))) (hti : X.ti t = some ti) (hd : ti.desc = .slice el) (he' : X.ti el = some ei) (hit : ItOK T i)
    (hR : ∀ v, slen v = some i.c → (∀ b n, i.v = .slice b 0 n (.ex i.c) → v = .slice b 0 i.c (.ex i.c)) → R v S) :
    Ev X l S (.slice t x none (some y) none) R := by
  have hbd : ∀ n, bounds n i.c none (some (.int kk ((i.c : Nat) : Int))) = some (0, i.c) := by
    intro n
    unfold bounds
    dsimp only
    have : bound (.int kk ((i.c : Nat) : Int)) i.c = some i.c := by
      show (bif Nat.ble i.c i.c then some i.c else none) = some i.c
      rw [nble, decide_eq_true (Nat.le_refl i.c)]; rfl
    rw [this]
  rcases hit.cap with ⟨b, o, h⟩ | ⟨h, h2⟩ <;> rw [h] at hx
  · refine Ev_slice hx rfl (by unfold odopt; dsimp only; rw [hy]) rfl hti hd he' rfl (r := .slice b o i.c (.ex i.c)) ?_ (hR _ rfl fun b' n hb => ?_)
    · unfold aslice
      dsimp only
      rw [hti]; dsimp only; rw [hd]; dsimp only; rw [he']; dsimp only
      rw [hbd]
      dsimp only
      have e : (bif Nat.beq i.c 0 then o else o + 0 * ei.size) = o := by cases Nat.beq i.c 0 <;> simp
      rw [e]; rfl
    · rw [h] at hb; cases hb; rfl
  · refine Ev_slice hx rfl (by unfold odopt; dsimp only; rw [hy]) rfl hti hd he' rfl (r := .nils) ?_ (hR _ (by rw [h2]; rfl) fun b' n hb => by rw [h] at hb; cases hb)
    unfold aslice
    dsimp only
    have := hbd 0
    rw [h2] at this ⊢
    rw [this]
end
/-- a book with some lists -/
structure Bk (T : St) (p : Nat) (vl vw : AV) (h : Int) (is : List It) : Prop where
  ok : Sok T
  at_ : T.h.get p = some (.cells 50 [vl, vw, .int .i64 h, .bool false] false)
  lo : OwA T vl 22 1 (is.map It.v) is.length
  wo : OwA T vw 22 1 (is.map It.w) is.length
  it : ∀ i ∈ is, ItOK T i
  lp : blkOf vl ≠ some p
  wp : blkOf vw ≠ some p
  lw : ∀ c, blkOf vl = some c → blkOf vw ≠ some c
  ip : ∀ i ∈ is, ∀ c, blkOf i.v = some c ∨ blkOf i.w = some c → c ≠ p ∧ blkOf vl ≠ some c ∧ blkOf vw ≠ some c
  dis : ∀ (j k : Nat) (a b : It) (c : Nat), is[j]? = some a → is[k]? = some b → j ≠ k → blkOf a.v = some c → blkOf b.v ≠ some c
  few : is.length ≤ 1000
theorem Bk.l {T : St} {p : Nat} {vl vw : AV} {h : Int} {is : List It} (b : Bk T p vl vw h is) : Rd T vl 1 (is.map It.v) is.length := b.lo.rd
theorem Bk.w {T : St} {p : Nat} {vl vw : AV} {h : Int} {is : List It} (b : Bk T p vl vw h is) : Rd T vw 1 (is.map It.w) is.length := b.wo.rd
theorem map_get {α : Type} {f : α → AV} {l : List α} {i : Nat} (h : i < l.length) : (l.map f)[i * 1]? = some (f l[i]) := by
  rw [Nat.mul_one, List.getElem?_map, List.getElem?_eq_getElem h]; rfl
/-- only the book itself is written to, and not turned -/
theorem Bk.same {T U : St} {p : Nat} {vl vw : AV} {h : Int} {is : List It} (b : Bk T p vl vw h is) (hn : U.n = T.n) (hq : U.h.get p = some (.cells 50 [vl, vw, .int .i64 h, .bool false] false)) (hf : ∀ c, c ≠ p → U.h.get c = T.h.get c) : Bk U p vl vw h is :=
  ⟨sok_upd b.ok (b.ok _ _ b.at_) hn hq hf, hq, b.lo.keep (fun c hc => hf c (fun e => b.lp (by rw [hc, e]))), b.wo.keep (fun c hc => hf c (fun e => b.wp (by rw [hc, e]))),
    fun i hi => (b.it i hi).keep (fun c hc => hf c (b.ip i hi c (.inl hc)).1) (fun c hc => hf c (b.ip i hi c (.inr hc)).1), b.lp, b.wp, b.lw, b.ip, b.dis, b.few⟩
theorem stays_runs {S : St} {p : Nat} {vl vw : AV} {h : Int} {is : List It} (b : Bk S p vl vw h is) (hn : S.n ≤ 900000000) :
    Runs X2 54 [.ptr p 0] S fun r S' => r = .bool true ∧ Bk S' p vl vw h is ∧ S'.n = S.n ∧ ∀ c, c ≠ p → S'.h.get c = S.h.get c := by
  have hfew := b.few
  refine Runs_fn (m := 43) (by kernel_rfl) Tryd.func54 rfl (by kernel_rfl) (by kernel_rfl) ?_
  repeat (
    first
      | refine W_seq ?_
      | refine WO_nil ?_
      | refine V_seq ?_
      | refine W_region ?_
      | refine W_block ?_
      | refine WO_dst rfl rfl (by kernel_rfl) (by kernel_rfl) ?_
      | refine Ev_assign rfl ?_)
  refine W_inv (fun i : Nat => [(3, .int .i64 ((i : Nat) : Int)), (0, .ptr p 0)]) (fun i T => Bk T p vl vw h is ∧ i ≤ is.length ∧ T.n = S.n ∧ ∀ c, c ≠ p → T.h.get c = S.h.get c) (fun i => is.length - i) ?_ 0 ⟨b, Nat.zero_le _, rfl, fun _ _ => rfl⟩ ⟨rfl, rfl, trivial⟩
  rintro i T ⟨hb, hi, hTn, hTf⟩ back
  have hpn := hb.ok _ _ hb.at_
  repeat' (
    first
      | refine W_seq ?_
      | refine WO_nil ?_
      | refine V_seq ?_
      | refine W_region ?_
      | refine W_skip ?_
      | refine W_block ?_
      | refine W_ret ?_
      | refine W_exit ?_
      | refine V_block_x rfl ?_
      | refine V_seq_x ?_
      | refine V_loop_x ?_
      | refine WO_dst rfl rfl (by kernel_rfl) (by kernel_rfl) ?_
      | refine Ev_load rfl rfl rfl hb.at_ rfl hb.l.self ?_
      | refine Ev_len rfl rfl rfl rfl rfl hb.l.len ?_
      | refine Ev_load rfl rfl rfl hb.at_ rfl (show veq (.bool false) (.bool false) = true from rfl) ?_
      | refine Ev_move rfl ?_
      | refine Ev_assign rfl ?_
      | refine Ev_lssN rfl rfl ?_
      | refine Ev_notb rfl ?_
      | refine Ev_nilCheck rfl ?_
      | refine Ev_fieldAddr rfl rfl rfl rfl rfl rfl ?_
      | (refine W_cond rfl (fun hc => ?_) (fun hc => ?_) <;> (try dsimp only at hc) <;> try (exfalso; first | omega | exact hc rfl)))
  · have hlt : i < is.length := by assumption
    have hIt := hb.it _ (List.getElem_mem hlt)
    have hsm := hIt.small
    refine W_drawn (by kernel_rfl) ?_
    repeat' (
      first
        | refine WO_dst rfl rfl (by kernel_rfl) (by kernel_rfl) ?_
        | refine WO_guard_t rfl rfl rfl rfl rfl (by kernel_rfl) (by kernel_rfl) ?_
        | refine Ev_load rfl rfl rfl hb.at_ rfl hb.l.self ?_
        | refine Ev_load rfl rfl rfl hb.at_ rfl (show veq (.bool false) (.bool false) = true from rfl) ?_
        | refine Ev_move rfl ?_
        | refine Ev_nilCheck rfl ?_
        | refine Ev_fieldAddr rfl rfl rfl rfl rfl rfl ?_)
    refine Ev_indexAddr_rd rfl rfl rfl rfl rfl hb.l hlt ?_
    intro q hq
    repeat (
      first
        | refine WO_dst rfl rfl (by kernel_rfl) (by kernel_rfl) ?_
        | refine WO_guard_t rfl rfl rfl rfl rfl (by kernel_rfl) (by kernel_rfl) ?_)
    refine Ev_load_pt rfl rfl rfl hq (map_get hlt) hIt.rd.self ?_
    repeat (
      first
        | refine WO_dst rfl rfl (by kernel_rfl) (by kernel_rfl) ?_
        | refine WO_guard_t rfl rfl rfl rfl rfl (by kernel_rfl) (by kernel_rfl) ?_
        | refine Ev_load rfl rfl rfl hb.at_ rfl hb.w.self ?_
        | refine Ev_move rfl ?_
        | refine Ev_nilCheck rfl ?_
        | refine Ev_fieldAddr rfl rfl rfl rfl rfl rfl ?_)
    refine Ev_indexAddr_rd rfl rfl rfl rfl rfl hb.w hlt ?_
    intro q2 hq2
    repeat (
      first
        | refine WO_dst rfl rfl (by kernel_rfl) (by kernel_rfl) ?_
        | refine WO_guard_t rfl rfl rfl rfl rfl (by kernel_rfl) (by kernel_rfl) ?_)
    refine Ev_load_pt rfl rfl rfl hq2 (map_get hlt) hIt.wr.self ?_
    repeat (
      first
        | refine WO_dst rfl rfl (by kernel_rfl) (by kernel_rfl) ?_
        | refine WO_guard_t rfl rfl rfl rfl rfl (by kernel_rfl) (by kernel_rfl) ?_)
    refine Ev_call rfl rfl ((esame_runs hIt.rd hIt.wr ⟨by omega, by omega⟩).mono ?_)
    rintro _ T2 - ⟨rfl, hT2⟩
    rw [hT2, decide_eq_true rfl]
    repeat' (
      first
        | refine WO_dst rfl rfl (by kernel_rfl) (by kernel_rfl) ?_
        | refine WO_no rfl rfl ?_
        | refine WO_guard_t rfl rfl rfl rfl rfl (by kernel_rfl) (by kernel_rfl) ?_
        | refine Ev_pick_f rfl rfl rfl ?_
        | refine Ev_notb rfl ?_
        | refine Ev_nilCheck rfl ?_
        | refine Ev_fieldAddr rfl rfl rfl rfl rfl rfl ?_)
    refine Ev_store rfl rfl rfl rfl rfl hb.at_ (by simp [AV.cells]) (by omega) ?_
    intro U un uq uf
    repeat' (
      first
        | refine WO_nil ?_
        | refine V_seq ?_
        | refine W_region ?_
        | refine V_block ?_
        | refine WO_dst rfl rfl (by kernel_rfl) (by kernel_rfl) ?_
        | refine Ev_move rfl ?_
        | refine Ev_assign rfl ?_
        | refine Ev_addN rfl rfl (by simp only [lim]; omega) ?_)
    refine back (i + 1) U _ (by omega) ⟨hb.same un uq uf, by omega, by omega, fun c hc => by rw [uf c hc, hTf c hc]⟩ ?_
    exact ⟨rfl, rfl, trivial⟩
  · refine V_done rfl rfl ⟨rfl, hb, hTn, hTf⟩
theorem lput_pre {α : Type} : ∀ (a q x r : List α), x.length = q.length → lput (a ++ (q ++ r)) a.length x = a ++ (x ++ r)
  | [], [], [], r, _ => by rw [lput_nil]
  | [], y :: q, z :: x, r, h => by
    have := lput_pre [] q x r (by simpa using h)
    show z :: lput (q ++ r) 0 x = _
    simp only [List.nil_append, List.length_nil] at this
    rw [this]; rfl
  | [], [], _ :: _, r, h => by simp at h
  | [], _ :: _, [], r, h => by simp at h
  | b :: a, q, x, r, h => by
    show b :: lput (a ++ (q ++ r)) a.length x = _
    rw [lput_pre a q x r h]; rfl
theorem pt_of {S : St} {b o ty : Nat} {cs : List AV} {sp : Bool} (h : S.h.get b = some (.cells ty cs sp)) : Pt S (.ptr b o) cs o :=
  .inl ⟨b, 0, ty, cs, sp, by rw [Nat.zero_add], h, by omega, fun i _ => by rw [Nat.zero_add]⟩
/-- marks -/
def mkE (i c : Nat) : List El := (List.range c).map fun (j : Nat) => mk1 i j
theorem mkE_len (i c : Nat) : (mkE i c).length = c := by simp [mkE]
theorem mkE_s (i c : Nat) : mkE i (c + 1) = mkE i c ++ [mk1 i c] := by unfold mkE; rw [List.range_succ, List.map_append]; rfl
theorem mkE_get (i c j : Nat) (h : j < (mkE i c).length) : (mkE i c)[j] = mk1 i j := by
  have h2 : (mkE i c)[j]? = some (mk1 i j) := by
    unfold mkE
    rw [List.getElem?_map, List.getElem?_range (by rw [mkE_len] at h; exact h)]; rfl
  exact Option.some.inj ((List.getElem?_eq_getElem h).symm.trans h2)
/-- the lists ahead of one are full of marks, the others are as they were -/
structure Ap (T : St) (p : Nat) (vl vw : AV) (h : Int) (is : List It) (i : Nat) : Prop where
  ok : Sok T
  at_ : T.h.get p = some (.cells 50 [vl, vw, .int .i64 h, .bool false] false)
  l : Rd T vl 1 (is.map It.v) is.length
  done : ∀ j a b, is[j]? = some a → j < i → 0 < a.c → a.v = .slice b 0 a.cs.length (.ex a.c) → ∃ tl, T.h.get b = some (.cells 5 (cellsE (mkE j a.c) ++ tl) true)
  todo : ∀ j a b, is[j]? = some a → i ≤ j → 0 < a.c → a.v = .slice b 0 a.cs.length (.ex a.c) → T.h.get b = some (.cells 5 (cellsE a.cs ++ a.extra) true)
theorem ItOK.pos {T : St} {i : It} (h : ItOK T i) (hc : 0 < i.c) : ∃ b, i.v = .slice b 0 i.cs.length (.ex i.c) ∧ T.h.get b = some (.cells 5 (cellsE i.cs ++ i.extra) true) ∧ i.cs.length ≤ i.c ∧ i.c ≤ i.cs.length + i.extra.length := by
  rcases h.kind with h | ⟨_, h, _⟩
  · exact h
  · omega
theorem ItOK.at_ {T : St} {i : It} (h : ItOK T i) (hc : 0 < i.c) {b : Nat} (hb : i.v = .slice b 0 i.cs.length (.ex i.c)) : T.h.get b = some (.cells 5 (cellsE i.cs ++ i.extra) true) := by
  obtain ⟨b', h1, h2, _⟩ := h.pos hc
  rw [h1] at hb; cases hb; exact h2
theorem apart_runs {S : St} {p : Nat} {vl vw : AV} {h : Int} {is : List It} (b : Bk S p vl vw h is) (hn : S.n ≤ 900000000) :
    Runs X2 26 [.ptr p 0, .func (.func 27) [] []] S fun r _ => r = .bool true := by
  have hbl : ∀ a ∈ is, ∀ c, blkOf a.v = some c → c ≠ p ∧ blkOf vl ≠ some c := fun a ha c hc => ⟨(b.ip a ha c (.inl hc)).1, (b.ip a ha c (.inl hc)).2.1⟩
  have hfew := b.few
  refine Runs_fn (m := 101) (by kernel_rfl) Tryd.func26 rfl (by kernel_rfl) (by kernel_rfl) ?_
  repeat (
    first
      | refine W_seq ?_
      | refine WO_nil ?_
      | refine V_seq ?_
      | refine W_region ?_
      | refine WO_dst rfl rfl (by kernel_rfl) (by kernel_rfl) ?_
      | refine Ev_move rfl ?_
      | refine Ev_assign rfl ?_)
  refine Ev_call rfl rfl ((stays_runs b hn).mono ?_)
  rintro _ S1 - ⟨rfl, b1, sn1, sf1⟩
  repeat' (
    first
      | refine W_seq ?_
      | refine WO_nil ?_
      | refine V_seq ?_
      | refine W_region ?_
      | refine W_skip ?_
      | refine W_block ?_
      | refine W_cond_f rfl ?_
      | refine WO_dst rfl rfl (by kernel_rfl) (by kernel_rfl) ?_
      | refine Ev_assign rfl ?_
      | refine Ev_notb rfl ?_)
  refine W_inv (fun i : Nat => [(5, .int .i64 ((i : Nat) : Int)), (0, .ptr p 0), (1, .func (.func 27) [] [])]) (fun i T => Ap T p vl vw h is i ∧ i ≤ is.length ∧ T.n = S.n) (fun i => is.length - i) ?_ 0 ⟨⟨b1.ok, b1.at_, b1.l, fun j a _ _ h0 => absurd h0 (Nat.not_lt_zero _), fun j a b2 ha _ hc hv => (b1.it a (List.mem_of_getElem? ha)).at_ hc hv⟩, Nat.zero_le _, sn1⟩ ⟨rfl, rfl, rfl, trivial⟩
  rintro i T ⟨ha, hi, hTn⟩ back
  repeat' (
    first
      | refine W_seq ?_
      | refine WO_nil ?_
      | refine V_seq ?_
      | refine W_region ?_
      | refine W_skip ?_
      | refine W_block ?_
      | refine W_exit ?_
      | refine V_block_x rfl ?_
      | refine V_seq_x ?_
      | refine V_loop_x ?_
      | refine WO_dst rfl rfl (by kernel_rfl) (by kernel_rfl) ?_
      | refine Ev_load rfl rfl rfl ha.at_ rfl ha.l.self ?_
      | refine Ev_len rfl rfl rfl rfl rfl ha.l.len ?_
      | refine Ev_move rfl ?_
      | refine Ev_assign rfl ?_
      | refine Ev_lssN rfl rfl ?_
      | refine Ev_nilCheck rfl ?_
      | refine Ev_fieldAddr rfl rfl rfl rfl rfl rfl ?_
      | (refine W_cond rfl (fun hc => ?_) (fun hc => ?_) <;> (try dsimp only at hc) <;> try (exfalso; first | omega | exact hc rfl)))
  · have hlt : i < is.length := by assumption
    obtain ⟨a, hae⟩ : ∃ a, a = is[i] := ⟨_, rfl⟩
    have hmem : a ∈ is := by rw [hae]; exact List.getElem_mem _
    have hget : is[i]? = some a := by rw [hae]; exact List.getElem?_eq_getElem hlt
    have hio := b.it a hmem
    have hlim := hio.lim
    have hmg := map_get (f := It.v) hlt
    rw [← hae] at hmg
    refine W_drawn (by kernel_rfl) ?_
    repeat (
      first
        | refine WO_dst rfl rfl (by kernel_rfl) (by kernel_rfl) ?_
        | refine Ev_load rfl rfl rfl ha.at_ rfl ha.l.self ?_
        | refine Ev_move rfl ?_
        | refine Ev_nilCheck rfl ?_
        | refine Ev_fieldAddr rfl rfl rfl rfl rfl rfl ?_)
    refine Ev_indexAddr_rd rfl rfl rfl rfl rfl ha.l hlt ?_
    intro q hq
    repeat (
      refine WO_dst rfl rfl (by kernel_rfl) (by kernel_rfl) ?_)
    refine Ev_load_pt rfl rfl rfl hq hmg hio.rd.self ?_
    repeat (
      first
        | refine WO_dst rfl rfl (by kernel_rfl) (by kernel_rfl) ?_
        | refine Ev_load rfl rfl rfl ha.at_ rfl ha.l.self ?_
        | refine Ev_move rfl ?_
        | refine Ev_nilCheck rfl ?_
        | refine Ev_fieldAddr rfl rfl rfl rfl rfl rfl ?_)
    refine Ev_indexAddr_rd rfl rfl rfl rfl rfl ha.l hlt ?_
    intro q2 hq2
    repeat (
      refine WO_dst rfl rfl (by kernel_rfl) (by kernel_rfl) ?_)
    refine Ev_load_pt rfl rfl rfl hq2 hmg hio.rd.self ?_
    repeat (
      refine WO_dst rfl rfl (by kernel_rfl) (by kernel_rfl) ?_)
    refine Ev_cap_it rfl rfl rfl rfl rfl hio ?_
    repeat (
      refine WO_dst rfl rfl (by kernel_rfl) (by kernel_rfl) ?_)
    refine Ev_slice_it rfl rfl rfl rfl rfl hio ?_
    intro v5 hv5 hv5b
    rcases Nat.eq_zero_or_pos a.c with hc0 | hcp
    · rw [hc0] at hv5
      repeat' (
        first
          | refine W_seq ?_
          | refine WO_nil ?_
          | refine V_seq ?_
          | refine W_region ?_
          | refine W_block ?_
          | refine WO_dst rfl rfl (by kernel_rfl) (by kernel_rfl) ?_
          | refine Ev_assign rfl ?_)
      refine W_inv (fun _ : Unit => [(7, .int .i64 0), (6, v5), (5, .int .i64 ((i : Nat) : Int)), (0, .ptr p 0), (1, .func (.func 27) [] [])]) (fun _ U => U = T) (fun _ => 0) ?_ () rfl ⟨rfl, rfl, rfl, rfl, rfl, trivial⟩
      rintro _ U hUT back2
      rw [hUT]
      repeat' (
        first
          | refine W_seq ?_
          | refine WO_nil ?_
          | refine V_seq ?_
          | refine W_region ?_
          | refine W_exit ?_
          | refine V_block ?_
          | refine V_block_x rfl ?_
          | refine V_seq_x ?_
          | refine V_loop_x ?_
          | refine W_cond_f rfl ?_
          | refine WO_dst rfl rfl (by kernel_rfl) (by kernel_rfl) ?_
          | refine Ev_len rfl rfl rfl rfl rfl hv5 ?_
          | refine Ev_move rfl ?_
          | refine Ev_assign rfl ?_
          | refine Ev_lssN rfl rfl ?_
          | refine Ev_addN rfl rfl (by simp only [lim]; omega) ?_)
      refine back (i + 1) T _ (by omega) ⟨⟨ha.ok, ha.at_, ha.l, fun k c b2 hk hki hc hv => ?_, fun k c b2 hk hki hc hv => ha.todo k c b2 hk (by omega) hc hv⟩, by omega, by omega⟩ ⟨rfl, rfl, rfl, trivial⟩
      by_cases hke : k = i
      · subst hke; rw [hget] at hk; cases hk; omega
      · exact ha.done k c b2 hk (by omega) hc hv
    obtain ⟨ab, hav, _, hlen, hlen2⟩ := hio.pos hcp
    have hve := hv5b ab _ hav
    rw [hve]
    have hblk := ha.todo i a ab hget (Nat.le_refl _) hcp hav
    have hbn : ab < T.n := ha.ok _ _ hblk
    repeat' (
      first
        | refine W_seq ?_
        | refine WO_nil ?_
        | refine V_seq ?_
        | refine W_region ?_
        | refine W_block ?_
        | refine WO_dst rfl rfl (by kernel_rfl) (by kernel_rfl) ?_
        | refine Ev_assign rfl ?_)
    refine W_inv (fun x : Nat × List AV => [(7, .int .i64 ((x.1 : Nat) : Int)), (6, .slice ab 0 a.c (.ex a.c)), (5, .int .i64 ((i : Nat) : Int)), (0, .ptr p 0), (1, .func (.func 27) [] [])]) (fun x U => U.n = T.n ∧ x.1 ≤ a.c ∧ U.h.get ab = some (.cells 5 (cellsE (mkE i x.1) ++ x.2) true) ∧ x.1 + x.2.length = a.cs.length + a.extra.length ∧ ∀ d, d ≠ ab → U.h.get d = T.h.get d) (fun x => a.c - x.1) ?_ (0, cellsE a.cs ++ a.extra) ⟨rfl, Nat.zero_le _, hblk, by rw [List.length_append, cellsE_len]; dsimp only; omega, fun _ _ => rfl⟩ ⟨rfl, rfl, rfl, rfl, rfl, trivial⟩
    rintro ⟨j, rest⟩ U ⟨hUn, hj, hUb, hUl, hUf⟩ back2
    dsimp only at hj hUb hUl back2
    repeat' (
      first
        | refine W_seq ?_
        | refine WO_nil ?_
        | refine V_seq ?_
        | refine W_region ?_
        | refine W_skip ?_
        | refine W_block ?_
        | refine W_exit ?_
        | refine V_block ?_
        | refine V_block_x rfl ?_
        | refine V_seq_x ?_
        | refine V_loop_x ?_
        | refine WO_dst rfl rfl (by kernel_rfl) (by kernel_rfl) ?_
        | refine Ev_move rfl ?_
        | refine Ev_assign rfl ?_
        | refine Ev_lssN rfl rfl ?_
        | refine Ev_len rfl rfl rfl rfl rfl rfl ?_
        | refine Ev_addN rfl rfl (by simp only [lim]; omega) ?_
        | (refine W_cond rfl (fun hc => ?_) (fun hc => ?_) <;> (try dsimp only at hc) <;> try (exfalso; first | omega | exact hc rfl)))
    · have hjl : j < a.c := by assumption
      refine Ev_call rfl rfl (mark2 (by omega) (by omega) ?_)
      repeat (
        first
          | refine WO_dst rfl rfl (by kernel_rfl) (by kernel_rfl) ?_
          | refine WO_no rfl rfl ?_
          | refine Ev_indexAddr rfl rfl rfl rfl rfl (by first | omega | (dsimp only; done) | (dsimp only; omega)) ?_)
      have hml : (cellsE (mkE i j)).length = j := by rw [cellsE_len, mkE_len]
      refine Ev_store rfl rfl rfl rfl rfl hUb (by show 0 + j * 1 + 1 ≤ _; rw [List.length_append, hml]; omega) (by omega) ?_
      intro V vn vq vf
      repeat' (
        first
          | refine WO_nil ?_
          | refine V_seq ?_
          | refine W_region ?_
          | refine V_block ?_
          | refine WO_dst rfl rfl (by kernel_rfl) (by kernel_rfl) ?_
          | refine Ev_move rfl ?_
          | refine Ev_assign rfl ?_
          | refine Ev_addN rfl rfl (by simp only [lim]; omega) ?_)
      refine back2 (j + 1, rest.drop 1) V _ (by dsimp only; omega) ⟨by omega, by dsimp only; omega, ?_, by dsimp only; rw [List.length_drop]; omega, fun d hd => by rw [vf d hd, hUf d hd]⟩ ⟨rfl, rfl, rfl, rfl, rfl, trivial⟩
      dsimp only
      rw [vq]
      show some (AB.cells 5 (lput (cellsE (mkE i j) ++ rest) (0 + j * 1) [elV (mk1 i j)]) true) = _
      have e : rest = rest.take 1 ++ rest.drop 1 := (List.take_append_drop 1 rest).symm
      rw [show 0 + j * 1 = (cellsE (mkE i j)).length by rw [hml]; omega]
      conv => lhs; rw [e]
      rw [lput_pre _ _ _ _ (by rw [List.length_take]; show 1 = _; omega), mkE_s, cellsE_app, List.append_assoc]
      simp [cellsE]
    · have hjc : j = a.c := by omega
      subst hjc
      have hUok : Sok U := sok_upd ha.ok hbn hUn hUb hUf
      have habv : blkOf a.v = some ab := by rw [hav]; rfl
      refine back (i + 1) U _ (by omega) ⟨⟨hUok, ?_, ?_, fun k c b2 hk hki hc hv => ?_, fun k c b2 hk hki hc hv => ?_⟩, by omega, by omega⟩ ⟨rfl, rfl, rfl, trivial⟩
      · rw [hUf p (Ne.symm (hbl a hmem ab habv).1)]; exact ha.at_
      · exact ha.l.keep (fun c hc => hUf c (fun e => (hbl a hmem ab habv).2 (by rw [hc, e])))
      · by_cases hke : k = i
        · subst hke; rw [hget] at hk; cases hk; rw [hav] at hv; cases hv; exact ⟨rest, hUb⟩
        · rw [hUf b2 (fun e => b.dis k i c a b2 hk hget hke (by rw [hv]; rfl) (by rw [e]; exact habv))]; exact ha.done k c b2 hk (by omega) hc hv
      · rw [hUf b2 (fun e => b.dis k i c a b2 hk hget (by omega) (by rw [hv]; rfl) (by rw [e]; exact habv))]; exact ha.todo k c b2 hk (by omega) hc hv
  have hin : i = is.length := by omega
  repeat' (
    refine W_seq ?_)
  refine W_inv (fun i : Nat => [(8, .int .i64 ((i : Nat) : Int)), (0, .ptr p 0), (1, .func (.func 27) [] [])]) (fun i U => U = T ∧ i ≤ is.length) (fun i => is.length - i) ?_ 0 ⟨rfl, Nat.zero_le _⟩ ⟨rfl, rfl, rfl, trivial⟩
  rintro m U ⟨hUT, hm⟩ back3
  rw [hUT]
  repeat' (
    first
      | refine W_seq ?_
      | refine WO_nil ?_
      | refine V_seq ?_
      | refine W_region ?_
      | refine W_skip ?_
      | refine W_block ?_
      | refine W_exit ?_
      | refine V_block_x rfl ?_
      | refine V_seq_x ?_
      | refine V_loop_x ?_
      | refine WO_dst rfl rfl (by kernel_rfl) (by kernel_rfl) ?_
      | refine WO_no rfl rfl ?_
      | refine Ev_load rfl rfl rfl ha.at_ rfl ha.l.self ?_
      | refine Ev_len rfl rfl rfl rfl rfl ha.l.len ?_
      | refine Ev_move rfl ?_
      | refine Ev_lssN rfl rfl ?_
      | refine Ev_nilCheck rfl ?_
      | refine Ev_fieldAddr rfl rfl rfl rfl rfl rfl ?_
      | (refine W_cond rfl (fun hc => ?_) (fun hc => ?_) <;> (try dsimp only at hc) <;> try (exfalso; first | omega | exact hc rfl)))
  · have hlt : m < is.length := by assumption
    obtain ⟨a, hae⟩ : ∃ a, a = is[m] := ⟨_, rfl⟩
    have hmem : a ∈ is := by rw [hae]; exact List.getElem_mem _
    have hget : is[m]? = some a := by rw [hae]; exact List.getElem?_eq_getElem hlt
    have hio := b.it a hmem
    have hlim := hio.lim
    have hmg := map_get (f := It.v) hlt
    rw [← hae] at hmg
    refine W_drawn (by kernel_rfl) ?_
    repeat (
      first
        | refine WO_dst rfl rfl (by kernel_rfl) (by kernel_rfl) ?_
        | refine Ev_load rfl rfl rfl ha.at_ rfl ha.l.self ?_
        | refine Ev_move rfl ?_
        | refine Ev_nilCheck rfl ?_
        | refine Ev_fieldAddr rfl rfl rfl rfl rfl rfl ?_)
    refine Ev_indexAddr_rd rfl rfl rfl rfl rfl ha.l hlt ?_
    intro q hq
    repeat (
      refine WO_dst rfl rfl (by kernel_rfl) (by kernel_rfl) ?_)
    refine Ev_load_pt rfl rfl rfl hq hmg hio.rd.self ?_
    repeat (
      first
        | refine WO_dst rfl rfl (by kernel_rfl) (by kernel_rfl) ?_
        | refine Ev_load rfl rfl rfl ha.at_ rfl ha.l.self ?_
        | refine Ev_move rfl ?_
        | refine Ev_nilCheck rfl ?_
        | refine Ev_fieldAddr rfl rfl rfl rfl rfl rfl ?_)
    refine Ev_indexAddr_rd rfl rfl rfl rfl rfl ha.l hlt ?_
    intro q2 hq2
    repeat (
      refine WO_dst rfl rfl (by kernel_rfl) (by kernel_rfl) ?_)
    refine Ev_load_pt rfl rfl rfl hq2 hmg hio.rd.self ?_
    repeat (
      refine WO_dst rfl rfl (by kernel_rfl) (by kernel_rfl) ?_)
    refine Ev_cap_it rfl rfl rfl rfl rfl hio ?_
    repeat (
      refine WO_dst rfl rfl (by kernel_rfl) (by kernel_rfl) ?_)
    refine Ev_slice_it rfl rfl rfl rfl rfl hio ?_
    intro v9 hv9 hv9b
    rcases Nat.eq_zero_or_pos a.c with hc0 | hcp
    · rw [hc0] at hv9
      repeat' (
        first
          | refine W_seq ?_
          | refine WO_nil ?_
          | refine V_seq ?_
          | refine W_region ?_
          | refine W_block ?_
          | refine WO_dst rfl rfl (by kernel_rfl) (by kernel_rfl) ?_
          | refine Ev_assign rfl ?_)
      refine W_inv (fun _ : Unit => [(10, .int .i64 0), (9, v9), (8, .int .i64 ((m : Nat) : Int)), (0, .ptr p 0), (1, .func (.func 27) [] [])]) (fun _ U => U = T) (fun _ => 0) ?_ () rfl ⟨rfl, rfl, rfl, rfl, rfl, trivial⟩
      rintro _ U hUT2 back4
      rw [hUT2]
      repeat' (
        first
          | refine W_seq ?_
          | refine WO_nil ?_
          | refine V_seq ?_
          | refine W_region ?_
          | refine W_exit ?_
          | refine V_block ?_
          | refine V_block_x rfl ?_
          | refine V_seq_x ?_
          | refine V_loop_x ?_
          | refine W_cond_f rfl ?_
          | refine WO_dst rfl rfl (by kernel_rfl) (by kernel_rfl) ?_
          | refine Ev_len rfl rfl rfl rfl rfl hv9 ?_
          | refine Ev_move rfl ?_
          | refine Ev_assign rfl ?_
          | refine Ev_lssN rfl rfl ?_
          | refine Ev_addN rfl rfl (by simp only [lim]; omega) ?_)
      exact back3 (m + 1) T _ (by omega) ⟨rfl, by omega⟩ ⟨rfl, rfl, rfl, trivial⟩
    obtain ⟨ab, hav, _, hlen, hlen2⟩ := hio.pos hcp
    have hve := hv9b ab _ hav
    rw [hve]
    obtain ⟨tl, hblk⟩ := ha.done m a ab hget (by omega) hcp hav
    repeat' (
      first
        | refine W_seq ?_
        | refine WO_nil ?_
        | refine V_seq ?_
        | refine W_region ?_
        | refine W_block ?_
        | refine WO_dst rfl rfl (by kernel_rfl) (by kernel_rfl) ?_
        | refine Ev_assign rfl ?_)
    refine W_inv (fun j : Nat => [(10, .int .i64 ((j : Nat) : Int)), (9, .slice ab 0 a.c (.ex a.c)), (8, .int .i64 ((m : Nat) : Int)), (0, .ptr p 0), (1, .func (.func 27) [] [])]) (fun j U => U = T ∧ j ≤ a.c) (fun j => a.c - j) ?_ 0 ⟨rfl, Nat.zero_le _⟩ ⟨rfl, rfl, rfl, rfl, rfl, trivial⟩
    rintro j U ⟨hUT2, hj⟩ back4
    rw [hUT2]
    repeat' (
      first
        | refine W_seq ?_
        | refine WO_nil ?_
        | refine V_seq ?_
        | refine W_region ?_
        | refine W_skip ?_
        | refine W_block ?_
        | refine W_exit ?_
        | refine V_block ?_
        | refine V_block_x rfl ?_
        | refine V_seq_x ?_
        | refine V_loop_x ?_
        | refine WO_dst rfl rfl (by kernel_rfl) (by kernel_rfl) ?_
        | refine Ev_move rfl ?_
        | refine Ev_assign rfl ?_
        | refine Ev_lssN rfl rfl ?_
        | refine Ev_len rfl rfl rfl rfl rfl rfl ?_
        | refine Ev_addN rfl rfl (by simp only [lim]; omega) ?_
        | (refine W_cond rfl (fun hc => ?_) (fun hc => ?_) <;> (try dsimp only at hc) <;> try (exfalso; first | omega | exact hc rfl)))
    · have hjl : j < a.c := by assumption
      have hjl2 : j < (mkE m a.c).length := by rw [mkE_len]; exact hjl
      have hcg := cellsE_get hjl2
      rw [mkE_get] at hcg
      have hcg2 : (cellsE (mkE m a.c) ++ tl)[j * 1]? = some (elV (mk1 m j)) := by rw [List.getElem?_append_left (by rw [cellsE_len, mkE_len]; omega)]; exact hcg
      have hD : ∀ f ∈ [(⟨ab, .cells 5 (cellsE (mkE m a.c) ++ tl) true, none⟩ : Fct)], T.h.get f.id = some f.x := by
        intro f hf; rw [List.mem_singleton] at hf; subst hf; exact hblk
      refine W_drawnF [⟨ab, .cells 5 (cellsE (mkE m a.c) ++ tl) true, none⟩] ?_ (by kernel_rfl) ?_
      · intro f hf; rw [List.mem_singleton] at hf; subst hf; exact ⟨rfl, ha.ok _ _ hblk, hblk⟩
      repeat (
        first
          | refine WF_pa rfl rfl (by kernel_rfl) (by kernel_rfl) rfl ?_
          | refine Ev_move rfl ?_
          | refine Ev_indexAddr rfl rfl rfl rfl rfl (by first | omega | (dsimp only; done) | (dsimp only; omega)) ?_)
      refine WF_rf rfl rfl (by kernel_rfl) (by kernel_rfl) hD (FPD_load (p := .ptr ab (0 + j * 1)) (v := elV (mk1 m j)) rfl rfl rfl (pt_of hblk) (by rw [Nat.zero_add]; exact hcg2) (fun b hb => by cases hb; exact ⟨_, List.mem_cons_self .., rfl, hblk, fun j hj => by cases hj⟩)) (elV_veq _) ?_
      repeat (
        first
          | refine WF_pa rfl rfl (by kernel_rfl) (by kernel_rfl) rfl ?_
          | refine Ev_move rfl ?_)
      refine WF_ld rfl rfl (by kernel_rfl) (by kernel_rfl) (fun _ _ => rfl) ?_
      refine Ev_call rfl rfl (mark2 (by omega) (by omega) ?_)
      refine ⟨hD, [], by simp, ?_⟩
      repeat (
        first
          | refine WF_nil ?_
          | refine WF_pa rfl rfl (by kernel_rfl) (by kernel_rfl) rfl ?_
          | refine V_seq ?_
          | refine Ev_ene rfl rfl ?_)
      rw [decide_eq_false (fun h => h rfl)]
      repeat' (
        first
          | refine WO_nil ?_
          | refine V_seq ?_
          | refine W_region ?_
          | refine W_skip ?_
          | refine V_block ?_
          | refine W_cond_f rfl ?_
          | refine WO_dst rfl rfl (by kernel_rfl) (by kernel_rfl) ?_
          | refine Ev_move rfl ?_
          | refine Ev_assign rfl ?_
          | refine Ev_addN rfl rfl (by simp only [lim]; omega) ?_)
      exact back4 (j + 1) T _ (by omega) ⟨rfl, by omega⟩ ⟨rfl, rfl, rfl, rfl, rfl, trivial⟩
    · exact back3 (m + 1) T _ (by omega) ⟨rfl, by omega⟩ ⟨rfl, rfl, rfl, trivial⟩
  have hpn := ha.ok _ _ ha.at_
  refine Ev_store rfl rfl rfl rfl rfl ha.at_ (by simp [AV.cells]) (by omega) ?_
  intro U1 un1 uq1 uf1
  repeat (
    first
      | refine W_seq ?_
      | refine WO_nil ?_
      | refine V_seq ?_
      | refine W_region ?_
      | refine WO_dst rfl rfl (by kernel_rfl) (by kernel_rfl) ?_
      | refine WO_no rfl rfl ?_
      | refine Ev_move rfl ?_
      | refine Ev_nilCheck rfl ?_
      | refine Ev_fieldAddr rfl rfl rfl rfl rfl rfl ?_)
  refine Ev_store rfl rfl rfl rfl rfl uq1 (by simp [AV.cells, lput]) (by omega) ?_
  intro U2 un2 uq2 uf2
  repeat (
    first
      | refine W_seq ?_
      | refine WO_nil ?_
      | refine V_seq ?_
      | refine W_region ?_
      | refine WO_dst rfl rfl (by kernel_rfl) (by kernel_rfl) ?_
      | refine WO_no rfl rfl ?_
      | refine Ev_move rfl ?_
      | refine Ev_nilCheck rfl ?_
      | refine Ev_fieldAddr rfl rfl rfl rfl rfl rfl ?_)
  refine Ev_store rfl rfl rfl rfl rfl uq2 (by simp [AV.cells, lput]) (by omega) ?_
  intro U3 un3 uq3 uf3
  repeat (
    first
      | refine W_seq ?_
      | refine WO_nil ?_
      | refine V_seq ?_
      | refine W_region ?_
      | refine W_ret ?_
      | refine WO_dst rfl rfl (by kernel_rfl) (by kernel_rfl) ?_
      | refine Ev_assign rfl ?_)
  refine V_done rfl rfl ?_
  rfl
end Go.Proofs.YtnlfcoojlgdgaaaDoor
/- GX: a region that draws its order, where reads look at blocks that later loud operations leave alone until one behind which no such read can come. -/

namespace GX
open Go
/-- all operations from one on are behind this one -/
def ZB (ops : List Oper) (z i : Nat) : Bool := (List.range ops.length).all fun j => Nat.blt j z || inM (masks ops []) j i
/-- .. until an operation from which on the blocks are known no more: all from there on are behind each such read -/
def RunZ (X : X) (rec : Rec) (n : Nat) (all : List Oper) (z : Nat) : List Fct → List Oper → Nat → Env → St → Env → St → Prop
  | _, [], _, e, S, e', S' => e' = e ∧ S' = S
  | D, o :: os, i, e, S, e', S' =>
    (wanted all e o = true ∧ ∃ v S1 e1 N, oper X rec e S o.op = some (v, S1) ∧ setDst n e o.dst v = some e1 ∧ rdv (cls X e o.op) v = true ∧
      (cls X e o.op = .read → rdStat (masks all []) (all.map (fun o => sk X o.op)) i = true ∨ ZB all z i = true ∧ FPD X D (masks all []) i e o.op v) ∧
      (isLC (cls X e o.op) = true → i < z → ∀ f ∈ D, S1.h.get f.id = some f.x) ∧
      (∀ f ∈ N, f.src = some i ∧ f.id < S1.n ∧ S1.h.get f.id = some f.x ∧ (isLC (cls X e o.op) = true ∨ cls X e o.op = .alloc ∧ f.id = S.n)) ∧ RunZ X rec n all z (D ++ N) os (i + 1) e1 S1 e' S') ∨
    (wanted all e o = false ∧ ∃ e1, setDst n e o.dst (.tup []) = some e1 ∧ RunZ X rec n all z D os (i + 1) e1 S e' S')
theorem RunZ_le {X : X} {rec rec' : Rec} (hr : RecLe rec rec') {n : Nat} {all : List Oper} {z : Nat} : ∀ {D : List Fct} {os : List Oper} {i : Nat} {e : Env} {S : St} {e' S'}, RunZ X rec n all z D os i e S e' S' → RunZ X rec' n all z D os i e S e' S'
  | _, [], _, _, _, _, _, h => h
  | _, o :: os, i, e, S, e', S', h => by
    unfold RunZ at h ⊢
    rcases h with ⟨hw, v, S1, e1, N, h1, h2, h3, h4, h5, h6, h7⟩ | ⟨hw, e1, h1, h2⟩
    · exact .inl ⟨hw, v, S1, e1, N, oper_le hr h1, h2, h3, h4, h5, h6, RunZ_le hr h7⟩
    · exact .inr ⟨hw, e1, h1, RunZ_le hr h2⟩
theorem RunZ_n {X : X} {rec : Rec} {n : Nat} {all : List Oper} {z : Nat} : ∀ {D : List Fct} {os : List Oper} {i : Nat} {e : Env} {S : St} {e' S'}, RunZ X rec n all z D os i e S e' S' → S.n ≤ S'.n
  | _, [], _, _, _, _, _, h => by unfold RunZ at h; rw [h.2]; exact Nat.le_refl _
  | _, o :: os, i, e, S, e', S', h => by
    unfold RunZ at h
    rcases h with ⟨_, v, S1, e1, N, h1, _, _, _, _, _, h6⟩ | ⟨_, e1, _, h2⟩
    · exact Nat.le_trans (oper_n h1) (RunZ_n h6)
    · exact RunZ_n h2
/-- a fact, and what the plan has put down -/
def FZ (ms : List Nat) (z : Nat) (N0 : Nat) (h0 : Tr AB) (acc : List R) (f : Fct) : Prop :=
  (f.src = none ∧ f.id < N0 ∧ h0.get f.id = some f.x ∧ ∀ (k : Nat) (r : R) h' m, acc[k]? = some r → r.k = .ld h' m → k < z → h'.get f.id = some f.x) ∨
  ∃ j r, f.src = some j ∧ acc[j]? = some r ∧ ((r.k = .mk f.x ∧ r.n0 = f.id) ∨ (∃ h' m, r.k = .ld h' m ∧ h'.get f.id = some f.x ∧ f.id < m ∧ ∀ (k : Nat) (r : R) b, acc[k]? = some r → r.k = .mk b → k < j → inM ms j k = true)) ∧
    ∀ (k : Nat) (r : R) h' m, acc[k]? = some r → r.k = .ld h' m → j < k → k < z → h'.get f.id = some f.x
theorem FZ_snoc {ms : List Nat} {z : Nat} {N0 : Nat} {h0 : Tr AB} {acc : List R} {f : Fct} {r : R} (h : FZ ms z N0 h0 acc f) (hr : ∀ h' m, r.k = .ld h' m → acc.length < z → h'.get f.id = some f.x) : FZ ms z N0 h0 (acc ++ [r]) f := by
  have key : ∀ (k : Nat) (r' : R), (acc ++ [r])[k]? = some r' → acc[k]? = some r' ∨ (k = acc.length ∧ r' = r) := by
    intro k r' hk
    by_cases hlt : k < acc.length
    · rw [List.getElem?_append_left hlt] at hk; exact .inl hk
    · have h2 : k = acc.length := by
        have := (List.getElem?_eq_some_iff.1 hk).1
        simp at this; omega
      subst h2
      simp at hk; exact .inr ⟨rfl, hk.symm⟩
  rcases h with ⟨h1, h2, h3, h4⟩ | ⟨j, r0, h1, h2, h3, h4⟩
  · refine .inl ⟨h1, h2, h3, fun k r' h' m hk hl hz => ?_⟩
    rcases key k r' hk with hk | ⟨hkk, rfl⟩
    · exact h4 k r' h' m hk hl hz
    · exact hr h' m hl (hkk ▸ hz)
  · have hj : j < acc.length := (List.getElem?_eq_some_iff.1 h2).1
    refine .inr ⟨j, r0, h1, by rw [List.getElem?_append_left hj]; exact h2, ?_, ?_⟩
    · rcases h3 with h3 | ⟨h', m, a1, a2, a3, a4⟩
      · exact .inl h3
      · refine .inr ⟨h', m, a1, a2, a3, ?_⟩
        intro k r' b hk hb hlt
        rcases key k r' hk with hk | ⟨hk, _⟩
        · exact a4 k r' b hk hb hlt
        · omega
    · intro k r' h' m hk hl hlt hz
      rcases key k r' hk with hk | ⟨hkk, rfl⟩
      · exact h4 k r' h' m hk hl hlt hz
      · exact hr h' m hl (hkk ▸ hz)
theorem FZ_get {ms : List Nat} {z : Nat} {N0 i : Nat} {h0 : Tr AB} {recs : List R} {f : Fct} {pf : List Nat} (hz : ∀ j ∈ pf, j < z) (hbd : ∀ (k : Nat) (r : R) b, recs[k]? = some r → r.k = .mk b → N0 ≤ r.n0 ∧ r.n0 < 1000000000)
    (hmono : ∀ (q q' : Nat) (r r' : R), q < q' → recs[q]? = some r → recs[q']? = some r' → r.n1 ≤ r'.n0) (hpf : pf.Pairwise (· < ·)) (hld : ∀ j ∈ pf, ∃ r, recs[j]? = some r ∧ r.isL) (hlt : ∀ j k, inM ms j k = true → k < j)
    (h : FZ ms z N0 h0 recs f) (hu : ∀ j, f.src = some j → inM ms i j = true ∧ ((∃ r, recs[j]? = some r ∧ r.isL) → j ∈ pf)) : (gh ms pf (inM ms i) recs 0 (hOf recs h0 pf)).get f.id = some f.x := by
  have hbd' := fun k r b h1 h2 => (hbd k r b h1 h2).2
  rcases h with ⟨_, h2, h3, h4⟩ | ⟨j, r, h1, h2, h3, h4⟩
  · rw [gh_miss hbd' (fun k r b a1 a2 _ _ => by have := (hbd k r b a1 a2).1; omega)]
    refine hOf_has (a := 0) hpf (fun k hk => ?_) (.inl ⟨h3, fun _ _ => Nat.zero_le _⟩)
    obtain ⟨r, b1, h', m, b2⟩ := hld k hk
    exact ⟨r, h', m, b1, b2, fun _ => h4 k r h' m b1 b2 (hz k hk)⟩
  · obtain ⟨u1, u2⟩ := hu j h1
    rcases h3 with ⟨g1, g2⟩ | ⟨h', m, g1, g2, g3, g4⟩
    · by_cases hun : Unm ms pf j
      · rw [← g2]
        exact gh_hit hbd' hmono h2 g1 (by rw [Nat.zero_add]; exact u1) (by rw [Nat.zero_add]; exact hun)
      · have huni : ∀ (k : Nat) (r' : R) b, recs[k]? = some r' → r'.k = .mk b → r'.n0 = f.id → k = j := by
          intro k r' b a1 a2 a3
          rcases Nat.lt_trichotomy k j with hk | hk | hk
          · have := hmono k j r' r hk a1 h2
            simp [R.n1, a2] at this; omega
          · exact hk
          · have := hmono j k r r' hk h2 a1
            simp [R.n1, g1] at this; omega
        rw [gh_miss hbd' (fun k r' b a1 a2 _ a4 a5 => by
          have := huni k r' b a1 a2 a5; subst this
          rw [Nat.zero_add] at a4; exact hun a4)]
        have hex : ∃ q ∈ pf, j + 1 ≤ q := by
          refine Classical.byContradiction fun hne => hun fun q hq => ?_
          cases hqq : inM ms q j with
          | false => rfl
          | true => exact absurd ⟨q, hq, hlt q j hqq⟩ hne
        refine hOf_has (a := j + 1) hpf (fun k hk => ?_) (.inr hex)
        obtain ⟨r', b1, h', m, b2⟩ := hld k hk
        exact ⟨r', h', m, b1, b2, fun hl => h4 k r' h' m b1 b2 hl (hz k hk)⟩
    · have hjp := u2 ⟨r, h2, h', m, g1⟩
      rw [gh_miss hbd' (fun k r' b a1 a2 _ a4 a5 => by
        rcases Nat.lt_trichotomy k j with hk | hk | hk
        · have e1 := g4 k r' b a1 a2 hk
          rw [Nat.zero_add] at a4
          have e2 := a4 j hjp
          rw [e1] at e2; cases e2
        · subst hk; rw [h2] at a1; cases a1; rw [g1] at a2; cases a2
        · have := hmono j k r r' hk h2 a1
          simp [R.n1, g1] at this; omega)]
      refine hOf_has (a := j) hpf (fun k hk => ?_) (.inr ⟨j, hjp, Nat.le_refl _⟩)
      obtain ⟨r', b1, h'', m', b2⟩ := hld k hk
      refine ⟨r', h'', m', b1, b2, fun hl => ?_⟩
      rcases Nat.lt_or_ge j k with hk2 | hk2
      · exact h4 k r' h'' m' b1 b2 hk2 (hz k hk)
      · have : k = j := by omega
        subst this
        rw [h2] at b1; cases b1; rw [g1] at b2; cases b2; exact g2
section
variable {X : X} {rec : Rec} {n : Nat} {ops : List Oper} {e : Env} {h0 : Tr AB}
def RFZ (X : _root_.GX.X) (n : Nat) (ops : List Oper) (z : Nat) (N0 : Nat) (e : Env) (h0 : Tr AB) (recs : List R) (lds : List Nat) (i : Nat) (o : Oper) (r : R) : Prop :=
  r.k = .rd → ∃ l1 l2 ei, lds = l1 ++ l2 ∧ (∀ j ∈ l1, j < i) ∧ (∀ j ∈ l2, i < j) ∧ (∀ t ∈ looks ops o, lookT (masks ops []) ops (recs.take i) e i t = some (ei.at t)) ∧ (∀ t ∈ looks ops o, t < n) ∧
    sk X o.op = .read ∧ veq r.v r.v = true ∧ ((rdStat (masks ops []) (ops.map (fun o => sk X o.op)) i = true ∧ readOp X ei (gh (masks ops []) l1 (fun _ => true) (recs.take i) 0 (hOf (recs.take i) h0 l1)) o.op = some r.v) ∨ ∃ D, ZB ops z i = true ∧ FPD X D (masks ops []) i ei o.op r.v ∧ ∀ f ∈ D, FZ (masks ops []) z N0 h0 recs f)
theorem plan_seqZ {z N0 : Nat} (hn : n < 1000001) (hE : edgesOk ops 0 = true) (hD : dstsOk n ops = true) (hK : seqB1 ops (masks ops []) (ops.map (fun o => sk X o.op)) n ops 0 = true) :
    ∀ (D : List Fct) (os pre : List Oper) (acc : List R) (lds : List Nat) (S : St) (ei : Env) (e' : Env) (S' : St), ops = pre ++ os → acc.length = pre.length → putAll n pre acc e = some ei →
    (∀ (k : Nat) (r : R) b, acc[k]? = some r → r.k = .mk b → (ops.map (fun o => sk X o.op)).getD k .pure = .alloc ∧ N0 ≤ r.n0 ∧ r.n0 < 1000000000) →
    (∀ f ∈ D, FZ (masks ops []) z N0 h0 acc f) →
    (∀ (k : Nat) (r : R), acc[k]? = some r → r.isL → k ∈ lds) → (∀ (q q' : Nat) (r r' : R), q < q' → acc[q]? = some r → acc[q']? = some r' → r.n1 ≤ r'.n0) → (∀ (q : Nat) (r : R), acc[q]? = some r → r.n1 ≤ S.n) →
    N0 ≤ S.n →
    (∀ j ∈ lds, j < pre.length ∧ isLC ((ops.map (fun o => sk X o.op)).getD j .pure) = true ∧ ∃ r, acc[j]? = some r ∧ r.isL) →
    lds.Pairwise (· < ·) →
    S.h = gh (masks ops []) lds (fun _ => true) acc 0 (hOf acc h0 lds) →
    RunZ X rec n ops z D os pre.length ei S e' S' →
    ∃ tl l2, plan X rec n ops (masks ops []) e os pre.length acc lds (hOf acc h0 lds) S.n = some (acc ++ tl, lds ++ l2, S'.n) ∧
      (∀ j ∈ l2, pre.length ≤ j ∧ isLC ((ops.map (fun o => sk X o.op)).getD j .pure) = true) ∧ putAll n ops (acc ++ tl) e = some e' ∧
      S'.h = gh (masks ops []) (lds ++ l2) (fun _ => true) (acc ++ tl) 0 (hOf (acc ++ tl) h0 (lds ++ l2)) ∧ tl.length = os.length ∧ (lds ++ l2).Pairwise (· < ·) ∧ (∀ (k : Nat) (r : R) b, (acc ++ tl)[k]? = some r → r.k = .mk b → (ops.map (fun o => sk X o.op)).getD k .pure = .alloc ∧ N0 ≤ r.n0 ∧ r.n0 < 1000000000) ∧ (∀ f ∈ D, FZ (masks ops []) z N0 h0 (acc ++ tl) f) ∧ (∀ (k : Nat) (r : R), (acc ++ tl)[k]? = some r → r.isL → k ∈ lds ++ l2) ∧ (∀ (q q' : Nat) (r r' : R), q < q' → (acc ++ tl)[q]? = some r → (acc ++ tl)[q']? = some r' → r.n1 ≤ r'.n0) ∧ (∀ j ∈ lds ++ l2, ∃ r, (acc ++ tl)[j]? = some r ∧ r.isL) ∧
      ∀ (k : Nat) (o : Oper) (r : R), os[k]? = some o → tl[k]? = some r → RFZ X n ops z N0 e h0 (acc ++ tl) (lds ++ l2) (pre.length + k) o r
  | D, [], pre, acc, lds, S, ei, e', S', hp, hl, hput, hmk, hF, hal, hmo, _, _, hld, hpw, hh, h => by
    unfold RunZ at h
    obtain ⟨rfl, rfl⟩ := h
    refine ⟨[], [], ?_, fun j hj => by simp at hj, ?_, ?_, rfl, by simpa using hpw, by simpa using hmk, by simpa using hF, by simpa using hal, by simpa using hmo, fun j hj => by simpa using (hld j (by simpa using hj)).2.2, fun k o r hk => by simp at hk⟩
    · simp [plan]
    · simp only [List.append_nil] at hp ⊢; rw [hp]; exact hput
    · simpa using hh
  | D, o :: os, pre, acc, lds, S, ei, e', S', hp, hl, hput, hmk, hF, hal, hmo, hmn, hN, hld, hpw, hh, h => by
    have ho : ops[pre.length]? = some o := by rw [hp]; simp
    have hsk : (ops.map (fun o => sk X o.op)).getD pre.length .pure = sk X o.op := by
      rw [List.getD_eq_getElem?_getD, List.getElem?_map, ho]; rfl
    obtain ⟨hk1, hk2⟩ := seqB1_at hK pre.length o ho
    simp only [Nat.zero_add] at hk1 hk2
    rw [hsk] at hk2
    have hlk := looks_seq hn hE hD hp hl hput hk1
    obtain ⟨re, hre, hag⟩ := renv_good (es := ei) hn hlk
    have hoe : OE re ei o.op := OE_of hag
    have hp' : ops = (pre ++ [o]) ++ os := by rw [hp]; simp
    -- what goes on behind
    have fin : ∀ (r : R) (ldn : List Nat) (S1 : St) (e1 : Env) (N : List Fct), setDst n ei o.dst r.v = some e1 → (∀ b, r.k = .mk b → sk X o.op = .alloc ∧ N0 ≤ r.n0 ∧ r.n0 < 1000000000) → (∀ h' m, r.k = .ld h' m → pre.length < z → ∀ f ∈ D, h'.get f.id = some f.x) → (∀ f ∈ N, FZ (masks ops []) z N0 h0 (acc ++ [r]) f) → r.n0 = S.n → r.n1 = S1.n → S.n ≤ S1.n → N0 ≤ S1.n → (ldn = [] ∧ ¬ r.isL ∨ ldn = [pre.length] ∧ isLC (sk X o.op) = true ∧ r.isL) →
        S1.h = gh (masks ops []) (lds ++ ldn) (fun _ => true) (acc ++ [r]) 0 (hOf (acc ++ [r]) h0 (lds ++ ldn)) →
        (r.k = .rd → ldn = [] ∧ sk X o.op = .read ∧ veq r.v r.v = true ∧ ((rdStat (masks ops []) (ops.map (fun o => sk X o.op)) pre.length = true ∧ readOp X ei S.h o.op = some r.v) ∨ ZB ops z pre.length = true ∧ FPD X D (masks ops []) pre.length ei o.op r.v)) →
        RunZ X rec n ops z (D ++ N) os (pre.length + 1) e1 S1 e' S' →
        plan X rec n ops (masks ops []) e (o :: os) pre.length acc lds (hOf acc h0 lds) S.n = plan X rec n ops (masks ops []) e os (pre.length + 1) (acc ++ [r]) (lds ++ ldn) (hOf (acc ++ [r]) h0 (lds ++ ldn)) S1.n →
        ∃ tl l2, plan X rec n ops (masks ops []) e (o :: os) pre.length acc lds (hOf acc h0 lds) S.n = some (acc ++ tl, lds ++ l2, S'.n) ∧
          (∀ j ∈ l2, pre.length ≤ j ∧ isLC ((ops.map (fun o => sk X o.op)).getD j .pure) = true) ∧ putAll n ops (acc ++ tl) e = some e' ∧
          S'.h = gh (masks ops []) (lds ++ l2) (fun _ => true) (acc ++ tl) 0 (hOf (acc ++ tl) h0 (lds ++ l2)) ∧ tl.length = (o :: os).length ∧ (lds ++ l2).Pairwise (· < ·) ∧ (∀ (k : Nat) (r : R) b, (acc ++ tl)[k]? = some r → r.k = .mk b → (ops.map (fun o => sk X o.op)).getD k .pure = .alloc ∧ N0 ≤ r.n0 ∧ r.n0 < 1000000000) ∧ (∀ f ∈ D, FZ (masks ops []) z N0 h0 (acc ++ tl) f) ∧ (∀ (k : Nat) (r : R), (acc ++ tl)[k]? = some r → r.isL → k ∈ lds ++ l2) ∧ (∀ (q q' : Nat) (r r' : R), q < q' → (acc ++ tl)[q]? = some r → (acc ++ tl)[q']? = some r' → r.n1 ≤ r'.n0) ∧ (∀ j ∈ lds ++ l2, ∃ r, (acc ++ tl)[j]? = some r ∧ r.isL) ∧
          ∀ (k : Nat) (o' : Oper) (r : R), (o :: os)[k]? = some o' → tl[k]? = some r → RFZ X n ops z N0 e h0 (acc ++ tl) (lds ++ l2) (pre.length + k) o' r := by
      intro r ldn S1 e1 N hset hmk1 hlb1 hNf hr0 hr1 hnS1 hN1 hldn hh1 hrd hrun hplan
      have hlast : ∀ (k : Nat) (r' : R), (acc ++ [r])[k]? = some r' → acc[k]? = some r' ∨ (k = acc.length ∧ r' = r) := by
        intro k r' hk
        by_cases hlt : k < acc.length
        · rw [List.getElem?_append_left hlt] at hk; exact .inl hk
        · have h2 : k = acc.length := by
            have := (List.getElem?_eq_some_iff.1 hk).1
            simp at this; omega
          subst h2
          simp at hk; exact .inr ⟨rfl, hk.symm⟩
      obtain ⟨tl, l2, p1, p2, p3, p4, p5, ppw, pmk, pF, pal, pmo, pld, p6⟩ := plan_seqZ hn hE hD hK (D ++ N) os (pre ++ [o]) (acc ++ [r]) (lds ++ ldn) S1 e1 e' S' hp' (by simp [hl]) (putAll_snoc hput hset)
        (by
          intro k r' b hk hb
          by_cases hlt : k < acc.length
          · rw [List.getElem?_append_left hlt] at hk; exact hmk k r' b hk hb
          · have : k = acc.length := by
              have := (List.getElem?_eq_some_iff.1 hk).1
              simp at this; omega
            subst this
            simp at hk; subst hk
            rw [hl, hsk]; exact hmk1 b hb)
        (by
          intro f hf
          rcases List.mem_append.1 hf with hf | hf
          · exact FZ_snoc (hF f hf) (fun h' m hk hz => hlb1 h' m hk (hl ▸ hz) f hf)
          · exact hNf f hf)
        (by
          intro k r' hk hkl
          rcases hlast k r' hk with hk | ⟨rfl, rfl⟩
          · exact List.mem_append_left _ (hal k r' hk hkl)
          · rcases hldn with ⟨_, hq⟩ | ⟨hq, _⟩
            · exact absurd hkl hq
            · rw [hq, hl]; simp)
        (by
          intro q q' r1 r2 hlt h1 h2
          rcases hlast q' r2 h2 with h2 | ⟨rfl, rfl⟩
          · have hlt2 := (List.getElem?_eq_some_iff.1 h2).1
            rcases hlast q r1 h1 with h1 | ⟨rfl, rfl⟩
            · exact hmo q q' r1 r2 hlt h1 h2
            · omega
          · rcases hlast q r1 h1 with h1 | ⟨rfl, rfl⟩
            · rw [hr0]; exact hmn q r1 h1
            · omega)
        (by
          intro q r1 h1
          rcases hlast q r1 h1 with h1 | ⟨rfl, rfl⟩
          · have h2 := hmn q r1 h1
            have h3 : r.n0 ≤ r.n1 := by
              rw [hr1, hr0]; exact hnS1
            omega
          · omega)
        hN1
        (by
          intro j hj
          rw [List.mem_append] at hj
          rcases hj with hj | hj
          · obtain ⟨g1, g2, r', g3, g4⟩ := hld j hj; exact ⟨by simp; omega, g2, r', by rw [List.getElem?_append_left (List.getElem?_eq_some_iff.1 g3).1]; exact g3, g4⟩
          · rcases hldn with ⟨hq, _⟩ | ⟨hq, hq2, hq3⟩
            · rw [hq] at hj; simp at hj
            · rw [hq] at hj; simp at hj; subst hj; exact ⟨by simp, by rw [hsk]; exact hq2, r, by rw [← hl]; simp, hq3⟩)
        (by
          rw [List.pairwise_append]
          refine ⟨hpw, ?_, fun a ha b hb => ?_⟩
          · rcases hldn with ⟨hq, _⟩ | ⟨hq, _⟩ <;> rw [hq] <;> simp
          · rcases hldn with ⟨hq, _⟩ | ⟨hq, _⟩
            · rw [hq] at hb; simp at hb
            · rw [hq] at hb; simp at hb; subst hb; exact (hld a ha).1)
        hh1 (by rw [List.length_append, List.length_singleton]; exact hrun)
      rw [List.length_append, List.length_singleton] at p1
      refine ⟨r :: tl, ldn ++ l2, ?_, ?_, ?_, ?_, by simp [p5], by simpa using ppw, by simpa using pmk, fun f hf => by simpa using pF f (List.mem_append_left _ hf), by simpa using pal, by simpa using pmo, by simpa using pld, ?_⟩
      · rw [hplan, p1]; simp
      · intro j hj
        rw [List.mem_append] at hj
        rcases hj with hj | hj
        · rcases hldn with ⟨hq, _⟩ | ⟨hq, hq2, _⟩
          · rw [hq] at hj; simp at hj
          · rw [hq] at hj; simp at hj; subst hj; exact ⟨Nat.le_refl _, by rw [hsk]; exact hq2⟩
        · have h1 := (p2 j hj).1; simp only [List.length_append, List.length_singleton] at h1; exact ⟨by omega, (p2 j hj).2⟩
      · rw [← p3]; simp
      · rw [p4]; simp
      · intro k o' r' hk hr'
        cases k with
        | zero =>
          simp at hk hr'; subst hk; subst hr'
          intro hrk
          obtain ⟨q1, q2, q4, q3⟩ := hrd hrk
          subst q1
          refine ⟨lds, l2, ei, by simp, fun j hj => by have := (hld j hj).1; simpa using this, fun j hj => by have := (p2 j hj).1; simp only [List.length_append, List.length_singleton] at this; omega, ?_, fun t ht => (hlk t ht).1, q2, q4, q3.imp (fun q => ⟨by simpa using q.1, ?_⟩) (fun q => ⟨D, by simpa using q.1, by simpa using q.2, fun f hf => by simpa using pF f (List.mem_append_left _ hf)⟩)⟩
          · intro t ht
            have : (acc ++ r :: tl).take (pre.length + 0) = acc := by rw [Nat.add_zero, ← hl]; simp
            rw [this]
            exact (hlk t ht).2
          · have : (acc ++ r :: tl).take (pre.length + 0) = acc := by rw [Nat.add_zero, ← hl]; simp
            rw [this, ← hh]; exact q.2
        | succ k =>
          have := p6 k o' r' (by simpa using hk) (by simpa using hr')
          simp only [List.length_append, List.length_singleton, List.append_assoc, List.singleton_append] at this
          rw [show pre.length + (k + 1) = pre.length + 1 + k by omega]
          exact this
    have hwc : wanted ops re o = wanted ops ei o := wanted_congr hag
    have hldlt : ∀ j ∈ lds, j < (acc).length := fun j hj => by rw [hl]; exact (hld j hj).1
    have hOfs : ∀ r : R, hOf (acc ++ [r]) h0 lds = hOf acc h0 lds := fun r => hOf_append hldlt
    have hgs : ∀ r : R, (∀ b, r.k ≠ .mk b) → gh (masks ops []) lds (fun _ => true) (acc ++ [r]) 0 (hOf (acc ++ [r]) h0 lds) = S.h := by
      intro r hr
      rw [hOfs, gh_snoc, ← hh]
      unfold ghStep
      split
      · rename_i b hb; exact absurd hb (hr b)
      · rfl
    have hgc : (∀ (k : Nat), k < pre.length → (ops.map (fun o => sk X o.op)).getD k .pure = .alloc → inM (masks ops []) pre.length k = true) → gh (masks ops []) lds (inM (masks ops []) pre.length) acc 0 (hOf acc h0 lds) = S.h := by
      intro hq
      rw [hh]
      apply gh_congr
      intro k r b h1 h2
      have hkl : k < pre.length := by have := (List.getElem?_eq_some_iff.1 h1).1; omega
      simp only [Nat.zero_add]
      exact hq k hkl (hmk k r b h1 h2).1
    have hzlt : ZB ops z pre.length = true → pre.length < z := by
      intro hzb
      have hlo : pre.length < ops.length := (List.getElem?_eq_some_iff.1 ho).1
      have h1 := List.all_eq_true.1 hzb pre.length (by simpa using hlo)
      rw [Bool.or_eq_true] at h1
      rcases h1 with h1 | h1
      · rw [nblt, decide_eq_true_eq] at h1; exact h1
      · have := inM_lt hE _ _ h1; omega
    have hgB : pre.length < z → ∀ f ∈ D, (∀ j, f.src = some j → inM (masks ops []) pre.length j = true) → (gh (masks ops []) lds (inM (masks ops []) pre.length) acc 0 (hOf acc h0 lds)).get f.id = some f.x := by
      intro hzz f hf hu
      refine FZ_get (fun j hj => Nat.lt_trans (hld j hj).1 hzz) (fun k r b h1 h2 => (hmk k r b h1 h2).2) hmo hpw (fun j hj => (hld j hj).2.2) (fun j k => inM_lt hE j k) (hF f hf) (fun j hj => ⟨hu j hj, fun ⟨r, h1, h2⟩ => hal j r h1 h2⟩)
    unfold RunZ at h
    rcases h with ⟨hw, v, S1, e1, N, hop, he1, hb, hrdc, hlc, hNf, h⟩ | ⟨hw, e1, he1, h⟩
    case inr =>
      refine fin ⟨.tup [], S.n, .val⟩ [] S e1 [] he1 (fun b hb => by cases hb) (fun h' m hb => by cases hb) (fun f hf => by cases hf) rfl rfl (Nat.le_refl _) hN (.inl ⟨rfl, fun ⟨_, _, q⟩ => by cases q⟩) ?_ (fun hb => by cases hb) (by rw [List.append_nil]; exact h) ?_
      · rw [List.append_nil, hgs _ (fun b hb => by cases hb)]
      · conv => lhs; unfold plan
        rw [hre]; dsimp only; rw [hwc, hw]; simp only [cond_false, List.append_nil]
        rw [hOfs]
    case inl =>
      have hck := sk_ok hop
      have hclr : cls X re o.op = cls X ei o.op := cls_congr hoe
      have hN1 : N0 ≤ S1.n := Nat.le_trans hN (oper_n hop)
      have hloud : isLC (cls X ei o.op) = true →
        ∃ tl l2, plan X rec n ops (masks ops []) e (o :: os) pre.length acc lds (hOf acc h0 lds) S.n = some (acc ++ tl, lds ++ l2, S'.n) ∧
          (∀ j ∈ l2, pre.length ≤ j ∧ isLC ((ops.map (fun o => sk X o.op)).getD j .pure) = true) ∧ putAll n ops (acc ++ tl) e = some e' ∧
          S'.h = gh (masks ops []) (lds ++ l2) (fun _ => true) (acc ++ tl) 0 (hOf (acc ++ tl) h0 (lds ++ l2)) ∧ tl.length = (o :: os).length ∧ (lds ++ l2).Pairwise (· < ·) ∧ (∀ (k : Nat) (r : R) b, (acc ++ tl)[k]? = some r → r.k = .mk b → (ops.map (fun o => sk X o.op)).getD k .pure = .alloc ∧ N0 ≤ r.n0 ∧ r.n0 < 1000000000) ∧ (∀ f ∈ D, FZ (masks ops []) z N0 h0 (acc ++ tl) f) ∧ (∀ (k : Nat) (r : R), (acc ++ tl)[k]? = some r → r.isL → k ∈ lds ++ l2) ∧ (∀ (q q' : Nat) (r r' : R), q < q' → (acc ++ tl)[q]? = some r → (acc ++ tl)[q']? = some r' → r.n1 ≤ r'.n0) ∧ (∀ j ∈ lds ++ l2, ∃ r, (acc ++ tl)[j]? = some r ∧ r.isL) ∧
          ∀ (k : Nat) (o' : Oper) (r : R), (o :: os)[k]? = some o' → tl[k]? = some r → RFZ X n ops z N0 e h0 (acc ++ tl) (lds ++ l2) (pre.length + k) o' r := by
        intro hlc0
        have hs : cls X ei o.op = sk X o.op := by
          rcases hck with hq | hq
          · rw [hq] at hlc0; cases hlc0
          · exact hq
        have hlc1 := hlc hlc0
        rw [hs] at hlc0
        have hbef : bef (masks ops []) (ops.map (fun o => sk X o.op)) pre.length isAll = true := hk2 hlc0
        have hg := hgc (fun k hk hq => bef_at hbef hk (by rw [hq]; rfl))
        have hall : lds.all (fun j => inM (masks ops []) pre.length j) = true := by
          apply List.all_eq_true.2
          intro j hj
          obtain ⟨q1, q2, -⟩ := hld j hj
          exact bef_at hbef q1 (by cases hq : (ops.map (fun o => sk X o.op)).getD j .pure <;> rw [hq] at q2 <;> first | rfl | cases q2)
        have hop' : oper X rec re { h := gh (masks ops []) lds (inM (masks ops []) pre.length) acc 0 (hOf acc h0 lds), n := S.n } o.op = some (v, S1) := by
          rw [hg, oper_congr hoe]; exact hop
        refine fin ⟨v, S.n, .ld S1.h S1.n⟩ [pre.length] S1 e1 N he1 (fun b hb => by cases hb) (fun h' m hb => by cases hb; exact hlc1) (fun f hf => ?_) rfl rfl (oper_n hop) hN1 (.inr ⟨rfl, hlc0, _, _, rfl⟩) ?_ (fun hb => by cases hb) h ?_
        · obtain ⟨n1, n2, n3, _⟩ := hNf f hf
          refine .inr ⟨pre.length, ⟨v, S.n, .ld S1.h S1.n⟩, n1, by rw [← hl]; simp, .inr ⟨_, _, rfl, n3, n2, ?_⟩, ?_⟩
          · intro k r b hk hb hlt
            rw [List.getElem?_append_left (by omega)] at hk
            exact bef_at hbef hlt (by rw [(hmk k r b hk hb).1]; rfl)
          · intro k r h' m hk _ hlt _
            have := (List.getElem?_eq_some_iff.1 hk).1
            simp at this; omega
        · rw [gh_snoc]
          have : hOf (acc ++ [(⟨v, S.n, .ld S1.h S1.n⟩ : R)]) h0 (lds ++ [pre.length]) = S1.h := hOf_snoc (r := ⟨v, S.n, .ld S1.h S1.n⟩) (m := S1.n) (by rw [← hl]; simp) rfl
          rw [this, gh_had (fun q r b h1 h2 => by
            have hkl : q < pre.length := by have := (List.getElem?_eq_some_iff.1 h1).1; omega
            rw [Nat.zero_add]
            exact bef_at hbef hkl (by rw [(hmk q r b h1 h2).1]; rfl))]
          rfl
        · conv => lhs; unfold plan
          rw [hre]; dsimp only; rw [hwc, hw]; simp only [cond_true]
          have : hOf (acc ++ [(⟨v, S.n, .ld S1.h S1.n⟩ : R)]) h0 (lds ++ [pre.length]) = S1.h := hOf_snoc (r := ⟨v, S.n, .ld S1.h S1.n⟩) (m := S1.n) (by rw [← hl]; simp) rfl
          rw [hclr, hs]
          cases hskc : sk X o.op with
          | loud => dsimp only; rw [hall]; simp only [cond_true]; rw [hop']; dsimp only; rw [this]
          | call => dsimp only; rw [hall]; simp only [cond_true]; rw [hop']; dsimp only; rw [this]
          | _ => rw [hskc] at hlc0; cases hlc0
      cases hc : cls X ei o.op with
      | loud => exact hloud (by rw [hc]; rfl)
      | call => exact hloud (by rw [hc]; rfl)
      | pure =>
        unfold oper at hop
        rw [hc] at hop
        dsimp only at hop
        split at hop
        · cases hop
        · rename_i v' hv
          cases hop
          have hN0 : N = [] := by
            cases N with
            | nil => rfl
            | cons f N => exfalso; have := (hNf f (List.mem_cons_self ..)).2.2.2; rw [hc] at this; exact absurd this (by rintro (q | ⟨q, _⟩) <;> cases q)
          subst hN0
          refine fin ⟨v, S.n, .val⟩ [] S e1 [] he1 (fun b hb => by cases hb) (fun h' m hb => by cases hb) (fun f hf => by cases hf) rfl rfl (Nat.le_refl _) hN (.inl ⟨rfl, fun ⟨_, _, q⟩ => by cases q⟩) ?_ (fun hb => by cases hb) h ?_
          · rw [List.append_nil, hgs _ (fun b hb => by cases hb)]
          · conv => lhs; unfold plan
            rw [hre]; dsimp only; rw [hwc, hw]; simp only [cond_true, List.append_nil]
            rw [hclr, hc]; dsimp only; rw [pureOp_congr hoe, hv]; dsimp only; rw [hOfs]
      | read =>
        have hs : sk X o.op = .read := by
          rcases hck with hq | hq
          · rw [hq] at hc; cases hc
          · rw [← hq]; exact hc
        have hrdc' := hrdc hc
        unfold oper at hop
        rw [hc] at hop
        dsimp only at hop
        split at hop
        · cases hop
        · rename_i v' hv
          cases hop
          rw [hc] at hb
          have hrd2 : readOp X ei (gh (masks ops []) lds (inM (masks ops []) pre.length) acc 0 (hOf acc h0 lds)) o.op = some v := by
            rcases hrdc' with hst | hfp
            · have hst' := hst
              unfold rdStat at hst'
              rw [Bool.and_eq_true] at hst'
              rw [hgc (fun k hk hq => bef_at hst'.1 hk (by rw [hq]; rfl))]; exact hv
            · exact hfp.2 _ (hgB (hzlt hfp.1))
          have hN0 : N = [] := by
            cases N with
            | nil => rfl
            | cons f N => exfalso; have := (hNf f (List.mem_cons_self ..)).2.2.2; rw [hc] at this; exact absurd this (by rintro (q | ⟨q, _⟩) <;> cases q)
          subst hN0
          refine fin ⟨v, S.n, .rd⟩ [] S e1 [] he1 (fun b hb => by cases hb) (fun h' m hb => by cases hb) (fun f hf => by cases hf) rfl rfl (Nat.le_refl _) hN (.inl ⟨rfl, fun ⟨_, _, q⟩ => by cases q⟩) ?_ (fun _ => ⟨rfl, hs, hb, hrdc'.imp (fun q => ⟨q, hv⟩) (fun q => q)⟩) h ?_
          · rw [List.append_nil, hgs _ (fun b hb => by cases hb)]
          · conv => lhs; unfold plan
            rw [hre]; dsimp only; rw [hwc, hw]; simp only [cond_true, List.append_nil]
            rw [hclr, hc]; dsimp only; rw [readOp_congr hoe, hrd2]; dsimp only; rw [hOfs]
      | alloc =>
        have hs : sk X o.op = .alloc := by
          rcases hck with hq | hq
          · rw [hq] at hc; cases hc
          · rw [← hq]; exact hc
        unfold oper at hop
        rw [hc] at hop
        dsimp only at hop
        cases hlt : Nat.blt S.n 1000000000 with
        | false => rw [hlt] at hop; cases hop
        | true =>
          rw [hlt] at hop
          simp only [cond_true] at hop
          have hlt2 : S.n < 1000000000 := by rw [nblt, decide_eq_true_eq] at hlt; exact hlt
          split at hop
          · cases hop
          · rename_i b' v' hv
            cases hop
            refine fin ⟨v, S.n, .mk b'⟩ [] (S.new b') e1 N he1 (fun _ _ => ⟨hs, hN, hlt2⟩) (fun h' m hb => by cases hb) (fun f hf => ?_) rfl rfl (Nat.le_succ _) hN1 (.inl ⟨rfl, fun ⟨_, _, q⟩ => by cases q⟩) ?_ (fun hb => by cases hb) h ?_
            · obtain ⟨n1, _, n3, n4⟩ := hNf f hf
              rw [hc] at n4
              rcases n4 with q | ⟨_, q⟩
              · cases q
              have hx : f.x = b' := by
                have h5 : (S.new b').h.get S.n = some b' := by unfold St.new; dsimp only; rw [Tr.get_set 40 _ _ _ _ (by omega), if_pos rfl]
                rw [q, h5] at n3; cases n3; rfl
              refine .inr ⟨pre.length, ⟨v, S.n, .mk b'⟩, n1, by rw [← hl]; simp, .inl ⟨by rw [hx], q.symm⟩, ?_⟩
              intro k r h' m hk _ hlt _
              have := (List.getElem?_eq_some_iff.1 hk).1
              simp at this; omega
            · rw [List.append_nil, hOfs, gh_snoc, ← hh]
              unfold ghStep
              dsimp only
              have : lds.all (fun j => !inM (masks ops []) j (0 + acc.length)) = true := by
                apply List.all_eq_true.2
                intro j hj
                have h1 := (hld j hj).1
                cases hq : inM (masks ops []) j (0 + acc.length) with
                | false => rfl
                | true => have := inM_lt hE _ _ hq; omega
              rw [this]
              rfl
            · conv => lhs; unfold plan
              rw [hre]; dsimp only; rw [hwc, hw]; simp only [cond_true, List.append_nil]
              rw [hclr, hc]; dsimp only; rw [hlt]; simp only [cond_true]; rw [allocOp_congr hoe, hv]; dsimp only; rw [hOfs]
              rfl
/-- WHERE THE EDGES SAY ENOUGH but for reads that loud operations leave alone, a region that draws its order gives what the text's order gives. -/
theorem drawn_Z {z : Nat} {D : List Fct} {S : St} {e' : Env} {S' : St} (hD0 : ∀ f ∈ D, f.src = none ∧ f.id < S.n ∧ S.h.get f.id = some f.x) (hs : seqB X n ops = true) (h : RunZ X rec n ops z D ops 0 e S e' S') : drawn X rec n ops e S = .ok .nor e' S' := by
  unfold seqB at hs
  simp only [Bool.and_eq_true, nblt, decide_eq_true_eq] at hs
  obtain ⟨⟨⟨⟨hE, hD⟩, hN⟩, hn⟩, hK⟩ := hs
  have hle := RunZ_n h
  obtain ⟨tl, l2, p1, p2, p3, p4, p5, ppw, pmk, -, pal, pmo, pld, p6⟩ := plan_seqZ (h0 := S.h) (e := e) (N0 := S.n) hn hE hD hK D ops [] [] [] S e e' S' (by simp) rfl (by simp [putAll]) (fun k r b hk => by simp at hk) (fun f hf => .inl ⟨(hD0 f hf).1, (hD0 f hf).2.1, (hD0 f hf).2.2, fun k r h' m hk _ => by simp at hk⟩) (fun k r hk => by simp at hk) (fun q q' r r' _ hk => by simp at hk) (fun k r hk => by simp at hk) (Nat.le_refl _) (fun j hj => by simp at hj) List.Pairwise.nil (by simp [gh, hOf]) h
  simp only [List.nil_append, List.length_nil, hOf, Nat.zero_add] at p1 p2 p3 p4 p6 ppw pmk pal pmo pld
  unfold drawn
  dsimp only
  rw [hE, hD, hN]
  simp only [Bool.and_self, cond_true]
  rw [p1]
  dsimp only
  have hrd : rdsOk X n ops (masks ops []) tl e S.h l2 ops 0 = true := by
    apply rdsOk_of
    intro i o ho
    have hi : i < ops.length := (List.getElem?_eq_some_iff.1 ho).1
    have hr : tl[i]? = some (tl[i]'(by omega)) := List.getElem?_eq_getElem _
    rw [Nat.zero_add]
    refine ⟨_, hr, fun hk => ?_⟩
    obtain ⟨l1, l3, ei, q1, q2, q3, q4, q5, q6, q8, q9⟩ := p6 i o _ ho hr hk
    have hlt : ∀ j, inM (masks ops []) i j = true → j < (tl.take i).length := fun j hj => by
      have := inM_lt hE _ _ hj
      simp; omega
    have htl : tl = tl.take i ++ tl.drop i := (List.take_append_drop i tl).symm
    obtain ⟨re, r1, r2⟩ := renv_good (ms := masks ops []) (ops := ops) (acc := tl) (e := e) (es := ei) (n := n) (i := i) hn (ts := looks ops o) (fun t ht => ⟨q5 t ht, by
      rw [htl, lookT_append hlt]; exact q4 t ht⟩)
    refine ⟨re, r1, rdOk_of fun a b hab => ?_⟩
    have hoe : OE re ei o.op := OE_of r2
    have hski : (ops.map (fun o => sk X o.op)).getD i .pure = sk X o.op := by
      rw [List.getD_eq_getElem?_getD, List.getElem?_map, ho]; rfl
    rw [List.nil_append]
    unfold rdOk.rd1
    cases hc : (a.all (fun j => !inM (masks ops []) j i) && l2.all (fun j => !inM (masks ops []) i j || a.contains j)) with
    | false => rfl
    | true =>
      simp only [cond_true]
      simp only [Bool.and_eq_true] at hc
      obtain ⟨c1, c2⟩ := hc
      rcases q9 with ⟨hst, q7⟩ | ⟨D', hzb, hfp, hfi⟩
      case inr =>
        have hsub : ∀ j ∈ a, j ∈ l2 := fun j hj => by rw [hab]; exact List.mem_append_left _ hj
        have hg : ∀ f ∈ D', (∀ j, f.src = some j → inM (masks ops []) i j = true) → (gh (masks ops []) a (inM (masks ops []) i) tl 0 (hOf tl S.h a)).get f.id = some f.x := by
          intro f hf hu
          refine FZ_get (fun j hj => ?_) (fun k r b h1 h2 => (pmk k r b h1 h2).2) pmo ?_ (fun j hj => pld j (hsub j hj)) (fun j k => inM_lt hE j k) (hfi f hf) (fun j hj => ⟨hu j hj, fun ⟨r, h1, h2⟩ => ?_⟩)
          · have h1 := List.all_eq_true.1 c1 j hj
            obtain ⟨r, h2, _⟩ := pld j (hsub j hj)
            have h3 := (List.getElem?_eq_some_iff.1 h2).1
            have h4 := List.all_eq_true.1 hzb j (by simp only [List.mem_range]; omega)
            rw [Bool.or_eq_true] at h4
            rcases h4 with h4 | h4
            · rw [nblt, decide_eq_true_eq] at h4; exact h4
            · rw [h4] at h1; cases h1
          · rw [hab, List.pairwise_append] at ppw; exact ppw.1
          · have h3 := List.all_eq_true.1 c2 j (pal j r h1 h2)
            rw [hu j hj] at h3
            simpa using h3
        rw [readOp_congr hoe, hfp _ hg]
        exact q8
      unfold rdStat at hst
      rw [Bool.and_eq_true] at hst
      obtain ⟨hk2, hk3⟩ := hst
      have hal : a = l1 := by
        have hpre : a ++ b = l1 ++ l3 := by rw [← hab, q1]
        have hin1 : ∀ j ∈ l1, j ∈ a := by
          intro j hj
          have hj2 : j ∈ l2 := by rw [q1]; exact List.mem_append_left _ hj
          have h1 := List.all_eq_true.1 c2 j hj2
          have h2 : inM (masks ops []) i j = true := by
            apply bef_at hk2 (q2 j hj)
            have := (p2 j hj2).2
            cases hq : (ops.map (fun o => sk X o.op)).getD j .pure <;> rw [hq] at this <;> first | rfl | cases this
          rw [h2] at h1
          simpa using h1
        have hin3 : ∀ j ∈ l3, j ∉ a := by
          intro j hj hja
          have hj2 : j ∈ l2 := by rw [q1]; exact List.mem_append_right _ hj
          have h1 := List.all_eq_true.1 c1 j hja
          have hjl : j < ops.length := by
            have := (p2 j hj2).2
            rw [List.getD_eq_getElem?_getD] at this
            by_cases hlt : j < ops.length
            · exact hlt
            · rw [List.getElem?_eq_none (by simpa using hlt)] at this; cases this
          have hl := (p2 j hj2).2
          have h3 := List.all_eq_true.1 hk3 j (by simpa using hjl)
          rw [hl, nble, decide_eq_false (by have := q3 j hj; omega)] at h3
          have : inM (masks ops []) j i = true := by simpa using h3
          rw [this] at h1
          cases h1
        rcases List.append_eq_append_iff.1 hpre with ⟨m, hm1, hm2⟩ | ⟨m, hm1, hm2⟩
        · -- l1 = a ++ m
          cases m with
          | nil => simpa using hm1.symm
          | cons y m =>
            exfalso
            have hy : y ∈ a := hin1 y (by rw [hm1]; simp)
            rw [q1, hm1, List.append_assoc, List.pairwise_append] at ppw
            have := ppw.2.2 y hy y (by simp)
            omega
        · cases m with
          | nil => simpa using hm1
          | cons y m =>
            exfalso
            exact hin3 y (by rw [hm2]; simp) (by rw [hm1]; simp)
      subst hal
      have hh : gh (masks ops []) a (inM (masks ops []) i) tl 0 (hOf tl S.h a) = gh (masks ops []) a (fun _ => true) (tl.take i) 0 (hOf (tl.take i) S.h a) := by
        conv => lhs; rw [htl]
        rw [gh_append (fun q hq => by
          cases hm : inM (masks ops []) i q with
          | false => rfl
          | true => have := hlt q hm; omega)]
        rw [hOf_append (fun j hj => by have := q2 j hj; simp; omega)]
        apply gh_congr
        intro k r b h1 h2
        rw [Nat.zero_add]
        have hki : k < i := by have := (List.getElem?_eq_some_iff.1 h1).1; simp at this; omega
        apply bef_at hk2 hki
        have : (ops.map (fun o => sk X o.op)).getD k .pure = .alloc := by
          have hkr : tl[k]? = some r := by rw [htl, List.getElem?_append_left (List.getElem?_eq_some_iff.1 h1).1]; exact h1
          exact (pmk k r b hkr h2).1
        rw [this]; rfl
      rw [hh, readOp_congr hoe, q7]
      exact q8
  rw [hrd]
  simp only [cond_true]
  rw [p3]
  dsimp only
  rw [nble, decide_eq_true hle]
  simp only [cond_true]
  rw [← p4]
end
end GX
/- GX: reasoning about runs: W_drawnF where the last operations may write to the told blocks. -/


namespace GX
noncomputable section
open Go
def WZ (X : X) (n : Nat) (all : List Oper) (z : Nat) (D : List Fct) (os : List Oper) (i : Nat) (ks : List Kt) (Q : Ex → Env → St → Prop) (l : L) (S : St) : Prop :=
  ∀ e, Ag l e → ∃ f e' S', RunZ X (exec X f) n all z D os i e S e' S' ∧ QK X n ks Q .nor e' S'
section
variable {X : X} {n : Nat} {ks : List Kt} {Q : Ex → Env → St → Prop} {l : L} {S : St} {z : Nat} {D : List Fct} {all os : List Oper} {o : Oper} {i : Nat}
theorem W_drawnZ (z : Nat) (D : List Fct) {id : Nat} {ops : Array Oper} (hD : ∀ f ∈ D, f.src = none ∧ f.id < S.n ∧ S.h.get f.id = some f.x) (hs : seqB X n ops.toList = true) (h : WZ X n ops.toList z D ops.toList 0 ks Q l S) : W X n (.region id ops true) ks Q l S := by
  unfold W
  intro e he
  obtain ⟨f, e1, S1, h1, h2⟩ := h e he
  exact ⟨f + 1, .nor, e1, S1, by show step X (exec X f) n (.region id ops true) e S = _; unfold step; exact drawn_Z hD hs h1, h2⟩
theorem WZ_nil (h : V X n .nor ks Q l S) : WZ X n all z D [] i ks Q l S := by
  unfold V at h
  exact fun e he => ⟨0, e, S, ⟨rfl, rfl⟩, h e he⟩
theorem WZ_pa {d : Nat} (hg : o.guard = none) (hd : o.dst = some d) (hn : Nat.blt d n = true) (hn' : Nat.blt n 1000001 = true) (hsk : isPA (sk X o.op) = true)
    (h : Ev X l S o.op fun v S' => WZ X n all z D os (i + 1) ks Q ((d, v) :: l) S') : WZ X n all z D (o :: os) i ks Q l S := by
  intro e he
  unfold Ev at h
  obtain ⟨f, v, S1, h1, h2, h3⟩ := h e he
  rw [nblt, decide_eq_true_eq] at hn hn'
  obtain ⟨g, e2, S2, h4, h5⟩ := h3 _ (he.put hn' hn)
  have hck := sk_ok h1
  refine ⟨max f g, e2, S2, .inl ⟨wanted_none hg, v, S1, e.put d v, [], oper_le (exec_le (Nat.le_max_left f g)) h1, ?_, h2, fun hc => ?_, fun hc _ => ?_, fun f hf => (by cases hf), by rw [List.append_nil]; exact RunZ_le (exec_le (Nat.le_max_right f g)) h4⟩, h5⟩
  · rw [hd]; unfold setDst; dsimp only; rw [nblt, decide_eq_true hn]; rfl
  · rcases hck with hq | hq
    · rw [hq] at hc; cases hc
    · rw [hq] at hc; rw [hc] at hsk; cases hsk
  · rcases hck with hq | hq
    · rw [hq] at hc; cases hc
    · rw [hq] at hc
      exfalso
      cases hs : sk X o.op <;> rw [hs] at hc hsk <;> first | (cases hc; done) | (cases hsk; done)
/-- an operation that makes a block, which is told -/
theorem WZ_al {d : Nat} (hg : o.guard = none) (hd : o.dst = some d) (hn : Nat.blt d n = true) (hn' : Nat.blt n 1000001 = true) (hcl : ∀ e, Ag l e → cls X e o.op = .alloc)
    (h : Ev X l S o.op fun v S' => ∃ x, S'.h.get S.n = some x ∧ S.n < S'.n ∧ WZ X n all z (D ++ [⟨S.n, x, some i⟩]) os (i + 1) ks Q ((d, v) :: l) S') : WZ X n all z D (o :: os) i ks Q l S := by
  intro e he
  unfold Ev at h
  obtain ⟨f, v, S1, h1, h2, x, hx, hlt, h3⟩ := h e he
  rw [nblt, decide_eq_true_eq] at hn hn'
  obtain ⟨g, e2, S2, h4, h5⟩ := h3 _ (he.put hn' hn)
  have hc0 := hcl e he
  refine ⟨max f g, e2, S2, .inl ⟨wanted_none hg, v, S1, e.put d v, [⟨S.n, x, some i⟩], oper_le (exec_le (Nat.le_max_left f g)) h1, ?_, h2, fun hc => (by rw [hc0] at hc; cases hc), fun hc _ => (by rw [hc0] at hc; cases hc), fun f hf => ?_, RunZ_le (exec_le (Nat.le_max_right f g)) h4⟩, h5⟩
  · rw [hd]; unfold setDst; dsimp only; rw [nblt, decide_eq_true hn]; rfl
  · rw [List.mem_singleton] at hf; subst hf
    exact ⟨rfl, hlt, hx, .inr ⟨hc0, rfl⟩⟩
/-- a read that is ordered with all loud operations -/
theorem WZ_rs {d : Nat} (hg : o.guard = none) (hd : o.dst = some d) (hn : Nat.blt d n = true) (hn' : Nat.blt n 1000001 = true) (hsk : isLC (sk X o.op) = false) (hst : rdStat (masks all []) (all.map (fun o => sk X o.op)) i = true)
    (h : Ev X l S o.op fun v S' => WZ X n all z D os (i + 1) ks Q ((d, v) :: l) S') : WZ X n all z D (o :: os) i ks Q l S := by
  intro e he
  unfold Ev at h
  obtain ⟨f, v, S1, h1, h2, h3⟩ := h e he
  rw [nblt, decide_eq_true_eq] at hn hn'
  obtain ⟨g, e2, S2, h4, h5⟩ := h3 _ (he.put hn' hn)
  have hck := sk_ok h1
  refine ⟨max f g, e2, S2, .inl ⟨wanted_none hg, v, S1, e.put d v, [], oper_le (exec_le (Nat.le_max_left f g)) h1, ?_, h2, fun _ => .inl hst, fun hc _ => ?_, fun f hf => (by cases hf), by rw [List.append_nil]; exact RunZ_le (exec_le (Nat.le_max_right f g)) h4⟩, h5⟩
  · rw [hd]; unfold setDst; dsimp only; rw [nblt, decide_eq_true hn]; rfl
  · rcases hck with hq | hq
    · rw [hq] at hc; cases hc
    · rw [hq, hsk] at hc; cases hc
/-- a read that looks at told blocks alone -/
theorem WZ_rf {d : Nat} {v : AV} (hzb : ZB all z i = true) (hg : o.guard = none) (hd : o.dst = some d) (hn : Nat.blt d n = true) (hn' : Nat.blt n 1000001 = true) (hS : ∀ f ∈ D, S.h.get f.id = some f.x)
    (hfp : ∀ e, Ag l e → cls X e o.op = .read ∧ FPD X D (masks all []) i e o.op v) (hvv : veq v v = true) (h : WZ X n all z D os (i + 1) ks Q ((d, v) :: l) S) : WZ X n all z D (o :: os) i ks Q l S := by
  intro e he
  obtain ⟨hc, hf⟩ := hfp e he
  rw [nblt, decide_eq_true_eq] at hn hn'
  obtain ⟨g, e2, S2, h4, h5⟩ := h _ (he.put hn' hn)
  refine ⟨g, e2, S2, .inl ⟨wanted_none hg, v, S, e.put d v, [], ?_, ?_, by rw [hc]; exact hvv, fun _ => .inr ⟨hzb, hf⟩, fun hl _ => (by rw [hc] at hl; cases hl), fun f hf => (by cases hf), by rw [List.append_nil]; exact h4⟩, h5⟩
  · unfold oper; rw [hc]; dsimp only; rw [hf S.h (fun f h1 _ => hS f h1)]
  · rw [hd]; unfold setDst; dsimp only; rw [nblt, decide_eq_true hn]; rfl
/-- a loud operation, or a call, that leaves the told blocks alone, and may tell more -/
theorem WZ_ld {d : Nat} (hg : o.guard = none) (hd : o.dst = some d) (hn : Nat.blt d n = true) (hn' : Nat.blt n 1000001 = true) (hcl : ∀ e, Ag l e → isLC (cls X e o.op) = true)
    (h : Ev X l S o.op fun v S' => (Nat.blt i z = true → ∀ f ∈ D, S'.h.get f.id = some f.x) ∧ ∃ N : List Fct, (∀ f ∈ N, f.src = some i ∧ f.id < S'.n ∧ S'.h.get f.id = some f.x) ∧ WZ X n all z (D ++ N) os (i + 1) ks Q ((d, v) :: l) S') : WZ X n all z D (o :: os) i ks Q l S := by
  intro e he
  unfold Ev at h
  obtain ⟨f, v, S1, h1, h2, hB, N, hN, h3⟩ := h e he
  rw [nblt, decide_eq_true_eq] at hn hn'
  obtain ⟨g, e2, S2, h4, h5⟩ := h3 _ (he.put hn' hn)
  have hc0 := hcl e he
  refine ⟨max f g, e2, S2, .inl ⟨wanted_none hg, v, S1, e.put d v, N, oper_le (exec_le (Nat.le_max_left f g)) h1, ?_, h2, fun hc => ?_, fun _ hz => hB (by rw [nblt]; exact decide_eq_true hz), fun f hf => ⟨(hN f hf).1, (hN f hf).2.1, (hN f hf).2.2, .inl hc0⟩, RunZ_le (exec_le (Nat.le_max_right f g)) h4⟩, h5⟩
  · rw [hd]; unfold setDst; dsimp only; rw [nblt, decide_eq_true hn]; rfl
  · rw [hc] at hc0; cases hc0
theorem WZ_ld0 (hg : o.guard = none) (hd : o.dst = none) (hcl : ∀ e, Ag l e → isLC (cls X e o.op) = true)
    (h : Ev X l S o.op fun _ S' => (Nat.blt i z = true → ∀ f ∈ D, S'.h.get f.id = some f.x) ∧ ∃ N : List Fct, (∀ f ∈ N, f.src = some i ∧ f.id < S'.n ∧ S'.h.get f.id = some f.x) ∧ WZ X n all z (D ++ N) os (i + 1) ks Q l S') : WZ X n all z D (o :: os) i ks Q l S := by
  intro e he
  unfold Ev at h
  obtain ⟨f, v, S1, h1, h2, hB, N, hN, h3⟩ := h e he
  obtain ⟨g, e2, S2, h4, h5⟩ := h3 _ he
  have hc0 := hcl e he
  refine ⟨max f g, e2, S2, .inl ⟨wanted_none hg, v, S1, e, N, oper_le (exec_le (Nat.le_max_left f g)) h1, ?_, h2, fun hc => ?_, fun _ hz => hB (by rw [nblt]; exact decide_eq_true hz), fun f hf => ⟨(hN f hf).1, (hN f hf).2.1, (hN f hf).2.2, .inl hc0⟩, RunZ_le (exec_le (Nat.le_max_right f g)) h4⟩, h5⟩
  · rw [hd]; rfl
  · rw [hc] at hc0; cases hc0
theorem WZ_guard {j d0 : Nat} {want : Bool} {p : Oper} {c : Bool} {d : Nat} (hg : o.guard = some (j, want)) (hp : all[j]? = some p) (hd0 : p.dst = some d0) (hl : lk l d0 = some (.bool c)) (hd : o.dst = some d) (hn : Nat.blt d n = true) (hn' : Nat.blt n 1000001 = true)
    (h1 : c = want → WZ X n all z D ({ o with guard := none } :: os) i ks Q ((d0, .bool want) :: l) S) (h2 : c = (!want) → WZ X n all z D os (i + 1) ks Q ((d, .tup []) :: (d0, .bool (!want)) :: l) S) : WZ X n all z D (o :: os) i ks Q l S := by
  intro e he
  rw [nblt, decide_eq_true_eq] at hn hn'
  have hat : e.at d0 = .bool c := he d0 _ hl
  have hag : ∀ b, c = b → Ag ((d0, .bool b) :: l) e := by
    intro b hb t v ht
    unfold lk at ht
    rw [nbeq, cond_dec] at ht
    by_cases hh : d0 = t
    · subst hh; rw [if_pos rfl] at ht; cases ht; rw [hat, hb]
    · rw [if_neg hh] at ht; exact he t v ht
  have hw : wanted all e o = (c == want) := by unfold wanted; rw [hg]; dsimp only; rw [hp]; dsimp only; rw [hd0]; dsimp only; rw [hat]
  by_cases hc : c = want
  · obtain ⟨f, e2, S2, h3, h4⟩ := h1 hc e (hag want hc)
    refine ⟨f, e2, S2, ?_, h4⟩
    have hw' : wanted all e o = true := by rw [hw, hc]; cases want <;> rfl
    unfold RunZ at h3 ⊢
    rcases h3 with ⟨_, h3⟩ | ⟨h3, _⟩
    · exact .inl ⟨hw', h3⟩
    · rw [wanted_none rfl] at h3; cases h3
  · have hc' : c = (!want) := by cases c <;> cases want <;> simp_all
    obtain ⟨f, e2, S2, h3, h4⟩ := h2 hc' _ ((hag _ hc').put hn' hn)
    refine ⟨f, e2, S2, ?_, h4⟩
    have hw' : wanted all e o = false := by rw [hw, hc']; cases want <;> rfl
    refine .inr ⟨hw', e.put d (.tup []), ?_, h3⟩
    rw [hd]; unfold setDst; dsimp only; rw [nblt, decide_eq_true hn]; rfl
theorem WZ_guard_dt {j d0 : Nat} {q : Oper} {p : Prop} [Decidable p] {d : Nat} (hg : o.guard = some (j, true)) (hp : all[j]? = some q) (hd0 : q.dst = some d0) (hl : lk l d0 = some (.bool (decide p))) (hd : o.dst = some d) (hn : Nat.blt d n = true) (hn' : Nat.blt n 1000001 = true)
    (h1 : p → WZ X n all z D ({ o with guard := none } :: os) i ks Q ((d0, .bool true) :: l) S) (h2 : ¬ p → WZ X n all z D os (i + 1) ks Q ((d, .tup []) :: (d0, .bool false) :: l) S) : WZ X n all z D (o :: os) i ks Q l S :=
  WZ_guard hg hp hd0 hl hd hn hn' (fun h => h1 (of_decide_eq_true h)) (fun h => h2 (of_decide_eq_false h))
theorem WZ_guard_df {j d0 : Nat} {q : Oper} {p : Prop} [Decidable p] {d : Nat} (hg : o.guard = some (j, false)) (hp : all[j]? = some q) (hd0 : q.dst = some d0) (hl : lk l d0 = some (.bool (decide p))) (hd : o.dst = some d) (hn : Nat.blt d n = true) (hn' : Nat.blt n 1000001 = true)
    (h1 : ¬ p → WZ X n all z D ({ o with guard := none } :: os) i ks Q ((d0, .bool false) :: l) S) (h2 : p → WZ X n all z D os (i + 1) ks Q ((d, .tup []) :: (d0, .bool true) :: l) S) : WZ X n all z D (o :: os) i ks Q l S :=
  WZ_guard hg hp hd0 hl hd hn hn' (fun h => h1 (of_decide_eq_false h)) (fun h => h2 (of_decide_eq_true h))
theorem WZ_guard_t {j d0 : Nat} {want : Bool} {p : Oper} {d : Nat} (hg : o.guard = some (j, want)) (hp : all[j]? = some p) (hd0 : p.dst = some d0) (hl : lk l d0 = some (.bool want)) (hd : o.dst = some d) (hn : Nat.blt d n = true) (hn' : Nat.blt n 1000001 = true)
    (h1 : WZ X n all z D ({ o with guard := none } :: os) i ks Q l S) : WZ X n all z D (o :: os) i ks Q l S := by
  refine WZ_guard hg hp hd0 hl hd hn hn' (fun _ => ?_) (fun h => ?_)
  · intro e he
    exact h1 e (fun t v ht => he t v (by
      unfold lk; rw [nbeq, cond_dec]
      by_cases hh : d0 = t
      · subst hh; rw [hl] at ht; cases ht; rw [if_pos rfl]
      · rw [if_neg hh]; exact ht))
  · cases want <;> cases h
theorem WZ_skip {d : Nat} (hd : o.dst = some d) (hn : Nat.blt d n = true) (hn' : Nat.blt n 1000001 = true) (hw : ∀ e, Ag l e → wanted all e o = false) (h2 : WZ X n all z D os (i + 1) ks Q ((d, .tup []) :: l) S) : WZ X n all z D (o :: os) i ks Q l S := by
  intro e he
  rw [nblt, decide_eq_true_eq] at hn hn'
  obtain ⟨f, e2, S2, h3, h4⟩ := h2 _ (he.put hn' hn)
  refine ⟨f, e2, S2, .inr ⟨hw e he, e.put d (.tup []), ?_, h3⟩, h4⟩
  rw [hd]; unfold setDst; dsimp only; rw [nblt, decide_eq_true hn]; rfl
theorem WZ_guard_f {j d0 : Nat} {want c : Bool} {p : Oper} {d : Nat} (hg : o.guard = some (j, want)) (hp : all[j]? = some p) (hd0 : p.dst = some d0) (hl : lk l d0 = some (.bool c)) (hc : (c == want) = false) (hd : o.dst = some d) (hn : Nat.blt d n = true) (hn' : Nat.blt n 1000001 = true)
    (h2 : WZ X n all z D os (i + 1) ks Q ((d, .tup []) :: l) S) : WZ X n all z D (o :: os) i ks Q l S :=
  WZ_skip hd hn hn' (fun e he => by unfold wanted; rw [hg]; dsimp only; rw [hp]; dsimp only; rw [hd0]; dsimp only; rw [he d0 _ hl]; exact hc) h2
theorem WZ_guard_x {j d0 : Nat} {want : Bool} {p : Oper} {d : Nat} (hg : o.guard = some (j, want)) (hp : all[j]? = some p) (hd0 : p.dst = some d0) (hl : lk l d0 = some (.tup [])) (hd : o.dst = some d) (hn : Nat.blt d n = true) (hn' : Nat.blt n 1000001 = true)
    (h2 : WZ X n all z D os (i + 1) ks Q ((d, .tup []) :: l) S) : WZ X n all z D (o :: os) i ks Q l S :=
  WZ_skip hd hn hn' (fun e he => by unfold wanted; rw [hg]; dsimp only; rw [hp]; dsimp only; rw [hd0]; dsimp only; rw [he d0 _ hl]) h2
end
end
end GX
/- carafebook.Book.Keep of a list whose capacity is known. (NODRAWN) -/



namespace Go.Proofs.YtnlfcoojlgdgaaaDoor
open GX
set_option maxHeartbeats 16000000
set_option maxRecDepth 100000
/-- a book that has one list more than before, perhaps without the first ones -/
structure Kp (S T : St) (p : Nat) (vl vw : AV) (i : It) (is : List It) : Prop where
  ex : ∃ vl' vw' h' w k, Bk T p vl' vw' h' ((is ++ [{ i with w := w }]).drop k) ∧ k ≤ is.length ∧ (∀ c, blkOf vl' = some c → S.n ≤ c) ∧ (∀ c, blkOf vw' = some c → S.n ≤ c) ∧ (∀ c, blkOf w = some c → S.n ≤ c)
  le : S.n ≤ T.n
  n : T.n ≤ S.n + 10
  same : ∀ c, c < S.n → c ≠ p → blkOf vl ≠ some c → blkOf vw ≠ some c → T.h.get c = S.h.get c
theorem Bk.drop1 {T U : St} {p : Nat} {vl vw vl' vw' : AV} {h h' : Int} {is : List It} (b : Bk T p vl vw h is) (hUok : Sok U) (hat : U.h.get p = some (.cells 50 [vl', vw', .int .i64 h', .bool false] false)) (hlo : OwA U vl' 22 1 ((is.map It.v).drop 1) (is.length - 1)) (hwo : OwA U vw' 22 1 ((is.map It.w).drop 1) (is.length - 1)) (hl : blkOf vl' = blkOf vl) (hw : blkOf vw' = blkOf vw) (hf : ∀ c, c ≠ p → U.h.get c = T.h.get c) : Bk U p vl' vw' h' (is.drop 1) := by
  have hm : ∀ i ∈ is.drop 1, i ∈ is := fun i hi => List.mem_of_mem_drop hi
  refine ⟨hUok, hat, by rw [List.map_drop, List.length_drop]; exact hlo, by rw [List.map_drop, List.length_drop]; exact hwo, fun i hi => (b.it i (hm i hi)).keep (fun c hc => hf c (b.ip i (hm i hi) c (.inl hc)).1) (fun c hc => hf c (b.ip i (hm i hi) c (.inr hc)).1), by rw [hl]; exact b.lp, by rw [hw]; exact b.wp, by rw [hl, hw]; exact b.lw, fun i hi => by rw [hl, hw]; exact b.ip i (hm i hi), fun j k x y c hj hk hne hx => ?_, by rw [List.length_drop]; have := b.few; omega⟩
  rw [List.getElem?_drop] at hj hk
  exact b.dis _ _ x y c hj hk (by omega) hx
theorem ItOK.one {T : St} {i : It} (h : ItOK T i) : AV.one i.v = true := by
  rcases h.cap with ⟨b, o, h⟩ | ⟨h, _⟩ <;> rw [h] <;> rfl
theorem Bk.held {T U : St} {p : Nat} {vl vw : AV} {h h' : Int} {is : List It} (b : Bk T p vl vw h is) (hn : U.n = T.n) (hq : U.h.get p = some (.cells 50 [vl, vw, .int .i64 h', .bool false] false)) (hf : ∀ c, c ≠ p → U.h.get c = T.h.get c) : Bk U p vl vw h' is :=
  ⟨sok_upd b.ok (b.ok _ _ b.at_) hn hq hf, hq, b.lo.keep (fun c hc => hf c (fun e => b.lp (by rw [hc, e]))), b.wo.keep (fun c hc => hf c (fun e => b.wp (by rw [hc, e]))),
    fun i hi => (b.it i hi).keep (fun c hc => hf c (b.ip i hi c (.inl hc)).1) (fun c hc => hf c (b.ip i hi c (.inr hc)).1), b.lp, b.wp, b.lw, b.ip, b.dis, b.few⟩
theorem owa_cells1 {S : St} {v : AV} {el sz : Nat} {cs : List AV} {m : Nat} (h : OwA S v el sz cs m) : v.cells = [v] ∧ [v].all AV.one = true := by
  rcases h with ⟨h1, _⟩ | ⟨b, pre, h1, _⟩ <;> subst h1 <;> exact ⟨rfl, rfl⟩
theorem afill_one {v : AV} (h : AV.one v = true) : afill (fun i => some (i * 1, 1)) (rep [.nils] 1) [(0, v)] = some [v] := by
  cases v <;> first | rfl | cases h
theorem keep_runs {S : St} {p : Nat} {vl vw : AV} {h : Int} {is : List It} {i : It} (b : Bk S p vl vw h is) (hi : ItOK S { i with w := i.v }) (hb : ∀ c, blkOf i.v = some c → c ≠ p ∧ blkOf vl ≠ some c ∧ blkOf vw ≠ some c ∧ ∀ j ∈ is, blkOf j.v ≠ some c) (hlen : is.length ≤ 900) (hn : S.n ≤ 900000000) :
    Runs X2 24 [.ptr p 0, i.v] S fun _ T => Kp S T p vl vw i is := by
  have hird : Es S i.v i.cs := hi.rd
  have hpn := b.ok _ _ b.at_
  have hsm := hi.small
  dsimp only at hsm
  refine Runs_fn (m := 112) (by kernel_rfl) Tryd.func24 rfl (by kernel_rfl) (by kernel_rfl) ?_
  repeat (
    first
      | refine W_seq ?_
      | refine W_region ?_
      | refine WO_dst rfl rfl (by kernel_rfl) (by kernel_rfl) ?_
      | refine Ev_load rfl rfl rfl b.at_ rfl b.l.self ?_
      | refine Ev_move rfl ?_
      | refine Ev_nilCheck rfl ?_
      | refine Ev_fieldAddr rfl rfl rfl rfl rfl rfl ?_)
  refine Ev_buildSlice rfl rfl rfl rfl rfl (afill_one hi.one) b.ok (by omega) ?_
  intro S1 n1 ok1 q1 f1
  have hlo1 : OwA S1 vl 22 1 (is.map It.v) is.length := b.lo.keep (fun c hc => f1 c (b.l.lt b.ok hc))
  have hone : [i.v].all AV.one = true := by simp [hi.one]
  have hnew1 : Rd S1 (.slice S.n 0 1 (.ex 1)) 1 [i.v] 1 := Rd_lit q1 rfl rfl
  repeat (
    refine WO_dst rfl rfl (by kernel_rfl) (by kernel_rfl) ?_)
  refine Ev_append_a rfl rfl rfl rfl rfl rfl rfl rfl rfl rfl hlo1 (by decide) hnew1 hone ok1 (by omega) (by dsimp only; omega) (by omega) ?_
  intro vl2 S2 n2 ok2 lo2 f2 hb2
  have hat2 : S2.h.get p = some (.cells 50 [vl, vw, .int .i64 h, .bool false] false) := by rw [f2 p b.lp (by omega), f1 p hpn]; exact b.at_
  repeat (
    first
      | refine WO_dst rfl rfl (by kernel_rfl) (by kernel_rfl) ?_
      | refine WO_no rfl rfl ?_
      | refine Ev_nilCheck rfl ?_
      | refine Ev_fieldAddr rfl rfl rfl rfl rfl rfl ?_)
  refine Ev_store rfl rfl rfl (by rw [(owa_cells1 lo2).1]; rfl) (by rw [(owa_cells1 lo2).1]; exact (owa_cells1 lo2).2) hat2 (by rw [(owa_cells1 lo2).1]; show 0 + 1 ≤ 4; omega) (by omega) ?_
  intro S3 n3 q3 f3
  have ok3 : Sok S3 := sok_upd ok2 (by omega) n3 q3 f3
  have e3 : lput [vl, vw, .int .i64 h, .bool false] 0 vl2.cells = [vl2, vw, .int .i64 h, .bool false] := by rw [(owa_cells1 lo2).1]; rfl
  have hat3 : S3.h.get p = some (.cells 50 [vl2, vw, .int .i64 h, .bool false] false) := q3.trans (congrArg (fun z => some (AB.cells 50 z false)) e3)
  have fr3 : ∀ c, c < S.n → c ≠ p → blkOf vl ≠ some c → S3.h.get c = S.h.get c := fun c h1 h2 h3 => by rw [f3 c h2, f2 c h3 (by omega), f1 c h1]
  have wo3 : OwA S3 vw 22 1 (is.map It.w) is.length := b.wo.keep (fun c hc => fr3 c (b.w.lt b.ok hc) (fun e => b.wp (by rw [hc, e])) (fun e => b.lw c e hc))
  have ird3 : Es S3 i.v i.cs := hird.keep (fun c hc => fr3 c (hird.lt b.ok hc) (hb c hc).1 (hb c hc).2.1)
  have lo3 : OwA S3 vl2 22 1 (is.map It.v ++ [i.v]) (is.length + 1) := lo2.keep (fun c hc => f3 c (fun e => by rw [hb2] at hc; cases hc; omega))
  have hD : ∀ f ∈ [(⟨p, .cells 50 [vl2, vw, .int .i64 h, .bool false] false, none⟩ : Fct)], S3.h.get f.id = some f.x := by
    intro f hf; rw [List.mem_singleton] at hf; subst hf; exact hat3
  repeat (
    first
      | refine W_seq ?_
      | refine WO_nil ?_
      | refine V_seq ?_)
  refine W_drawnZ 11 [⟨p, .cells 50 [vl2, vw, .int .i64 h, .bool false] false, none⟩] ?_ (by kernel_rfl) ?_
  · intro f hf; rw [List.mem_singleton] at hf; subst hf; exact ⟨rfl, by dsimp only; omega, hat3⟩
  repeat (
    first
      | refine WZ_pa rfl rfl (by kernel_rfl) (by kernel_rfl) rfl ?_
      | refine Ev_move rfl ?_
      | refine Ev_nilCheck rfl ?_
      | refine Ev_fieldAddr rfl rfl rfl rfl rfl rfl ?_)
  refine WZ_rf (by kernel_rfl) rfl rfl (by kernel_rfl) (by kernel_rfl) hD (FPD_load rfl rfl rfl (pt_of hat3) rfl (fun b hb => by cases hb; exact ⟨_, List.mem_cons_self .., rfl, hat3, fun j hj => by cases hj⟩)) wo3.rd.self ?_
  repeat (
    first
      | refine WZ_pa rfl rfl (by kernel_rfl) (by kernel_rfl) rfl ?_
      | refine Ev_move rfl ?_)
  refine WZ_ld rfl rfl (by kernel_rfl) (by kernel_rfl) (fun _ _ => rfl) ?_
  refine Ev_append (cs := []) (m := 0) rfl rfl rfl rfl rfl rfl rfl rfl rfl rfl (.inl ⟨rfl, rfl, rfl⟩) ird3 (cellsE_one _) ok3 (by omega) (by dsimp only; omega) (by omega) ?_
  intro w4 S4 le4 n4 ok4 ow4 f4 b4
  have hat4 : S4.h.get p = some (.cells 50 [vl2, vw, .int .i64 h, .bool false] false) := by rw [f4 p (by simp [blkOf]) (by omega)]; exact hat3
  have hD4 : ∀ f ∈ [(⟨p, .cells 50 [vl2, vw, .int .i64 h, .bool false] false, none⟩ : Fct)], S4.h.get f.id = some f.x := by
    intro f hf; rw [List.mem_singleton] at hf; subst hf; exact hat4
  have hone4 : AV.one w4 = true := by rcases ow4 with ⟨e, _⟩ | ⟨_, e, _⟩ <;> rw [e] <;> rfl
  have hb4 : ∀ c, blkOf w4 = some c → S3.n ≤ c := fun c hc => (b4 c hc).resolve_left (by simp [blkOf])
  refine ⟨fun _ => hD4, [], by simp, ?_⟩
  refine WZ_pa rfl rfl (by kernel_rfl) (by kernel_rfl) rfl ?_
  refine Ev_buildSlice rfl rfl rfl rfl rfl (afill_one hone4) ok4 (by omega) ?_
  intro S5 n5 ok5 q5 f5
  have wo5 : OwA S5 vw 22 1 (is.map It.w) is.length := wo3.keep (fun c hc => by rw [f5 c (by have := wo3.lt ok3 hc; omega), f4 c (by simp [blkOf]) (wo3.lt ok3 hc)])
  have hone5 : [w4].all AV.one = true := by simp [hone4]
  have hnew5 : Rd S5 (.slice S4.n 0 1 (.ex 1)) 1 [w4] 1 := Rd_lit q5 rfl rfl
  refine WZ_ld rfl rfl (by kernel_rfl) (by kernel_rfl) (fun _ _ => rfl) ?_
  refine Ev_append_a rfl rfl rfl rfl rfl rfl rfl rfl rfl rfl wo5 (by decide) hnew5 hone5 ok5 (by omega) (by dsimp only; omega) (by omega) ?_
  intro vw2 S6 n6 ok6 wo6 f6 hb6
  have hat5 : S5.h.get p = some (.cells 50 [vl2, vw, .int .i64 h, .bool false] false) := by rw [f5 p (by omega)]; exact hat4
  have hat6 : S6.h.get p = some (.cells 50 [vl2, vw, .int .i64 h, .bool false] false) := by rw [f6 p b.wp (by omega)]; exact hat5
  refine ⟨fun _ => fun f hf => (by rw [List.append_nil, List.mem_singleton] at hf; subst hf; exact hat6), [], by simp, ?_⟩
  repeat (
    first
      | refine WZ_pa rfl rfl (by kernel_rfl) (by kernel_rfl) rfl ?_
      | refine Ev_nilCheck rfl ?_
      | refine Ev_fieldAddr rfl rfl rfl rfl rfl rfl ?_)
  refine WZ_ld0 rfl rfl (fun _ _ => rfl) ?_
  refine Ev_store rfl rfl rfl (by rw [(owa_cells1 wo6).1]; rfl) (by rw [(owa_cells1 wo6).1]; exact (owa_cells1 wo6).2) hat6 (by rw [(owa_cells1 wo6).1]; show 1 + 1 ≤ 4; omega) (by omega) ?_
  intro S7 n7 q7 f7
  refine ⟨fun h => absurd h (by decide), [], by simp, ?_⟩
  have ok7 : Sok S7 := sok_upd ok6 (by omega) n7 q7 f7
  have e7 : lput [vl2, vw, .int .i64 h, .bool false] 1 vw2.cells = [vl2, vw2, .int .i64 h, .bool false] := by rw [(owa_cells1 wo6).1]; rfl
  have hat7 : S7.h.get p = some (.cells 50 [vl2, vw2, .int .i64 h, .bool false] false) := q7.trans (congrArg (fun z => some (AB.cells 50 z false)) e7)
  have fr7 : ∀ c, c < S.n → c ≠ p → blkOf vl ≠ some c → blkOf vw ≠ some c → S7.h.get c = S.h.get c := fun c h1 h2 h3 h4 => by rw [f7 c h2, f6 c h4 (by omega), f5 c (by omega), f4 c (by simp [blkOf]) (by omega), fr3 c h1 h2 h3]
  have b7 : Bk S7 p vl2 vw2 h (is ++ [{ i with w := w4 }]) := by
    have hlt4 : ∀ c, blkOf w4 = some c → c < S4.n := fun c hc => ow4.rd.lt ok4 hc
    have hivlt : ∀ c, blkOf i.v = some c → c < S.n := fun c hc => hird.lt b.ok hc
    refine ⟨ok7, hat7, ?_, ?_, ?_, ?_, ?_, ?_, ?_, ?_, by simp; omega⟩
    · rw [List.map_append, List.length_append]
      exact lo3.keep (fun c hc => by rw [hb2] at hc; cases hc; rw [f7 _ (by omega), f6 _ (fun e => by have := b.w.lt b.ok e; omega) (by omega), f5 _ (by omega), f4 _ (by simp [blkOf]) (by omega)])
    · rw [List.map_append, List.length_append]
      exact wo6.keep (fun c hc => by rw [hb6] at hc; cases hc; rw [f7 _ (by omega)])
    · intro j hj
      rw [List.mem_append] at hj
      rcases hj with hj | hj
      · exact (b.it j hj).keep (fun c hc => fr7 c ((b.it j hj).rd.lt b.ok hc) (b.ip j hj c (.inl hc)).1 (b.ip j hj c (.inl hc)).2.1 (b.ip j hj c (.inl hc)).2.2) (fun c hc => fr7 c ((b.it j hj).wr.lt b.ok hc) (b.ip j hj c (.inr hc)).1 (b.ip j hj c (.inr hc)).2.1 (b.ip j hj c (.inr hc)).2.2)
      · rw [List.mem_singleton] at hj; subst hj
        have h7 := hi.keep (U := S7) (fun c hc => fr7 c (hivlt c hc) (hb c hc).1 (hb c hc).2.1 (hb c hc).2.2.1) (fun c hc => fr7 c (hivlt c hc) (hb c hc).1 (hb c hc).2.1 (hb c hc).2.2.1)
        refine ⟨h7.kind, h7.lim, ?_, h7.small⟩
        have hw4 : Es S4 w4 i.cs := by have := ow4.rd; rw [List.nil_append, Nat.zero_add] at this; exact this
        exact hw4.keep (fun c hc => by have := hlt4 c hc; have := hb4 c hc; rw [f7 c (by omega), f6 c (fun e => by have := b.w.lt b.ok e; omega) (by omega), f5 c (by omega)])
    · rw [hb2]; intro e; cases e; omega
    · rw [hb6]; intro e; cases e; omega
    · intro c hc; rw [hb2] at hc; have hc2 := Option.some.inj hc; rw [hb6]; intro e; have e2 := Option.some.inj e; omega
    · intro j hj c hc
      rw [hb2, hb6]
      rw [List.mem_append] at hj
      rcases hj with hj | hj
      · have hlt : c < S.n := by
          rcases hc with hc | hc
          · exact (b.it j hj).rd.lt b.ok hc
          · exact (b.it j hj).wr.lt b.ok hc
        exact ⟨(b.ip j hj c hc).1, fun e => by cases e; omega, fun e => by cases e; omega⟩
      · rw [List.mem_singleton] at hj; subst hj
        rcases hc with hc | hc
        · have := hivlt c hc
          exact ⟨(hb c hc).1, fun e => by cases e; omega, fun e => by cases e; omega⟩
        · have := hlt4 c hc; have := hb4 c hc
          exact ⟨by omega, fun e => by cases e; omega, fun e => by cases e; omega⟩
    · intro j k x y c hj hk hne hx hy
      have key : ∀ (q : Nat) (z : It), (is ++ [{ i with w := w4 }])[q]? = some z → (is[q]? = some z ∧ q < is.length) ∨ (q = is.length ∧ z.v = i.v) := by
        intro q z hq
        by_cases hlt : q < is.length
        · rw [List.getElem?_append_left hlt] at hq; exact .inl ⟨hq, hlt⟩
        · have h2 := (List.getElem?_eq_some_iff.1 hq).1
          simp at h2
          have : q = is.length := by omega
          subst this
          simp at hq
          exact .inr ⟨rfl, by rw [← hq]⟩
      rcases key j x hj with ⟨h1, h2⟩ | ⟨h1, h2⟩ <;> rcases key k y hk with ⟨h3, h4⟩ | ⟨h3, h4⟩
      · exact b.dis j k x y c h1 h3 hne hx hy
      · rw [h4] at hy; exact (hb c hy).2.2.2 x (List.mem_of_getElem? h1) hx
      · rw [h2] at hx; exact (hb c hx).2.2.2 y (List.mem_of_getElem? h3) hy
      · omega
  have hi7 : ItOK S7 { i with w := w4 } := b7.it _ (by simp)
  repeat (
    first
      | refine WZ_nil ?_
      | refine W_seq ?_
      | refine V_seq ?_
      | refine W_region ?_
      | refine WO_dst rfl rfl (by kernel_rfl) (by kernel_rfl) ?_
      | refine Ev_load rfl rfl rfl b7.at_ rfl (veq_int _ _) ?_
      | refine Ev_cap_it (i := { i with w := w4 }) rfl rfl rfl rfl rfl hi7 ?_
      | refine Ev_move rfl ?_
      | refine Ev_nilCheck rfl ?_
      | refine Ev_fieldAddr rfl rfl rfl rfl rfl rfl ?_)
  refine Ev_addw rfl rfl ?_
  refine WO_dst rfl rfl (by kernel_rfl) (by kernel_rfl) ?_
  refine Ev_addw rfl rfl ?_
  repeat (
    first
      | refine WO_dst rfl rfl (by kernel_rfl) (by kernel_rfl) ?_
      | refine WO_no rfl rfl ?_
      | refine Ev_nilCheck rfl ?_
      | refine Ev_fieldAddr rfl rfl rfl rfl rfl rfl ?_)
  refine Ev_store rfl rfl rfl rfl rfl b7.at_ (by simp [AV.cells]) (by omega) ?_
  intro S8 n8 q8 f8
  have b8 := b7.held n8 q8 f8
  repeat (
    first
      | refine WO_nil ?_
      | refine V_seq ?_
      | refine W_block ?_)
  refine W_inv (fun _ : AV × AV × Int × List It => [(0, .ptr p 0), (1, i.v)]) (fun a T => Bk T p a.1 a.2.1 a.2.2.1 a.2.2.2 ∧ T.n = S8.n ∧ (∀ c, c ≠ p → T.h.get c = S8.h.get c) ∧ (∃ k, a.2.2.2 = (is ++ [{ i with w := w4 }]).drop k ∧ k ≤ is.length) ∧ blkOf a.1 = some S1.n ∧ blkOf a.2.1 = some S5.n) (fun a => a.2.2.2.length) ?_ (vl2, vw2, _, is ++ [{ i with w := w4 }]) ⟨b8, rfl, fun _ _ => rfl, ⟨0, rfl, Nat.zero_le _⟩, hb2, hb6⟩ ⟨rfl, rfl, trivial⟩
  rintro ⟨ul, uw, uh, us⟩ T ⟨hb', hTn, hTf, ⟨k, hk, hkl⟩, hbl, hbw⟩ back
  dsimp only at hb' hk hbl hbw back
  have hend : Kp S T p vl vw i is := by
    refine ⟨⟨ul, uw, uh, w4, k, by rw [← hk]; exact hb', hkl, fun c hc => by rw [hbl] at hc; cases hc; omega, fun c hc => by rw [hbw] at hc; cases hc; omega, fun c hc => by have := hb4 c hc; omega⟩, by omega, by omega, fun c h1 h2 h3 h4 => by rw [hTf c h2, f8 c h2, fr7 c h1 h2 h3 h4]⟩
  have hpn' := hb'.ok _ _ hb'.at_
  have hfew := hb'.few
  repeat' (
    first
      | refine W_seq ?_
      | refine WO_nil ?_
      | refine V_seq ?_
      | refine W_region ?_
      | refine W_skip ?_
      | refine W_block ?_
      | refine W_exit ?_
      | refine V_block_x rfl ?_
      | refine V_seq_x ?_
      | refine V_loop_x ?_
      | refine W_cond_t rfl ?_
      | refine W_cond_f rfl ?_
      | refine WO_dst rfl rfl (by kernel_rfl) (by kernel_rfl) ?_
      | refine WO_guard_t rfl rfl rfl rfl rfl (by kernel_rfl) (by kernel_rfl) ?_
      | refine WO_guard_f rfl rfl rfl rfl rfl rfl (by kernel_rfl) (by kernel_rfl) ?_
      | refine WO_guard_x rfl rfl rfl rfl rfl (by kernel_rfl) (by kernel_rfl) ?_
      | refine Ev_load rfl rfl rfl hb'.at_ rfl hb'.l.self ?_
      | refine Ev_load rfl rfl rfl hb'.at_ rfl (veq_int _ _) ?_
      | refine Ev_len rfl rfl rfl rfl rfl hb'.l.len ?_
      | refine Ev_move rfl ?_
      | refine Ev_pick_t rfl rfl rfl ?_
      | refine Ev_pick_f rfl rfl rfl ?_
      | refine Ev_gtrN rfl rfl ?_
      | refine Ev_gtr rfl rfl ?_
      | refine Ev_nilCheck rfl ?_
      | refine Ev_fieldAddr rfl rfl rfl rfl rfl rfl ?_
      | (refine WO_guard_dt rfl rfl rfl rfl rfl (by kernel_rfl) (by kernel_rfl) (fun hg => ?_) (fun hg => ?_) <;> (try dsimp only at hg) <;> try (exfalso; first | omega | exact hg rfl))
      | (refine WO_guard_df rfl rfl rfl rfl rfl (by kernel_rfl) (by kernel_rfl) (fun hg => ?_) (fun hg => ?_) <;> (try dsimp only at hg) <;> try (exfalso; first | omega | exact hg rfl))
      | (refine W_cond rfl (fun hc => ?_) (fun hc => ?_) <;> (try dsimp only at hc) <;> try (exfalso; first | omega | exact hc rfl)))
  · refine V_done rfl rfl ?_
    exact hend
  · have h1l : 1 < us.length := by assumption
    have hit0 := hb'.it _ (List.getElem_mem (show 0 < us.length by omega))
    have hs0 := hit0.small
    refine W_drawn (by kernel_rfl) ?_
    repeat' (
      first
        | refine WO_dst rfl rfl (by kernel_rfl) (by kernel_rfl) ?_
        | refine WO_guard_t rfl rfl rfl rfl rfl (by kernel_rfl) (by kernel_rfl) ?_
        | refine Ev_load rfl rfl rfl hb'.at_ rfl hb'.l.self ?_
        | refine Ev_load rfl rfl rfl hb'.at_ rfl (show veq (.bool false) (.bool false) = true from rfl) ?_
        | refine Ev_move rfl ?_
        | refine Ev_nilCheck rfl ?_
        | refine Ev_fieldAddr rfl rfl rfl rfl rfl rfl ?_)
    refine Ev_indexAddr_rd (i := 0) rfl rfl rfl rfl rfl hb'.l (by omega) ?_
    intro q hq
    repeat (
      first
        | refine WO_dst rfl rfl (by kernel_rfl) (by kernel_rfl) ?_
        | refine WO_guard_t rfl rfl rfl rfl rfl (by kernel_rfl) (by kernel_rfl) ?_)
    refine Ev_load_pt rfl rfl rfl hq (map_get (show 0 < us.length by omega)) hit0.rd.self ?_
    repeat (
      first
        | refine WO_dst rfl rfl (by kernel_rfl) (by kernel_rfl) ?_
        | refine WO_guard_t rfl rfl rfl rfl rfl (by kernel_rfl) (by kernel_rfl) ?_
        | refine Ev_load rfl rfl rfl hb'.at_ rfl hb'.w.self ?_
        | refine Ev_move rfl ?_
        | refine Ev_nilCheck rfl ?_
        | refine Ev_fieldAddr rfl rfl rfl rfl rfl rfl ?_)
    refine Ev_indexAddr_rd (i := 0) rfl rfl rfl rfl rfl hb'.w (by omega) ?_
    intro q2 hq2
    repeat (
      first
        | refine WO_dst rfl rfl (by kernel_rfl) (by kernel_rfl) ?_
        | refine WO_guard_t rfl rfl rfl rfl rfl (by kernel_rfl) (by kernel_rfl) ?_)
    refine Ev_load_pt rfl rfl rfl hq2 (map_get (show 0 < us.length by omega)) hit0.wr.self ?_
    repeat (
      first
        | refine WO_dst rfl rfl (by kernel_rfl) (by kernel_rfl) ?_
        | refine WO_guard_t rfl rfl rfl rfl rfl (by kernel_rfl) (by kernel_rfl) ?_)
    refine Ev_call rfl rfl ((esame_runs hit0.rd hit0.wr ⟨by omega, by omega⟩).mono ?_)
    rintro _ T2 - ⟨rfl, hT2⟩
    rw [hT2, decide_eq_true rfl]
    repeat' (
      first
        | refine WO_dst rfl rfl (by kernel_rfl) (by kernel_rfl) ?_
        | refine WO_no rfl rfl ?_
        | refine WO_guard_t rfl rfl rfl rfl rfl (by kernel_rfl) (by kernel_rfl) ?_
        | refine Ev_pick_f rfl rfl rfl ?_
        | refine Ev_notb rfl ?_
        | refine Ev_nilCheck rfl ?_
        | refine Ev_fieldAddr rfl rfl rfl rfl rfl rfl ?_)
    refine Ev_store rfl rfl rfl rfl rfl hb'.at_ (by simp [AV.cells]) (by omega) ?_
    intro U1 un1 uq1 uf1
    have c1 := hb'.held (h' := uh) un1 uq1 uf1
    repeat (
      first
        | refine W_seq ?_
        | refine WO_nil ?_
        | refine V_seq ?_)
    refine W_drawn (by kernel_rfl) ?_
    repeat (
      first
        | refine WO_dst rfl rfl (by kernel_rfl) (by kernel_rfl) ?_
        | refine Ev_load rfl rfl rfl c1.at_ rfl c1.l.self ?_
        | refine Ev_load rfl rfl rfl c1.at_ rfl (veq_int _ _) ?_
        | refine Ev_move rfl ?_
        | refine Ev_nilCheck rfl ?_
        | refine Ev_fieldAddr rfl rfl rfl rfl rfl rfl ?_)
    refine Ev_indexAddr_rd (i := 0) rfl rfl rfl rfl rfl c1.l (by omega) ?_
    intro q3 hq3
    repeat (
      refine WO_dst rfl rfl (by kernel_rfl) (by kernel_rfl) ?_)
    refine Ev_load_pt rfl rfl rfl hq3 (map_get (show 0 < us.length by omega)) hit0.rd.self ?_
    repeat (
      first
        | refine WO_dst rfl rfl (by kernel_rfl) (by kernel_rfl) ?_
        | refine Ev_cap_it (i := us[0]) rfl rfl rfl rfl rfl hit0 ?_)
    refine Ev_subw rfl rfl ?_
    refine WO_dst rfl rfl (by kernel_rfl) (by kernel_rfl) ?_
    refine Ev_subw rfl rfl ?_
    repeat (
      first
        | refine WO_dst rfl rfl (by kernel_rfl) (by kernel_rfl) ?_
        | refine WO_no rfl rfl ?_
        | refine Ev_nilCheck rfl ?_
        | refine Ev_fieldAddr rfl rfl rfl rfl rfl rfl ?_)
    refine Ev_store rfl rfl rfl rfl rfl c1.at_ (by simp [AV.cells]) (by omega) ?_
    intro U2 un2 uq2 uf2
    obtain ⟨h2, c2⟩ : ∃ h2, Bk U2 p ul uw h2 us := ⟨_, c1.held un2 uq2 uf2⟩
    repeat (
      first
        | refine W_seq ?_
        | refine WO_nil ?_
        | refine V_seq ?_
        | refine W_region ?_
        | refine WO_dst rfl rfl (by kernel_rfl) (by kernel_rfl) ?_
        | refine Ev_load rfl rfl rfl c2.at_ rfl c2.l.self ?_
        | refine Ev_move rfl ?_
        | refine Ev_nilCheck rfl ?_
        | refine Ev_fieldAddr rfl rfl rfl rfl rfl rfl ?_)
    refine Ev_slice_a (lo := 1) rfl rfl rfl rfl rfl c2.lo h1l ?_
    intro xl hxl hxlb
    repeat (
      first
        | refine WO_dst rfl rfl (by kernel_rfl) (by kernel_rfl) ?_
        | refine WO_no rfl rfl ?_
        | refine Ev_nilCheck rfl ?_
        | refine Ev_fieldAddr rfl rfl rfl rfl rfl rfl ?_)
    refine Ev_store rfl rfl rfl (by rw [(owa_cells1 hxl).1]; rfl) (by rw [(owa_cells1 hxl).1]; exact (owa_cells1 hxl).2) c2.at_ (by rw [(owa_cells1 hxl).1]; show 0 + 1 ≤ 4; omega) (by omega) ?_
    intro U3 un3 uq3 uf3
    have at3 : U3.h.get p = some (.cells 50 [xl, uw, .int .i64 h2, .bool false] false) := uq3.trans (congrArg (fun z => some (AB.cells 50 z false)) (by rw [(owa_cells1 hxl).1]; rfl))
    have wo3' : OwA U3 uw 22 1 (us.map It.w) us.length := c2.wo.keep (fun c hc => uf3 c (fun e => c2.wp (by rw [hc, e])))
    repeat (
      first
        | refine WO_nil ?_
        | refine V_seq ?_
        | refine W_region ?_
        | refine WO_dst rfl rfl (by kernel_rfl) (by kernel_rfl) ?_
        | refine Ev_load rfl rfl rfl at3 rfl wo3'.rd.self ?_
        | refine Ev_move rfl ?_
        | refine Ev_nilCheck rfl ?_
        | refine Ev_fieldAddr rfl rfl rfl rfl rfl rfl ?_)
    refine Ev_slice_a (lo := 1) rfl rfl rfl rfl rfl wo3' h1l ?_
    intro xw hxw hxwb
    repeat (
      first
        | refine WO_dst rfl rfl (by kernel_rfl) (by kernel_rfl) ?_
        | refine WO_no rfl rfl ?_
        | refine Ev_nilCheck rfl ?_
        | refine Ev_fieldAddr rfl rfl rfl rfl rfl rfl ?_)
    refine Ev_store rfl rfl rfl (by rw [(owa_cells1 hxw).1]; rfl) (by rw [(owa_cells1 hxw).1]; exact (owa_cells1 hxw).2) at3 (by rw [(owa_cells1 hxw).1]; show 1 + 1 ≤ 4; omega) (by omega) ?_
    intro U4 un4 uq4 uf4
    have at4 : U4.h.get p = some (.cells 50 [xl, xw, .int .i64 h2, .bool false] false) := uq4.trans (congrArg (fun z => some (AB.cells 50 z false)) (by rw [(owa_cells1 hxw).1]; rfl))
    have f24 : ∀ c, c ≠ p → U4.h.get c = U2.h.get c := fun c hc => by rw [uf4 c hc, uf3 c hc]
    have ok4' : Sok U4 := sok_upd (sok_upd c2.ok (by omega) un3 at3 uf3) (by omega) un4 at4 uf4
    have c4 : Bk U4 p xl xw h2 (us.drop 1) := c2.drop1 ok4' at4 (hxl.keep (fun c hc => f24 c (fun e => c2.lp (by rw [← hxlb, hc, e])))) (hxw.keep (fun c hc => uf4 c (fun e => c2.wp (by rw [← hxwb, hc, e])))) hxlb hxwb f24
    repeat (
      first
        | refine WO_nil ?_
        | refine V_block ?_)
    have hkk := congrArg List.length hk
    simp at hkk
    refine back (xl, xw, h2, us.drop 1) U4 _ (by dsimp only; rw [List.length_drop]; omega) ⟨c4, by omega, fun c hc => by rw [f24 c hc, uf2 c hc, uf1 c hc, hTf c hc], ⟨k + 1, by dsimp only; rw [hk, List.drop_drop], by omega⟩, hxlb.trans hbl, hxwb.trans hbw⟩ ⟨rfl, rfl, trivial⟩
  · refine V_done rfl rfl ?_
    exact hend
end Go.Proofs.YtnlfcoojlgdgaaaDoor
/- Keeping a list whose capacity the run chooses. (NODRAWN) -/


namespace Go.Proofs.YtnlfcoojlgdgaaaDoor
open GX
set_option maxHeartbeats 16000000
set_option maxRecDepth 100000
theorem known_true2 {S : St} {R : AV → St → Prop} (h : R (.bool true) S) : Runs X2 15 [] S R := Runs_ext (g := extTrue) rfl rfl (Nat.le_refl _) h
/-- a book knows nothing of a block -/
structure Fre (p : Nat) (vl vw : AV) (is : List It) (b : Nat) : Prop where
  p : b ≠ p
  l : blkOf vl ≠ some b
  w : blkOf vw ≠ some b
  it : ∀ j ∈ is, blkOf j.v ≠ some b ∧ blkOf j.w ≠ some b
theorem Bk.lts {T : St} {p : Nat} {vl vw : AV} {h : Int} {is : List It} (b : Bk T p vl vw h is) : p < T.n ∧ (∀ c, blkOf vl = some c → c < T.n) ∧ (∀ c, blkOf vw = some c → c < T.n) ∧ ∀ j ∈ is, ∀ c, blkOf j.v = some c ∨ blkOf j.w = some c → c < T.n :=
  ⟨b.ok _ _ b.at_, fun _ hc => b.l.lt b.ok hc, fun _ hc => b.w.lt b.ok hc, fun j hj _ hc => hc.elim (fun hc => (b.it j hj).rd.lt b.ok hc) (fun hc => (b.it j hj).wr.lt b.ok hc)⟩
/-- a block that is new is unknown to a book -/
theorem Bk.fre {T : St} {p : Nat} {vl vw : AV} {h : Int} {is : List It} (b : Bk T p vl vw h is) {c : Nat} (hc : T.n ≤ c) : Fre p vl vw is c := by
  obtain ⟨h1, h2, h3, h4⟩ := b.lts
  refine ⟨by omega, fun e => by have := h2 _ e; omega, fun e => by have := h3 _ e; omega, fun j hj => ⟨fun e => by have := h4 j hj _ (.inl e); omega, fun e => by have := h4 j hj _ (.inr e); omega⟩⟩
/-- what a book does not know may change -/
theorem Bk.other {T U : St} {p : Nat} {vl vw : AV} {h : Int} {is : List It} (b : Bk T p vl vw h is) (hok : Sok U) (hf : ∀ c, c < T.n → ¬ Fre p vl vw is c → U.h.get c = T.h.get c) : Bk U p vl vw h is := by
  obtain ⟨h1, h2, h3, h4⟩ := b.lts
  exact ⟨hok, by rw [hf p h1 (fun f => f.p rfl)]; exact b.at_, b.lo.keep (fun c hc => hf c (h2 c hc) (fun f => f.l hc)), b.wo.keep (fun c hc => hf c (h3 c hc) (fun f => f.w hc)),
    fun i hi => (b.it i hi).keep (fun c hc => hf c (h4 i hi c (.inl hc)) (fun f => (f.it i hi).1 hc)) (fun c hc => hf c (h4 i hi c (.inr hc)) (fun f => (f.it i hi).2 hc)), b.lp, b.wp, b.lw, b.ip, b.dis, b.few⟩
theorem Bk.far {T U : St} {p : Nat} {vl vw : AV} {h : Int} {is : List It} (b : Bk T p vl vw h is) (hok : Sok U) (hf : ∀ c, c < T.n → U.h.get c = T.h.get c) : Bk U p vl vw h is := b.other hok fun c hc _ => hf c hc
theorem Bk.new {T : St} {p : Nat} (hok : Sok T) (hat : T.h.get p = some (.cells 50 [.nils, .nils, .int .i64 0, .bool false] false)) : Bk T p .nils .nils 0 [] :=
  ⟨hok, hat, .inl ⟨rfl, rfl, rfl⟩, .inl ⟨rfl, rfl, rfl⟩, fun i hi => (by cases hi), by simp [blkOf], by simp [blkOf], by simp [blkOf], fun i hi => (by cases hi), fun j k a b c h => (by simp at h), by simp⟩
/-- a list that can be kept: its own block, whose capacity the run chooses, or is known; or an empty one -/
def Kz (S : St) (v : AV) (cs : List El) : Prop :=
  Own S v 5 1 (cellsE cs) cs.length ∨ (cs = [] ∧ ∃ b o, v = .slice b o 0 (.ex 0) ∧ Es S v []) ∨ ∃ b k extra, v = .slice b 0 cs.length (.ex k) ∧ S.h.get b = some (.cells 5 (cellsE cs ++ extra) true) ∧ cs.length ≤ k ∧ k ≤ cs.length + extra.length ∧ k < 9223372036854775808
theorem ex_rd {S : St} {b k : Nat} {cs : List El} {extra : List AV} (h1 : S.h.get b = some (.cells 5 (cellsE cs ++ extra) true)) (h2 : cs.length ≤ k) : Es S (.slice b 0 cs.length (.ex k)) cs := by
  refine ⟨?_, veq_slice _ _ _ _, rfl, rfl, ?_, by rw [cellsE_len]; omega⟩
  · show Nat.ble cs.length k = true
    rw [nble]; exact decide_eq_true (by omega)
  · unfold srcCells row; dsimp only; rw [h1]; dsimp only
    rw [nble, decide_eq_true (by rw [List.length_append, cellsE_len]; omega)]
    simp only [cond_true, List.drop_zero]
    rw [List.take_append_of_le_length (by rw [cellsE_len]; omega), List.take_of_length_le (by rw [cellsE_len]; omega)]
theorem Kz.rd {S : St} {v : AV} {cs : List El} (h : Kz S v cs) : Es S v cs := by
  rcases h with h | ⟨rfl, b, o, _, h⟩ | ⟨b, k, extra, rfl, h1, h2, h3, _⟩
  · exact h.rd
  · exact h
  · exact ex_rd h1 h2
theorem Kz.keep {S S' : St} {v : AV} {cs : List El} (h : Kz S v cs) (hk : ∀ b, blkOf v = some b → S'.h.get b = S.h.get b) : Kz S' v cs := by
  rcases h with h | ⟨e, b, o, e2, h⟩ | ⟨b, k, extra, rfl, h1, h2⟩
  · exact .inl (h.keep hk)
  · exact .inr (.inl ⟨e, b, o, e2, h.keep hk⟩)
  · exact .inr (.inr ⟨b, k, extra, rfl, by rw [hk b rfl]; exact h1, h2⟩)
theorem Kz.of {S : St} {v : AV} {cs : List El} (h : Gz S v 5 1 (cellsE cs) cs.length) : Kz S v cs := by
  rcases h with h | ⟨h1, h2, b, o, h3, h4⟩
  · exact .inl h
  · have : cs = [] := List.eq_nil_of_length_eq_zero h1
    subst this
    exact .inr (.inl ⟨rfl, b, o, h3, h4⟩)
theorem Kz.nil {S : St} : Kz S .nils [] := .inl (.inl ⟨rfl, rfl, rfl⟩)
section
variable [Val] {P : Go.Program} {X : X} {n : Nat} {ks : List Kt} {Q : Ex → Env → St → Prop} {l : L} {S : St} {all os : List Go.Oper}
/-- the capacity of a list becomes known -/
theorem SWO_it {d : Nat} {v : AV} {cs : List El} (hl : lk l d = some v) (hz : Kz S v cs) (hs : cs.length ≤ 10000000) (hok : Sok S) (hdn : Nat.blt d n = true) (hn' : Nat.blt n 1000001 = true)
    (h : ∀ it S', it.w = it.v → blkOf it.v = blkOf v → ItOK S' it → Sok S' → S'.n = S.n → (∀ y, blkOf v ≠ some y → S'.h.get y = S.h.get y) → SWO P n all os ks Q ((d, it.v) :: l) S') : SWO P n all os ks Q l S := by
  have weak : SWO P n all os ks Q ((d, v) :: l) S → SWO P n all os ks Q l S := by
    intro g
    unfold SWO at g ⊢
    exact fun e φ A w R i he hA hL ho => g e φ A w R i (fun t x hx => by
      unfold lk at hx
      rw [nbeq, cond_dec] at hx
      split at hx
      · rename_i e1; subst e1; cases hx; exact he _ _ hl
      · exact he t x hx) hA hL ho
  rcases hz with (⟨rfl, h2, h3⟩ | ⟨b, rfl, hb, hlen⟩) | ⟨rfl, b, o, rfl, h2⟩ | ⟨b, k, extra, rfl, h1, h2, h3, h4⟩
  · refine weak (h ⟨.nils, 0, [], [], .nils⟩ S rfl rfl ⟨.inr ⟨rfl, rfl, .inl rfl⟩, by decide, ⟨rfl, rfl, rfl, rfl, rfl, rfl⟩, Nat.zero_le _⟩ hok rfl fun _ _ => rfl)
  · refine SWO_cap hl hb hdn hn' ?_
    intro cp extra S' k1 k2 k3 k4 k5 k6
    have hl2 := cellsE_len cs
    refine h ⟨.slice b 0 cs.length (.ex cp), cp, cs, extra, .slice b 0 cs.length (.ex cp)⟩ S' rfl rfl ⟨.inl ⟨b, rfl, k5, k1, by dsimp only; omega⟩, k2, ex_rd k5 k1, hs⟩ (sok_upd hok (hok _ _ hb) k4 k5 k6) k4 (fun y hy => k6 y (fun e => hy (by rw [e]; rfl)))
  · refine weak (h ⟨.slice b o 0 (.ex 0), 0, [], [], .slice b o 0 (.ex 0)⟩ S rfl rfl ⟨.inr ⟨rfl, rfl, .inr ⟨b, o, rfl, h2⟩⟩, (by show 0 < _; decide), h2, Nat.zero_le _⟩ hok rfl fun _ _ => rfl)
  · refine weak (h ⟨.slice b 0 cs.length (.ex k), k, cs, extra, .slice b 0 cs.length (.ex k)⟩ S rfl rfl ⟨.inl ⟨b, rfl, h1, h2, h3⟩, h4, ex_rd h1 h2, hs⟩ hok rfl fun _ _ => rfl)
end
/-- a book, what is going to be kept in it, and what stays as it is -/
structure Pd (T : St) (p : Nat) (is : List It) (ps : List (AV × List El)) (qs : List (Nat × AB)) (m : Nat) : Prop where
  ex : ∃ vl vw h, Bk T p vl vw h is ∧ (∀ x ∈ ps, ∀ c, blkOf x.1 = some c → Fre p vl vw is c) ∧ ∀ y ∈ qs, Fre p vl vw is y.1
  few : is.length ≤ m
  kz : ∀ x ∈ ps, Kz T x.1 x.2 ∧ x.2.length ≤ 10000000
  dis : ps.Pairwise fun x y => ∀ c, blkOf x.1 = some c → blkOf y.1 ≠ some c
  st : ∀ y ∈ qs, T.h.get y.1 = some y.2 ∧ ∀ x ∈ ps, blkOf x.1 ≠ some y.1
theorem Pd.ok {T : St} {p : Nat} {is : List It} {ps : List (AV × List El)} {qs : List (Nat × AB)} {m : Nat} (h : Pd T p is ps qs m) : Sok T := by
  obtain ⟨_, _, _, hb, _⟩ := h.ex
  exact hb.ok
/-- the first of what is going to be kept is looked at -/
theorem Pd.cap {T U : St} {p : Nat} {is : List It} {v : AV} {cs : List El} {ps : List (AV × List El)} {qs : List (Nat × AB)} {m : Nat} {it : It} (h : Pd T p is ((v, cs) :: ps) qs m) (hv : blkOf it.v = blkOf v) (hok : Sok U) (hf : ∀ y, blkOf v ≠ some y → U.h.get y = T.h.get y) :
    Pd U p is ps qs m ∧ (∀ c, blkOf it.v = some c → (∀ x ∈ ps, blkOf x.1 ≠ some c) ∧ ∀ y ∈ qs, y.1 ≠ c) ∧ ∃ vl vw h, Bk U p vl vw h is ∧ (∀ x ∈ ps, ∀ c, blkOf x.1 = some c → Fre p vl vw is c) ∧ (∀ y ∈ qs, Fre p vl vw is y.1) ∧ ∀ c, blkOf it.v = some c → Fre p vl vw is c := by
  obtain ⟨vl, vw, hh, hb, hfr, hq⟩ := h.ex
  obtain ⟨hd1, hd2⟩ := List.pairwise_cons.1 h.dis
  have hb2 : Bk U p vl vw hh is := hb.other hok fun c _ hc => hf c (fun e => hc (hfr _ (List.mem_cons_self ..) c e))
  have hfr2 : ∀ x ∈ ps, ∀ c, blkOf x.1 = some c → Fre p vl vw is c := fun x hx => hfr x (List.mem_cons_of_mem _ hx)
  refine ⟨⟨⟨vl, vw, hh, hb2, hfr2, hq⟩, h.few, fun x hx => ?_, hd2, fun y hy => ?_⟩, fun c hc => ⟨fun x hx => hd1 x hx c (by rw [← hv]; exact hc), fun y hy e => (h.st y hy).2 _ (List.mem_cons_self ..) (by rw [e, ← hv]; exact hc)⟩, vl, vw, hh, hb2, hfr2, hq, fun c hc => hfr _ (List.mem_cons_self ..) c (by rw [← hv]; exact hc)⟩
  · obtain ⟨k1, k2⟩ := h.kz x (List.mem_cons_of_mem _ hx)
    exact ⟨k1.keep (fun c hc => hf c (fun e => hd1 x hx c e hc)), k2⟩
  · obtain ⟨k1, k2⟩ := h.st y hy
    exact ⟨by rw [hf _ (k2 _ (List.mem_cons_self ..))]; exact k1, fun x hx => k2 x (List.mem_cons_of_mem _ hx)⟩
/-- KEEP: the first of what is going to be kept is kept -/
theorem keep_pd {T : St} {p : Nat} {is : List It} {ps : List (AV × List El)} {qs : List (Nat × AB)} {m : Nat} {it : It} (hp : Pd T p is ps qs m) (hdis : ∀ c, blkOf it.v = some c → (∀ x ∈ ps, blkOf x.1 ≠ some c) ∧ ∀ y ∈ qs, y.1 ≠ c)
    (hbk : ∃ vl vw h, Bk T p vl vw h is ∧ (∀ x ∈ ps, ∀ c, blkOf x.1 = some c → Fre p vl vw is c) ∧ (∀ y ∈ qs, Fre p vl vw is y.1) ∧ ∀ c, blkOf it.v = some c → Fre p vl vw is c) (hw : it.w = it.v) (hi : ItOK T it) (hm : m ≤ 800) (hn : T.n ≤ 800000000) :
    Runs X2 24 [.ptr p 0, it.v] T fun _ U => (∃ is', Pd U p is' ps qs (m + 1)) ∧ T.n ≤ U.n ∧ U.n ≤ T.n + 10 := by
  obtain ⟨vl, vw, h, hb, hfr, hfq, hfi⟩ := hbk
  have hi2 : ItOK T { it with w := it.v } := by
    have e : { it with w := it.v } = it := by cases it; dsimp only at hw; subst hw; rfl
    rw [e]; exact hi
  have hfew := hp.few
  refine (keep_runs hb hi2 (fun c hc => ⟨(hfi c hc).p, (hfi c hc).l, (hfi c hc).w, fun j hj => ((hfi c hc).it j hj).1⟩) (by omega) (by omega)).mono ?_
  rintro _ U - ⟨⟨vl', vw', h', w, k, hb', hk, hl1, hl2, hl3⟩, g1, g2, g3⟩
  have hlt : ∀ x ∈ ps, ∀ c, blkOf x.1 = some c → c < T.n := fun x hx c hc => (hp.kz x hx).1.rd.lt hb.ok hc
  have hfre : ∀ c, c < T.n → Fre p vl vw is c → (∀ d, blkOf it.v = some d → d ≠ c) → Fre p vl' vw' ((is ++ [{ it with w := w }]).drop k) c := fun c hc2 hf hd => by
    refine ⟨hf.p, fun e => by have := hl1 c e; omega, fun e => by have := hl2 c e; omega, fun j hj => ?_⟩
    have hj2 := List.mem_of_mem_drop hj
    rcases List.mem_append.1 hj2 with hj3 | hj3
    · exact hf.it j hj3
    · rw [List.mem_singleton] at hj3; subst hj3
      exact ⟨fun e => hd c e rfl, fun e => by have := hl3 c e; omega⟩
  have hqlt : ∀ y ∈ qs, y.1 < T.n := fun y hy => hb.ok _ _ (hp.st y hy).1
  refine ⟨⟨_, ⟨⟨vl', vw', h', hb', fun x hx c hc => hfre c (hlt x hx c hc) (hfr x hx c hc) (fun d hd e => (hdis d hd).1 x hx (by rw [e]; exact hc)), fun y hy => hfre _ (hqlt y hy) (hfq y hy) (fun d hd e => (hdis d hd).2 y hy e.symm)⟩, ?_, fun x hx => ?_, hp.dis, fun y hy => ?_⟩⟩, g1, g2⟩
  · rw [List.length_drop, List.length_append, List.length_singleton]; omega
  · obtain ⟨k1, k2⟩ := hp.kz x hx
    exact ⟨k1.keep (fun c hc => g3 c (hlt x hx c hc) (hfr x hx c hc).p (hfr x hx c hc).l (hfr x hx c hc).w), k2⟩
  · obtain ⟨k1, k2⟩ := hp.st y hy
    exact ⟨by rw [g3 _ (hqlt y hy) (hfq y hy).p (hfq y hy).l (hfq y hy).w]; exact k1, k2⟩
/-- lists in new memory are going to be kept -/
theorem Pd.more {T U : St} {p : Nat} {is : List It} {m : Nat} {ps : List (AV × List El)} {qs qs' : List (Nat × AB)} (h : Pd T p is [] qs m) (hok : Sok U) (hf : ∀ c, c < T.n → U.h.get c = T.h.get c) (hz : ∀ x ∈ ps, Kz U x.1 x.2 ∧ x.2.length ≤ 10000000) (hn : ∀ x ∈ ps, ∀ c, blkOf x.1 = some c → T.n ≤ c) (hd : ps.Pairwise fun x y => ∀ c, blkOf x.1 = some c → blkOf y.1 ≠ some c)
    (hq : ∀ y ∈ qs', T.n ≤ y.1 ∧ U.h.get y.1 = some y.2 ∧ ∀ x ∈ ps, blkOf x.1 ≠ some y.1) : Pd U p is ps (qs ++ qs') m := by
  obtain ⟨vl, vw, hh, hb, _, hfq⟩ := h.ex
  refine ⟨⟨vl, vw, hh, hb.far hok hf, fun x hx c hc => hb.fre (hn x hx c hc), fun y hy => ?_⟩, h.few, hz, hd, fun y hy => ?_⟩
  · rcases List.mem_append.1 hy with hy | hy
    · exact hfq y hy
    · exact hb.fre (hq y hy).1
  · rcases List.mem_append.1 hy with hy | hy
    · have hlt := hb.ok _ _ (h.st y hy).1
      exact ⟨by rw [hf _ hlt]; exact (h.st y hy).1, fun x hx e => by have := hn x hx _ e; omega⟩
    · exact (hq y hy).2
theorem Pd.less {T : St} {p : Nat} {is : List It} {m : Nat} {ps : List (AV × List El)} {qs qs' : List (Nat × AB)} (h : Pd T p is ps (qs ++ qs') m) : Pd T p is ps qs m := by
  obtain ⟨vl, vw, hh, hb, hfr, hfq⟩ := h.ex
  exact ⟨⟨vl, vw, hh, hb, hfr, fun y hy => hfq y (List.mem_append_left _ hy)⟩, h.few, h.kz, h.dis, fun y hy => h.st y (List.mem_append_left _ hy)⟩
theorem Pd.start {T : St} {p : Nat} {qs : List (Nat × AB)} (hok : Sok T) (hat : T.h.get p = some (.cells 50 [.nils, .nils, .int .i64 0, .bool false] false)) (hq : ∀ y ∈ qs, T.h.get y.1 = some y.2 ∧ y.1 ≠ p) : Pd T p [] [] qs 0 :=
  ⟨⟨_, _, _, Bk.new hok hat, fun x hx => (by cases hx), fun y hy => ⟨(hq y hy).2, by simp [blkOf], by simp [blkOf], fun j hj => by cases hj⟩⟩, Nat.le_refl _, fun x hx => (by cases hx), .nil, fun y hy => ⟨(hq y hy).1, fun x hx => by cases hx⟩⟩
theorem apart_pd {S : St} {p : Nat} {is : List It} {m : Nat} {qs : List (Nat × AB)} (h : Pd S p is [] qs m) (hn : S.n ≤ 900000000) : Runs X2 26 [.ptr p 0, .func (.func 27) [] []] S fun r _ => r = .bool true := by
  obtain ⟨vl, vw, hh, hb, _⟩ := h.ex
  exact apart_runs hb hn
end Go.Proofs.YtnlfcoojlgdgaaaDoor
/- utf8.AppendRune, of runes that are valid. -/

namespace Go.Proofs.YtnlfcoojlgdgaaaDoor
open GX
set_option maxHeartbeats 4000000
def runeL (r : Nat) : List Nat :=
  if r ≤ 127 then [r] else if r ≤ 2047 then [192 + r / 64, 128 + r % 64] else if r ≤ 65535 then [224 + r / 4096, 128 + r / 64 % 64, 128 + r % 64]
  else [240 + r / 262144, 128 + r / 4096 % 64, 128 + r / 64 % 64, 128 + r % 64]
def okR (r : Nat) : Prop := r < 55296 ∨ 57343 < r ∧ r < 1114112
theorem encodeR_runeL {r : Nat} (h : okR r) : encodeR (r : Int) = runeL r := by
  unfold okR at h
  unfold encodeR runeL
  have hv : Utf8.valid (r : Int) = true := by unfold Utf8.valid; simp; omega
  rw [hv]
  simp only [if_true, Int.toNat_natCast, nblt, cond_dec]
  by_cases h1 : r ≤ 127
  · rw [if_pos (by omega), if_pos h1]
  · rw [if_neg (by omega), if_neg h1]
    by_cases h2 : r ≤ 2047
    · rw [if_pos (by omega), if_pos h2]
    · rw [if_neg (by omega), if_neg h2]
      by_cases h3 : r ≤ 65535
      · rw [if_pos (by omega), if_pos h3]
      · rw [if_neg (by omega), if_neg h3]
theorem runeL_len (r : Nat) : (runeL r).length ≤ 4 := by unfold runeL; (repeat' split) <;> simp
structure AppR (S : St) (v : AV) (l : List Nat) (v' : AV) (S' : St) : Prop where
  fr : Fr S S' v 2
  ow : Ow S' v' l
  bk : ∀ c, blkOf v' = some c → blkOf v = some c ∨ S.n ≤ c
theorem appN_runs {S : St} {v : AV} {l : List Nat} {r : Nat} (hv : Ow S v l) (hok : Sok S) (hn : S.n + 2 ≤ 1000000000) (hl : l.length ≤ 1000000000) (hr : okR r) (h128 : 127 < r) :
    Runs X1 59 [v, .int .i32 (r : Int)] S (AppR S v (l ++ runeL r)) := by
  unfold okR at hr
  have hr2 : r < 1114112 := by omega
  refine Runs_fn (m := 78) (by kernel_rfl) Tryd.func59 rfl (by kernel_rfl) (by kernel_rfl) ?_
  repeat' (
    first
      | refine W_seq ?_
      | refine WO_nil ?_
      | refine V_seq ?_
      | refine W_region ?_
      | refine W_block ?_
      | refine W_skip ?_
      | refine WO_dst rfl rfl (by kernel_rfl) (by kernel_rfl) ?_
      | refine WO_guard_t rfl rfl rfl rfl rfl (by kernel_rfl) (by kernel_rfl) ?_
      | refine Ev_move rfl ?_
      | refine Ev_assign rfl ?_
      | refine Ev_pick_t rfl rfl rfl ?_
      | refine Ev_lssN rfl rfl ?_
      | refine Ev_leqN rfl rfl ?_
      | refine Ev_gtrN rfl rfl ?_
      | refine Ev_shrN (m := 6) (q := 64) rfl rfl rfl rfl ?_
      | refine Ev_shrN (m := 12) (q := 4096) rfl rfl rfl rfl ?_
      | refine Ev_shrN (m := 18) (q := 262144) rfl rfl rfl rfl ?_
      | refine Ev_andN 6 64 rfl rfl rfl rfl (by simp only [lim]; omega) (by simp only [lim]; omega) ?_
      | refine Ev_orN 4 rfl rfl rfl (by first | omega | (dsimp only; done) | (dsimp only; omega)) (by first | omega | (dsimp only; done) | (dsimp only; omega)) (by simp only [lim]; omega) ?_
      | refine Ev_orN 5 rfl rfl rfl (by first | omega | (dsimp only; done) | (dsimp only; omega)) (by first | omega | (dsimp only; done) | (dsimp only; omega)) (by simp only [lim]; omega) ?_
      | refine Ev_orN 6 rfl rfl rfl (by first | omega | (dsimp only; done) | (dsimp only; omega)) (by first | omega | (dsimp only; done) | (dsimp only; omega)) (by simp only [lim]; omega) ?_
      | refine Ev_convN rfl rfl rfl rfl rfl (by simp only [lim]; omega) ?_
      | refine Ev_conv8 rfl rfl rfl rfl rfl ?_
      | (refine WO_guard_dt rfl rfl rfl rfl rfl (by kernel_rfl) (by kernel_rfl) (fun hg => ?_) (fun hg => ?_) <;> (try dsimp only at hg) <;> try (exfalso; first | omega | exact hg rfl))
      | (refine W_cond rfl (fun hc => ?_) (fun hc => ?_) <;> (try dsimp only at hc) <;> try (exfalso; first | omega | exact hc rfl)))
  all_goals
    refine Ev_buildSlice rfl rfl rfl rfl rfl rfl hok (by omega) ?_
    intro S1 hn1 hok1 hq1 hf1
    repeat (
      refine WO_dst rfl rfl (by kernel_rfl) (by kernel_rfl) ?_)
    refine Ev_append rfl rfl rfl rfl rfl rfl rfl rfl rfl rfl (hv.keep (fun b hb => hf1 b (hv.lt hok hb))) (Rd_lit hq1 rfl (by kernel_rfl)) rfl hok1 (by omega) (by dsimp only; omega) (by omega) ?_
    intro v2 S2 hle2 hn2 hok2 hown2 hf2 hb2
    repeat (
      first
        | refine WO_nil ?_
        | refine V_seq ?_
        | refine W_ret ?_
        | refine V_ret ?_
        | refine WO_dst rfl rfl (by kernel_rfl) (by kernel_rfl) ?_
        | refine Ev_assign rfl ?_)
    refine V_done rfl rfl ?_
    refine ⟨⟨by omega, by omega, hok2, fun c h1 h2 => by rw [hf2 c h1 (by omega), hf1 c h2]⟩, ?_, fun c hc => (hb2 c hc).imp id (fun h => by omega)⟩
    refine hown2.eq ?_ ?_
    · rw [sbytes_app]
      congr 1
      unfold runeL
      (repeat' split) <;> first | (exfalso; omega) | skip
      simp [sbytes, lput, rep, AV.cells]
      try omega
    · rw [List.length_append]
      unfold runeL
      (repeat' split) <;> first | (exfalso; omega) | rfl
theorem app_runs {S : St} {v : AV} {l : List Nat} {r : Nat} (hv : Ow S v l) (hok : Sok S) (hn : S.n + 2 ≤ 1000000000) (hl : l.length ≤ 1000000000) (hr : okR r) :
    Runs X1 47 [v, .int .i32 (r : Int)] S (AppR S v (l ++ runeL r)) := by
  have hr' := hr
  unfold okR at hr'
  refine Runs_fn (m := 16) (by kernel_rfl) Tryd.func47 rfl (by kernel_rfl) (by kernel_rfl) ?_
  repeat (
    first
      | refine W_seq ?_
      | refine WO_nil ?_
      | refine V_seq ?_
      | refine W_region ?_
      | refine WO_dst rfl rfl (by kernel_rfl) (by kernel_rfl) ?_
      | refine Ev_move rfl ?_
      | refine Ev_assign rfl ?_
      | refine Ev_leqN rfl rfl ?_
      | refine Ev_convN rfl rfl rfl rfl rfl (by simp only [lim]; omega) ?_)
  refine W_cond rfl (fun hc => ?_) (fun hc => ?_) <;> dsimp only at hc
  · repeat (
      first
        | refine W_seq ?_
        | refine W_region ?_
        | refine WO_dst rfl rfl (by kernel_rfl) (by kernel_rfl) ?_
        | refine Ev_move rfl ?_
        | refine Ev_convN rfl rfl rfl rfl rfl (by simp only [lim]; omega) ?_)
    refine Ev_buildSlice rfl rfl rfl rfl rfl rfl hok (by omega) ?_
    intro S1 hn1 hok1 hq1 hf1
    repeat (
      refine WO_dst rfl rfl (by kernel_rfl) (by kernel_rfl) ?_)
    refine Ev_append rfl rfl rfl rfl rfl rfl rfl rfl rfl rfl (hv.keep (fun b hb => hf1 b (hv.lt hok hb))) (Rd_lit hq1 rfl (by kernel_rfl)) rfl hok1 (by omega) (by dsimp only; omega) (by omega) ?_
    intro v2 S2 hle2 hn2 hok2 hown2 hf2 hb2
    repeat (
      first
        | refine WO_nil ?_
        | refine V_seq ?_
        | refine W_ret ?_
        | refine V_ret ?_
        | refine WO_dst rfl rfl (by kernel_rfl) (by kernel_rfl) ?_
        | refine Ev_assign rfl ?_)
    refine V_done rfl rfl ?_
    refine ⟨⟨by omega, by omega, hok2, fun c h1 h2 => by rw [hf2 c h1 (by omega), hf1 c h2]⟩, ?_, fun c hc => (hb2 c hc).imp id (fun h => by omega)⟩
    refine hown2.eq ?_ ?_
    · rw [sbytes_app]
      congr 1
      unfold runeL
      rw [if_pos hc]
      rfl
    · rw [List.length_append]
      unfold runeL
      rw [if_pos hc]
      rfl
  · repeat (
      first
        | refine W_seq ?_
        | refine V_seq ?_
        | refine W_region ?_
        | refine W_skip ?_
        | refine WO_dst rfl rfl (by kernel_rfl) (by kernel_rfl) ?_
        | refine Ev_move rfl ?_)
    refine Ev_call rfl rfl ((appN_runs hv hok hn hl hr (by omega)).mono ?_)
    rintro v2 S2 - hA
    repeat (
      first
        | refine WO_nil ?_
        | refine V_seq ?_
        | refine W_ret ?_
        | refine WO_dst rfl rfl (by kernel_rfl) (by kernel_rfl) ?_
        | refine Ev_assign rfl ?_)
    refine V_done rfl rfl ?_
    exact hA
end Go.Proofs.YtnlfcoojlgdgaaaDoor
/- mutf.one: the unit with which bytes begin. -/

namespace Go.Proofs.YtnlfcoojlgdgaaaDoor
open GX
set_option maxHeartbeats 4000000
/-- a slice of bytes that may be read -/
abbrev Br (S : St) (v : AV) (l : List Nat) : Prop := Rd S v 1 (sbytes l) l.length
theorem tail_runs {S : St} {v : AV} {l : List Nat} {q i : Nat} (hq : S.h.get q = some (.cells 22 [v] false)) (hv : Br S v l) (hb : ∀ c ∈ l, c < 256) (hi : i < l.length) :
    Runs X1 58 [.int .i64 (i : Int), .ptr q 0] S fun r S' => S' = S ∧ r = .tup [.int .i32 ((l.getD i 0 % 64 : Nat) : Int), .bool (decide (l.getD i 0 / 64 * 64 = 128))] := by
  have hx : (sbytes l)[i * 1]? = some (.int .u8 ((l.getD i 0 : Nat) : Int)) := by rw [Nat.mul_one, sbytes_get hi]
  have h8 : l.getD i 0 < 256 := getD_lt hb (by omega)
  generalize l.getD i 0 = c at *
  refine Runs_fn (m := 17) (by kernel_rfl) Tryd.func58 rfl (by kernel_rfl) (by kernel_rfl) ?_
  repeat (
    first
      | refine W_seq ?_
      | refine WO_nil ?_
      | refine V_seq ?_
      | refine W_region ?_
      | refine W_drawn (by kernel_rfl) ?_
      | refine WO_dst rfl rfl (by kernel_rfl) (by kernel_rfl) ?_
      | refine Ev_assign rfl ?_)
  refine Ev_load rfl rfl rfl hq rfl hv.self ?_
  repeat (
    first
      | refine WO_dst rfl rfl (by kernel_rfl) (by kernel_rfl) ?_
      | refine Ev_move rfl ?_)
  refine Ev_indexAddr_rd rfl rfl rfl rfl rfl hv hi ?_
  intro p hp
  repeat (
    refine WO_dst rfl rfl (by kernel_rfl) (by kernel_rfl) ?_)
  refine Ev_load_pt rfl rfl rfl hp hx (veq_int _ _) ?_
  repeat (
    first
      | refine WO_dst rfl rfl (by kernel_rfl) (by kernel_rfl) ?_
      | refine Ev_andN 6 64 rfl rfl rfl rfl (by simp only [lim]; omega) (by simp only [lim]; omega) ?_
      | refine Ev_convN rfl rfl rfl rfl rfl (by simp only [lim]; omega) ?_)
  refine Ev_load rfl rfl rfl hq rfl hv.self ?_
  repeat (
    first
      | refine WO_dst rfl rfl (by kernel_rfl) (by kernel_rfl) ?_
      | refine Ev_move rfl ?_)
  refine Ev_indexAddr_rd rfl rfl rfl rfl rfl hv hi ?_
  intro p2 hp2
  repeat (
    refine WO_dst rfl rfl (by kernel_rfl) (by kernel_rfl) ?_)
  refine Ev_load_pt rfl rfl rfl hp2 hx (veq_int _ _) ?_
  repeat (
    first
      | refine WO_nil ?_
      | refine V_seq ?_
      | refine W_ret ?_
      | refine WO_dst rfl rfl (by kernel_rfl) (by kernel_rfl) ?_
      | refine Ev_assign rfl ?_
      | refine Ev_eqlN rfl rfl ?_
      | refine Ev_and8 rfl rfl (by first | omega | (dsimp only; done) | (dsimp only; omega)) (by first | omega | (dsimp only; done) | (dsimp only; omega)) (land_192 (by first | omega | (dsimp only; done) | (dsimp only; omega))) (by first | omega | (dsimp only; done) | (dsimp only; omega)) ?_)
  refine V_done rfl rfl ?_
  exact ⟨rfl, rfl⟩
def oneL (l : List Nat) : Nat × Nat :=
  if 0 < l.length ∧ 0 < l.getD 0 0 ∧ l.getD 0 0 < 128 then (l.getD 0 0, 1)
  else if 1 < l.length ∧ l.getD 0 0 / 32 * 32 = 192 then
    (if l.getD 1 0 / 64 * 64 = 128 ∧ (128 ≤ l.getD 0 0 % 32 * 64 + l.getD 1 0 % 64 ∨ l.getD 0 0 % 32 * 64 + l.getD 1 0 % 64 = 0) then (l.getD 0 0 % 32 * 64 + l.getD 1 0 % 64, 2) else (0, 0))
  else if 2 < l.length ∧ l.getD 0 0 / 16 * 16 = 224 then
    (if l.getD 1 0 / 64 * 64 = 128 ∧ l.getD 2 0 / 64 * 64 = 128 ∧ 2048 ≤ l.getD 0 0 % 16 * 4096 + l.getD 1 0 % 64 * 64 + l.getD 2 0 % 64 then (l.getD 0 0 % 16 * 4096 + l.getD 1 0 % 64 * 64 + l.getD 2 0 % 64, 3) else (0, 0))
  else (0, 0)
structure OneR (S : St) (l : List Nat) (r : AV) (S' : St) : Prop where
  n : S'.n = S.n + 1
  ok : Sok S'
  fr : ∀ c, c < S.n → S'.h.get c = S.h.get c
  out : r = .tup [.int .i32 (((oneL l).1 : Nat) : Int), .int .i64 (((oneL l).2 : Nat) : Int)]
theorem one_runs {S : St} {v : AV} {l : List Nat} (hok : Sok S) (hn : S.n < 1000000000) (hv : Br S v l) (hb : ∀ c ∈ l, c < 256) (hl : l.length < 1000000000) : Runs X1 46 [v] S (OneR S l) := by
  refine Runs_fn (m := 109) (by kernel_rfl) Tryd.func46 rfl (by kernel_rfl) (by kernel_rfl) ?_
  refine W_seq ?_
  refine W_region ?_
  refine WO_dst rfl rfl (by kernel_rfl) (by kernel_rfl) ?_
  refine Ev_box rfl hok hn ?_
  intro S1 hn1 hok1 hq1 hf1
  have hcl : v.cells = [v] := by have := hv.sl; cases v <;> first | rfl | cases this
  rw [hcl] at hq1
  have hv1 : Br S1 v l := hv.keep fun b hb => hf1 b (hv.lt hok hb)
  have hx : ∀ i, i < l.length → (sbytes l)[i * 1]? = some (.int .u8 ((l.getD i 0 : Nat) : Int)) := by
    intro i hi
    rw [Nat.mul_one, sbytes_get hi]
  have h8 : ∀ i, l.getD i 0 < 256 := fun i => getD_lt hb (by omega)
  have h80 := h8 0
  have h81 := h8 1
  have h82 := h8 2
  have ht : ∀ i, i < l.length → Runs X1 58 [.int .i64 (i : Int), .ptr S.n 0] S1 fun r S' => S' = S1 ∧ r = .tup [.int .i32 ((l.getD i 0 % 64 : Nat) : Int), .bool (decide (l.getD i 0 / 64 * 64 = 128))] := fun i hi => tail_runs hq1 hv1 hb hi
  repeat' (
    first
      | refine W_seq ?_
      | refine WO_nil ?_
      | refine V_seq ?_
      | refine W_region ?_
      | refine W_block ?_
      | refine W_skip ?_
      | refine W_ret ?_
      | refine V_ret ?_
      | refine V_block ?_
      | refine W_cond_t rfl ?_
      | refine W_cond_f rfl ?_
      | refine WO_dst rfl rfl (by kernel_rfl) (by kernel_rfl) ?_
      | refine WO_guard_t rfl rfl rfl rfl rfl (by kernel_rfl) (by kernel_rfl) ?_
      | refine WO_guard_f rfl rfl rfl rfl rfl rfl (by kernel_rfl) (by kernel_rfl) ?_
      | refine WO_guard_x rfl rfl rfl rfl rfl (by kernel_rfl) (by kernel_rfl) ?_
      | refine Ev_load rfl rfl rfl hq1 rfl hv1.self ?_
      | refine Ev_len rfl rfl rfl rfl rfl hv1.len ?_
      | (refine Ev_indexAddr_rd rfl rfl rfl rfl rfl hv1 (by first | omega | (dsimp only; omega)) ?_; intro p hp)
      | refine Ev_load_pt rfl rfl rfl hp (hx _ (by first | omega | (dsimp only; omega))) (veq_int _ _) ?_
      | (refine Ev_call rfl rfl ((ht _ (by first | omega | (dsimp only; omega))).mono ?_); rintro _ _ - ⟨rfl, rfl⟩)
      | refine Ev_move rfl ?_
      | refine Ev_assign rfl ?_
      | refine Ev_extract rfl rfl ?_
      | refine Ev_pick_t rfl rfl rfl ?_
      | refine Ev_pick_f rfl rfl rfl ?_
      | refine Ev_lssN rfl rfl ?_
      | refine Ev_gtrN rfl rfl ?_
      | refine Ev_geqN rfl rfl ?_
      | refine Ev_eqlN rfl rfl ?_
      | refine Ev_makeFunc rfl rfl ?_
      | refine Ev_shlN (m := 6) (q := 64) rfl rfl rfl rfl (by simp only [lim]; omega) ?_
      | refine Ev_shlN (m := 12) (q := 4096) rfl rfl rfl rfl (by simp only [lim]; omega) ?_
      | refine Ev_andN 4 16 rfl rfl rfl rfl (by simp only [lim]; omega) (by simp only [lim]; omega) ?_
      | refine Ev_andN 5 32 rfl rfl rfl rfl (by simp only [lim]; omega) (by simp only [lim]; omega) ?_
      | refine Ev_orN 6 rfl rfl rfl (by first | omega | (dsimp only; done) | (dsimp only; omega)) (by first | omega | (dsimp only; done) | (dsimp only; omega)) (by simp only [lim]; omega) ?_
      | refine Ev_orN 12 rfl rfl rfl (by first | omega | (dsimp only; done) | (dsimp only; omega)) (by first | omega | (dsimp only; done) | (dsimp only; omega)) (by simp only [lim]; omega) ?_
      | refine Ev_convN rfl rfl rfl rfl rfl (by simp only [lim]; omega) ?_
      | refine Ev_and8 rfl rfl (by first | omega | (dsimp only; done) | (dsimp only; omega)) (by first | omega | (dsimp only; done) | (dsimp only; omega)) (land_224 (by first | omega | (dsimp only; done) | (dsimp only; omega))) (by first | omega | (dsimp only; done) | (dsimp only; omega)) ?_
      | refine Ev_and8 rfl rfl (by first | omega | (dsimp only; done) | (dsimp only; omega)) (by first | omega | (dsimp only; done) | (dsimp only; omega)) (land_240 (by first | omega | (dsimp only; done) | (dsimp only; omega))) (by first | omega | (dsimp only; done) | (dsimp only; omega)) ?_
      | (refine WO_guard_dt rfl rfl rfl rfl rfl (by kernel_rfl) (by kernel_rfl) (fun hg => ?_) (fun hg => ?_) <;> (try dsimp only at hg) <;> try (exfalso; first | omega | exact hg rfl))
      | (refine WO_guard_df rfl rfl rfl rfl rfl (by kernel_rfl) (by kernel_rfl) (fun hg => ?_) (fun hg => ?_) <;> (try dsimp only at hg) <;> try (exfalso; first | omega | exact hg rfl))
      | (refine W_cond rfl (fun hc => ?_) (fun hc => ?_) <;> (try dsimp only at hc) <;> try (exfalso; first | omega | exact hc rfl)))
  all_goals
    refine V_done rfl rfl ?_
    refine ⟨hn1, hok1, hf1, ?_⟩
    unfold oneL
    (repeat' split) <;> first | rfl | (exfalso; omega)
end Go.Proofs.YtnlfcoojlgdgaaaDoor
/- mutf.Decode: what it answers. -/


namespace Go.Proofs.YtnlfcoojlgdgaaaDoor
open GX
set_option maxHeartbeats 4000000
theorem oneL_le (l : List Nat) : (oneL l).2 ≤ l.length := by
  unfold oneL; (repeat' split) <;> dsimp only <;> omega
theorem oneL_lt {l : List Nat} (h : ∀ c ∈ l, c < 256) : (oneL l).1 < 65536 := by
  have h0 : l.getD 0 0 < 256 := getD_lt h (by omega)
  unfold oneL; (repeat' split) <;> dsimp only <;> omega
def decS (l : List Nat) : Option (List Nat) :=
  if _h : l = [] then some []
  else if _h0 : (oneL l).2 = 0 ∨ (56320 ≤ (oneL l).1 ∧ (oneL l).1 ≤ 57343) then none
  else if 55296 ≤ (oneL l).1 ∧ (oneL l).1 < 56320 then
    if (oneL (l.drop (oneL l).2)).2 = 0 ∨ (oneL (l.drop (oneL l).2)).1 < 56320 ∨ 57343 < (oneL (l.drop (oneL l).2)).1 then none
    else (decS (l.drop ((oneL l).2 + (oneL (l.drop (oneL l).2)).2))).map (runeL (65536 + ((oneL l).1 - 55296) * 1024 + ((oneL (l.drop (oneL l).2)).1 - 56320)) ++ ·)
  else (decS (l.drop (oneL l).2)).map (runeL (oneL l).1 ++ ·)
termination_by l.length
decreasing_by
  all_goals
    have : 0 < l.length := List.length_pos_iff.2 _h
    simp only [List.length_drop]
    omega
theorem runeL_lt {r : Nat} (h : okR r) : ∀ c ∈ runeL r, c < 256 := by
  unfold okR at h
  unfold runeL
  (repeat' split) <;> intro c hc <;> simp at hc <;> omega
structure DecR (S : St) (l : List Nat) (r : AV) (S' : St) : Prop where
  fr : Fr S S' .nils (4 * l.length)
  out : r = .tup [.str ((decS l).getD []), .int .i64 (if (decS l).isSome = true then 0 else 12)]
structure DecI (S : St) (v : AV) (l : List Nat) (a : AV × AV × List Nat × List Nat) (T : St) : Prop where
  ok : Sok T
  br : Br T a.1 a.2.2.1
  ow : Ow T a.2.1 a.2.2.2
  eq : (decS a.2.2.1).map (a.2.2.2 ++ ·) = decS l
  len : a.2.2.2.length + 4 * a.2.2.1.length ≤ 4 * l.length
  le : S.n ≤ T.n
  n : T.n + 4 * a.2.2.1.length ≤ S.n + 4 * l.length
  fr : ∀ c, c < S.n → T.h.get c = S.h.get c
  b0 : ∀ c, blkOf a.1 = some c → blkOf v = some c
  bk : ∀ c, blkOf a.2.1 = some c → S.n ≤ c
  lt : ∀ c ∈ a.2.2.1, c < 256
  lt2 : ∀ c ∈ a.2.2.2, c < 256
theorem dec_runs {S : St} {v : AV} {l : List Nat} (hok : Sok S) (hv : Br S v l) (hb : ∀ c ∈ l, c < 256) (hl : l.length ≤ 100000000) (hn : S.n + 4 * l.length ≤ 1000000000 - 4) : Runs X1 13 [v] S (DecR S l) := by
  have hvlt : ∀ c, blkOf v = some c → c < S.n := fun c hc => hv.lt hok hc
  refine Runs_fn (m := 68) (by kernel_rfl) Tryd.func13 rfl (by kernel_rfl) (by kernel_rfl) ?_
  repeat (
    first
      | refine W_seq ?_
      | refine WO_nil ?_
      | refine V_seq ?_
      | refine W_region ?_
      | refine W_block ?_
      | refine WO_dst rfl rfl (by kernel_rfl) (by kernel_rfl) ?_
      | refine Ev_assign rfl ?_)
  refine W_inv (fun a : AV × AV × List Nat × List Nat => [(0, a.1), (4, a.2.1)]) (DecI S v l) (fun a => a.2.2.1.length) ?_ (v, .nils, l, []) ?_ ⟨rfl, rfl, trivial⟩
  · rintro ⟨v0, vo, rest, out⟩ T ⟨hokT, hbr, how, heq, hlen, hle, hnT, hfr, hb0, hbk, hlt, hlt2⟩ back
    dsimp only at hbr how heq hlen hnT hb0 hbk hlt hlt2 back
    repeat (
      first
        | refine W_seq ?_
        | refine WO_nil ?_
        | refine V_seq ?_
        | refine W_region ?_
        | refine WO_dst rfl rfl (by kernel_rfl) (by kernel_rfl) ?_
        | refine Ev_len rfl rfl rfl rfl rfl hbr.len ?_
        | refine Ev_move rfl ?_
        | refine Ev_gtrN rfl rfl ?_)
    refine W_cond rfl (fun hc => ?_) (fun hc => ?_) <;> dsimp only at hc
    · obtain ⟨r, k, hrk⟩ : ∃ r k, oneL rest = (r, k) := ⟨_, _, rfl⟩
      have hkl : k ≤ rest.length := by have := oneL_le rest; rw [hrk] at this; exact this
      have hr6 : r < 65536 := by have := oneL_lt hlt; rw [hrk] at this; exact this
      have hne : rest ≠ [] := by intro h; rw [h] at hc; simp at hc
      have hdec := decS.eq_1 rest
      rw [dif_neg hne, hrk] at hdec
      dsimp only at hdec
      repeat (
        first
          | refine W_seq ?_
          | refine V_seq ?_
          | refine W_region ?_
          | refine W_block ?_
          | refine W_skip ?_
          | refine WO_dst rfl rfl (by kernel_rfl) (by kernel_rfl) ?_
          | refine Ev_move rfl ?_)
      refine Ev_call rfl rfl ((one_runs hokT (by omega) hbr hlt (by omega)).mono ?_)
      rintro _ T1 - ⟨hn1, hok1, hf1, rfl⟩
      rw [hrk]
      dsimp only
      have hbr1 : Br T1 v0 rest := hbr.keep fun b h => hf1 b (hbr.lt hokT h)
      have how1 : Ow T1 vo out := how.keep fun b h => hf1 b (how.lt hokT h)
      have hfr1 : ∀ c, c < S.n → T1.h.get c = S.h.get c := fun c h => by rw [hf1 c (by omega)]; exact hfr c h
      repeat' (
        first
          | refine W_seq ?_
          | refine WO_nil ?_
          | refine V_seq ?_
          | refine W_region ?_
          | refine W_skip ?_
          | refine W_ret ?_
          | refine V_ret ?_
          | refine W_cond_t rfl ?_
          | refine W_cond_f rfl ?_
          | refine WO_dst rfl rfl (by kernel_rfl) (by kernel_rfl) ?_
          | refine WO_guard_t rfl rfl rfl rfl rfl (by kernel_rfl) (by kernel_rfl) ?_
          | refine WO_guard_f rfl rfl rfl rfl rfl rfl (by kernel_rfl) (by kernel_rfl) ?_
          | refine WO_guard_x rfl rfl rfl rfl rfl (by kernel_rfl) (by kernel_rfl) ?_
          | refine Ev_move rfl ?_
          | refine Ev_assign rfl ?_
          | refine Ev_extract rfl rfl ?_
          | refine Ev_pick_t rfl rfl rfl ?_
          | refine Ev_pick_f rfl rfl rfl ?_
          | refine Ev_lssN rfl rfl ?_
          | refine Ev_leqN rfl rfl ?_
          | refine Ev_geqN rfl rfl ?_
          | refine Ev_eqlN rfl rfl ?_
          | (refine WO_guard_dt rfl rfl rfl rfl rfl (by kernel_rfl) (by kernel_rfl) (fun hg => ?_) (fun hg => ?_) <;> (try dsimp only at hg) <;> try (exfalso; first | omega | exact hg rfl))
          | (refine WO_guard_df rfl rfl rfl rfl rfl (by kernel_rfl) (by kernel_rfl) (fun hg => ?_) (fun hg => ?_) <;> (try dsimp only at hg) <;> try (exfalso; first | omega | exact hg rfl))
          | (refine W_cond rfl (fun hc => ?_) (fun hc => ?_) <;> (try dsimp only at hc) <;> try (exfalso; first | omega | exact hc rfl)))
      · rw [dif_pos (by omega)] at hdec
        have hnone : decS l = none := by rw [← heq, hdec]; rfl
        refine V_done rfl rfl ?_
        exact ⟨⟨by omega, by omega, hok1, fun c _ h => hfr1 c h⟩, by rw [hnone]; rfl⟩
      · rw [dif_neg (by omega), if_neg (by omega)] at hdec
        have hokR : okR r := by unfold okR; omega
        refine Ev_call rfl rfl ((app_runs (by assumption) (by assumption) (by omega) (by omega) hokR).mono ?_)
        rintro vo2 T3 - ⟨hF3, how3, hbk3⟩
        have hle3 := hF3.le; have hn3 := hF3.n
        repeat (
          first
            | refine WO_nil ?_
            | refine V_seq ?_
            | refine W_region ?_
            | refine WO_dst rfl rfl (by kernel_rfl) (by kernel_rfl) ?_
            | refine Ev_move rfl ?_
            | refine Ev_assign rfl ?_)
        refine Ev_slice_lo rfl rfl rfl rfl rfl (hbr1.keep fun b h => hF3.same b (by intro h2; have := hbk b h2; have := hvlt b (hb0 b h); omega) (hbr1.lt hok1 h)) hkl ?_
        intro v3 hrd3 hb3
        repeat (
          first
            | refine WO_nil ?_
            | refine V_block ?_
            | refine WO_dst rfl rfl (by kernel_rfl) (by kernel_rfl) ?_
            | refine Ev_assign rfl ?_)
        refine back (v3, vo2, rest.drop (k), out ++ runeL (r)) T3 _ (by dsimp only; rw [List.length_drop]; omega) ⟨hF3.ok, ?_, how3, ?_, ?_, by omega, ?_, ?_, ?_, ?_, ?_, ?_⟩ ⟨rfl, rfl, trivial⟩
        · refine hrd3.eq ?_ ?_
          · dsimp only; unfold sbytes; rw [Nat.mul_one, List.map_drop]
          · rw [List.length_drop]
        · dsimp only; rw [← heq, hdec, Option.map_map]; congr 1; funext z; simp
        · dsimp only; rw [List.length_append, List.length_drop]; have := runeL_len (r); omega
        · dsimp only; rw [List.length_drop]; omega
        · intro c h; rw [hF3.same c (by intro h2; have := hbk c h2; omega) (by omega)]; exact hfr1 c h
        · intro c h; exact hb0 c (hb3 c h)
        · intro c h; rcases hbk3 c h with h | h
          · exact hbk c h
          · omega
        · intro c h; exact hlt c (List.mem_of_mem_drop h)
        · intro c h
          rcases List.mem_append.1 h with h | h
          · exact hlt2 c h
          · exact runeL_lt hokR c h
      · rw [dif_neg (by omega), if_pos (by omega)] at hdec
        refine Ev_slice_lo rfl rfl rfl rfl rfl hbr1 hkl ?_
        intro v2 hrd2 hb2
        have hbr2 : Br T1 v2 (rest.drop k) := hrd2.eq (by dsimp only; unfold sbytes; rw [Nat.mul_one, List.map_drop]) (by rw [List.length_drop])
        have hlt3 : ∀ c ∈ rest.drop k, c < 256 := fun c h => hlt c (List.mem_of_mem_drop h)
        obtain ⟨r2, k2, hrk2⟩ : ∃ r2 k2, oneL (rest.drop k) = (r2, k2) := ⟨_, _, rfl⟩
        have hkl2 : k2 ≤ rest.length - k := by have := oneL_le (rest.drop k); rw [hrk2, List.length_drop] at this; exact this
        rw [hrk2] at hdec
        dsimp only at hdec
        repeat (
          refine WO_dst rfl rfl (by kernel_rfl) (by kernel_rfl) ?_)
        refine Ev_call rfl rfl ((one_runs hok1 (by omega) hbr2 hlt3 (by rw [List.length_drop]; omega)).mono ?_)
        rintro _ T3 - ⟨hn3, hok3, hf3, rfl⟩
        rw [hrk2]
        dsimp only
        have hkl3 : k + k2 ≤ rest.length := by omega
        have hbr3 : Br T3 v0 rest := hbr1.keep fun b h => hf3 b (hbr1.lt hok1 h)
        have how3' : Ow T3 vo out := how1.keep fun b h => hf3 b (how1.lt hok1 h)
        have hfr3 : ∀ c, c < S.n → T3.h.get c = S.h.get c := fun c h => by rw [hf3 c (by omega)]; exact hfr1 c h
        repeat' (
          first
            | refine W_seq ?_
            | refine WO_nil ?_
            | refine V_seq ?_
            | refine W_region ?_
            | refine W_skip ?_
            | refine W_ret ?_
            | refine V_ret ?_
            | refine W_cond_t rfl ?_
            | refine WO_dst rfl rfl (by kernel_rfl) (by kernel_rfl) ?_
            | refine WO_guard_t rfl rfl rfl rfl rfl (by kernel_rfl) (by kernel_rfl) ?_
            | refine WO_guard_f rfl rfl rfl rfl rfl rfl (by kernel_rfl) (by kernel_rfl) ?_
            | refine Ev_move rfl ?_
            | refine Ev_assign rfl ?_
            | refine Ev_extract rfl rfl ?_
            | refine Ev_pick_t rfl rfl rfl ?_
            | refine Ev_pick_f rfl rfl rfl ?_
            | refine Ev_lssN rfl rfl ?_
            | refine Ev_gtrN rfl rfl ?_
            | refine Ev_eqlN rfl rfl ?_
            | refine Ev_addN rfl rfl (by simp only [lim]; omega) ?_
            | refine Ev_subN rfl rfl (by simp only [lim]; omega) (by first | omega | (dsimp only; done) | (dsimp only; omega)) ?_
            | refine Ev_shlN (m := 10) (q := 1024) rfl rfl rfl rfl (by simp only [lim]; omega) ?_
            | refine Ev_orN 10 rfl rfl rfl (by first | omega | (dsimp only; done) | (dsimp only; omega)) (by first | omega | (dsimp only; done) | (dsimp only; omega)) (by simp only [lim]; omega) ?_
            | (refine WO_guard_df rfl rfl rfl rfl rfl (by kernel_rfl) (by kernel_rfl) (fun hg => ?_) (fun hg => ?_) <;> (try dsimp only at hg) <;> try (exfalso; first | omega | exact hg rfl))
            | (refine W_cond rfl (fun hc => ?_) (fun hc => ?_) <;> (try dsimp only at hc) <;> try (exfalso; first | omega | exact hc rfl)))
        · rw [if_pos (by omega)] at hdec
          have hnone : decS l = none := by rw [← heq, hdec]; rfl
          refine V_done rfl rfl ?_
          exact ⟨⟨by omega, by omega, hok3, fun c _ h => hfr3 c h⟩, by rw [hnone]; rfl⟩
        · rw [if_neg (by omega)] at hdec
          have hokR : okR (65536 + (r - 55296) * 1024 + (r2 - 56320)) := by unfold okR; omega
          refine Ev_call rfl rfl ((app_runs (by assumption) (by assumption) (by omega) (by omega) hokR).mono ?_)
          rintro vo2 T3 - ⟨hF3, how3, hbk3⟩
          have hle3 := hF3.le; have hn3 := hF3.n
          repeat (
            first
              | refine WO_nil ?_
              | refine V_seq ?_
              | refine W_region ?_
              | refine WO_dst rfl rfl (by kernel_rfl) (by kernel_rfl) ?_
              | refine Ev_move rfl ?_
              | refine Ev_assign rfl ?_)
          refine Ev_slice_lo rfl rfl rfl rfl rfl (hbr3.keep fun b h => hF3.same b (by intro h2; have := hbk b h2; have := hvlt b (hb0 b h); omega) (hbr3.lt hok3 h)) hkl3 ?_
          intro v3 hrd3 hb3
          repeat (
            first
              | refine WO_nil ?_
              | refine V_block ?_
              | refine WO_dst rfl rfl (by kernel_rfl) (by kernel_rfl) ?_
              | refine Ev_assign rfl ?_)
          refine back (v3, vo2, rest.drop (k + k2), out ++ runeL (65536 + (r - 55296) * 1024 + (r2 - 56320))) T3 _ (by dsimp only; rw [List.length_drop]; omega) ⟨hF3.ok, ?_, how3, ?_, ?_, by omega, ?_, ?_, ?_, ?_, ?_, ?_⟩ ⟨rfl, rfl, trivial⟩
          · refine hrd3.eq ?_ ?_
            · dsimp only; unfold sbytes; rw [Nat.mul_one, List.map_drop]
            · rw [List.length_drop]
          · dsimp only; rw [← heq, hdec, Option.map_map]; congr 1; funext z; simp
          · dsimp only; rw [List.length_append, List.length_drop]; have := runeL_len (65536 + (r - 55296) * 1024 + (r2 - 56320)); omega
          · dsimp only; rw [List.length_drop]; omega
          · intro c h; rw [hF3.same c (by intro h2; have := hbk c h2; omega) (by omega)]; exact hfr3 c h
          · intro c h; exact hb0 c (hb3 c h)
          · intro c h; rcases hbk3 c h with h | h
            · exact hbk c h
            · omega
          · intro c h; exact hlt c (List.mem_of_mem_drop h)
          · intro c h
            rcases List.mem_append.1 h with h | h
            · exact hlt2 c h
            · exact runeL_lt hokR c h
        · rw [if_pos (by omega)] at hdec
          have hnone : decS l = none := by rw [← heq, hdec]; rfl
          refine V_done rfl rfl ?_
          exact ⟨⟨by omega, by omega, hok3, fun c _ h => hfr3 c h⟩, by rw [hnone]; rfl⟩
        · rw [if_pos (by omega)] at hdec
          have hnone : decS l = none := by rw [← heq, hdec]; rfl
          refine V_done rfl rfl ?_
          exact ⟨⟨by omega, by omega, hok3, fun c _ h => hfr3 c h⟩, by rw [hnone]; rfl⟩
      · rw [dif_neg (by omega), if_neg (by omega)] at hdec
        have hokR : okR r := by unfold okR; omega
        refine Ev_call rfl rfl ((app_runs (by assumption) (by assumption) (by omega) (by omega) hokR).mono ?_)
        rintro vo2 T3 - ⟨hF3, how3, hbk3⟩
        have hle3 := hF3.le; have hn3 := hF3.n
        repeat (
          first
            | refine WO_nil ?_
            | refine V_seq ?_
            | refine W_region ?_
            | refine WO_dst rfl rfl (by kernel_rfl) (by kernel_rfl) ?_
            | refine Ev_move rfl ?_
            | refine Ev_assign rfl ?_)
        refine Ev_slice_lo rfl rfl rfl rfl rfl (hbr1.keep fun b h => hF3.same b (by intro h2; have := hbk b h2; have := hvlt b (hb0 b h); omega) (hbr1.lt hok1 h)) hkl ?_
        intro v3 hrd3 hb3
        repeat (
          first
            | refine WO_nil ?_
            | refine V_block ?_
            | refine WO_dst rfl rfl (by kernel_rfl) (by kernel_rfl) ?_
            | refine Ev_assign rfl ?_)
        refine back (v3, vo2, rest.drop (k), out ++ runeL (r)) T3 _ (by dsimp only; rw [List.length_drop]; omega) ⟨hF3.ok, ?_, how3, ?_, ?_, by omega, ?_, ?_, ?_, ?_, ?_, ?_⟩ ⟨rfl, rfl, trivial⟩
        · refine hrd3.eq ?_ ?_
          · dsimp only; unfold sbytes; rw [Nat.mul_one, List.map_drop]
          · rw [List.length_drop]
        · dsimp only; rw [← heq, hdec, Option.map_map]; congr 1; funext z; simp
        · dsimp only; rw [List.length_append, List.length_drop]; have := runeL_len (r); omega
        · dsimp only; rw [List.length_drop]; omega
        · intro c h; rw [hF3.same c (by intro h2; have := hbk c h2; omega) (by omega)]; exact hfr1 c h
        · intro c h; exact hb0 c (hb3 c h)
        · intro c h; rcases hbk3 c h with h | h
          · exact hbk c h
          · omega
        · intro c h; exact hlt c (List.mem_of_mem_drop h)
        · intro c h
          rcases List.mem_append.1 h with h | h
          · exact hlt2 c h
          · exact runeL_lt hokR c h
      · rw [dif_pos (by omega)] at hdec
        have hnone : decS l = none := by rw [← heq, hdec]; rfl
        refine V_done rfl rfl ?_
        exact ⟨⟨by omega, by omega, hok1, fun c _ h => hfr1 c h⟩, by rw [hnone]; rfl⟩
    · repeat (
        first
          | refine W_seq ?_
          | refine V_seq ?_
          | refine W_region ?_
          | refine W_exit ?_
          | refine V_block_x rfl ?_
          | refine V_seq_x ?_
          | refine V_loop_x ?_
          | refine WO_dst rfl rfl (by kernel_rfl) (by kernel_rfl) ?_
          | refine Ev_move rfl ?_)
      refine Ev_conv_to_str rfl rfl rfl rfl rfl rfl rfl how.rd (bytesOf_sbytes hlt2) ?_
      repeat (
        first
          | refine WO_nil ?_
          | refine V_seq ?_
          | refine W_ret ?_
          | refine WO_dst rfl rfl (by kernel_rfl) (by kernel_rfl) ?_
          | refine Ev_assign rfl ?_)
      refine V_done rfl rfl ?_
      have hnil : rest = [] := List.eq_nil_of_length_eq_zero (by omega)
      have hd : decS l = some out := by rw [← heq, hnil, decS]; simp
      exact ⟨⟨by omega, by omega, hokT, fun c _ h => hfr c h⟩, by rw [hd]; rfl⟩
  · refine ⟨hok, hv, .inl ⟨rfl, rfl, rfl⟩, ?_, by simp, Nat.le_refl _, by dsimp only; omega, fun _ _ => rfl, fun c h => h, fun c h => (by cases h), hb, by simp⟩
    dsimp only; cases decS l <;> simp
end Go.Proofs.YtnlfcoojlgdgaaaDoor
