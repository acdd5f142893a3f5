/- What the row leans on, part 9: texts one behind the other. No condition. -/
import Derived.Test.YtdhfjkikoiifcaaMg8
import Derived.KernelRfl
/- GX: a region that draws its order gives what the text's order gives, where reads look at blocks that later loud operations leave alone. -/

namespace GX
open Go
section
variable {X : X} {rec : Rec} {n : Nat} {ops : List Oper} {e : Env} {h0 : Tr AB}
def RFF (X : _root_.GX.X) (n : Nat) (ops : List Oper) (N0 : Nat) (e : Env) (h0 : Tr AB) (recs : List R) (lds : List Nat) (i : Nat) (o : Oper) (r : R) : Prop :=
  r.k = .rd → ∃ l1 l2 ei, lds = l1 ++ l2 ∧ (∀ j ∈ l1, j < i) ∧ (∀ j ∈ l2, i < j) ∧ (∀ t ∈ looks ops o, lookT (masks ops []) ops (recs.take i) e i t = some (ei.at t)) ∧ (∀ t ∈ looks ops o, t < n) ∧
    sk X o.op = .read ∧ veq r.v r.v = true ∧ ((rdStat (masks ops []) (ops.map (fun o => sk X o.op)) i = true ∧ readOp X ei (gh (masks ops []) l1 (fun _ => true) (recs.take i) 0 (hOf (recs.take i) h0 l1)) o.op = some r.v) ∨ ∃ D, FPD X D (masks ops []) i ei o.op r.v ∧ ∀ f ∈ D, FI (masks ops []) N0 h0 recs f)
theorem plan_seqF {N0 : Nat} (hn : n < 1000001) (hE : edgesOk ops 0 = true) (hD : dstsOk n ops = true) (hK : seqB1 ops (masks ops []) (ops.map (fun o => sk X o.op)) n ops 0 = true) :
    ∀ (D : List Fct) (os pre : List Oper) (acc : List R) (lds : List Nat) (S : St) (ei : Env) (e' : Env) (S' : St), ops = pre ++ os → acc.length = pre.length → putAll n pre acc e = some ei →
    (∀ (k : Nat) (r : R) b, acc[k]? = some r → r.k = .mk b → (ops.map (fun o => sk X o.op)).getD k .pure = .alloc ∧ N0 ≤ r.n0 ∧ r.n0 < 1000000000) →
    (∀ f ∈ D, FI (masks ops []) N0 h0 acc f) →
    (∀ (k : Nat) (r : R), acc[k]? = some r → r.isL → k ∈ lds) → (∀ (q q' : Nat) (r r' : R), q < q' → acc[q]? = some r → acc[q']? = some r' → r.n1 ≤ r'.n0) → (∀ (q : Nat) (r : R), acc[q]? = some r → r.n1 ≤ S.n) →
    N0 ≤ S.n →
    (∀ j ∈ lds, j < pre.length ∧ isLC ((ops.map (fun o => sk X o.op)).getD j .pure) = true ∧ ∃ r, acc[j]? = some r ∧ r.isL) →
    lds.Pairwise (· < ·) →
    S.h = gh (masks ops []) lds (fun _ => true) acc 0 (hOf acc h0 lds) →
    RunF X rec n ops D os pre.length ei S e' S' →
    ∃ tl l2, plan X rec n ops (masks ops []) e os pre.length acc lds (hOf acc h0 lds) S.n = some (acc ++ tl, lds ++ l2, S'.n) ∧
      (∀ j ∈ l2, pre.length ≤ j ∧ isLC ((ops.map (fun o => sk X o.op)).getD j .pure) = true) ∧ putAll n ops (acc ++ tl) e = some e' ∧
      S'.h = gh (masks ops []) (lds ++ l2) (fun _ => true) (acc ++ tl) 0 (hOf (acc ++ tl) h0 (lds ++ l2)) ∧ tl.length = os.length ∧ (lds ++ l2).Pairwise (· < ·) ∧ (∀ (k : Nat) (r : R) b, (acc ++ tl)[k]? = some r → r.k = .mk b → (ops.map (fun o => sk X o.op)).getD k .pure = .alloc ∧ N0 ≤ r.n0 ∧ r.n0 < 1000000000) ∧ (∀ f ∈ D, FI (masks ops []) N0 h0 (acc ++ tl) f) ∧ (∀ (k : Nat) (r : R), (acc ++ tl)[k]? = some r → r.isL → k ∈ lds ++ l2) ∧ (∀ (q q' : Nat) (r r' : R), q < q' → (acc ++ tl)[q]? = some r → (acc ++ tl)[q']? = some r' → r.n1 ≤ r'.n0) ∧ (∀ j ∈ lds ++ l2, ∃ r, (acc ++ tl)[j]? = some r ∧ r.isL) ∧
      ∀ (k : Nat) (o : Oper) (r : R), os[k]? = some o → tl[k]? = some r → RFF X n ops N0 e h0 (acc ++ tl) (lds ++ l2) (pre.length + k) o r
  | D, [], pre, acc, lds, S, ei, e', S', hp, hl, hput, hmk, hF, hal, hmo, _, _, hld, hpw, hh, h => by
    unfold RunF at h
    obtain ⟨rfl, rfl⟩ := h
    refine ⟨[], [], ?_, fun j hj => by simp at hj, ?_, ?_, rfl, by simpa using hpw, by simpa using hmk, by simpa using hF, by simpa using hal, by simpa using hmo, fun j hj => by simpa using (hld j (by simpa using hj)).2.2, fun k o r hk => by simp at hk⟩
    · simp [plan]
    · simp only [List.append_nil] at hp ⊢; rw [hp]; exact hput
    · simpa using hh
  | D, o :: os, pre, acc, lds, S, ei, e', S', hp, hl, hput, hmk, hF, hal, hmo, hmn, hN, hld, hpw, hh, h => by
    have ho : ops[pre.length]? = some o := by rw [hp]; simp
    have hsk : (ops.map (fun o => sk X o.op)).getD pre.length .pure = sk X o.op := by
      rw [List.getD_eq_getElem?_getD, List.getElem?_map, ho]; rfl
    obtain ⟨hk1, hk2⟩ := seqB1_at hK pre.length o ho
    simp only [Nat.zero_add] at hk1 hk2
    rw [hsk] at hk2
    have hlk := looks_seq hn hE hD hp hl hput hk1
    obtain ⟨re, hre, hag⟩ := renv_good (es := ei) hn hlk
    have hoe : OE re ei o.op := OE_of hag
    have hp' : ops = (pre ++ [o]) ++ os := by rw [hp]; simp
    -- what goes on behind
    have fin : ∀ (r : R) (ldn : List Nat) (S1 : St) (e1 : Env) (N : List Fct), setDst n ei o.dst r.v = some e1 → (∀ b, r.k = .mk b → sk X o.op = .alloc ∧ N0 ≤ r.n0 ∧ r.n0 < 1000000000) → (∀ h' m, r.k = .ld h' m → ∀ f ∈ D, h'.get f.id = some f.x) → (∀ f ∈ N, FI (masks ops []) N0 h0 (acc ++ [r]) f) → r.n0 = S.n → r.n1 = S1.n → S.n ≤ S1.n → N0 ≤ S1.n → (ldn = [] ∧ ¬ r.isL ∨ ldn = [pre.length] ∧ isLC (sk X o.op) = true ∧ r.isL) →
        S1.h = gh (masks ops []) (lds ++ ldn) (fun _ => true) (acc ++ [r]) 0 (hOf (acc ++ [r]) h0 (lds ++ ldn)) →
        (r.k = .rd → ldn = [] ∧ sk X o.op = .read ∧ veq r.v r.v = true ∧ ((rdStat (masks ops []) (ops.map (fun o => sk X o.op)) pre.length = true ∧ readOp X ei S.h o.op = some r.v) ∨ FPD X D (masks ops []) pre.length ei o.op r.v)) →
        RunF X rec n ops (D ++ N) os (pre.length + 1) e1 S1 e' S' →
        plan X rec n ops (masks ops []) e (o :: os) pre.length acc lds (hOf acc h0 lds) S.n = plan X rec n ops (masks ops []) e os (pre.length + 1) (acc ++ [r]) (lds ++ ldn) (hOf (acc ++ [r]) h0 (lds ++ ldn)) S1.n →
        ∃ tl l2, plan X rec n ops (masks ops []) e (o :: os) pre.length acc lds (hOf acc h0 lds) S.n = some (acc ++ tl, lds ++ l2, S'.n) ∧
          (∀ j ∈ l2, pre.length ≤ j ∧ isLC ((ops.map (fun o => sk X o.op)).getD j .pure) = true) ∧ putAll n ops (acc ++ tl) e = some e' ∧
          S'.h = gh (masks ops []) (lds ++ l2) (fun _ => true) (acc ++ tl) 0 (hOf (acc ++ tl) h0 (lds ++ l2)) ∧ tl.length = (o :: os).length ∧ (lds ++ l2).Pairwise (· < ·) ∧ (∀ (k : Nat) (r : R) b, (acc ++ tl)[k]? = some r → r.k = .mk b → (ops.map (fun o => sk X o.op)).getD k .pure = .alloc ∧ N0 ≤ r.n0 ∧ r.n0 < 1000000000) ∧ (∀ f ∈ D, FI (masks ops []) N0 h0 (acc ++ tl) f) ∧ (∀ (k : Nat) (r : R), (acc ++ tl)[k]? = some r → r.isL → k ∈ lds ++ l2) ∧ (∀ (q q' : Nat) (r r' : R), q < q' → (acc ++ tl)[q]? = some r → (acc ++ tl)[q']? = some r' → r.n1 ≤ r'.n0) ∧ (∀ j ∈ lds ++ l2, ∃ r, (acc ++ tl)[j]? = some r ∧ r.isL) ∧
          ∀ (k : Nat) (o' : Oper) (r : R), (o :: os)[k]? = some o' → tl[k]? = some r → RFF X n ops N0 e h0 (acc ++ tl) (lds ++ l2) (pre.length + k) o' r := by
      intro r ldn S1 e1 N hset hmk1 hlb1 hNf hr0 hr1 hnS1 hN1 hldn hh1 hrd hrun hplan
      have hlast : ∀ (k : Nat) (r' : R), (acc ++ [r])[k]? = some r' → acc[k]? = some r' ∨ (k = acc.length ∧ r' = r) := by
        intro k r' hk
        by_cases hlt : k < acc.length
        · rw [List.getElem?_append_left hlt] at hk; exact .inl hk
        · have h2 : k = acc.length := by
            have := (List.getElem?_eq_some_iff.1 hk).1
            simp at this; omega
          subst h2
          simp at hk; exact .inr ⟨rfl, hk.symm⟩
      obtain ⟨tl, l2, p1, p2, p3, p4, p5, ppw, pmk, pF, pal, pmo, pld, p6⟩ := plan_seqF hn hE hD hK (D ++ N) os (pre ++ [o]) (acc ++ [r]) (lds ++ ldn) S1 e1 e' S' hp' (by simp [hl]) (putAll_snoc hput hset)
        (by
          intro k r' b hk hb
          by_cases hlt : k < acc.length
          · rw [List.getElem?_append_left hlt] at hk; exact hmk k r' b hk hb
          · have : k = acc.length := by
              have := (List.getElem?_eq_some_iff.1 hk).1
              simp at this; omega
            subst this
            simp at hk; subst hk
            rw [hl, hsk]; exact hmk1 b hb)
        (by
          intro f hf
          rcases List.mem_append.1 hf with hf | hf
          · exact FI_snoc (hF f hf) (fun h' m hk => hlb1 h' m hk f hf)
          · exact hNf f hf)
        (by
          intro k r' hk hkl
          rcases hlast k r' hk with hk | ⟨rfl, rfl⟩
          · exact List.mem_append_left _ (hal k r' hk hkl)
          · rcases hldn with ⟨_, hq⟩ | ⟨hq, _⟩
            · exact absurd hkl hq
            · rw [hq, hl]; simp)
        (by
          intro q q' r1 r2 hlt h1 h2
          rcases hlast q' r2 h2 with h2 | ⟨rfl, rfl⟩
          · have hlt2 := (List.getElem?_eq_some_iff.1 h2).1
            rcases hlast q r1 h1 with h1 | ⟨rfl, rfl⟩
            · exact hmo q q' r1 r2 hlt h1 h2
            · omega
          · rcases hlast q r1 h1 with h1 | ⟨rfl, rfl⟩
            · rw [hr0]; exact hmn q r1 h1
            · omega)
        (by
          intro q r1 h1
          rcases hlast q r1 h1 with h1 | ⟨rfl, rfl⟩
          · have h2 := hmn q r1 h1
            have h3 : r.n0 ≤ r.n1 := by
              rw [hr1, hr0]; exact hnS1
            omega
          · omega)
        hN1
        (by
          intro j hj
          rw [List.mem_append] at hj
          rcases hj with hj | hj
          · obtain ⟨g1, g2, r', g3, g4⟩ := hld j hj; exact ⟨by simp; omega, g2, r', by rw [List.getElem?_append_left (List.getElem?_eq_some_iff.1 g3).1]; exact g3, g4⟩
          · rcases hldn with ⟨hq, _⟩ | ⟨hq, hq2, hq3⟩
            · rw [hq] at hj; simp at hj
            · rw [hq] at hj; simp at hj; subst hj; exact ⟨by simp, by rw [hsk]; exact hq2, r, by rw [← hl]; simp, hq3⟩)
        (by
          rw [List.pairwise_append]
          refine ⟨hpw, ?_, fun a ha b hb => ?_⟩
          · rcases hldn with ⟨hq, _⟩ | ⟨hq, _⟩ <;> rw [hq] <;> simp
          · rcases hldn with ⟨hq, _⟩ | ⟨hq, _⟩
            · rw [hq] at hb; simp at hb
            · rw [hq] at hb; simp at hb; subst hb; exact (hld a ha).1)
        hh1 (by rw [List.length_append, List.length_singleton]; exact hrun)
      rw [List.length_append, List.length_singleton] at p1
      refine ⟨r :: tl, ldn ++ l2, ?_, ?_, ?_, ?_, by simp [p5], by simpa using ppw, by simpa using pmk, fun f hf => by simpa using pF f (List.mem_append_left _ hf), by simpa using pal, by simpa using pmo, by simpa using pld, ?_⟩
      · rw [hplan, p1]; simp
      · intro j hj
        rw [List.mem_append] at hj
        rcases hj with hj | hj
        · rcases hldn with ⟨hq, _⟩ | ⟨hq, hq2, _⟩
          · rw [hq] at hj; simp at hj
          · rw [hq] at hj; simp at hj; subst hj; exact ⟨Nat.le_refl _, by rw [hsk]; exact hq2⟩
        · have h1 := (p2 j hj).1; simp only [List.length_append, List.length_singleton] at h1; exact ⟨by omega, (p2 j hj).2⟩
      · rw [← p3]; simp
      · rw [p4]; simp
      · intro k o' r' hk hr'
        cases k with
        | zero =>
          simp at hk hr'; subst hk; subst hr'
          intro hrk
          obtain ⟨q1, q2, q4, q3⟩ := hrd hrk
          subst q1
          refine ⟨lds, l2, ei, by simp, fun j hj => by have := (hld j hj).1; simpa using this, fun j hj => by have := (p2 j hj).1; simp only [List.length_append, List.length_singleton] at this; omega, ?_, fun t ht => (hlk t ht).1, q2, q4, q3.imp (fun q => ⟨by simpa using q.1, ?_⟩) (fun q => ⟨D, by simpa using q, fun f hf => by simpa using pF f (List.mem_append_left _ hf)⟩)⟩
          · intro t ht
            have : (acc ++ r :: tl).take (pre.length + 0) = acc := by rw [Nat.add_zero, ← hl]; simp
            rw [this]
            exact (hlk t ht).2
          · have : (acc ++ r :: tl).take (pre.length + 0) = acc := by rw [Nat.add_zero, ← hl]; simp
            rw [this, ← hh]; exact q.2
        | succ k =>
          have := p6 k o' r' (by simpa using hk) (by simpa using hr')
          simp only [List.length_append, List.length_singleton, List.append_assoc, List.singleton_append] at this
          rw [show pre.length + (k + 1) = pre.length + 1 + k by omega]
          exact this
    have hwc : wanted ops re o = wanted ops ei o := wanted_congr hag
    have hldlt : ∀ j ∈ lds, j < (acc).length := fun j hj => by rw [hl]; exact (hld j hj).1
    have hOfs : ∀ r : R, hOf (acc ++ [r]) h0 lds = hOf acc h0 lds := fun r => hOf_append hldlt
    have hgs : ∀ r : R, (∀ b, r.k ≠ .mk b) → gh (masks ops []) lds (fun _ => true) (acc ++ [r]) 0 (hOf (acc ++ [r]) h0 lds) = S.h := by
      intro r hr
      rw [hOfs, gh_snoc, ← hh]
      unfold ghStep
      split
      · rename_i b hb; exact absurd hb (hr b)
      · rfl
    have hgc : (∀ (k : Nat), k < pre.length → (ops.map (fun o => sk X o.op)).getD k .pure = .alloc → inM (masks ops []) pre.length k = true) → gh (masks ops []) lds (inM (masks ops []) pre.length) acc 0 (hOf acc h0 lds) = S.h := by
      intro hq
      rw [hh]
      apply gh_congr
      intro k r b h1 h2
      have hkl : k < pre.length := by have := (List.getElem?_eq_some_iff.1 h1).1; omega
      simp only [Nat.zero_add]
      exact hq k hkl (hmk k r b h1 h2).1
    have hgB : ∀ f ∈ D, (∀ j, f.src = some j → inM (masks ops []) pre.length j = true) → (gh (masks ops []) lds (inM (masks ops []) pre.length) acc 0 (hOf acc h0 lds)).get f.id = some f.x := by
      intro f hf hu
      refine FI_get (fun k r b h1 h2 => (hmk k r b h1 h2).2) hmo hpw (fun j hj => (hld j hj).2.2) (fun j k => inM_lt hE j k) (hF f hf) (fun j hj => ⟨hu j hj, fun ⟨r, h1, h2⟩ => hal j r h1 h2⟩)
    unfold RunF at h
    rcases h with ⟨hw, v, S1, e1, N, hop, he1, hb, hrdc, hlc, hNf, h⟩ | ⟨hw, e1, he1, h⟩
    case inr =>
      refine fin ⟨.tup [], S.n, .val⟩ [] S e1 [] he1 (fun b hb => by cases hb) (fun h' m hb => by cases hb) (fun f hf => by cases hf) rfl rfl (Nat.le_refl _) hN (.inl ⟨rfl, fun ⟨_, _, q⟩ => by cases q⟩) ?_ (fun hb => by cases hb) (by rw [List.append_nil]; exact h) ?_
      · rw [List.append_nil, hgs _ (fun b hb => by cases hb)]
      · conv => lhs; unfold plan
        rw [hre]; dsimp only; rw [hwc, hw]; simp only [cond_false, List.append_nil]
        rw [hOfs]
    case inl =>
      have hck := sk_ok hop
      have hclr : cls X re o.op = cls X ei o.op := cls_congr hoe
      have hN1 : N0 ≤ S1.n := Nat.le_trans hN (oper_n hop)
      have hloud : isLC (cls X ei o.op) = true →
        ∃ tl l2, plan X rec n ops (masks ops []) e (o :: os) pre.length acc lds (hOf acc h0 lds) S.n = some (acc ++ tl, lds ++ l2, S'.n) ∧
          (∀ j ∈ l2, pre.length ≤ j ∧ isLC ((ops.map (fun o => sk X o.op)).getD j .pure) = true) ∧ putAll n ops (acc ++ tl) e = some e' ∧
          S'.h = gh (masks ops []) (lds ++ l2) (fun _ => true) (acc ++ tl) 0 (hOf (acc ++ tl) h0 (lds ++ l2)) ∧ tl.length = (o :: os).length ∧ (lds ++ l2).Pairwise (· < ·) ∧ (∀ (k : Nat) (r : R) b, (acc ++ tl)[k]? = some r → r.k = .mk b → (ops.map (fun o => sk X o.op)).getD k .pure = .alloc ∧ N0 ≤ r.n0 ∧ r.n0 < 1000000000) ∧ (∀ f ∈ D, FI (masks ops []) N0 h0 (acc ++ tl) f) ∧ (∀ (k : Nat) (r : R), (acc ++ tl)[k]? = some r → r.isL → k ∈ lds ++ l2) ∧ (∀ (q q' : Nat) (r r' : R), q < q' → (acc ++ tl)[q]? = some r → (acc ++ tl)[q']? = some r' → r.n1 ≤ r'.n0) ∧ (∀ j ∈ lds ++ l2, ∃ r, (acc ++ tl)[j]? = some r ∧ r.isL) ∧
          ∀ (k : Nat) (o' : Oper) (r : R), (o :: os)[k]? = some o' → tl[k]? = some r → RFF X n ops N0 e h0 (acc ++ tl) (lds ++ l2) (pre.length + k) o' r := by
        intro hlc0
        have hs : cls X ei o.op = sk X o.op := by
          rcases hck with hq | hq
          · rw [hq] at hlc0; cases hlc0
          · exact hq
        have hlc1 := hlc hlc0
        rw [hs] at hlc0
        have hbef : bef (masks ops []) (ops.map (fun o => sk X o.op)) pre.length isAll = true := hk2 hlc0
        have hg := hgc (fun k hk hq => bef_at hbef hk (by rw [hq]; rfl))
        have hall : lds.all (fun j => inM (masks ops []) pre.length j) = true := by
          apply List.all_eq_true.2
          intro j hj
          obtain ⟨q1, q2, -⟩ := hld j hj
          exact bef_at hbef q1 (by cases hq : (ops.map (fun o => sk X o.op)).getD j .pure <;> rw [hq] at q2 <;> first | rfl | cases q2)
        have hop' : oper X rec re { h := gh (masks ops []) lds (inM (masks ops []) pre.length) acc 0 (hOf acc h0 lds), n := S.n } o.op = some (v, S1) := by
          rw [hg, oper_congr hoe]; exact hop
        refine fin ⟨v, S.n, .ld S1.h S1.n⟩ [pre.length] S1 e1 N he1 (fun b hb => by cases hb) (fun h' m hb => by cases hb; exact hlc1) (fun f hf => ?_) rfl rfl (oper_n hop) hN1 (.inr ⟨rfl, hlc0, _, _, rfl⟩) ?_ (fun hb => by cases hb) h ?_
        · obtain ⟨n1, n2, n3, _⟩ := hNf f hf
          refine .inr ⟨pre.length, ⟨v, S.n, .ld S1.h S1.n⟩, n1, by rw [← hl]; simp, .inr ⟨_, _, rfl, n3, n2, ?_⟩, ?_⟩
          · intro k r b hk hb hlt
            rw [List.getElem?_append_left (by omega)] at hk
            exact bef_at hbef hlt (by rw [(hmk k r b hk hb).1]; rfl)
          · intro k r h' m hk _ hlt
            have := (List.getElem?_eq_some_iff.1 hk).1
            simp at this; omega
        · rw [gh_snoc]
          have : hOf (acc ++ [(⟨v, S.n, .ld S1.h S1.n⟩ : R)]) h0 (lds ++ [pre.length]) = S1.h := hOf_snoc (r := ⟨v, S.n, .ld S1.h S1.n⟩) (m := S1.n) (by rw [← hl]; simp) rfl
          rw [this, gh_had (fun q r b h1 h2 => by
            have hkl : q < pre.length := by have := (List.getElem?_eq_some_iff.1 h1).1; omega
            rw [Nat.zero_add]
            exact bef_at hbef hkl (by rw [(hmk q r b h1 h2).1]; rfl))]
          rfl
        · conv => lhs; unfold plan
          rw [hre]; dsimp only; rw [hwc, hw]; simp only [cond_true]
          have : hOf (acc ++ [(⟨v, S.n, .ld S1.h S1.n⟩ : R)]) h0 (lds ++ [pre.length]) = S1.h := hOf_snoc (r := ⟨v, S.n, .ld S1.h S1.n⟩) (m := S1.n) (by rw [← hl]; simp) rfl
          rw [hclr, hs]
          cases hskc : sk X o.op with
          | loud => dsimp only; rw [hall]; simp only [cond_true]; rw [hop']; dsimp only; rw [this]
          | call => dsimp only; rw [hall]; simp only [cond_true]; rw [hop']; dsimp only; rw [this]
          | _ => rw [hskc] at hlc0; cases hlc0
      cases hc : cls X ei o.op with
      | loud => exact hloud (by rw [hc]; rfl)
      | call => exact hloud (by rw [hc]; rfl)
      | pure =>
        unfold oper at hop
        rw [hc] at hop
        dsimp only at hop
        split at hop
        · cases hop
        · rename_i v' hv
          cases hop
          have hN0 : N = [] := by
            cases N with
            | nil => rfl
            | cons f N => exfalso; have := (hNf f (List.mem_cons_self ..)).2.2.2; rw [hc] at this; exact absurd this (by rintro (q | ⟨q, _⟩) <;> cases q)
          subst hN0
          refine fin ⟨v, S.n, .val⟩ [] S e1 [] he1 (fun b hb => by cases hb) (fun h' m hb => by cases hb) (fun f hf => by cases hf) rfl rfl (Nat.le_refl _) hN (.inl ⟨rfl, fun ⟨_, _, q⟩ => by cases q⟩) ?_ (fun hb => by cases hb) h ?_
          · rw [List.append_nil, hgs _ (fun b hb => by cases hb)]
          · conv => lhs; unfold plan
            rw [hre]; dsimp only; rw [hwc, hw]; simp only [cond_true, List.append_nil]
            rw [hclr, hc]; dsimp only; rw [pureOp_congr hoe, hv]; dsimp only; rw [hOfs]
      | read =>
        have hs : sk X o.op = .read := by
          rcases hck with hq | hq
          · rw [hq] at hc; cases hc
          · rw [← hq]; exact hc
        have hrdc' := hrdc hc
        unfold oper at hop
        rw [hc] at hop
        dsimp only at hop
        split at hop
        · cases hop
        · rename_i v' hv
          cases hop
          rw [hc] at hb
          have hrd2 : readOp X ei (gh (masks ops []) lds (inM (masks ops []) pre.length) acc 0 (hOf acc h0 lds)) o.op = some v := by
            rcases hrdc' with hst | hfp
            · have hst' := hst
              unfold rdStat at hst'
              rw [Bool.and_eq_true] at hst'
              rw [hgc (fun k hk hq => bef_at hst'.1 hk (by rw [hq]; rfl))]; exact hv
            · exact hfp _ hgB
          have hN0 : N = [] := by
            cases N with
            | nil => rfl
            | cons f N => exfalso; have := (hNf f (List.mem_cons_self ..)).2.2.2; rw [hc] at this; exact absurd this (by rintro (q | ⟨q, _⟩) <;> cases q)
          subst hN0
          refine fin ⟨v, S.n, .rd⟩ [] S e1 [] he1 (fun b hb => by cases hb) (fun h' m hb => by cases hb) (fun f hf => by cases hf) rfl rfl (Nat.le_refl _) hN (.inl ⟨rfl, fun ⟨_, _, q⟩ => by cases q⟩) ?_ (fun _ => ⟨rfl, hs, hb, hrdc'.imp (fun q => ⟨q, hv⟩) (fun q => q)⟩) h ?_
          · rw [List.append_nil, hgs _ (fun b hb => by cases hb)]
          · conv => lhs; unfold plan
            rw [hre]; dsimp only; rw [hwc, hw]; simp only [cond_true, List.append_nil]
            rw [hclr, hc]; dsimp only; rw [readOp_congr hoe, hrd2]; dsimp only; rw [hOfs]
      | alloc =>
        have hs : sk X o.op = .alloc := by
          rcases hck with hq | hq
          · rw [hq] at hc; cases hc
          · rw [← hq]; exact hc
        unfold oper at hop
        rw [hc] at hop
        dsimp only at hop
        cases hlt : Nat.blt S.n 1000000000 with
        | false => rw [hlt] at hop; cases hop
        | true =>
          rw [hlt] at hop
          simp only [cond_true] at hop
          have hlt2 : S.n < 1000000000 := by rw [nblt, decide_eq_true_eq] at hlt; exact hlt
          split at hop
          · cases hop
          · rename_i b' v' hv
            cases hop
            refine fin ⟨v, S.n, .mk b'⟩ [] (S.new b') e1 N he1 (fun _ _ => ⟨hs, hN, hlt2⟩) (fun h' m hb => by cases hb) (fun f hf => ?_) rfl rfl (Nat.le_succ _) hN1 (.inl ⟨rfl, fun ⟨_, _, q⟩ => by cases q⟩) ?_ (fun hb => by cases hb) h ?_
            · obtain ⟨n1, _, n3, n4⟩ := hNf f hf
              rw [hc] at n4
              rcases n4 with q | ⟨_, q⟩
              · cases q
              have hx : f.x = b' := by
                have h5 : (S.new b').h.get S.n = some b' := by unfold St.new; dsimp only; rw [Tr.get_set 40 _ _ _ _ (by omega), if_pos rfl]
                rw [q, h5] at n3; cases n3; rfl
              refine .inr ⟨pre.length, ⟨v, S.n, .mk b'⟩, n1, by rw [← hl]; simp, .inl ⟨by rw [hx], q.symm⟩, ?_⟩
              intro k r h' m hk _ hlt
              have := (List.getElem?_eq_some_iff.1 hk).1
              simp at this; omega
            · rw [List.append_nil, hOfs, gh_snoc, ← hh]
              unfold ghStep
              dsimp only
              have : lds.all (fun j => !inM (masks ops []) j (0 + acc.length)) = true := by
                apply List.all_eq_true.2
                intro j hj
                have h1 := (hld j hj).1
                cases hq : inM (masks ops []) j (0 + acc.length) with
                | false => rfl
                | true => have := inM_lt hE _ _ hq; omega
              rw [this]
              rfl
            · conv => lhs; unfold plan
              rw [hre]; dsimp only; rw [hwc, hw]; simp only [cond_true, List.append_nil]
              rw [hclr, hc]; dsimp only; rw [hlt]; simp only [cond_true]; rw [allocOp_congr hoe, hv]; dsimp only; rw [hOfs]
              rfl
/-- WHERE THE EDGES SAY ENOUGH but for reads that loud operations leave alone, a region that draws its order gives what the text's order gives. -/
theorem drawn_F {D : List Fct} {S : St} {e' : Env} {S' : St} (hD0 : ∀ f ∈ D, f.src = none ∧ f.id < S.n ∧ S.h.get f.id = some f.x) (hs : seqB X n ops = true) (h : RunF X rec n ops D ops 0 e S e' S') : drawn X rec n ops e S = .ok .nor e' S' := by
  unfold seqB at hs
  simp only [Bool.and_eq_true, nblt, decide_eq_true_eq] at hs
  obtain ⟨⟨⟨⟨hE, hD⟩, hN⟩, hn⟩, hK⟩ := hs
  have hle := RunF_n h
  obtain ⟨tl, l2, p1, p2, p3, p4, p5, ppw, pmk, -, pal, pmo, pld, p6⟩ := plan_seqF (h0 := S.h) (e := e) (N0 := S.n) hn hE hD hK D ops [] [] [] S e e' S' (by simp) rfl (by simp [putAll]) (fun k r b hk => by simp at hk) (fun f hf => .inl ⟨(hD0 f hf).1, (hD0 f hf).2.1, (hD0 f hf).2.2, fun k r h' m hk => by simp at hk⟩) (fun k r hk => by simp at hk) (fun q q' r r' _ hk => by simp at hk) (fun k r hk => by simp at hk) (Nat.le_refl _) (fun j hj => by simp at hj) List.Pairwise.nil (by simp [gh, hOf]) h
  simp only [List.nil_append, List.length_nil, hOf, Nat.zero_add] at p1 p2 p3 p4 p6 ppw pmk pal pmo pld
  unfold drawn
  dsimp only
  rw [hE, hD, hN]
  simp only [Bool.and_self, cond_true]
  rw [p1]
  dsimp only
  have hrd : rdsOk X n ops (masks ops []) tl e S.h l2 ops 0 = true := by
    apply rdsOk_of
    intro i o ho
    have hi : i < ops.length := (List.getElem?_eq_some_iff.1 ho).1
    have hr : tl[i]? = some (tl[i]'(by omega)) := List.getElem?_eq_getElem _
    rw [Nat.zero_add]
    refine ⟨_, hr, fun hk => ?_⟩
    obtain ⟨l1, l3, ei, q1, q2, q3, q4, q5, q6, q8, q9⟩ := p6 i o _ ho hr hk
    have hlt : ∀ j, inM (masks ops []) i j = true → j < (tl.take i).length := fun j hj => by
      have := inM_lt hE _ _ hj
      simp; omega
    have htl : tl = tl.take i ++ tl.drop i := (List.take_append_drop i tl).symm
    obtain ⟨re, r1, r2⟩ := renv_good (ms := masks ops []) (ops := ops) (acc := tl) (e := e) (es := ei) (n := n) (i := i) hn (ts := looks ops o) (fun t ht => ⟨q5 t ht, by
      rw [htl, lookT_append hlt]; exact q4 t ht⟩)
    refine ⟨re, r1, rdOk_of fun a b hab => ?_⟩
    have hoe : OE re ei o.op := OE_of r2
    have hski : (ops.map (fun o => sk X o.op)).getD i .pure = sk X o.op := by
      rw [List.getD_eq_getElem?_getD, List.getElem?_map, ho]; rfl
    rw [List.nil_append]
    unfold rdOk.rd1
    cases hc : (a.all (fun j => !inM (masks ops []) j i) && l2.all (fun j => !inM (masks ops []) i j || a.contains j)) with
    | false => rfl
    | true =>
      simp only [cond_true]
      simp only [Bool.and_eq_true] at hc
      obtain ⟨c1, c2⟩ := hc
      rcases q9 with ⟨hst, q7⟩ | ⟨D', hfp, hfi⟩
      case inr =>
        have hsub : ∀ j ∈ a, j ∈ l2 := fun j hj => by rw [hab]; exact List.mem_append_left _ hj
        have hg : ∀ f ∈ D', (∀ j, f.src = some j → inM (masks ops []) i j = true) → (gh (masks ops []) a (inM (masks ops []) i) tl 0 (hOf tl S.h a)).get f.id = some f.x := by
          intro f hf hu
          refine FI_get (fun k r b h1 h2 => (pmk k r b h1 h2).2) pmo ?_ (fun j hj => pld j (hsub j hj)) (fun j k => inM_lt hE j k) (hfi f hf) (fun j hj => ⟨hu j hj, fun ⟨r, h1, h2⟩ => ?_⟩)
          · rw [hab, List.pairwise_append] at ppw; exact ppw.1
          · have h3 := List.all_eq_true.1 c2 j (pal j r h1 h2)
            rw [hu j hj] at h3
            simpa using h3
        rw [readOp_congr hoe, hfp _ hg]
        exact q8
      unfold rdStat at hst
      rw [Bool.and_eq_true] at hst
      obtain ⟨hk2, hk3⟩ := hst
      have hal : a = l1 := by
        have hpre : a ++ b = l1 ++ l3 := by rw [← hab, q1]
        have hin1 : ∀ j ∈ l1, j ∈ a := by
          intro j hj
          have hj2 : j ∈ l2 := by rw [q1]; exact List.mem_append_left _ hj
          have h1 := List.all_eq_true.1 c2 j hj2
          have h2 : inM (masks ops []) i j = true := by
            apply bef_at hk2 (q2 j hj)
            have := (p2 j hj2).2
            cases hq : (ops.map (fun o => sk X o.op)).getD j .pure <;> rw [hq] at this <;> first | rfl | cases this
          rw [h2] at h1
          simpa using h1
        have hin3 : ∀ j ∈ l3, j ∉ a := by
          intro j hj hja
          have hj2 : j ∈ l2 := by rw [q1]; exact List.mem_append_right _ hj
          have h1 := List.all_eq_true.1 c1 j hja
          have hjl : j < ops.length := by
            have := (p2 j hj2).2
            rw [List.getD_eq_getElem?_getD] at this
            by_cases hlt : j < ops.length
            · exact hlt
            · rw [List.getElem?_eq_none (by simpa using hlt)] at this; cases this
          have hl := (p2 j hj2).2
          have h3 := List.all_eq_true.1 hk3 j (by simpa using hjl)
          rw [hl, nble, decide_eq_false (by have := q3 j hj; omega)] at h3
          have : inM (masks ops []) j i = true := by simpa using h3
          rw [this] at h1
          cases h1
        rcases List.append_eq_append_iff.1 hpre with ⟨m, hm1, hm2⟩ | ⟨m, hm1, hm2⟩
        · -- l1 = a ++ m
          cases m with
          | nil => simpa using hm1.symm
          | cons y m =>
            exfalso
            have hy : y ∈ a := hin1 y (by rw [hm1]; simp)
            rw [q1, hm1, List.append_assoc, List.pairwise_append] at ppw
            have := ppw.2.2 y hy y (by simp)
            omega
        · cases m with
          | nil => simpa using hm1
          | cons y m =>
            exfalso
            exact hin3 y (by rw [hm2]; simp) (by rw [hm1]; simp)
      subst hal
      have hh : gh (masks ops []) a (inM (masks ops []) i) tl 0 (hOf tl S.h a) = gh (masks ops []) a (fun _ => true) (tl.take i) 0 (hOf (tl.take i) S.h a) := by
        conv => lhs; rw [htl]
        rw [gh_append (fun q hq => by
          cases hm : inM (masks ops []) i q with
          | false => rfl
          | true => have := hlt q hm; omega)]
        rw [hOf_append (fun j hj => by have := q2 j hj; simp; omega)]
        apply gh_congr
        intro k r b h1 h2
        rw [Nat.zero_add]
        have hki : k < i := by have := (List.getElem?_eq_some_iff.1 h1).1; simp at this; omega
        apply bef_at hk2 hki
        have : (ops.map (fun o => sk X o.op)).getD k .pure = .alloc := by
          have hkr : tl[k]? = some r := by rw [htl, List.getElem?_append_left (List.getElem?_eq_some_iff.1 h1).1]; exact h1
          exact (pmk k r b hkr h2).1
        rw [this]; rfl
      rw [hh, readOp_congr hoe, q7]
      exact q8
  rw [hrd]
  simp only [cond_true]
  rw [p3]
  dsimp only
  rw [nble, decide_eq_true hle]
  simp only [cond_true]
  rw [← p4]
end
end GX
/- GX: reasoning about runs: regions that draw their order, where reads look at blocks that later loud operations leave alone (blocks made in the region, too). -/


namespace GX
noncomputable section
open Go
def WF (X : X) (n : Nat) (all : List Oper) (D : List Fct) (os : List Oper) (i : Nat) (ks : List Kt) (Q : Ex → Env → St → Prop) (l : L) (S : St) : Prop :=
  ∀ e, Ag l e → ∃ f e' S', RunF X (exec X f) n all D os i e S e' S' ∧ QK X n ks Q .nor e' S'
section
variable {X : X} {n : Nat} {ks : List Kt} {Q : Ex → Env → St → Prop} {l : L} {S : St} {D : List Fct} {all os : List Oper} {o : Oper} {i : Nat}
theorem W_drawnF (D : List Fct) {id : Nat} {ops : Array Oper} (hD : ∀ f ∈ D, f.src = none ∧ f.id < S.n ∧ S.h.get f.id = some f.x) (hs : seqB X n ops.toList = true) (h : WF X n ops.toList D ops.toList 0 ks Q l S) : W X n (.region id ops true) ks Q l S := by
  unfold W
  intro e he
  obtain ⟨f, e1, S1, h1, h2⟩ := h e he
  exact ⟨f + 1, .nor, e1, S1, by show step X (exec X f) n (.region id ops true) e S = _; unfold step; exact drawn_F hD hs h1, h2⟩
theorem WF_nil (h : V X n .nor ks Q l S) : WF X n all D [] i ks Q l S := by
  unfold V at h
  exact fun e he => ⟨0, e, S, ⟨rfl, rfl⟩, h e he⟩
theorem WF_pa {d : Nat} (hg : o.guard = none) (hd : o.dst = some d) (hn : Nat.blt d n = true) (hn' : Nat.blt n 1000001 = true) (hsk : isPA (sk X o.op) = true)
    (h : Ev X l S o.op fun v S' => WF X n all D os (i + 1) ks Q ((d, v) :: l) S') : WF X n all D (o :: os) i ks Q l S := by
  intro e he
  unfold Ev at h
  obtain ⟨f, v, S1, h1, h2, h3⟩ := h e he
  rw [nblt, decide_eq_true_eq] at hn hn'
  obtain ⟨g, e2, S2, h4, h5⟩ := h3 _ (he.put hn' hn)
  have hck := sk_ok h1
  refine ⟨max f g, e2, S2, .inl ⟨wanted_none hg, v, S1, e.put d v, [], oper_le (exec_le (Nat.le_max_left f g)) h1, ?_, h2, fun hc => ?_, fun hc => ?_, fun f hf => (by cases hf), by rw [List.append_nil]; exact RunF_le (exec_le (Nat.le_max_right f g)) h4⟩, h5⟩
  · rw [hd]; unfold setDst; dsimp only; rw [nblt, decide_eq_true hn]; rfl
  · rcases hck with hq | hq
    · rw [hq] at hc; cases hc
    · rw [hq] at hc; rw [hc] at hsk; cases hsk
  · rcases hck with hq | hq
    · rw [hq] at hc; cases hc
    · rw [hq] at hc
      exfalso
      cases hs : sk X o.op <;> rw [hs] at hc hsk <;> first | (cases hc; done) | (cases hsk; done)
/-- an operation that makes a block, which is told -/
theorem WF_al {d : Nat} (hg : o.guard = none) (hd : o.dst = some d) (hn : Nat.blt d n = true) (hn' : Nat.blt n 1000001 = true) (hcl : ∀ e, Ag l e → cls X e o.op = .alloc)
    (h : Ev X l S o.op fun v S' => ∃ x, S'.h.get S.n = some x ∧ S.n < S'.n ∧ WF X n all (D ++ [⟨S.n, x, some i⟩]) os (i + 1) ks Q ((d, v) :: l) S') : WF X n all D (o :: os) i ks Q l S := by
  intro e he
  unfold Ev at h
  obtain ⟨f, v, S1, h1, h2, x, hx, hlt, h3⟩ := h e he
  rw [nblt, decide_eq_true_eq] at hn hn'
  obtain ⟨g, e2, S2, h4, h5⟩ := h3 _ (he.put hn' hn)
  have hc0 := hcl e he
  refine ⟨max f g, e2, S2, .inl ⟨wanted_none hg, v, S1, e.put d v, [⟨S.n, x, some i⟩], oper_le (exec_le (Nat.le_max_left f g)) h1, ?_, h2, fun hc => (by rw [hc0] at hc; cases hc), fun hc => (by rw [hc0] at hc; cases hc), fun f hf => ?_, RunF_le (exec_le (Nat.le_max_right f g)) h4⟩, h5⟩
  · rw [hd]; unfold setDst; dsimp only; rw [nblt, decide_eq_true hn]; rfl
  · rw [List.mem_singleton] at hf; subst hf
    exact ⟨rfl, hlt, hx, .inr ⟨hc0, rfl⟩⟩
/-- a read that is ordered with all loud operations -/
theorem WF_rs {d : Nat} (hg : o.guard = none) (hd : o.dst = some d) (hn : Nat.blt d n = true) (hn' : Nat.blt n 1000001 = true) (hsk : isLC (sk X o.op) = false) (hst : rdStat (masks all []) (all.map (fun o => sk X o.op)) i = true)
    (h : Ev X l S o.op fun v S' => WF X n all D os (i + 1) ks Q ((d, v) :: l) S') : WF X n all D (o :: os) i ks Q l S := by
  intro e he
  unfold Ev at h
  obtain ⟨f, v, S1, h1, h2, h3⟩ := h e he
  rw [nblt, decide_eq_true_eq] at hn hn'
  obtain ⟨g, e2, S2, h4, h5⟩ := h3 _ (he.put hn' hn)
  have hck := sk_ok h1
  refine ⟨max f g, e2, S2, .inl ⟨wanted_none hg, v, S1, e.put d v, [], oper_le (exec_le (Nat.le_max_left f g)) h1, ?_, h2, fun _ => .inl hst, fun hc => ?_, fun f hf => (by cases hf), by rw [List.append_nil]; exact RunF_le (exec_le (Nat.le_max_right f g)) h4⟩, h5⟩
  · rw [hd]; unfold setDst; dsimp only; rw [nblt, decide_eq_true hn]; rfl
  · rcases hck with hq | hq
    · rw [hq] at hc; cases hc
    · rw [hq, hsk] at hc; cases hc
/-- a read that looks at told blocks alone -/
theorem WF_rf {d : Nat} {v : AV} (hg : o.guard = none) (hd : o.dst = some d) (hn : Nat.blt d n = true) (hn' : Nat.blt n 1000001 = true) (hS : ∀ f ∈ D, S.h.get f.id = some f.x)
    (hfp : ∀ e, Ag l e → cls X e o.op = .read ∧ FPD X D (masks all []) i e o.op v) (hvv : veq v v = true) (h : WF X n all D os (i + 1) ks Q ((d, v) :: l) S) : WF X n all D (o :: os) i ks Q l S := by
  intro e he
  obtain ⟨hc, hf⟩ := hfp e he
  rw [nblt, decide_eq_true_eq] at hn hn'
  obtain ⟨g, e2, S2, h4, h5⟩ := h _ (he.put hn' hn)
  refine ⟨g, e2, S2, .inl ⟨wanted_none hg, v, S, e.put d v, [], ?_, ?_, by rw [hc]; exact hvv, fun _ => .inr hf, fun hl => (by rw [hc] at hl; cases hl), fun f hf => (by cases hf), by rw [List.append_nil]; exact h4⟩, h5⟩
  · unfold oper; rw [hc]; dsimp only; rw [hf S.h (fun f h1 _ => hS f h1)]
  · rw [hd]; unfold setDst; dsimp only; rw [nblt, decide_eq_true hn]; rfl
/-- a loud operation, or a call, that leaves the told blocks alone, and may tell more -/
theorem WF_ld {d : Nat} (hg : o.guard = none) (hd : o.dst = some d) (hn : Nat.blt d n = true) (hn' : Nat.blt n 1000001 = true) (hcl : ∀ e, Ag l e → isLC (cls X e o.op) = true)
    (h : Ev X l S o.op fun v S' => (∀ f ∈ D, S'.h.get f.id = some f.x) ∧ ∃ N : List Fct, (∀ f ∈ N, f.src = some i ∧ f.id < S'.n ∧ S'.h.get f.id = some f.x) ∧ WF X n all (D ++ N) os (i + 1) ks Q ((d, v) :: l) S') : WF X n all D (o :: os) i ks Q l S := by
  intro e he
  unfold Ev at h
  obtain ⟨f, v, S1, h1, h2, hB, N, hN, h3⟩ := h e he
  rw [nblt, decide_eq_true_eq] at hn hn'
  obtain ⟨g, e2, S2, h4, h5⟩ := h3 _ (he.put hn' hn)
  have hc0 := hcl e he
  refine ⟨max f g, e2, S2, .inl ⟨wanted_none hg, v, S1, e.put d v, N, oper_le (exec_le (Nat.le_max_left f g)) h1, ?_, h2, fun hc => ?_, fun _ => hB, fun f hf => ⟨(hN f hf).1, (hN f hf).2.1, (hN f hf).2.2, .inl hc0⟩, RunF_le (exec_le (Nat.le_max_right f g)) h4⟩, h5⟩
  · rw [hd]; unfold setDst; dsimp only; rw [nblt, decide_eq_true hn]; rfl
  · rw [hc] at hc0; cases hc0
theorem WF_ld0 (hg : o.guard = none) (hd : o.dst = none) (hcl : ∀ e, Ag l e → isLC (cls X e o.op) = true)
    (h : Ev X l S o.op fun _ S' => (∀ f ∈ D, S'.h.get f.id = some f.x) ∧ ∃ N : List Fct, (∀ f ∈ N, f.src = some i ∧ f.id < S'.n ∧ S'.h.get f.id = some f.x) ∧ WF X n all (D ++ N) os (i + 1) ks Q l S') : WF X n all D (o :: os) i ks Q l S := by
  intro e he
  unfold Ev at h
  obtain ⟨f, v, S1, h1, h2, hB, N, hN, h3⟩ := h e he
  obtain ⟨g, e2, S2, h4, h5⟩ := h3 _ he
  have hc0 := hcl e he
  refine ⟨max f g, e2, S2, .inl ⟨wanted_none hg, v, S1, e, N, oper_le (exec_le (Nat.le_max_left f g)) h1, ?_, h2, fun hc => ?_, fun _ => hB, fun f hf => ⟨(hN f hf).1, (hN f hf).2.1, (hN f hf).2.2, .inl hc0⟩, RunF_le (exec_le (Nat.le_max_right f g)) h4⟩, h5⟩
  · rw [hd]; rfl
  · rw [hc] at hc0; cases hc0
theorem WF_guard {j d0 : Nat} {want : Bool} {p : Oper} {c : Bool} {d : Nat} (hg : o.guard = some (j, want)) (hp : all[j]? = some p) (hd0 : p.dst = some d0) (hl : lk l d0 = some (.bool c)) (hd : o.dst = some d) (hn : Nat.blt d n = true) (hn' : Nat.blt n 1000001 = true)
    (h1 : c = want → WF X n all D ({ o with guard := none } :: os) i ks Q ((d0, .bool want) :: l) S) (h2 : c = (!want) → WF X n all D os (i + 1) ks Q ((d, .tup []) :: (d0, .bool (!want)) :: l) S) : WF X n all D (o :: os) i ks Q l S := by
  intro e he
  rw [nblt, decide_eq_true_eq] at hn hn'
  have hat : e.at d0 = .bool c := he d0 _ hl
  have hag : ∀ b, c = b → Ag ((d0, .bool b) :: l) e := by
    intro b hb t v ht
    unfold lk at ht
    rw [nbeq, cond_dec] at ht
    by_cases hh : d0 = t
    · subst hh; rw [if_pos rfl] at ht; cases ht; rw [hat, hb]
    · rw [if_neg hh] at ht; exact he t v ht
  have hw : wanted all e o = (c == want) := by unfold wanted; rw [hg]; dsimp only; rw [hp]; dsimp only; rw [hd0]; dsimp only; rw [hat]
  by_cases hc : c = want
  · obtain ⟨f, e2, S2, h3, h4⟩ := h1 hc e (hag want hc)
    refine ⟨f, e2, S2, ?_, h4⟩
    have hw' : wanted all e o = true := by rw [hw, hc]; cases want <;> rfl
    unfold RunF at h3 ⊢
    rcases h3 with ⟨_, h3⟩ | ⟨h3, _⟩
    · exact .inl ⟨hw', h3⟩
    · rw [wanted_none rfl] at h3; cases h3
  · have hc' : c = (!want) := by cases c <;> cases want <;> simp_all
    obtain ⟨f, e2, S2, h3, h4⟩ := h2 hc' _ ((hag _ hc').put hn' hn)
    refine ⟨f, e2, S2, ?_, h4⟩
    have hw' : wanted all e o = false := by rw [hw, hc']; cases want <;> rfl
    refine .inr ⟨hw', e.put d (.tup []), ?_, h3⟩
    rw [hd]; unfold setDst; dsimp only; rw [nblt, decide_eq_true hn]; rfl
theorem WF_guard_dt {j d0 : Nat} {q : Oper} {p : Prop} [Decidable p] {d : Nat} (hg : o.guard = some (j, true)) (hp : all[j]? = some q) (hd0 : q.dst = some d0) (hl : lk l d0 = some (.bool (decide p))) (hd : o.dst = some d) (hn : Nat.blt d n = true) (hn' : Nat.blt n 1000001 = true)
    (h1 : p → WF X n all D ({ o with guard := none } :: os) i ks Q ((d0, .bool true) :: l) S) (h2 : ¬ p → WF X n all D os (i + 1) ks Q ((d, .tup []) :: (d0, .bool false) :: l) S) : WF X n all D (o :: os) i ks Q l S :=
  WF_guard hg hp hd0 hl hd hn hn' (fun h => h1 (of_decide_eq_true h)) (fun h => h2 (of_decide_eq_false h))
theorem WF_guard_df {j d0 : Nat} {q : Oper} {p : Prop} [Decidable p] {d : Nat} (hg : o.guard = some (j, false)) (hp : all[j]? = some q) (hd0 : q.dst = some d0) (hl : lk l d0 = some (.bool (decide p))) (hd : o.dst = some d) (hn : Nat.blt d n = true) (hn' : Nat.blt n 1000001 = true)
    (h1 : ¬ p → WF X n all D ({ o with guard := none } :: os) i ks Q ((d0, .bool false) :: l) S) (h2 : p → WF X n all D os (i + 1) ks Q ((d, .tup []) :: (d0, .bool true) :: l) S) : WF X n all D (o :: os) i ks Q l S :=
  WF_guard hg hp hd0 hl hd hn hn' (fun h => h1 (of_decide_eq_false h)) (fun h => h2 (of_decide_eq_true h))
theorem WF_guard_t {j d0 : Nat} {want : Bool} {p : Oper} {d : Nat} (hg : o.guard = some (j, want)) (hp : all[j]? = some p) (hd0 : p.dst = some d0) (hl : lk l d0 = some (.bool want)) (hd : o.dst = some d) (hn : Nat.blt d n = true) (hn' : Nat.blt n 1000001 = true)
    (h1 : WF X n all D ({ o with guard := none } :: os) i ks Q l S) : WF X n all D (o :: os) i ks Q l S := by
  refine WF_guard hg hp hd0 hl hd hn hn' (fun _ => ?_) (fun h => ?_)
  · intro e he
    exact h1 e (fun t v ht => he t v (by
      unfold lk; rw [nbeq, cond_dec]
      by_cases hh : d0 = t
      · subst hh; rw [hl] at ht; cases ht; rw [if_pos rfl]
      · rw [if_neg hh]; exact ht))
  · cases want <;> cases h
theorem WF_skip {d : Nat} (hd : o.dst = some d) (hn : Nat.blt d n = true) (hn' : Nat.blt n 1000001 = true) (hw : ∀ e, Ag l e → wanted all e o = false) (h2 : WF X n all D os (i + 1) ks Q ((d, .tup []) :: l) S) : WF X n all D (o :: os) i ks Q l S := by
  intro e he
  rw [nblt, decide_eq_true_eq] at hn hn'
  obtain ⟨f, e2, S2, h3, h4⟩ := h2 _ (he.put hn' hn)
  refine ⟨f, e2, S2, .inr ⟨hw e he, e.put d (.tup []), ?_, h3⟩, h4⟩
  rw [hd]; unfold setDst; dsimp only; rw [nblt, decide_eq_true hn]; rfl
theorem WF_guard_f {j d0 : Nat} {want c : Bool} {p : Oper} {d : Nat} (hg : o.guard = some (j, want)) (hp : all[j]? = some p) (hd0 : p.dst = some d0) (hl : lk l d0 = some (.bool c)) (hc : (c == want) = false) (hd : o.dst = some d) (hn : Nat.blt d n = true) (hn' : Nat.blt n 1000001 = true)
    (h2 : WF X n all D os (i + 1) ks Q ((d, .tup []) :: l) S) : WF X n all D (o :: os) i ks Q l S :=
  WF_skip hd hn hn' (fun e he => by unfold wanted; rw [hg]; dsimp only; rw [hp]; dsimp only; rw [hd0]; dsimp only; rw [he d0 _ hl]; exact hc) h2
theorem WF_guard_x {j d0 : Nat} {want : Bool} {p : Oper} {d : Nat} (hg : o.guard = some (j, want)) (hp : all[j]? = some p) (hd0 : p.dst = some d0) (hl : lk l d0 = some (.tup [])) (hd : o.dst = some d) (hn : Nat.blt d n = true) (hn' : Nat.blt n 1000001 = true)
    (h2 : WF X n all D os (i + 1) ks Q ((d, .tup []) :: l) S) : WF X n all D (o :: os) i ks Q l S :=
  WF_skip hd hn hn' (fun e he => by unfold wanted; rw [hg]; dsimp only; rw [hp]; dsimp only; rw [hd0]; dsimp only; rw [he d0 _ hl]) h2
/-! footprints -/
theorem FPD_load {t : Nat} {x : Operand} {p : AV} {o : Nat} {i' : TI} {cs : List AV} {v : AV} {ms : List Nat} (hx : od l x = some p) (hi : X.ti t = some i') (hag : aggD i'.desc = false) (hp : Pt S p cs o) (hv : cs[o]? = some v)
    (hb : ∀ b, blkOf p = some b → ∃ f ∈ D, f.id = b ∧ S.h.get b = some f.x ∧ ∀ j, f.src = some j → inM ms i j = true) :
    ∀ e, Ag l e → cls X e (.load t x) = .read ∧ FPD X D ms i e (.load t x) v := fun _ he =>
  ⟨rfl, fun H hH => load_eq (m := S.n) (od_ok he hx) hi hag (hp.keep fun b h => by
    obtain ⟨f, h1, h2, h3, h4⟩ := hb b h
    show H.get b = _; rw [h3, ← h2]; exact hH f h1 h4) hv⟩
theorem FPD_conv {x : Operand} {s d el m : Nat} {si di ei : TI} {v : AV} {cs : List AV} {z : List Nat} {ms : List Nat} (hx : od l x = some v) (hs : X.ti s = some si) (hd : X.ti d = some di) (hdd : di.desc = .string) (hsd : si.desc = .slice el) (he' : X.ti el = some ei) (hk : ei.desc = .int .u8) (hrd : Rd S v 1 cs m) (hz : bytesOf cs = some z)
    (hb : ∀ b, blkOf v = some b → ∃ f ∈ D, f.id = b ∧ S.h.get b = some f.x ∧ ∀ j, f.src = some j → inM ms i j = true) :
    ∀ e, Ag l e → cls X e (.convert s d x) = .read ∧ FPD X D ms i e (.convert s d x) (.str z) := fun _ he =>
  ⟨by unfold cls; dsimp only; rw [hs]; dsimp only; rw [hsd]; dsimp only; rw [hd]; dsimp only; rw [hdd], fun H hH => conv_eq (m' := S.n) (od_ok he hx) hs hd hdd hsd he' hk (hrd.keep fun b h => by
    obtain ⟨f, h1, h2, h3, h4⟩ := hb b h
    show H.get b = _; rw [h3, ← h2]; exact hH f h1 h4) hz⟩
end
end
end GX
/- GX: reasoning about runs: rules for arguments that have no block; runes read in a region that draws its order. -/

namespace GX
noncomputable section
open Go
section
variable {X : X} {l : L} {S : St} {R : AV → St → Prop} {t : Nat} {x y : Operand} {D : List Fct} {i : Nat}
theorem Ev_indexAddr_n {v : AV} {k : IntKind} {i m : Nat} {ti ei : TI} {el : Nat} {cs : List AV} (hy : od l y = some (.int k ((i : Nat) : Int))) (hx : od l x = some v) (hi : X.ti t = some ti) (hd : ti.desc = .slice el) (he' : X.ti el = some ei) (hrd : Rd S v ei.size cs m) (hn : blkOf v = none) (hlt : i < m)
    (hR : R (.rptr cs (i * ei.size)) S) : Ev X l S (.indexAddr t x y) R := by
  have hc := hrd.cells
  have hl := hrd.len
  cases v with
  | slice b o n cap => cases hn
  | rsl cs0 n z =>
    cases hl
    have hz : z = ei.size ∧ cs0.length = m * z := by have := hrd.cap; simpa [capW] using this
    obtain ⟨hz, hl0⟩ := hz
    subst hz
    have hcs : cs = cs0 := by
      unfold srcCells at hc; dsimp only at hc
      rw [nbeq, nble, ← Bool.decide_and, cond_dec] at hc
      split at hc
      · cases hc; rw [List.take_of_length_le (by omega)]
      · cases hc
    subst hcs
    refine Ev_pure (v := .rptr cs (i * ei.size)) (fun e he => ⟨rfl, ?_⟩) hR
    unfold pureOp; dsimp only; rw [od_ok he hy]; show (match opd e x with | some (.slice b o len _) => _ | some (.rsl cs len sz) => _ | _ => none) = _
    rw [od_ok he hx]; dsimp only; rw [hi]; dsimp only; rw [hd]; dsimp only; rw [he']; dsimp only; rw [nblt, nbeq, decide_eq_true hlt, decide_eq_true rfl]; rfl
  | nils => cases hl; omega
  | emp => cases hl; omega
  | _ => cases hl
theorem Ev_fieldAddr_n {f o : Nat} {i fi : TI} {fs : Array Field} {fd : Field} {cs : List AV} (hx : od l x = some (.rptr cs o)) (hi : X.ti t = some i) (hd : i.desc = .struct fs) (hf : fs.toList[f]? = some fd) (hfi : X.ti fd.type = some fi) (hz : Nat.beq fi.size 0 = false)
    (hR : R (.rptr cs (o + fd.offset)) S) : Ev X l S (.fieldAddr t x f) R :=
  Ev_pure (fun e he => ⟨rfl, by unfold pureOp; dsimp only; rw [od_ok he hx]; dsimp only; rw [hi]; dsimp only; rw [hd]; dsimp only; rw [hf]; dsimp only; rw [hfi]; dsimp only; rw [hz]; rfl⟩) hR
theorem FPD_load_n {o : Nat} {i' : TI} {cs : List AV} {v : AV} {ms : List Nat} (hx : od l x = some (.rptr cs o)) (hi : X.ti t = some i') (hag : aggD i'.desc = false) (hv : cs[o]? = some v) :
    ∀ e, Ag l e → cls X e (.load t x) = .read ∧ FPD X D ms i e (.load t x) v :=
  FPD_load (S := { h := .leaf, n := 0 }) hx hi hag (.inr rfl) hv (fun b hb => by cases hb)
theorem conv_eq_r {e : Env} {H : Tr AB} {x : Operand} {s d el m m' : Nat} {si di ei : TI} {v : AV} {cs : List AV} {z : List Nat} (hx : opd e x = some v) (hs : X.ti s = some si) (hd : X.ti d = some di) (hdd : di.desc = .string) (hsd : si.desc = .slice el) (he' : X.ti el = some ei) (hk : ei.desc = .int .i32) (hrd : Rd { h := H, n := m' } v 1 cs m) (hz : runesOf cs = some z) : readOp X e H (.convert s d x) = some (.str z) := by
  unfold readOp; dsimp only; rw [hx]; dsimp only; rw [hd]; dsimp only; rw [hs]; dsimp only; rw [hdd]; dsimp only; rw [hsd]; dsimp only; rw [he']; dsimp only; rw [hk]
  have h2 := hrd.cells
  have h3 := hrd.len
  have h4 := hrd.size
  cases v with
  | slice b o n k =>
    cases h3
    unfold srcCells at h2; dsimp only at h2 ⊢
    rw [Nat.mul_one] at h2; rw [h2]; dsimp only; rw [hz]
  | rsl cs0 n z0 =>
    cases h3
    have hz0 : z0 = 1 ∧ cs0.length = m * z0 := by have := hrd.cap; simpa [capW] using this
    obtain ⟨hz0, hl0⟩ := hz0
    subst hz0
    unfold srcCells at h2; dsimp only at h2 ⊢
    rw [nbeq, nble, ← Bool.decide_and, cond_dec] at h2
    split at h2
    · cases h2
      rw [List.take_of_length_le (by omega)] at hz
      rw [show Nat.beq 1 1 = true from rfl]
      simp only [cond_true]
      rw [hz]
    · cases h2
  | nils => cases h3; cases List.eq_nil_of_length_eq_zero (by omega : cs.length = 0); cases hz; rfl
  | emp => cases h3; cases List.eq_nil_of_length_eq_zero (by omega : cs.length = 0); cases hz; rfl
  | _ => have := hrd.sl; cases this
theorem FPD_conv_r {x : Operand} {s d el m : Nat} {si di ei : TI} {v : AV} {cs : List AV} {z : List Nat} {ms : List Nat} (hx : od l x = some v) (hs : X.ti s = some si) (hd : X.ti d = some di) (hdd : di.desc = .string) (hsd : si.desc = .slice el) (he' : X.ti el = some ei) (hk : ei.desc = .int .i32) (hrd : Rd S v 1 cs m) (hz : runesOf cs = some z)
    (hb : ∀ b, blkOf v = some b → ∃ f ∈ D, f.id = b ∧ S.h.get b = some f.x ∧ ∀ j, f.src = some j → inM ms i j = true) :
    ∀ e, Ag l e → cls X e (.convert s d x) = .read ∧ FPD X D ms i e (.convert s d x) (.str z) := fun _ he =>
  ⟨by unfold cls; dsimp only; rw [hs]; dsimp only; rw [hsd]; dsimp only; rw [hd]; dsimp only; rw [hdd], fun H hH => conv_eq_r (m' := S.n) (od_ok he hx) hs hd hdd hsd he' hk (hrd.keep fun b h => by
    obtain ⟨f, h1, h2, h3, h4⟩ := hb b h
    show H.get b = _; rw [h3, ← h2]; exact hH f h1 h4) hz⟩
end
end
end GX
/- carafebook.Strings as a function that makes no block; texts as things that are kept. -/




namespace Go.Proofs.Ytdhfjkikoiifcaa
open GX
set_option maxHeartbeats 16000000
set_option maxRecDepth 100000
section
variable {X : X} {l : L} {S : St} {R : AV → St → Prop} {x y : Go.Operand} {t u : Nat} {k : Go.IntKind} {a b : Int}
theorem Ev_addw (hx : od l x = some (.int k a)) (hy : od l y = some (.int k b)) (hR : R (.int k (wrp k (a + b))) S) : Ev X l S (.binOp .add t x y u) R :=
  Ev_ibin hx hy ⟨by simp, by simp⟩ (by unfold ibin; rfl) hR
theorem Ev_subw (hx : od l x = some (.int k a)) (hy : od l y = some (.int k b)) (hR : R (.int k (wrp k (a - b))) S) : Ev X l S (.binOp .sub t x y u) R :=
  Ev_ibin hx hy ⟨by simp, by simp⟩ (by unfold ibin; rfl) hR
theorem Ev_ene {a b : List Nat} (hx : od l x = some (.str a)) (hy : od l y = some (.str b)) (hR : R (.bool (decide (a ≠ b))) S) : Ev X l S (.binOp .neq t x y u) R := Ev_sneq hx hy hR
end
abbrev El := List Nat
abbrev elV (c : El) : AV := .str c
theorem elV_one (c : El) : AV.one (elV c) = true := rfl
theorem elV_veq (c : El) : veq (elV c) (elV c) = true := veq_str c
def cellsE (cs : List El) : List AV := cs.map elV
def mk1 (i _j : Nat) : El := [109, 97, 114, 107, 32] ++ [i % 256, i / 256 % 256, i / 65536 % 256]
theorem mark_runs {S : St} {i j : Nat} (hok : Sok S) (hn : S.n + 10 ≤ 1000000000) :
    Runs X1 11 [.int .i64 ((i : Nat) : Int), .int .i64 ((j : Nat) : Int)] S fun r _ => r = elV (mk1 i j) := by
  refine Runs_fn (m := 16) (by kernel_rfl) Try.func11 rfl (by kernel_rfl) (by kernel_rfl) ?_
  repeat (
    first
      | refine W_seq ?_
      | refine WO_nil ?_
      | refine V_seq ?_
      | refine W_region ?_
      | refine WO_dst rfl rfl (by kernel_rfl) (by kernel_rfl) ?_
      | refine Ev_shrN (m := 16) (q := 65536) rfl rfl rfl rfl ?_
      | refine Ev_move rfl ?_
      | refine Ev_assign rfl ?_
      | refine Ev_shrN (m := 8) (q := 256) rfl rfl rfl rfl ?_
      | refine Ev_conv8 rfl rfl rfl rfl rfl ?_)
  refine Ev_buildSlice rfl rfl rfl rfl rfl rfl hok (by omega) ?_
  intro S1 n1 ok1 q1 f1
  repeat (
    refine WO_dst rfl rfl (by kernel_rfl) (by kernel_rfl) ?_)
  refine Ev_conv_to_str rfl rfl rfl rfl rfl rfl rfl (Rd_lit (m := 3) q1 rfl rfl) (z := [i % 256, i / 256 % 256, i / 65536 % 256]) ?_ ?_
  · refine bytesOf_sbytes (s := [i % 256, i / 256 % 256, i / 65536 % 256]) ?_
    intro c hc
    rcases List.mem_cons.1 hc with h | hc
    · omega
    rcases List.mem_cons.1 hc with h | hc
    · omega
    rcases List.mem_cons.1 hc with h | hc
    · omega
    cases hc
  repeat (
    refine WO_dst rfl rfl (by kernel_rfl) (by kernel_rfl) ?_)
  refine Ev_sadd rfl rfl (by show 5 + 3 < 9223372036854775808; omega) ?_
  repeat (
    first
      | refine WO_nil ?_
      | refine V_seq ?_
      | refine W_ret ?_
      | refine WO_dst rfl rfl (by kernel_rfl) (by kernel_rfl) ?_
      | refine Ev_assign rfl ?_)
  refine V_done rfl rfl ?_
  rfl
/-- the machine in which a mark is made in one step -/
def extMark (args : List AV) (S : St) : Option (AV × St) := match args with
  | [.int .i64 (.ofNat i), .int .i64 (.ofNat j)] => some (elV (mk1 i j), S)
  | _ => none
noncomputable def ext2 (f : Nat) : Option (List AV → St → Option (AV × St)) := bif Nat.beq f 11 then some extMark else X1.ext f
noncomputable abbrev X2 : X := { X1 with ext := ext2 }
theorem extMark_ok [Val] (hx : ∀ f g, X1.ext f = some g → ExtOK Try.prog f g) : ExtOK Try.prog 11 extMark := by
  intro args S r S' h
  unfold extMark at h
  split at h
  · rename_i i j
    simp only [Option.some.injEq, Prod.mk.injEq] at h
    obtain ⟨rfl, rfl⟩ := h
    refine ⟨Nat.le_refl _, ?_⟩
    intro φ w vs hv hw _
    have hv0 : vrels φ0 [.int .i64 ((i : Nat) : Int), .int .i64 ((j : Nat) : Int)] vs.toList := by
      simp only [vrels, vrel] at hv ⊢
      exact hv
    obtain ⟨fuel, v, S1, h1, _, rfl⟩ := (mark_runs (i := i) (j := j) (S := { h := .leaf, n := 0 }) (by intro c x h; simp [Tr.get] at h) (by show 0 + 10 ≤ _; omega)).elim
    have hs := call_sound xok1 hx h1 hv0 (wrel_empty w (fun g o ho => (hw.ro g o ho).1)) (fun _ _ _ => rfl)
    intro o a next Q hq
    refine hs o a next Q ?_
    rintro u w' ⟨φ', k1, k2, k3⟩
    have hbel : Go.RowKit.Below w.heap.size w w' := ⟨k3.os, k3.tape, k3.output, k3.size, fun k hk => k3.frame k hk (by intro id b l e; cases e)⟩
    obtain ⟨m1, m2⟩ := kept_below (n := S.n) hw hbel
    refine hq u w' ⟨φ, ?_, m1, m2⟩
    simp only [vrel] at k1 ⊢
    exact k1
  · cases h
theorem xok2 [Val] : XOK Try.prog X2 := ⟨xok1.ti, xok1.fn, xok1.gor, xok1.mixed, xok1.eqs⟩
theorem ext2_ok [Val] (hx : ∀ f g, X1.ext f = some g → ExtOK Try.prog f g) : ∀ f g, X2.ext f = some g → ExtOK Try.prog f g := by
  intro f g h
  have h' : (bif Nat.beq f 11 then some extMark else X1.ext f) = some g := h
  rw [nbeq, cond_dec] at h'
  split at h'
  · rename_i e; subst e; cases h'; exact extMark_ok hx
  · exact hx f g h'
end Go.Proofs.Ytdhfjkikoiifcaa
/- GX: reasoning about runs: loads of whole structs in a region that draws its order; two bools compared. -/

namespace GX
noncomputable section
open Go
section
variable {X : X} {l : L} {S : St} {R : AV → St → Prop} {t u : Nat} {x y : Operand} {D : List Fct} {i : Nat}
theorem load_eq_agg {e : Env} {H : Tr AB} {t : Nat} {x : Operand} {p : AV} {o : Nat} {i : TI} {cs ds : List AV} {m : Nat} (hx : opd e x = some p) (hi : X.ti t = some i) (hag : aggD i.desc = true) (hp : Pt { h := H, n := m } p cs o) (hle : o + i.size ≤ cs.length) (hv : (cs.drop o).take i.size = ds) : readOp X e H (.load t x) = some (.agg ds) := by
  unfold readOp; dsimp only; rw [hx]
  rcases hp with ⟨b, o0, ty, cs0, sp, rfl, h2, h3, h4⟩ | rfl
  · have hrow : row H b (o0 + o) i.size = some ds := by
      unfold row; rw [h2]; dsimp only; rw [nble, decide_eq_true (by omega)]; simp only [cond_true]; rw [drop_take_eq h4 hle, hv]
    dsimp only; unfold loadAt; rw [hi]; dsimp only
    split
    · rw [hrow]
    · rw [hrow]
    · rename_i h1 h2
      cases hd : i.desc with
      | struct f => exact absurd hd (h1 f)
      | array a b => exact absurd hd (h2 a b)
      | _ => rw [hd] at hag; cases hag
  · dsimp only; unfold loadR; rw [hi]; dsimp only
    split
    · rw [nble, decide_eq_true hle]; simp only [cond_true]; rw [hv]
    · rw [nble, decide_eq_true hle]; simp only [cond_true]; rw [hv]
    · rename_i h1 h2
      cases hd : i.desc with
      | struct f => exact absurd hd (h1 f)
      | array a b => exact absurd hd (h2 a b)
      | _ => rw [hd] at hag; cases hag
theorem FPD_loadA {t : Nat} {x : Operand} {p : AV} {o : Nat} {i' : TI} {cs ds : List AV} {ms : List Nat} (hx : od l x = some p) (hi : X.ti t = some i') (hag : aggD i'.desc = true) (hp : Pt S p cs o) (hle : o + i'.size ≤ cs.length) (hv : (cs.drop o).take i'.size = ds)
    (hb : ∀ b, blkOf p = some b → ∃ f ∈ D, f.id = b ∧ S.h.get b = some f.x ∧ ∀ j, f.src = some j → inM ms i j = true) :
    ∀ e, Ag l e → cls X e (.load t x) = .read ∧ FPD X D ms i e (.load t x) (.agg ds) := fun _ he =>
  ⟨rfl, fun H hH => load_eq_agg (m := S.n) (od_ok he hx) hi hag (hp.keep fun b h => by
    obtain ⟨f, h1, h2, h3, h4⟩ := hb b h
    show H.get b = _; rw [h3, ← h2]; exact hH f h1 h4) hle hv⟩
theorem FPD_loadA_n {o : Nat} {i' : TI} {cs ds : List AV} {ms : List Nat} (hx : od l x = some (.rptr cs o)) (hi : X.ti t = some i') (hag : aggD i'.desc = true) (hle : o + i'.size ≤ cs.length) (hv : (cs.drop o).take i'.size = ds) :
    ∀ e, Ag l e → cls X e (.load t x) = .read ∧ FPD X D ms i e (.load t x) (.agg ds) :=
  FPD_loadA (S := { h := .leaf, n := 0 }) hx hi hag (.inr rfl) hle hv (fun b hb => by cases hb)
theorem Ev_beql {a b : Bool} {i : TI} (hx : od l x = some (.bool a)) (hy : od l y = some (.bool b)) (hi : X.ti t = some i) (hd : i.desc = .bool) (hR : R (.bool (a == b)) S) : Ev X l S (.binOp .eql t x y u) R :=
  Ev_bin hx hy rfl (by unfold abin; dsimp only; unfold aeq; rw [hi]; dsimp only; rw [hd]) hR
end
end
end GX
/- GX: reasoning about runs: a slice that may be grown: owned, or made empty. -/

namespace GX
noncomputable section
open Go
/-- a slice that is owned, or an empty one that code has made -/
def Gz (S : St) (v : AV) (el sz : Nat) (cs : List AV) (m : Nat) : Prop :=
  Own S v el sz cs m ∨ (m = 0 ∧ cs = [] ∧ ∃ b o, v = .slice b o 0 (.ex 0) ∧ Rd S v sz [] 0)
theorem Gz.rd {S : St} {v : AV} {el sz m : Nat} {cs : List AV} (h : Gz S v el sz cs m) : Rd S v sz cs m := by
  rcases h with h | ⟨rfl, rfl, b, o, _, h⟩
  · exact h.rd
  · exact h
theorem Gz.keep {S S' : St} {v : AV} {el sz m : Nat} {cs : List AV} (h : Gz S v el sz cs m) (hk : ∀ b, blkOf v = some b → S'.h.get b = S.h.get b) : Gz S' v el sz cs m := by
  rcases h with h | ⟨rfl, rfl, b, o, hv, h⟩
  · exact .inl (h.keep hk)
  · exact .inr ⟨rfl, rfl, b, o, hv, h.keep hk⟩
theorem Gz.lt {S : St} {v : AV} {el sz m : Nat} {cs : List AV} (h : Gz S v el sz cs m) (hok : Sok S) {b : Nat} (hb : blkOf v = some b) : b < S.n := h.rd.lt hok hb
theorem Gz.own {S : St} {v : AV} {el sz m : Nat} {cs : List AV} (h : Gz S v el sz cs m) (hm : 0 < m) : Own S v el sz cs m := by
  rcases h with h | ⟨h, _⟩
  · exact h
  · omega
theorem Gz.eq {S : St} {v : AV} {el sz m m' : Nat} {cs cs' : List AV} (h : Gz S v el sz cs m) (hc : cs = cs') (hm : m = m') : Gz S v el sz cs' m' := by subst hc; subst hm; exact h
section
variable {X : X} {l : L} {S : St} {R : AV → St → Prop} {x y : Operand} {t t' : Nat}
theorem Ev_append_gz {xs : Array Operand} {ts : Array TypeId} {tr : List TypeId} {i i' ei : TI} {el m k : Nat} {vs vx : AV} {cs new : List AV} (hxs : xs.toList = [x, y]) (hts : ts.toList = t :: t' :: tr) (hi' : X.ti t' = some i') (hni : (match i'.desc with | .int _ => false | _ => true) = true)
    (hx : od l x = some vs) (hy : od l y = some vx) (hi : X.ti t = some i) (hd : i.desc = .slice el) (he' : X.ti el = some ei) (hz : (Nat.beq ei.size 0 || !(Nat.beq ei.zero.length ei.size)) = false)
    (hown : Gz S vs el ei.size cs m) (hnew : Rd S vx ei.size new k) (hone : new.all AV.one = true) (hok : Sok S) (hn : S.n < 1000000000) (hlim : (2 * (m + k) + 1000) * ei.bytes ≤ 140737488355328) (hlim2 : m + k ≤ 140737488355328)
    (hR : ∀ v' S', S.n ≤ S'.n → S'.n ≤ S.n + 1 → Sok S' → Gz S' v' el ei.size (cs ++ new) (m + k) → (∀ c, blkOf vs ≠ some c → c < S.n → S'.h.get c = S.h.get c) → (∀ c, blkOf v' = some c → blkOf vs = some c ∨ S.n ≤ c) → R v' S') :
    Ev X l S (.call { callee := .builtin .append, args := xs, argTypes := ts }) R := by
  rcases hown with h | ⟨rfl, rfl, b, o, rfl, h⟩
  · exact Ev_append hxs hts hi' hni hx hy hi hd he' hz h hnew hone hok hn hlim hlim2 (fun v' S' h1 h2 h3 h4 h5 h6 => hR v' S' h1 h2 h3 (.inl h4) h5 h6)
  · by_cases hk : k = 0
    · subst hk
      have hnil : new = [] := List.eq_nil_of_length_eq_zero (by rw [hnew.size]; omega)
      subst hnil
      have hrow : row S.h b o (0 * ei.size) = some [] := h.cells
      have hl := srcLen_of hnew.len
      have ha0 : aappend X S t (.slice b o 0 (.ex 0)) vx = (bif Nat.ble (0 + 0) 0 then
                (match storeAt S b (o + 0 * ei.size) [] with
                | none => none
                | some S => some (.slice b o (0 + 0) (.ex 0), S))
              else grow S el ei.size ei.bytes ([] ++ []) (0 + 0)) := by
        rw [app_eq hi hd he' hz hl hnew.cells]; unfold appBody; dsimp only; rw [hrow]; rfl
      unfold row at hrow
      split at hrow
      · rename_i ty cs sp hb
        rw [nble, cond_dec] at hrow
        split at hrow
        · rename_i hle
          have hbn : b < S.n := hok _ _ hb
          have hsame : ∀ c, (S.put b (.cells ty (lput cs (o + 0 * ei.size) []) sp)).h.get c = S.h.get c := by
            intro c
            rw [get_put (by omega), lput_nil]
            split
            · rename_i h; rw [h, hb]
            · rfl
          refine Ev_loud (S' := S.put b (.cells ty (lput cs (o + 0 * ei.size) []) sp)) (v := .slice b o 0 (.ex 0)) (fun e he => ⟨rfl, ?_⟩) (Nat.le_refl _) (hR _ _ (Nat.le_refl _) (Nat.le_succ _) ?_ (.inr ⟨rfl, rfl, b, o, rfl, ?_⟩) (fun c _ _ => hsame c) (fun c hc => .inl hc))
          · unfold loudOp; dsimp only; rw [hxs, hts]; dsimp only; rw [hi']; dsimp only
            split
            · rename_i hdd; rw [hdd] at hni; cases hni
            · rw [od_ok he hx, od_ok he hy]
              show aappend X S t (.slice b o 0 (.ex 0)) vx = _
              rw [ha0]
              unfold storeAt; rw [hb]; dsimp only
              rw [nble, nble, decide_eq_true (Nat.le_refl _), decide_eq_true (by simpa using hle)]; rfl
          · intro c x hc; rw [hsame] at hc; exact hok c x hc
          · exact h.keep (fun c _ => hsame c)
        · cases hrow
      · cases hrow
    · refine Ev_append_ex hxs hts hi' hni hx hy hi hd he' hz h hnew hok hn hlim hlim2 (fun v' S' h1 h2 h3 _ h5 h6 h7 => hR v' S' h1 h2 h3 ?_ (fun c _ hc => h6 c hc) (fun c hc => (h7 c hc).imp (fun h => by rw [h]; rfl) id))
      rcases h5 with h5 | h5
      · omega
      · exact .inl h5
/-- a slice, and nil -/
theorem Ev_eq_nils {t u : Nat} {i : TI} {el sz m : Nat} {v : AV} {cs : List AV} (hx : od l x = some v) (hy : od l y = some .nils) (hi : X.ti t = some i) (hd : i.desc = .slice el) (h : Rd S v sz cs m) (hR : ∀ b : Bool, (b = true → m = 0 ∧ cs = []) → R (.bool b) S) : Ev X l S (.binOp .eql t x y u) R := by
  have hsl := h.sl
  have hs := h.size
  have hlen := h.len
  have hae : ∃ b : Bool, aeq X 10 t v .nils = some b ∧ (b = true → v = .nils) := by
    unfold aeq; rw [hi]; dsimp only; rw [hd]
    cases v <;> first | exact ⟨_, rfl, fun h => by first | rfl | cases h⟩ | cases hsl
  obtain ⟨b, hb, hb2⟩ := hae
  refine Ev_bin hx hy (by cases v <;> first | rfl | cases hsl) ?_ (hR b (fun h => ?_))
  · unfold abin
    cases v <;> first | (dsimp only; rw [hb]; done) | cases hsl
  · have := hb2 h; subst this
    simp [slen] at hlen
    subst hlen
    exact ⟨rfl, List.eq_nil_of_length_eq_zero (by omega)⟩
/-- a pointer, and nil -/
theorem Ev_ptr_eql {t u b o el : Nat} {i : TI} (hx : od l x = some (.ptr b o)) (hy : od l y = some .nilp) (hi : X.ti t = some i) (hd : i.desc = .pointer el) (hR : R (.bool false) S) : Ev X l S (.binOp .eql t x y u) R := by
  refine Ev_pure (fun _ he => ⟨?_, ?_⟩) hR
  · unfold cls; dsimp only; rw [od_ok he hx]; dsimp only; rw [od_ok he hy]
  · unfold pureOp; dsimp only; rw [od_ok he hx]; dsimp only; rw [od_ok he hy]; dsimp only; unfold abin aeq; dsimp only; rw [hi]; dsimp only; rw [hd]
theorem Ev_ptr_neq {t u b o el : Nat} {i : TI} (hx : od l x = some (.ptr b o)) (hy : od l y = some .nilp) (hi : X.ti t = some i) (hd : i.desc = .pointer el) (hR : R (.bool true) S) : Ev X l S (.binOp .neq t x y u) R := by
  refine Ev_pure (fun _ he => ⟨?_, ?_⟩) hR
  · unfold cls; dsimp only; rw [od_ok he hx]; dsimp only; rw [od_ok he hy]
  · unfold pureOp; dsimp only; rw [od_ok he hx]; dsimp only; rw [od_ok he hy]; dsimp only; unfold abin aeq; dsimp only; rw [hi]; dsimp only; rw [hd]; rfl
end
end
end GX
/- GX: reasoning about runs: slices that are appended to, and whose beginning is let go. -/

namespace GX
noncomputable section
open Go
/-- a slice of its own, from somewhere in its block on -/
def OwA (S : St) (v : AV) (el sz : Nat) (cs : List AV) (m : Nat) : Prop :=
  (v = .nils ∧ cs = [] ∧ m = 0) ∨ ∃ b pre, v = .slice b pre.length m (.op sz) ∧ S.h.get b = some (.cells el (pre ++ cs) true) ∧ cs.length = m * sz
theorem OwA.keep {S S' : St} {v : AV} {el sz : Nat} {cs : List AV} {m : Nat} (h : OwA S v el sz cs m) (hk : ∀ b, blkOf v = some b → S'.h.get b = S.h.get b) : OwA S' v el sz cs m := by
  rcases h with h | ⟨b, pre, h1, h2, h3⟩
  · exact .inl h
  · exact .inr ⟨b, pre, h1, by rw [hk b (by rw [h1]; rfl)]; exact h2, h3⟩
theorem OwA.of {S : St} {v : AV} {el sz : Nat} {cs : List AV} {m : Nat} (h : Own S v el sz cs m) : OwA S v el sz cs m := by
  rcases h with h | ⟨b, h1, h2, h3⟩
  · exact .inl h
  · exact .inr ⟨b, [], h1, h2, h3⟩
theorem OwA.rd {S : St} {v : AV} {el sz : Nat} {cs : List AV} {m : Nat} (h : OwA S v el sz cs m) : Rd S v sz cs m := by
  rcases h with ⟨h1, h2, h3⟩ | ⟨b, pre, h1, h2, h3⟩
  · subst h1; subst h2; subst h3; exact ⟨rfl, rfl, rfl, rfl, rfl, by simp⟩
  · subst h1
    refine ⟨by simp [capW], veq_slice _ _ _ _, rfl, rfl, ?_, h3⟩
    unfold srcCells row; dsimp only; rw [h2]; dsimp only
    rw [nble, decide_eq_true (by rw [List.length_append]; omega)]
    simp only [cond_true, List.drop_left]
    rw [List.take_of_length_le (by omega)]
theorem OwA.lt {S : St} {v : AV} {el sz : Nat} {cs : List AV} {m : Nat} (h : OwA S v el sz cs m) (hok : Sok S) {b : Nat} (hb : blkOf v = some b) : b < S.n := h.rd.lt hok hb
section
variable {X : X} {l : L} {S : St} {R : AV → St → Prop} {x y : Operand} {t t' : Nat}
theorem Ev_append_a {xs : Array Operand} {ts : Array TypeId} {tr : List TypeId} {i i' ei : TI} {el m k : Nat} {vs vx : AV} {cs new : List AV} (hxs : xs.toList = [x, y]) (hts : ts.toList = t :: t' :: tr) (hi' : X.ti t' = some i') (hni : (match i'.desc with | .int _ => false | _ => true) = true)
    (hx : od l x = some vs) (hy : od l y = some vx) (hi : X.ti t = some i) (hd : i.desc = .slice el) (he' : X.ti el = some ei) (hz : (Nat.beq ei.size 0 || !(Nat.beq ei.zero.length ei.size)) = false)
    (hown : OwA S vs el ei.size cs m) (hk : k ≠ 0) (hnew : Rd S vx ei.size new k) (hone : new.all AV.one = true) (hok : Sok S) (hn : S.n < 1000000000) (hlim : (2 * (m + k) + 1000) * ei.bytes ≤ 140737488355328) (hlim2 : m + k ≤ 140737488355328)
    (hR : ∀ v' S', S'.n = S.n + 1 → Sok S' → OwA S' v' el ei.size (cs ++ new) (m + k) → (∀ c, blkOf vs ≠ some c → c < S.n → S'.h.get c = S.h.get c) → blkOf v' = some S.n → R v' S') :
    Ev X l S (.call { callee := .builtin .append, args := xs, argTypes := ts }) R := by
  have key : ∀ v' S', aappend X S t vs vx = some (v', S') → S.n ≤ S'.n → R v' S' → Ev X l S (.call { callee := .builtin .append, args := xs, argTypes := ts }) R := by
    intro v' S' ha hle hr
    refine Ev_loud (fun e he => ⟨rfl, ?_⟩) hle hr
    unfold loudOp; dsimp only; rw [hxs, hts]; dsimp only; rw [hi']; dsimp only
    split
    · rename_i hdd; rw [hdd] at hni; cases hni
    · rw [od_ok he hx, od_ok he hy]; exact ha
  have hz0 : ei.size ≠ 0 := by intro h; rw [h] at hz; simp [nbeq] at hz
  have hl := srcLen_of hnew.len
  have ha0 : aappend X S t vs vx = appBody S el ei.size ei.bytes k new vs := app_eq hi hd he' hz hl hnew.cells
  have hkb : Nat.beq k 0 = false := by rw [nbeq]; simp [hk]
  rcases hown with ⟨h1, h2, h3⟩ | ⟨b, pre, h1, h2, h3⟩
  · subst h1; subst h2; subst h3
    rw [Nat.zero_add] at hlim hlim2
    refine key (.slice S.n 0 k (.op ei.size)) (S.new (.cells el new true)) ?_ (Nat.le_succ _) (hR _ _ rfl ?_ (.inr ⟨S.n, [], by rw [Nat.zero_add]; rfl, ?_, ?_⟩) ?_ rfl)
    · rw [ha0]; unfold appBody; dsimp only; rw [hkb]; simp only [cond_false]; unfold grow
      rw [nblt, nble, nble, decide_eq_true hn, decide_eq_true hlim, decide_eq_true hlim2]; rfl
    · intro c x hc
      rw [get_new hn] at hc
      by_cases h : c = S.n
      · rw [h]; exact Nat.lt_succ_self _
      · rw [if_neg h] at hc; exact Nat.lt_succ_of_lt (hok c x hc)
    · rw [get_new hn, if_pos rfl]; rfl
    · simpa using hnew.size
    · intro c _ hc; rw [get_new hn, if_neg (by omega)]
  · subst h1
    have hbn : b < S.n := hok _ _ h2
    have hns : ¬ (pre.length + (m + k) * ei.size ≤ (pre ++ cs).length) := by
      rw [List.length_append, h3, Nat.add_mul]
      have : 0 < k * ei.size := Nat.mul_pos (by omega) (by omega)
      omega
    refine key (.slice S.n 0 (m + k) (.op ei.size)) { h := Tr.set 40 (S.h.del b) S.n (.cells el ((pre ++ cs).drop pre.length ++ new) true), n := S.n + 1 } ?_ (Nat.le_succ _) (hR _ _ rfl ?_ (.inr ⟨S.n, [], rfl, ?_, ?_⟩) ?_ rfl)
    · rw [ha0]; unfold appBody; dsimp only; rw [hkb]; simp only [cond_false]
      rw [nbeq, decide_eq_true rfl]; simp only [Bool.not_true, cond_false]
      rw [h2]; dsimp only
      rw [nble, decide_eq_false hns]; simp only [cond_false]
      rw [nblt, nble, nble, nbeq, nbeq, decide_eq_true hn, decide_eq_true hlim, decide_eq_true hlim2, decide_eq_true rfl, decide_eq_true (by rw [List.length_append]; omega : pre.length + m * ei.size = (pre ++ cs).length), hone]; rfl
    · intro c x hc
      dsimp only at hc
      rw [Tr.get_set 40 _ _ _ _ (by omega)] at hc
      by_cases h : c = S.n
      · rw [h]; exact Nat.lt_succ_self _
      · rw [if_neg h, Tr.get_del] at hc
        split at hc
        · cases hc
        · exact Nat.lt_succ_of_lt (hok c x hc)
    · dsimp only; rw [Tr.get_set 40 _ _ _ _ (by omega), if_pos rfl, List.drop_left]; rfl
    · rw [List.length_append, h3, hnew.size, Nat.add_mul]
    · intro c hcb hc
      dsimp only
      rw [Tr.get_set 40 _ _ _ _ (by omega), if_neg (by omega), Tr.get_del, if_neg (fun h => hcb (by rw [h]; rfl))]
theorem Ev_slice_a {k : IntKind} {i ei : TI} {el m lo : Nat} {v : AV} {cs : List AV} (hx : od l x = some v) (hy : od l y = some (.int k ((lo : Nat) : Int))) (hi0 : X.ti t = some i) (hd : i.desc = .slice el) (he' : X.ti el = some ei) (hown : OwA S v el ei.size cs m) (hlo : lo < m)
    (hR : ∀ v', OwA S v' el ei.size (cs.drop (lo * ei.size)) (m - lo) → blkOf v' = blkOf v → R v' S) : Ev X l S (.slice t x (some y) none none) R := by
  rcases hown with ⟨_, _, h3⟩ | ⟨b, pre, h1, h2, h3⟩
  · omega
  · subst h1
    have hle : lo * ei.size ≤ cs.length := by rw [h3]; exact Nat.mul_le_mul_right _ (by omega)
    have hpl : (pre ++ cs.take (lo * ei.size)).length = pre.length + lo * ei.size := by rw [List.length_append, List.length_take]; omega
    refine Ev_slice hx (by unfold odopt; dsimp only; rw [hy]) rfl rfl hi0 hd he' rfl (r := .slice b (pre.length + lo * ei.size) (m - lo) (.op ei.size)) ?_ (hR _ (.inr ⟨b, pre ++ cs.take (lo * ei.size), by rw [hpl], ?_, ?_⟩) rfl)
    · unfold aslice
      dsimp only
      rw [hi0]; dsimp only; rw [hd]; dsimp only; rw [he']; dsimp only
      have hb : bounds m m (some (.int k ((lo : Nat) : Int))) none = some (lo, m) := by
        unfold bounds
        dsimp only
        have : bound (.int k ((lo : Nat) : Int)) m = some lo := by
          show (bif Nat.ble lo m then some lo else none) = some lo
          rw [nble, decide_eq_true (by omega)]; rfl
        rw [this]
      rw [hb]
      dsimp only
      rw [nblt, nbeq, decide_eq_true hlo, decide_eq_true rfl]; rfl
    · rw [List.append_assoc, List.take_append_drop]; exact h2
    · rw [List.length_drop, h3, Nat.sub_mul]
end
end
end GX
/- carafebook.Book of texts: Same, Stays, Apart, for lists whose capacity is known. (NODRAWN) -/




namespace Go.Proofs.Ytdhfjkikoiifcaa
open GX
set_option maxHeartbeats 16000000
set_option maxRecDepth 100000
theorem sok_upd {S S' : St} {p : Nat} {b : AB} (h : Sok S) (hp : p < S.n) (hn : S'.n = S.n) (_ : S'.h.get p = some b) (hf : ∀ c, c ≠ p → S'.h.get c = S.h.get c) : Sok S' := by
  intro c x hx
  by_cases hc : c = p
  · rw [hc, hn]; exact hp
  · rw [hf c hc] at hx; rw [hn]; exact h c x hx
theorem cellsE_len (cs : List El) : (cellsE cs).length = cs.length := by simp [cellsE]
theorem cellsE_get {cs : List El} {i : Nat} (h : i < cs.length) : (cellsE cs)[i * 1]? = some (elV cs[i]) := by
  unfold cellsE; rw [Nat.mul_one, List.getElem?_map, List.getElem?_eq_getElem h]; rfl
theorem cellsE_one (cs : List El) : (cellsE cs).all AV.one = true := by
  apply List.all_eq_true.2
  intro x hx
  unfold cellsE at hx
  obtain ⟨c, _, rfl⟩ := List.mem_map.1 hx
  exact elV_one c
theorem cellsE_app (a b : List El) : cellsE (a ++ b) = cellsE a ++ cellsE b := List.map_append
abbrev Es (S : St) (v : AV) (cs : List El) : Prop := Rd S v 1 (cellsE cs) cs.length
/-- the same lists -/
theorem esame_runs {S : St} {v w : AV} {a b : List El} (hv : Es S v a) (hw : Es S w b) (hl : a.length ≤ 1000000000 ∧ b.length ≤ 1000000000) :
    Runs X2 21 [v, w] S fun r S' => r = .bool (decide (a = b)) ∧ S' = S := by
  refine Runs_fn (m := 26) (by kernel_rfl) Try.func21 rfl (by kernel_rfl) (by kernel_rfl) ?_
  repeat' (
    first
      | refine W_seq ?_
      | refine WO_nil ?_
      | refine V_seq ?_
      | refine W_region ?_
      | refine W_skip ?_
      | refine W_block ?_
      | refine W_ret ?_
      | refine V_ret ?_
      | refine WO_dst rfl rfl (by kernel_rfl) (by kernel_rfl) ?_
      | refine Ev_len rfl rfl rfl rfl rfl hv.len ?_
      | refine Ev_len rfl rfl rfl rfl rfl hw.len ?_
      | refine Ev_move rfl ?_
      | refine Ev_assign rfl ?_
      | refine Ev_neqN rfl rfl ?_
      | (refine W_cond rfl (fun hc => ?_) (fun hc => ?_) <;> (try dsimp only at hc) <;> try (exfalso; first | omega | exact hc rfl)))
  · refine V_done rfl rfl ⟨?_, rfl⟩
    rw [decide_eq_false (fun h => hc (by rw [h]))]; rfl
  · have hlen : a.length = b.length := Classical.not_not.1 hc
    refine W_inv (fun i : Nat => [(5, .int .i64 ((i : Nat) : Int)), (0, v), (1, w)]) (fun i T => T = S ∧ i ≤ a.length ∧ a.take i = b.take i) (fun i => a.length - i) ?_ 0 ⟨rfl, Nat.zero_le _, by simp⟩ ⟨rfl, rfl, rfl, trivial⟩
    rintro i T ⟨rfl, hi, heq⟩ back
    repeat' (
      first
        | refine W_seq ?_
        | refine WO_nil ?_
        | refine V_seq ?_
        | refine W_region ?_
        | refine W_skip ?_
        | refine W_block ?_
        | refine W_ret ?_
        | refine W_exit ?_
        | refine V_block_x rfl ?_
        | refine V_seq_x ?_
        | refine V_loop_x ?_
        | refine WO_dst rfl rfl (by kernel_rfl) (by kernel_rfl) ?_
        | refine Ev_len rfl rfl rfl rfl rfl hv.len ?_
        | refine Ev_move rfl ?_
        | refine Ev_assign rfl ?_
        | refine Ev_lssN rfl rfl ?_
        | (refine W_cond rfl (fun hc => ?_) (fun hc => ?_) <;> (try dsimp only at hc) <;> try (exfalso; first | omega | exact hc rfl)))
    · have hlt : i < a.length := hc
      have hlb : i < b.length := by omega
      refine W_drawn (by kernel_rfl) ?_
      repeat (
        first
          | refine WO_dst rfl rfl (by kernel_rfl) (by kernel_rfl) ?_
          | refine Ev_move rfl ?_)
      refine Ev_indexAddr_rd rfl rfl rfl rfl rfl hv hlt ?_
      intro q hq
      repeat (
        refine WO_dst rfl rfl (by kernel_rfl) (by kernel_rfl) ?_)
      refine Ev_load_pt rfl rfl rfl hq (cellsE_get hlt) (elV_veq _) ?_
      repeat (
        first
          | refine WO_dst rfl rfl (by kernel_rfl) (by kernel_rfl) ?_
          | refine Ev_move rfl ?_)
      refine Ev_indexAddr_rd rfl rfl rfl rfl rfl hw hlb ?_
      intro q' hq'
      repeat (
        refine WO_dst rfl rfl (by kernel_rfl) (by kernel_rfl) ?_)
      refine Ev_load_pt rfl rfl rfl hq' (cellsE_get hlb) (elV_veq _) ?_
      repeat (
        first
          | refine WO_nil ?_
          | refine V_seq ?_
          | refine WO_dst rfl rfl (by kernel_rfl) (by kernel_rfl) ?_
          | refine Ev_ene rfl rfl ?_)
      repeat' (
        first
          | refine W_seq ?_
          | refine WO_nil ?_
          | refine V_seq ?_
          | refine W_region ?_
          | refine W_skip ?_
          | refine W_ret ?_
          | refine V_ret ?_
          | refine V_block ?_
          | refine WO_dst rfl rfl (by kernel_rfl) (by kernel_rfl) ?_
          | refine Ev_move rfl ?_
          | refine Ev_assign rfl ?_
          | refine Ev_addN rfl rfl (by simp only [lim]; omega) ?_
          | (refine W_cond rfl (fun hc => ?_) (fun hc => ?_) <;> (try dsimp only at hc) <;> try (exfalso; first | omega | exact hc rfl)))
      · refine V_done rfl rfl ⟨?_, rfl⟩
        rw [decide_eq_false]; rfl
        intro h
        subst h
        exact hc rfl
      · refine back (i + 1) _ _ (by omega) ⟨rfl, by omega, ?_⟩ ⟨rfl, rfl, rfl, trivial⟩
        rw [List.take_succ_eq_append_getElem hlt, List.take_succ_eq_append_getElem hlb, heq, Classical.not_not.1 hc]
    · refine V_done rfl rfl ⟨?_, rfl⟩
      have hi2 : i = a.length := by omega
      rw [decide_eq_true]; rfl
      rw [hi2, List.take_length, hlen, List.take_length] at heq
      exact heq
section
variable {X : X} {l : L} {S : St} {R : AV → St → Prop} {x : Go.Operand}
theorem Ev_cap_ex {xs : Array Go.Operand} {ts : Array Go.TypeId} {t : Nat} {tr : List Go.TypeId} {i : TI} {el b o n k : Nat} (hxs : xs.toList = [x]) (hts : ts.toList = t :: tr) (hi : X.ti t = some i) (hd : i.desc = .slice el) (hx : od l x = some (.slice b o n (.ex k))) (hR : R (.int .i64 ((k : Nat) : Int)) S) :
    Ev X l S (.call { callee := .builtin .cap, args := xs, argTypes := ts }) R :=
  Ev_pure (fun e he => ⟨by unfold cls; rfl, by unfold pureOp; dsimp only; rw [hxs, hts]; dsimp only; rw [hi]; dsimp only; rw [hd, od_ok he hx]; rfl⟩) hR
theorem Ev_slice_cap {t : Nat} {y : Go.Operand} {kk : Go.IntKind} {ti ei : TI} {el b n k : Nat} (hx : od l x = some (.slice b 0 n (.ex k))) (hy : od l y = some (.int kk ((k : Nat) : Int))) (hti : X.ti t = some ti) (hd : ti.desc = .slice el) (he' : X.ti el = some ei) (hR : R (.slice b 0 k (.ex k)) S) :
    Ev X l S (.slice t x none (some y) none) R := by
  refine Ev_slice hx rfl (by unfold odopt; dsimp only; rw [hy]) rfl hti hd he' rfl (r := .slice b 0 k (.ex k)) ?_ hR
  unfold aslice
  dsimp only
  rw [hti]; dsimp only; rw [hd]; dsimp only; rw [he']; dsimp only
  have hb : bounds n k none (some (.int kk ((k : Nat) : Int))) = some (0, k) := by
    unfold bounds
    dsimp only
    have : bound (.int kk ((k : Nat) : Int)) k = some k := by
      show (match nat? ((k : Nat) : Int) with | some m => _ | none => none) = some k
      show (bif Nat.ble k k then some k else none) = some k
      rw [nble, decide_eq_true (Nat.le_refl k)]; rfl
    rw [this]
  rw [hb]
  dsimp only
  have e : (bif Nat.beq k 0 then 0 else 0 + 0 * ei.size) = 0 := by cases Nat.beq k 0 <;> simp
  rw [e]; rfl
end
/-- a list that is kept: its capacity, what is in it, what is behind that, and a copy -/
structure It where
  v : AV
  c : Nat
  cs : List El
  extra : List AV
  w : AV
structure ItOK (T : St) (i : It) : Prop where
  kind : (∃ b, i.v = .slice b 0 i.cs.length (.ex i.c) ∧ T.h.get b = some (.cells 9 (cellsE i.cs ++ i.extra) true) ∧ i.cs.length ≤ i.c ∧ i.c ≤ i.cs.length + i.extra.length) ∨ (i.cs = [] ∧ i.c = 0 ∧ (i.v = .nils ∨ ∃ b o, i.v = .slice b o 0 (.ex 0) ∧ Es T i.v []))
  lim : i.c < 9223372036854775808
  wr : Es T i.w i.cs
  small : i.cs.length ≤ 100000
theorem ItOK.rd {T : St} {i : It} (h : ItOK T i) : Es T i.v i.cs := by
  rcases h.kind with ⟨b, h1, h2, h3⟩ | ⟨h1, h2, h3 | ⟨b, o, h3, h4⟩⟩
  · rw [h1]
    refine ⟨?_, veq_slice _ _ _ _, rfl, rfl, ?_, by rw [cellsE_len]; omega⟩
    · show Nat.ble i.cs.length i.c = true
      rw [nble]; exact decide_eq_true (by omega)
    · unfold srcCells row; dsimp only; rw [h2]; dsimp only
      rw [nble, decide_eq_true (by rw [List.length_append, cellsE_len]; omega)]
      simp only [cond_true, List.drop_zero]
      rw [List.take_append_of_le_length (by rw [cellsE_len]; omega), List.take_of_length_le (by rw [cellsE_len]; omega)]
  · rw [h1, h3]; exact ⟨rfl, rfl, rfl, rfl, rfl, rfl⟩
  · rw [h1]; exact h4
theorem ItOK.keep {T U : St} {i : It} (h : ItOK T i) (hv : ∀ b, blkOf i.v = some b → U.h.get b = T.h.get b) (hw : ∀ b, blkOf i.w = some b → U.h.get b = T.h.get b) : ItOK U i := by
  refine ⟨?_, h.lim, h.wr.keep hw, h.small⟩
  rcases h.kind with ⟨b, h1, h2, h3⟩ | ⟨h1, h2, h3 | ⟨b, o, h3, h4⟩⟩
  · exact .inl ⟨b, h1, by rw [hv b (by rw [h1]; rfl)]; exact h2, h3⟩
  · exact .inr ⟨h1, h2, .inl h3⟩
  · exact .inr ⟨h1, h2, .inr ⟨b, o, h3, h4.keep hv⟩⟩
/-- a list's capacity -/
theorem ItOK.cap {T : St} {i : It} (h : ItOK T i) : (∃ b o, i.v = .slice b o i.cs.length (.ex i.c)) ∨ (i.v = .nils ∧ i.c = 0) := by
  rcases h.kind with ⟨b, h1, h2, h3⟩ | ⟨h1, h2, h3 | ⟨b, o, h3, h4⟩⟩
  · exact .inl ⟨b, 0, h1⟩
  · exact .inr ⟨h3, h2⟩
  · exact .inl ⟨b, o, by rw [h1, h2]; exact h3⟩
section
variable {X : X} {l : L} {S : St} {R : AV → St → Prop} {x : Go.Operand}
theorem Ev_cap_it {xs : Array Go.Operand} {ts : Array Go.TypeId} {t : Nat} {tr : List Go.TypeId} {ti : TI} {el : Nat} {T : St} {i : It} (hxs : xs.toList = [x]) (hts : ts.toList = t :: tr) (hi : X.ti t = some ti) (hd : ti.desc = .slice el) (hx : od l x = some i.v) (hit : ItOK T i) (hR : R (.int .i64 ((i.c : Nat) : Int)) S) :
    Ev X l S (.call { callee := .builtin .cap, args := xs, argTypes := ts }) R := by
  rcases hit.cap with ⟨b, o, h⟩ | ⟨h, h2⟩
  · exact Ev_cap_ex hxs hts hi hd (by rw [hx, h]) hR
  · rw [h2] at hR
    rw [h] at hx
    exact Ev_pure (fun e he => ⟨by unfold cls; rfl, by unfold pureOp; dsimp only; rw [hxs, hts]; dsimp only; rw [hi]; dsimp only; rw [hd, od_ok he hx]; rfl⟩) hR
theorem Ev_slice_it {t : Nat} {y : Go.Operand} {kk : Go.IntKind} {ti ei : TI} {el : Nat} {T : St} {i : It} (hx : od l x = some i.v) (hy : od l y = some (.int kk ((i.c : Nat) : Int))) (hti : X.ti t = some ti) (hd : ti.desc = .slice el) (he' : X.ti el = some ei) (hit : ItOK T i)
    (hR : ∀ v, slen v = some i.c → (∀ b n, i.v = .slice b 0 n (.ex i.c) → v = .slice b 0 i.c (.ex i.c)) → R v S) :
    Ev X l S (.slice t x none (some y) none) R := by
  have hbd : ∀ n, bounds n i.c none (some (.int kk ((i.c : Nat) : Int))) = some (0, i.c) := by
    intro n
    unfold bounds
    dsimp only
    have : bound (.int kk ((i.c : Nat) : Int)) i.c = some i.c := by
      show (bif Nat.ble i.c i.c then some i.c else none) = some i.c
      rw [nble, decide_eq_true (Nat.le_refl i.c)]; rfl
    rw [this]
  rcases hit.cap with ⟨b, o, h⟩ | ⟨h, h2⟩ <;> rw [h] at hx
  · refine Ev_slice hx rfl (by unfold odopt; dsimp only; rw [hy]) rfl hti hd he' rfl (r := .slice b o i.c (.ex i.c)) ?_ (hR _ rfl fun b' n hb => ?_)
    · unfold aslice
      dsimp only
      rw [hti]; dsimp only; rw [hd]; dsimp only; rw [he']; dsimp only
      rw [hbd]
      dsimp only
      have e : (bif Nat.beq i.c 0 then o else o + 0 * ei.size) = o := by cases Nat.beq i.c 0 <;> simp
      rw [e]; rfl
    · rw [h] at hb; cases hb; rfl
  · refine Ev_slice hx rfl (by unfold odopt; dsimp only; rw [hy]) rfl hti hd he' rfl (r := .nils) ?_ (hR _ (by rw [h2]; rfl) fun b' n hb => by rw [h] at hb; cases hb)
    unfold aslice
    dsimp only
    have := hbd 0
    rw [h2] at this ⊢
    rw [this]
end
/-- a book with some lists -/
structure Bk (T : St) (p : Nat) (vl vw : AV) (h : Int) (is : List It) : Prop where
  ok : Sok T
  at_ : T.h.get p = some (.cells 24 [vl, vw, .int .i64 h, .bool false] false)
  lo : OwA T vl 25 1 (is.map It.v) is.length
  wo : OwA T vw 25 1 (is.map It.w) is.length
  it : ∀ i ∈ is, ItOK T i
  lp : blkOf vl ≠ some p
  wp : blkOf vw ≠ some p
  lw : ∀ c, blkOf vl = some c → blkOf vw ≠ some c
  ip : ∀ i ∈ is, ∀ c, blkOf i.v = some c ∨ blkOf i.w = some c → c ≠ p ∧ blkOf vl ≠ some c ∧ blkOf vw ≠ some c
  dis : ∀ (j k : Nat) (a b : It) (c : Nat), is[j]? = some a → is[k]? = some b → j ≠ k → blkOf a.v = some c → blkOf b.v ≠ some c
  few : is.length ≤ 1000
theorem Bk.l {T : St} {p : Nat} {vl vw : AV} {h : Int} {is : List It} (b : Bk T p vl vw h is) : Rd T vl 1 (is.map It.v) is.length := b.lo.rd
theorem Bk.w {T : St} {p : Nat} {vl vw : AV} {h : Int} {is : List It} (b : Bk T p vl vw h is) : Rd T vw 1 (is.map It.w) is.length := b.wo.rd
theorem map_get {α : Type} {f : α → AV} {l : List α} {i : Nat} (h : i < l.length) : (l.map f)[i * 1]? = some (f l[i]) := by
  rw [Nat.mul_one, List.getElem?_map, List.getElem?_eq_getElem h]; rfl
/-- only the book itself is written to, and not turned -/
theorem Bk.same {T U : St} {p : Nat} {vl vw : AV} {h : Int} {is : List It} (b : Bk T p vl vw h is) (hn : U.n = T.n) (hq : U.h.get p = some (.cells 24 [vl, vw, .int .i64 h, .bool false] false)) (hf : ∀ c, c ≠ p → U.h.get c = T.h.get c) : Bk U p vl vw h is :=
  ⟨sok_upd b.ok (b.ok _ _ b.at_) hn hq hf, hq, b.lo.keep (fun c hc => hf c (fun e => b.lp (by rw [hc, e]))), b.wo.keep (fun c hc => hf c (fun e => b.wp (by rw [hc, e]))),
    fun i hi => (b.it i hi).keep (fun c hc => hf c (b.ip i hi c (.inl hc)).1) (fun c hc => hf c (b.ip i hi c (.inr hc)).1), b.lp, b.wp, b.lw, b.ip, b.dis, b.few⟩
theorem stays_runs {S : St} {p : Nat} {vl vw : AV} {h : Int} {is : List It} (b : Bk S p vl vw h is) (hn : S.n ≤ 900000000) :
    Runs X2 29 [.ptr p 0] S fun r S' => r = .bool true ∧ Bk S' p vl vw h is ∧ S'.n = S.n ∧ ∀ c, c ≠ p → S'.h.get c = S.h.get c := by
  have hfew := b.few
  refine Runs_fn (m := 43) (by kernel_rfl) Try.func29 rfl (by kernel_rfl) (by kernel_rfl) ?_
  repeat (
    first
      | refine W_seq ?_
      | refine WO_nil ?_
      | refine V_seq ?_
      | refine W_region ?_
      | refine W_block ?_
      | refine WO_dst rfl rfl (by kernel_rfl) (by kernel_rfl) ?_
      | refine Ev_assign rfl ?_)
  refine W_inv (fun i : Nat => [(3, .int .i64 ((i : Nat) : Int)), (0, .ptr p 0)]) (fun i T => Bk T p vl vw h is ∧ i ≤ is.length ∧ T.n = S.n ∧ ∀ c, c ≠ p → T.h.get c = S.h.get c) (fun i => is.length - i) ?_ 0 ⟨b, Nat.zero_le _, rfl, fun _ _ => rfl⟩ ⟨rfl, rfl, trivial⟩
  rintro i T ⟨hb, hi, hTn, hTf⟩ back
  have hpn := hb.ok _ _ hb.at_
  repeat' (
    first
      | refine W_seq ?_
      | refine WO_nil ?_
      | refine V_seq ?_
      | refine W_region ?_
      | refine W_skip ?_
      | refine W_block ?_
      | refine W_ret ?_
      | refine W_exit ?_
      | refine V_block_x rfl ?_
      | refine V_seq_x ?_
      | refine V_loop_x ?_
      | refine WO_dst rfl rfl (by kernel_rfl) (by kernel_rfl) ?_
      | refine Ev_load rfl rfl rfl hb.at_ rfl hb.l.self ?_
      | refine Ev_len rfl rfl rfl rfl rfl hb.l.len ?_
      | refine Ev_load rfl rfl rfl hb.at_ rfl (show veq (.bool false) (.bool false) = true from rfl) ?_
      | refine Ev_move rfl ?_
      | refine Ev_assign rfl ?_
      | refine Ev_lssN rfl rfl ?_
      | refine Ev_notb rfl ?_
      | refine Ev_nilCheck rfl ?_
      | refine Ev_fieldAddr rfl rfl rfl rfl rfl rfl ?_
      | (refine W_cond rfl (fun hc => ?_) (fun hc => ?_) <;> (try dsimp only at hc) <;> try (exfalso; first | omega | exact hc rfl)))
  · have hlt : i < is.length := by assumption
    have hIt := hb.it _ (List.getElem_mem hlt)
    have hsm := hIt.small
    refine W_drawn (by kernel_rfl) ?_
    repeat' (
      first
        | refine WO_dst rfl rfl (by kernel_rfl) (by kernel_rfl) ?_
        | refine WO_guard_t rfl rfl rfl rfl rfl (by kernel_rfl) (by kernel_rfl) ?_
        | refine Ev_load rfl rfl rfl hb.at_ rfl hb.l.self ?_
        | refine Ev_load rfl rfl rfl hb.at_ rfl (show veq (.bool false) (.bool false) = true from rfl) ?_
        | refine Ev_move rfl ?_
        | refine Ev_nilCheck rfl ?_
        | refine Ev_fieldAddr rfl rfl rfl rfl rfl rfl ?_)
    refine Ev_indexAddr_rd rfl rfl rfl rfl rfl hb.l hlt ?_
    intro q hq
    repeat (
      first
        | refine WO_dst rfl rfl (by kernel_rfl) (by kernel_rfl) ?_
        | refine WO_guard_t rfl rfl rfl rfl rfl (by kernel_rfl) (by kernel_rfl) ?_)
    refine Ev_load_pt rfl rfl rfl hq (map_get hlt) hIt.rd.self ?_
    repeat (
      first
        | refine WO_dst rfl rfl (by kernel_rfl) (by kernel_rfl) ?_
        | refine WO_guard_t rfl rfl rfl rfl rfl (by kernel_rfl) (by kernel_rfl) ?_
        | refine Ev_load rfl rfl rfl hb.at_ rfl hb.w.self ?_
        | refine Ev_move rfl ?_
        | refine Ev_nilCheck rfl ?_
        | refine Ev_fieldAddr rfl rfl rfl rfl rfl rfl ?_)
    refine Ev_indexAddr_rd rfl rfl rfl rfl rfl hb.w hlt ?_
    intro q2 hq2
    repeat (
      first
        | refine WO_dst rfl rfl (by kernel_rfl) (by kernel_rfl) ?_
        | refine WO_guard_t rfl rfl rfl rfl rfl (by kernel_rfl) (by kernel_rfl) ?_)
    refine Ev_load_pt rfl rfl rfl hq2 (map_get hlt) hIt.wr.self ?_
    repeat (
      first
        | refine WO_dst rfl rfl (by kernel_rfl) (by kernel_rfl) ?_
        | refine WO_guard_t rfl rfl rfl rfl rfl (by kernel_rfl) (by kernel_rfl) ?_)
    refine Ev_call rfl rfl ((esame_runs hIt.rd hIt.wr ⟨by omega, by omega⟩).mono ?_)
    rintro _ T2 - ⟨rfl, hT2⟩
    rw [hT2, decide_eq_true rfl]
    repeat' (
      first
        | refine WO_dst rfl rfl (by kernel_rfl) (by kernel_rfl) ?_
        | refine WO_no rfl rfl ?_
        | refine WO_guard_t rfl rfl rfl rfl rfl (by kernel_rfl) (by kernel_rfl) ?_
        | refine Ev_pick_f rfl rfl rfl ?_
        | refine Ev_notb rfl ?_
        | refine Ev_nilCheck rfl ?_
        | refine Ev_fieldAddr rfl rfl rfl rfl rfl rfl ?_)
    refine Ev_store rfl rfl rfl rfl rfl hb.at_ (by simp [AV.cells]) (by omega) ?_
    intro U un uq uf
    repeat' (
      first
        | refine WO_nil ?_
        | refine V_seq ?_
        | refine W_region ?_
        | refine V_block ?_
        | refine WO_dst rfl rfl (by kernel_rfl) (by kernel_rfl) ?_
        | refine Ev_move rfl ?_
        | refine Ev_assign rfl ?_
        | refine Ev_addN rfl rfl (by simp only [lim]; omega) ?_)
    refine back (i + 1) U _ (by omega) ⟨hb.same un uq uf, by omega, by omega, fun c hc => by rw [uf c hc, hTf c hc]⟩ ?_
    exact ⟨rfl, rfl, trivial⟩
  · refine V_done rfl rfl ⟨rfl, hb, hTn, hTf⟩
theorem lput_pre {α : Type} : ∀ (a q x r : List α), x.length = q.length → lput (a ++ (q ++ r)) a.length x = a ++ (x ++ r)
  | [], [], [], r, _ => by rw [lput_nil]
  | [], y :: q, z :: x, r, h => by
    have := lput_pre [] q x r (by simpa using h)
    show z :: lput (q ++ r) 0 x = _
    simp only [List.nil_append, List.length_nil] at this
    rw [this]; rfl
  | [], [], _ :: _, r, h => by simp at h
  | [], _ :: _, [], r, h => by simp at h
  | b :: a, q, x, r, h => by
    show b :: lput (a ++ (q ++ r)) a.length x = _
    rw [lput_pre a q x r h]; rfl
theorem pt_of {S : St} {b o ty : Nat} {cs : List AV} {sp : Bool} (h : S.h.get b = some (.cells ty cs sp)) : Pt S (.ptr b o) cs o :=
  .inl ⟨b, 0, ty, cs, sp, by rw [Nat.zero_add], h, by omega, fun i _ => by rw [Nat.zero_add]⟩
/-- marks -/
def mkE (i c : Nat) : List El := (List.range c).map fun (j : Nat) => mk1 i j
theorem mkE_len (i c : Nat) : (mkE i c).length = c := by simp [mkE]
theorem mkE_s (i c : Nat) : mkE i (c + 1) = mkE i c ++ [mk1 i c] := by unfold mkE; rw [List.range_succ, List.map_append]; rfl
theorem mkE_get (i c j : Nat) (h : j < (mkE i c).length) : (mkE i c)[j] = mk1 i j := by
  have h2 : (mkE i c)[j]? = some (mk1 i j) := by
    unfold mkE
    rw [List.getElem?_map, List.getElem?_range (by rw [mkE_len] at h; exact h)]; rfl
  exact Option.some.inj ((List.getElem?_eq_getElem h).symm.trans h2)
theorem mark2 {S : St} {i j : Nat} {R : AV → St → Prop} (h : R (elV (mk1 i j)) S) : Runs X2 11 [.int .i64 ((i : Nat) : Int), .int .i64 ((j : Nat) : Int)] S R := Runs_ext (g := extMark) rfl rfl (Nat.le_refl _) h
/-- the lists ahead of one are full of marks, the others are as they were -/
structure Ap (T : St) (p : Nat) (vl vw : AV) (h : Int) (is : List It) (i : Nat) : Prop where
  ok : Sok T
  at_ : T.h.get p = some (.cells 24 [vl, vw, .int .i64 h, .bool false] false)
  l : Rd T vl 1 (is.map It.v) is.length
  done : ∀ j a b, is[j]? = some a → j < i → 0 < a.c → a.v = .slice b 0 a.cs.length (.ex a.c) → ∃ tl, T.h.get b = some (.cells 9 (cellsE (mkE j a.c) ++ tl) true)
  todo : ∀ j a b, is[j]? = some a → i ≤ j → 0 < a.c → a.v = .slice b 0 a.cs.length (.ex a.c) → T.h.get b = some (.cells 9 (cellsE a.cs ++ a.extra) true)
theorem ItOK.pos {T : St} {i : It} (h : ItOK T i) (hc : 0 < i.c) : ∃ b, i.v = .slice b 0 i.cs.length (.ex i.c) ∧ T.h.get b = some (.cells 9 (cellsE i.cs ++ i.extra) true) ∧ i.cs.length ≤ i.c ∧ i.c ≤ i.cs.length + i.extra.length := by
  rcases h.kind with h | ⟨_, h, _⟩
  · exact h
  · omega
theorem ItOK.at_ {T : St} {i : It} (h : ItOK T i) (hc : 0 < i.c) {b : Nat} (hb : i.v = .slice b 0 i.cs.length (.ex i.c)) : T.h.get b = some (.cells 9 (cellsE i.cs ++ i.extra) true) := by
  obtain ⟨b', h1, h2, _⟩ := h.pos hc
  rw [h1] at hb; cases hb; exact h2
theorem apart_runs {S : St} {p : Nat} {vl vw : AV} {h : Int} {is : List It} (b : Bk S p vl vw h is) (hn : S.n ≤ 900000000) :
    Runs X2 10 [.ptr p 0, .func (.func 11) [] []] S fun r _ => r = .bool true := by
  have hbl : ∀ a ∈ is, ∀ c, blkOf a.v = some c → c ≠ p ∧ blkOf vl ≠ some c := fun a ha c hc => ⟨(b.ip a ha c (.inl hc)).1, (b.ip a ha c (.inl hc)).2.1⟩
  have hfew := b.few
  refine Runs_fn (m := 101) (by kernel_rfl) Try.func10 rfl (by kernel_rfl) (by kernel_rfl) ?_
  repeat (
    first
      | refine W_seq ?_
      | refine WO_nil ?_
      | refine V_seq ?_
      | refine W_region ?_
      | refine WO_dst rfl rfl (by kernel_rfl) (by kernel_rfl) ?_
      | refine Ev_move rfl ?_
      | refine Ev_assign rfl ?_)
  refine Ev_call rfl rfl ((stays_runs b hn).mono ?_)
  rintro _ S1 - ⟨rfl, b1, sn1, sf1⟩
  repeat' (
    first
      | refine W_seq ?_
      | refine WO_nil ?_
      | refine V_seq ?_
      | refine W_region ?_
      | refine W_skip ?_
      | refine W_block ?_
      | refine W_cond_f rfl ?_
      | refine WO_dst rfl rfl (by kernel_rfl) (by kernel_rfl) ?_
      | refine Ev_assign rfl ?_
      | refine Ev_notb rfl ?_)
  refine W_inv (fun i : Nat => [(5, .int .i64 ((i : Nat) : Int)), (0, .ptr p 0), (1, .func (.func 11) [] [])]) (fun i T => Ap T p vl vw h is i ∧ i ≤ is.length ∧ T.n = S.n) (fun i => is.length - i) ?_ 0 ⟨⟨b1.ok, b1.at_, b1.l, fun j a _ _ h0 => absurd h0 (Nat.not_lt_zero _), fun j a b2 ha _ hc hv => (b1.it a (List.mem_of_getElem? ha)).at_ hc hv⟩, Nat.zero_le _, sn1⟩ ⟨rfl, rfl, rfl, trivial⟩
  rintro i T ⟨ha, hi, hTn⟩ back
  repeat' (
    first
      | refine W_seq ?_
      | refine WO_nil ?_
      | refine V_seq ?_
      | refine W_region ?_
      | refine W_skip ?_
      | refine W_block ?_
      | refine W_exit ?_
      | refine V_block_x rfl ?_
      | refine V_seq_x ?_
      | refine V_loop_x ?_
      | refine WO_dst rfl rfl (by kernel_rfl) (by kernel_rfl) ?_
      | refine Ev_load rfl rfl rfl ha.at_ rfl ha.l.self ?_
      | refine Ev_len rfl rfl rfl rfl rfl ha.l.len ?_
      | refine Ev_move rfl ?_
      | refine Ev_assign rfl ?_
      | refine Ev_lssN rfl rfl ?_
      | refine Ev_nilCheck rfl ?_
      | refine Ev_fieldAddr rfl rfl rfl rfl rfl rfl ?_
      | (refine W_cond rfl (fun hc => ?_) (fun hc => ?_) <;> (try dsimp only at hc) <;> try (exfalso; first | omega | exact hc rfl)))
  · have hlt : i < is.length := by assumption
    obtain ⟨a, hae⟩ : ∃ a, a = is[i] := ⟨_, rfl⟩
    have hmem : a ∈ is := by rw [hae]; exact List.getElem_mem _
    have hget : is[i]? = some a := by rw [hae]; exact List.getElem?_eq_getElem hlt
    have hio := b.it a hmem
    have hlim := hio.lim
    have hmg := map_get (f := It.v) hlt
    rw [← hae] at hmg
    refine W_drawn (by kernel_rfl) ?_
    repeat (
      first
        | refine WO_dst rfl rfl (by kernel_rfl) (by kernel_rfl) ?_
        | refine Ev_load rfl rfl rfl ha.at_ rfl ha.l.self ?_
        | refine Ev_move rfl ?_
        | refine Ev_nilCheck rfl ?_
        | refine Ev_fieldAddr rfl rfl rfl rfl rfl rfl ?_)
    refine Ev_indexAddr_rd rfl rfl rfl rfl rfl ha.l hlt ?_
    intro q hq
    repeat (
      refine WO_dst rfl rfl (by kernel_rfl) (by kernel_rfl) ?_)
    refine Ev_load_pt rfl rfl rfl hq hmg hio.rd.self ?_
    repeat (
      first
        | refine WO_dst rfl rfl (by kernel_rfl) (by kernel_rfl) ?_
        | refine Ev_load rfl rfl rfl ha.at_ rfl ha.l.self ?_
        | refine Ev_move rfl ?_
        | refine Ev_nilCheck rfl ?_
        | refine Ev_fieldAddr rfl rfl rfl rfl rfl rfl ?_)
    refine Ev_indexAddr_rd rfl rfl rfl rfl rfl ha.l hlt ?_
    intro q2 hq2
    repeat (
      refine WO_dst rfl rfl (by kernel_rfl) (by kernel_rfl) ?_)
    refine Ev_load_pt rfl rfl rfl hq2 hmg hio.rd.self ?_
    repeat (
      refine WO_dst rfl rfl (by kernel_rfl) (by kernel_rfl) ?_)
    refine Ev_cap_it rfl rfl rfl rfl rfl hio ?_
    repeat (
      refine WO_dst rfl rfl (by kernel_rfl) (by kernel_rfl) ?_)
    refine Ev_slice_it rfl rfl rfl rfl rfl hio ?_
    intro v5 hv5 hv5b
    rcases Nat.eq_zero_or_pos a.c with hc0 | hcp
    · rw [hc0] at hv5
      repeat' (
        first
          | refine W_seq ?_
          | refine WO_nil ?_
          | refine V_seq ?_
          | refine W_region ?_
          | refine W_block ?_
          | refine WO_dst rfl rfl (by kernel_rfl) (by kernel_rfl) ?_
          | refine Ev_assign rfl ?_)
      refine W_inv (fun _ : Unit => [(7, .int .i64 0), (6, v5), (5, .int .i64 ((i : Nat) : Int)), (0, .ptr p 0), (1, .func (.func 11) [] [])]) (fun _ U => U = T) (fun _ => 0) ?_ () rfl ⟨rfl, rfl, rfl, rfl, rfl, trivial⟩
      rintro _ U hUT back2
      rw [hUT]
      repeat' (
        first
          | refine W_seq ?_
          | refine WO_nil ?_
          | refine V_seq ?_
          | refine W_region ?_
          | refine W_exit ?_
          | refine V_block ?_
          | refine V_block_x rfl ?_
          | refine V_seq_x ?_
          | refine V_loop_x ?_
          | refine W_cond_f rfl ?_
          | refine WO_dst rfl rfl (by kernel_rfl) (by kernel_rfl) ?_
          | refine Ev_len rfl rfl rfl rfl rfl hv5 ?_
          | refine Ev_move rfl ?_
          | refine Ev_assign rfl ?_
          | refine Ev_lssN rfl rfl ?_
          | refine Ev_addN rfl rfl (by simp only [lim]; omega) ?_)
      refine back (i + 1) T _ (by omega) ⟨⟨ha.ok, ha.at_, ha.l, fun k c b2 hk hki hc hv => ?_, fun k c b2 hk hki hc hv => ha.todo k c b2 hk (by omega) hc hv⟩, by omega, by omega⟩ ⟨rfl, rfl, rfl, trivial⟩
      by_cases hke : k = i
      · subst hke; rw [hget] at hk; cases hk; omega
      · exact ha.done k c b2 hk (by omega) hc hv
    obtain ⟨ab, hav, _, hlen, hlen2⟩ := hio.pos hcp
    have hve := hv5b ab _ hav
    rw [hve]
    have hblk := ha.todo i a ab hget (Nat.le_refl _) hcp hav
    have hbn : ab < T.n := ha.ok _ _ hblk
    repeat' (
      first
        | refine W_seq ?_
        | refine WO_nil ?_
        | refine V_seq ?_
        | refine W_region ?_
        | refine W_block ?_
        | refine WO_dst rfl rfl (by kernel_rfl) (by kernel_rfl) ?_
        | refine Ev_assign rfl ?_)
    refine W_inv (fun x : Nat × List AV => [(7, .int .i64 ((x.1 : Nat) : Int)), (6, .slice ab 0 a.c (.ex a.c)), (5, .int .i64 ((i : Nat) : Int)), (0, .ptr p 0), (1, .func (.func 11) [] [])]) (fun x U => U.n = T.n ∧ x.1 ≤ a.c ∧ U.h.get ab = some (.cells 9 (cellsE (mkE i x.1) ++ x.2) true) ∧ x.1 + x.2.length = a.cs.length + a.extra.length ∧ ∀ d, d ≠ ab → U.h.get d = T.h.get d) (fun x => a.c - x.1) ?_ (0, cellsE a.cs ++ a.extra) ⟨rfl, Nat.zero_le _, hblk, by rw [List.length_append, cellsE_len]; dsimp only; omega, fun _ _ => rfl⟩ ⟨rfl, rfl, rfl, rfl, rfl, trivial⟩
    rintro ⟨j, rest⟩ U ⟨hUn, hj, hUb, hUl, hUf⟩ back2
    dsimp only at hj hUb hUl back2
    repeat' (
      first
        | refine W_seq ?_
        | refine WO_nil ?_
        | refine V_seq ?_
        | refine W_region ?_
        | refine W_skip ?_
        | refine W_block ?_
        | refine W_exit ?_
        | refine V_block ?_
        | refine V_block_x rfl ?_
        | refine V_seq_x ?_
        | refine V_loop_x ?_
        | refine WO_dst rfl rfl (by kernel_rfl) (by kernel_rfl) ?_
        | refine Ev_move rfl ?_
        | refine Ev_assign rfl ?_
        | refine Ev_lssN rfl rfl ?_
        | refine Ev_len rfl rfl rfl rfl rfl rfl ?_
        | refine Ev_addN rfl rfl (by simp only [lim]; omega) ?_
        | (refine W_cond rfl (fun hc => ?_) (fun hc => ?_) <;> (try dsimp only at hc) <;> try (exfalso; first | omega | exact hc rfl)))
    · have hjl : j < a.c := by assumption
      refine Ev_call rfl rfl (mark2 ?_)
      repeat (
        first
          | refine WO_dst rfl rfl (by kernel_rfl) (by kernel_rfl) ?_
          | refine WO_no rfl rfl ?_
          | refine Ev_indexAddr rfl rfl rfl rfl rfl (by first | omega | (dsimp only; done) | (dsimp only; omega)) ?_)
      have hml : (cellsE (mkE i j)).length = j := by rw [cellsE_len, mkE_len]
      refine Ev_store rfl rfl rfl rfl rfl hUb (by show 0 + j * 1 + 1 ≤ _; rw [List.length_append, hml]; omega) (by omega) ?_
      intro V vn vq vf
      repeat' (
        first
          | refine WO_nil ?_
          | refine V_seq ?_
          | refine W_region ?_
          | refine V_block ?_
          | refine WO_dst rfl rfl (by kernel_rfl) (by kernel_rfl) ?_
          | refine Ev_move rfl ?_
          | refine Ev_assign rfl ?_
          | refine Ev_addN rfl rfl (by simp only [lim]; omega) ?_)
      refine back2 (j + 1, rest.drop 1) V _ (by dsimp only; omega) ⟨by omega, by dsimp only; omega, ?_, by dsimp only; rw [List.length_drop]; omega, fun d hd => by rw [vf d hd, hUf d hd]⟩ ⟨rfl, rfl, rfl, rfl, rfl, trivial⟩
      dsimp only
      rw [vq]
      show some (AB.cells 9 (lput (cellsE (mkE i j) ++ rest) (0 + j * 1) [elV (mk1 i j)]) true) = _
      have e : rest = rest.take 1 ++ rest.drop 1 := (List.take_append_drop 1 rest).symm
      rw [show 0 + j * 1 = (cellsE (mkE i j)).length by rw [hml]; omega]
      conv => lhs; rw [e]
      rw [lput_pre _ _ _ _ (by rw [List.length_take]; show 1 = _; omega), mkE_s, cellsE_app, List.append_assoc]
      simp [cellsE]
    · have hjc : j = a.c := by omega
      subst hjc
      have hUok : Sok U := sok_upd ha.ok hbn hUn hUb hUf
      have habv : blkOf a.v = some ab := by rw [hav]; rfl
      refine back (i + 1) U _ (by omega) ⟨⟨hUok, ?_, ?_, fun k c b2 hk hki hc hv => ?_, fun k c b2 hk hki hc hv => ?_⟩, by omega, by omega⟩ ⟨rfl, rfl, rfl, trivial⟩
      · rw [hUf p (Ne.symm (hbl a hmem ab habv).1)]; exact ha.at_
      · exact ha.l.keep (fun c hc => hUf c (fun e => (hbl a hmem ab habv).2 (by rw [hc, e])))
      · by_cases hke : k = i
        · subst hke; rw [hget] at hk; cases hk; rw [hav] at hv; cases hv; exact ⟨rest, hUb⟩
        · rw [hUf b2 (fun e => b.dis k i c a b2 hk hget hke (by rw [hv]; rfl) (by rw [e]; exact habv))]; exact ha.done k c b2 hk (by omega) hc hv
      · rw [hUf b2 (fun e => b.dis k i c a b2 hk hget (by omega) (by rw [hv]; rfl) (by rw [e]; exact habv))]; exact ha.todo k c b2 hk (by omega) hc hv
  have hin : i = is.length := by omega
  repeat' (
    refine W_seq ?_)
  refine W_inv (fun i : Nat => [(8, .int .i64 ((i : Nat) : Int)), (0, .ptr p 0), (1, .func (.func 11) [] [])]) (fun i U => U = T ∧ i ≤ is.length) (fun i => is.length - i) ?_ 0 ⟨rfl, Nat.zero_le _⟩ ⟨rfl, rfl, rfl, trivial⟩
  rintro m U ⟨hUT, hm⟩ back3
  rw [hUT]
  repeat' (
    first
      | refine W_seq ?_
      | refine WO_nil ?_
      | refine V_seq ?_
      | refine W_region ?_
      | refine W_skip ?_
      | refine W_block ?_
      | refine W_exit ?_
      | refine V_block_x rfl ?_
      | refine V_seq_x ?_
      | refine V_loop_x ?_
      | refine WO_dst rfl rfl (by kernel_rfl) (by kernel_rfl) ?_
      | refine WO_no rfl rfl ?_
      | refine Ev_load rfl rfl rfl ha.at_ rfl ha.l.self ?_
      | refine Ev_len rfl rfl rfl rfl rfl ha.l.len ?_
      | refine Ev_move rfl ?_
      | refine Ev_lssN rfl rfl ?_
      | refine Ev_nilCheck rfl ?_
      | refine Ev_fieldAddr rfl rfl rfl rfl rfl rfl ?_
      | (refine W_cond rfl (fun hc => ?_) (fun hc => ?_) <;> (try dsimp only at hc) <;> try (exfalso; first | omega | exact hc rfl)))
  · have hlt : m < is.length := by assumption
    obtain ⟨a, hae⟩ : ∃ a, a = is[m] := ⟨_, rfl⟩
    have hmem : a ∈ is := by rw [hae]; exact List.getElem_mem _
    have hget : is[m]? = some a := by rw [hae]; exact List.getElem?_eq_getElem hlt
    have hio := b.it a hmem
    have hlim := hio.lim
    have hmg := map_get (f := It.v) hlt
    rw [← hae] at hmg
    refine W_drawn (by kernel_rfl) ?_
    repeat (
      first
        | refine WO_dst rfl rfl (by kernel_rfl) (by kernel_rfl) ?_
        | refine Ev_load rfl rfl rfl ha.at_ rfl ha.l.self ?_
        | refine Ev_move rfl ?_
        | refine Ev_nilCheck rfl ?_
        | refine Ev_fieldAddr rfl rfl rfl rfl rfl rfl ?_)
    refine Ev_indexAddr_rd rfl rfl rfl rfl rfl ha.l hlt ?_
    intro q hq
    repeat (
      refine WO_dst rfl rfl (by kernel_rfl) (by kernel_rfl) ?_)
    refine Ev_load_pt rfl rfl rfl hq hmg hio.rd.self ?_
    repeat (
      first
        | refine WO_dst rfl rfl (by kernel_rfl) (by kernel_rfl) ?_
        | refine Ev_load rfl rfl rfl ha.at_ rfl ha.l.self ?_
        | refine Ev_move rfl ?_
        | refine Ev_nilCheck rfl ?_
        | refine Ev_fieldAddr rfl rfl rfl rfl rfl rfl ?_)
    refine Ev_indexAddr_rd rfl rfl rfl rfl rfl ha.l hlt ?_
    intro q2 hq2
    repeat (
      refine WO_dst rfl rfl (by kernel_rfl) (by kernel_rfl) ?_)
    refine Ev_load_pt rfl rfl rfl hq2 hmg hio.rd.self ?_
    repeat (
      refine WO_dst rfl rfl (by kernel_rfl) (by kernel_rfl) ?_)
    refine Ev_cap_it rfl rfl rfl rfl rfl hio ?_
    repeat (
      refine WO_dst rfl rfl (by kernel_rfl) (by kernel_rfl) ?_)
    refine Ev_slice_it rfl rfl rfl rfl rfl hio ?_
    intro v9 hv9 hv9b
    rcases Nat.eq_zero_or_pos a.c with hc0 | hcp
    · rw [hc0] at hv9
      repeat' (
        first
          | refine W_seq ?_
          | refine WO_nil ?_
          | refine V_seq ?_
          | refine W_region ?_
          | refine W_block ?_
          | refine WO_dst rfl rfl (by kernel_rfl) (by kernel_rfl) ?_
          | refine Ev_assign rfl ?_)
      refine W_inv (fun _ : Unit => [(10, .int .i64 0), (9, v9), (8, .int .i64 ((m : Nat) : Int)), (0, .ptr p 0), (1, .func (.func 11) [] [])]) (fun _ U => U = T) (fun _ => 0) ?_ () rfl ⟨rfl, rfl, rfl, rfl, rfl, trivial⟩
      rintro _ U hUT2 back4
      rw [hUT2]
      repeat' (
        first
          | refine W_seq ?_
          | refine WO_nil ?_
          | refine V_seq ?_
          | refine W_region ?_
          | refine W_exit ?_
          | refine V_block ?_
          | refine V_block_x rfl ?_
          | refine V_seq_x ?_
          | refine V_loop_x ?_
          | refine W_cond_f rfl ?_
          | refine WO_dst rfl rfl (by kernel_rfl) (by kernel_rfl) ?_
          | refine Ev_len rfl rfl rfl rfl rfl hv9 ?_
          | refine Ev_move rfl ?_
          | refine Ev_assign rfl ?_
          | refine Ev_lssN rfl rfl ?_
          | refine Ev_addN rfl rfl (by simp only [lim]; omega) ?_)
      exact back3 (m + 1) T _ (by omega) ⟨rfl, by omega⟩ ⟨rfl, rfl, rfl, trivial⟩
    obtain ⟨ab, hav, _, hlen, hlen2⟩ := hio.pos hcp
    have hve := hv9b ab _ hav
    rw [hve]
    obtain ⟨tl, hblk⟩ := ha.done m a ab hget (by omega) hcp hav
    repeat' (
      first
        | refine W_seq ?_
        | refine WO_nil ?_
        | refine V_seq ?_
        | refine W_region ?_
        | refine W_block ?_
        | refine WO_dst rfl rfl (by kernel_rfl) (by kernel_rfl) ?_
        | refine Ev_assign rfl ?_)
    refine W_inv (fun j : Nat => [(10, .int .i64 ((j : Nat) : Int)), (9, .slice ab 0 a.c (.ex a.c)), (8, .int .i64 ((m : Nat) : Int)), (0, .ptr p 0), (1, .func (.func 11) [] [])]) (fun j U => U = T ∧ j ≤ a.c) (fun j => a.c - j) ?_ 0 ⟨rfl, Nat.zero_le _⟩ ⟨rfl, rfl, rfl, rfl, rfl, trivial⟩
    rintro j U ⟨hUT2, hj⟩ back4
    rw [hUT2]
    repeat' (
      first
        | refine W_seq ?_
        | refine WO_nil ?_
        | refine V_seq ?_
        | refine W_region ?_
        | refine W_skip ?_
        | refine W_block ?_
        | refine W_exit ?_
        | refine V_block ?_
        | refine V_block_x rfl ?_
        | refine V_seq_x ?_
        | refine V_loop_x ?_
        | refine WO_dst rfl rfl (by kernel_rfl) (by kernel_rfl) ?_
        | refine Ev_move rfl ?_
        | refine Ev_assign rfl ?_
        | refine Ev_lssN rfl rfl ?_
        | refine Ev_len rfl rfl rfl rfl rfl rfl ?_
        | refine Ev_addN rfl rfl (by simp only [lim]; omega) ?_
        | (refine W_cond rfl (fun hc => ?_) (fun hc => ?_) <;> (try dsimp only at hc) <;> try (exfalso; first | omega | exact hc rfl)))
    · have hjl : j < a.c := by assumption
      have hjl2 : j < (mkE m a.c).length := by rw [mkE_len]; exact hjl
      have hcg := cellsE_get hjl2
      rw [mkE_get] at hcg
      have hcg2 : (cellsE (mkE m a.c) ++ tl)[j * 1]? = some (elV (mk1 m j)) := by rw [List.getElem?_append_left (by rw [cellsE_len, mkE_len]; omega)]; exact hcg
      have hD : ∀ f ∈ [(⟨ab, .cells 9 (cellsE (mkE m a.c) ++ tl) true, none⟩ : Fct)], T.h.get f.id = some f.x := by
        intro f hf; rw [List.mem_singleton] at hf; subst hf; exact hblk
      refine W_drawnF [⟨ab, .cells 9 (cellsE (mkE m a.c) ++ tl) true, none⟩] ?_ (by kernel_rfl) ?_
      · intro f hf; rw [List.mem_singleton] at hf; subst hf; exact ⟨rfl, ha.ok _ _ hblk, hblk⟩
      repeat (
        first
          | refine WF_pa rfl rfl (by kernel_rfl) (by kernel_rfl) rfl ?_
          | refine Ev_move rfl ?_
          | refine Ev_indexAddr rfl rfl rfl rfl rfl (by first | omega | (dsimp only; done) | (dsimp only; omega)) ?_)
      refine WF_rf rfl rfl (by kernel_rfl) (by kernel_rfl) hD (FPD_load (p := .ptr ab (0 + j * 1)) (v := elV (mk1 m j)) rfl rfl rfl (pt_of hblk) (by rw [Nat.zero_add]; exact hcg2) (fun b hb => by cases hb; exact ⟨_, List.mem_cons_self .., rfl, hblk, fun j hj => by cases hj⟩)) (elV_veq _) ?_
      repeat (
        first
          | refine WF_pa rfl rfl (by kernel_rfl) (by kernel_rfl) rfl ?_
          | refine Ev_move rfl ?_)
      refine WF_ld rfl rfl (by kernel_rfl) (by kernel_rfl) (fun _ _ => rfl) ?_
      refine Ev_call rfl rfl (mark2 ?_)
      refine ⟨hD, [], by simp, ?_⟩
      repeat (
        first
          | refine WF_nil ?_
          | refine WF_pa rfl rfl (by kernel_rfl) (by kernel_rfl) rfl ?_
          | refine V_seq ?_
          | refine Ev_ene rfl rfl ?_)
      rw [decide_eq_false (fun h => h rfl)]
      repeat' (
        first
          | refine WO_nil ?_
          | refine V_seq ?_
          | refine W_region ?_
          | refine W_skip ?_
          | refine V_block ?_
          | refine W_cond_f rfl ?_
          | refine WO_dst rfl rfl (by kernel_rfl) (by kernel_rfl) ?_
          | refine Ev_move rfl ?_
          | refine Ev_assign rfl ?_
          | refine Ev_addN rfl rfl (by simp only [lim]; omega) ?_)
      exact back4 (j + 1) T _ (by omega) ⟨rfl, by omega⟩ ⟨rfl, rfl, rfl, rfl, rfl, trivial⟩
    · exact back3 (m + 1) T _ (by omega) ⟨rfl, by omega⟩ ⟨rfl, rfl, rfl, trivial⟩
  have hpn := ha.ok _ _ ha.at_
  refine Ev_store rfl rfl rfl rfl rfl ha.at_ (by simp [AV.cells]) (by omega) ?_
  intro U1 un1 uq1 uf1
  repeat (
    first
      | refine W_seq ?_
      | refine WO_nil ?_
      | refine V_seq ?_
      | refine W_region ?_
      | refine WO_dst rfl rfl (by kernel_rfl) (by kernel_rfl) ?_
      | refine WO_no rfl rfl ?_
      | refine Ev_move rfl ?_
      | refine Ev_nilCheck rfl ?_
      | refine Ev_fieldAddr rfl rfl rfl rfl rfl rfl ?_)
  refine Ev_store rfl rfl rfl rfl rfl uq1 (by simp [AV.cells, lput]) (by omega) ?_
  intro U2 un2 uq2 uf2
  repeat (
    first
      | refine W_seq ?_
      | refine WO_nil ?_
      | refine V_seq ?_
      | refine W_region ?_
      | refine WO_dst rfl rfl (by kernel_rfl) (by kernel_rfl) ?_
      | refine WO_no rfl rfl ?_
      | refine Ev_move rfl ?_
      | refine Ev_nilCheck rfl ?_
      | refine Ev_fieldAddr rfl rfl rfl rfl rfl rfl ?_)
  refine Ev_store rfl rfl rfl rfl rfl uq2 (by simp [AV.cells, lput]) (by omega) ?_
  intro U3 un3 uq3 uf3
  repeat (
    first
      | refine W_seq ?_
      | refine WO_nil ?_
      | refine V_seq ?_
      | refine W_region ?_
      | refine W_ret ?_
      | refine WO_dst rfl rfl (by kernel_rfl) (by kernel_rfl) ?_
      | refine Ev_assign rfl ?_)
  refine V_done rfl rfl ?_
  rfl
end Go.Proofs.Ytdhfjkikoiifcaa
/- GX: a region that draws its order, where reads look at blocks that later loud operations leave alone until one behind which no such read can come. -/

namespace GX
open Go
/-- all operations from one on are behind this one -/
def ZB (ops : List Oper) (z i : Nat) : Bool := (List.range ops.length).all fun j => Nat.blt j z || inM (masks ops []) j i
/-- .. until an operation from which on the blocks are known no more: all from there on are behind each such read -/
def RunZ (X : X) (rec : Rec) (n : Nat) (all : List Oper) (z : Nat) : List Fct → List Oper → Nat → Env → St → Env → St → Prop
  | _, [], _, e, S, e', S' => e' = e ∧ S' = S
  | D, o :: os, i, e, S, e', S' =>
    (wanted all e o = true ∧ ∃ v S1 e1 N, oper X rec e S o.op = some (v, S1) ∧ setDst n e o.dst v = some e1 ∧ rdv (cls X e o.op) v = true ∧
      (cls X e o.op = .read → rdStat (masks all []) (all.map (fun o => sk X o.op)) i = true ∨ ZB all z i = true ∧ FPD X D (masks all []) i e o.op v) ∧
      (isLC (cls X e o.op) = true → i < z → ∀ f ∈ D, S1.h.get f.id = some f.x) ∧
      (∀ f ∈ N, f.src = some i ∧ f.id < S1.n ∧ S1.h.get f.id = some f.x ∧ (isLC (cls X e o.op) = true ∨ cls X e o.op = .alloc ∧ f.id = S.n)) ∧ RunZ X rec n all z (D ++ N) os (i + 1) e1 S1 e' S') ∨
    (wanted all e o = false ∧ ∃ e1, setDst n e o.dst (.tup []) = some e1 ∧ RunZ X rec n all z D os (i + 1) e1 S e' S')
theorem RunZ_le {X : X} {rec rec' : Rec} (hr : RecLe rec rec') {n : Nat} {all : List Oper} {z : Nat} : ∀ {D : List Fct} {os : List Oper} {i : Nat} {e : Env} {S : St} {e' S'}, RunZ X rec n all z D os i e S e' S' → RunZ X rec' n all z D os i e S e' S'
  | _, [], _, _, _, _, _, h => h
  | _, o :: os, i, e, S, e', S', h => by
    unfold RunZ at h ⊢
    rcases h with ⟨hw, v, S1, e1, N, h1, h2, h3, h4, h5, h6, h7⟩ | ⟨hw, e1, h1, h2⟩
    · exact .inl ⟨hw, v, S1, e1, N, oper_le hr h1, h2, h3, h4, h5, h6, RunZ_le hr h7⟩
    · exact .inr ⟨hw, e1, h1, RunZ_le hr h2⟩
theorem RunZ_n {X : X} {rec : Rec} {n : Nat} {all : List Oper} {z : Nat} : ∀ {D : List Fct} {os : List Oper} {i : Nat} {e : Env} {S : St} {e' S'}, RunZ X rec n all z D os i e S e' S' → S.n ≤ S'.n
  | _, [], _, _, _, _, _, h => by unfold RunZ at h; rw [h.2]; exact Nat.le_refl _
  | _, o :: os, i, e, S, e', S', h => by
    unfold RunZ at h
    rcases h with ⟨_, v, S1, e1, N, h1, _, _, _, _, _, h6⟩ | ⟨_, e1, _, h2⟩
    · exact Nat.le_trans (oper_n h1) (RunZ_n h6)
    · exact RunZ_n h2
/-- a fact, and what the plan has put down -/
def FZ (ms : List Nat) (z : Nat) (N0 : Nat) (h0 : Tr AB) (acc : List R) (f : Fct) : Prop :=
  (f.src = none ∧ f.id < N0 ∧ h0.get f.id = some f.x ∧ ∀ (k : Nat) (r : R) h' m, acc[k]? = some r → r.k = .ld h' m → k < z → h'.get f.id = some f.x) ∨
  ∃ j r, f.src = some j ∧ acc[j]? = some r ∧ ((r.k = .mk f.x ∧ r.n0 = f.id) ∨ (∃ h' m, r.k = .ld h' m ∧ h'.get f.id = some f.x ∧ f.id < m ∧ ∀ (k : Nat) (r : R) b, acc[k]? = some r → r.k = .mk b → k < j → inM ms j k = true)) ∧
    ∀ (k : Nat) (r : R) h' m, acc[k]? = some r → r.k = .ld h' m → j < k → k < z → h'.get f.id = some f.x
theorem FZ_snoc {ms : List Nat} {z : Nat} {N0 : Nat} {h0 : Tr AB} {acc : List R} {f : Fct} {r : R} (h : FZ ms z N0 h0 acc f) (hr : ∀ h' m, r.k = .ld h' m → acc.length < z → h'.get f.id = some f.x) : FZ ms z N0 h0 (acc ++ [r]) f := by
  have key : ∀ (k : Nat) (r' : R), (acc ++ [r])[k]? = some r' → acc[k]? = some r' ∨ (k = acc.length ∧ r' = r) := by
    intro k r' hk
    by_cases hlt : k < acc.length
    · rw [List.getElem?_append_left hlt] at hk; exact .inl hk
    · have h2 : k = acc.length := by
        have := (List.getElem?_eq_some_iff.1 hk).1
        simp at this; omega
      subst h2
      simp at hk; exact .inr ⟨rfl, hk.symm⟩
  rcases h with ⟨h1, h2, h3, h4⟩ | ⟨j, r0, h1, h2, h3, h4⟩
  · refine .inl ⟨h1, h2, h3, fun k r' h' m hk hl hz => ?_⟩
    rcases key k r' hk with hk | ⟨hkk, rfl⟩
    · exact h4 k r' h' m hk hl hz
    · exact hr h' m hl (hkk ▸ hz)
  · have hj : j < acc.length := (List.getElem?_eq_some_iff.1 h2).1
    refine .inr ⟨j, r0, h1, by rw [List.getElem?_append_left hj]; exact h2, ?_, ?_⟩
    · rcases h3 with h3 | ⟨h', m, a1, a2, a3, a4⟩
      · exact .inl h3
      · refine .inr ⟨h', m, a1, a2, a3, ?_⟩
        intro k r' b hk hb hlt
        rcases key k r' hk with hk | ⟨hk, _⟩
        · exact a4 k r' b hk hb hlt
        · omega
    · intro k r' h' m hk hl hlt hz
      rcases key k r' hk with hk | ⟨hkk, rfl⟩
      · exact h4 k r' h' m hk hl hlt hz
      · exact hr h' m hl (hkk ▸ hz)
theorem FZ_get {ms : List Nat} {z : Nat} {N0 i : Nat} {h0 : Tr AB} {recs : List R} {f : Fct} {pf : List Nat} (hz : ∀ j ∈ pf, j < z) (hbd : ∀ (k : Nat) (r : R) b, recs[k]? = some r → r.k = .mk b → N0 ≤ r.n0 ∧ r.n0 < 1000000000)
    (hmono : ∀ (q q' : Nat) (r r' : R), q < q' → recs[q]? = some r → recs[q']? = some r' → r.n1 ≤ r'.n0) (hpf : pf.Pairwise (· < ·)) (hld : ∀ j ∈ pf, ∃ r, recs[j]? = some r ∧ r.isL) (hlt : ∀ j k, inM ms j k = true → k < j)
    (h : FZ ms z N0 h0 recs f) (hu : ∀ j, f.src = some j → inM ms i j = true ∧ ((∃ r, recs[j]? = some r ∧ r.isL) → j ∈ pf)) : (gh ms pf (inM ms i) recs 0 (hOf recs h0 pf)).get f.id = some f.x := by
  have hbd' := fun k r b h1 h2 => (hbd k r b h1 h2).2
  rcases h with ⟨_, h2, h3, h4⟩ | ⟨j, r, h1, h2, h3, h4⟩
  · rw [gh_miss hbd' (fun k r b a1 a2 _ _ => by have := (hbd k r b a1 a2).1; omega)]
    refine hOf_has (a := 0) hpf (fun k hk => ?_) (.inl ⟨h3, fun _ _ => Nat.zero_le _⟩)
    obtain ⟨r, b1, h', m, b2⟩ := hld k hk
    exact ⟨r, h', m, b1, b2, fun _ => h4 k r h' m b1 b2 (hz k hk)⟩
  · obtain ⟨u1, u2⟩ := hu j h1
    rcases h3 with ⟨g1, g2⟩ | ⟨h', m, g1, g2, g3, g4⟩
    · by_cases hun : Unm ms pf j
      · rw [← g2]
        exact gh_hit hbd' hmono h2 g1 (by rw [Nat.zero_add]; exact u1) (by rw [Nat.zero_add]; exact hun)
      · have huni : ∀ (k : Nat) (r' : R) b, recs[k]? = some r' → r'.k = .mk b → r'.n0 = f.id → k = j := by
          intro k r' b a1 a2 a3
          rcases Nat.lt_trichotomy k j with hk | hk | hk
          · have := hmono k j r' r hk a1 h2
            simp [R.n1, a2] at this; omega
          · exact hk
          · have := hmono j k r r' hk h2 a1
            simp [R.n1, g1] at this; omega
        rw [gh_miss hbd' (fun k r' b a1 a2 _ a4 a5 => by
          have := huni k r' b a1 a2 a5; subst this
          rw [Nat.zero_add] at a4; exact hun a4)]
        have hex : ∃ q ∈ pf, j + 1 ≤ q := by
          refine Classical.byContradiction fun hne => hun fun q hq => ?_
          cases hqq : inM ms q j with
          | false => rfl
          | true => exact absurd ⟨q, hq, hlt q j hqq⟩ hne
        refine hOf_has (a := j + 1) hpf (fun k hk => ?_) (.inr hex)
        obtain ⟨r', b1, h', m, b2⟩ := hld k hk
        exact ⟨r', h', m, b1, b2, fun hl => h4 k r' h' m b1 b2 hl (hz k hk)⟩
    · have hjp := u2 ⟨r, h2, h', m, g1⟩
      rw [gh_miss hbd' (fun k r' b a1 a2 _ a4 a5 => by
        rcases Nat.lt_trichotomy k j with hk | hk | hk
        · have e1 := g4 k r' b a1 a2 hk
          rw [Nat.zero_add] at a4
          have e2 := a4 j hjp
          rw [e1] at e2; cases e2
        · subst hk; rw [h2] at a1; cases a1; rw [g1] at a2; cases a2
        · have := hmono j k r r' hk h2 a1
          simp [R.n1, g1] at this; omega)]
      refine hOf_has (a := j) hpf (fun k hk => ?_) (.inr ⟨j, hjp, Nat.le_refl _⟩)
      obtain ⟨r', b1, h'', m', b2⟩ := hld k hk
      refine ⟨r', h'', m', b1, b2, fun hl => ?_⟩
      rcases Nat.lt_or_ge j k with hk2 | hk2
      · exact h4 k r' h'' m' b1 b2 hk2 (hz k hk)
      · have : k = j := by omega
        subst this
        rw [h2] at b1; cases b1; rw [g1] at b2; cases b2; exact g2
section
variable {X : X} {rec : Rec} {n : Nat} {ops : List Oper} {e : Env} {h0 : Tr AB}
def RFZ (X : _root_.GX.X) (n : Nat) (ops : List Oper) (z : Nat) (N0 : Nat) (e : Env) (h0 : Tr AB) (recs : List R) (lds : List Nat) (i : Nat) (o : Oper) (r : R) : Prop :=
  r.k = .rd → ∃ l1 l2 ei, lds = l1 ++ l2 ∧ (∀ j ∈ l1, j < i) ∧ (∀ j ∈ l2, i < j) ∧ (∀ t ∈ looks ops o, lookT (masks ops []) ops (recs.take i) e i t = some (ei.at t)) ∧ (∀ t ∈ looks ops o, t < n) ∧
    sk X o.op = .read ∧ veq r.v r.v = true ∧ ((rdStat (masks ops []) (ops.map (fun o => sk X o.op)) i = true ∧ readOp X ei (gh (masks ops []) l1 (fun _ => true) (recs.take i) 0 (hOf (recs.take i) h0 l1)) o.op = some r.v) ∨ ∃ D, ZB ops z i = true ∧ FPD X D (masks ops []) i ei o.op r.v ∧ ∀ f ∈ D, FZ (masks ops []) z N0 h0 recs f)
theorem plan_seqZ {z N0 : Nat} (hn : n < 1000001) (hE : edgesOk ops 0 = true) (hD : dstsOk n ops = true) (hK : seqB1 ops (masks ops []) (ops.map (fun o => sk X o.op)) n ops 0 = true) :
    ∀ (D : List Fct) (os pre : List Oper) (acc : List R) (lds : List Nat) (S : St) (ei : Env) (e' : Env) (S' : St), ops = pre ++ os → acc.length = pre.length → putAll n pre acc e = some ei →
    (∀ (k : Nat) (r : R) b, acc[k]? = some r → r.k = .mk b → (ops.map (fun o => sk X o.op)).getD k .pure = .alloc ∧ N0 ≤ r.n0 ∧ r.n0 < 1000000000) →
    (∀ f ∈ D, FZ (masks ops []) z N0 h0 acc f) →
    (∀ (k : Nat) (r : R), acc[k]? = some r → r.isL → k ∈ lds) → (∀ (q q' : Nat) (r r' : R), q < q' → acc[q]? = some r → acc[q']? = some r' → r.n1 ≤ r'.n0) → (∀ (q : Nat) (r : R), acc[q]? = some r → r.n1 ≤ S.n) →
    N0 ≤ S.n →
    (∀ j ∈ lds, j < pre.length ∧ isLC ((ops.map (fun o => sk X o.op)).getD j .pure) = true ∧ ∃ r, acc[j]? = some r ∧ r.isL) →
    lds.Pairwise (· < ·) →
    S.h = gh (masks ops []) lds (fun _ => true) acc 0 (hOf acc h0 lds) →
    RunZ X rec n ops z D os pre.length ei S e' S' →
    ∃ tl l2, plan X rec n ops (masks ops []) e os pre.length acc lds (hOf acc h0 lds) S.n = some (acc ++ tl, lds ++ l2, S'.n) ∧
      (∀ j ∈ l2, pre.length ≤ j ∧ isLC ((ops.map (fun o => sk X o.op)).getD j .pure) = true) ∧ putAll n ops (acc ++ tl) e = some e' ∧
      S'.h = gh (masks ops []) (lds ++ l2) (fun _ => true) (acc ++ tl) 0 (hOf (acc ++ tl) h0 (lds ++ l2)) ∧ tl.length = os.length ∧ (lds ++ l2).Pairwise (· < ·) ∧ (∀ (k : Nat) (r : R) b, (acc ++ tl)[k]? = some r → r.k = .mk b → (ops.map (fun o => sk X o.op)).getD k .pure = .alloc ∧ N0 ≤ r.n0 ∧ r.n0 < 1000000000) ∧ (∀ f ∈ D, FZ (masks ops []) z N0 h0 (acc ++ tl) f) ∧ (∀ (k : Nat) (r : R), (acc ++ tl)[k]? = some r → r.isL → k ∈ lds ++ l2) ∧ (∀ (q q' : Nat) (r r' : R), q < q' → (acc ++ tl)[q]? = some r → (acc ++ tl)[q']? = some r' → r.n1 ≤ r'.n0) ∧ (∀ j ∈ lds ++ l2, ∃ r, (acc ++ tl)[j]? = some r ∧ r.isL) ∧
      ∀ (k : Nat) (o : Oper) (r : R), os[k]? = some o → tl[k]? = some r → RFZ X n ops z N0 e h0 (acc ++ tl) (lds ++ l2) (pre.length + k) o r
  | D, [], pre, acc, lds, S, ei, e', S', hp, hl, hput, hmk, hF, hal, hmo, _, _, hld, hpw, hh, h => by
    unfold RunZ at h
    obtain ⟨rfl, rfl⟩ := h
    refine ⟨[], [], ?_, fun j hj => by simp at hj, ?_, ?_, rfl, by simpa using hpw, by simpa using hmk, by simpa using hF, by simpa using hal, by simpa using hmo, fun j hj => by simpa using (hld j (by simpa using hj)).2.2, fun k o r hk => by simp at hk⟩
    · simp [plan]
    · simp only [List.append_nil] at hp ⊢; rw [hp]; exact hput
    · simpa using hh
  | D, o :: os, pre, acc, lds, S, ei, e', S', hp, hl, hput, hmk, hF, hal, hmo, hmn, hN, hld, hpw, hh, h => by
    have ho : ops[pre.length]? = some o := by rw [hp]; simp
    have hsk : (ops.map (fun o => sk X o.op)).getD pre.length .pure = sk X o.op := by
      rw [List.getD_eq_getElem?_getD, List.getElem?_map, ho]; rfl
    obtain ⟨hk1, hk2⟩ := seqB1_at hK pre.length o ho
    simp only [Nat.zero_add] at hk1 hk2
    rw [hsk] at hk2
    have hlk := looks_seq hn hE hD hp hl hput hk1
    obtain ⟨re, hre, hag⟩ := renv_good (es := ei) hn hlk
    have hoe : OE re ei o.op := OE_of hag
    have hp' : ops = (pre ++ [o]) ++ os := by rw [hp]; simp
    -- what goes on behind
    have fin : ∀ (r : R) (ldn : List Nat) (S1 : St) (e1 : Env) (N : List Fct), setDst n ei o.dst r.v = some e1 → (∀ b, r.k = .mk b → sk X o.op = .alloc ∧ N0 ≤ r.n0 ∧ r.n0 < 1000000000) → (∀ h' m, r.k = .ld h' m → pre.length < z → ∀ f ∈ D, h'.get f.id = some f.x) → (∀ f ∈ N, FZ (masks ops []) z N0 h0 (acc ++ [r]) f) → r.n0 = S.n → r.n1 = S1.n → S.n ≤ S1.n → N0 ≤ S1.n → (ldn = [] ∧ ¬ r.isL ∨ ldn = [pre.length] ∧ isLC (sk X o.op) = true ∧ r.isL) →
        S1.h = gh (masks ops []) (lds ++ ldn) (fun _ => true) (acc ++ [r]) 0 (hOf (acc ++ [r]) h0 (lds ++ ldn)) →
        (r.k = .rd → ldn = [] ∧ sk X o.op = .read ∧ veq r.v r.v = true ∧ ((rdStat (masks ops []) (ops.map (fun o => sk X o.op)) pre.length = true ∧ readOp X ei S.h o.op = some r.v) ∨ ZB ops z pre.length = true ∧ FPD X D (masks ops []) pre.length ei o.op r.v)) →
        RunZ X rec n ops z (D ++ N) os (pre.length + 1) e1 S1 e' S' →
        plan X rec n ops (masks ops []) e (o :: os) pre.length acc lds (hOf acc h0 lds) S.n = plan X rec n ops (masks ops []) e os (pre.length + 1) (acc ++ [r]) (lds ++ ldn) (hOf (acc ++ [r]) h0 (lds ++ ldn)) S1.n →
        ∃ tl l2, plan X rec n ops (masks ops []) e (o :: os) pre.length acc lds (hOf acc h0 lds) S.n = some (acc ++ tl, lds ++ l2, S'.n) ∧
          (∀ j ∈ l2, pre.length ≤ j ∧ isLC ((ops.map (fun o => sk X o.op)).getD j .pure) = true) ∧ putAll n ops (acc ++ tl) e = some e' ∧
          S'.h = gh (masks ops []) (lds ++ l2) (fun _ => true) (acc ++ tl) 0 (hOf (acc ++ tl) h0 (lds ++ l2)) ∧ tl.length = (o :: os).length ∧ (lds ++ l2).Pairwise (· < ·) ∧ (∀ (k : Nat) (r : R) b, (acc ++ tl)[k]? = some r → r.k = .mk b → (ops.map (fun o => sk X o.op)).getD k .pure = .alloc ∧ N0 ≤ r.n0 ∧ r.n0 < 1000000000) ∧ (∀ f ∈ D, FZ (masks ops []) z N0 h0 (acc ++ tl) f) ∧ (∀ (k : Nat) (r : R), (acc ++ tl)[k]? = some r → r.isL → k ∈ lds ++ l2) ∧ (∀ (q q' : Nat) (r r' : R), q < q' → (acc ++ tl)[q]? = some r → (acc ++ tl)[q']? = some r' → r.n1 ≤ r'.n0) ∧ (∀ j ∈ lds ++ l2, ∃ r, (acc ++ tl)[j]? = some r ∧ r.isL) ∧
          ∀ (k : Nat) (o' : Oper) (r : R), (o :: os)[k]? = some o' → tl[k]? = some r → RFZ X n ops z N0 e h0 (acc ++ tl) (lds ++ l2) (pre.length + k) o' r := by
      intro r ldn S1 e1 N hset hmk1 hlb1 hNf hr0 hr1 hnS1 hN1 hldn hh1 hrd hrun hplan
      have hlast : ∀ (k : Nat) (r' : R), (acc ++ [r])[k]? = some r' → acc[k]? = some r' ∨ (k = acc.length ∧ r' = r) := by
        intro k r' hk
        by_cases hlt : k < acc.length
        · rw [List.getElem?_append_left hlt] at hk; exact .inl hk
        · have h2 : k = acc.length := by
            have := (List.getElem?_eq_some_iff.1 hk).1
            simp at this; omega
          subst h2
          simp at hk; exact .inr ⟨rfl, hk.symm⟩
      obtain ⟨tl, l2, p1, p2, p3, p4, p5, ppw, pmk, pF, pal, pmo, pld, p6⟩ := plan_seqZ hn hE hD hK (D ++ N) os (pre ++ [o]) (acc ++ [r]) (lds ++ ldn) S1 e1 e' S' hp' (by simp [hl]) (putAll_snoc hput hset)
        (by
          intro k r' b hk hb
          by_cases hlt : k < acc.length
          · rw [List.getElem?_append_left hlt] at hk; exact hmk k r' b hk hb
          · have : k = acc.length := by
              have := (List.getElem?_eq_some_iff.1 hk).1
              simp at this; omega
            subst this
            simp at hk; subst hk
            rw [hl, hsk]; exact hmk1 b hb)
        (by
          intro f hf
          rcases List.mem_append.1 hf with hf | hf
          · exact FZ_snoc (hF f hf) (fun h' m hk hz => hlb1 h' m hk (hl ▸ hz) f hf)
          · exact hNf f hf)
        (by
          intro k r' hk hkl
          rcases hlast k r' hk with hk | ⟨rfl, rfl⟩
          · exact List.mem_append_left _ (hal k r' hk hkl)
          · rcases hldn with ⟨_, hq⟩ | ⟨hq, _⟩
            · exact absurd hkl hq
            · rw [hq, hl]; simp)
        (by
          intro q q' r1 r2 hlt h1 h2
          rcases hlast q' r2 h2 with h2 | ⟨rfl, rfl⟩
          · have hlt2 := (List.getElem?_eq_some_iff.1 h2).1
            rcases hlast q r1 h1 with h1 | ⟨rfl, rfl⟩
            · exact hmo q q' r1 r2 hlt h1 h2
            · omega
          · rcases hlast q r1 h1 with h1 | ⟨rfl, rfl⟩
            · rw [hr0]; exact hmn q r1 h1
            · omega)
        (by
          intro q r1 h1
          rcases hlast q r1 h1 with h1 | ⟨rfl, rfl⟩
          · have h2 := hmn q r1 h1
            have h3 : r.n0 ≤ r.n1 := by
              rw [hr1, hr0]; exact hnS1
            omega
          · omega)
        hN1
        (by
          intro j hj
          rw [List.mem_append] at hj
          rcases hj with hj | hj
          · obtain ⟨g1, g2, r', g3, g4⟩ := hld j hj; exact ⟨by simp; omega, g2, r', by rw [List.getElem?_append_left (List.getElem?_eq_some_iff.1 g3).1]; exact g3, g4⟩
          · rcases hldn with ⟨hq, _⟩ | ⟨hq, hq2, hq3⟩
            · rw [hq] at hj; simp at hj
            · rw [hq] at hj; simp at hj; subst hj; exact ⟨by simp, by rw [hsk]; exact hq2, r, by rw [← hl]; simp, hq3⟩)
        (by
          rw [List.pairwise_append]
          refine ⟨hpw, ?_, fun a ha b hb => ?_⟩
          · rcases hldn with ⟨hq, _⟩ | ⟨hq, _⟩ <;> rw [hq] <;> simp
          · rcases hldn with ⟨hq, _⟩ | ⟨hq, _⟩
            · rw [hq] at hb; simp at hb
            · rw [hq] at hb; simp at hb; subst hb; exact (hld a ha).1)
        hh1 (by rw [List.length_append, List.length_singleton]; exact hrun)
      rw [List.length_append, List.length_singleton] at p1
      refine ⟨r :: tl, ldn ++ l2, ?_, ?_, ?_, ?_, by simp [p5], by simpa using ppw, by simpa using pmk, fun f hf => by simpa using pF f (List.mem_append_left _ hf), by simpa using pal, by simpa using pmo, by simpa using pld, ?_⟩
      · rw [hplan, p1]; simp
      · intro j hj
        rw [List.mem_append] at hj
        rcases hj with hj | hj
        · rcases hldn with ⟨hq, _⟩ | ⟨hq, hq2, _⟩
          · rw [hq] at hj; simp at hj
          · rw [hq] at hj; simp at hj; subst hj; exact ⟨Nat.le_refl _, by rw [hsk]; exact hq2⟩
        · have h1 := (p2 j hj).1; simp only [List.length_append, List.length_singleton] at h1; exact ⟨by omega, (p2 j hj).2⟩
      · rw [← p3]; simp
      · rw [p4]; simp
      · intro k o' r' hk hr'
        cases k with
        | zero =>
          simp at hk hr'; subst hk; subst hr'
          intro hrk
          obtain ⟨q1, q2, q4, q3⟩ := hrd hrk
          subst q1
          refine ⟨lds, l2, ei, by simp, fun j hj => by have := (hld j hj).1; simpa using this, fun j hj => by have := (p2 j hj).1; simp only [List.length_append, List.length_singleton] at this; omega, ?_, fun t ht => (hlk t ht).1, q2, q4, q3.imp (fun q => ⟨by simpa using q.1, ?_⟩) (fun q => ⟨D, by simpa using q.1, by simpa using q.2, fun f hf => by simpa using pF f (List.mem_append_left _ hf)⟩)⟩
          · intro t ht
            have : (acc ++ r :: tl).take (pre.length + 0) = acc := by rw [Nat.add_zero, ← hl]; simp
            rw [this]
            exact (hlk t ht).2
          · have : (acc ++ r :: tl).take (pre.length + 0) = acc := by rw [Nat.add_zero, ← hl]; simp
            rw [this, ← hh]; exact q.2
        | succ k =>
          have := p6 k o' r' (by simpa using hk) (by simpa using hr')
          simp only [List.length_append, List.length_singleton, List.append_assoc, List.singleton_append] at this
          rw [show pre.length + (k + 1) = pre.length + 1 + k by omega]
          exact this
    have hwc : wanted ops re o = wanted ops ei o := wanted_congr hag
    have hldlt : ∀ j ∈ lds, j < (acc).length := fun j hj => by rw [hl]; exact (hld j hj).1
    have hOfs : ∀ r : R, hOf (acc ++ [r]) h0 lds = hOf acc h0 lds := fun r => hOf_append hldlt
    have hgs : ∀ r : R, (∀ b, r.k ≠ .mk b) → gh (masks ops []) lds (fun _ => true) (acc ++ [r]) 0 (hOf (acc ++ [r]) h0 lds) = S.h := by
      intro r hr
      rw [hOfs, gh_snoc, ← hh]
      unfold ghStep
      split
      · rename_i b hb; exact absurd hb (hr b)
      · rfl
    have hgc : (∀ (k : Nat), k < pre.length → (ops.map (fun o => sk X o.op)).getD k .pure = .alloc → inM (masks ops []) pre.length k = true) → gh (masks ops []) lds (inM (masks ops []) pre.length) acc 0 (hOf acc h0 lds) = S.h := by
      intro hq
      rw [hh]
      apply gh_congr
      intro k r b h1 h2
      have hkl : k < pre.length := by have := (List.getElem?_eq_some_iff.1 h1).1; omega
      simp only [Nat.zero_add]
      exact hq k hkl (hmk k r b h1 h2).1
    have hzlt : ZB ops z pre.length = true → pre.length < z := by
      intro hzb
      have hlo : pre.length < ops.length := (List.getElem?_eq_some_iff.1 ho).1
      have h1 := List.all_eq_true.1 hzb pre.length (by simpa using hlo)
      rw [Bool.or_eq_true] at h1
      rcases h1 with h1 | h1
      · rw [nblt, decide_eq_true_eq] at h1; exact h1
      · have := inM_lt hE _ _ h1; omega
    have hgB : pre.length < z → ∀ f ∈ D, (∀ j, f.src = some j → inM (masks ops []) pre.length j = true) → (gh (masks ops []) lds (inM (masks ops []) pre.length) acc 0 (hOf acc h0 lds)).get f.id = some f.x := by
      intro hzz f hf hu
      refine FZ_get (fun j hj => Nat.lt_trans (hld j hj).1 hzz) (fun k r b h1 h2 => (hmk k r b h1 h2).2) hmo hpw (fun j hj => (hld j hj).2.2) (fun j k => inM_lt hE j k) (hF f hf) (fun j hj => ⟨hu j hj, fun ⟨r, h1, h2⟩ => hal j r h1 h2⟩)
    unfold RunZ at h
    rcases h with ⟨hw, v, S1, e1, N, hop, he1, hb, hrdc, hlc, hNf, h⟩ | ⟨hw, e1, he1, h⟩
    case inr =>
      refine fin ⟨.tup [], S.n, .val⟩ [] S e1 [] he1 (fun b hb => by cases hb) (fun h' m hb => by cases hb) (fun f hf => by cases hf) rfl rfl (Nat.le_refl _) hN (.inl ⟨rfl, fun ⟨_, _, q⟩ => by cases q⟩) ?_ (fun hb => by cases hb) (by rw [List.append_nil]; exact h) ?_
      · rw [List.append_nil, hgs _ (fun b hb => by cases hb)]
      · conv => lhs; unfold plan
        rw [hre]; dsimp only; rw [hwc, hw]; simp only [cond_false, List.append_nil]
        rw [hOfs]
    case inl =>
      have hck := sk_ok hop
      have hclr : cls X re o.op = cls X ei o.op := cls_congr hoe
      have hN1 : N0 ≤ S1.n := Nat.le_trans hN (oper_n hop)
      have hloud : isLC (cls X ei o.op) = true →
        ∃ tl l2, plan X rec n ops (masks ops []) e (o :: os) pre.length acc lds (hOf acc h0 lds) S.n = some (acc ++ tl, lds ++ l2, S'.n) ∧
          (∀ j ∈ l2, pre.length ≤ j ∧ isLC ((ops.map (fun o => sk X o.op)).getD j .pure) = true) ∧ putAll n ops (acc ++ tl) e = some e' ∧
          S'.h = gh (masks ops []) (lds ++ l2) (fun _ => true) (acc ++ tl) 0 (hOf (acc ++ tl) h0 (lds ++ l2)) ∧ tl.length = (o :: os).length ∧ (lds ++ l2).Pairwise (· < ·) ∧ (∀ (k : Nat) (r : R) b, (acc ++ tl)[k]? = some r → r.k = .mk b → (ops.map (fun o => sk X o.op)).getD k .pure = .alloc ∧ N0 ≤ r.n0 ∧ r.n0 < 1000000000) ∧ (∀ f ∈ D, FZ (masks ops []) z N0 h0 (acc ++ tl) f) ∧ (∀ (k : Nat) (r : R), (acc ++ tl)[k]? = some r → r.isL → k ∈ lds ++ l2) ∧ (∀ (q q' : Nat) (r r' : R), q < q' → (acc ++ tl)[q]? = some r → (acc ++ tl)[q']? = some r' → r.n1 ≤ r'.n0) ∧ (∀ j ∈ lds ++ l2, ∃ r, (acc ++ tl)[j]? = some r ∧ r.isL) ∧
          ∀ (k : Nat) (o' : Oper) (r : R), (o :: os)[k]? = some o' → tl[k]? = some r → RFZ X n ops z N0 e h0 (acc ++ tl) (lds ++ l2) (pre.length + k) o' r := by
        intro hlc0
        have hs : cls X ei o.op = sk X o.op := by
          rcases hck with hq | hq
          · rw [hq] at hlc0; cases hlc0
          · exact hq
        have hlc1 := hlc hlc0
        rw [hs] at hlc0
        have hbef : bef (masks ops []) (ops.map (fun o => sk X o.op)) pre.length isAll = true := hk2 hlc0
        have hg := hgc (fun k hk hq => bef_at hbef hk (by rw [hq]; rfl))
        have hall : lds.all (fun j => inM (masks ops []) pre.length j) = true := by
          apply List.all_eq_true.2
          intro j hj
          obtain ⟨q1, q2, -⟩ := hld j hj
          exact bef_at hbef q1 (by cases hq : (ops.map (fun o => sk X o.op)).getD j .pure <;> rw [hq] at q2 <;> first | rfl | cases q2)
        have hop' : oper X rec re { h := gh (masks ops []) lds (inM (masks ops []) pre.length) acc 0 (hOf acc h0 lds), n := S.n } o.op = some (v, S1) := by
          rw [hg, oper_congr hoe]; exact hop
        refine fin ⟨v, S.n, .ld S1.h S1.n⟩ [pre.length] S1 e1 N he1 (fun b hb => by cases hb) (fun h' m hb => by cases hb; exact hlc1) (fun f hf => ?_) rfl rfl (oper_n hop) hN1 (.inr ⟨rfl, hlc0, _, _, rfl⟩) ?_ (fun hb => by cases hb) h ?_
        · obtain ⟨n1, n2, n3, _⟩ := hNf f hf
          refine .inr ⟨pre.length, ⟨v, S.n, .ld S1.h S1.n⟩, n1, by rw [← hl]; simp, .inr ⟨_, _, rfl, n3, n2, ?_⟩, ?_⟩
          · intro k r b hk hb hlt
            rw [List.getElem?_append_left (by omega)] at hk
            exact bef_at hbef hlt (by rw [(hmk k r b hk hb).1]; rfl)
          · intro k r h' m hk _ hlt _
            have := (List.getElem?_eq_some_iff.1 hk).1
            simp at this; omega
        · rw [gh_snoc]
          have : hOf (acc ++ [(⟨v, S.n, .ld S1.h S1.n⟩ : R)]) h0 (lds ++ [pre.length]) = S1.h := hOf_snoc (r := ⟨v, S.n, .ld S1.h S1.n⟩) (m := S1.n) (by rw [← hl]; simp) rfl
          rw [this, gh_had (fun q r b h1 h2 => by
            have hkl : q < pre.length := by have := (List.getElem?_eq_some_iff.1 h1).1; omega
            rw [Nat.zero_add]
            exact bef_at hbef hkl (by rw [(hmk q r b h1 h2).1]; rfl))]
          rfl
        · conv => lhs; unfold plan
          rw [hre]; dsimp only; rw [hwc, hw]; simp only [cond_true]
          have : hOf (acc ++ [(⟨v, S.n, .ld S1.h S1.n⟩ : R)]) h0 (lds ++ [pre.length]) = S1.h := hOf_snoc (r := ⟨v, S.n, .ld S1.h S1.n⟩) (m := S1.n) (by rw [← hl]; simp) rfl
          rw [hclr, hs]
          cases hskc : sk X o.op with
          | loud => dsimp only; rw [hall]; simp only [cond_true]; rw [hop']; dsimp only; rw [this]
          | call => dsimp only; rw [hall]; simp only [cond_true]; rw [hop']; dsimp only; rw [this]
          | _ => rw [hskc] at hlc0; cases hlc0
      cases hc : cls X ei o.op with
      | loud => exact hloud (by rw [hc]; rfl)
      | call => exact hloud (by rw [hc]; rfl)
      | pure =>
        unfold oper at hop
        rw [hc] at hop
        dsimp only at hop
        split at hop
        · cases hop
        · rename_i v' hv
          cases hop
          have hN0 : N = [] := by
            cases N with
            | nil => rfl
            | cons f N => exfalso; have := (hNf f (List.mem_cons_self ..)).2.2.2; rw [hc] at this; exact absurd this (by rintro (q | ⟨q, _⟩) <;> cases q)
          subst hN0
          refine fin ⟨v, S.n, .val⟩ [] S e1 [] he1 (fun b hb => by cases hb) (fun h' m hb => by cases hb) (fun f hf => by cases hf) rfl rfl (Nat.le_refl _) hN (.inl ⟨rfl, fun ⟨_, _, q⟩ => by cases q⟩) ?_ (fun hb => by cases hb) h ?_
          · rw [List.append_nil, hgs _ (fun b hb => by cases hb)]
          · conv => lhs; unfold plan
            rw [hre]; dsimp only; rw [hwc, hw]; simp only [cond_true, List.append_nil]
            rw [hclr, hc]; dsimp only; rw [pureOp_congr hoe, hv]; dsimp only; rw [hOfs]
      | read =>
        have hs : sk X o.op = .read := by
          rcases hck with hq | hq
          · rw [hq] at hc; cases hc
          · rw [← hq]; exact hc
        have hrdc' := hrdc hc
        unfold oper at hop
        rw [hc] at hop
        dsimp only at hop
        split at hop
        · cases hop
        · rename_i v' hv
          cases hop
          rw [hc] at hb
          have hrd2 : readOp X ei (gh (masks ops []) lds (inM (masks ops []) pre.length) acc 0 (hOf acc h0 lds)) o.op = some v := by
            rcases hrdc' with hst | hfp
            · have hst' := hst
              unfold rdStat at hst'
              rw [Bool.and_eq_true] at hst'
              rw [hgc (fun k hk hq => bef_at hst'.1 hk (by rw [hq]; rfl))]; exact hv
            · exact hfp.2 _ (hgB (hzlt hfp.1))
          have hN0 : N = [] := by
            cases N with
            | nil => rfl
            | cons f N => exfalso; have := (hNf f (List.mem_cons_self ..)).2.2.2; rw [hc] at this; exact absurd this (by rintro (q | ⟨q, _⟩) <;> cases q)
          subst hN0
          refine fin ⟨v, S.n, .rd⟩ [] S e1 [] he1 (fun b hb => by cases hb) (fun h' m hb => by cases hb) (fun f hf => by cases hf) rfl rfl (Nat.le_refl _) hN (.inl ⟨rfl, fun ⟨_, _, q⟩ => by cases q⟩) ?_ (fun _ => ⟨rfl, hs, hb, hrdc'.imp (fun q => ⟨q, hv⟩) (fun q => q)⟩) h ?_
          · rw [List.append_nil, hgs _ (fun b hb => by cases hb)]
          · conv => lhs; unfold plan
            rw [hre]; dsimp only; rw [hwc, hw]; simp only [cond_true, List.append_nil]
            rw [hclr, hc]; dsimp only; rw [readOp_congr hoe, hrd2]; dsimp only; rw [hOfs]
      | alloc =>
        have hs : sk X o.op = .alloc := by
          rcases hck with hq | hq
          · rw [hq] at hc; cases hc
          · rw [← hq]; exact hc
        unfold oper at hop
        rw [hc] at hop
        dsimp only at hop
        cases hlt : Nat.blt S.n 1000000000 with
        | false => rw [hlt] at hop; cases hop
        | true =>
          rw [hlt] at hop
          simp only [cond_true] at hop
          have hlt2 : S.n < 1000000000 := by rw [nblt, decide_eq_true_eq] at hlt; exact hlt
          split at hop
          · cases hop
          · rename_i b' v' hv
            cases hop
            refine fin ⟨v, S.n, .mk b'⟩ [] (S.new b') e1 N he1 (fun _ _ => ⟨hs, hN, hlt2⟩) (fun h' m hb => by cases hb) (fun f hf => ?_) rfl rfl (Nat.le_succ _) hN1 (.inl ⟨rfl, fun ⟨_, _, q⟩ => by cases q⟩) ?_ (fun hb => by cases hb) h ?_
            · obtain ⟨n1, _, n3, n4⟩ := hNf f hf
              rw [hc] at n4
              rcases n4 with q | ⟨_, q⟩
              · cases q
              have hx : f.x = b' := by
                have h5 : (S.new b').h.get S.n = some b' := by unfold St.new; dsimp only; rw [Tr.get_set 40 _ _ _ _ (by omega), if_pos rfl]
                rw [q, h5] at n3; cases n3; rfl
              refine .inr ⟨pre.length, ⟨v, S.n, .mk b'⟩, n1, by rw [← hl]; simp, .inl ⟨by rw [hx], q.symm⟩, ?_⟩
              intro k r h' m hk _ hlt _
              have := (List.getElem?_eq_some_iff.1 hk).1
              simp at this; omega
            · rw [List.append_nil, hOfs, gh_snoc, ← hh]
              unfold ghStep
              dsimp only
              have : lds.all (fun j => !inM (masks ops []) j (0 + acc.length)) = true := by
                apply List.all_eq_true.2
                intro j hj
                have h1 := (hld j hj).1
                cases hq : inM (masks ops []) j (0 + acc.length) with
                | false => rfl
                | true => have := inM_lt hE _ _ hq; omega
              rw [this]
              rfl
            · conv => lhs; unfold plan
              rw [hre]; dsimp only; rw [hwc, hw]; simp only [cond_true, List.append_nil]
              rw [hclr, hc]; dsimp only; rw [hlt]; simp only [cond_true]; rw [allocOp_congr hoe, hv]; dsimp only; rw [hOfs]
              rfl
/-- WHERE THE EDGES SAY ENOUGH but for reads that loud operations leave alone, a region that draws its order gives what the text's order gives. -/
theorem drawn_Z {z : Nat} {D : List Fct} {S : St} {e' : Env} {S' : St} (hD0 : ∀ f ∈ D, f.src = none ∧ f.id < S.n ∧ S.h.get f.id = some f.x) (hs : seqB X n ops = true) (h : RunZ X rec n ops z D ops 0 e S e' S') : drawn X rec n ops e S = .ok .nor e' S' := by
  unfold seqB at hs
  simp only [Bool.and_eq_true, nblt, decide_eq_true_eq] at hs
  obtain ⟨⟨⟨⟨hE, hD⟩, hN⟩, hn⟩, hK⟩ := hs
  have hle := RunZ_n h
  obtain ⟨tl, l2, p1, p2, p3, p4, p5, ppw, pmk, -, pal, pmo, pld, p6⟩ := plan_seqZ (h0 := S.h) (e := e) (N0 := S.n) hn hE hD hK D ops [] [] [] S e e' S' (by simp) rfl (by simp [putAll]) (fun k r b hk => by simp at hk) (fun f hf => .inl ⟨(hD0 f hf).1, (hD0 f hf).2.1, (hD0 f hf).2.2, fun k r h' m hk _ => by simp at hk⟩) (fun k r hk => by simp at hk) (fun q q' r r' _ hk => by simp at hk) (fun k r hk => by simp at hk) (Nat.le_refl _) (fun j hj => by simp at hj) List.Pairwise.nil (by simp [gh, hOf]) h
  simp only [List.nil_append, List.length_nil, hOf, Nat.zero_add] at p1 p2 p3 p4 p6 ppw pmk pal pmo pld
  unfold drawn
  dsimp only
  rw [hE, hD, hN]
  simp only [Bool.and_self, cond_true]
  rw [p1]
  dsimp only
  have hrd : rdsOk X n ops (masks ops []) tl e S.h l2 ops 0 = true := by
    apply rdsOk_of
    intro i o ho
    have hi : i < ops.length := (List.getElem?_eq_some_iff.1 ho).1
    have hr : tl[i]? = some (tl[i]'(by omega)) := List.getElem?_eq_getElem _
    rw [Nat.zero_add]
    refine ⟨_, hr, fun hk => ?_⟩
    obtain ⟨l1, l3, ei, q1, q2, q3, q4, q5, q6, q8, q9⟩ := p6 i o _ ho hr hk
    have hlt : ∀ j, inM (masks ops []) i j = true → j < (tl.take i).length := fun j hj => by
      have := inM_lt hE _ _ hj
      simp; omega
    have htl : tl = tl.take i ++ tl.drop i := (List.take_append_drop i tl).symm
    obtain ⟨re, r1, r2⟩ := renv_good (ms := masks ops []) (ops := ops) (acc := tl) (e := e) (es := ei) (n := n) (i := i) hn (ts := looks ops o) (fun t ht => ⟨q5 t ht, by
      rw [htl, lookT_append hlt]; exact q4 t ht⟩)
    refine ⟨re, r1, rdOk_of fun a b hab => ?_⟩
    have hoe : OE re ei o.op := OE_of r2
    have hski : (ops.map (fun o => sk X o.op)).getD i .pure = sk X o.op := by
      rw [List.getD_eq_getElem?_getD, List.getElem?_map, ho]; rfl
    rw [List.nil_append]
    unfold rdOk.rd1
    cases hc : (a.all (fun j => !inM (masks ops []) j i) && l2.all (fun j => !inM (masks ops []) i j || a.contains j)) with
    | false => rfl
    | true =>
      simp only [cond_true]
      simp only [Bool.and_eq_true] at hc
      obtain ⟨c1, c2⟩ := hc
      rcases q9 with ⟨hst, q7⟩ | ⟨D', hzb, hfp, hfi⟩
      case inr =>
        have hsub : ∀ j ∈ a, j ∈ l2 := fun j hj => by rw [hab]; exact List.mem_append_left _ hj
        have hg : ∀ f ∈ D', (∀ j, f.src = some j → inM (masks ops []) i j = true) → (gh (masks ops []) a (inM (masks ops []) i) tl 0 (hOf tl S.h a)).get f.id = some f.x := by
          intro f hf hu
          refine FZ_get (fun j hj => ?_) (fun k r b h1 h2 => (pmk k r b h1 h2).2) pmo ?_ (fun j hj => pld j (hsub j hj)) (fun j k => inM_lt hE j k) (hfi f hf) (fun j hj => ⟨hu j hj, fun ⟨r, h1, h2⟩ => ?_⟩)
          · have h1 := List.all_eq_true.1 c1 j hj
            obtain ⟨r, h2, _⟩ := pld j (hsub j hj)
            have h3 := (List.getElem?_eq_some_iff.1 h2).1
            have h4 := List.all_eq_true.1 hzb j (by simp only [List.mem_range]; omega)
            rw [Bool.or_eq_true] at h4
            rcases h4 with h4 | h4
            · rw [nblt, decide_eq_true_eq] at h4; exact h4
            · rw [h4] at h1; cases h1
          · rw [hab, List.pairwise_append] at ppw; exact ppw.1
          · have h3 := List.all_eq_true.1 c2 j (pal j r h1 h2)
            rw [hu j hj] at h3
            simpa using h3
        rw [readOp_congr hoe, hfp _ hg]
        exact q8
      unfold rdStat at hst
      rw [Bool.and_eq_true] at hst
      obtain ⟨hk2, hk3⟩ := hst
      have hal : a = l1 := by
        have hpre : a ++ b = l1 ++ l3 := by rw [← hab, q1]
        have hin1 : ∀ j ∈ l1, j ∈ a := by
          intro j hj
          have hj2 : j ∈ l2 := by rw [q1]; exact List.mem_append_left _ hj
          have h1 := List.all_eq_true.1 c2 j hj2
          have h2 : inM (masks ops []) i j = true := by
            apply bef_at hk2 (q2 j hj)
            have := (p2 j hj2).2
            cases hq : (ops.map (fun o => sk X o.op)).getD j .pure <;> rw [hq] at this <;> first | rfl | cases this
          rw [h2] at h1
          simpa using h1
        have hin3 : ∀ j ∈ l3, j ∉ a := by
          intro j hj hja
          have hj2 : j ∈ l2 := by rw [q1]; exact List.mem_append_right _ hj
          have h1 := List.all_eq_true.1 c1 j hja
          have hjl : j < ops.length := by
            have := (p2 j hj2).2
            rw [List.getD_eq_getElem?_getD] at this
            by_cases hlt : j < ops.length
            · exact hlt
            · rw [List.getElem?_eq_none (by simpa using hlt)] at this; cases this
          have hl := (p2 j hj2).2
          have h3 := List.all_eq_true.1 hk3 j (by simpa using hjl)
          rw [hl, nble, decide_eq_false (by have := q3 j hj; omega)] at h3
          have : inM (masks ops []) j i = true := by simpa using h3
          rw [this] at h1
          cases h1
        rcases List.append_eq_append_iff.1 hpre with ⟨m, hm1, hm2⟩ | ⟨m, hm1, hm2⟩
        · -- l1 = a ++ m
          cases m with
          | nil => simpa using hm1.symm
          | cons y m =>
            exfalso
            have hy : y ∈ a := hin1 y (by rw [hm1]; simp)
            rw [q1, hm1, List.append_assoc, List.pairwise_append] at ppw
            have := ppw.2.2 y hy y (by simp)
            omega
        · cases m with
          | nil => simpa using hm1
          | cons y m =>
            exfalso
            exact hin3 y (by rw [hm2]; simp) (by rw [hm1]; simp)
      subst hal
      have hh : gh (masks ops []) a (inM (masks ops []) i) tl 0 (hOf tl S.h a) = gh (masks ops []) a (fun _ => true) (tl.take i) 0 (hOf (tl.take i) S.h a) := by
        conv => lhs; rw [htl]
        rw [gh_append (fun q hq => by
          cases hm : inM (masks ops []) i q with
          | false => rfl
          | true => have := hlt q hm; omega)]
        rw [hOf_append (fun j hj => by have := q2 j hj; simp; omega)]
        apply gh_congr
        intro k r b h1 h2
        rw [Nat.zero_add]
        have hki : k < i := by have := (List.getElem?_eq_some_iff.1 h1).1; simp at this; omega
        apply bef_at hk2 hki
        have : (ops.map (fun o => sk X o.op)).getD k .pure = .alloc := by
          have hkr : tl[k]? = some r := by rw [htl, List.getElem?_append_left (List.getElem?_eq_some_iff.1 h1).1]; exact h1
          exact (pmk k r b hkr h2).1
        rw [this]; rfl
      rw [hh, readOp_congr hoe, q7]
      exact q8
  rw [hrd]
  simp only [cond_true]
  rw [p3]
  dsimp only
  rw [nble, decide_eq_true hle]
  simp only [cond_true]
  rw [← p4]
end
end GX
/- GX: reasoning about runs: W_drawnF where the last operations may write to the told blocks. -/


namespace GX
noncomputable section
open Go
def WZ (X : X) (n : Nat) (all : List Oper) (z : Nat) (D : List Fct) (os : List Oper) (i : Nat) (ks : List Kt) (Q : Ex → Env → St → Prop) (l : L) (S : St) : Prop :=
  ∀ e, Ag l e → ∃ f e' S', RunZ X (exec X f) n all z D os i e S e' S' ∧ QK X n ks Q .nor e' S'
section
variable {X : X} {n : Nat} {ks : List Kt} {Q : Ex → Env → St → Prop} {l : L} {S : St} {z : Nat} {D : List Fct} {all os : List Oper} {o : Oper} {i : Nat}
theorem W_drawnZ (z : Nat) (D : List Fct) {id : Nat} {ops : Array Oper} (hD : ∀ f ∈ D, f.src = none ∧ f.id < S.n ∧ S.h.get f.id = some f.x) (hs : seqB X n ops.toList = true) (h : WZ X n ops.toList z D ops.toList 0 ks Q l S) : W X n (.region id ops true) ks Q l S := by
  unfold W
  intro e he
  obtain ⟨f, e1, S1, h1, h2⟩ := h e he
  exact ⟨f + 1, .nor, e1, S1, by show step X (exec X f) n (.region id ops true) e S = _; unfold step; exact drawn_Z hD hs h1, h2⟩
theorem WZ_nil (h : V X n .nor ks Q l S) : WZ X n all z D [] i ks Q l S := by
  unfold V at h
  exact fun e he => ⟨0, e, S, ⟨rfl, rfl⟩, h e he⟩
theorem WZ_pa {d : Nat} (hg : o.guard = none) (hd : o.dst = some d) (hn : Nat.blt d n = true) (hn' : Nat.blt n 1000001 = true) (hsk : isPA (sk X o.op) = true)
    (h : Ev X l S o.op fun v S' => WZ X n all z D os (i + 1) ks Q ((d, v) :: l) S') : WZ X n all z D (o :: os) i ks Q l S := by
  intro e he
  unfold Ev at h
  obtain ⟨f, v, S1, h1, h2, h3⟩ := h e he
  rw [nblt, decide_eq_true_eq] at hn hn'
  obtain ⟨g, e2, S2, h4, h5⟩ := h3 _ (he.put hn' hn)
  have hck := sk_ok h1
  refine ⟨max f g, e2, S2, .inl ⟨wanted_none hg, v, S1, e.put d v, [], oper_le (exec_le (Nat.le_max_left f g)) h1, ?_, h2, fun hc => ?_, fun hc _ => ?_, fun f hf => (by cases hf), by rw [List.append_nil]; exact RunZ_le (exec_le (Nat.le_max_right f g)) h4⟩, h5⟩
  · rw [hd]; unfold setDst; dsimp only; rw [nblt, decide_eq_true hn]; rfl
  · rcases hck with hq | hq
    · rw [hq] at hc; cases hc
    · rw [hq] at hc; rw [hc] at hsk; cases hsk
  · rcases hck with hq | hq
    · rw [hq] at hc; cases hc
    · rw [hq] at hc
      exfalso
      cases hs : sk X o.op <;> rw [hs] at hc hsk <;> first | (cases hc; done) | (cases hsk; done)
/-- an operation that makes a block, which is told -/
theorem WZ_al {d : Nat} (hg : o.guard = none) (hd : o.dst = some d) (hn : Nat.blt d n = true) (hn' : Nat.blt n 1000001 = true) (hcl : ∀ e, Ag l e → cls X e o.op = .alloc)
    (h : Ev X l S o.op fun v S' => ∃ x, S'.h.get S.n = some x ∧ S.n < S'.n ∧ WZ X n all z (D ++ [⟨S.n, x, some i⟩]) os (i + 1) ks Q ((d, v) :: l) S') : WZ X n all z D (o :: os) i ks Q l S := by
  intro e he
  unfold Ev at h
  obtain ⟨f, v, S1, h1, h2, x, hx, hlt, h3⟩ := h e he
  rw [nblt, decide_eq_true_eq] at hn hn'
  obtain ⟨g, e2, S2, h4, h5⟩ := h3 _ (he.put hn' hn)
  have hc0 := hcl e he
  refine ⟨max f g, e2, S2, .inl ⟨wanted_none hg, v, S1, e.put d v, [⟨S.n, x, some i⟩], oper_le (exec_le (Nat.le_max_left f g)) h1, ?_, h2, fun hc => (by rw [hc0] at hc; cases hc), fun hc _ => (by rw [hc0] at hc; cases hc), fun f hf => ?_, RunZ_le (exec_le (Nat.le_max_right f g)) h4⟩, h5⟩
  · rw [hd]; unfold setDst; dsimp only; rw [nblt, decide_eq_true hn]; rfl
  · rw [List.mem_singleton] at hf; subst hf
    exact ⟨rfl, hlt, hx, .inr ⟨hc0, rfl⟩⟩
/-- a read that is ordered with all loud operations -/
theorem WZ_rs {d : Nat} (hg : o.guard = none) (hd : o.dst = some d) (hn : Nat.blt d n = true) (hn' : Nat.blt n 1000001 = true) (hsk : isLC (sk X o.op) = false) (hst : rdStat (masks all []) (all.map (fun o => sk X o.op)) i = true)
    (h : Ev X l S o.op fun v S' => WZ X n all z D os (i + 1) ks Q ((d, v) :: l) S') : WZ X n all z D (o :: os) i ks Q l S := by
  intro e he
  unfold Ev at h
  obtain ⟨f, v, S1, h1, h2, h3⟩ := h e he
  rw [nblt, decide_eq_true_eq] at hn hn'
  obtain ⟨g, e2, S2, h4, h5⟩ := h3 _ (he.put hn' hn)
  have hck := sk_ok h1
  refine ⟨max f g, e2, S2, .inl ⟨wanted_none hg, v, S1, e.put d v, [], oper_le (exec_le (Nat.le_max_left f g)) h1, ?_, h2, fun _ => .inl hst, fun hc _ => ?_, fun f hf => (by cases hf), by rw [List.append_nil]; exact RunZ_le (exec_le (Nat.le_max_right f g)) h4⟩, h5⟩
  · rw [hd]; unfold setDst; dsimp only; rw [nblt, decide_eq_true hn]; rfl
  · rcases hck with hq | hq
    · rw [hq] at hc; cases hc
    · rw [hq, hsk] at hc; cases hc
/-- a read that looks at told blocks alone -/
theorem WZ_rf {d : Nat} {v : AV} (hzb : ZB all z i = true) (hg : o.guard = none) (hd : o.dst = some d) (hn : Nat.blt d n = true) (hn' : Nat.blt n 1000001 = true) (hS : ∀ f ∈ D, S.h.get f.id = some f.x)
    (hfp : ∀ e, Ag l e → cls X e o.op = .read ∧ FPD X D (masks all []) i e o.op v) (hvv : veq v v = true) (h : WZ X n all z D os (i + 1) ks Q ((d, v) :: l) S) : WZ X n all z D (o :: os) i ks Q l S := by
  intro e he
  obtain ⟨hc, hf⟩ := hfp e he
  rw [nblt, decide_eq_true_eq] at hn hn'
  obtain ⟨g, e2, S2, h4, h5⟩ := h _ (he.put hn' hn)
  refine ⟨g, e2, S2, .inl ⟨wanted_none hg, v, S, e.put d v, [], ?_, ?_, by rw [hc]; exact hvv, fun _ => .inr ⟨hzb, hf⟩, fun hl _ => (by rw [hc] at hl; cases hl), fun f hf => (by cases hf), by rw [List.append_nil]; exact h4⟩, h5⟩
  · unfold oper; rw [hc]; dsimp only; rw [hf S.h (fun f h1 _ => hS f h1)]
  · rw [hd]; unfold setDst; dsimp only; rw [nblt, decide_eq_true hn]; rfl
/-- a loud operation, or a call, that leaves the told blocks alone, and may tell more -/
theorem WZ_ld {d : Nat} (hg : o.guard = none) (hd : o.dst = some d) (hn : Nat.blt d n = true) (hn' : Nat.blt n 1000001 = true) (hcl : ∀ e, Ag l e → isLC (cls X e o.op) = true)
    (h : Ev X l S o.op fun v S' => (Nat.blt i z = true → ∀ f ∈ D, S'.h.get f.id = some f.x) ∧ ∃ N : List Fct, (∀ f ∈ N, f.src = some i ∧ f.id < S'.n ∧ S'.h.get f.id = some f.x) ∧ WZ X n all z (D ++ N) os (i + 1) ks Q ((d, v) :: l) S') : WZ X n all z D (o :: os) i ks Q l S := by
  intro e he
  unfold Ev at h
  obtain ⟨f, v, S1, h1, h2, hB, N, hN, h3⟩ := h e he
  rw [nblt, decide_eq_true_eq] at hn hn'
  obtain ⟨g, e2, S2, h4, h5⟩ := h3 _ (he.put hn' hn)
  have hc0 := hcl e he
  refine ⟨max f g, e2, S2, .inl ⟨wanted_none hg, v, S1, e.put d v, N, oper_le (exec_le (Nat.le_max_left f g)) h1, ?_, h2, fun hc => ?_, fun _ hz => hB (by rw [nblt]; exact decide_eq_true hz), fun f hf => ⟨(hN f hf).1, (hN f hf).2.1, (hN f hf).2.2, .inl hc0⟩, RunZ_le (exec_le (Nat.le_max_right f g)) h4⟩, h5⟩
  · rw [hd]; unfold setDst; dsimp only; rw [nblt, decide_eq_true hn]; rfl
  · rw [hc] at hc0; cases hc0
theorem WZ_ld0 (hg : o.guard = none) (hd : o.dst = none) (hcl : ∀ e, Ag l e → isLC (cls X e o.op) = true)
    (h : Ev X l S o.op fun _ S' => (Nat.blt i z = true → ∀ f ∈ D, S'.h.get f.id = some f.x) ∧ ∃ N : List Fct, (∀ f ∈ N, f.src = some i ∧ f.id < S'.n ∧ S'.h.get f.id = some f.x) ∧ WZ X n all z (D ++ N) os (i + 1) ks Q l S') : WZ X n all z D (o :: os) i ks Q l S := by
  intro e he
  unfold Ev at h
  obtain ⟨f, v, S1, h1, h2, hB, N, hN, h3⟩ := h e he
  obtain ⟨g, e2, S2, h4, h5⟩ := h3 _ he
  have hc0 := hcl e he
  refine ⟨max f g, e2, S2, .inl ⟨wanted_none hg, v, S1, e, N, oper_le (exec_le (Nat.le_max_left f g)) h1, ?_, h2, fun hc => ?_, fun _ hz => hB (by rw [nblt]; exact decide_eq_true hz), fun f hf => ⟨(hN f hf).1, (hN f hf).2.1, (hN f hf).2.2, .inl hc0⟩, RunZ_le (exec_le (Nat.le_max_right f g)) h4⟩, h5⟩
  · rw [hd]; rfl
  · rw [hc] at hc0; cases hc0
theorem WZ_guard {j d0 : Nat} {want : Bool} {p : Oper} {c : Bool} {d : Nat} (hg : o.guard = some (j, want)) (hp : all[j]? = some p) (hd0 : p.dst = some d0) (hl : lk l d0 = some (.bool c)) (hd : o.dst = some d) (hn : Nat.blt d n = true) (hn' : Nat.blt n 1000001 = true)
    (h1 : c = want → WZ X n all z D ({ o with guard := none } :: os) i ks Q ((d0, .bool want) :: l) S) (h2 : c = (!want) → WZ X n all z D os (i + 1) ks Q ((d, .tup []) :: (d0, .bool (!want)) :: l) S) : WZ X n all z D (o :: os) i ks Q l S := by
  intro e he
  rw [nblt, decide_eq_true_eq] at hn hn'
  have hat : e.at d0 = .bool c := he d0 _ hl
  have hag : ∀ b, c = b → Ag ((d0, .bool b) :: l) e := by
    intro b hb t v ht
    unfold lk at ht
    rw [nbeq, cond_dec] at ht
    by_cases hh : d0 = t
    · subst hh; rw [if_pos rfl] at ht; cases ht; rw [hat, hb]
    · rw [if_neg hh] at ht; exact he t v ht
  have hw : wanted all e o = (c == want) := by unfold wanted; rw [hg]; dsimp only; rw [hp]; dsimp only; rw [hd0]; dsimp only; rw [hat]
  by_cases hc : c = want
  · obtain ⟨f, e2, S2, h3, h4⟩ := h1 hc e (hag want hc)
    refine ⟨f, e2, S2, ?_, h4⟩
    have hw' : wanted all e o = true := by rw [hw, hc]; cases want <;> rfl
    unfold RunZ at h3 ⊢
    rcases h3 with ⟨_, h3⟩ | ⟨h3, _⟩
    · exact .inl ⟨hw', h3⟩
    · rw [wanted_none rfl] at h3; cases h3
  · have hc' : c = (!want) := by cases c <;> cases want <;> simp_all
    obtain ⟨f, e2, S2, h3, h4⟩ := h2 hc' _ ((hag _ hc').put hn' hn)
    refine ⟨f, e2, S2, ?_, h4⟩
    have hw' : wanted all e o = false := by rw [hw, hc']; cases want <;> rfl
    refine .inr ⟨hw', e.put d (.tup []), ?_, h3⟩
    rw [hd]; unfold setDst; dsimp only; rw [nblt, decide_eq_true hn]; rfl
theorem WZ_guard_dt {j d0 : Nat} {q : Oper} {p : Prop} [Decidable p] {d : Nat} (hg : o.guard = some (j, true)) (hp : all[j]? = some q) (hd0 : q.dst = some d0) (hl : lk l d0 = some (.bool (decide p))) (hd : o.dst = some d) (hn : Nat.blt d n = true) (hn' : Nat.blt n 1000001 = true)
    (h1 : p → WZ X n all z D ({ o with guard := none } :: os) i ks Q ((d0, .bool true) :: l) S) (h2 : ¬ p → WZ X n all z D os (i + 1) ks Q ((d, .tup []) :: (d0, .bool false) :: l) S) : WZ X n all z D (o :: os) i ks Q l S :=
  WZ_guard hg hp hd0 hl hd hn hn' (fun h => h1 (of_decide_eq_true h)) (fun h => h2 (of_decide_eq_false h))
theorem WZ_guard_df {j d0 : Nat} {q : Oper} {p : Prop} [Decidable p] {d : Nat} (hg : o.guard = some (j, false)) (hp : all[j]? = some q) (hd0 : q.dst = some d0) (hl : lk l d0 = some (.bool (decide p))) (hd : o.dst = some d) (hn : Nat.blt d n = true) (hn' : Nat.blt n 1000001 = true)
    (h1 : ¬ p → WZ X n all z D ({ o with guard := none } :: os) i ks Q ((d0, .bool false) :: l) S) (h2 : p → WZ X n all z D os (i + 1) ks Q ((d, .tup []) :: (d0, .bool true) :: l) S) : WZ X n all z D (o :: os) i ks Q l S :=
  WZ_guard hg hp hd0 hl hd hn hn' (fun h => h1 (of_decide_eq_false h)) (fun h => h2 (of_decide_eq_true h))
theorem WZ_guard_t {j d0 : Nat} {want : Bool} {p : Oper} {d : Nat} (hg : o.guard = some (j, want)) (hp : all[j]? = some p) (hd0 : p.dst = some d0) (hl : lk l d0 = some (.bool want)) (hd : o.dst = some d) (hn : Nat.blt d n = true) (hn' : Nat.blt n 1000001 = true)
    (h1 : WZ X n all z D ({ o with guard := none } :: os) i ks Q l S) : WZ X n all z D (o :: os) i ks Q l S := by
  refine WZ_guard hg hp hd0 hl hd hn hn' (fun _ => ?_) (fun h => ?_)
  · intro e he
    exact h1 e (fun t v ht => he t v (by
      unfold lk; rw [nbeq, cond_dec]
      by_cases hh : d0 = t
      · subst hh; rw [hl] at ht; cases ht; rw [if_pos rfl]
      · rw [if_neg hh]; exact ht))
  · cases want <;> cases h
theorem WZ_skip {d : Nat} (hd : o.dst = some d) (hn : Nat.blt d n = true) (hn' : Nat.blt n 1000001 = true) (hw : ∀ e, Ag l e → wanted all e o = false) (h2 : WZ X n all z D os (i + 1) ks Q ((d, .tup []) :: l) S) : WZ X n all z D (o :: os) i ks Q l S := by
  intro e he
  rw [nblt, decide_eq_true_eq] at hn hn'
  obtain ⟨f, e2, S2, h3, h4⟩ := h2 _ (he.put hn' hn)
  refine ⟨f, e2, S2, .inr ⟨hw e he, e.put d (.tup []), ?_, h3⟩, h4⟩
  rw [hd]; unfold setDst; dsimp only; rw [nblt, decide_eq_true hn]; rfl
theorem WZ_guard_f {j d0 : Nat} {want c : Bool} {p : Oper} {d : Nat} (hg : o.guard = some (j, want)) (hp : all[j]? = some p) (hd0 : p.dst = some d0) (hl : lk l d0 = some (.bool c)) (hc : (c == want) = false) (hd : o.dst = some d) (hn : Nat.blt d n = true) (hn' : Nat.blt n 1000001 = true)
    (h2 : WZ X n all z D os (i + 1) ks Q ((d, .tup []) :: l) S) : WZ X n all z D (o :: os) i ks Q l S :=
  WZ_skip hd hn hn' (fun e he => by unfold wanted; rw [hg]; dsimp only; rw [hp]; dsimp only; rw [hd0]; dsimp only; rw [he d0 _ hl]; exact hc) h2
theorem WZ_guard_x {j d0 : Nat} {want : Bool} {p : Oper} {d : Nat} (hg : o.guard = some (j, want)) (hp : all[j]? = some p) (hd0 : p.dst = some d0) (hl : lk l d0 = some (.tup [])) (hd : o.dst = some d) (hn : Nat.blt d n = true) (hn' : Nat.blt n 1000001 = true)
    (h2 : WZ X n all z D os (i + 1) ks Q ((d, .tup []) :: l) S) : WZ X n all z D (o :: os) i ks Q l S :=
  WZ_skip hd hn hn' (fun e he => by unfold wanted; rw [hg]; dsimp only; rw [hp]; dsimp only; rw [hd0]; dsimp only; rw [he d0 _ hl]) h2
end
end
end GX
/- carafebook.Book.Keep of a list whose capacity is known. (NODRAWN) -/



namespace Go.Proofs.Ytdhfjkikoiifcaa
open GX
set_option maxHeartbeats 16000000
set_option maxRecDepth 100000
/-- a book that has one list more than before, perhaps without the first ones -/
structure Kp (S T : St) (p : Nat) (vl vw : AV) (i : It) (is : List It) : Prop where
  ex : ∃ vl' vw' h' w k, Bk T p vl' vw' h' ((is ++ [{ i with w := w }]).drop k) ∧ k ≤ is.length ∧ (∀ c, blkOf vl' = some c → S.n ≤ c) ∧ (∀ c, blkOf vw' = some c → S.n ≤ c) ∧ (∀ c, blkOf w = some c → S.n ≤ c)
  le : S.n ≤ T.n
  n : T.n ≤ S.n + 10
  same : ∀ c, c < S.n → c ≠ p → blkOf vl ≠ some c → blkOf vw ≠ some c → T.h.get c = S.h.get c
theorem Bk.drop1 {T U : St} {p : Nat} {vl vw vl' vw' : AV} {h h' : Int} {is : List It} (b : Bk T p vl vw h is) (hUok : Sok U) (hat : U.h.get p = some (.cells 24 [vl', vw', .int .i64 h', .bool false] false)) (hlo : OwA U vl' 25 1 ((is.map It.v).drop 1) (is.length - 1)) (hwo : OwA U vw' 25 1 ((is.map It.w).drop 1) (is.length - 1)) (hl : blkOf vl' = blkOf vl) (hw : blkOf vw' = blkOf vw) (hf : ∀ c, c ≠ p → U.h.get c = T.h.get c) : Bk U p vl' vw' h' (is.drop 1) := by
  have hm : ∀ i ∈ is.drop 1, i ∈ is := fun i hi => List.mem_of_mem_drop hi
  refine ⟨hUok, hat, by rw [List.map_drop, List.length_drop]; exact hlo, by rw [List.map_drop, List.length_drop]; exact hwo, fun i hi => (b.it i (hm i hi)).keep (fun c hc => hf c (b.ip i (hm i hi) c (.inl hc)).1) (fun c hc => hf c (b.ip i (hm i hi) c (.inr hc)).1), by rw [hl]; exact b.lp, by rw [hw]; exact b.wp, by rw [hl, hw]; exact b.lw, fun i hi => by rw [hl, hw]; exact b.ip i (hm i hi), fun j k x y c hj hk hne hx => ?_, by rw [List.length_drop]; have := b.few; omega⟩
  rw [List.getElem?_drop] at hj hk
  exact b.dis _ _ x y c hj hk (by omega) hx
theorem ItOK.one {T : St} {i : It} (h : ItOK T i) : AV.one i.v = true := by
  rcases h.cap with ⟨b, o, h⟩ | ⟨h, _⟩ <;> rw [h] <;> rfl
theorem Bk.held {T U : St} {p : Nat} {vl vw : AV} {h h' : Int} {is : List It} (b : Bk T p vl vw h is) (hn : U.n = T.n) (hq : U.h.get p = some (.cells 24 [vl, vw, .int .i64 h', .bool false] false)) (hf : ∀ c, c ≠ p → U.h.get c = T.h.get c) : Bk U p vl vw h' is :=
  ⟨sok_upd b.ok (b.ok _ _ b.at_) hn hq hf, hq, b.lo.keep (fun c hc => hf c (fun e => b.lp (by rw [hc, e]))), b.wo.keep (fun c hc => hf c (fun e => b.wp (by rw [hc, e]))),
    fun i hi => (b.it i hi).keep (fun c hc => hf c (b.ip i hi c (.inl hc)).1) (fun c hc => hf c (b.ip i hi c (.inr hc)).1), b.lp, b.wp, b.lw, b.ip, b.dis, b.few⟩
theorem owa_cells1 {S : St} {v : AV} {el sz : Nat} {cs : List AV} {m : Nat} (h : OwA S v el sz cs m) : v.cells = [v] ∧ [v].all AV.one = true := by
  rcases h with ⟨h1, _⟩ | ⟨b, pre, h1, _⟩ <;> subst h1 <;> exact ⟨rfl, rfl⟩
theorem afill_one {v : AV} (h : AV.one v = true) : afill (fun i => some (i * 1, 1)) (rep [.nils] 1) [(0, v)] = some [v] := by
  cases v <;> first | rfl | cases h
theorem keep_runs {S : St} {p : Nat} {vl vw : AV} {h : Int} {is : List It} {i : It} (b : Bk S p vl vw h is) (hi : ItOK S { i with w := i.v }) (hb : ∀ c, blkOf i.v = some c → c ≠ p ∧ blkOf vl ≠ some c ∧ blkOf vw ≠ some c ∧ ∀ j ∈ is, blkOf j.v ≠ some c) (hlen : is.length ≤ 900) (hn : S.n ≤ 900000000) :
    Runs X2 9 [.ptr p 0, i.v] S fun _ T => Kp S T p vl vw i is := by
  have hird : Es S i.v i.cs := hi.rd
  have hpn := b.ok _ _ b.at_
  have hsm := hi.small
  dsimp only at hsm
  refine Runs_fn (m := 112) (by kernel_rfl) Try.func9 rfl (by kernel_rfl) (by kernel_rfl) ?_
  repeat (
    first
      | refine W_seq ?_
      | refine W_region ?_
      | refine WO_dst rfl rfl (by kernel_rfl) (by kernel_rfl) ?_
      | refine Ev_load rfl rfl rfl b.at_ rfl b.l.self ?_
      | refine Ev_move rfl ?_
      | refine Ev_nilCheck rfl ?_
      | refine Ev_fieldAddr rfl rfl rfl rfl rfl rfl ?_)
  refine Ev_buildSlice rfl rfl rfl rfl rfl (afill_one hi.one) b.ok (by omega) ?_
  intro S1 n1 ok1 q1 f1
  have hlo1 : OwA S1 vl 25 1 (is.map It.v) is.length := b.lo.keep (fun c hc => f1 c (b.l.lt b.ok hc))
  have hone : [i.v].all AV.one = true := by simp [hi.one]
  have hnew1 : Rd S1 (.slice S.n 0 1 (.ex 1)) 1 [i.v] 1 := Rd_lit q1 rfl rfl
  repeat (
    refine WO_dst rfl rfl (by kernel_rfl) (by kernel_rfl) ?_)
  refine Ev_append_a rfl rfl rfl rfl rfl rfl rfl rfl rfl rfl hlo1 (by decide) hnew1 hone ok1 (by omega) (by dsimp only; omega) (by omega) ?_
  intro vl2 S2 n2 ok2 lo2 f2 hb2
  have hat2 : S2.h.get p = some (.cells 24 [vl, vw, .int .i64 h, .bool false] false) := by rw [f2 p b.lp (by omega), f1 p hpn]; exact b.at_
  repeat (
    first
      | refine WO_dst rfl rfl (by kernel_rfl) (by kernel_rfl) ?_
      | refine WO_no rfl rfl ?_
      | refine Ev_nilCheck rfl ?_
      | refine Ev_fieldAddr rfl rfl rfl rfl rfl rfl ?_)
  refine Ev_store rfl rfl rfl (by rw [(owa_cells1 lo2).1]; rfl) (by rw [(owa_cells1 lo2).1]; exact (owa_cells1 lo2).2) hat2 (by rw [(owa_cells1 lo2).1]; show 0 + 1 ≤ 4; omega) (by omega) ?_
  intro S3 n3 q3 f3
  have ok3 : Sok S3 := sok_upd ok2 (by omega) n3 q3 f3
  have e3 : lput [vl, vw, .int .i64 h, .bool false] 0 vl2.cells = [vl2, vw, .int .i64 h, .bool false] := by rw [(owa_cells1 lo2).1]; rfl
  have hat3 : S3.h.get p = some (.cells 24 [vl2, vw, .int .i64 h, .bool false] false) := q3.trans (congrArg (fun z => some (AB.cells 24 z false)) e3)
  have fr3 : ∀ c, c < S.n → c ≠ p → blkOf vl ≠ some c → S3.h.get c = S.h.get c := fun c h1 h2 h3 => by rw [f3 c h2, f2 c h3 (by omega), f1 c h1]
  have wo3 : OwA S3 vw 25 1 (is.map It.w) is.length := b.wo.keep (fun c hc => fr3 c (b.w.lt b.ok hc) (fun e => b.wp (by rw [hc, e])) (fun e => b.lw c e hc))
  have ird3 : Es S3 i.v i.cs := hird.keep (fun c hc => fr3 c (hird.lt b.ok hc) (hb c hc).1 (hb c hc).2.1)
  have lo3 : OwA S3 vl2 25 1 (is.map It.v ++ [i.v]) (is.length + 1) := lo2.keep (fun c hc => f3 c (fun e => by rw [hb2] at hc; cases hc; omega))
  have hD : ∀ f ∈ [(⟨p, .cells 24 [vl2, vw, .int .i64 h, .bool false] false, none⟩ : Fct)], S3.h.get f.id = some f.x := by
    intro f hf; rw [List.mem_singleton] at hf; subst hf; exact hat3
  repeat (
    first
      | refine W_seq ?_
      | refine WO_nil ?_
      | refine V_seq ?_)
  refine W_drawnZ 11 [⟨p, .cells 24 [vl2, vw, .int .i64 h, .bool false] false, none⟩] ?_ (by kernel_rfl) ?_
  · intro f hf; rw [List.mem_singleton] at hf; subst hf; exact ⟨rfl, by dsimp only; omega, hat3⟩
  repeat (
    first
      | refine WZ_pa rfl rfl (by kernel_rfl) (by kernel_rfl) rfl ?_
      | refine Ev_move rfl ?_
      | refine Ev_nilCheck rfl ?_
      | refine Ev_fieldAddr rfl rfl rfl rfl rfl rfl ?_)
  refine WZ_rf (by kernel_rfl) rfl rfl (by kernel_rfl) (by kernel_rfl) hD (FPD_load rfl rfl rfl (pt_of hat3) rfl (fun b hb => by cases hb; exact ⟨_, List.mem_cons_self .., rfl, hat3, fun j hj => by cases hj⟩)) wo3.rd.self ?_
  repeat (
    first
      | refine WZ_pa rfl rfl (by kernel_rfl) (by kernel_rfl) rfl ?_
      | refine Ev_move rfl ?_)
  refine WZ_ld rfl rfl (by kernel_rfl) (by kernel_rfl) (fun _ _ => rfl) ?_
  refine Ev_append (cs := []) (m := 0) rfl rfl rfl rfl rfl rfl rfl rfl rfl rfl (.inl ⟨rfl, rfl, rfl⟩) ird3 (cellsE_one _) ok3 (by omega) (by dsimp only; omega) (by omega) ?_
  intro w4 S4 le4 n4 ok4 ow4 f4 b4
  have hat4 : S4.h.get p = some (.cells 24 [vl2, vw, .int .i64 h, .bool false] false) := by rw [f4 p (by simp [blkOf]) (by omega)]; exact hat3
  have hD4 : ∀ f ∈ [(⟨p, .cells 24 [vl2, vw, .int .i64 h, .bool false] false, none⟩ : Fct)], S4.h.get f.id = some f.x := by
    intro f hf; rw [List.mem_singleton] at hf; subst hf; exact hat4
  have hone4 : AV.one w4 = true := by rcases ow4 with ⟨e, _⟩ | ⟨_, e, _⟩ <;> rw [e] <;> rfl
  have hb4 : ∀ c, blkOf w4 = some c → S3.n ≤ c := fun c hc => (b4 c hc).resolve_left (by simp [blkOf])
  refine ⟨fun _ => hD4, [], by simp, ?_⟩
  refine WZ_pa rfl rfl (by kernel_rfl) (by kernel_rfl) rfl ?_
  refine Ev_buildSlice rfl rfl rfl rfl rfl (afill_one hone4) ok4 (by omega) ?_
  intro S5 n5 ok5 q5 f5
  have wo5 : OwA S5 vw 25 1 (is.map It.w) is.length := wo3.keep (fun c hc => by rw [f5 c (by have := wo3.lt ok3 hc; omega), f4 c (by simp [blkOf]) (wo3.lt ok3 hc)])
  have hone5 : [w4].all AV.one = true := by simp [hone4]
  have hnew5 : Rd S5 (.slice S4.n 0 1 (.ex 1)) 1 [w4] 1 := Rd_lit q5 rfl rfl
  refine WZ_ld rfl rfl (by kernel_rfl) (by kernel_rfl) (fun _ _ => rfl) ?_
  refine Ev_append_a rfl rfl rfl rfl rfl rfl rfl rfl rfl rfl wo5 (by decide) hnew5 hone5 ok5 (by omega) (by dsimp only; omega) (by omega) ?_
  intro vw2 S6 n6 ok6 wo6 f6 hb6
  have hat5 : S5.h.get p = some (.cells 24 [vl2, vw, .int .i64 h, .bool false] false) := by rw [f5 p (by omega)]; exact hat4
  have hat6 : S6.h.get p = some (.cells 24 [vl2, vw, .int .i64 h, .bool false] false) := by rw [f6 p b.wp (by omega)]; exact hat5
  refine ⟨fun _ => fun f hf => (by rw [List.append_nil, List.mem_singleton] at hf; subst hf; exact hat6), [], by simp, ?_⟩
  repeat (
    first
      | refine WZ_pa rfl rfl (by kernel_rfl) (by kernel_rfl) rfl ?_
      | refine Ev_nilCheck rfl ?_
      | refine Ev_fieldAddr rfl rfl rfl rfl rfl rfl ?_)
  refine WZ_ld0 rfl rfl (fun _ _ => rfl) ?_
  refine Ev_store rfl rfl rfl (by rw [(owa_cells1 wo6).1]; rfl) (by rw [(owa_cells1 wo6).1]; exact (owa_cells1 wo6).2) hat6 (by rw [(owa_cells1 wo6).1]; show 1 + 1 ≤ 4; omega) (by omega) ?_
  intro S7 n7 q7 f7
  refine ⟨fun h => absurd h (by decide), [], by simp, ?_⟩
  have ok7 : Sok S7 := sok_upd ok6 (by omega) n7 q7 f7
  have e7 : lput [vl2, vw, .int .i64 h, .bool false] 1 vw2.cells = [vl2, vw2, .int .i64 h, .bool false] := by rw [(owa_cells1 wo6).1]; rfl
  have hat7 : S7.h.get p = some (.cells 24 [vl2, vw2, .int .i64 h, .bool false] false) := q7.trans (congrArg (fun z => some (AB.cells 24 z false)) e7)
  have fr7 : ∀ c, c < S.n → c ≠ p → blkOf vl ≠ some c → blkOf vw ≠ some c → S7.h.get c = S.h.get c := fun c h1 h2 h3 h4 => by rw [f7 c h2, f6 c h4 (by omega), f5 c (by omega), f4 c (by simp [blkOf]) (by omega), fr3 c h1 h2 h3]
  have b7 : Bk S7 p vl2 vw2 h (is ++ [{ i with w := w4 }]) := by
    have hlt4 : ∀ c, blkOf w4 = some c → c < S4.n := fun c hc => ow4.rd.lt ok4 hc
    have hivlt : ∀ c, blkOf i.v = some c → c < S.n := fun c hc => hird.lt b.ok hc
    refine ⟨ok7, hat7, ?_, ?_, ?_, ?_, ?_, ?_, ?_, ?_, by simp; omega⟩
    · rw [List.map_append, List.length_append]
      exact lo3.keep (fun c hc => by rw [hb2] at hc; cases hc; rw [f7 _ (by omega), f6 _ (fun e => by have := b.w.lt b.ok e; omega) (by omega), f5 _ (by omega), f4 _ (by simp [blkOf]) (by omega)])
    · rw [List.map_append, List.length_append]
      exact wo6.keep (fun c hc => by rw [hb6] at hc; cases hc; rw [f7 _ (by omega)])
    · intro j hj
      rw [List.mem_append] at hj
      rcases hj with hj | hj
      · exact (b.it j hj).keep (fun c hc => fr7 c ((b.it j hj).rd.lt b.ok hc) (b.ip j hj c (.inl hc)).1 (b.ip j hj c (.inl hc)).2.1 (b.ip j hj c (.inl hc)).2.2) (fun c hc => fr7 c ((b.it j hj).wr.lt b.ok hc) (b.ip j hj c (.inr hc)).1 (b.ip j hj c (.inr hc)).2.1 (b.ip j hj c (.inr hc)).2.2)
      · rw [List.mem_singleton] at hj; subst hj
        have h7 := hi.keep (U := S7) (fun c hc => fr7 c (hivlt c hc) (hb c hc).1 (hb c hc).2.1 (hb c hc).2.2.1) (fun c hc => fr7 c (hivlt c hc) (hb c hc).1 (hb c hc).2.1 (hb c hc).2.2.1)
        refine ⟨h7.kind, h7.lim, ?_, h7.small⟩
        have hw4 : Es S4 w4 i.cs := by have := ow4.rd; rw [List.nil_append, Nat.zero_add] at this; exact this
        exact hw4.keep (fun c hc => by have := hlt4 c hc; have := hb4 c hc; rw [f7 c (by omega), f6 c (fun e => by have := b.w.lt b.ok e; omega) (by omega), f5 c (by omega)])
    · rw [hb2]; intro e; cases e; omega
    · rw [hb6]; intro e; cases e; omega
    · intro c hc; rw [hb2] at hc; have hc2 := Option.some.inj hc; rw [hb6]; intro e; have e2 := Option.some.inj e; omega
    · intro j hj c hc
      rw [hb2, hb6]
      rw [List.mem_append] at hj
      rcases hj with hj | hj
      · have hlt : c < S.n := by
          rcases hc with hc | hc
          · exact (b.it j hj).rd.lt b.ok hc
          · exact (b.it j hj).wr.lt b.ok hc
        exact ⟨(b.ip j hj c hc).1, fun e => by cases e; omega, fun e => by cases e; omega⟩
      · rw [List.mem_singleton] at hj; subst hj
        rcases hc with hc | hc
        · have := hivlt c hc
          exact ⟨(hb c hc).1, fun e => by cases e; omega, fun e => by cases e; omega⟩
        · have := hlt4 c hc; have := hb4 c hc
          exact ⟨by omega, fun e => by cases e; omega, fun e => by cases e; omega⟩
    · intro j k x y c hj hk hne hx hy
      have key : ∀ (q : Nat) (z : It), (is ++ [{ i with w := w4 }])[q]? = some z → (is[q]? = some z ∧ q < is.length) ∨ (q = is.length ∧ z.v = i.v) := by
        intro q z hq
        by_cases hlt : q < is.length
        · rw [List.getElem?_append_left hlt] at hq; exact .inl ⟨hq, hlt⟩
        · have h2 := (List.getElem?_eq_some_iff.1 hq).1
          simp at h2
          have : q = is.length := by omega
          subst this
          simp at hq
          exact .inr ⟨rfl, by rw [← hq]⟩
      rcases key j x hj with ⟨h1, h2⟩ | ⟨h1, h2⟩ <;> rcases key k y hk with ⟨h3, h4⟩ | ⟨h3, h4⟩
      · exact b.dis j k x y c h1 h3 hne hx hy
      · rw [h4] at hy; exact (hb c hy).2.2.2 x (List.mem_of_getElem? h1) hx
      · rw [h2] at hx; exact (hb c hx).2.2.2 y (List.mem_of_getElem? h3) hy
      · omega
  have hi7 : ItOK S7 { i with w := w4 } := b7.it _ (by simp)
  repeat (
    first
      | refine WZ_nil ?_
      | refine W_seq ?_
      | refine V_seq ?_
      | refine W_region ?_
      | refine WO_dst rfl rfl (by kernel_rfl) (by kernel_rfl) ?_
      | refine Ev_load rfl rfl rfl b7.at_ rfl (veq_int _ _) ?_
      | refine Ev_cap_it (i := { i with w := w4 }) rfl rfl rfl rfl rfl hi7 ?_
      | refine Ev_move rfl ?_
      | refine Ev_nilCheck rfl ?_
      | refine Ev_fieldAddr rfl rfl rfl rfl rfl rfl ?_)
  refine Ev_addw rfl rfl ?_
  refine WO_dst rfl rfl (by kernel_rfl) (by kernel_rfl) ?_
  refine Ev_addw rfl rfl ?_
  repeat (
    first
      | refine WO_dst rfl rfl (by kernel_rfl) (by kernel_rfl) ?_
      | refine WO_no rfl rfl ?_
      | refine Ev_nilCheck rfl ?_
      | refine Ev_fieldAddr rfl rfl rfl rfl rfl rfl ?_)
  refine Ev_store rfl rfl rfl rfl rfl b7.at_ (by simp [AV.cells]) (by omega) ?_
  intro S8 n8 q8 f8
  have b8 := b7.held n8 q8 f8
  repeat (
    first
      | refine WO_nil ?_
      | refine V_seq ?_
      | refine W_block ?_)
  refine W_inv (fun _ : AV × AV × Int × List It => [(0, .ptr p 0), (1, i.v)]) (fun a T => Bk T p a.1 a.2.1 a.2.2.1 a.2.2.2 ∧ T.n = S8.n ∧ (∀ c, c ≠ p → T.h.get c = S8.h.get c) ∧ (∃ k, a.2.2.2 = (is ++ [{ i with w := w4 }]).drop k ∧ k ≤ is.length) ∧ blkOf a.1 = some S1.n ∧ blkOf a.2.1 = some S5.n) (fun a => a.2.2.2.length) ?_ (vl2, vw2, _, is ++ [{ i with w := w4 }]) ⟨b8, rfl, fun _ _ => rfl, ⟨0, rfl, Nat.zero_le _⟩, hb2, hb6⟩ ⟨rfl, rfl, trivial⟩
  rintro ⟨ul, uw, uh, us⟩ T ⟨hb', hTn, hTf, ⟨k, hk, hkl⟩, hbl, hbw⟩ back
  dsimp only at hb' hk hbl hbw back
  have hend : Kp S T p vl vw i is := by
    refine ⟨⟨ul, uw, uh, w4, k, by rw [← hk]; exact hb', hkl, fun c hc => by rw [hbl] at hc; cases hc; omega, fun c hc => by rw [hbw] at hc; cases hc; omega, fun c hc => by have := hb4 c hc; omega⟩, by omega, by omega, fun c h1 h2 h3 h4 => by rw [hTf c h2, f8 c h2, fr7 c h1 h2 h3 h4]⟩
  have hpn' := hb'.ok _ _ hb'.at_
  have hfew := hb'.few
  repeat' (
    first
      | refine W_seq ?_
      | refine WO_nil ?_
      | refine V_seq ?_
      | refine W_region ?_
      | refine W_skip ?_
      | refine W_block ?_
      | refine W_exit ?_
      | refine V_block_x rfl ?_
      | refine V_seq_x ?_
      | refine V_loop_x ?_
      | refine W_cond_t rfl ?_
      | refine W_cond_f rfl ?_
      | refine WO_dst rfl rfl (by kernel_rfl) (by kernel_rfl) ?_
      | refine WO_guard_t rfl rfl rfl rfl rfl (by kernel_rfl) (by kernel_rfl) ?_
      | refine WO_guard_f rfl rfl rfl rfl rfl rfl (by kernel_rfl) (by kernel_rfl) ?_
      | refine WO_guard_x rfl rfl rfl rfl rfl (by kernel_rfl) (by kernel_rfl) ?_
      | refine Ev_load rfl rfl rfl hb'.at_ rfl hb'.l.self ?_
      | refine Ev_load rfl rfl rfl hb'.at_ rfl (veq_int _ _) ?_
      | refine Ev_len rfl rfl rfl rfl rfl hb'.l.len ?_
      | refine Ev_move rfl ?_
      | refine Ev_pick_t rfl rfl rfl ?_
      | refine Ev_pick_f rfl rfl rfl ?_
      | refine Ev_gtrN rfl rfl ?_
      | refine Ev_gtr rfl rfl ?_
      | refine Ev_nilCheck rfl ?_
      | refine Ev_fieldAddr rfl rfl rfl rfl rfl rfl ?_
      | (refine WO_guard_dt rfl rfl rfl rfl rfl (by kernel_rfl) (by kernel_rfl) (fun hg => ?_) (fun hg => ?_) <;> (try dsimp only at hg) <;> try (exfalso; first | omega | exact hg rfl))
      | (refine WO_guard_df rfl rfl rfl rfl rfl (by kernel_rfl) (by kernel_rfl) (fun hg => ?_) (fun hg => ?_) <;> (try dsimp only at hg) <;> try (exfalso; first | omega | exact hg rfl))
      | (refine W_cond rfl (fun hc => ?_) (fun hc => ?_) <;> (try dsimp only at hc) <;> try (exfalso; first | omega | exact hc rfl)))
  · refine V_done rfl rfl ?_
    exact hend
  · have h1l : 1 < us.length := by assumption
    have hit0 := hb'.it _ (List.getElem_mem (show 0 < us.length by omega))
    have hs0 := hit0.small
    refine W_drawn (by kernel_rfl) ?_
    repeat' (
      first
        | refine WO_dst rfl rfl (by kernel_rfl) (by kernel_rfl) ?_
        | refine WO_guard_t rfl rfl rfl rfl rfl (by kernel_rfl) (by kernel_rfl) ?_
        | refine Ev_load rfl rfl rfl hb'.at_ rfl hb'.l.self ?_
        | refine Ev_load rfl rfl rfl hb'.at_ rfl (show veq (.bool false) (.bool false) = true from rfl) ?_
        | refine Ev_move rfl ?_
        | refine Ev_nilCheck rfl ?_
        | refine Ev_fieldAddr rfl rfl rfl rfl rfl rfl ?_)
    refine Ev_indexAddr_rd (i := 0) rfl rfl rfl rfl rfl hb'.l (by omega) ?_
    intro q hq
    repeat (
      first
        | refine WO_dst rfl rfl (by kernel_rfl) (by kernel_rfl) ?_
        | refine WO_guard_t rfl rfl rfl rfl rfl (by kernel_rfl) (by kernel_rfl) ?_)
    refine Ev_load_pt rfl rfl rfl hq (map_get (show 0 < us.length by omega)) hit0.rd.self ?_
    repeat (
      first
        | refine WO_dst rfl rfl (by kernel_rfl) (by kernel_rfl) ?_
        | refine WO_guard_t rfl rfl rfl rfl rfl (by kernel_rfl) (by kernel_rfl) ?_
        | refine Ev_load rfl rfl rfl hb'.at_ rfl hb'.w.self ?_
        | refine Ev_move rfl ?_
        | refine Ev_nilCheck rfl ?_
        | refine Ev_fieldAddr rfl rfl rfl rfl rfl rfl ?_)
    refine Ev_indexAddr_rd (i := 0) rfl rfl rfl rfl rfl hb'.w (by omega) ?_
    intro q2 hq2
    repeat (
      first
        | refine WO_dst rfl rfl (by kernel_rfl) (by kernel_rfl) ?_
        | refine WO_guard_t rfl rfl rfl rfl rfl (by kernel_rfl) (by kernel_rfl) ?_)
    refine Ev_load_pt rfl rfl rfl hq2 (map_get (show 0 < us.length by omega)) hit0.wr.self ?_
    repeat (
      first
        | refine WO_dst rfl rfl (by kernel_rfl) (by kernel_rfl) ?_
        | refine WO_guard_t rfl rfl rfl rfl rfl (by kernel_rfl) (by kernel_rfl) ?_)
    refine Ev_call rfl rfl ((esame_runs hit0.rd hit0.wr ⟨by omega, by omega⟩).mono ?_)
    rintro _ T2 - ⟨rfl, hT2⟩
    rw [hT2, decide_eq_true rfl]
    repeat' (
      first
        | refine WO_dst rfl rfl (by kernel_rfl) (by kernel_rfl) ?_
        | refine WO_no rfl rfl ?_
        | refine WO_guard_t rfl rfl rfl rfl rfl (by kernel_rfl) (by kernel_rfl) ?_
        | refine Ev_pick_f rfl rfl rfl ?_
        | refine Ev_notb rfl ?_
        | refine Ev_nilCheck rfl ?_
        | refine Ev_fieldAddr rfl rfl rfl rfl rfl rfl ?_)
    refine Ev_store rfl rfl rfl rfl rfl hb'.at_ (by simp [AV.cells]) (by omega) ?_
    intro U1 un1 uq1 uf1
    have c1 := hb'.held (h' := uh) un1 uq1 uf1
    repeat (
      first
        | refine W_seq ?_
        | refine WO_nil ?_
        | refine V_seq ?_)
    refine W_drawn (by kernel_rfl) ?_
    repeat (
      first
        | refine WO_dst rfl rfl (by kernel_rfl) (by kernel_rfl) ?_
        | refine Ev_load rfl rfl rfl c1.at_ rfl c1.l.self ?_
        | refine Ev_load rfl rfl rfl c1.at_ rfl (veq_int _ _) ?_
        | refine Ev_move rfl ?_
        | refine Ev_nilCheck rfl ?_
        | refine Ev_fieldAddr rfl rfl rfl rfl rfl rfl ?_)
    refine Ev_indexAddr_rd (i := 0) rfl rfl rfl rfl rfl c1.l (by omega) ?_
    intro q3 hq3
    repeat (
      refine WO_dst rfl rfl (by kernel_rfl) (by kernel_rfl) ?_)
    refine Ev_load_pt rfl rfl rfl hq3 (map_get (show 0 < us.length by omega)) hit0.rd.self ?_
    repeat (
      first
        | refine WO_dst rfl rfl (by kernel_rfl) (by kernel_rfl) ?_
        | refine Ev_cap_it (i := us[0]) rfl rfl rfl rfl rfl hit0 ?_)
    refine Ev_subw rfl rfl ?_
    refine WO_dst rfl rfl (by kernel_rfl) (by kernel_rfl) ?_
    refine Ev_subw rfl rfl ?_
    repeat (
      first
        | refine WO_dst rfl rfl (by kernel_rfl) (by kernel_rfl) ?_
        | refine WO_no rfl rfl ?_
        | refine Ev_nilCheck rfl ?_
        | refine Ev_fieldAddr rfl rfl rfl rfl rfl rfl ?_)
    refine Ev_store rfl rfl rfl rfl rfl c1.at_ (by simp [AV.cells]) (by omega) ?_
    intro U2 un2 uq2 uf2
    obtain ⟨h2, c2⟩ : ∃ h2, Bk U2 p ul uw h2 us := ⟨_, c1.held un2 uq2 uf2⟩
    repeat (
      first
        | refine W_seq ?_
        | refine WO_nil ?_
        | refine V_seq ?_
        | refine W_region ?_
        | refine WO_dst rfl rfl (by kernel_rfl) (by kernel_rfl) ?_
        | refine Ev_load rfl rfl rfl c2.at_ rfl c2.l.self ?_
        | refine Ev_move rfl ?_
        | refine Ev_nilCheck rfl ?_
        | refine Ev_fieldAddr rfl rfl rfl rfl rfl rfl ?_)
    refine Ev_slice_a (lo := 1) rfl rfl rfl rfl rfl c2.lo h1l ?_
    intro xl hxl hxlb
    repeat (
      first
        | refine WO_dst rfl rfl (by kernel_rfl) (by kernel_rfl) ?_
        | refine WO_no rfl rfl ?_
        | refine Ev_nilCheck rfl ?_
        | refine Ev_fieldAddr rfl rfl rfl rfl rfl rfl ?_)
    refine Ev_store rfl rfl rfl (by rw [(owa_cells1 hxl).1]; rfl) (by rw [(owa_cells1 hxl).1]; exact (owa_cells1 hxl).2) c2.at_ (by rw [(owa_cells1 hxl).1]; show 0 + 1 ≤ 4; omega) (by omega) ?_
    intro U3 un3 uq3 uf3
    have at3 : U3.h.get p = some (.cells 24 [xl, uw, .int .i64 h2, .bool false] false) := uq3.trans (congrArg (fun z => some (AB.cells 24 z false)) (by rw [(owa_cells1 hxl).1]; rfl))
    have wo3' : OwA U3 uw 25 1 (us.map It.w) us.length := c2.wo.keep (fun c hc => uf3 c (fun e => c2.wp (by rw [hc, e])))
    repeat (
      first
        | refine WO_nil ?_
        | refine V_seq ?_
        | refine W_region ?_
        | refine WO_dst rfl rfl (by kernel_rfl) (by kernel_rfl) ?_
        | refine Ev_load rfl rfl rfl at3 rfl wo3'.rd.self ?_
        | refine Ev_move rfl ?_
        | refine Ev_nilCheck rfl ?_
        | refine Ev_fieldAddr rfl rfl rfl rfl rfl rfl ?_)
    refine Ev_slice_a (lo := 1) rfl rfl rfl rfl rfl wo3' h1l ?_
    intro xw hxw hxwb
    repeat (
      first
        | refine WO_dst rfl rfl (by kernel_rfl) (by kernel_rfl) ?_
        | refine WO_no rfl rfl ?_
        | refine Ev_nilCheck rfl ?_
        | refine Ev_fieldAddr rfl rfl rfl rfl rfl rfl ?_)
    refine Ev_store rfl rfl rfl (by rw [(owa_cells1 hxw).1]; rfl) (by rw [(owa_cells1 hxw).1]; exact (owa_cells1 hxw).2) at3 (by rw [(owa_cells1 hxw).1]; show 1 + 1 ≤ 4; omega) (by omega) ?_
    intro U4 un4 uq4 uf4
    have at4 : U4.h.get p = some (.cells 24 [xl, xw, .int .i64 h2, .bool false] false) := uq4.trans (congrArg (fun z => some (AB.cells 24 z false)) (by rw [(owa_cells1 hxw).1]; rfl))
    have f24 : ∀ c, c ≠ p → U4.h.get c = U2.h.get c := fun c hc => by rw [uf4 c hc, uf3 c hc]
    have ok4' : Sok U4 := sok_upd (sok_upd c2.ok (by omega) un3 at3 uf3) (by omega) un4 at4 uf4
    have c4 : Bk U4 p xl xw h2 (us.drop 1) := c2.drop1 ok4' at4 (hxl.keep (fun c hc => f24 c (fun e => c2.lp (by rw [← hxlb, hc, e])))) (hxw.keep (fun c hc => uf4 c (fun e => c2.wp (by rw [← hxwb, hc, e])))) hxlb hxwb f24
    repeat (
      first
        | refine WO_nil ?_
        | refine V_block ?_)
    have hkk := congrArg List.length hk
    simp at hkk
    refine back (xl, xw, h2, us.drop 1) U4 _ (by dsimp only; rw [List.length_drop]; omega) ⟨c4, by omega, fun c hc => by rw [f24 c hc, uf2 c hc, uf1 c hc, hTf c hc], ⟨k + 1, by dsimp only; rw [hk, List.drop_drop], by omega⟩, hxlb.trans hbl, hxwb.trans hbw⟩ ⟨rfl, rfl, trivial⟩
  · refine V_done rfl rfl ?_
    exact hend
end Go.Proofs.Ytdhfjkikoiifcaa
/- Keeping a list whose capacity the run chooses. (NODRAWN) -/


namespace Go.Proofs.Ytdhfjkikoiifcaa
open GX
set_option maxHeartbeats 16000000
set_option maxRecDepth 100000
theorem known_true2 {S : St} {R : AV → St → Prop} (h : R (.bool true) S) : Runs X2 12 [] S R := Runs_ext (g := extTrue) rfl rfl (Nat.le_refl _) h
/-- a book knows nothing of a block -/
structure Fre (p : Nat) (vl vw : AV) (is : List It) (b : Nat) : Prop where
  p : b ≠ p
  l : blkOf vl ≠ some b
  w : blkOf vw ≠ some b
  it : ∀ j ∈ is, blkOf j.v ≠ some b ∧ blkOf j.w ≠ some b
theorem Bk.lts {T : St} {p : Nat} {vl vw : AV} {h : Int} {is : List It} (b : Bk T p vl vw h is) : p < T.n ∧ (∀ c, blkOf vl = some c → c < T.n) ∧ (∀ c, blkOf vw = some c → c < T.n) ∧ ∀ j ∈ is, ∀ c, blkOf j.v = some c ∨ blkOf j.w = some c → c < T.n :=
  ⟨b.ok _ _ b.at_, fun _ hc => b.l.lt b.ok hc, fun _ hc => b.w.lt b.ok hc, fun j hj _ hc => hc.elim (fun hc => (b.it j hj).rd.lt b.ok hc) (fun hc => (b.it j hj).wr.lt b.ok hc)⟩
/-- a block that is new is unknown to a book -/
theorem Bk.fre {T : St} {p : Nat} {vl vw : AV} {h : Int} {is : List It} (b : Bk T p vl vw h is) {c : Nat} (hc : T.n ≤ c) : Fre p vl vw is c := by
  obtain ⟨h1, h2, h3, h4⟩ := b.lts
  refine ⟨by omega, fun e => by have := h2 _ e; omega, fun e => by have := h3 _ e; omega, fun j hj => ⟨fun e => by have := h4 j hj _ (.inl e); omega, fun e => by have := h4 j hj _ (.inr e); omega⟩⟩
/-- what a book does not know may change -/
theorem Bk.other {T U : St} {p : Nat} {vl vw : AV} {h : Int} {is : List It} (b : Bk T p vl vw h is) (hok : Sok U) (hf : ∀ c, c < T.n → ¬ Fre p vl vw is c → U.h.get c = T.h.get c) : Bk U p vl vw h is := by
  obtain ⟨h1, h2, h3, h4⟩ := b.lts
  exact ⟨hok, by rw [hf p h1 (fun f => f.p rfl)]; exact b.at_, b.lo.keep (fun c hc => hf c (h2 c hc) (fun f => f.l hc)), b.wo.keep (fun c hc => hf c (h3 c hc) (fun f => f.w hc)),
    fun i hi => (b.it i hi).keep (fun c hc => hf c (h4 i hi c (.inl hc)) (fun f => (f.it i hi).1 hc)) (fun c hc => hf c (h4 i hi c (.inr hc)) (fun f => (f.it i hi).2 hc)), b.lp, b.wp, b.lw, b.ip, b.dis, b.few⟩
theorem Bk.far {T U : St} {p : Nat} {vl vw : AV} {h : Int} {is : List It} (b : Bk T p vl vw h is) (hok : Sok U) (hf : ∀ c, c < T.n → U.h.get c = T.h.get c) : Bk U p vl vw h is := b.other hok fun c hc _ => hf c hc
theorem Bk.new {T : St} {p : Nat} (hok : Sok T) (hat : T.h.get p = some (.cells 24 [.nils, .nils, .int .i64 0, .bool false] false)) : Bk T p .nils .nils 0 [] :=
  ⟨hok, hat, .inl ⟨rfl, rfl, rfl⟩, .inl ⟨rfl, rfl, rfl⟩, fun i hi => (by cases hi), by simp [blkOf], by simp [blkOf], by simp [blkOf], fun i hi => (by cases hi), fun j k a b c h => (by simp at h), by simp⟩
/-- a list that can be kept: its own block, whose capacity the run chooses, or is known; or an empty one -/
def Kz (S : St) (v : AV) (cs : List El) : Prop :=
  Own S v 9 1 (cellsE cs) cs.length ∨ (cs = [] ∧ ∃ b o, v = .slice b o 0 (.ex 0) ∧ Es S v []) ∨ ∃ b k extra, v = .slice b 0 cs.length (.ex k) ∧ S.h.get b = some (.cells 9 (cellsE cs ++ extra) true) ∧ cs.length ≤ k ∧ k ≤ cs.length + extra.length ∧ k < 9223372036854775808
theorem ex_rd {S : St} {b k : Nat} {cs : List El} {extra : List AV} (h1 : S.h.get b = some (.cells 9 (cellsE cs ++ extra) true)) (h2 : cs.length ≤ k) : Es S (.slice b 0 cs.length (.ex k)) cs := by
  refine ⟨?_, veq_slice _ _ _ _, rfl, rfl, ?_, by rw [cellsE_len]; omega⟩
  · show Nat.ble cs.length k = true
    rw [nble]; exact decide_eq_true (by omega)
  · unfold srcCells row; dsimp only; rw [h1]; dsimp only
    rw [nble, decide_eq_true (by rw [List.length_append, cellsE_len]; omega)]
    simp only [cond_true, List.drop_zero]
    rw [List.take_append_of_le_length (by rw [cellsE_len]; omega), List.take_of_length_le (by rw [cellsE_len]; omega)]
theorem Kz.rd {S : St} {v : AV} {cs : List El} (h : Kz S v cs) : Es S v cs := by
  rcases h with h | ⟨rfl, b, o, _, h⟩ | ⟨b, k, extra, rfl, h1, h2, h3, _⟩
  · exact h.rd
  · exact h
  · exact ex_rd h1 h2
theorem Kz.keep {S S' : St} {v : AV} {cs : List El} (h : Kz S v cs) (hk : ∀ b, blkOf v = some b → S'.h.get b = S.h.get b) : Kz S' v cs := by
  rcases h with h | ⟨e, b, o, e2, h⟩ | ⟨b, k, extra, rfl, h1, h2⟩
  · exact .inl (h.keep hk)
  · exact .inr (.inl ⟨e, b, o, e2, h.keep hk⟩)
  · exact .inr (.inr ⟨b, k, extra, rfl, by rw [hk b rfl]; exact h1, h2⟩)
theorem Kz.of {S : St} {v : AV} {cs : List El} (h : Gz S v 9 1 (cellsE cs) cs.length) : Kz S v cs := by
  rcases h with h | ⟨h1, h2, b, o, h3, h4⟩
  · exact .inl h
  · have : cs = [] := List.eq_nil_of_length_eq_zero h1
    subst this
    exact .inr (.inl ⟨rfl, b, o, h3, h4⟩)
theorem Kz.nil {S : St} : Kz S .nils [] := .inl (.inl ⟨rfl, rfl, rfl⟩)
section
variable [Val] {P : Go.Program} {X : X} {n : Nat} {ks : List Kt} {Q : Ex → Env → St → Prop} {l : L} {S : St} {all os : List Go.Oper}
/-- the capacity of a list becomes known -/
theorem SWO_it {d : Nat} {v : AV} {cs : List El} (hl : lk l d = some v) (hz : Kz S v cs) (hs : cs.length ≤ 100000) (hok : Sok S) (hdn : Nat.blt d n = true) (hn' : Nat.blt n 1000001 = true)
    (h : ∀ it S', it.w = it.v → blkOf it.v = blkOf v → ItOK S' it → Sok S' → S'.n = S.n → (∀ y, blkOf v ≠ some y → S'.h.get y = S.h.get y) → SWO P n all os ks Q ((d, it.v) :: l) S') : SWO P n all os ks Q l S := by
  have weak : SWO P n all os ks Q ((d, v) :: l) S → SWO P n all os ks Q l S := by
    intro g
    unfold SWO at g ⊢
    exact fun e φ A w R i he hA hL ho => g e φ A w R i (fun t x hx => by
      unfold lk at hx
      rw [nbeq, cond_dec] at hx
      split at hx
      · rename_i e1; subst e1; cases hx; exact he _ _ hl
      · exact he t x hx) hA hL ho
  rcases hz with (⟨rfl, h2, h3⟩ | ⟨b, rfl, hb, hlen⟩) | ⟨rfl, b, o, rfl, h2⟩ | ⟨b, k, extra, rfl, h1, h2, h3, h4⟩
  · refine weak (h ⟨.nils, 0, [], [], .nils⟩ S rfl rfl ⟨.inr ⟨rfl, rfl, .inl rfl⟩, by decide, ⟨rfl, rfl, rfl, rfl, rfl, rfl⟩, Nat.zero_le _⟩ hok rfl fun _ _ => rfl)
  · refine SWO_cap hl hb hdn hn' ?_
    intro cp extra S' k1 k2 k3 k4 k5 k6
    have hl2 := cellsE_len cs
    refine h ⟨.slice b 0 cs.length (.ex cp), cp, cs, extra, .slice b 0 cs.length (.ex cp)⟩ S' rfl rfl ⟨.inl ⟨b, rfl, k5, k1, by dsimp only; omega⟩, k2, ex_rd k5 k1, hs⟩ (sok_upd hok (hok _ _ hb) k4 k5 k6) k4 (fun y hy => k6 y (fun e => hy (by rw [e]; rfl)))
  · refine weak (h ⟨.slice b o 0 (.ex 0), 0, [], [], .slice b o 0 (.ex 0)⟩ S rfl rfl ⟨.inr ⟨rfl, rfl, .inr ⟨b, o, rfl, h2⟩⟩, (by show 0 < _; decide), h2, Nat.zero_le _⟩ hok rfl fun _ _ => rfl)
  · refine weak (h ⟨.slice b 0 cs.length (.ex k), k, cs, extra, .slice b 0 cs.length (.ex k)⟩ S rfl rfl ⟨.inl ⟨b, rfl, h1, h2, h3⟩, h4, ex_rd h1 h2, hs⟩ hok rfl fun _ _ => rfl)
end
/-- a book, and what is going to be kept in it -/
structure Pd (T : St) (p : Nat) (is : List It) (ps : List (AV × List El)) (m : Nat) : Prop where
  ex : ∃ vl vw h, Bk T p vl vw h is ∧ ∀ x ∈ ps, ∀ c, blkOf x.1 = some c → Fre p vl vw is c
  few : is.length ≤ m
  kz : ∀ x ∈ ps, Kz T x.1 x.2 ∧ x.2.length ≤ 100000
  dis : ps.Pairwise fun x y => ∀ c, blkOf x.1 = some c → blkOf y.1 ≠ some c
theorem Pd.ok {T : St} {p : Nat} {is : List It} {ps : List (AV × List El)} {m : Nat} (h : Pd T p is ps m) : Sok T := by
  obtain ⟨_, _, _, hb, _⟩ := h.ex
  exact hb.ok
/-- the first of what is going to be kept is looked at -/
theorem Pd.cap {T U : St} {p : Nat} {is : List It} {v : AV} {cs : List El} {ps : List (AV × List El)} {m : Nat} {it : It} (h : Pd T p is ((v, cs) :: ps) m) (_ : it.w = it.v) (hv : blkOf it.v = blkOf v) (_ : ItOK U it) (hok : Sok U) (hf : ∀ y, blkOf v ≠ some y → U.h.get y = T.h.get y) :
    Pd U p is ps m ∧ (∀ c, blkOf it.v = some c → ∀ x ∈ ps, blkOf x.1 ≠ some c) ∧ ∃ vl vw h, Bk U p vl vw h is ∧ (∀ x ∈ ps, ∀ c, blkOf x.1 = some c → Fre p vl vw is c) ∧ ∀ c, blkOf it.v = some c → Fre p vl vw is c := by
  obtain ⟨vl, vw, hh, hb, hfr⟩ := h.ex
  obtain ⟨hd1, hd2⟩ := List.pairwise_cons.1 h.dis
  have hb2 : Bk U p vl vw hh is := hb.other hok fun c _ hc => hf c (fun e => hc (hfr _ (List.mem_cons_self ..) c e))
  have hfr2 : ∀ x ∈ ps, ∀ c, blkOf x.1 = some c → Fre p vl vw is c := fun x hx => hfr x (List.mem_cons_of_mem _ hx)
  refine ⟨⟨⟨vl, vw, hh, hb2, hfr2⟩, h.few, fun x hx => ?_, hd2⟩, fun c hc x hx => hd1 x hx c (by rw [← hv]; exact hc), vl, vw, hh, hb2, hfr2, fun c hc => hfr _ (List.mem_cons_self ..) c (by rw [← hv]; exact hc)⟩
  obtain ⟨k1, k2⟩ := h.kz x (List.mem_cons_of_mem _ hx)
  exact ⟨k1.keep (fun c hc => hf c (fun e => hd1 x hx c e hc)), k2⟩
/-- KEEP: the first of what is going to be kept is kept -/
theorem keep_pd {T : St} {p : Nat} {is : List It} {ps : List (AV × List El)} {m : Nat} {it : It} {vl vw : AV} {h : Int} (hp : Pd T p is ps m) (hdis : ∀ c, blkOf it.v = some c → ∀ x ∈ ps, blkOf x.1 ≠ some c) (hb : Bk T p vl vw h is) (hfr : ∀ x ∈ ps, ∀ c, blkOf x.1 = some c → Fre p vl vw is c)
    (hfi : ∀ c, blkOf it.v = some c → Fre p vl vw is c) (hw : it.w = it.v) (hi : ItOK T it) (hm : m ≤ 800) (hn : T.n ≤ 800000000) :
    Runs X2 9 [.ptr p 0, it.v] T fun _ U => (∃ is', Pd U p is' ps (m + 1)) ∧ T.n ≤ U.n ∧ U.n ≤ T.n + 10 := by
  have hi2 : ItOK T { it with w := it.v } := by
    have e : { it with w := it.v } = it := by cases it; dsimp only at hw; subst hw; rfl
    rw [e]; exact hi
  have hfew := hp.few
  refine (keep_runs hb hi2 (fun c hc => ⟨(hfi c hc).p, (hfi c hc).l, (hfi c hc).w, fun j hj => ((hfi c hc).it j hj).1⟩) (by omega) (by omega)).mono ?_
  rintro _ U - ⟨⟨vl', vw', h', w, k, hb', hk, hl1, hl2, hl3⟩, g1, g2, g3⟩
  have hlt : ∀ x ∈ ps, ∀ c, blkOf x.1 = some c → c < T.n := fun x hx c hc => (hp.kz x hx).1.rd.lt hb.ok hc
  refine ⟨⟨_, ⟨⟨vl', vw', h', hb', fun x hx c hc => ?_⟩, ?_, fun x hx => ?_, hp.dis⟩⟩, g1, g2⟩
  · have hc2 := hlt x hx c hc
    have hf := hfr x hx c hc
    refine ⟨hf.p, fun e => by have := hl1 c e; omega, fun e => by have := hl2 c e; omega, fun j hj => ?_⟩
    have hj2 := List.mem_of_mem_drop hj
    rcases List.mem_append.1 hj2 with hj3 | hj3
    · exact hf.it j hj3
    · rw [List.mem_singleton] at hj3; subst hj3
      exact ⟨fun e => hdis c e x hx hc, fun e => by have := hl3 c e; omega⟩
  · rw [List.length_drop, List.length_append, List.length_singleton]; omega
  · obtain ⟨k1, k2⟩ := hp.kz x hx
    exact ⟨k1.keep (fun c hc => g3 c (hlt x hx c hc) (hfr x hx c hc).p (hfr x hx c hc).l (hfr x hx c hc).w), k2⟩
/-- new memory, nothing else -/
theorem Pd.far {T U : St} {p : Nat} {is : List It} {m : Nat} (h : Pd T p is [] m) (hok : Sok U) (hf : ∀ c, c < T.n → U.h.get c = T.h.get c) : Pd U p is [] m := by
  obtain ⟨vl, vw, hh, hb, _⟩ := h.ex
  exact ⟨⟨vl, vw, hh, hb.far hok hf, fun x hx => by cases hx⟩, h.few, fun x hx => (by cases hx), .nil⟩
/-- lists in new memory are going to be kept -/
theorem Pd.more {T U : St} {p : Nat} {is : List It} {m : Nat} {ps : List (AV × List El)} (h : Pd T p is [] m) (hok : Sok U) (hf : ∀ c, c < T.n → U.h.get c = T.h.get c) (hz : ∀ x ∈ ps, Kz U x.1 x.2 ∧ x.2.length ≤ 100000) (hn : ∀ x ∈ ps, ∀ c, blkOf x.1 = some c → T.n ≤ c) (hd : ps.Pairwise fun x y => ∀ c, blkOf x.1 = some c → blkOf y.1 ≠ some c) : Pd U p is ps m := by
  obtain ⟨vl, vw, hh, hb, _⟩ := h.ex
  exact ⟨⟨vl, vw, hh, hb.far hok hf, fun x hx c hc => hb.fre (hn x hx c hc)⟩, h.few, hz, hd⟩
theorem Pd.start {T : St} {p : Nat} (hok : Sok T) (hat : T.h.get p = some (.cells 24 [.nils, .nils, .int .i64 0, .bool false] false)) : Pd T p [] [] 0 :=
  ⟨⟨_, _, _, Bk.new hok hat, fun x hx => by cases hx⟩, Nat.le_refl _, fun x hx => (by cases hx), .nil⟩
theorem apart_pd {S : St} {p : Nat} {is : List It} {m : Nat} (h : Pd S p is [] m) (hn : S.n ≤ 900000000) : Runs X2 10 [.ptr p 0, .func (.func 11) [] []] S fun r _ => r = .bool true := by
  obtain ⟨vl, vw, hh, hb, _⟩ := h.ex
  exact apart_runs hb hn
end Go.Proofs.Ytdhfjkikoiifcaa
/- strings' prefixes and suffixes; caraferef2.Name, descr.Name. -/



namespace Go.Proofs.Ytdhfjkikoiifcaa
open GX
set_option maxHeartbeats 8000000
theorem hasp_runs {S : St} {s p : List Nat} : Runs X1 38 [.str s, .str p] S fun v S' => S' = S ∧ v = .bool (decide (s.take p.length = p)) := by
  refine Runs_fn (m := 18) (by kernel_rfl) Try.func38 rfl (by kernel_rfl) (by kernel_rfl) ?_
  repeat' (
    first
      | refine W_seq ?_
      | refine WO_nil ?_
      | refine V_seq ?_
      | refine W_region ?_
      | refine W_ret ?_
      | refine WO_dst rfl rfl (by kernel_rfl) (by kernel_rfl) ?_
      | refine WO_guard_t rfl rfl rfl rfl rfl (by kernel_rfl) (by kernel_rfl) ?_
      | refine WO_guard_f rfl rfl rfl rfl rfl rfl (by kernel_rfl) (by kernel_rfl) ?_
      | refine Ev_slice_str (lo' := none) (hi' := some (.int .i64 ((p.length : Nat) : Int))) (mx' := none) rfl rfl rfl rfl rfl rfl (str_hi (by omega)) ?_
      | refine Ev_move rfl ?_
      | refine Ev_assign rfl ?_
      | refine Ev_pick_t rfl rfl rfl ?_
      | refine Ev_pick_f rfl rfl rfl ?_
      | refine Ev_geqN rfl rfl ?_
      | refine Ev_seql rfl rfl ?_
      | refine Ev_len_str rfl rfl rfl rfl rfl ?_
      | (refine WO_guard_dt rfl rfl rfl rfl rfl (by kernel_rfl) (by kernel_rfl) (fun hg => ?_) (fun hg => ?_) <;> (try dsimp only at hg) <;> try (exfalso; first | omega | exact hg rfl)))
  · refine V_done rfl rfl ?_
    exact ⟨rfl, rfl⟩
  · refine V_done rfl rfl ?_
    refine ⟨rfl, ?_⟩
    rw [decide_eq_false]; rfl
    intro h
    have := congrArg List.length h
    rw [List.length_take] at this; omega
theorem shasp_runs {S : St} {s p : List Nat} : Runs X1 31 [.str s, .str p] S fun v S' => S' = S ∧ v = .bool (decide (s.take p.length = p)) := by
  refine Runs_fn (m := 8) (by kernel_rfl) Try.func31 rfl (by kernel_rfl) (by kernel_rfl) ?_
  repeat (
    first
      | refine W_seq ?_
      | refine WO_nil ?_
      | refine V_seq ?_
      | refine W_region ?_
      | refine WO_dst rfl rfl (by kernel_rfl) (by kernel_rfl) ?_
      | refine Ev_move rfl ?_
      | refine Ev_assign rfl ?_)
  refine Ev_call rfl rfl (hasp_runs.mono ?_)
  rintro _ _ - ⟨rfl, rfl⟩
  repeat (
    first
      | refine WO_nil ?_
      | refine V_seq ?_
      | refine W_ret ?_
      | refine WO_dst rfl rfl (by kernel_rfl) (by kernel_rfl) ?_
      | refine Ev_assign rfl ?_)
  refine V_done rfl rfl ?_
  exact ⟨rfl, rfl⟩
def trimP (s p : List Nat) : List Nat := if s.take p.length = p then s.drop p.length else s
theorem take_le {s p : List Nat} (h : s.take p.length = p) : p.length ≤ s.length := by
  have := congrArg List.length h
  rw [List.length_take] at this; omega
theorem trimp_runs {S : St} {s p : List Nat} : Runs X1 37 [.str s, .str p] S fun v S' => S' = S ∧ v = .str (trimP s p) := by
  refine Runs_fn (m := 13) (by kernel_rfl) Try.func37 rfl (by kernel_rfl) (by kernel_rfl) ?_
  repeat (
    first
      | refine W_seq ?_
      | refine WO_nil ?_
      | refine V_seq ?_
      | refine W_region ?_
      | refine WO_dst rfl rfl (by kernel_rfl) (by kernel_rfl) ?_
      | refine Ev_move rfl ?_
      | refine Ev_assign rfl ?_)
  refine Ev_call rfl rfl (hasp_runs.mono ?_)
  rintro _ _ - ⟨rfl, rfl⟩
  rename_i S
  by_cases h : s.take p.length = p
  · have hle := take_le h
    rw [decide_eq_true h]
    repeat' (
      first
        | refine W_seq ?_
        | refine WO_nil ?_
        | refine V_seq ?_
        | refine W_region ?_
        | refine W_ret ?_
        | refine V_ret ?_
        | refine W_cond_t rfl ?_
        | refine WO_dst rfl rfl (by kernel_rfl) (by kernel_rfl) ?_
        | refine Ev_slice_str (lo' := some (.int .i64 ((p.length : Nat) : Int))) (hi' := none) (mx' := none) rfl rfl rfl rfl rfl rfl (str_lo hle) ?_
        | refine Ev_move rfl ?_
        | refine Ev_assign rfl ?_
        | refine Ev_len_str rfl rfl rfl rfl rfl ?_)
    refine V_done rfl rfl ?_
    refine ⟨rfl, ?_⟩
    unfold trimP; rw [if_pos h]; rfl
  · rw [decide_eq_false h]
    repeat' (
      first
        | refine W_seq ?_
        | refine WO_nil ?_
        | refine V_seq ?_
        | refine W_region ?_
        | refine W_skip ?_
        | refine W_ret ?_
        | refine W_cond_f rfl ?_
        | refine WO_dst rfl rfl (by kernel_rfl) (by kernel_rfl) ?_
        | refine Ev_move rfl ?_
        | refine Ev_assign rfl ?_)
    refine V_done rfl rfl ?_
    refine ⟨rfl, ?_⟩
    unfold trimP; rw [if_neg h]; rfl
theorem strimp_runs {S : St} {s p : List Nat} : Runs X1 30 [.str s, .str p] S fun v S' => S' = S ∧ v = .str (trimP s p) := by
  refine Runs_fn (m := 8) (by kernel_rfl) Try.func30 rfl (by kernel_rfl) (by kernel_rfl) ?_
  repeat (
    first
      | refine W_seq ?_
      | refine WO_nil ?_
      | refine V_seq ?_
      | refine W_region ?_
      | refine WO_dst rfl rfl (by kernel_rfl) (by kernel_rfl) ?_
      | refine Ev_move rfl ?_
      | refine Ev_assign rfl ?_)
  refine Ev_call rfl rfl (trimp_runs.mono ?_)
  rintro _ _ - ⟨rfl, rfl⟩
  repeat (
    first
      | refine WO_nil ?_
      | refine V_seq ?_
      | refine W_ret ?_
      | refine WO_dst rfl rfl (by kernel_rfl) (by kernel_rfl) ?_
      | refine Ev_assign rfl ?_)
  refine V_done rfl rfl ?_
  exact ⟨rfl, rfl⟩
theorem cutp_runs {S : St} {s p : List Nat} : Runs X1 35 [.str s, .str p] S fun v S' => S' = S ∧ v = .tup [.str (trimP s p), .bool (decide (s.take p.length = p))] := by
  refine Runs_fn (m := 15) (by kernel_rfl) Try.func35 rfl (by kernel_rfl) (by kernel_rfl) ?_
  repeat (
    first
      | refine W_seq ?_
      | refine WO_nil ?_
      | refine V_seq ?_
      | refine W_region ?_
      | refine WO_dst rfl rfl (by kernel_rfl) (by kernel_rfl) ?_
      | refine Ev_move rfl ?_
      | refine Ev_assign rfl ?_)
  refine Ev_call rfl rfl (hasp_runs.mono ?_)
  rintro _ _ - ⟨rfl, rfl⟩
  rename_i S
  by_cases h : s.take p.length = p
  · have hle := take_le h
    rw [decide_eq_true h]
    repeat' (
      first
        | refine W_seq ?_
        | refine WO_nil ?_
        | refine V_seq ?_
        | refine W_region ?_
        | refine W_skip ?_
        | refine W_ret ?_
        | refine W_cond_f rfl ?_
        | refine WO_dst rfl rfl (by kernel_rfl) (by kernel_rfl) ?_
        | refine Ev_slice_str (lo' := some (.int .i64 ((p.length : Nat) : Int))) (hi' := none) (mx' := none) rfl rfl rfl rfl rfl rfl (str_lo hle) ?_
        | refine Ev_move rfl ?_
        | refine Ev_assign rfl ?_
        | refine Ev_notb rfl ?_
        | refine Ev_len_str rfl rfl rfl rfl rfl ?_)
    refine V_done rfl rfl ?_
    refine ⟨rfl, ?_⟩
    unfold trimP; rw [if_pos h]; rfl
  · rw [decide_eq_false h]
    repeat' (
      first
        | refine W_seq ?_
        | refine WO_nil ?_
        | refine V_seq ?_
        | refine W_region ?_
        | refine W_ret ?_
        | refine V_ret ?_
        | refine W_cond_t rfl ?_
        | refine WO_dst rfl rfl (by kernel_rfl) (by kernel_rfl) ?_
        | refine Ev_move rfl ?_
        | refine Ev_assign rfl ?_
        | refine Ev_notb rfl ?_)
    refine V_done rfl rfl ?_
    refine ⟨rfl, ?_⟩
    unfold trimP; rw [if_neg h]; rfl
theorem scutp_runs {S : St} {s p : List Nat} : Runs X1 27 [.str s, .str p] S fun v S' => S' = S ∧ v = .tup [.str (trimP s p), .bool (decide (s.take p.length = p))] := by
  refine Runs_fn (m := 11) (by kernel_rfl) Try.func27 rfl (by kernel_rfl) (by kernel_rfl) ?_
  repeat (
    first
      | refine W_seq ?_
      | refine WO_nil ?_
      | refine V_seq ?_
      | refine W_region ?_
      | refine WO_dst rfl rfl (by kernel_rfl) (by kernel_rfl) ?_
      | refine Ev_move rfl ?_
      | refine Ev_assign rfl ?_)
  refine Ev_call rfl rfl (cutp_runs.mono ?_)
  rintro _ _ - ⟨rfl, rfl⟩
  repeat (
    first
      | refine WO_nil ?_
      | refine V_seq ?_
      | refine W_ret ?_
      | refine WO_dst rfl rfl (by kernel_rfl) (by kernel_rfl) ?_
      | refine Ev_assign rfl ?_
      | refine Ev_extract rfl rfl ?_)
  refine V_done rfl rfl ?_
  exact ⟨rfl, rfl⟩
def sufP (s p : List Nat) : Prop := p.length ≤ s.length ∧ s.drop (s.length - p.length) = p
instance (s p : List Nat) : Decidable (sufP s p) := by unfold sufP; exact inferInstance
theorem hass_runs {S : St} {s p : List Nat} (hs : s.length < 9223372036854775808) : Runs X1 44 [.str s, .str p] S fun v S' => S' = S ∧ v = .bool (decide (sufP s p)) := by
  refine Runs_fn (m := 21) (by kernel_rfl) Try.func44 rfl (by kernel_rfl) (by kernel_rfl) ?_
  repeat' (
    first
      | refine W_seq ?_
      | refine WO_nil ?_
      | refine V_seq ?_
      | refine W_region ?_
      | refine W_ret ?_
      | refine WO_dst rfl rfl (by kernel_rfl) (by kernel_rfl) ?_
      | refine WO_guard_t rfl rfl rfl rfl rfl (by kernel_rfl) (by kernel_rfl) ?_
      | refine WO_guard_f rfl rfl rfl rfl rfl rfl (by kernel_rfl) (by kernel_rfl) ?_
      | refine Ev_slice_str (lo' := some (.int .i64 ((s.length - p.length : Nat) : Int))) (hi' := none) (mx' := none) rfl rfl rfl rfl rfl rfl (str_lo (by omega)) ?_
      | refine Ev_move rfl ?_
      | refine Ev_assign rfl ?_
      | refine Ev_pick_t rfl rfl rfl ?_
      | refine Ev_pick_f rfl rfl rfl ?_
      | refine Ev_geqN rfl rfl ?_
      | refine Ev_seql rfl rfl ?_
      | refine Ev_len_str rfl rfl rfl rfl rfl ?_
      | refine Ev_subN rfl rfl (by simp only [lim]; omega) (by first | omega | (dsimp only; done) | (dsimp only; omega)) ?_
      | (refine WO_guard_dt rfl rfl rfl rfl rfl (by kernel_rfl) (by kernel_rfl) (fun hg => ?_) (fun hg => ?_) <;> (try dsimp only at hg) <;> try (exfalso; first | omega | exact hg rfl)))
  · refine V_done rfl rfl ?_
    refine ⟨rfl, ?_⟩
    show AV.bool (decide (s.drop (s.length - p.length) = p)) = _
    have h : p.length ≤ s.length := by omega
    congr 1
    exact decide_eq_decide.2 ⟨fun g => ⟨h, g⟩, fun g => g.2⟩
  · refine V_done rfl rfl ?_
    refine ⟨rfl, ?_⟩
    rw [decide_eq_false]; rfl
    intro h
    have := h.1; omega
def trimS (s p : List Nat) : List Nat := if sufP s p then s.take (s.length - p.length) else s
theorem cuts_runs {S : St} {s p : List Nat} (hs : s.length < 9223372036854775808) : Runs X1 39 [.str s, .str p] S fun v S' => S' = S ∧ v = .tup [.str (trimS s p), .bool (decide (sufP s p))] := by
  refine Runs_fn (m := 18) (by kernel_rfl) Try.func39 rfl (by kernel_rfl) (by kernel_rfl) ?_
  repeat (
    first
      | refine W_seq ?_
      | refine WO_nil ?_
      | refine V_seq ?_
      | refine W_region ?_
      | refine WO_dst rfl rfl (by kernel_rfl) (by kernel_rfl) ?_
      | refine Ev_move rfl ?_
      | refine Ev_assign rfl ?_)
  refine Ev_call rfl rfl ((hass_runs hs).mono ?_)
  rintro _ _ - ⟨rfl, rfl⟩
  rename_i S
  by_cases h : sufP s p
  · have hle := h.1
    rw [decide_eq_true h]
    repeat' (
      first
        | refine W_seq ?_
        | refine WO_nil ?_
        | refine V_seq ?_
        | refine W_region ?_
        | refine W_skip ?_
        | refine W_ret ?_
        | refine W_cond_f rfl ?_
        | refine WO_dst rfl rfl (by kernel_rfl) (by kernel_rfl) ?_
        | refine Ev_slice_str (lo' := none) (hi' := some (.int .i64 ((s.length - p.length : Nat) : Int))) (mx' := none) rfl rfl rfl rfl rfl rfl (str_hi (by omega)) ?_
        | refine Ev_move rfl ?_
        | refine Ev_assign rfl ?_
        | refine Ev_notb rfl ?_
        | refine Ev_len_str rfl rfl rfl rfl rfl ?_
        | refine Ev_subN rfl rfl (by simp only [lim]; omega) (by first | omega | (dsimp only; done) | (dsimp only; omega)) ?_)
    refine V_done rfl rfl ?_
    refine ⟨rfl, ?_⟩
    unfold trimS; rw [if_pos h]; rfl
  · rw [decide_eq_false h]
    repeat' (
      first
        | refine W_seq ?_
        | refine WO_nil ?_
        | refine V_seq ?_
        | refine W_region ?_
        | refine W_ret ?_
        | refine V_ret ?_
        | refine W_cond_t rfl ?_
        | refine WO_dst rfl rfl (by kernel_rfl) (by kernel_rfl) ?_
        | refine Ev_move rfl ?_
        | refine Ev_assign rfl ?_
        | refine Ev_notb rfl ?_)
    refine V_done rfl rfl ?_
    refine ⟨rfl, ?_⟩
    unfold trimS; rw [if_neg h]; rfl
theorem scuts_runs {S : St} {s p : List Nat} (hs : s.length < 9223372036854775808) : Runs X1 33 [.str s, .str p] S fun v S' => S' = S ∧ v = .tup [.str (trimS s p), .bool (decide (sufP s p))] := by
  refine Runs_fn (m := 11) (by kernel_rfl) Try.func33 rfl (by kernel_rfl) (by kernel_rfl) ?_
  repeat (
    first
      | refine W_seq ?_
      | refine WO_nil ?_
      | refine V_seq ?_
      | refine W_region ?_
      | refine WO_dst rfl rfl (by kernel_rfl) (by kernel_rfl) ?_
      | refine Ev_move rfl ?_
      | refine Ev_assign rfl ?_)
  refine Ev_call rfl rfl ((cuts_runs hs).mono ?_)
  rintro _ _ - ⟨rfl, rfl⟩
  repeat (
    first
      | refine WO_nil ?_
      | refine V_seq ?_
      | refine W_ret ?_
      | refine WO_dst rfl rfl (by kernel_rfl) (by kernel_rfl) ?_
      | refine Ev_assign rfl ?_
      | refine Ev_extract rfl rfl ?_)
  refine V_done rfl rfl ?_
  exact ⟨rfl, rfl⟩
/-- a letter of a name -/
def okc (i c : Nat) : Prop := (97 ≤ c ∧ c ≤ 122) ∨ (65 ≤ c ∧ c ≤ 90) ∨ c = 95 ∨ c = 36 ∨ (0 < i ∧ 48 ≤ c ∧ c ≤ 57)
instance (i c : Nat) : Decidable (okc i c) := by unfold okc; exact inferInstance
def nameP (s : List Nat) : Prop := (1 ≤ s.length ∧ s.length ≤ 64) ∧ ∀ i, i < s.length → okc i (s.getD i 0)
instance (s : List Nat) : Decidable (nameP s) := by unfold nameP; exact inferInstance
theorem get_some {s : List Nat} {i : Nat} (h : i < s.length) : s[i]? = some (s.getD i 0) := by
  rw [List.getD_eq_getElem?_getD, List.getElem?_eq_getElem h]; rfl
theorem name_runs {S : St} {s : List Nat} (hs : s.length < 9223372036854775808) : Runs X1 19 [.str s] S fun v S' => S' = S ∧ v = .bool (decide (nameP s)) := by
  refine Runs_fn (m := 58) (by kernel_rfl) Try.func19 rfl (by kernel_rfl) (by kernel_rfl) ?_
  repeat (
    first
      | refine W_seq ?_
      | refine WO_nil ?_
      | refine V_seq ?_
      | refine W_region ?_
      | refine W_block ?_
      | refine WO_dst rfl rfl (by kernel_rfl) (by kernel_rfl) ?_
      | refine Ev_move rfl ?_
      | refine Ev_assign rfl ?_
      | refine Ev_len_str rfl rfl rfl rfl rfl ?_)
  refine W_inv (fun i : Nat => [(8, .int .i64 ((i : Nat) : Int)), (7, .int .i64 ((s.length : Nat) : Int)), (0, .str s)]) (fun i T => T = S ∧ i ≤ s.length ∧ ∀ j, j < i → okc j (s.getD j 0)) (fun i => s.length - i) ?_ 0 ⟨rfl, by omega, fun j hj => by omega⟩ ⟨rfl, rfl, rfl, trivial⟩
  rintro i T ⟨rfl, hi, hall⟩ back
  repeat' (
    first
      | refine W_seq ?_
      | refine WO_nil ?_
      | refine V_seq ?_
      | refine W_region ?_
      | refine W_block ?_
      | refine W_skip ?_
      | refine W_ret ?_
      | refine W_exit ?_
      | refine V_ret ?_
      | refine V_block ?_
      | refine V_block_x rfl ?_
      | refine V_seq_x ?_
      | refine V_loop_x ?_
      | refine W_cond_t rfl ?_
      | refine W_cond_f rfl ?_
      | refine WO_dst rfl rfl (by kernel_rfl) (by kernel_rfl) ?_
      | refine WO_guard_t rfl rfl rfl rfl rfl (by kernel_rfl) (by kernel_rfl) ?_
      | refine WO_guard_f rfl rfl rfl rfl rfl rfl (by kernel_rfl) (by kernel_rfl) ?_
      | refine WO_guard_x rfl rfl rfl rfl rfl (by kernel_rfl) (by kernel_rfl) ?_
      | refine Ev_index rfl rfl rfl rfl (get_some (by first | omega | (dsimp only; omega))) ?_
      | refine Ev_move rfl ?_
      | refine Ev_assign rfl ?_
      | refine Ev_pick_t rfl rfl rfl ?_
      | refine Ev_pick_f rfl rfl rfl ?_
      | refine Ev_lssN rfl rfl ?_
      | refine Ev_leqN rfl rfl ?_
      | refine Ev_gtrN rfl rfl ?_
      | refine Ev_geqN rfl rfl ?_
      | refine Ev_eqlN rfl rfl ?_
      | refine Ev_sneq rfl rfl ?_
      | refine Ev_not rfl ?_
      | refine Ev_notb rfl ?_
      | refine Ev_len_str rfl rfl rfl rfl rfl ?_
      | refine Ev_addN rfl rfl (by simp only [lim]; omega) ?_
      | (refine WO_guard_dt rfl rfl rfl rfl rfl (by kernel_rfl) (by kernel_rfl) (fun hg => ?_) (fun hg => ?_) <;> (try dsimp only at hg) <;> try (exfalso; first | omega | exact hg rfl))
      | (refine WO_guard_df rfl rfl rfl rfl rfl (by kernel_rfl) (by kernel_rfl) (fun hg => ?_) (fun hg => ?_) <;> (try dsimp only at hg) <;> try (exfalso; first | omega | exact hg rfl))
      | (refine W_cond rfl (fun hc => ?_) (fun hc => ?_) <;> (try dsimp only at hc) <;> try (exfalso; first | omega | exact hc rfl)))
  all_goals first
    | (refine back (i + 1) _ _ (by omega) ⟨rfl, by omega, fun j hj => ?_⟩ ⟨rfl, rfl, rfl, trivial⟩
       rcases Nat.lt_or_ge j i with h | h
       · exact hall j h
       · have hji : j = i := by omega
         subst hji; unfold okc; omega)
    | (refine V_done rfl rfl ⟨rfl, ?_⟩
       rw [decide_eq_false (fun h => by have := h.2 i (by omega); unfold okc at this; omega)]; rfl)
    | (refine V_done rfl rfl ⟨rfl, ?_⟩
       have h0 : ¬ 1 ≤ s.length := by first | exact hg | (have h1 : s = [] := Classical.not_not.1 hg; rw [h1]; decide)
       rw [decide_eq_false (fun h => h0 h.1.1)]; rfl)
    | (refine V_done rfl rfl ⟨rfl, ?_⟩
       have hl : 1 ≤ s.length := by first | exact hg | exact List.length_pos_iff.2 hg
       show AV.bool (decide (s.length ≤ 64)) = _
       congr 1
       exact decide_eq_decide.2 ⟨fun g => ⟨⟨hl, g⟩, fun j hj => hall j (by omega)⟩, fun g => g.1.2⟩)
theorem rname_runs {S : St} {s : List Nat} (hs : s.length < 9223372036854775808) : Runs X1 14 [.str s] S fun v S' => S' = S ∧ v = .bool (decide (nameP s)) := by
  refine Runs_fn (m := 59) (by kernel_rfl) Try.func14 rfl (by kernel_rfl) (by kernel_rfl) ?_
  repeat (
    first
      | refine W_seq ?_
      | refine WO_nil ?_
      | refine V_seq ?_
      | refine W_region ?_
      | refine W_block ?_
      | refine WO_dst rfl rfl (by kernel_rfl) (by kernel_rfl) ?_
      | refine Ev_assign rfl ?_)
  refine W_inv (fun i : Nat => [(3, .int .i64 ((i : Nat) : Int)), (0, .str s)]) (fun i T => T = S ∧ i ≤ s.length ∧ ∀ j, j < i → okc j (s.getD j 0)) (fun i => s.length - i) ?_ 0 ⟨rfl, by omega, fun j hj => by omega⟩ ⟨rfl, rfl, trivial⟩
  rintro i T ⟨rfl, hi, hall⟩ back
  repeat' (
    first
      | refine W_seq ?_
      | refine WO_nil ?_
      | refine V_seq ?_
      | refine W_region ?_
      | refine W_block ?_
      | refine W_skip ?_
      | refine W_ret ?_
      | refine W_exit ?_
      | refine V_ret ?_
      | refine V_block ?_
      | refine V_block_x rfl ?_
      | refine V_seq_x ?_
      | refine V_loop_x ?_
      | refine W_cond_t rfl ?_
      | refine W_cond_f rfl ?_
      | refine WO_dst rfl rfl (by kernel_rfl) (by kernel_rfl) ?_
      | refine WO_guard_t rfl rfl rfl rfl rfl (by kernel_rfl) (by kernel_rfl) ?_
      | refine WO_guard_f rfl rfl rfl rfl rfl rfl (by kernel_rfl) (by kernel_rfl) ?_
      | refine WO_guard_x rfl rfl rfl rfl rfl (by kernel_rfl) (by kernel_rfl) ?_
      | refine Ev_index rfl rfl rfl rfl (get_some (by first | omega | (dsimp only; omega))) ?_
      | refine Ev_move rfl ?_
      | refine Ev_assign rfl ?_
      | refine Ev_pick_t rfl rfl rfl ?_
      | refine Ev_pick_f rfl rfl rfl ?_
      | refine Ev_lssN rfl rfl ?_
      | refine Ev_leqN rfl rfl ?_
      | refine Ev_gtrN rfl rfl ?_
      | refine Ev_geqN rfl rfl ?_
      | refine Ev_eqlN rfl rfl ?_
      | refine Ev_not rfl ?_
      | refine Ev_notb rfl ?_
      | refine Ev_len_str rfl rfl rfl rfl rfl ?_
      | refine Ev_addN rfl rfl (by simp only [lim]; omega) ?_
      | (refine WO_guard_dt rfl rfl rfl rfl rfl (by kernel_rfl) (by kernel_rfl) (fun hg => ?_) (fun hg => ?_) <;> (try dsimp only at hg) <;> try (exfalso; first | omega | exact hg rfl))
      | (refine WO_guard_df rfl rfl rfl rfl rfl (by kernel_rfl) (by kernel_rfl) (fun hg => ?_) (fun hg => ?_) <;> (try dsimp only at hg) <;> try (exfalso; first | omega | exact hg rfl))
      | (refine W_cond rfl (fun hc => ?_) (fun hc => ?_) <;> (try dsimp only at hc) <;> try (exfalso; first | omega | exact hc rfl)))
  all_goals first
    | (refine back (i + 1) _ _ (by omega) ⟨rfl, by omega, fun j hj => ?_⟩ ⟨rfl, rfl, trivial⟩
       rcases Nat.lt_or_ge j i with h | h
       · exact hall j h
       · have hji : j = i := by omega
         subst hji; unfold okc; omega)
    | (refine V_done rfl rfl ⟨rfl, ?_⟩
       rw [decide_eq_false (fun h => by have := h.2 i (by omega); unfold okc at this; omega)]; rfl)
    | (refine V_done rfl rfl ⟨rfl, ?_⟩
       have h0 : ¬ 1 ≤ s.length := by first | exact hg | (have h1 : s = [] := Classical.not_not.1 hg; rw [h1]; decide)
       rw [decide_eq_false (fun h => h0 h.1.1)]; rfl)
    | (refine V_done rfl rfl ⟨rfl, ?_⟩
       have hl : 1 ≤ s.length := by first | exact hg | exact List.length_pos_iff.2 hg
       show AV.bool (decide (s.length ≤ 64)) = _
       congr 1
       exact decide_eq_decide.2 ⟨fun g => ⟨⟨hl, g⟩, fun j hj => hall j (by omega)⟩, fun g => g.1.2⟩)
end Go.Proofs.Ytdhfjkikoiifcaa
/- descr.Class, Field, split: what they tell. -/


namespace Go.Proofs.Ytdhfjkikoiifcaa
open GX
set_option maxHeartbeats 8000000
/-- where the first ';' is -/
def semi : List Nat → Option Nat
  | [] => none
  | c :: l => if c = 59 then some 0 else (semi l).map (· + 1)
theorem ixb_semi : ∀ (l : List Nat) (i : Nat), ixb 59 l i = match semi l with | some k => ((i + k : Nat) : Int) | none => -1
  | [], _ => rfl
  | c :: l, i => by
    unfold ixb semi
    by_cases h : c = 59
    · subst h; rfl
    · have h2 : Nat.beq c 59 = false := by rw [nbeq]; exact decide_eq_false h
      rw [if_neg h]
      simp only [h2, cond_false]
      rw [ixb_semi l (i + 1)]
      cases semi l with
      | none => rfl
      | some k => simp only [Option.map_some]; congr 1; omega
theorem semi_some : ∀ {l : List Nat} {k : Nat}, semi l = some k → k < l.length ∧ l = l.take k ++ 59 :: l.drop (k + 1) ∧ ∀ c ∈ l.take k, c ≠ 59
  | [], _, h => by cases h
  | c :: l, k, h => by
    unfold semi at h
    by_cases hc : c = 59
    · rw [if_pos hc] at h; cases h; subst hc; simp
    · rw [if_neg hc] at h
      cases hs : semi l with
      | none => rw [hs] at h; cases h
      | some j =>
        rw [hs] at h
        simp only [Option.map_some, Option.some.injEq] at h
        subst h
        obtain ⟨h1, h2, h3⟩ := semi_some hs
        refine ⟨by simpa using h1, by simpa using h2, fun d hd => ?_⟩
        simp only [List.take_succ_cons, List.mem_cons] at hd
        rcases hd with rfl | hd
        · exact hc
        · exact h3 d hd
theorem semi_app : ∀ {n : List Nat} {r : List Nat}, (∀ c ∈ n, c ≠ 59) → semi (n ++ 59 :: r) = some n.length
  | [], r, _ => by simp [semi]
  | c :: n, r, h => by
    show semi (c :: (n ++ 59 :: r)) = _
    unfold semi
    rw [if_neg (h c (List.mem_cons_self ..)), semi_app (fun d hd => h d (List.mem_cons_of_mem _ hd))]; rfl
theorem name_c {n : List Nat} (h : nameP n) : ∀ c ∈ n, c ≠ 59 ∧ c ≠ 91 ∧ c < 128 ∧ 0 < c := by
  intro c hc
  obtain ⟨i, hi, rfl⟩ := List.mem_iff_getElem.1 hc
  have := h.2 i hi
  rw [List.getD_eq_getElem?_getD, List.getElem?_eq_getElem hi] at this
  simp only [Option.getD_some] at this
  unfold okc at this
  omega
def base1 : List Nat → Nat
  | [] => 0
  | c :: r => if c = 73 then 1 else if c = 76 then (match semi r with | some k => if nameP (r.take k) then k + 2 else 0 | none => 0) else 0
theorem base1_cons (c : Nat) (r : List Nat) : base1 (c :: r) = if c = 73 then 1 else if c = 76 then (match semi r with | some k => if nameP (r.take k) then k + 2 else 0 | none => 0) else 0 := rfl
/-- how many bytes the field has with which a text begins; 0: none -/
def oneS : List Nat → Nat
  | [] => 0
  | c :: r => if c = 91 then (if base1 r = 0 then 0 else base1 r + 1) else base1 (c :: r)
theorem oneS_cons (c : Nat) (r : List Nat) : oneS (c :: r) = if c = 91 then (if base1 r = 0 then 0 else base1 r + 1) else base1 (c :: r) := rfl
def fieldP (s : List Nat) : Prop := s ≠ [] ∧ oneS s = s.length
instance (s : List Nat) : Decidable (fieldP s) := by unfold fieldP; exact inferInstance
theorem base1_L {n r : List Nat} (h : ∀ c ∈ n, c ≠ 59) : base1 (76 :: (n ++ 59 :: r)) = if nameP n then n.length + 2 else 0 := by
  rw [base1_cons, if_neg (by decide), if_pos rfl, semi_app h]
  simp
theorem base1_len {t : List Nat} : (t ≠ [] ∧ base1 t = t.length) ↔ t = [73] ∨ ∃ n, t = 76 :: (n ++ [59]) ∧ nameP n := by
  constructor
  · rintro ⟨h1, h2⟩
    cases t with
    | nil => exact absurd rfl h1
    | cons c r =>
      rw [base1_cons] at h2
      split at h2
      · rename_i hc
        left
        have : r = [] := by simp at h2; exact h2
        rw [hc, this]
      · split at h2
        · rename_i hc
          split at h2
          · rename_i k hk
            split at h2
            · rename_i hn
              obtain ⟨g1, g2, g3⟩ := semi_some hk
              right
              refine ⟨r.take k, ?_, hn⟩
              have hd : r.drop (k + 1) = [] := List.drop_eq_nil_iff.2 (by simp at h2; omega)
              rw [hd] at g2
              rw [hc, ← g2]
            · simp at h2
          · simp at h2
        · simp at h2
  · rintro (rfl | ⟨n, rfl, hn⟩)
    · exact ⟨by simp, rfl⟩
    · refine ⟨by simp, ?_⟩
      rw [base1_L (fun c hc => (name_c hn c hc).1), if_pos hn]; simp
theorem field_iff {s : List Nat} : fieldP s ↔ (∃ t, s = 91 :: t ∧ (t = [73] ∨ ∃ n, t = 76 :: (n ++ [59]) ∧ nameP n)) ∨ (s = [73] ∨ ∃ n, s = 76 :: (n ++ [59]) ∧ nameP n) := by
  unfold fieldP
  cases s with
  | nil => simp
  | cons c r =>
    by_cases hc : c = 91
    · subst hc
      have e : oneS (91 :: r) = if base1 r = 0 then 0 else base1 r + 1 := by rw [oneS_cons, if_pos rfl]
      rw [e]
      constructor
      · rintro ⟨_, h⟩
        left
        refine ⟨r, rfl, base1_len.1 ?_⟩
        split at h
        · simp at h
        · rename_i h0
          simp at h
          refine ⟨fun hr => h0 (by rw [hr]; rfl), h⟩
      · rintro (⟨t, ht, h⟩ | h | ⟨n, h, _⟩)
        · cases ht
          obtain ⟨h1, h2⟩ := base1_len.2 h
          have h3 : 0 < r.length := List.length_pos_iff.2 h1
          rw [if_neg (by omega), h2]; simp
        · cases h
        · cases h
    · have e : oneS (c :: r) = base1 (c :: r) := by rw [oneS_cons, if_neg hc]
      rw [e]
      constructor
      · intro h; exact .inr (base1_len.1 h)
      · rintro (⟨t, ht, _⟩ | h)
        · cases ht; exact absurd rfl hc
        · exact base1_len.2 h
/-- the class that a type names that is no array's -/
def clsS (t : List Nat) : List Nat := if t.take 1 = [76] ∧ sufP (trimP t [76]) [59] ∧ nameP (trimS (trimP t [76]) [59]) then trimS (trimP t [76]) [59] else []
theorem cls_L {n : List Nat} (h : nameP n) : clsS (76 :: (n ++ [59])) = n := by
  have e1 : trimP (76 :: (n ++ [59])) [76] = n ++ [59] := by unfold trimP; simp
  have e2 : sufP (n ++ [59]) [59] := by unfold sufP; simp
  have e3 : trimS (n ++ [59]) [59] = n := by unfold trimS; rw [if_pos e2]; simp
  unfold clsS
  rw [e1, e3, if_pos ⟨by simp, e2, h⟩]
theorem cls_ne {t : List Nat} (h : clsS t ≠ []) : ∃ n, t = 76 :: (n ++ [59]) ∧ nameP n ∧ clsS t = n := by
  unfold clsS at h
  split at h
  · rename_i hh
    obtain ⟨h1, h2, h3⟩ := hh
    have e1 : trimP t [76] = t.drop 1 := by unfold trimP; exact if_pos h1
    rw [e1] at h2 h3
    have e3 : trimS (t.drop 1) [59] = (t.drop 1).take ((t.drop 1).length - 1) := by unfold trimS; exact if_pos h2
    rw [e3] at h3
    have h4 := h2.2
    have hd : t.drop 1 = (t.drop 1).take ((t.drop 1).length - 1) ++ [59] := by
      conv => lhs; rw [← List.take_append_drop ((t.drop 1).length - 1) (t.drop 1)]
      rw [show (t.drop 1).length - 1 = (t.drop 1).length - [59].length from rfl, h4]
    have ht : t = 76 :: (t.drop 1) := by
      conv => lhs; rw [← List.take_append_drop 1 t]
      rw [h1]; rfl
    refine ⟨(t.drop 1).take ((t.drop 1).length - 1), by rw [← hd]; exact ht, h3, ?_⟩
    rw [ht, hd]
    generalize hg : (t.drop 1).take ((t.drop 1).length - 1) = n at h3 ⊢
    rw [cls_L h3]
    simp
  · exact absurd rfl h
theorem field_cls {s : List Nat} : (trimP s [91] = [73] ∨ (¬ (trimP s [91]).take 1 = [91] ∧ clsS (trimP s [91]) ≠ [])) ↔ fieldP s := by
  rw [field_iff]
  have key : ∀ t : List Nat, (t = [73] ∨ (¬ t.take 1 = [91] ∧ clsS t ≠ [])) ↔ (t = [73] ∨ ∃ n, t = 76 :: (n ++ [59]) ∧ nameP n) := by
    intro t
    constructor
    · rintro (h | ⟨_, h⟩)
      · exact .inl h
      · obtain ⟨n, h1, h2, _⟩ := cls_ne h; exact .inr ⟨n, h1, h2⟩
    · rintro (h | ⟨n, rfl, h⟩)
      · exact .inl h
      · refine .inr ⟨by simp, ?_⟩
        rw [cls_L h]
        intro h0; have := h.1.1; rw [h0] at this; simp at this
  rw [key]
  unfold trimP
  cases s with
  | nil => simp
  | cons c r =>
    by_cases hc : c = 91
    · subst hc
      simp
    · simp [hc]
theorem cls_runs {S : St} {t : List Nat} (ht : t.length < 9223372036854775808) (hb : ¬ t.take 1 = [91]) : Runs X1 22 [.str t] S fun v S' => S' = S ∧ v = .str (clsS t) := by
  have hl1 : (trimP t [76]).length ≤ t.length := by unfold trimP; split <;> simp
  have hl2 : (trimS (trimP t [76]) [59]).length ≤ t.length := by
    unfold trimS; split
    · rw [List.length_take]; omega
    · exact hl1
  refine Runs_fn (m := 34) (by kernel_rfl) Try.func22 rfl (by kernel_rfl) (by kernel_rfl) ?_
  repeat (
    first
      | refine W_seq ?_
      | refine WO_nil ?_
      | refine V_seq ?_
      | refine W_region ?_
      | refine WO_dst rfl rfl (by kernel_rfl) (by kernel_rfl) ?_
      | refine Ev_move rfl ?_
      | refine Ev_assign rfl ?_)
  refine Ev_call rfl rfl ((shasp_runs (p := [91])).mono ?_)
  rintro _ _ - ⟨rfl, rfl⟩
  rename_i S
  rw [decide_eq_false (show ¬ t.take [91].length = [91] from hb)]
  repeat' (
    first
      | refine W_seq ?_
      | refine WO_nil ?_
      | refine V_seq ?_
      | refine W_region ?_
      | refine W_skip ?_
      | refine W_cond_f rfl ?_
      | refine WO_dst rfl rfl (by kernel_rfl) (by kernel_rfl) ?_
      | refine WO_guard_f rfl rfl rfl rfl rfl rfl (by kernel_rfl) (by kernel_rfl) ?_
      | refine Ev_move rfl ?_
      | refine Ev_pick_f rfl rfl rfl ?_)
  refine Ev_call rfl rfl ((scutp_runs (p := [76])).mono ?_)
  rintro _ _ - ⟨rfl, rfl⟩
  repeat' (
    first
      | refine W_seq ?_
      | refine WO_nil ?_
      | refine V_seq ?_
      | refine W_region ?_
      | refine WO_dst rfl rfl (by kernel_rfl) (by kernel_rfl) ?_
      | refine Ev_move rfl ?_
      | refine Ev_assign rfl ?_
      | refine Ev_extract rfl rfl ?_)
  refine Ev_call rfl rfl ((scuts_runs (p := [59]) (by omega)).mono ?_)
  rintro _ _ - ⟨rfl, rfl⟩
  rename_i S
  by_cases h1 : t.take 1 = [76]
  · rw [decide_eq_true (show t.take [76].length = [76] from h1)]
    by_cases h2 : sufP (trimP t [76]) [59]
    · rw [decide_eq_true h2]
      repeat' (
        first
          | refine W_seq ?_
          | refine WO_nil ?_
          | refine V_seq ?_
          | refine W_region ?_
          | refine WO_dst rfl rfl (by kernel_rfl) (by kernel_rfl) ?_
          | refine WO_guard_t rfl rfl rfl rfl rfl (by kernel_rfl) (by kernel_rfl) ?_
          | refine Ev_move rfl ?_
          | refine Ev_assign rfl ?_
          | refine Ev_extract rfl rfl ?_
          | refine Ev_pick_f rfl rfl rfl ?_
          | refine Ev_notb rfl ?_)
      refine Ev_call rfl rfl ((name_runs (by omega)).mono ?_)
      rintro _ _ - ⟨rfl, rfl⟩
      repeat' (
        first
          | refine W_seq ?_
          | refine WO_nil ?_
          | refine V_seq ?_
          | refine W_region ?_
          | refine W_skip ?_
          | refine W_ret ?_
          | refine V_ret ?_
          | refine WO_dst rfl rfl (by kernel_rfl) (by kernel_rfl) ?_
          | refine WO_guard_t rfl rfl rfl rfl rfl (by kernel_rfl) (by kernel_rfl) ?_
          | refine Ev_move rfl ?_
          | refine Ev_assign rfl ?_
          | refine Ev_pick_f rfl rfl rfl ?_
          | refine Ev_not rfl ?_
          | (refine W_cond rfl (fun hc => ?_) (fun hc => ?_) <;> (try dsimp only at hc) <;> try (exfalso; first | omega | exact hc rfl)))
      · refine V_done rfl rfl ⟨rfl, ?_⟩
        unfold clsS; rw [if_neg (fun h => by first | exact hc h.2.2 | exact absurd h.2.2 hc)]; rfl
      · refine V_done rfl rfl ⟨rfl, ?_⟩
        unfold clsS; rw [if_pos ⟨h1, h2, by first | exact Classical.not_not.1 hc | exact hc⟩]; rfl
    · rw [decide_eq_false h2]
      repeat' (
        first
          | refine W_seq ?_
          | refine WO_nil ?_
          | refine V_seq ?_
          | refine W_region ?_
          | refine W_ret ?_
          | refine V_ret ?_
          | refine W_cond_t rfl ?_
          | refine WO_dst rfl rfl (by kernel_rfl) (by kernel_rfl) ?_
          | refine WO_guard_t rfl rfl rfl rfl rfl (by kernel_rfl) (by kernel_rfl) ?_
          | refine WO_guard_f rfl rfl rfl rfl rfl rfl (by kernel_rfl) (by kernel_rfl) ?_
          | refine Ev_move rfl ?_
          | refine Ev_assign rfl ?_
          | refine Ev_extract rfl rfl ?_
          | refine Ev_pick_t rfl rfl rfl ?_
          | refine Ev_pick_f rfl rfl rfl ?_
          | refine Ev_notb rfl ?_)
      refine V_done rfl rfl ⟨rfl, ?_⟩
      unfold clsS; rw [if_neg (fun h => h2 h.2.1)]; rfl
  · rw [decide_eq_false (show ¬ t.take [76].length = [76] from h1)]
    repeat' (
      first
        | refine W_seq ?_
        | refine WO_nil ?_
        | refine V_seq ?_
        | refine W_region ?_
        | refine W_ret ?_
        | refine V_ret ?_
        | refine W_cond_t rfl ?_
        | refine WO_dst rfl rfl (by kernel_rfl) (by kernel_rfl) ?_
        | refine WO_guard_f rfl rfl rfl rfl rfl rfl (by kernel_rfl) (by kernel_rfl) ?_
        | refine Ev_move rfl ?_
        | refine Ev_assign rfl ?_
        | refine Ev_extract rfl rfl ?_
        | refine Ev_pick_t rfl rfl rfl ?_
        | refine Ev_notb rfl ?_)
    refine V_done rfl rfl ⟨rfl, ?_⟩
    unfold clsS; rw [if_neg (fun h => h1 h.1)]; rfl
theorem field_runs {S : St} {s : List Nat} (hs : s.length < 9223372036854775808) : Runs X1 15 [.str s] S fun v S' => S' = S ∧ v = .bool (decide (fieldP s)) := by
  have hl1 : (trimP s [91]).length ≤ s.length := by unfold trimP; split <;> simp
  have hf := field_cls (s := s)
  refine Runs_fn (m := 17) (by kernel_rfl) Try.func15 rfl (by kernel_rfl) (by kernel_rfl) ?_
  repeat (
    first
      | refine W_seq ?_
      | refine WO_nil ?_
      | refine V_seq ?_
      | refine W_region ?_
      | refine WO_dst rfl rfl (by kernel_rfl) (by kernel_rfl) ?_
      | refine Ev_move rfl ?_
      | refine Ev_assign rfl ?_)
  refine Ev_call rfl rfl ((strimp_runs (p := [91])).mono ?_)
  rintro _ _ - ⟨rfl, rfl⟩
  rename_i S
  generalize trimP s [91] = t at hl1 hf ⊢
  repeat' (
    first
      | refine W_seq ?_
      | refine WO_nil ?_
      | refine V_seq ?_
      | refine W_region ?_
      | refine W_ret ?_
      | refine WO_dst rfl rfl (by kernel_rfl) (by kernel_rfl) ?_
      | refine WO_guard_t rfl rfl rfl rfl rfl (by kernel_rfl) (by kernel_rfl) ?_
      | refine WO_guard_f rfl rfl rfl rfl rfl rfl (by kernel_rfl) (by kernel_rfl) ?_
      | refine WO_guard_x rfl rfl rfl rfl rfl (by kernel_rfl) (by kernel_rfl) ?_
      | refine Ev_move rfl ?_
      | refine Ev_assign rfl ?_
      | refine Ev_pick_t rfl rfl rfl ?_
      | refine Ev_seql rfl rfl ?_
      | (refine WO_guard_df rfl rfl rfl rfl rfl (by kernel_rfl) (by kernel_rfl) (fun hg => ?_) (fun hg => ?_) <;> (try dsimp only at hg) <;> try (exfalso; first | omega | exact hg rfl)))
  · refine Ev_call rfl rfl ((shasp_runs (p := [91])).mono ?_)
    rintro _ _ - ⟨rfl, rfl⟩
    rename_i S
    by_cases hb : t.take 1 = [91]
    · rw [decide_eq_true (show t.take [91].length = [91] from hb)]
      repeat' (
        first
          | refine WO_nil ?_
          | refine V_seq ?_
          | refine W_ret ?_
          | refine WO_dst rfl rfl (by kernel_rfl) (by kernel_rfl) ?_
          | refine WO_guard_t rfl rfl rfl rfl rfl (by kernel_rfl) (by kernel_rfl) ?_
          | refine WO_guard_f rfl rfl rfl rfl rfl rfl (by kernel_rfl) (by kernel_rfl) ?_
          | refine Ev_move rfl ?_
          | refine Ev_assign rfl ?_
          | refine Ev_pick_f rfl rfl rfl ?_
          | refine Ev_notb rfl ?_)
      refine V_done rfl rfl ⟨rfl, ?_⟩
      rw [decide_eq_false (fun h => by rcases hf.2 h with h | h; exact hg h; exact h.1 hb)]; rfl
    · rw [decide_eq_false (show ¬ t.take [91].length = [91] from hb)]
      repeat' (
        first
          | refine WO_dst rfl rfl (by kernel_rfl) (by kernel_rfl) ?_
          | refine WO_guard_t rfl rfl rfl rfl rfl (by kernel_rfl) (by kernel_rfl) ?_
          | refine Ev_move rfl ?_
          | refine Ev_notb rfl ?_)
      refine Ev_call rfl rfl ((cls_runs (by omega) hb).mono ?_)
      rintro _ _ - ⟨rfl, rfl⟩
      repeat' (
        first
          | refine WO_nil ?_
          | refine V_seq ?_
          | refine W_ret ?_
          | refine WO_dst rfl rfl (by kernel_rfl) (by kernel_rfl) ?_
          | refine WO_guard_t rfl rfl rfl rfl rfl (by kernel_rfl) (by kernel_rfl) ?_
          | refine Ev_assign rfl ?_
          | refine Ev_pick_t rfl rfl rfl ?_
          | refine Ev_pick_f rfl rfl rfl ?_
          | refine Ev_sneq rfl rfl ?_)
      refine V_done rfl rfl ⟨rfl, ?_⟩
      show AV.bool (decide (clsS t ≠ [])) = _
      congr 1
      exact decide_eq_decide.2 ⟨fun h => hf.1 (.inr ⟨hb, h⟩), fun h => by rcases hf.2 h with h | h; exact absurd h hg; exact h.2⟩
  · refine V_done rfl rfl ⟨rfl, ?_⟩
    rw [decide_eq_true (hf.1 (.inl hg))]; rfl
end Go.Proofs.Ytdhfjkikoiifcaa
/- descr.split, Method. -/


namespace Go.Proofs.Ytdhfjkikoiifcaa
open GX
set_option maxHeartbeats 8000000
theorem sixb_runs {S : St} {s : List Nat} : Runs X1 36 [.str s, .int .u8 59] S fun v S' => S' = S ∧ v = .int .i64 (ixb 59 s 0) := by
  refine Runs_fn (m := 8) (by kernel_rfl) Try.func36 rfl (by kernel_rfl) (by kernel_rfl) ?_
  repeat (
    first
      | refine W_seq ?_
      | refine WO_nil ?_
      | refine V_seq ?_
      | refine W_region ?_
      | refine WO_dst rfl rfl (by kernel_rfl) (by kernel_rfl) ?_
      | refine Ev_move rfl ?_
      | refine Ev_assign rfl ?_)
  refine Ev_call rfl rfl (Runs.mono (R := fun v S' => S' = S ∧ v = .int .i64 (ixb 59 s 0)) ?_ ?_)
  · refine Runs_fn (m := 8) (by kernel_rfl) Try.func43 rfl (by kernel_rfl) (by kernel_rfl) ?_
    repeat (
      first
        | refine W_seq ?_
        | refine WO_nil ?_
        | refine V_seq ?_
        | refine W_region ?_
        | refine WO_dst rfl rfl (by kernel_rfl) (by kernel_rfl) ?_
        | refine Ev_move rfl ?_
        | refine Ev_assign rfl ?_)
    refine Ev_call rfl rfl (Runs_ext (g := extByte) (v := .int .i64 (ixb 59 s 0)) (S' := S) rfl rfl (Nat.le_refl _) ?_)
    repeat (
      first
        | refine WO_nil ?_
        | refine V_seq ?_
        | refine W_ret ?_
        | refine WO_dst rfl rfl (by kernel_rfl) (by kernel_rfl) ?_
        | refine Ev_assign rfl ?_)
    refine V_done rfl rfl ?_
    exact ⟨rfl, rfl⟩
  · rintro _ _ - ⟨rfl, rfl⟩
    repeat (
      first
        | refine WO_nil ?_
        | refine V_seq ?_
        | refine W_ret ?_
        | refine WO_dst rfl rfl (by kernel_rfl) (by kernel_rfl) ?_
        | refine Ev_assign rfl ?_)
    refine V_done rfl rfl ?_
    exact ⟨rfl, rfl⟩
theorem semi_ne {c : Nat} {l : List Nat} (h : c ≠ 59) : semi (c :: l) = (semi l).map (· + 1) := by
  show (if c = 59 then some 0 else (semi l).map (· + 1)) = _
  rw [if_neg h]
theorem base1_76 (r : List Nat) : base1 (76 :: r) = match semi r with | some k => if nameP (r.take k) then k + 2 else 0 | none => 0 := rfl
theorem base1_d {d : Nat} {r : List Nat} (h : d ≠ 76) : base1 (d :: r) = if d = 73 then 1 else 0 := by rw [base1_cons, if_neg h]
theorem ite_iff {p q : Prop} [Decidable p] [Decidable q] (h : p ↔ q) (a b : Int) : (if p then a else b) = if q then a else b := by
  by_cases hp : p
  · rw [if_pos hp, if_pos (h.1 hp)]
  · rw [if_neg hp, if_neg (fun g => hp (h.2 g))]
/-- the end of the field with which a text may begin -/
def endN (s : List Nat) : Int :=
  let a : Nat := if s.take 1 = [91] then 1 else 0
  if a < s.length ∧ s.getD a 0 = 76 then ixb 59 s 0 + 1 else ((a + 1 : Nat) : Int)
theorem field_one {c : Nat} : fieldP [c] ↔ c = 73 := by
  rw [field_iff]
  constructor
  · rintro (⟨t, h, h2⟩ | h | ⟨n, h, _⟩)
    · cases h
      rcases h2 with h2 | ⟨n, h2, _⟩ <;> cases h2
    · cases h; rfl
    · have := congrArg List.length h
      simp at this
  · rintro rfl; exact .inr (.inl rfl)
theorem field_L {x : List Nat} (_ : ∀ c ∈ x, c ≠ 59) : fieldP (76 :: (x ++ [59])) ↔ nameP x := by
  rw [field_iff]
  constructor
  · rintro (⟨t, h, h2⟩ | h | ⟨n, h, h2⟩)
    · cases h
    · cases h
    · simp at h; rw [h]; exact h2
  · intro h; exact .inr (.inr ⟨x, rfl, h⟩)
theorem field_arr {s : List Nat} : fieldP (91 :: s) ↔ s = [73] ∨ ∃ n, s = 76 :: (n ++ [59]) ∧ nameP n := by
  rw [field_iff]
  constructor
  · rintro (⟨t, h, h2⟩ | h | ⟨n, h, h2⟩)
    · cases h; exact h2
    · cases h
    · cases h
  · intro h; exact .inl ⟨s, rfl, h⟩
theorem split_eq {s : List Nat} : (if endN s < 1 ∨ (s.length : Int) < endN s ∨ ¬ fieldP (s.take (endN s).toNat) then 0 else endN s) = ((oneS s : Nat) : Int) := by
  cases s with
  | nil => simp [endN, oneS]
  | cons c r =>
    by_cases hc : c = 91
    · subst hc
      rw [oneS_cons, if_pos rfl]
      cases r with
      | nil => simp [endN, base1]
      | cons d r =>
        by_cases hd : d = 76
        · subst hd
          have e : endN (91 :: 76 :: r) = ixb 59 (91 :: 76 :: r) 0 + 1 := by unfold endN; simp
          rw [e, ixb_semi]
          have e2 : semi (91 :: 76 :: r) = (semi r).map (· + 2) := by
            rw [semi_ne (by decide), semi_ne (by decide)]
            cases semi r <;> rfl
          rw [e2, base1_76]
          cases hs : semi r with
          | none => simp
          | some k =>
            obtain ⟨h1, h2, h3⟩ := semi_some hs
            have e3 : (91 :: 76 :: r).take (k + 3) = 91 :: 76 :: (r.take k ++ [59]) := by
              conv => lhs; rw [h2]
              rw [show k + 3 = (k + 1) + 2 from rfl, List.take_succ_cons, List.take_succ_cons, List.take_append]
              simp [List.length_take, Nat.min_eq_left (Nat.le_of_lt h1), List.take_take]
            have e4 : fieldP (91 :: 76 :: (r.take k ++ [59])) ↔ nameP (r.take k) := by
              rw [field_arr]
              constructor
              · rintro (h | ⟨n, h, h2⟩)
                · cases h
                · simp at h; rw [h]; exact h2
              · intro h; exact .inr ⟨_, rfl, h⟩
            simp only [Option.map_some]
            obtain ⟨z, hz⟩ : ∃ z : Int, z = ((0 + (k + 2) : Nat) : Int) + 1 := ⟨_, rfl⟩
            have hz2 : z = (k : Int) + 3 := by rw [hz]; simp; omega
            rw [← hz]
            have e5 : z.toNat = k + 3 := by omega
            rw [e5, e3, ite_iff (q := ¬ nameP (r.take k)) ⟨fun h => by rcases h with h | h | h; omega; (simp at h; omega); exact fun g => h (e4.2 g), fun h => .inr (.inr fun g => h (e4.1 g))⟩]
            by_cases hn : nameP (r.take k)
            · rw [if_neg (fun h => h hn), if_pos hn, if_neg (by omega)]; omega
            · rw [if_pos hn, if_neg hn, if_pos rfl]; rfl
        · have e : endN (91 :: d :: r) = 2 := by unfold endN; simp [hd]
          rw [e, base1_d hd]
          have e4 : fieldP ((91 :: d :: r).take ((2 : Int).toNat)) ↔ d = 73 := by
            show fieldP [91, d] ↔ _
            rw [field_arr]
            constructor
            · rintro (h | ⟨n, h, h2⟩)
              · cases h; rfl
              · have := congrArg List.length h; simp at this
            · rintro rfl; exact .inl rfl
          rw [ite_iff (q := ¬ d = 73) ⟨fun h => by rcases h with h | h | h; omega; (simp at h; omega); exact fun g => h (e4.2 g), fun h => .inr (.inr fun g => h (e4.1 g))⟩]
          by_cases hn : d = 73
          · rw [if_neg (fun h => h hn), if_pos hn]; rfl
          · rw [if_pos hn, if_neg hn]; rfl
    · rw [oneS_cons, if_neg hc]
      by_cases hd : c = 76
      · subst hd
        have e : endN (76 :: r) = ixb 59 (76 :: r) 0 + 1 := by unfold endN; simp
        rw [e, ixb_semi]
        have e2 : semi (76 :: r) = (semi r).map (· + 1) := by
          rw [semi_ne (by decide)]
        rw [e2, base1_76]
        cases hs : semi r with
        | none => simp
        | some k =>
          obtain ⟨h1, h2, h3⟩ := semi_some hs
          have e3 : (76 :: r).take (k + 2) = 76 :: (r.take k ++ [59]) := by
            conv => lhs; rw [h2]
            rw [show k + 2 = (k + 1) + 1 from rfl, List.take_succ_cons, List.take_append]
            simp [List.length_take, Nat.min_eq_left (Nat.le_of_lt h1), List.take_take]
          simp only [Option.map_some]
          obtain ⟨z, hz⟩ : ∃ z : Int, z = ((0 + (k + 1) : Nat) : Int) + 1 := ⟨_, rfl⟩
          have hz2 : z = (k : Int) + 2 := by rw [hz]; simp; omega
          rw [← hz]
          have e5 : z.toNat = k + 2 := by omega
          rw [e5, e3, ite_iff (q := ¬ nameP (r.take k)) ⟨fun h => by rcases h with h | h | h; omega; (simp at h; omega); exact fun g => h ((field_L h3).2 g), fun h => .inr (.inr fun g => h ((field_L h3).1 g))⟩]
          by_cases hn : nameP (r.take k)
          · rw [if_neg (fun h => h hn), if_pos hn]; omega
          · rw [if_pos hn, if_neg hn]; rfl
      · have e : endN (c :: r) = 1 := by unfold endN; simp [hc, hd]
        rw [e, base1_d hd]
        rw [ite_iff (q := ¬ c = 73) ⟨fun h => by rcases h with h | h | h; omega; (simp at h; omega); exact fun g => h (field_one.2 g), fun h => .inr (.inr fun g => h (field_one.1 g))⟩]
        by_cases hn : c = 73
        · rw [if_neg (fun h => h hn), if_pos hn]; rfl
        · rw [if_pos hn, if_neg hn]; rfl
theorem ixb_range (s : List Nat) : -1 ≤ ixb 59 s 0 ∧ ixb 59 s 0 < s.length := by
  rw [ixb_semi]
  cases h : semi s with
  | none => simp; omega
  | some k => have := (semi_some h).1; simp; omega
theorem split_runs {S : St} {s : List Nat} (hs : s.length < 9223372036854775808) : Runs X1 28 [.str s] S fun v S' => S' = S ∧ v = .int .i64 ((oneS s : Nat) : Int) := by
  rw [← split_eq]
  have hr := ixb_range s
  refine Runs_fn (m := 38) (by kernel_rfl) Try.func28 rfl (by kernel_rfl) (by kernel_rfl) ?_
  repeat' (
    first
      | refine W_seq ?_
      | refine WO_nil ?_
      | refine V_seq ?_
      | refine W_region ?_
      | refine WO_dst rfl rfl (by kernel_rfl) (by kernel_rfl) ?_
      | refine Ev_move rfl ?_
      | refine Ev_assign rfl ?_)
  refine Ev_call rfl rfl ((shasp_runs (p := [91])).mono ?_)
  rintro _ _ - ⟨rfl, rfl⟩
  rename_i S
  obtain ⟨a, ha, hae⟩ : ∃ a : Nat, a ≤ 1 ∧ (endN s = if a < s.length ∧ s.getD a 0 = 76 then ixb 59 s 0 + 1 else ((a + 1 : Nat) : Int)) ∧ a = if s.take 1 = [91] then 1 else 0 := ⟨if s.take 1 = [91] then 1 else 0, by split <;> omega, rfl, rfl⟩
  repeat' (
    first
      | refine WO_nil ?_
      | refine V_seq ?_)
  refine W_cut (fun l' T => T = S ∧ sub [(3, .int .i64 ((a : Nat) : Int)), (0, .str s)] l') ?_ ?_
  · obtain ⟨_, hae⟩ := hae
    by_cases hb : s.take 1 = [91]
    · rw [decide_eq_true (show s.take [91].length = [91] from hb)]
      rw [if_pos hb] at hae
      subst hae
      repeat' (
        first
          | refine WO_nil ?_
          | refine W_region ?_
          | refine W_cond_t rfl ?_
          | refine WO_dst rfl rfl (by kernel_rfl) (by kernel_rfl) ?_
          | refine Ev_assign rfl ?_)
      exact V_mid ⟨rfl, rfl, rfl, trivial⟩
    · rw [decide_eq_false (show ¬ s.take [91].length = [91] from hb)]
      rw [if_neg hb] at hae
      subst hae
      repeat' (
        first
          | refine W_skip ?_
          | refine W_cond_f rfl ?_)
      exact V_mid ⟨rfl, rfl, rfl, trivial⟩
  obtain ⟨hae, _⟩ := hae
  rintro l' T ⟨rfl, hsub⟩
  refine V_weak hsub ?_
  repeat' (
    first
      | refine W_seq ?_
      | refine WO_nil ?_
      | refine V_seq ?_
      | refine W_region ?_
      | refine WO_dst rfl rfl (by kernel_rfl) (by kernel_rfl) ?_
      | refine WO_guard_t rfl rfl rfl rfl rfl (by kernel_rfl) (by kernel_rfl) ?_
      | refine WO_guard_f rfl rfl rfl rfl rfl rfl (by kernel_rfl) (by kernel_rfl) ?_
      | refine Ev_index rfl rfl rfl rfl (get_some (by first | omega | (dsimp only; omega))) ?_
      | refine Ev_move rfl ?_
      | refine Ev_assign rfl ?_
      | refine Ev_pick_t rfl rfl rfl ?_
      | refine Ev_pick_f rfl rfl rfl ?_
      | refine Ev_lssN rfl rfl ?_
      | refine Ev_eqlN rfl rfl ?_
      | refine Ev_len_str rfl rfl rfl rfl rfl ?_
      | refine Ev_addN rfl rfl (by simp only [lim]; omega) ?_
      | (refine WO_guard_dt rfl rfl rfl rfl rfl (by kernel_rfl) (by kernel_rfl) (fun hg => ?_) (fun hg => ?_) <;> (try dsimp only at hg) <;> try (exfalso; first | omega | exact hg rfl)))
  all_goals
    refine W_cut (fun l' T' => T' = T ∧ sub [(4, .int .i64 (endN s)), (0, .str s)] l') ?_ ?_
    · first
        | (by_cases h76 : s.getD a 0 = 76
           · rw [if_pos ⟨by omega, h76⟩] at hae
             rw [decide_eq_true h76]
             repeat' (
               first
                 | refine W_region ?_
                 | refine W_cond_t rfl ?_
                 | refine WO_dst rfl rfl (by kernel_rfl) (by kernel_rfl) ?_
                 | refine Ev_move rfl ?_)
             refine Ev_call rfl rfl (sixb_runs.mono ?_)
             rintro _ _ - ⟨rfl, rfl⟩
             repeat' (
               first
                 | refine WO_nil ?_
                 | refine WO_dst rfl rfl (by kernel_rfl) (by kernel_rfl) ?_
                 | refine Ev_assign rfl ?_
                 | refine Ev_add rfl rfl (by simp only [inR]; omega) ?_)
             exact V_mid ⟨rfl, by show some (AV.int .i64 (ixb 59 s 0 + 1)) = _; rw [hae], rfl, trivial⟩
           · rw [if_neg (fun h => h76 h.2)] at hae
             rw [decide_eq_false h76]
             repeat' (
               first
                 | refine W_skip ?_
                 | refine W_cond_f rfl ?_)
             exact V_mid ⟨rfl, by rw [hae]; rfl, rfl, trivial⟩)
        | (rw [if_neg (fun h => by have := h.1; omega)] at hae
           repeat' (
             first
               | refine W_skip ?_
               | refine W_cond_f rfl ?_)
           exact V_mid ⟨rfl, by rw [hae]; rfl, rfl, trivial⟩)
    · rintro l'' T' ⟨rfl, hsub⟩
      refine V_weak hsub ?_
      generalize endN s = z
      by_cases hz : z < 1
      · rw [if_pos (.inl hz)]
        repeat' (
          first
            | refine W_seq ?_
            | refine WO_nil ?_
            | refine V_seq ?_
            | refine W_region ?_
            | refine W_ret ?_
            | refine V_ret ?_
            | refine W_cond_t rfl ?_
            | refine WO_dst rfl rfl (by kernel_rfl) (by kernel_rfl) ?_
            | refine WO_guard_f rfl rfl rfl rfl rfl rfl (by kernel_rfl) (by kernel_rfl) ?_
            | refine Ev_move rfl ?_
            | refine Ev_assign rfl ?_
            | refine Ev_pick_t rfl rfl rfl ?_
            | refine Ev_lss rfl rfl ?_
            | (refine WO_guard_df rfl rfl rfl rfl rfl (by kernel_rfl) (by kernel_rfl) (fun hg => ?_) (fun hg => ?_) <;> (try dsimp only at hg) <;> try (exfalso; first | omega | exact hg rfl)))
        refine V_done rfl rfl ?_
        exact ⟨rfl, rfl⟩
      · obtain ⟨m, rfl⟩ : ∃ m : Nat, z = (m : Int) := ⟨z.toNat, by omega⟩
        rw [Int.toNat_natCast]
        repeat' (
          first
            | refine W_seq ?_
            | refine WO_nil ?_
            | refine V_seq ?_
            | refine W_region ?_
            | refine W_ret ?_
            | refine V_ret ?_
            | refine W_cond_t rfl ?_
            | refine WO_dst rfl rfl (by kernel_rfl) (by kernel_rfl) ?_
            | refine WO_guard_t rfl rfl rfl rfl rfl (by kernel_rfl) (by kernel_rfl) ?_
            | refine WO_guard_f rfl rfl rfl rfl rfl rfl (by kernel_rfl) (by kernel_rfl) ?_
            | refine Ev_slice_str (lo' := none) (hi' := some (.int .i64 ((m : Nat) : Int))) (mx' := none) rfl rfl rfl rfl rfl rfl (str_hi (by omega)) ?_
            | refine Ev_move rfl ?_
            | refine Ev_assign rfl ?_
            | refine Ev_pick_t rfl rfl rfl ?_
            | refine Ev_pick_f rfl rfl rfl ?_
            | refine Ev_lssN rfl rfl ?_
            | refine Ev_gtrN rfl rfl ?_
            | refine Ev_len_str rfl rfl rfl rfl rfl ?_
            | (refine WO_guard_df rfl rfl rfl rfl rfl (by kernel_rfl) (by kernel_rfl) (fun hg => ?_) (fun hg => ?_) <;> (try dsimp only at hg) <;> try (exfalso; first | omega | exact hg rfl)))
        all_goals first
          | (refine V_done rfl rfl ⟨rfl, ?_⟩
             rw [if_pos (by omega)]; rfl)
          | (refine Ev_call rfl rfl ((field_runs (by rw [List.length_take]; omega)).mono ?_)
             rintro _ _ - ⟨rfl, rfl⟩
             repeat' (
               first
                 | refine W_seq ?_
                 | refine WO_nil ?_
                 | refine V_seq ?_
                 | refine W_region ?_
                 | refine W_skip ?_
                 | refine W_ret ?_
                 | refine V_ret ?_
                 | refine WO_dst rfl rfl (by kernel_rfl) (by kernel_rfl) ?_
                 | refine WO_guard_t rfl rfl rfl rfl rfl (by kernel_rfl) (by kernel_rfl) ?_
                 | refine Ev_move rfl ?_
                 | refine Ev_assign rfl ?_
                 | refine Ev_pick_f rfl rfl rfl ?_
                 | refine Ev_not rfl ?_
                 | (refine W_cond rfl (fun hc => ?_) (fun hc => ?_) <;> (try dsimp only at hc) <;> try (exfalso; first | omega | exact hc rfl)))
             · refine V_done rfl rfl ⟨rfl, ?_⟩
               rw [if_pos (.inr (.inr hc))]; rfl
             · refine V_done rfl rfl ⟨rfl, ?_⟩
               rw [if_neg (fun h => by rcases h with h | h | h; omega; omega; exact hc h)]; rfl)
end Go.Proofs.Ytdhfjkikoiifcaa
