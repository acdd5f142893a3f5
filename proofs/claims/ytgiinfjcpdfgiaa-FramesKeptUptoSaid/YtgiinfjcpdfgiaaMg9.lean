/- What the row leans on, part 9: texts one behind the other. No condition. -/
import Derived.Test.YtgiinfjcpdfgiaaMg8
import Derived.KernelRfl
import Derived.Test.YtgiinfjcpdfgiaaMg6
/- GX: a region that draws its order gives what the text's order gives, where reads look at blocks that later loud operations leave alone. -/

namespace GX
open Go
section
variable {X : X} {rec : Rec} {n : Nat} {ops : List Oper} {e : Env} {h0 : Tr AB}
def RFF (X : _root_.GX.X) (n : Nat) (ops : List Oper) (N0 : Nat) (e : Env) (h0 : Tr AB) (recs : List R) (lds : List Nat) (i : Nat) (o : Oper) (r : R) : Prop :=
  r.k = .rd → ∃ l1 l2 ei, lds = l1 ++ l2 ∧ (∀ j ∈ l1, j < i) ∧ (∀ j ∈ l2, i < j) ∧ (∀ t ∈ looks ops o, lookT (masks ops []) ops (recs.take i) e i t = some (ei.at t)) ∧ (∀ t ∈ looks ops o, t < n) ∧
    sk X o.op = .read ∧ veq r.v r.v = true ∧ ((rdStat (masks ops []) (ops.map (fun o => sk X o.op)) i = true ∧ readOp X ei (gh (masks ops []) l1 (fun _ => true) (recs.take i) 0 (hOf (recs.take i) h0 l1)) o.op = some r.v) ∨ ∃ D, FPD X D (masks ops []) i ei o.op r.v ∧ ∀ f ∈ D, FI (masks ops []) N0 h0 recs f)
theorem plan_seqF {N0 : Nat} (hn : n < 1000001) (hE : edgesOk ops 0 = true) (hD : dstsOk n ops = true) (hK : seqB1 ops (masks ops []) (ops.map (fun o => sk X o.op)) n ops 0 = true) :
    ∀ (D : List Fct) (os pre : List Oper) (acc : List R) (lds : List Nat) (S : St) (ei : Env) (e' : Env) (S' : St), ops = pre ++ os → acc.length = pre.length → putAll n pre acc e = some ei →
    (∀ (k : Nat) (r : R) b, acc[k]? = some r → r.k = .mk b → (ops.map (fun o => sk X o.op)).getD k .pure = .alloc ∧ N0 ≤ r.n0 ∧ r.n0 < 1000000000) →
    (∀ f ∈ D, FI (masks ops []) N0 h0 acc f) →
    (∀ (k : Nat) (r : R), acc[k]? = some r → r.isL → k ∈ lds) → (∀ (q q' : Nat) (r r' : R), q < q' → acc[q]? = some r → acc[q']? = some r' → r.n1 ≤ r'.n0) → (∀ (q : Nat) (r : R), acc[q]? = some r → r.n1 ≤ S.n) →
    N0 ≤ S.n →
    (∀ j ∈ lds, j < pre.length ∧ isLC ((ops.map (fun o => sk X o.op)).getD j .pure) = true ∧ ∃ r, acc[j]? = some r ∧ r.isL) →
    lds.Pairwise (· < ·) →
    S.h = gh (masks ops []) lds (fun _ => true) acc 0 (hOf acc h0 lds) →
    RunF X rec n ops D os pre.length ei S e' S' →
    ∃ tl l2, plan X rec n ops (masks ops []) e os pre.length acc lds (hOf acc h0 lds) S.n = some (acc ++ tl, lds ++ l2, S'.n) ∧
      (∀ j ∈ l2, pre.length ≤ j ∧ isLC ((ops.map (fun o => sk X o.op)).getD j .pure) = true) ∧ putAll n ops (acc ++ tl) e = some e' ∧
      S'.h = gh (masks ops []) (lds ++ l2) (fun _ => true) (acc ++ tl) 0 (hOf (acc ++ tl) h0 (lds ++ l2)) ∧ tl.length = os.length ∧ (lds ++ l2).Pairwise (· < ·) ∧ (∀ (k : Nat) (r : R) b, (acc ++ tl)[k]? = some r → r.k = .mk b → (ops.map (fun o => sk X o.op)).getD k .pure = .alloc ∧ N0 ≤ r.n0 ∧ r.n0 < 1000000000) ∧ (∀ f ∈ D, FI (masks ops []) N0 h0 (acc ++ tl) f) ∧ (∀ (k : Nat) (r : R), (acc ++ tl)[k]? = some r → r.isL → k ∈ lds ++ l2) ∧ (∀ (q q' : Nat) (r r' : R), q < q' → (acc ++ tl)[q]? = some r → (acc ++ tl)[q']? = some r' → r.n1 ≤ r'.n0) ∧ (∀ j ∈ lds ++ l2, ∃ r, (acc ++ tl)[j]? = some r ∧ r.isL) ∧
      ∀ (k : Nat) (o : Oper) (r : R), os[k]? = some o → tl[k]? = some r → RFF X n ops N0 e h0 (acc ++ tl) (lds ++ l2) (pre.length + k) o r
  | D, [], pre, acc, lds, S, ei, e', S', hp, hl, hput, hmk, hF, hal, hmo, _, _, hld, hpw, hh, h => by
    unfold RunF at h
    obtain ⟨rfl, rfl⟩ := h
    refine ⟨[], [], ?_, fun j hj => by simp at hj, ?_, ?_, rfl, by simpa using hpw, by simpa using hmk, by simpa using hF, by simpa using hal, by simpa using hmo, fun j hj => by simpa using (hld j (by simpa using hj)).2.2, fun k o r hk => by simp at hk⟩
    · simp [plan]
    · simp only [List.append_nil] at hp ⊢; rw [hp]; exact hput
    · simpa using hh
  | D, o :: os, pre, acc, lds, S, ei, e', S', hp, hl, hput, hmk, hF, hal, hmo, hmn, hN, hld, hpw, hh, h => by
    have ho : ops[pre.length]? = some o := by rw [hp]; simp
    have hsk : (ops.map (fun o => sk X o.op)).getD pre.length .pure = sk X o.op := by
      rw [List.getD_eq_getElem?_getD, List.getElem?_map, ho]; rfl
    obtain ⟨hk1, hk2⟩ := seqB1_at hK pre.length o ho
    simp only [Nat.zero_add] at hk1 hk2
    rw [hsk] at hk2
    have hlk := looks_seq hn hE hD hp hl hput hk1
    obtain ⟨re, hre, hag⟩ := renv_good (es := ei) hn hlk
    have hoe : OE re ei o.op := OE_of hag
    have hp' : ops = (pre ++ [o]) ++ os := by rw [hp]; simp
    -- what goes on behind
    have fin : ∀ (r : R) (ldn : List Nat) (S1 : St) (e1 : Env) (N : List Fct), setDst n ei o.dst r.v = some e1 → (∀ b, r.k = .mk b → sk X o.op = .alloc ∧ N0 ≤ r.n0 ∧ r.n0 < 1000000000) → (∀ h' m, r.k = .ld h' m → ∀ f ∈ D, h'.get f.id = some f.x) → (∀ f ∈ N, FI (masks ops []) N0 h0 (acc ++ [r]) f) → r.n0 = S.n → r.n1 = S1.n → S.n ≤ S1.n → N0 ≤ S1.n → (ldn = [] ∧ ¬ r.isL ∨ ldn = [pre.length] ∧ isLC (sk X o.op) = true ∧ r.isL) →
        S1.h = gh (masks ops []) (lds ++ ldn) (fun _ => true) (acc ++ [r]) 0 (hOf (acc ++ [r]) h0 (lds ++ ldn)) →
        (r.k = .rd → ldn = [] ∧ sk X o.op = .read ∧ veq r.v r.v = true ∧ ((rdStat (masks ops []) (ops.map (fun o => sk X o.op)) pre.length = true ∧ readOp X ei S.h o.op = some r.v) ∨ FPD X D (masks ops []) pre.length ei o.op r.v)) →
        RunF X rec n ops (D ++ N) os (pre.length + 1) e1 S1 e' S' →
        plan X rec n ops (masks ops []) e (o :: os) pre.length acc lds (hOf acc h0 lds) S.n = plan X rec n ops (masks ops []) e os (pre.length + 1) (acc ++ [r]) (lds ++ ldn) (hOf (acc ++ [r]) h0 (lds ++ ldn)) S1.n →
        ∃ tl l2, plan X rec n ops (masks ops []) e (o :: os) pre.length acc lds (hOf acc h0 lds) S.n = some (acc ++ tl, lds ++ l2, S'.n) ∧
          (∀ j ∈ l2, pre.length ≤ j ∧ isLC ((ops.map (fun o => sk X o.op)).getD j .pure) = true) ∧ putAll n ops (acc ++ tl) e = some e' ∧
          S'.h = gh (masks ops []) (lds ++ l2) (fun _ => true) (acc ++ tl) 0 (hOf (acc ++ tl) h0 (lds ++ l2)) ∧ tl.length = (o :: os).length ∧ (lds ++ l2).Pairwise (· < ·) ∧ (∀ (k : Nat) (r : R) b, (acc ++ tl)[k]? = some r → r.k = .mk b → (ops.map (fun o => sk X o.op)).getD k .pure = .alloc ∧ N0 ≤ r.n0 ∧ r.n0 < 1000000000) ∧ (∀ f ∈ D, FI (masks ops []) N0 h0 (acc ++ tl) f) ∧ (∀ (k : Nat) (r : R), (acc ++ tl)[k]? = some r → r.isL → k ∈ lds ++ l2) ∧ (∀ (q q' : Nat) (r r' : R), q < q' → (acc ++ tl)[q]? = some r → (acc ++ tl)[q']? = some r' → r.n1 ≤ r'.n0) ∧ (∀ j ∈ lds ++ l2, ∃ r, (acc ++ tl)[j]? = some r ∧ r.isL) ∧
          ∀ (k : Nat) (o' : Oper) (r : R), (o :: os)[k]? = some o' → tl[k]? = some r → RFF X n ops N0 e h0 (acc ++ tl) (lds ++ l2) (pre.length + k) o' r := by
      intro r ldn S1 e1 N hset hmk1 hlb1 hNf hr0 hr1 hnS1 hN1 hldn hh1 hrd hrun hplan
      have hlast : ∀ (k : Nat) (r' : R), (acc ++ [r])[k]? = some r' → acc[k]? = some r' ∨ (k = acc.length ∧ r' = r) := by
        intro k r' hk
        by_cases hlt : k < acc.length
        · rw [List.getElem?_append_left hlt] at hk; exact .inl hk
        · have h2 : k = acc.length := by
            have := (List.getElem?_eq_some_iff.1 hk).1
            simp at this; omega
          subst h2
          simp at hk; exact .inr ⟨rfl, hk.symm⟩
      obtain ⟨tl, l2, p1, p2, p3, p4, p5, ppw, pmk, pF, pal, pmo, pld, p6⟩ := plan_seqF hn hE hD hK (D ++ N) os (pre ++ [o]) (acc ++ [r]) (lds ++ ldn) S1 e1 e' S' hp' (by simp [hl]) (putAll_snoc hput hset)
        (by
          intro k r' b hk hb
          by_cases hlt : k < acc.length
          · rw [List.getElem?_append_left hlt] at hk; exact hmk k r' b hk hb
          · have : k = acc.length := by
              have := (List.getElem?_eq_some_iff.1 hk).1
              simp at this; omega
            subst this
            simp at hk; subst hk
            rw [hl, hsk]; exact hmk1 b hb)
        (by
          intro f hf
          rcases List.mem_append.1 hf with hf | hf
          · exact FI_snoc (hF f hf) (fun h' m hk => hlb1 h' m hk f hf)
          · exact hNf f hf)
        (by
          intro k r' hk hkl
          rcases hlast k r' hk with hk | ⟨rfl, rfl⟩
          · exact List.mem_append_left _ (hal k r' hk hkl)
          · rcases hldn with ⟨_, hq⟩ | ⟨hq, _⟩
            · exact absurd hkl hq
            · rw [hq, hl]; simp)
        (by
          intro q q' r1 r2 hlt h1 h2
          rcases hlast q' r2 h2 with h2 | ⟨rfl, rfl⟩
          · have hlt2 := (List.getElem?_eq_some_iff.1 h2).1
            rcases hlast q r1 h1 with h1 | ⟨rfl, rfl⟩
            · exact hmo q q' r1 r2 hlt h1 h2
            · omega
          · rcases hlast q r1 h1 with h1 | ⟨rfl, rfl⟩
            · rw [hr0]; exact hmn q r1 h1
            · omega)
        (by
          intro q r1 h1
          rcases hlast q r1 h1 with h1 | ⟨rfl, rfl⟩
          · have h2 := hmn q r1 h1
            have h3 : r.n0 ≤ r.n1 := by
              rw [hr1, hr0]; exact hnS1
            omega
          · omega)
        hN1
        (by
          intro j hj
          rw [List.mem_append] at hj
          rcases hj with hj | hj
          · obtain ⟨g1, g2, r', g3, g4⟩ := hld j hj; exact ⟨by simp; omega, g2, r', by rw [List.getElem?_append_left (List.getElem?_eq_some_iff.1 g3).1]; exact g3, g4⟩
          · rcases hldn with ⟨hq, _⟩ | ⟨hq, hq2, hq3⟩
            · rw [hq] at hj; simp at hj
            · rw [hq] at hj; simp at hj; subst hj; exact ⟨by simp, by rw [hsk]; exact hq2, r, by rw [← hl]; simp, hq3⟩)
        (by
          rw [List.pairwise_append]
          refine ⟨hpw, ?_, fun a ha b hb => ?_⟩
          · rcases hldn with ⟨hq, _⟩ | ⟨hq, _⟩ <;> rw [hq] <;> simp
          · rcases hldn with ⟨hq, _⟩ | ⟨hq, _⟩
            · rw [hq] at hb; simp at hb
            · rw [hq] at hb; simp at hb; subst hb; exact (hld a ha).1)
        hh1 (by rw [List.length_append, List.length_singleton]; exact hrun)
      rw [List.length_append, List.length_singleton] at p1
      refine ⟨r :: tl, ldn ++ l2, ?_, ?_, ?_, ?_, by simp [p5], by simpa using ppw, by simpa using pmk, fun f hf => by simpa using pF f (List.mem_append_left _ hf), by simpa using pal, by simpa using pmo, by simpa using pld, ?_⟩
      · rw [hplan, p1]; simp
      · intro j hj
        rw [List.mem_append] at hj
        rcases hj with hj | hj
        · rcases hldn with ⟨hq, _⟩ | ⟨hq, hq2, _⟩
          · rw [hq] at hj; simp at hj
          · rw [hq] at hj; simp at hj; subst hj; exact ⟨Nat.le_refl _, by rw [hsk]; exact hq2⟩
        · have h1 := (p2 j hj).1; simp only [List.length_append, List.length_singleton] at h1; exact ⟨by omega, (p2 j hj).2⟩
      · rw [← p3]; simp
      · rw [p4]; simp
      · intro k o' r' hk hr'
        cases k with
        | zero =>
          simp at hk hr'; subst hk; subst hr'
          intro hrk
          obtain ⟨q1, q2, q4, q3⟩ := hrd hrk
          subst q1
          refine ⟨lds, l2, ei, by simp, fun j hj => by have := (hld j hj).1; simpa using this, fun j hj => by have := (p2 j hj).1; simp only [List.length_append, List.length_singleton] at this; omega, ?_, fun t ht => (hlk t ht).1, q2, q4, q3.imp (fun q => ⟨by simpa using q.1, ?_⟩) (fun q => ⟨D, by simpa using q, fun f hf => by simpa using pF f (List.mem_append_left _ hf)⟩)⟩
          · intro t ht
            have : (acc ++ r :: tl).take (pre.length + 0) = acc := by rw [Nat.add_zero, ← hl]; simp
            rw [this]
            exact (hlk t ht).2
          · have : (acc ++ r :: tl).take (pre.length + 0) = acc := by rw [Nat.add_zero, ← hl]; simp
            rw [this, ← hh]; exact q.2
        | succ k =>
          have := p6 k o' r' (by simpa using hk) (by simpa using hr')
          simp only [List.length_append, List.length_singleton, List.append_assoc, List.singleton_append] at this
          rw [show pre.length + (k + 1) = pre.length + 1 + k by omega]
          exact this
    have hwc : wanted ops re o = wanted ops ei o := wanted_congr hag
    have hldlt : ∀ j ∈ lds, j < (acc).length := fun j hj => by rw [hl]; exact (hld j hj).1
    have hOfs : ∀ r : R, hOf (acc ++ [r]) h0 lds = hOf acc h0 lds := fun r => hOf_append hldlt
    have hgs : ∀ r : R, (∀ b, r.k ≠ .mk b) → gh (masks ops []) lds (fun _ => true) (acc ++ [r]) 0 (hOf (acc ++ [r]) h0 lds) = S.h := by
      intro r hr
      rw [hOfs, gh_snoc, ← hh]
      unfold ghStep
      split
      · rename_i b hb; exact absurd hb (hr b)
      · rfl
    have hgc : (∀ (k : Nat), k < pre.length → (ops.map (fun o => sk X o.op)).getD k .pure = .alloc → inM (masks ops []) pre.length k = true) → gh (masks ops []) lds (inM (masks ops []) pre.length) acc 0 (hOf acc h0 lds) = S.h := by
      intro hq
      rw [hh]
      apply gh_congr
      intro k r b h1 h2
      have hkl : k < pre.length := by have := (List.getElem?_eq_some_iff.1 h1).1; omega
      simp only [Nat.zero_add]
      exact hq k hkl (hmk k r b h1 h2).1
    have hgB : ∀ f ∈ D, (∀ j, f.src = some j → inM (masks ops []) pre.length j = true) → (gh (masks ops []) lds (inM (masks ops []) pre.length) acc 0 (hOf acc h0 lds)).get f.id = some f.x := by
      intro f hf hu
      refine FI_get (fun k r b h1 h2 => (hmk k r b h1 h2).2) hmo hpw (fun j hj => (hld j hj).2.2) (fun j k => inM_lt hE j k) (hF f hf) (fun j hj => ⟨hu j hj, fun ⟨r, h1, h2⟩ => hal j r h1 h2⟩)
    unfold RunF at h
    rcases h with ⟨hw, v, S1, e1, N, hop, he1, hb, hrdc, hlc, hNf, h⟩ | ⟨hw, e1, he1, h⟩
    case inr =>
      refine fin ⟨.tup [], S.n, .val⟩ [] S e1 [] he1 (fun b hb => by cases hb) (fun h' m hb => by cases hb) (fun f hf => by cases hf) rfl rfl (Nat.le_refl _) hN (.inl ⟨rfl, fun ⟨_, _, q⟩ => by cases q⟩) ?_ (fun hb => by cases hb) (by rw [List.append_nil]; exact h) ?_
      · rw [List.append_nil, hgs _ (fun b hb => by cases hb)]
      · conv => lhs; unfold plan
        rw [hre]; dsimp only; rw [hwc, hw]; simp only [cond_false, List.append_nil]
        rw [hOfs]
    case inl =>
      have hck := sk_ok hop
      have hclr : cls X re o.op = cls X ei o.op := cls_congr hoe
      have hN1 : N0 ≤ S1.n := Nat.le_trans hN (oper_n hop)
      have hloud : isLC (cls X ei o.op) = true →
        ∃ tl l2, plan X rec n ops (masks ops []) e (o :: os) pre.length acc lds (hOf acc h0 lds) S.n = some (acc ++ tl, lds ++ l2, S'.n) ∧
          (∀ j ∈ l2, pre.length ≤ j ∧ isLC ((ops.map (fun o => sk X o.op)).getD j .pure) = true) ∧ putAll n ops (acc ++ tl) e = some e' ∧
          S'.h = gh (masks ops []) (lds ++ l2) (fun _ => true) (acc ++ tl) 0 (hOf (acc ++ tl) h0 (lds ++ l2)) ∧ tl.length = (o :: os).length ∧ (lds ++ l2).Pairwise (· < ·) ∧ (∀ (k : Nat) (r : R) b, (acc ++ tl)[k]? = some r → r.k = .mk b → (ops.map (fun o => sk X o.op)).getD k .pure = .alloc ∧ N0 ≤ r.n0 ∧ r.n0 < 1000000000) ∧ (∀ f ∈ D, FI (masks ops []) N0 h0 (acc ++ tl) f) ∧ (∀ (k : Nat) (r : R), (acc ++ tl)[k]? = some r → r.isL → k ∈ lds ++ l2) ∧ (∀ (q q' : Nat) (r r' : R), q < q' → (acc ++ tl)[q]? = some r → (acc ++ tl)[q']? = some r' → r.n1 ≤ r'.n0) ∧ (∀ j ∈ lds ++ l2, ∃ r, (acc ++ tl)[j]? = some r ∧ r.isL) ∧
          ∀ (k : Nat) (o' : Oper) (r : R), (o :: os)[k]? = some o' → tl[k]? = some r → RFF X n ops N0 e h0 (acc ++ tl) (lds ++ l2) (pre.length + k) o' r := by
        intro hlc0
        have hs : cls X ei o.op = sk X o.op := by
          rcases hck with hq | hq
          · rw [hq] at hlc0; cases hlc0
          · exact hq
        have hlc1 := hlc hlc0
        rw [hs] at hlc0
        have hbef : bef (masks ops []) (ops.map (fun o => sk X o.op)) pre.length isAll = true := hk2 hlc0
        have hg := hgc (fun k hk hq => bef_at hbef hk (by rw [hq]; rfl))
        have hall : lds.all (fun j => inM (masks ops []) pre.length j) = true := by
          apply List.all_eq_true.2
          intro j hj
          obtain ⟨q1, q2, -⟩ := hld j hj
          exact bef_at hbef q1 (by cases hq : (ops.map (fun o => sk X o.op)).getD j .pure <;> rw [hq] at q2 <;> first | rfl | cases q2)
        have hop' : oper X rec re { h := gh (masks ops []) lds (inM (masks ops []) pre.length) acc 0 (hOf acc h0 lds), n := S.n } o.op = some (v, S1) := by
          rw [hg, oper_congr hoe]; exact hop
        refine fin ⟨v, S.n, .ld S1.h S1.n⟩ [pre.length] S1 e1 N he1 (fun b hb => by cases hb) (fun h' m hb => by cases hb; exact hlc1) (fun f hf => ?_) rfl rfl (oper_n hop) hN1 (.inr ⟨rfl, hlc0, _, _, rfl⟩) ?_ (fun hb => by cases hb) h ?_
        · obtain ⟨n1, n2, n3, _⟩ := hNf f hf
          refine .inr ⟨pre.length, ⟨v, S.n, .ld S1.h S1.n⟩, n1, by rw [← hl]; simp, .inr ⟨_, _, rfl, n3, n2, ?_⟩, ?_⟩
          · intro k r b hk hb hlt
            rw [List.getElem?_append_left (by omega)] at hk
            exact bef_at hbef hlt (by rw [(hmk k r b hk hb).1]; rfl)
          · intro k r h' m hk _ hlt
            have := (List.getElem?_eq_some_iff.1 hk).1
            simp at this; omega
        · rw [gh_snoc]
          have : hOf (acc ++ [(⟨v, S.n, .ld S1.h S1.n⟩ : R)]) h0 (lds ++ [pre.length]) = S1.h := hOf_snoc (r := ⟨v, S.n, .ld S1.h S1.n⟩) (m := S1.n) (by rw [← hl]; simp) rfl
          rw [this, gh_had (fun q r b h1 h2 => by
            have hkl : q < pre.length := by have := (List.getElem?_eq_some_iff.1 h1).1; omega
            rw [Nat.zero_add]
            exact bef_at hbef hkl (by rw [(hmk q r b h1 h2).1]; rfl))]
          rfl
        · conv => lhs; unfold plan
          rw [hre]; dsimp only; rw [hwc, hw]; simp only [cond_true]
          have : hOf (acc ++ [(⟨v, S.n, .ld S1.h S1.n⟩ : R)]) h0 (lds ++ [pre.length]) = S1.h := hOf_snoc (r := ⟨v, S.n, .ld S1.h S1.n⟩) (m := S1.n) (by rw [← hl]; simp) rfl
          rw [hclr, hs]
          cases hskc : sk X o.op with
          | loud => dsimp only; rw [hall]; simp only [cond_true]; rw [hop']; dsimp only; rw [this]
          | call => dsimp only; rw [hall]; simp only [cond_true]; rw [hop']; dsimp only; rw [this]
          | _ => rw [hskc] at hlc0; cases hlc0
      cases hc : cls X ei o.op with
      | loud => exact hloud (by rw [hc]; rfl)
      | call => exact hloud (by rw [hc]; rfl)
      | pure =>
        unfold oper at hop
        rw [hc] at hop
        dsimp only at hop
        split at hop
        · cases hop
        · rename_i v' hv
          cases hop
          have hN0 : N = [] := by
            cases N with
            | nil => rfl
            | cons f N => exfalso; have := (hNf f (List.mem_cons_self ..)).2.2.2; rw [hc] at this; exact absurd this (by rintro (q | ⟨q, _⟩) <;> cases q)
          subst hN0
          refine fin ⟨v, S.n, .val⟩ [] S e1 [] he1 (fun b hb => by cases hb) (fun h' m hb => by cases hb) (fun f hf => by cases hf) rfl rfl (Nat.le_refl _) hN (.inl ⟨rfl, fun ⟨_, _, q⟩ => by cases q⟩) ?_ (fun hb => by cases hb) h ?_
          · rw [List.append_nil, hgs _ (fun b hb => by cases hb)]
          · conv => lhs; unfold plan
            rw [hre]; dsimp only; rw [hwc, hw]; simp only [cond_true, List.append_nil]
            rw [hclr, hc]; dsimp only; rw [pureOp_congr hoe, hv]; dsimp only; rw [hOfs]
      | read =>
        have hs : sk X o.op = .read := by
          rcases hck with hq | hq
          · rw [hq] at hc; cases hc
          · rw [← hq]; exact hc
        have hrdc' := hrdc hc
        unfold oper at hop
        rw [hc] at hop
        dsimp only at hop
        split at hop
        · cases hop
        · rename_i v' hv
          cases hop
          rw [hc] at hb
          have hrd2 : readOp X ei (gh (masks ops []) lds (inM (masks ops []) pre.length) acc 0 (hOf acc h0 lds)) o.op = some v := by
            rcases hrdc' with hst | hfp
            · have hst' := hst
              unfold rdStat at hst'
              rw [Bool.and_eq_true] at hst'
              rw [hgc (fun k hk hq => bef_at hst'.1 hk (by rw [hq]; rfl))]; exact hv
            · exact hfp _ hgB
          have hN0 : N = [] := by
            cases N with
            | nil => rfl
            | cons f N => exfalso; have := (hNf f (List.mem_cons_self ..)).2.2.2; rw [hc] at this; exact absurd this (by rintro (q | ⟨q, _⟩) <;> cases q)
          subst hN0
          refine fin ⟨v, S.n, .rd⟩ [] S e1 [] he1 (fun b hb => by cases hb) (fun h' m hb => by cases hb) (fun f hf => by cases hf) rfl rfl (Nat.le_refl _) hN (.inl ⟨rfl, fun ⟨_, _, q⟩ => by cases q⟩) ?_ (fun _ => ⟨rfl, hs, hb, hrdc'.imp (fun q => ⟨q, hv⟩) (fun q => q)⟩) h ?_
          · rw [List.append_nil, hgs _ (fun b hb => by cases hb)]
          · conv => lhs; unfold plan
            rw [hre]; dsimp only; rw [hwc, hw]; simp only [cond_true, List.append_nil]
            rw [hclr, hc]; dsimp only; rw [readOp_congr hoe, hrd2]; dsimp only; rw [hOfs]
      | alloc =>
        have hs : sk X o.op = .alloc := by
          rcases hck with hq | hq
          · rw [hq] at hc; cases hc
          · rw [← hq]; exact hc
        unfold oper at hop
        rw [hc] at hop
        dsimp only at hop
        cases hlt : Nat.blt S.n 1000000000 with
        | false => rw [hlt] at hop; cases hop
        | true =>
          rw [hlt] at hop
          simp only [cond_true] at hop
          have hlt2 : S.n < 1000000000 := by rw [nblt, decide_eq_true_eq] at hlt; exact hlt
          split at hop
          · cases hop
          · rename_i b' v' hv
            cases hop
            refine fin ⟨v, S.n, .mk b'⟩ [] (S.new b') e1 N he1 (fun _ _ => ⟨hs, hN, hlt2⟩) (fun h' m hb => by cases hb) (fun f hf => ?_) rfl rfl (Nat.le_succ _) hN1 (.inl ⟨rfl, fun ⟨_, _, q⟩ => by cases q⟩) ?_ (fun hb => by cases hb) h ?_
            · obtain ⟨n1, _, n3, n4⟩ := hNf f hf
              rw [hc] at n4
              rcases n4 with q | ⟨_, q⟩
              · cases q
              have hx : f.x = b' := by
                have h5 : (S.new b').h.get S.n = some b' := by unfold St.new; dsimp only; rw [Tr.get_set 40 _ _ _ _ (by omega), if_pos rfl]
                rw [q, h5] at n3; cases n3; rfl
              refine .inr ⟨pre.length, ⟨v, S.n, .mk b'⟩, n1, by rw [← hl]; simp, .inl ⟨by rw [hx], q.symm⟩, ?_⟩
              intro k r h' m hk _ hlt
              have := (List.getElem?_eq_some_iff.1 hk).1
              simp at this; omega
            · rw [List.append_nil, hOfs, gh_snoc, ← hh]
              unfold ghStep
              dsimp only
              have : lds.all (fun j => !inM (masks ops []) j (0 + acc.length)) = true := by
                apply List.all_eq_true.2
                intro j hj
                have h1 := (hld j hj).1
                cases hq : inM (masks ops []) j (0 + acc.length) with
                | false => rfl
                | true => have := inM_lt hE _ _ hq; omega
              rw [this]
              rfl
            · conv => lhs; unfold plan
              rw [hre]; dsimp only; rw [hwc, hw]; simp only [cond_true, List.append_nil]
              rw [hclr, hc]; dsimp only; rw [hlt]; simp only [cond_true]; rw [allocOp_congr hoe, hv]; dsimp only; rw [hOfs]
              rfl
/-- WHERE THE EDGES SAY ENOUGH but for reads that loud operations leave alone, a region that draws its order gives what the text's order gives. -/
theorem drawn_F {D : List Fct} {S : St} {e' : Env} {S' : St} (hD0 : ∀ f ∈ D, f.src = none ∧ f.id < S.n ∧ S.h.get f.id = some f.x) (hs : seqB X n ops = true) (h : RunF X rec n ops D ops 0 e S e' S') : drawn X rec n ops e S = .ok .nor e' S' := by
  unfold seqB at hs
  simp only [Bool.and_eq_true, nblt, decide_eq_true_eq] at hs
  obtain ⟨⟨⟨⟨hE, hD⟩, hN⟩, hn⟩, hK⟩ := hs
  have hle := RunF_n h
  obtain ⟨tl, l2, p1, p2, p3, p4, p5, ppw, pmk, -, pal, pmo, pld, p6⟩ := plan_seqF (h0 := S.h) (e := e) (N0 := S.n) hn hE hD hK D ops [] [] [] S e e' S' (by simp) rfl (by simp [putAll]) (fun k r b hk => by simp at hk) (fun f hf => .inl ⟨(hD0 f hf).1, (hD0 f hf).2.1, (hD0 f hf).2.2, fun k r h' m hk => by simp at hk⟩) (fun k r hk => by simp at hk) (fun q q' r r' _ hk => by simp at hk) (fun k r hk => by simp at hk) (Nat.le_refl _) (fun j hj => by simp at hj) List.Pairwise.nil (by simp [gh, hOf]) h
  simp only [List.nil_append, List.length_nil, hOf, Nat.zero_add] at p1 p2 p3 p4 p6 ppw pmk pal pmo pld
  unfold drawn
  dsimp only
  rw [hE, hD, hN]
  simp only [Bool.and_self, cond_true]
  rw [p1]
  dsimp only
  have hrd : rdsOk X n ops (masks ops []) tl e S.h l2 ops 0 = true := by
    apply rdsOk_of
    intro i o ho
    have hi : i < ops.length := (List.getElem?_eq_some_iff.1 ho).1
    have hr : tl[i]? = some (tl[i]'(by omega)) := List.getElem?_eq_getElem _
    rw [Nat.zero_add]
    refine ⟨_, hr, fun hk => ?_⟩
    obtain ⟨l1, l3, ei, q1, q2, q3, q4, q5, q6, q8, q9⟩ := p6 i o _ ho hr hk
    have hlt : ∀ j, inM (masks ops []) i j = true → j < (tl.take i).length := fun j hj => by
      have := inM_lt hE _ _ hj
      simp; omega
    have htl : tl = tl.take i ++ tl.drop i := (List.take_append_drop i tl).symm
    obtain ⟨re, r1, r2⟩ := renv_good (ms := masks ops []) (ops := ops) (acc := tl) (e := e) (es := ei) (n := n) (i := i) hn (ts := looks ops o) (fun t ht => ⟨q5 t ht, by
      rw [htl, lookT_append hlt]; exact q4 t ht⟩)
    refine ⟨re, r1, rdOk_of fun a b hab => ?_⟩
    have hoe : OE re ei o.op := OE_of r2
    have hski : (ops.map (fun o => sk X o.op)).getD i .pure = sk X o.op := by
      rw [List.getD_eq_getElem?_getD, List.getElem?_map, ho]; rfl
    rw [List.nil_append]
    unfold rdOk.rd1
    cases hc : (a.all (fun j => !inM (masks ops []) j i) && l2.all (fun j => !inM (masks ops []) i j || a.contains j)) with
    | false => rfl
    | true =>
      simp only [cond_true]
      simp only [Bool.and_eq_true] at hc
      obtain ⟨c1, c2⟩ := hc
      rcases q9 with ⟨hst, q7⟩ | ⟨D', hfp, hfi⟩
      case inr =>
        have hsub : ∀ j ∈ a, j ∈ l2 := fun j hj => by rw [hab]; exact List.mem_append_left _ hj
        have hg : ∀ f ∈ D', (∀ j, f.src = some j → inM (masks ops []) i j = true) → (gh (masks ops []) a (inM (masks ops []) i) tl 0 (hOf tl S.h a)).get f.id = some f.x := by
          intro f hf hu
          refine FI_get (fun k r b h1 h2 => (pmk k r b h1 h2).2) pmo ?_ (fun j hj => pld j (hsub j hj)) (fun j k => inM_lt hE j k) (hfi f hf) (fun j hj => ⟨hu j hj, fun ⟨r, h1, h2⟩ => ?_⟩)
          · rw [hab, List.pairwise_append] at ppw; exact ppw.1
          · have h3 := List.all_eq_true.1 c2 j (pal j r h1 h2)
            rw [hu j hj] at h3
            simpa using h3
        rw [readOp_congr hoe, hfp _ hg]
        exact q8
      unfold rdStat at hst
      rw [Bool.and_eq_true] at hst
      obtain ⟨hk2, hk3⟩ := hst
      have hal : a = l1 := by
        have hpre : a ++ b = l1 ++ l3 := by rw [← hab, q1]
        have hin1 : ∀ j ∈ l1, j ∈ a := by
          intro j hj
          have hj2 : j ∈ l2 := by rw [q1]; exact List.mem_append_left _ hj
          have h1 := List.all_eq_true.1 c2 j hj2
          have h2 : inM (masks ops []) i j = true := by
            apply bef_at hk2 (q2 j hj)
            have := (p2 j hj2).2
            cases hq : (ops.map (fun o => sk X o.op)).getD j .pure <;> rw [hq] at this <;> first | rfl | cases this
          rw [h2] at h1
          simpa using h1
        have hin3 : ∀ j ∈ l3, j ∉ a := by
          intro j hj hja
          have hj2 : j ∈ l2 := by rw [q1]; exact List.mem_append_right _ hj
          have h1 := List.all_eq_true.1 c1 j hja
          have hjl : j < ops.length := by
            have := (p2 j hj2).2
            rw [List.getD_eq_getElem?_getD] at this
            by_cases hlt : j < ops.length
            · exact hlt
            · rw [List.getElem?_eq_none (by simpa using hlt)] at this; cases this
          have hl := (p2 j hj2).2
          have h3 := List.all_eq_true.1 hk3 j (by simpa using hjl)
          rw [hl, nble, decide_eq_false (by have := q3 j hj; omega)] at h3
          have : inM (masks ops []) j i = true := by simpa using h3
          rw [this] at h1
          cases h1
        rcases List.append_eq_append_iff.1 hpre with ⟨m, hm1, hm2⟩ | ⟨m, hm1, hm2⟩
        · -- l1 = a ++ m
          cases m with
          | nil => simpa using hm1.symm
          | cons y m =>
            exfalso
            have hy : y ∈ a := hin1 y (by rw [hm1]; simp)
            rw [q1, hm1, List.append_assoc, List.pairwise_append] at ppw
            have := ppw.2.2 y hy y (by simp)
            omega
        · cases m with
          | nil => simpa using hm1
          | cons y m =>
            exfalso
            exact hin3 y (by rw [hm2]; simp) (by rw [hm1]; simp)
      subst hal
      have hh : gh (masks ops []) a (inM (masks ops []) i) tl 0 (hOf tl S.h a) = gh (masks ops []) a (fun _ => true) (tl.take i) 0 (hOf (tl.take i) S.h a) := by
        conv => lhs; rw [htl]
        rw [gh_append (fun q hq => by
          cases hm : inM (masks ops []) i q with
          | false => rfl
          | true => have := hlt q hm; omega)]
        rw [hOf_append (fun j hj => by have := q2 j hj; simp; omega)]
        apply gh_congr
        intro k r b h1 h2
        rw [Nat.zero_add]
        have hki : k < i := by have := (List.getElem?_eq_some_iff.1 h1).1; simp at this; omega
        apply bef_at hk2 hki
        have : (ops.map (fun o => sk X o.op)).getD k .pure = .alloc := by
          have hkr : tl[k]? = some r := by rw [htl, List.getElem?_append_left (List.getElem?_eq_some_iff.1 h1).1]; exact h1
          exact (pmk k r b hkr h2).1
        rw [this]; rfl
      rw [hh, readOp_congr hoe, q7]
      exact q8
  rw [hrd]
  simp only [cond_true]
  rw [p3]
  dsimp only
  rw [nble, decide_eq_true hle]
  simp only [cond_true]
  rw [← p4]
end
end GX
/- GX: reasoning about runs: regions that draw their order, where reads look at blocks that later loud operations leave alone (blocks made in the region, too). -/


namespace GX
noncomputable section
open Go
def WF (X : X) (n : Nat) (all : List Oper) (D : List Fct) (os : List Oper) (i : Nat) (ks : List Kt) (Q : Ex → Env → St → Prop) (l : L) (S : St) : Prop :=
  ∀ e, Ag l e → ∃ f e' S', RunF X (exec X f) n all D os i e S e' S' ∧ QK X n ks Q .nor e' S'
section
variable {X : X} {n : Nat} {ks : List Kt} {Q : Ex → Env → St → Prop} {l : L} {S : St} {D : List Fct} {all os : List Oper} {o : Oper} {i : Nat}
theorem W_drawnF (D : List Fct) {id : Nat} {ops : Array Oper} (hD : ∀ f ∈ D, f.src = none ∧ f.id < S.n ∧ S.h.get f.id = some f.x) (hs : seqB X n ops.toList = true) (h : WF X n ops.toList D ops.toList 0 ks Q l S) : W X n (.region id ops true) ks Q l S := by
  unfold W
  intro e he
  obtain ⟨f, e1, S1, h1, h2⟩ := h e he
  exact ⟨f + 1, .nor, e1, S1, by show step X (exec X f) n (.region id ops true) e S = _; unfold step; exact drawn_F hD hs h1, h2⟩
theorem WF_nil (h : V X n .nor ks Q l S) : WF X n all D [] i ks Q l S := by
  unfold V at h
  exact fun e he => ⟨0, e, S, ⟨rfl, rfl⟩, h e he⟩
theorem WF_pa {d : Nat} (hg : o.guard = none) (hd : o.dst = some d) (hn : Nat.blt d n = true) (hn' : Nat.blt n 1000001 = true) (hsk : isPA (sk X o.op) = true)
    (h : Ev X l S o.op fun v S' => WF X n all D os (i + 1) ks Q ((d, v) :: l) S') : WF X n all D (o :: os) i ks Q l S := by
  intro e he
  unfold Ev at h
  obtain ⟨f, v, S1, h1, h2, h3⟩ := h e he
  rw [nblt, decide_eq_true_eq] at hn hn'
  obtain ⟨g, e2, S2, h4, h5⟩ := h3 _ (he.put hn' hn)
  have hck := sk_ok h1
  refine ⟨max f g, e2, S2, .inl ⟨wanted_none hg, v, S1, e.put d v, [], oper_le (exec_le (Nat.le_max_left f g)) h1, ?_, h2, fun hc => ?_, fun hc => ?_, fun f hf => (by cases hf), by rw [List.append_nil]; exact RunF_le (exec_le (Nat.le_max_right f g)) h4⟩, h5⟩
  · rw [hd]; unfold setDst; dsimp only; rw [nblt, decide_eq_true hn]; rfl
  · rcases hck with hq | hq
    · rw [hq] at hc; cases hc
    · rw [hq] at hc; rw [hc] at hsk; cases hsk
  · rcases hck with hq | hq
    · rw [hq] at hc; cases hc
    · rw [hq] at hc
      exfalso
      cases hs : sk X o.op <;> rw [hs] at hc hsk <;> first | (cases hc; done) | (cases hsk; done)
/-- an operation that makes a block, which is told -/
theorem WF_al {d : Nat} (hg : o.guard = none) (hd : o.dst = some d) (hn : Nat.blt d n = true) (hn' : Nat.blt n 1000001 = true) (hcl : ∀ e, Ag l e → cls X e o.op = .alloc)
    (h : Ev X l S o.op fun v S' => ∃ x, S'.h.get S.n = some x ∧ S.n < S'.n ∧ WF X n all (D ++ [⟨S.n, x, some i⟩]) os (i + 1) ks Q ((d, v) :: l) S') : WF X n all D (o :: os) i ks Q l S := by
  intro e he
  unfold Ev at h
  obtain ⟨f, v, S1, h1, h2, x, hx, hlt, h3⟩ := h e he
  rw [nblt, decide_eq_true_eq] at hn hn'
  obtain ⟨g, e2, S2, h4, h5⟩ := h3 _ (he.put hn' hn)
  have hc0 := hcl e he
  refine ⟨max f g, e2, S2, .inl ⟨wanted_none hg, v, S1, e.put d v, [⟨S.n, x, some i⟩], oper_le (exec_le (Nat.le_max_left f g)) h1, ?_, h2, fun hc => (by rw [hc0] at hc; cases hc), fun hc => (by rw [hc0] at hc; cases hc), fun f hf => ?_, RunF_le (exec_le (Nat.le_max_right f g)) h4⟩, h5⟩
  · rw [hd]; unfold setDst; dsimp only; rw [nblt, decide_eq_true hn]; rfl
  · rw [List.mem_singleton] at hf; subst hf
    exact ⟨rfl, hlt, hx, .inr ⟨hc0, rfl⟩⟩
/-- a read that is ordered with all loud operations -/
theorem WF_rs {d : Nat} (hg : o.guard = none) (hd : o.dst = some d) (hn : Nat.blt d n = true) (hn' : Nat.blt n 1000001 = true) (hsk : isLC (sk X o.op) = false) (hst : rdStat (masks all []) (all.map (fun o => sk X o.op)) i = true)
    (h : Ev X l S o.op fun v S' => WF X n all D os (i + 1) ks Q ((d, v) :: l) S') : WF X n all D (o :: os) i ks Q l S := by
  intro e he
  unfold Ev at h
  obtain ⟨f, v, S1, h1, h2, h3⟩ := h e he
  rw [nblt, decide_eq_true_eq] at hn hn'
  obtain ⟨g, e2, S2, h4, h5⟩ := h3 _ (he.put hn' hn)
  have hck := sk_ok h1
  refine ⟨max f g, e2, S2, .inl ⟨wanted_none hg, v, S1, e.put d v, [], oper_le (exec_le (Nat.le_max_left f g)) h1, ?_, h2, fun _ => .inl hst, fun hc => ?_, fun f hf => (by cases hf), by rw [List.append_nil]; exact RunF_le (exec_le (Nat.le_max_right f g)) h4⟩, h5⟩
  · rw [hd]; unfold setDst; dsimp only; rw [nblt, decide_eq_true hn]; rfl
  · rcases hck with hq | hq
    · rw [hq] at hc; cases hc
    · rw [hq, hsk] at hc; cases hc
/-- a read that looks at told blocks alone -/
theorem WF_rf {d : Nat} {v : AV} (hg : o.guard = none) (hd : o.dst = some d) (hn : Nat.blt d n = true) (hn' : Nat.blt n 1000001 = true) (hS : ∀ f ∈ D, S.h.get f.id = some f.x)
    (hfp : ∀ e, Ag l e → cls X e o.op = .read ∧ FPD X D (masks all []) i e o.op v) (hvv : veq v v = true) (h : WF X n all D os (i + 1) ks Q ((d, v) :: l) S) : WF X n all D (o :: os) i ks Q l S := by
  intro e he
  obtain ⟨hc, hf⟩ := hfp e he
  rw [nblt, decide_eq_true_eq] at hn hn'
  obtain ⟨g, e2, S2, h4, h5⟩ := h _ (he.put hn' hn)
  refine ⟨g, e2, S2, .inl ⟨wanted_none hg, v, S, e.put d v, [], ?_, ?_, by rw [hc]; exact hvv, fun _ => .inr hf, fun hl => (by rw [hc] at hl; cases hl), fun f hf => (by cases hf), by rw [List.append_nil]; exact h4⟩, h5⟩
  · unfold oper; rw [hc]; dsimp only; rw [hf S.h (fun f h1 _ => hS f h1)]
  · rw [hd]; unfold setDst; dsimp only; rw [nblt, decide_eq_true hn]; rfl
/-- a loud operation, or a call, that leaves the told blocks alone, and may tell more -/
theorem WF_ld {d : Nat} (hg : o.guard = none) (hd : o.dst = some d) (hn : Nat.blt d n = true) (hn' : Nat.blt n 1000001 = true) (hcl : ∀ e, Ag l e → isLC (cls X e o.op) = true)
    (h : Ev X l S o.op fun v S' => (∀ f ∈ D, S'.h.get f.id = some f.x) ∧ ∃ N : List Fct, (∀ f ∈ N, f.src = some i ∧ f.id < S'.n ∧ S'.h.get f.id = some f.x) ∧ WF X n all (D ++ N) os (i + 1) ks Q ((d, v) :: l) S') : WF X n all D (o :: os) i ks Q l S := by
  intro e he
  unfold Ev at h
  obtain ⟨f, v, S1, h1, h2, hB, N, hN, h3⟩ := h e he
  rw [nblt, decide_eq_true_eq] at hn hn'
  obtain ⟨g, e2, S2, h4, h5⟩ := h3 _ (he.put hn' hn)
  have hc0 := hcl e he
  refine ⟨max f g, e2, S2, .inl ⟨wanted_none hg, v, S1, e.put d v, N, oper_le (exec_le (Nat.le_max_left f g)) h1, ?_, h2, fun hc => ?_, fun _ => hB, fun f hf => ⟨(hN f hf).1, (hN f hf).2.1, (hN f hf).2.2, .inl hc0⟩, RunF_le (exec_le (Nat.le_max_right f g)) h4⟩, h5⟩
  · rw [hd]; unfold setDst; dsimp only; rw [nblt, decide_eq_true hn]; rfl
  · rw [hc] at hc0; cases hc0
theorem WF_ld0 (hg : o.guard = none) (hd : o.dst = none) (hcl : ∀ e, Ag l e → isLC (cls X e o.op) = true)
    (h : Ev X l S o.op fun _ S' => (∀ f ∈ D, S'.h.get f.id = some f.x) ∧ ∃ N : List Fct, (∀ f ∈ N, f.src = some i ∧ f.id < S'.n ∧ S'.h.get f.id = some f.x) ∧ WF X n all (D ++ N) os (i + 1) ks Q l S') : WF X n all D (o :: os) i ks Q l S := by
  intro e he
  unfold Ev at h
  obtain ⟨f, v, S1, h1, h2, hB, N, hN, h3⟩ := h e he
  obtain ⟨g, e2, S2, h4, h5⟩ := h3 _ he
  have hc0 := hcl e he
  refine ⟨max f g, e2, S2, .inl ⟨wanted_none hg, v, S1, e, N, oper_le (exec_le (Nat.le_max_left f g)) h1, ?_, h2, fun hc => ?_, fun _ => hB, fun f hf => ⟨(hN f hf).1, (hN f hf).2.1, (hN f hf).2.2, .inl hc0⟩, RunF_le (exec_le (Nat.le_max_right f g)) h4⟩, h5⟩
  · rw [hd]; rfl
  · rw [hc] at hc0; cases hc0
theorem WF_guard {j d0 : Nat} {want : Bool} {p : Oper} {c : Bool} {d : Nat} (hg : o.guard = some (j, want)) (hp : all[j]? = some p) (hd0 : p.dst = some d0) (hl : lk l d0 = some (.bool c)) (hd : o.dst = some d) (hn : Nat.blt d n = true) (hn' : Nat.blt n 1000001 = true)
    (h1 : c = want → WF X n all D ({ o with guard := none } :: os) i ks Q ((d0, .bool want) :: l) S) (h2 : c = (!want) → WF X n all D os (i + 1) ks Q ((d, .tup []) :: (d0, .bool (!want)) :: l) S) : WF X n all D (o :: os) i ks Q l S := by
  intro e he
  rw [nblt, decide_eq_true_eq] at hn hn'
  have hat : e.at d0 = .bool c := he d0 _ hl
  have hag : ∀ b, c = b → Ag ((d0, .bool b) :: l) e := by
    intro b hb t v ht
    unfold lk at ht
    rw [nbeq, cond_dec] at ht
    by_cases hh : d0 = t
    · subst hh; rw [if_pos rfl] at ht; cases ht; rw [hat, hb]
    · rw [if_neg hh] at ht; exact he t v ht
  have hw : wanted all e o = (c == want) := by unfold wanted; rw [hg]; dsimp only; rw [hp]; dsimp only; rw [hd0]; dsimp only; rw [hat]
  by_cases hc : c = want
  · obtain ⟨f, e2, S2, h3, h4⟩ := h1 hc e (hag want hc)
    refine ⟨f, e2, S2, ?_, h4⟩
    have hw' : wanted all e o = true := by rw [hw, hc]; cases want <;> rfl
    unfold RunF at h3 ⊢
    rcases h3 with ⟨_, h3⟩ | ⟨h3, _⟩
    · exact .inl ⟨hw', h3⟩
    · rw [wanted_none rfl] at h3; cases h3
  · have hc' : c = (!want) := by cases c <;> cases want <;> simp_all
    obtain ⟨f, e2, S2, h3, h4⟩ := h2 hc' _ ((hag _ hc').put hn' hn)
    refine ⟨f, e2, S2, ?_, h4⟩
    have hw' : wanted all e o = false := by rw [hw, hc']; cases want <;> rfl
    refine .inr ⟨hw', e.put d (.tup []), ?_, h3⟩
    rw [hd]; unfold setDst; dsimp only; rw [nblt, decide_eq_true hn]; rfl
theorem WF_guard_dt {j d0 : Nat} {q : Oper} {p : Prop} [Decidable p] {d : Nat} (hg : o.guard = some (j, true)) (hp : all[j]? = some q) (hd0 : q.dst = some d0) (hl : lk l d0 = some (.bool (decide p))) (hd : o.dst = some d) (hn : Nat.blt d n = true) (hn' : Nat.blt n 1000001 = true)
    (h1 : p → WF X n all D ({ o with guard := none } :: os) i ks Q ((d0, .bool true) :: l) S) (h2 : ¬ p → WF X n all D os (i + 1) ks Q ((d, .tup []) :: (d0, .bool false) :: l) S) : WF X n all D (o :: os) i ks Q l S :=
  WF_guard hg hp hd0 hl hd hn hn' (fun h => h1 (of_decide_eq_true h)) (fun h => h2 (of_decide_eq_false h))
theorem WF_guard_df {j d0 : Nat} {q : Oper} {p : Prop} [Decidable p] {d : Nat} (hg : o.guard = some (j, false)) (hp : all[j]? = some q) (hd0 : q.dst = some d0) (hl : lk l d0 = some (.bool (decide p))) (hd : o.dst = some d) (hn : Nat.blt d n = true) (hn' : Nat.blt n 1000001 = true)
    (h1 : ¬ p → WF X n all D ({ o with guard := none } :: os) i ks Q ((d0, .bool false) :: l) S) (h2 : p → WF X n all D os (i + 1) ks Q ((d, .tup []) :: (d0, .bool true) :: l) S) : WF X n all D (o :: os) i ks Q l S :=
  WF_guard hg hp hd0 hl hd hn hn' (fun h => h1 (of_decide_eq_false h)) (fun h => h2 (of_decide_eq_true h))
theorem WF_guard_t {j d0 : Nat} {want : Bool} {p : Oper} {d : Nat} (hg : o.guard = some (j, want)) (hp : all[j]? = some p) (hd0 : p.dst = some d0) (hl : lk l d0 = some (.bool want)) (hd : o.dst = some d) (hn : Nat.blt d n = true) (hn' : Nat.blt n 1000001 = true)
    (h1 : WF X n all D ({ o with guard := none } :: os) i ks Q l S) : WF X n all D (o :: os) i ks Q l S := by
  refine WF_guard hg hp hd0 hl hd hn hn' (fun _ => ?_) (fun h => ?_)
  · intro e he
    exact h1 e (fun t v ht => he t v (by
      unfold lk; rw [nbeq, cond_dec]
      by_cases hh : d0 = t
      · subst hh; rw [hl] at ht; cases ht; rw [if_pos rfl]
      · rw [if_neg hh]; exact ht))
  · cases want <;> cases h
theorem WF_skip {d : Nat} (hd : o.dst = some d) (hn : Nat.blt d n = true) (hn' : Nat.blt n 1000001 = true) (hw : ∀ e, Ag l e → wanted all e o = false) (h2 : WF X n all D os (i + 1) ks Q ((d, .tup []) :: l) S) : WF X n all D (o :: os) i ks Q l S := by
  intro e he
  rw [nblt, decide_eq_true_eq] at hn hn'
  obtain ⟨f, e2, S2, h3, h4⟩ := h2 _ (he.put hn' hn)
  refine ⟨f, e2, S2, .inr ⟨hw e he, e.put d (.tup []), ?_, h3⟩, h4⟩
  rw [hd]; unfold setDst; dsimp only; rw [nblt, decide_eq_true hn]; rfl
theorem WF_guard_f {j d0 : Nat} {want c : Bool} {p : Oper} {d : Nat} (hg : o.guard = some (j, want)) (hp : all[j]? = some p) (hd0 : p.dst = some d0) (hl : lk l d0 = some (.bool c)) (hc : (c == want) = false) (hd : o.dst = some d) (hn : Nat.blt d n = true) (hn' : Nat.blt n 1000001 = true)
    (h2 : WF X n all D os (i + 1) ks Q ((d, .tup []) :: l) S) : WF X n all D (o :: os) i ks Q l S :=
  WF_skip hd hn hn' (fun e he => by unfold wanted; rw [hg]; dsimp only; rw [hp]; dsimp only; rw [hd0]; dsimp only; rw [he d0 _ hl]; exact hc) h2
theorem WF_guard_x {j d0 : Nat} {want : Bool} {p : Oper} {d : Nat} (hg : o.guard = some (j, want)) (hp : all[j]? = some p) (hd0 : p.dst = some d0) (hl : lk l d0 = some (.tup [])) (hd : o.dst = some d) (hn : Nat.blt d n = true) (hn' : Nat.blt n 1000001 = true)
    (h2 : WF X n all D os (i + 1) ks Q ((d, .tup []) :: l) S) : WF X n all D (o :: os) i ks Q l S :=
  WF_skip hd hn hn' (fun e he => by unfold wanted; rw [hg]; dsimp only; rw [hp]; dsimp only; rw [hd0]; dsimp only; rw [he d0 _ hl]) h2
/-! footprints -/
theorem FPD_load {t : Nat} {x : Operand} {p : AV} {o : Nat} {i' : TI} {cs : List AV} {v : AV} {ms : List Nat} (hx : od l x = some p) (hi : X.ti t = some i') (hag : aggD i'.desc = false) (hp : Pt S p cs o) (hv : cs[o]? = some v)
    (hb : ∀ b, blkOf p = some b → ∃ f ∈ D, f.id = b ∧ S.h.get b = some f.x ∧ ∀ j, f.src = some j → inM ms i j = true) :
    ∀ e, Ag l e → cls X e (.load t x) = .read ∧ FPD X D ms i e (.load t x) v := fun _ he =>
  ⟨rfl, fun H hH => load_eq (m := S.n) (od_ok he hx) hi hag (hp.keep fun b h => by
    obtain ⟨f, h1, h2, h3, h4⟩ := hb b h
    show H.get b = _; rw [h3, ← h2]; exact hH f h1 h4) hv⟩
theorem FPD_conv {x : Operand} {s d el m : Nat} {si di ei : TI} {v : AV} {cs : List AV} {z : List Nat} {ms : List Nat} (hx : od l x = some v) (hs : X.ti s = some si) (hd : X.ti d = some di) (hdd : di.desc = .string) (hsd : si.desc = .slice el) (he' : X.ti el = some ei) (hk : ei.desc = .int .u8) (hrd : Rd S v 1 cs m) (hz : bytesOf cs = some z)
    (hb : ∀ b, blkOf v = some b → ∃ f ∈ D, f.id = b ∧ S.h.get b = some f.x ∧ ∀ j, f.src = some j → inM ms i j = true) :
    ∀ e, Ag l e → cls X e (.convert s d x) = .read ∧ FPD X D ms i e (.convert s d x) (.str z) := fun _ he =>
  ⟨by unfold cls; dsimp only; rw [hs]; dsimp only; rw [hsd]; dsimp only; rw [hd]; dsimp only; rw [hdd], fun H hH => conv_eq (m' := S.n) (od_ok he hx) hs hd hdd hsd he' hk (hrd.keep fun b h => by
    obtain ⟨f, h1, h2, h3, h4⟩ := hb b h
    show H.get b = _; rw [h3, ← h2]; exact hH f h1 h4) hz⟩
end
end
end GX
/- GX: reasoning about runs: rules for arguments that have no block; runes read in a region that draws its order. -/

namespace GX
noncomputable section
open Go
section
variable {X : X} {l : L} {S : St} {R : AV → St → Prop} {t : Nat} {x y : Operand} {D : List Fct} {i : Nat}
theorem Ev_indexAddr_n {v : AV} {k : IntKind} {i m : Nat} {ti ei : TI} {el : Nat} {cs : List AV} (hy : od l y = some (.int k ((i : Nat) : Int))) (hx : od l x = some v) (hi : X.ti t = some ti) (hd : ti.desc = .slice el) (he' : X.ti el = some ei) (hrd : Rd S v ei.size cs m) (hn : blkOf v = none) (hlt : i < m)
    (hR : R (.rptr cs (i * ei.size)) S) : Ev X l S (.indexAddr t x y) R := by
  have hc := hrd.cells
  have hl := hrd.len
  cases v with
  | slice b o n cap => cases hn
  | rsl cs0 n z =>
    cases hl
    have hz : z = ei.size ∧ cs0.length = m * z := by have := hrd.cap; simpa [capW] using this
    obtain ⟨hz, hl0⟩ := hz
    subst hz
    have hcs : cs = cs0 := by
      unfold srcCells at hc; dsimp only at hc
      rw [nbeq, nble, ← Bool.decide_and, cond_dec] at hc
      split at hc
      · cases hc; rw [List.take_of_length_le (by omega)]
      · cases hc
    subst hcs
    refine Ev_pure (v := .rptr cs (i * ei.size)) (fun e he => ⟨rfl, ?_⟩) hR
    unfold pureOp; dsimp only; rw [od_ok he hy]; show (match opd e x with | some (.slice b o len _) => _ | some (.rsl cs len sz) => _ | _ => none) = _
    rw [od_ok he hx]; dsimp only; rw [hi]; dsimp only; rw [hd]; dsimp only; rw [he']; dsimp only; rw [nblt, nbeq, decide_eq_true hlt, decide_eq_true rfl]; rfl
  | nils => cases hl; omega
  | emp => cases hl; omega
  | _ => cases hl
theorem Ev_fieldAddr_n {f o : Nat} {i fi : TI} {fs : Array Field} {fd : Field} {cs : List AV} (hx : od l x = some (.rptr cs o)) (hi : X.ti t = some i) (hd : i.desc = .struct fs) (hf : fs.toList[f]? = some fd) (hfi : X.ti fd.type = some fi) (hz : Nat.beq fi.size 0 = false)
    (hR : R (.rptr cs (o + fd.offset)) S) : Ev X l S (.fieldAddr t x f) R :=
  Ev_pure (fun e he => ⟨rfl, by unfold pureOp; dsimp only; rw [od_ok he hx]; dsimp only; rw [hi]; dsimp only; rw [hd]; dsimp only; rw [hf]; dsimp only; rw [hfi]; dsimp only; rw [hz]; rfl⟩) hR
theorem FPD_load_n {o : Nat} {i' : TI} {cs : List AV} {v : AV} {ms : List Nat} (hx : od l x = some (.rptr cs o)) (hi : X.ti t = some i') (hag : aggD i'.desc = false) (hv : cs[o]? = some v) :
    ∀ e, Ag l e → cls X e (.load t x) = .read ∧ FPD X D ms i e (.load t x) v :=
  FPD_load (S := { h := .leaf, n := 0 }) hx hi hag (.inr rfl) hv (fun b hb => by cases hb)
theorem conv_eq_r {e : Env} {H : Tr AB} {x : Operand} {s d el m m' : Nat} {si di ei : TI} {v : AV} {cs : List AV} {z : List Nat} (hx : opd e x = some v) (hs : X.ti s = some si) (hd : X.ti d = some di) (hdd : di.desc = .string) (hsd : si.desc = .slice el) (he' : X.ti el = some ei) (hk : ei.desc = .int .i32) (hrd : Rd { h := H, n := m' } v 1 cs m) (hz : runesOf cs = some z) : readOp X e H (.convert s d x) = some (.str z) := by
  unfold readOp; dsimp only; rw [hx]; dsimp only; rw [hd]; dsimp only; rw [hs]; dsimp only; rw [hdd]; dsimp only; rw [hsd]; dsimp only; rw [he']; dsimp only; rw [hk]
  have h2 := hrd.cells
  have h3 := hrd.len
  have h4 := hrd.size
  cases v with
  | slice b o n k =>
    cases h3
    unfold srcCells at h2; dsimp only at h2 ⊢
    rw [Nat.mul_one] at h2; rw [h2]; dsimp only; rw [hz]
  | rsl cs0 n z0 =>
    cases h3
    have hz0 : z0 = 1 ∧ cs0.length = m * z0 := by have := hrd.cap; simpa [capW] using this
    obtain ⟨hz0, hl0⟩ := hz0
    subst hz0
    unfold srcCells at h2; dsimp only at h2 ⊢
    rw [nbeq, nble, ← Bool.decide_and, cond_dec] at h2
    split at h2
    · cases h2
      rw [List.take_of_length_le (by omega)] at hz
      rw [show Nat.beq 1 1 = true from rfl]
      simp only [cond_true]
      rw [hz]
    · cases h2
  | nils => cases h3; cases List.eq_nil_of_length_eq_zero (by omega : cs.length = 0); cases hz; rfl
  | emp => cases h3; cases List.eq_nil_of_length_eq_zero (by omega : cs.length = 0); cases hz; rfl
  | _ => have := hrd.sl; cases this
theorem FPD_conv_r {x : Operand} {s d el m : Nat} {si di ei : TI} {v : AV} {cs : List AV} {z : List Nat} {ms : List Nat} (hx : od l x = some v) (hs : X.ti s = some si) (hd : X.ti d = some di) (hdd : di.desc = .string) (hsd : si.desc = .slice el) (he' : X.ti el = some ei) (hk : ei.desc = .int .i32) (hrd : Rd S v 1 cs m) (hz : runesOf cs = some z)
    (hb : ∀ b, blkOf v = some b → ∃ f ∈ D, f.id = b ∧ S.h.get b = some f.x ∧ ∀ j, f.src = some j → inM ms i j = true) :
    ∀ e, Ag l e → cls X e (.convert s d x) = .read ∧ FPD X D ms i e (.convert s d x) (.str z) := fun _ he =>
  ⟨by unfold cls; dsimp only; rw [hs]; dsimp only; rw [hsd]; dsimp only; rw [hd]; dsimp only; rw [hdd], fun H hH => conv_eq_r (m' := S.n) (od_ok he hx) hs hd hdd hsd he' hk (hrd.keep fun b h => by
    obtain ⟨f, h1, h2, h3, h4⟩ := hb b h
    show H.get b = _; rw [h3, ← h2]; exact hH f h1 h4) hz⟩
end
end
end GX
/- carafebook.Strings as a function that makes no block; texts as things that are kept. -/




namespace Go.Proofs.Ytgiinfjcpdfgiaa
open GX
set_option maxHeartbeats 16000000
set_option maxRecDepth 100000
section
variable {X : X} {l : L} {S : St} {R : AV → St → Prop} {x y : Go.Operand} {t u : Nat} {k : Go.IntKind} {a b : Int}
theorem Ev_addw (hx : od l x = some (.int k a)) (hy : od l y = some (.int k b)) (hR : R (.int k (wrp k (a + b))) S) : Ev X l S (.binOp .add t x y u) R :=
  Ev_ibin hx hy ⟨by simp, by simp⟩ (by unfold ibin; rfl) hR
theorem Ev_subw (hx : od l x = some (.int k a)) (hy : od l y = some (.int k b)) (hR : R (.int k (wrp k (a - b))) S) : Ev X l S (.binOp .sub t x y u) R :=
  Ev_ibin hx hy ⟨by simp, by simp⟩ (by unfold ibin; rfl) hR
theorem Ev_ene {a b : List Nat} (hx : od l x = some (.str a)) (hy : od l y = some (.str b)) (hR : R (.bool (decide (a ≠ b))) S) : Ev X l S (.binOp .neq t x y u) R := Ev_sneq hx hy hR
end
abbrev El := List Nat
abbrev elV (c : El) : AV := .str c
theorem elV_one (c : El) : AV.one (elV c) = true := rfl
theorem elV_veq (c : El) : veq (elV c) (elV c) = true := veq_str c
def cellsE (cs : List El) : List AV := cs.map elV
def mk1 (i _j : Nat) : El := [109, 97, 114, 107, 32] ++ [i % 256, i / 256 % 256, i / 65536 % 256]
theorem mark_runs {S : St} {i j : Nat} (hok : Sok S) (hn : S.n + 10 ≤ 1000000000) :
    Runs X1 10 [.int .i64 ((i : Nat) : Int), .int .i64 ((j : Nat) : Int)] S fun r _ => r = elV (mk1 i j) := by
  refine Runs_fn (m := 16) (by kernel_rfl) Try.func10 rfl (by kernel_rfl) (by kernel_rfl) ?_
  repeat (
    first
      | refine W_seq ?_
      | refine WO_nil ?_
      | refine V_seq ?_
      | refine W_region ?_
      | refine WO_dst rfl rfl (by kernel_rfl) (by kernel_rfl) ?_
      | refine Ev_shrN (m := 16) (q := 65536) rfl rfl rfl rfl ?_
      | refine Ev_move rfl ?_
      | refine Ev_assign rfl ?_
      | refine Ev_shrN (m := 8) (q := 256) rfl rfl rfl rfl ?_
      | refine Ev_conv8 rfl rfl rfl rfl rfl ?_)
  refine Ev_buildSlice rfl rfl rfl rfl rfl rfl hok (by omega) ?_
  intro S1 n1 ok1 q1 f1
  repeat (
    refine WO_dst rfl rfl (by kernel_rfl) (by kernel_rfl) ?_)
  refine Ev_conv_to_str rfl rfl rfl rfl rfl rfl rfl (Rd_lit (m := 3) q1 rfl rfl) (z := [i % 256, i / 256 % 256, i / 65536 % 256]) ?_ ?_
  · refine bytesOf_sbytes (s := [i % 256, i / 256 % 256, i / 65536 % 256]) ?_
    intro c hc
    rcases List.mem_cons.1 hc with h | hc
    · omega
    rcases List.mem_cons.1 hc with h | hc
    · omega
    rcases List.mem_cons.1 hc with h | hc
    · omega
    cases hc
  repeat (
    refine WO_dst rfl rfl (by kernel_rfl) (by kernel_rfl) ?_)
  refine Ev_sadd rfl rfl (by show 5 + 3 < 9223372036854775808; omega) ?_
  repeat (
    first
      | refine WO_nil ?_
      | refine V_seq ?_
      | refine W_ret ?_
      | refine WO_dst rfl rfl (by kernel_rfl) (by kernel_rfl) ?_
      | refine Ev_assign rfl ?_)
  refine V_done rfl rfl ?_
  rfl
/-- the machine in which a mark is made in one step -/
def extMark (args : List AV) (S : St) : Option (AV × St) := match args with
  | [.int .i64 (.ofNat i), .int .i64 (.ofNat j)] => some (elV (mk1 i j), S)
  | _ => none
noncomputable def ext2 (f : Nat) : Option (List AV → St → Option (AV × St)) := bif Nat.beq f 10 then some extMark else X1.ext f
noncomputable abbrev X2 : X := { X1 with ext := ext2 }
theorem extMark_ok [Val] (hx : ∀ f g, X1.ext f = some g → ExtOK Try.prog f g) : ExtOK Try.prog 10 extMark := by
  intro args S r S' h
  unfold extMark at h
  split at h
  · rename_i i j
    simp only [Option.some.injEq, Prod.mk.injEq] at h
    obtain ⟨rfl, rfl⟩ := h
    refine ⟨Nat.le_refl _, ?_⟩
    intro φ w vs hv hw _
    have hv0 : vrels φ0 [.int .i64 ((i : Nat) : Int), .int .i64 ((j : Nat) : Int)] vs.toList := by
      simp only [vrels, vrel] at hv ⊢
      exact hv
    obtain ⟨fuel, v, S1, h1, _, rfl⟩ := (mark_runs (i := i) (j := j) (S := { h := .leaf, n := 0 }) (by intro c x h; simp [Tr.get] at h) (by show 0 + 10 ≤ _; omega)).elim
    have hs := call_sound xok1 hx h1 hv0 (wrel_empty w (fun g o ho => (hw.ro g o ho).1)) (fun _ _ _ => rfl)
    intro o a next Q hq
    refine hs o a next Q ?_
    rintro u w' ⟨φ', k1, k2, k3⟩
    have hbel : Go.RowKit.Below w.heap.size w w' := ⟨k3.os, k3.tape, k3.output, k3.size, fun k hk => k3.frame k hk (by intro id b l e; cases e)⟩
    obtain ⟨m1, m2⟩ := kept_below (n := S.n) hw hbel
    refine hq u w' ⟨φ, ?_, m1, m2⟩
    simp only [vrel] at k1 ⊢
    exact k1
  · cases h
theorem xok2 [Val] : XOK Try.prog X2 := ⟨xok1.ti, xok1.fn, xok1.gor, xok1.mixed, xok1.eqs⟩
theorem ext2_ok [Val] (hx : ∀ f g, X1.ext f = some g → ExtOK Try.prog f g) : ∀ f g, X2.ext f = some g → ExtOK Try.prog f g := by
  intro f g h
  have h' : (bif Nat.beq f 10 then some extMark else X1.ext f) = some g := h
  rw [nbeq, cond_dec] at h'
  split at h'
  · rename_i e; subst e; cases h'; exact extMark_ok hx
  · exact hx f g h'
end Go.Proofs.Ytgiinfjcpdfgiaa
/- GX: reasoning about runs: loads of whole structs in a region that draws its order; two bools compared. -/

namespace GX
noncomputable section
open Go
section
variable {X : X} {l : L} {S : St} {R : AV → St → Prop} {t u : Nat} {x y : Operand} {D : List Fct} {i : Nat}
theorem load_eq_agg {e : Env} {H : Tr AB} {t : Nat} {x : Operand} {p : AV} {o : Nat} {i : TI} {cs ds : List AV} {m : Nat} (hx : opd e x = some p) (hi : X.ti t = some i) (hag : aggD i.desc = true) (hp : Pt { h := H, n := m } p cs o) (hle : o + i.size ≤ cs.length) (hv : (cs.drop o).take i.size = ds) : readOp X e H (.load t x) = some (.agg ds) := by
  unfold readOp; dsimp only; rw [hx]
  rcases hp with ⟨b, o0, ty, cs0, sp, rfl, h2, h3, h4⟩ | rfl
  · have hrow : row H b (o0 + o) i.size = some ds := by
      unfold row; rw [h2]; dsimp only; rw [nble, decide_eq_true (by omega)]; simp only [cond_true]; rw [drop_take_eq h4 hle, hv]
    dsimp only; unfold loadAt; rw [hi]; dsimp only
    split
    · rw [hrow]
    · rw [hrow]
    · rename_i h1 h2
      cases hd : i.desc with
      | struct f => exact absurd hd (h1 f)
      | array a b => exact absurd hd (h2 a b)
      | _ => rw [hd] at hag; cases hag
  · dsimp only; unfold loadR; rw [hi]; dsimp only
    split
    · rw [nble, decide_eq_true hle]; simp only [cond_true]; rw [hv]
    · rw [nble, decide_eq_true hle]; simp only [cond_true]; rw [hv]
    · rename_i h1 h2
      cases hd : i.desc with
      | struct f => exact absurd hd (h1 f)
      | array a b => exact absurd hd (h2 a b)
      | _ => rw [hd] at hag; cases hag
theorem FPD_loadA {t : Nat} {x : Operand} {p : AV} {o : Nat} {i' : TI} {cs ds : List AV} {ms : List Nat} (hx : od l x = some p) (hi : X.ti t = some i') (hag : aggD i'.desc = true) (hp : Pt S p cs o) (hle : o + i'.size ≤ cs.length) (hv : (cs.drop o).take i'.size = ds)
    (hb : ∀ b, blkOf p = some b → ∃ f ∈ D, f.id = b ∧ S.h.get b = some f.x ∧ ∀ j, f.src = some j → inM ms i j = true) :
    ∀ e, Ag l e → cls X e (.load t x) = .read ∧ FPD X D ms i e (.load t x) (.agg ds) := fun _ he =>
  ⟨rfl, fun H hH => load_eq_agg (m := S.n) (od_ok he hx) hi hag (hp.keep fun b h => by
    obtain ⟨f, h1, h2, h3, h4⟩ := hb b h
    show H.get b = _; rw [h3, ← h2]; exact hH f h1 h4) hle hv⟩
theorem FPD_loadA_n {o : Nat} {i' : TI} {cs ds : List AV} {ms : List Nat} (hx : od l x = some (.rptr cs o)) (hi : X.ti t = some i') (hag : aggD i'.desc = true) (hle : o + i'.size ≤ cs.length) (hv : (cs.drop o).take i'.size = ds) :
    ∀ e, Ag l e → cls X e (.load t x) = .read ∧ FPD X D ms i e (.load t x) (.agg ds) :=
  FPD_loadA (S := { h := .leaf, n := 0 }) hx hi hag (.inr rfl) hle hv (fun b hb => by cases hb)
theorem Ev_beql {a b : Bool} {i : TI} (hx : od l x = some (.bool a)) (hy : od l y = some (.bool b)) (hi : X.ti t = some i) (hd : i.desc = .bool) (hR : R (.bool (a == b)) S) : Ev X l S (.binOp .eql t x y u) R :=
  Ev_bin hx hy rfl (by unfold abin; dsimp only; unfold aeq; rw [hi]; dsimp only; rw [hd]) hR
end
end
end GX
/- GX: reasoning about runs: a slice that may be grown: owned, or made empty. -/

namespace GX
noncomputable section
open Go
/-- a slice that is owned, or an empty one that code has made -/
def Gz (S : St) (v : AV) (el sz : Nat) (cs : List AV) (m : Nat) : Prop :=
  Own S v el sz cs m ∨ (m = 0 ∧ cs = [] ∧ ∃ b o, v = .slice b o 0 (.ex 0) ∧ Rd S v sz [] 0)
theorem Gz.rd {S : St} {v : AV} {el sz m : Nat} {cs : List AV} (h : Gz S v el sz cs m) : Rd S v sz cs m := by
  rcases h with h | ⟨rfl, rfl, b, o, _, h⟩
  · exact h.rd
  · exact h
theorem Gz.keep {S S' : St} {v : AV} {el sz m : Nat} {cs : List AV} (h : Gz S v el sz cs m) (hk : ∀ b, blkOf v = some b → S'.h.get b = S.h.get b) : Gz S' v el sz cs m := by
  rcases h with h | ⟨rfl, rfl, b, o, hv, h⟩
  · exact .inl (h.keep hk)
  · exact .inr ⟨rfl, rfl, b, o, hv, h.keep hk⟩
theorem Gz.lt {S : St} {v : AV} {el sz m : Nat} {cs : List AV} (h : Gz S v el sz cs m) (hok : Sok S) {b : Nat} (hb : blkOf v = some b) : b < S.n := h.rd.lt hok hb
theorem Gz.own {S : St} {v : AV} {el sz m : Nat} {cs : List AV} (h : Gz S v el sz cs m) (hm : 0 < m) : Own S v el sz cs m := by
  rcases h with h | ⟨h, _⟩
  · exact h
  · omega
theorem Gz.eq {S : St} {v : AV} {el sz m m' : Nat} {cs cs' : List AV} (h : Gz S v el sz cs m) (hc : cs = cs') (hm : m = m') : Gz S v el sz cs' m' := by subst hc; subst hm; exact h
section
variable {X : X} {l : L} {S : St} {R : AV → St → Prop} {x y : Operand} {t t' : Nat}
theorem Ev_append_gz {xs : Array Operand} {ts : Array TypeId} {tr : List TypeId} {i i' ei : TI} {el m k : Nat} {vs vx : AV} {cs new : List AV} (hxs : xs.toList = [x, y]) (hts : ts.toList = t :: t' :: tr) (hi' : X.ti t' = some i') (hni : (match i'.desc with | .int _ => false | _ => true) = true)
    (hx : od l x = some vs) (hy : od l y = some vx) (hi : X.ti t = some i) (hd : i.desc = .slice el) (he' : X.ti el = some ei) (hz : (Nat.beq ei.size 0 || !(Nat.beq ei.zero.length ei.size)) = false)
    (hown : Gz S vs el ei.size cs m) (hnew : Rd S vx ei.size new k) (hone : new.all AV.one = true) (hok : Sok S) (hn : S.n < 1000000000) (hlim : (2 * (m + k) + 1000) * ei.bytes ≤ 140737488355328) (hlim2 : m + k ≤ 140737488355328)
    (hR : ∀ v' S', S.n ≤ S'.n → S'.n ≤ S.n + 1 → Sok S' → Gz S' v' el ei.size (cs ++ new) (m + k) → (∀ c, blkOf vs ≠ some c → c < S.n → S'.h.get c = S.h.get c) → (∀ c, blkOf v' = some c → blkOf vs = some c ∨ S.n ≤ c) → R v' S') :
    Ev X l S (.call { callee := .builtin .append, args := xs, argTypes := ts }) R := by
  rcases hown with h | ⟨rfl, rfl, b, o, rfl, h⟩
  · exact Ev_append hxs hts hi' hni hx hy hi hd he' hz h hnew hone hok hn hlim hlim2 (fun v' S' h1 h2 h3 h4 h5 h6 => hR v' S' h1 h2 h3 (.inl h4) h5 h6)
  · by_cases hk : k = 0
    · subst hk
      have hnil : new = [] := List.eq_nil_of_length_eq_zero (by rw [hnew.size]; omega)
      subst hnil
      have hrow : row S.h b o (0 * ei.size) = some [] := h.cells
      have hl := srcLen_of hnew.len
      have ha0 : aappend X S t (.slice b o 0 (.ex 0)) vx = (bif Nat.ble (0 + 0) 0 then
                (match storeAt S b (o + 0 * ei.size) [] with
                | none => none
                | some S => some (.slice b o (0 + 0) (.ex 0), S))
              else grow S el ei.size ei.bytes ([] ++ []) (0 + 0)) := by
        rw [app_eq hi hd he' hz hl hnew.cells]; unfold appBody; dsimp only; rw [hrow]; rfl
      unfold row at hrow
      split at hrow
      · rename_i ty cs sp hb
        rw [nble, cond_dec] at hrow
        split at hrow
        · rename_i hle
          have hbn : b < S.n := hok _ _ hb
          have hsame : ∀ c, (S.put b (.cells ty (lput cs (o + 0 * ei.size) []) sp)).h.get c = S.h.get c := by
            intro c
            rw [get_put (by omega), lput_nil]
            split
            · rename_i h; rw [h, hb]
            · rfl
          refine Ev_loud (S' := S.put b (.cells ty (lput cs (o + 0 * ei.size) []) sp)) (v := .slice b o 0 (.ex 0)) (fun e he => ⟨rfl, ?_⟩) (Nat.le_refl _) (hR _ _ (Nat.le_refl _) (Nat.le_succ _) ?_ (.inr ⟨rfl, rfl, b, o, rfl, ?_⟩) (fun c _ _ => hsame c) (fun c hc => .inl hc))
          · unfold loudOp; dsimp only; rw [hxs, hts]; dsimp only; rw [hi']; dsimp only
            split
            · rename_i hdd; rw [hdd] at hni; cases hni
            · rw [od_ok he hx, od_ok he hy]
              show aappend X S t (.slice b o 0 (.ex 0)) vx = _
              rw [ha0]
              unfold storeAt; rw [hb]; dsimp only
              rw [nble, nble, decide_eq_true (Nat.le_refl _), decide_eq_true (by simpa using hle)]; rfl
          · intro c x hc; rw [hsame] at hc; exact hok c x hc
          · exact h.keep (fun c _ => hsame c)
        · cases hrow
      · cases hrow
    · refine Ev_append_ex hxs hts hi' hni hx hy hi hd he' hz h hnew hok hn hlim hlim2 (fun v' S' h1 h2 h3 _ h5 h6 h7 => hR v' S' h1 h2 h3 ?_ (fun c _ hc => h6 c hc) (fun c hc => (h7 c hc).imp (fun h => by rw [h]; rfl) id))
      rcases h5 with h5 | h5
      · omega
      · exact .inl h5
/-- a slice, and nil -/
theorem Ev_eq_nils {t u : Nat} {i : TI} {el sz m : Nat} {v : AV} {cs : List AV} (hx : od l x = some v) (hy : od l y = some .nils) (hi : X.ti t = some i) (hd : i.desc = .slice el) (h : Rd S v sz cs m) (hR : ∀ b : Bool, (b = true → m = 0 ∧ cs = []) → R (.bool b) S) : Ev X l S (.binOp .eql t x y u) R := by
  have hsl := h.sl
  have hs := h.size
  have hlen := h.len
  have hae : ∃ b : Bool, aeq X 10 t v .nils = some b ∧ (b = true → v = .nils) := by
    unfold aeq; rw [hi]; dsimp only; rw [hd]
    cases v <;> first | exact ⟨_, rfl, fun h => by first | rfl | cases h⟩ | cases hsl
  obtain ⟨b, hb, hb2⟩ := hae
  refine Ev_bin hx hy (by cases v <;> first | rfl | cases hsl) ?_ (hR b (fun h => ?_))
  · unfold abin
    cases v <;> first | (dsimp only; rw [hb]; done) | cases hsl
  · have := hb2 h; subst this
    simp [slen] at hlen
    subst hlen
    exact ⟨rfl, List.eq_nil_of_length_eq_zero (by omega)⟩
/-- a pointer, and nil -/
theorem Ev_ptr_eql {t u b o el : Nat} {i : TI} (hx : od l x = some (.ptr b o)) (hy : od l y = some .nilp) (hi : X.ti t = some i) (hd : i.desc = .pointer el) (hR : R (.bool false) S) : Ev X l S (.binOp .eql t x y u) R := by
  refine Ev_pure (fun _ he => ⟨?_, ?_⟩) hR
  · unfold cls; dsimp only; rw [od_ok he hx]; dsimp only; rw [od_ok he hy]
  · unfold pureOp; dsimp only; rw [od_ok he hx]; dsimp only; rw [od_ok he hy]; dsimp only; unfold abin aeq; dsimp only; rw [hi]; dsimp only; rw [hd]
theorem Ev_ptr_neq {t u b o el : Nat} {i : TI} (hx : od l x = some (.ptr b o)) (hy : od l y = some .nilp) (hi : X.ti t = some i) (hd : i.desc = .pointer el) (hR : R (.bool true) S) : Ev X l S (.binOp .neq t x y u) R := by
  refine Ev_pure (fun _ he => ⟨?_, ?_⟩) hR
  · unfold cls; dsimp only; rw [od_ok he hx]; dsimp only; rw [od_ok he hy]
  · unfold pureOp; dsimp only; rw [od_ok he hx]; dsimp only; rw [od_ok he hy]; dsimp only; unfold abin aeq; dsimp only; rw [hi]; dsimp only; rw [hd]; rfl
end
end
end GX
/- GX: reasoning about runs: slices that are appended to, and whose beginning is let go. -/

namespace GX
noncomputable section
open Go
/-- a slice of its own, from somewhere in its block on -/
def OwA (S : St) (v : AV) (el sz : Nat) (cs : List AV) (m : Nat) : Prop :=
  (v = .nils ∧ cs = [] ∧ m = 0) ∨ ∃ b pre, v = .slice b pre.length m (.op sz) ∧ S.h.get b = some (.cells el (pre ++ cs) true) ∧ cs.length = m * sz
theorem OwA.keep {S S' : St} {v : AV} {el sz : Nat} {cs : List AV} {m : Nat} (h : OwA S v el sz cs m) (hk : ∀ b, blkOf v = some b → S'.h.get b = S.h.get b) : OwA S' v el sz cs m := by
  rcases h with h | ⟨b, pre, h1, h2, h3⟩
  · exact .inl h
  · exact .inr ⟨b, pre, h1, by rw [hk b (by rw [h1]; rfl)]; exact h2, h3⟩
theorem OwA.of {S : St} {v : AV} {el sz : Nat} {cs : List AV} {m : Nat} (h : Own S v el sz cs m) : OwA S v el sz cs m := by
  rcases h with h | ⟨b, h1, h2, h3⟩
  · exact .inl h
  · exact .inr ⟨b, [], h1, h2, h3⟩
theorem OwA.rd {S : St} {v : AV} {el sz : Nat} {cs : List AV} {m : Nat} (h : OwA S v el sz cs m) : Rd S v sz cs m := by
  rcases h with ⟨h1, h2, h3⟩ | ⟨b, pre, h1, h2, h3⟩
  · subst h1; subst h2; subst h3; exact ⟨rfl, rfl, rfl, rfl, rfl, by simp⟩
  · subst h1
    refine ⟨by simp [capW], veq_slice _ _ _ _, rfl, rfl, ?_, h3⟩
    unfold srcCells row; dsimp only; rw [h2]; dsimp only
    rw [nble, decide_eq_true (by rw [List.length_append]; omega)]
    simp only [cond_true, List.drop_left]
    rw [List.take_of_length_le (by omega)]
theorem OwA.lt {S : St} {v : AV} {el sz : Nat} {cs : List AV} {m : Nat} (h : OwA S v el sz cs m) (hok : Sok S) {b : Nat} (hb : blkOf v = some b) : b < S.n := h.rd.lt hok hb
section
variable {X : X} {l : L} {S : St} {R : AV → St → Prop} {x y : Operand} {t t' : Nat}
theorem Ev_append_a {xs : Array Operand} {ts : Array TypeId} {tr : List TypeId} {i i' ei : TI} {el m k : Nat} {vs vx : AV} {cs new : List AV} (hxs : xs.toList = [x, y]) (hts : ts.toList = t :: t' :: tr) (hi' : X.ti t' = some i') (hni : (match i'.desc with | .int _ => false | _ => true) = true)
    (hx : od l x = some vs) (hy : od l y = some vx) (hi : X.ti t = some i) (hd : i.desc = .slice el) (he' : X.ti el = some ei) (hz : (Nat.beq ei.size 0 || !(Nat.beq ei.zero.length ei.size)) = false)
    (hown : OwA S vs el ei.size cs m) (hk : k ≠ 0) (hnew : Rd S vx ei.size new k) (hone : new.all AV.one = true) (hok : Sok S) (hn : S.n < 1000000000) (hlim : (2 * (m + k) + 1000) * ei.bytes ≤ 140737488355328) (hlim2 : m + k ≤ 140737488355328)
    (hR : ∀ v' S', S'.n = S.n + 1 → Sok S' → OwA S' v' el ei.size (cs ++ new) (m + k) → (∀ c, blkOf vs ≠ some c → c < S.n → S'.h.get c = S.h.get c) → blkOf v' = some S.n → R v' S') :
    Ev X l S (.call { callee := .builtin .append, args := xs, argTypes := ts }) R := by
  have key : ∀ v' S', aappend X S t vs vx = some (v', S') → S.n ≤ S'.n → R v' S' → Ev X l S (.call { callee := .builtin .append, args := xs, argTypes := ts }) R := by
    intro v' S' ha hle hr
    refine Ev_loud (fun e he => ⟨rfl, ?_⟩) hle hr
    unfold loudOp; dsimp only; rw [hxs, hts]; dsimp only; rw [hi']; dsimp only
    split
    · rename_i hdd; rw [hdd] at hni; cases hni
    · rw [od_ok he hx, od_ok he hy]; exact ha
  have hz0 : ei.size ≠ 0 := by intro h; rw [h] at hz; simp [nbeq] at hz
  have hl := srcLen_of hnew.len
  have ha0 : aappend X S t vs vx = appBody S el ei.size ei.bytes k new vs := app_eq hi hd he' hz hl hnew.cells
  have hkb : Nat.beq k 0 = false := by rw [nbeq]; simp [hk]
  rcases hown with ⟨h1, h2, h3⟩ | ⟨b, pre, h1, h2, h3⟩
  · subst h1; subst h2; subst h3
    rw [Nat.zero_add] at hlim hlim2
    refine key (.slice S.n 0 k (.op ei.size)) (S.new (.cells el new true)) ?_ (Nat.le_succ _) (hR _ _ rfl ?_ (.inr ⟨S.n, [], by rw [Nat.zero_add]; rfl, ?_, ?_⟩) ?_ rfl)
    · rw [ha0]; unfold appBody; dsimp only; rw [hkb]; simp only [cond_false]; unfold grow
      rw [nblt, nble, nble, decide_eq_true hn, decide_eq_true hlim, decide_eq_true hlim2]; rfl
    · intro c x hc
      rw [get_new hn] at hc
      by_cases h : c = S.n
      · rw [h]; exact Nat.lt_succ_self _
      · rw [if_neg h] at hc; exact Nat.lt_succ_of_lt (hok c x hc)
    · rw [get_new hn, if_pos rfl]; rfl
    · simpa using hnew.size
    · intro c _ hc; rw [get_new hn, if_neg (by omega)]
  · subst h1
    have hbn : b < S.n := hok _ _ h2
    have hns : ¬ (pre.length + (m + k) * ei.size ≤ (pre ++ cs).length) := by
      rw [List.length_append, h3, Nat.add_mul]
      have : 0 < k * ei.size := Nat.mul_pos (by omega) (by omega)
      omega
    refine key (.slice S.n 0 (m + k) (.op ei.size)) { h := Tr.set 40 (S.h.del b) S.n (.cells el ((pre ++ cs).drop pre.length ++ new) true), n := S.n + 1 } ?_ (Nat.le_succ _) (hR _ _ rfl ?_ (.inr ⟨S.n, [], rfl, ?_, ?_⟩) ?_ rfl)
    · rw [ha0]; unfold appBody; dsimp only; rw [hkb]; simp only [cond_false]
      rw [nbeq, decide_eq_true rfl]; simp only [Bool.not_true, cond_false]
      rw [h2]; dsimp only
      rw [nble, decide_eq_false hns]; simp only [cond_false]
      rw [nblt, nble, nble, nbeq, nbeq, decide_eq_true hn, decide_eq_true hlim, decide_eq_true hlim2, decide_eq_true rfl, decide_eq_true (by rw [List.length_append]; omega : pre.length + m * ei.size = (pre ++ cs).length), hone]; rfl
    · intro c x hc
      dsimp only at hc
      rw [Tr.get_set 40 _ _ _ _ (by omega)] at hc
      by_cases h : c = S.n
      · rw [h]; exact Nat.lt_succ_self _
      · rw [if_neg h, Tr.get_del] at hc
        split at hc
        · cases hc
        · exact Nat.lt_succ_of_lt (hok c x hc)
    · dsimp only; rw [Tr.get_set 40 _ _ _ _ (by omega), if_pos rfl, List.drop_left]; rfl
    · rw [List.length_append, h3, hnew.size, Nat.add_mul]
    · intro c hcb hc
      dsimp only
      rw [Tr.get_set 40 _ _ _ _ (by omega), if_neg (by omega), Tr.get_del, if_neg (fun h => hcb (by rw [h]; rfl))]
theorem Ev_slice_a {k : IntKind} {i ei : TI} {el m lo : Nat} {v : AV} {cs : List AV} (hx : od l x = some v) (hy : od l y = some (.int k ((lo : Nat) : Int))) (hi0 : X.ti t = some i) (hd : i.desc = .slice el) (he' : X.ti el = some ei) (hown : OwA S v el ei.size cs m) (hlo : lo < m)
    (hR : ∀ v', OwA S v' el ei.size (cs.drop (lo * ei.size)) (m - lo) → blkOf v' = blkOf v → R v' S) : Ev X l S (.slice t x (some y) none none) R := by
  rcases hown with ⟨_, _, h3⟩ | ⟨b, pre, h1, h2, h3⟩
  · omega
  · subst h1
    have hle : lo * ei.size ≤ cs.length := by rw [h3]; exact Nat.mul_le_mul_right _ (by omega)
    have hpl : (pre ++ cs.take (lo * ei.size)).length = pre.length + lo * ei.size := by rw [List.length_append, List.length_take]; omega
    refine Ev_slice hx (by unfold odopt; dsimp only; rw [hy]) rfl rfl hi0 hd he' rfl (r := .slice b (pre.length + lo * ei.size) (m - lo) (.op ei.size)) ?_ (hR _ (.inr ⟨b, pre ++ cs.take (lo * ei.size), by rw [hpl], ?_, ?_⟩) rfl)
    · unfold aslice
      dsimp only
      rw [hi0]; dsimp only; rw [hd]; dsimp only; rw [he']; dsimp only
      have hb : bounds m m (some (.int k ((lo : Nat) : Int))) none = some (lo, m) := by
        unfold bounds
        dsimp only
        have : bound (.int k ((lo : Nat) : Int)) m = some lo := by
          show (bif Nat.ble lo m then some lo else none) = some lo
          rw [nble, decide_eq_true (by omega)]; rfl
        rw [this]
      rw [hb]
      dsimp only
      rw [nblt, nbeq, decide_eq_true hlo, decide_eq_true rfl]; rfl
    · rw [List.append_assoc, List.take_append_drop]; exact h2
    · rw [List.length_drop, h3, Nat.sub_mul]
end
end
end GX
/- carafebook.Book of texts: Same, Stays, Apart, for lists whose capacity is known. (NODRAWN) -/




namespace Go.Proofs.Ytgiinfjcpdfgiaa
open GX
set_option maxHeartbeats 16000000
set_option maxRecDepth 100000
theorem sok_upd {S S' : St} {p : Nat} {b : AB} (h : Sok S) (hp : p < S.n) (hn : S'.n = S.n) (_ : S'.h.get p = some b) (hf : ∀ c, c ≠ p → S'.h.get c = S.h.get c) : Sok S' := by
  intro c x hx
  by_cases hc : c = p
  · rw [hc, hn]; exact hp
  · rw [hf c hc] at hx; rw [hn]; exact h c x hx
theorem cellsE_len (cs : List El) : (cellsE cs).length = cs.length := by simp [cellsE]
theorem cellsE_get {cs : List El} {i : Nat} (h : i < cs.length) : (cellsE cs)[i * 1]? = some (elV cs[i]) := by
  unfold cellsE; rw [Nat.mul_one, List.getElem?_map, List.getElem?_eq_getElem h]; rfl
theorem cellsE_one (cs : List El) : (cellsE cs).all AV.one = true := by
  apply List.all_eq_true.2
  intro x hx
  unfold cellsE at hx
  obtain ⟨c, _, rfl⟩ := List.mem_map.1 hx
  exact elV_one c
theorem cellsE_app (a b : List El) : cellsE (a ++ b) = cellsE a ++ cellsE b := List.map_append
abbrev Es (S : St) (v : AV) (cs : List El) : Prop := Rd S v 1 (cellsE cs) cs.length
/-- the same lists -/
theorem esame_runs {S : St} {v w : AV} {a b : List El} (hv : Es S v a) (hw : Es S w b) (hl : a.length ≤ 1000000000 ∧ b.length ≤ 1000000000) :
    Runs X2 15 [v, w] S fun r S' => r = .bool (decide (a = b)) ∧ S' = S := by
  refine Runs_fn (m := 26) (by kernel_rfl) Try.func15 rfl (by kernel_rfl) (by kernel_rfl) ?_
  repeat' (
    first
      | refine W_seq ?_
      | refine WO_nil ?_
      | refine V_seq ?_
      | refine W_region ?_
      | refine W_skip ?_
      | refine W_block ?_
      | refine W_ret ?_
      | refine V_ret ?_
      | refine WO_dst rfl rfl (by kernel_rfl) (by kernel_rfl) ?_
      | refine Ev_len rfl rfl rfl rfl rfl hv.len ?_
      | refine Ev_len rfl rfl rfl rfl rfl hw.len ?_
      | refine Ev_move rfl ?_
      | refine Ev_assign rfl ?_
      | refine Ev_neqN rfl rfl ?_
      | (refine W_cond rfl (fun hc => ?_) (fun hc => ?_) <;> (try dsimp only at hc) <;> try (exfalso; first | omega | exact hc rfl)))
  · refine V_done rfl rfl ⟨?_, rfl⟩
    rw [decide_eq_false (fun h => hc (by rw [h]))]; rfl
  · have hlen : a.length = b.length := Classical.not_not.1 hc
    refine W_inv (fun i : Nat => [(5, .int .i64 ((i : Nat) : Int)), (0, v), (1, w)]) (fun i T => T = S ∧ i ≤ a.length ∧ a.take i = b.take i) (fun i => a.length - i) ?_ 0 ⟨rfl, Nat.zero_le _, by simp⟩ ⟨rfl, rfl, rfl, trivial⟩
    rintro i T ⟨rfl, hi, heq⟩ back
    repeat' (
      first
        | refine W_seq ?_
        | refine WO_nil ?_
        | refine V_seq ?_
        | refine W_region ?_
        | refine W_skip ?_
        | refine W_block ?_
        | refine W_ret ?_
        | refine W_exit ?_
        | refine V_block_x rfl ?_
        | refine V_seq_x ?_
        | refine V_loop_x ?_
        | refine WO_dst rfl rfl (by kernel_rfl) (by kernel_rfl) ?_
        | refine Ev_len rfl rfl rfl rfl rfl hv.len ?_
        | refine Ev_move rfl ?_
        | refine Ev_assign rfl ?_
        | refine Ev_lssN rfl rfl ?_
        | (refine W_cond rfl (fun hc => ?_) (fun hc => ?_) <;> (try dsimp only at hc) <;> try (exfalso; first | omega | exact hc rfl)))
    · have hlt : i < a.length := hc
      have hlb : i < b.length := by omega
      refine W_drawn (by kernel_rfl) ?_
      repeat (
        first
          | refine WO_dst rfl rfl (by kernel_rfl) (by kernel_rfl) ?_
          | refine Ev_move rfl ?_)
      refine Ev_indexAddr_rd rfl rfl rfl rfl rfl hv hlt ?_
      intro q hq
      repeat (
        refine WO_dst rfl rfl (by kernel_rfl) (by kernel_rfl) ?_)
      refine Ev_load_pt rfl rfl rfl hq (cellsE_get hlt) (elV_veq _) ?_
      repeat (
        first
          | refine WO_dst rfl rfl (by kernel_rfl) (by kernel_rfl) ?_
          | refine Ev_move rfl ?_)
      refine Ev_indexAddr_rd rfl rfl rfl rfl rfl hw hlb ?_
      intro q' hq'
      repeat (
        refine WO_dst rfl rfl (by kernel_rfl) (by kernel_rfl) ?_)
      refine Ev_load_pt rfl rfl rfl hq' (cellsE_get hlb) (elV_veq _) ?_
      repeat (
        first
          | refine WO_nil ?_
          | refine V_seq ?_
          | refine WO_dst rfl rfl (by kernel_rfl) (by kernel_rfl) ?_
          | refine Ev_ene rfl rfl ?_)
      repeat' (
        first
          | refine W_seq ?_
          | refine WO_nil ?_
          | refine V_seq ?_
          | refine W_region ?_
          | refine W_skip ?_
          | refine W_ret ?_
          | refine V_ret ?_
          | refine V_block ?_
          | refine WO_dst rfl rfl (by kernel_rfl) (by kernel_rfl) ?_
          | refine Ev_move rfl ?_
          | refine Ev_assign rfl ?_
          | refine Ev_addN rfl rfl (by simp only [lim]; omega) ?_
          | (refine W_cond rfl (fun hc => ?_) (fun hc => ?_) <;> (try dsimp only at hc) <;> try (exfalso; first | omega | exact hc rfl)))
      · refine V_done rfl rfl ⟨?_, rfl⟩
        rw [decide_eq_false]; rfl
        intro h
        subst h
        exact hc rfl
      · refine back (i + 1) _ _ (by omega) ⟨rfl, by omega, ?_⟩ ⟨rfl, rfl, rfl, trivial⟩
        rw [List.take_succ_eq_append_getElem hlt, List.take_succ_eq_append_getElem hlb, heq, Classical.not_not.1 hc]
    · refine V_done rfl rfl ⟨?_, rfl⟩
      have hi2 : i = a.length := by omega
      rw [decide_eq_true]; rfl
      rw [hi2, List.take_length, hlen, List.take_length] at heq
      exact heq
section
variable {X : X} {l : L} {S : St} {R : AV → St → Prop} {x : Go.Operand}
theorem Ev_cap_ex {xs : Array Go.Operand} {ts : Array Go.TypeId} {t : Nat} {tr : List Go.TypeId} {i : TI} {el b o n k : Nat} (hxs : xs.toList = [x]) (hts : ts.toList = t :: tr) (hi : X.ti t = some i) (hd : i.desc = .slice el) (hx : od l x = some (.slice b o n (.ex k))) (hR : R (.int .i64 ((k : Nat) : Int)) S) :
    Ev X l S (.call { callee := .builtin .cap, args := xs, argTypes := ts }) R :=
  Ev_pure (fun e he => ⟨by unfold cls; rfl, by unfold pureOp; dsimp only; rw [hxs, hts]; dsimp only; rw [hi]; dsimp only; rw [hd, od_ok he hx]; rfl⟩) hR
theorem Ev_slice_cap {t : Nat} {y : Go.Operand} {kk : Go.IntKind} {ti ei : TI} {el b n k : Nat} (hx : od l x = some (.slice b 0 n (.ex k))) (hy : od l y = some (.int kk ((k : Nat) : Int))) (hti : X.ti t = some ti) (hd : ti.desc = .slice el) (he' : X.ti el = some ei) (hR : R (.slice b 0 k (.ex k)) S) :
    Ev X l S (.slice t x none (some y) none) R := by
  refine Ev_slice hx rfl (by unfold odopt; dsimp only; rw [hy]) rfl hti hd he' rfl (r := .slice b 0 k (.ex k)) ?_ hR
  unfold aslice
  dsimp only
  rw [hti]; dsimp only; rw [hd]; dsimp only; rw [he']; dsimp only
  have hb : bounds n k none (some (.int kk ((k : Nat) : Int))) = some (0, k) := by
    unfold bounds
    dsimp only
    have : bound (.int kk ((k : Nat) : Int)) k = some k := by
      show (match nat? ((k : Nat) : Int) with | some m => _ | none => none) = some k
      show (bif Nat.ble k k then some k else none) = some k
      rw [nble, decide_eq_true (Nat.le_refl k)]; rfl
    rw [this]
  rw [hb]
  dsimp only
  have e : (bif Nat.beq k 0 then 0 else 0 + 0 * ei.size) = 0 := by cases Nat.beq k 0 <;> simp
  rw [e]; rfl
end
/-- a list that is kept: its capacity, what is in it, what is behind that, and a copy -/
structure It where
  v : AV
  c : Nat
  cs : List El
  extra : List AV
  w : AV
structure ItOK (T : St) (i : It) : Prop where
  kind : (∃ b, i.v = .slice b 0 i.cs.length (.ex i.c) ∧ T.h.get b = some (.cells 9 (cellsE i.cs ++ i.extra) true) ∧ i.cs.length ≤ i.c ∧ i.c ≤ i.cs.length + i.extra.length) ∨ (i.cs = [] ∧ i.c = 0 ∧ (i.v = .nils ∨ ∃ b o, i.v = .slice b o 0 (.ex 0) ∧ Es T i.v []))
  lim : i.c < 9223372036854775808
  wr : Es T i.w i.cs
  small : i.cs.length ≤ 2000000
theorem ItOK.rd {T : St} {i : It} (h : ItOK T i) : Es T i.v i.cs := by
  rcases h.kind with ⟨b, h1, h2, h3⟩ | ⟨h1, h2, h3 | ⟨b, o, h3, h4⟩⟩
  · rw [h1]
    refine ⟨?_, veq_slice _ _ _ _, rfl, rfl, ?_, by rw [cellsE_len]; omega⟩
    · show Nat.ble i.cs.length i.c = true
      rw [nble]; exact decide_eq_true (by omega)
    · unfold srcCells row; dsimp only; rw [h2]; dsimp only
      rw [nble, decide_eq_true (by rw [List.length_append, cellsE_len]; omega)]
      simp only [cond_true, List.drop_zero]
      rw [List.take_append_of_le_length (by rw [cellsE_len]; omega), List.take_of_length_le (by rw [cellsE_len]; omega)]
  · rw [h1, h3]; exact ⟨rfl, rfl, rfl, rfl, rfl, rfl⟩
  · rw [h1]; exact h4
theorem ItOK.keep {T U : St} {i : It} (h : ItOK T i) (hv : ∀ b, blkOf i.v = some b → U.h.get b = T.h.get b) (hw : ∀ b, blkOf i.w = some b → U.h.get b = T.h.get b) : ItOK U i := by
  refine ⟨?_, h.lim, h.wr.keep hw, h.small⟩
  rcases h.kind with ⟨b, h1, h2, h3⟩ | ⟨h1, h2, h3 | ⟨b, o, h3, h4⟩⟩
  · exact .inl ⟨b, h1, by rw [hv b (by rw [h1]; rfl)]; exact h2, h3⟩
  · exact .inr ⟨h1, h2, .inl h3⟩
  · exact .inr ⟨h1, h2, .inr ⟨b, o, h3, h4.keep hv⟩⟩
/-- a list's capacity -/
theorem ItOK.cap {T : St} {i : It} (h : ItOK T i) : (∃ b o, i.v = .slice b o i.cs.length (.ex i.c)) ∨ (i.v = .nils ∧ i.c = 0) := by
  rcases h.kind with ⟨b, h1, h2, h3⟩ | ⟨h1, h2, h3 | ⟨b, o, h3, h4⟩⟩
  · exact .inl ⟨b, 0, h1⟩
  · exact .inr ⟨h3, h2⟩
  · exact .inl ⟨b, o, by rw [h1, h2]; exact h3⟩
section
variable {X : X} {l : L} {S : St} {R : AV → St → Prop} {x : Go.Operand}
theorem Ev_cap_it {xs : Array Go.Operand} {ts : Array Go.TypeId} {t : Nat} {tr : List Go.TypeId} {ti : TI} {el : Nat} {T : St} {i : It} (hxs : xs.toList = [x]) (hts : ts.toList = t :: tr) (hi : X.ti t = some ti) (hd : ti.desc = .slice el) (hx : od l x = some i.v) (hit : ItOK T i) (hR : R (.int .i64 ((i.c : Nat) : Int)) S) :
    Ev X l S (.call { callee := .builtin .cap, args := xs, argTypes := ts }) R := by
  rcases hit.cap with ⟨b, o, h⟩ | ⟨h, h2⟩
  · exact Ev_cap_ex hxs hts hi hd (by rw [hx, h]) hR
  · rw [h2] at hR
    rw [h] at hx
    exact Ev_pure (fun e he => ⟨by unfold cls; rfl, by unfold pureOp; dsimp only; rw [hxs, hts]; dsimp only; rw [hi]; dsimp only; rw [hd, od_ok he hx]; rfl⟩) hR
theorem Ev_slice_it {t : Nat} {y : Go.Operand} {kk : Go.IntKind} {ti ei : TI} {el : Nat} {T : St} {i : It} (hx : od l x = some i.v) (hy : od l y = some (.int kk ((i.c : Nat) : Int))) (hti : X.ti t = some ti) (hd : ti.desc = .slice el) (he' : X.ti el = some ei) (hit : ItOK T i)
    (hR : ∀ v, slen v = some i.c → (∀ b n, i.v = .slice b 0 n (.ex i.c) → v = .slice b 0 i.c (.ex i.c)) → R v S) :
    Ev X l S (.slice t x none (some y) none) R := by
  have hbd : ∀ n, bounds n i.c none (some (.int kk ((i.c : Nat) : Int))) = some (0, i.c) := by
    intro n
    unfold bounds
    dsimp only
    have : bound (.int kk ((i.c : Nat) : Int)) i.c = some i.c := by
      show (bif Nat.ble i.c i.c then some i.c else none) = some i.c
      rw [nble, decide_eq_true (Nat.le_refl i.c)]; rfl
    rw [this]
  rcases hit.cap with ⟨b, o, h⟩ | ⟨h, h2⟩ <;> rw [h] at hx
  · refine Ev_slice hx rfl (by unfold odopt; dsimp only; rw [hy]) rfl hti hd he' rfl (r := .slice b o i.c (.ex i.c)) ?_ (hR _ rfl fun b' n hb => ?_)
    · unfold aslice
      dsimp only
      rw [hti]; dsimp only; rw [hd]; dsimp only; rw [he']; dsimp only
      rw [hbd]
      dsimp only
      have e : (bif Nat.beq i.c 0 then o else o + 0 * ei.size) = o := by cases Nat.beq i.c 0 <;> simp
      rw [e]; rfl
    · rw [h] at hb; cases hb; rfl
  · refine Ev_slice hx rfl (by unfold odopt; dsimp only; rw [hy]) rfl hti hd he' rfl (r := .nils) ?_ (hR _ (by rw [h2]; rfl) fun b' n hb => by rw [h] at hb; cases hb)
    unfold aslice
    dsimp only
    have := hbd 0
    rw [h2] at this ⊢
    rw [this]
end
/-- a book with some lists -/
structure Bk (T : St) (p : Nat) (vl vw : AV) (h : Int) (is : List It) : Prop where
  ok : Sok T
  at_ : T.h.get p = some (.cells 27 [vl, vw, .int .i64 h, .bool false] false)
  lo : OwA T vl 22 1 (is.map It.v) is.length
  wo : OwA T vw 22 1 (is.map It.w) is.length
  it : ∀ i ∈ is, ItOK T i
  lp : blkOf vl ≠ some p
  wp : blkOf vw ≠ some p
  lw : ∀ c, blkOf vl = some c → blkOf vw ≠ some c
  ip : ∀ i ∈ is, ∀ c, blkOf i.v = some c ∨ blkOf i.w = some c → c ≠ p ∧ blkOf vl ≠ some c ∧ blkOf vw ≠ some c
  dis : ∀ (j k : Nat) (a b : It) (c : Nat), is[j]? = some a → is[k]? = some b → j ≠ k → blkOf a.v = some c → blkOf b.v ≠ some c
  few : is.length ≤ 1000
theorem Bk.l {T : St} {p : Nat} {vl vw : AV} {h : Int} {is : List It} (b : Bk T p vl vw h is) : Rd T vl 1 (is.map It.v) is.length := b.lo.rd
theorem Bk.w {T : St} {p : Nat} {vl vw : AV} {h : Int} {is : List It} (b : Bk T p vl vw h is) : Rd T vw 1 (is.map It.w) is.length := b.wo.rd
theorem map_get {α : Type} {f : α → AV} {l : List α} {i : Nat} (h : i < l.length) : (l.map f)[i * 1]? = some (f l[i]) := by
  rw [Nat.mul_one, List.getElem?_map, List.getElem?_eq_getElem h]; rfl
/-- only the book itself is written to, and not turned -/
theorem Bk.same {T U : St} {p : Nat} {vl vw : AV} {h : Int} {is : List It} (b : Bk T p vl vw h is) (hn : U.n = T.n) (hq : U.h.get p = some (.cells 27 [vl, vw, .int .i64 h, .bool false] false)) (hf : ∀ c, c ≠ p → U.h.get c = T.h.get c) : Bk U p vl vw h is :=
  ⟨sok_upd b.ok (b.ok _ _ b.at_) hn hq hf, hq, b.lo.keep (fun c hc => hf c (fun e => b.lp (by rw [hc, e]))), b.wo.keep (fun c hc => hf c (fun e => b.wp (by rw [hc, e]))),
    fun i hi => (b.it i hi).keep (fun c hc => hf c (b.ip i hi c (.inl hc)).1) (fun c hc => hf c (b.ip i hi c (.inr hc)).1), b.lp, b.wp, b.lw, b.ip, b.dis, b.few⟩
theorem stays_runs {S : St} {p : Nat} {vl vw : AV} {h : Int} {is : List It} (b : Bk S p vl vw h is) (hn : S.n ≤ 900000000) :
    Runs X2 19 [.ptr p 0] S fun r S' => r = .bool true ∧ Bk S' p vl vw h is ∧ S'.n = S.n ∧ ∀ c, c ≠ p → S'.h.get c = S.h.get c := by
  have hfew := b.few
  refine Runs_fn (m := 43) (by kernel_rfl) Try.func19 rfl (by kernel_rfl) (by kernel_rfl) ?_
  repeat (
    first
      | refine W_seq ?_
      | refine WO_nil ?_
      | refine V_seq ?_
      | refine W_region ?_
      | refine W_block ?_
      | refine WO_dst rfl rfl (by kernel_rfl) (by kernel_rfl) ?_
      | refine Ev_assign rfl ?_)
  refine W_inv (fun i : Nat => [(3, .int .i64 ((i : Nat) : Int)), (0, .ptr p 0)]) (fun i T => Bk T p vl vw h is ∧ i ≤ is.length ∧ T.n = S.n ∧ ∀ c, c ≠ p → T.h.get c = S.h.get c) (fun i => is.length - i) ?_ 0 ⟨b, Nat.zero_le _, rfl, fun _ _ => rfl⟩ ⟨rfl, rfl, trivial⟩
  rintro i T ⟨hb, hi, hTn, hTf⟩ back
  have hpn := hb.ok _ _ hb.at_
  repeat' (
    first
      | refine W_seq ?_
      | refine WO_nil ?_
      | refine V_seq ?_
      | refine W_region ?_
      | refine W_skip ?_
      | refine W_block ?_
      | refine W_ret ?_
      | refine W_exit ?_
      | refine V_block_x rfl ?_
      | refine V_seq_x ?_
      | refine V_loop_x ?_
      | refine WO_dst rfl rfl (by kernel_rfl) (by kernel_rfl) ?_
      | refine Ev_load rfl rfl rfl hb.at_ rfl hb.l.self ?_
      | refine Ev_len rfl rfl rfl rfl rfl hb.l.len ?_
      | refine Ev_load rfl rfl rfl hb.at_ rfl (show veq (.bool false) (.bool false) = true from rfl) ?_
      | refine Ev_move rfl ?_
      | refine Ev_assign rfl ?_
      | refine Ev_lssN rfl rfl ?_
      | refine Ev_notb rfl ?_
      | refine Ev_nilCheck rfl ?_
      | refine Ev_fieldAddr rfl rfl rfl rfl rfl rfl ?_
      | (refine W_cond rfl (fun hc => ?_) (fun hc => ?_) <;> (try dsimp only at hc) <;> try (exfalso; first | omega | exact hc rfl)))
  · have hlt : i < is.length := by assumption
    have hIt := hb.it _ (List.getElem_mem hlt)
    have hsm := hIt.small
    refine W_drawn (by kernel_rfl) ?_
    repeat' (
      first
        | refine WO_dst rfl rfl (by kernel_rfl) (by kernel_rfl) ?_
        | refine WO_guard_t rfl rfl rfl rfl rfl (by kernel_rfl) (by kernel_rfl) ?_
        | refine Ev_load rfl rfl rfl hb.at_ rfl hb.l.self ?_
        | refine Ev_load rfl rfl rfl hb.at_ rfl (show veq (.bool false) (.bool false) = true from rfl) ?_
        | refine Ev_move rfl ?_
        | refine Ev_nilCheck rfl ?_
        | refine Ev_fieldAddr rfl rfl rfl rfl rfl rfl ?_)
    refine Ev_indexAddr_rd rfl rfl rfl rfl rfl hb.l hlt ?_
    intro q hq
    repeat (
      first
        | refine WO_dst rfl rfl (by kernel_rfl) (by kernel_rfl) ?_
        | refine WO_guard_t rfl rfl rfl rfl rfl (by kernel_rfl) (by kernel_rfl) ?_)
    refine Ev_load_pt rfl rfl rfl hq (map_get hlt) hIt.rd.self ?_
    repeat (
      first
        | refine WO_dst rfl rfl (by kernel_rfl) (by kernel_rfl) ?_
        | refine WO_guard_t rfl rfl rfl rfl rfl (by kernel_rfl) (by kernel_rfl) ?_
        | refine Ev_load rfl rfl rfl hb.at_ rfl hb.w.self ?_
        | refine Ev_move rfl ?_
        | refine Ev_nilCheck rfl ?_
        | refine Ev_fieldAddr rfl rfl rfl rfl rfl rfl ?_)
    refine Ev_indexAddr_rd rfl rfl rfl rfl rfl hb.w hlt ?_
    intro q2 hq2
    repeat (
      first
        | refine WO_dst rfl rfl (by kernel_rfl) (by kernel_rfl) ?_
        | refine WO_guard_t rfl rfl rfl rfl rfl (by kernel_rfl) (by kernel_rfl) ?_)
    refine Ev_load_pt rfl rfl rfl hq2 (map_get hlt) hIt.wr.self ?_
    repeat (
      first
        | refine WO_dst rfl rfl (by kernel_rfl) (by kernel_rfl) ?_
        | refine WO_guard_t rfl rfl rfl rfl rfl (by kernel_rfl) (by kernel_rfl) ?_)
    refine Ev_call rfl rfl ((esame_runs hIt.rd hIt.wr ⟨by omega, by omega⟩).mono ?_)
    rintro _ T2 - ⟨rfl, hT2⟩
    rw [hT2, decide_eq_true rfl]
    repeat' (
      first
        | refine WO_dst rfl rfl (by kernel_rfl) (by kernel_rfl) ?_
        | refine WO_no rfl rfl ?_
        | refine WO_guard_t rfl rfl rfl rfl rfl (by kernel_rfl) (by kernel_rfl) ?_
        | refine Ev_pick_f rfl rfl rfl ?_
        | refine Ev_notb rfl ?_
        | refine Ev_nilCheck rfl ?_
        | refine Ev_fieldAddr rfl rfl rfl rfl rfl rfl ?_)
    refine Ev_store rfl rfl rfl rfl rfl hb.at_ (by simp [AV.cells]) (by omega) ?_
    intro U un uq uf
    repeat' (
      first
        | refine WO_nil ?_
        | refine V_seq ?_
        | refine W_region ?_
        | refine V_block ?_
        | refine WO_dst rfl rfl (by kernel_rfl) (by kernel_rfl) ?_
        | refine Ev_move rfl ?_
        | refine Ev_assign rfl ?_
        | refine Ev_addN rfl rfl (by simp only [lim]; omega) ?_)
    refine back (i + 1) U _ (by omega) ⟨hb.same un uq uf, by omega, by omega, fun c hc => by rw [uf c hc, hTf c hc]⟩ ?_
    exact ⟨rfl, rfl, trivial⟩
  · refine V_done rfl rfl ⟨rfl, hb, hTn, hTf⟩
theorem lput_pre {α : Type} : ∀ (a q x r : List α), x.length = q.length → lput (a ++ (q ++ r)) a.length x = a ++ (x ++ r)
  | [], [], [], r, _ => by rw [lput_nil]
  | [], y :: q, z :: x, r, h => by
    have := lput_pre [] q x r (by simpa using h)
    show z :: lput (q ++ r) 0 x = _
    simp only [List.nil_append, List.length_nil] at this
    rw [this]; rfl
  | [], [], _ :: _, r, h => by simp at h
  | [], _ :: _, [], r, h => by simp at h
  | b :: a, q, x, r, h => by
    show b :: lput (a ++ (q ++ r)) a.length x = _
    rw [lput_pre a q x r h]; rfl
theorem pt_of {S : St} {b o ty : Nat} {cs : List AV} {sp : Bool} (h : S.h.get b = some (.cells ty cs sp)) : Pt S (.ptr b o) cs o :=
  .inl ⟨b, 0, ty, cs, sp, by rw [Nat.zero_add], h, by omega, fun i _ => by rw [Nat.zero_add]⟩
/-- marks -/
def mkE (i c : Nat) : List El := (List.range c).map fun (j : Nat) => mk1 i j
theorem mkE_len (i c : Nat) : (mkE i c).length = c := by simp [mkE]
theorem mkE_s (i c : Nat) : mkE i (c + 1) = mkE i c ++ [mk1 i c] := by unfold mkE; rw [List.range_succ, List.map_append]; rfl
theorem mkE_get (i c j : Nat) (h : j < (mkE i c).length) : (mkE i c)[j] = mk1 i j := by
  have h2 : (mkE i c)[j]? = some (mk1 i j) := by
    unfold mkE
    rw [List.getElem?_map, List.getElem?_range (by rw [mkE_len] at h; exact h)]; rfl
  exact Option.some.inj ((List.getElem?_eq_getElem h).symm.trans h2)
theorem mark2 {S : St} {i j : Nat} {R : AV → St → Prop} (h : R (elV (mk1 i j)) S) : Runs X2 10 [.int .i64 ((i : Nat) : Int), .int .i64 ((j : Nat) : Int)] S R := Runs_ext (g := extMark) rfl rfl (Nat.le_refl _) h
/-- the lists ahead of one are full of marks, the others are as they were -/
structure Ap (T : St) (p : Nat) (vl vw : AV) (h : Int) (is : List It) (i : Nat) : Prop where
  ok : Sok T
  at_ : T.h.get p = some (.cells 27 [vl, vw, .int .i64 h, .bool false] false)
  l : Rd T vl 1 (is.map It.v) is.length
  done : ∀ j a b, is[j]? = some a → j < i → 0 < a.c → a.v = .slice b 0 a.cs.length (.ex a.c) → ∃ tl, T.h.get b = some (.cells 9 (cellsE (mkE j a.c) ++ tl) true)
  todo : ∀ j a b, is[j]? = some a → i ≤ j → 0 < a.c → a.v = .slice b 0 a.cs.length (.ex a.c) → T.h.get b = some (.cells 9 (cellsE a.cs ++ a.extra) true)
theorem ItOK.pos {T : St} {i : It} (h : ItOK T i) (hc : 0 < i.c) : ∃ b, i.v = .slice b 0 i.cs.length (.ex i.c) ∧ T.h.get b = some (.cells 9 (cellsE i.cs ++ i.extra) true) ∧ i.cs.length ≤ i.c ∧ i.c ≤ i.cs.length + i.extra.length := by
  rcases h.kind with h | ⟨_, h, _⟩
  · exact h
  · omega
theorem ItOK.at_ {T : St} {i : It} (h : ItOK T i) (hc : 0 < i.c) {b : Nat} (hb : i.v = .slice b 0 i.cs.length (.ex i.c)) : T.h.get b = some (.cells 9 (cellsE i.cs ++ i.extra) true) := by
  obtain ⟨b', h1, h2, _⟩ := h.pos hc
  rw [h1] at hb; cases hb; exact h2
theorem apart_runs {S : St} {p : Nat} {vl vw : AV} {h : Int} {is : List It} (b : Bk S p vl vw h is) (hn : S.n ≤ 900000000) :
    Runs X2 9 [.ptr p 0, .func (.func 10) [] []] S fun r _ => r = .bool true := by
  have hbl : ∀ a ∈ is, ∀ c, blkOf a.v = some c → c ≠ p ∧ blkOf vl ≠ some c := fun a ha c hc => ⟨(b.ip a ha c (.inl hc)).1, (b.ip a ha c (.inl hc)).2.1⟩
  have hfew := b.few
  refine Runs_fn (m := 101) (by kernel_rfl) Try.func9 rfl (by kernel_rfl) (by kernel_rfl) ?_
  repeat (
    first
      | refine W_seq ?_
      | refine WO_nil ?_
      | refine V_seq ?_
      | refine W_region ?_
      | refine WO_dst rfl rfl (by kernel_rfl) (by kernel_rfl) ?_
      | refine Ev_move rfl ?_
      | refine Ev_assign rfl ?_)
  refine Ev_call rfl rfl ((stays_runs b hn).mono ?_)
  rintro _ S1 - ⟨rfl, b1, sn1, sf1⟩
  repeat' (
    first
      | refine W_seq ?_
      | refine WO_nil ?_
      | refine V_seq ?_
      | refine W_region ?_
      | refine W_skip ?_
      | refine W_block ?_
      | refine W_cond_f rfl ?_
      | refine WO_dst rfl rfl (by kernel_rfl) (by kernel_rfl) ?_
      | refine Ev_assign rfl ?_
      | refine Ev_notb rfl ?_)
  refine W_inv (fun i : Nat => [(5, .int .i64 ((i : Nat) : Int)), (0, .ptr p 0), (1, .func (.func 10) [] [])]) (fun i T => Ap T p vl vw h is i ∧ i ≤ is.length ∧ T.n = S.n) (fun i => is.length - i) ?_ 0 ⟨⟨b1.ok, b1.at_, b1.l, fun j a _ _ h0 => absurd h0 (Nat.not_lt_zero _), fun j a b2 ha _ hc hv => (b1.it a (List.mem_of_getElem? ha)).at_ hc hv⟩, Nat.zero_le _, sn1⟩ ⟨rfl, rfl, rfl, trivial⟩
  rintro i T ⟨ha, hi, hTn⟩ back
  repeat' (
    first
      | refine W_seq ?_
      | refine WO_nil ?_
      | refine V_seq ?_
      | refine W_region ?_
      | refine W_skip ?_
      | refine W_block ?_
      | refine W_exit ?_
      | refine V_block_x rfl ?_
      | refine V_seq_x ?_
      | refine V_loop_x ?_
      | refine WO_dst rfl rfl (by kernel_rfl) (by kernel_rfl) ?_
      | refine Ev_load rfl rfl rfl ha.at_ rfl ha.l.self ?_
      | refine Ev_len rfl rfl rfl rfl rfl ha.l.len ?_
      | refine Ev_move rfl ?_
      | refine Ev_assign rfl ?_
      | refine Ev_lssN rfl rfl ?_
      | refine Ev_nilCheck rfl ?_
      | refine Ev_fieldAddr rfl rfl rfl rfl rfl rfl ?_
      | (refine W_cond rfl (fun hc => ?_) (fun hc => ?_) <;> (try dsimp only at hc) <;> try (exfalso; first | omega | exact hc rfl)))
  · have hlt : i < is.length := by assumption
    obtain ⟨a, hae⟩ : ∃ a, a = is[i] := ⟨_, rfl⟩
    have hmem : a ∈ is := by rw [hae]; exact List.getElem_mem _
    have hget : is[i]? = some a := by rw [hae]; exact List.getElem?_eq_getElem hlt
    have hio := b.it a hmem
    have hlim := hio.lim
    have hmg := map_get (f := It.v) hlt
    rw [← hae] at hmg
    refine W_drawn (by kernel_rfl) ?_
    repeat (
      first
        | refine WO_dst rfl rfl (by kernel_rfl) (by kernel_rfl) ?_
        | refine Ev_load rfl rfl rfl ha.at_ rfl ha.l.self ?_
        | refine Ev_move rfl ?_
        | refine Ev_nilCheck rfl ?_
        | refine Ev_fieldAddr rfl rfl rfl rfl rfl rfl ?_)
    refine Ev_indexAddr_rd rfl rfl rfl rfl rfl ha.l hlt ?_
    intro q hq
    repeat (
      refine WO_dst rfl rfl (by kernel_rfl) (by kernel_rfl) ?_)
    refine Ev_load_pt rfl rfl rfl hq hmg hio.rd.self ?_
    repeat (
      first
        | refine WO_dst rfl rfl (by kernel_rfl) (by kernel_rfl) ?_
        | refine Ev_load rfl rfl rfl ha.at_ rfl ha.l.self ?_
        | refine Ev_move rfl ?_
        | refine Ev_nilCheck rfl ?_
        | refine Ev_fieldAddr rfl rfl rfl rfl rfl rfl ?_)
    refine Ev_indexAddr_rd rfl rfl rfl rfl rfl ha.l hlt ?_
    intro q2 hq2
    repeat (
      refine WO_dst rfl rfl (by kernel_rfl) (by kernel_rfl) ?_)
    refine Ev_load_pt rfl rfl rfl hq2 hmg hio.rd.self ?_
    repeat (
      refine WO_dst rfl rfl (by kernel_rfl) (by kernel_rfl) ?_)
    refine Ev_cap_it rfl rfl rfl rfl rfl hio ?_
    repeat (
      refine WO_dst rfl rfl (by kernel_rfl) (by kernel_rfl) ?_)
    refine Ev_slice_it rfl rfl rfl rfl rfl hio ?_
    intro v5 hv5 hv5b
    rcases Nat.eq_zero_or_pos a.c with hc0 | hcp
    · rw [hc0] at hv5
      repeat' (
        first
          | refine W_seq ?_
          | refine WO_nil ?_
          | refine V_seq ?_
          | refine W_region ?_
          | refine W_block ?_
          | refine WO_dst rfl rfl (by kernel_rfl) (by kernel_rfl) ?_
          | refine Ev_assign rfl ?_)
      refine W_inv (fun _ : Unit => [(7, .int .i64 0), (6, v5), (5, .int .i64 ((i : Nat) : Int)), (0, .ptr p 0), (1, .func (.func 10) [] [])]) (fun _ U => U = T) (fun _ => 0) ?_ () rfl ⟨rfl, rfl, rfl, rfl, rfl, trivial⟩
      rintro _ U hUT back2
      rw [hUT]
      repeat' (
        first
          | refine W_seq ?_
          | refine WO_nil ?_
          | refine V_seq ?_
          | refine W_region ?_
          | refine W_exit ?_
          | refine V_block ?_
          | refine V_block_x rfl ?_
          | refine V_seq_x ?_
          | refine V_loop_x ?_
          | refine W_cond_f rfl ?_
          | refine WO_dst rfl rfl (by kernel_rfl) (by kernel_rfl) ?_
          | refine Ev_len rfl rfl rfl rfl rfl hv5 ?_
          | refine Ev_move rfl ?_
          | refine Ev_assign rfl ?_
          | refine Ev_lssN rfl rfl ?_
          | refine Ev_addN rfl rfl (by simp only [lim]; omega) ?_)
      refine back (i + 1) T _ (by omega) ⟨⟨ha.ok, ha.at_, ha.l, fun k c b2 hk hki hc hv => ?_, fun k c b2 hk hki hc hv => ha.todo k c b2 hk (by omega) hc hv⟩, by omega, by omega⟩ ⟨rfl, rfl, rfl, trivial⟩
      by_cases hke : k = i
      · subst hke; rw [hget] at hk; cases hk; omega
      · exact ha.done k c b2 hk (by omega) hc hv
    obtain ⟨ab, hav, _, hlen, hlen2⟩ := hio.pos hcp
    have hve := hv5b ab _ hav
    rw [hve]
    have hblk := ha.todo i a ab hget (Nat.le_refl _) hcp hav
    have hbn : ab < T.n := ha.ok _ _ hblk
    repeat' (
      first
        | refine W_seq ?_
        | refine WO_nil ?_
        | refine V_seq ?_
        | refine W_region ?_
        | refine W_block ?_
        | refine WO_dst rfl rfl (by kernel_rfl) (by kernel_rfl) ?_
        | refine Ev_assign rfl ?_)
    refine W_inv (fun x : Nat × List AV => [(7, .int .i64 ((x.1 : Nat) : Int)), (6, .slice ab 0 a.c (.ex a.c)), (5, .int .i64 ((i : Nat) : Int)), (0, .ptr p 0), (1, .func (.func 10) [] [])]) (fun x U => U.n = T.n ∧ x.1 ≤ a.c ∧ U.h.get ab = some (.cells 9 (cellsE (mkE i x.1) ++ x.2) true) ∧ x.1 + x.2.length = a.cs.length + a.extra.length ∧ ∀ d, d ≠ ab → U.h.get d = T.h.get d) (fun x => a.c - x.1) ?_ (0, cellsE a.cs ++ a.extra) ⟨rfl, Nat.zero_le _, hblk, by rw [List.length_append, cellsE_len]; dsimp only; omega, fun _ _ => rfl⟩ ⟨rfl, rfl, rfl, rfl, rfl, trivial⟩
    rintro ⟨j, rest⟩ U ⟨hUn, hj, hUb, hUl, hUf⟩ back2
    dsimp only at hj hUb hUl back2
    repeat' (
      first
        | refine W_seq ?_
        | refine WO_nil ?_
        | refine V_seq ?_
        | refine W_region ?_
        | refine W_skip ?_
        | refine W_block ?_
        | refine W_exit ?_
        | refine V_block ?_
        | refine V_block_x rfl ?_
        | refine V_seq_x ?_
        | refine V_loop_x ?_
        | refine WO_dst rfl rfl (by kernel_rfl) (by kernel_rfl) ?_
        | refine Ev_move rfl ?_
        | refine Ev_assign rfl ?_
        | refine Ev_lssN rfl rfl ?_
        | refine Ev_len rfl rfl rfl rfl rfl rfl ?_
        | refine Ev_addN rfl rfl (by simp only [lim]; omega) ?_
        | (refine W_cond rfl (fun hc => ?_) (fun hc => ?_) <;> (try dsimp only at hc) <;> try (exfalso; first | omega | exact hc rfl)))
    · have hjl : j < a.c := by assumption
      refine Ev_call rfl rfl (mark2 ?_)
      repeat (
        first
          | refine WO_dst rfl rfl (by kernel_rfl) (by kernel_rfl) ?_
          | refine WO_no rfl rfl ?_
          | refine Ev_indexAddr rfl rfl rfl rfl rfl (by first | omega | (dsimp only; done) | (dsimp only; omega)) ?_)
      have hml : (cellsE (mkE i j)).length = j := by rw [cellsE_len, mkE_len]
      refine Ev_store rfl rfl rfl rfl rfl hUb (by show 0 + j * 1 + 1 ≤ _; rw [List.length_append, hml]; omega) (by omega) ?_
      intro V vn vq vf
      repeat' (
        first
          | refine WO_nil ?_
          | refine V_seq ?_
          | refine W_region ?_
          | refine V_block ?_
          | refine WO_dst rfl rfl (by kernel_rfl) (by kernel_rfl) ?_
          | refine Ev_move rfl ?_
          | refine Ev_assign rfl ?_
          | refine Ev_addN rfl rfl (by simp only [lim]; omega) ?_)
      refine back2 (j + 1, rest.drop 1) V _ (by dsimp only; omega) ⟨by omega, by dsimp only; omega, ?_, by dsimp only; rw [List.length_drop]; omega, fun d hd => by rw [vf d hd, hUf d hd]⟩ ⟨rfl, rfl, rfl, rfl, rfl, trivial⟩
      dsimp only
      rw [vq]
      show some (AB.cells 9 (lput (cellsE (mkE i j) ++ rest) (0 + j * 1) [elV (mk1 i j)]) true) = _
      have e : rest = rest.take 1 ++ rest.drop 1 := (List.take_append_drop 1 rest).symm
      rw [show 0 + j * 1 = (cellsE (mkE i j)).length by rw [hml]; omega]
      conv => lhs; rw [e]
      rw [lput_pre _ _ _ _ (by rw [List.length_take]; show 1 = _; omega), mkE_s, cellsE_app, List.append_assoc]
      simp [cellsE]
    · have hjc : j = a.c := by omega
      subst hjc
      have hUok : Sok U := sok_upd ha.ok hbn hUn hUb hUf
      have habv : blkOf a.v = some ab := by rw [hav]; rfl
      refine back (i + 1) U _ (by omega) ⟨⟨hUok, ?_, ?_, fun k c b2 hk hki hc hv => ?_, fun k c b2 hk hki hc hv => ?_⟩, by omega, by omega⟩ ⟨rfl, rfl, rfl, trivial⟩
      · rw [hUf p (Ne.symm (hbl a hmem ab habv).1)]; exact ha.at_
      · exact ha.l.keep (fun c hc => hUf c (fun e => (hbl a hmem ab habv).2 (by rw [hc, e])))
      · by_cases hke : k = i
        · subst hke; rw [hget] at hk; cases hk; rw [hav] at hv; cases hv; exact ⟨rest, hUb⟩
        · rw [hUf b2 (fun e => b.dis k i c a b2 hk hget hke (by rw [hv]; rfl) (by rw [e]; exact habv))]; exact ha.done k c b2 hk (by omega) hc hv
      · rw [hUf b2 (fun e => b.dis k i c a b2 hk hget (by omega) (by rw [hv]; rfl) (by rw [e]; exact habv))]; exact ha.todo k c b2 hk (by omega) hc hv
  have hin : i = is.length := by omega
  repeat' (
    refine W_seq ?_)
  refine W_inv (fun i : Nat => [(8, .int .i64 ((i : Nat) : Int)), (0, .ptr p 0), (1, .func (.func 10) [] [])]) (fun i U => U = T ∧ i ≤ is.length) (fun i => is.length - i) ?_ 0 ⟨rfl, Nat.zero_le _⟩ ⟨rfl, rfl, rfl, trivial⟩
  rintro m U ⟨hUT, hm⟩ back3
  rw [hUT]
  repeat' (
    first
      | refine W_seq ?_
      | refine WO_nil ?_
      | refine V_seq ?_
      | refine W_region ?_
      | refine W_skip ?_
      | refine W_block ?_
      | refine W_exit ?_
      | refine V_block_x rfl ?_
      | refine V_seq_x ?_
      | refine V_loop_x ?_
      | refine WO_dst rfl rfl (by kernel_rfl) (by kernel_rfl) ?_
      | refine WO_no rfl rfl ?_
      | refine Ev_load rfl rfl rfl ha.at_ rfl ha.l.self ?_
      | refine Ev_len rfl rfl rfl rfl rfl ha.l.len ?_
      | refine Ev_move rfl ?_
      | refine Ev_lssN rfl rfl ?_
      | refine Ev_nilCheck rfl ?_
      | refine Ev_fieldAddr rfl rfl rfl rfl rfl rfl ?_
      | (refine W_cond rfl (fun hc => ?_) (fun hc => ?_) <;> (try dsimp only at hc) <;> try (exfalso; first | omega | exact hc rfl)))
  · have hlt : m < is.length := by assumption
    obtain ⟨a, hae⟩ : ∃ a, a = is[m] := ⟨_, rfl⟩
    have hmem : a ∈ is := by rw [hae]; exact List.getElem_mem _
    have hget : is[m]? = some a := by rw [hae]; exact List.getElem?_eq_getElem hlt
    have hio := b.it a hmem
    have hlim := hio.lim
    have hmg := map_get (f := It.v) hlt
    rw [← hae] at hmg
    refine W_drawn (by kernel_rfl) ?_
    repeat (
      first
        | refine WO_dst rfl rfl (by kernel_rfl) (by kernel_rfl) ?_
        | refine Ev_load rfl rfl rfl ha.at_ rfl ha.l.self ?_
        | refine Ev_move rfl ?_
        | refine Ev_nilCheck rfl ?_
        | refine Ev_fieldAddr rfl rfl rfl rfl rfl rfl ?_)
    refine Ev_indexAddr_rd rfl rfl rfl rfl rfl ha.l hlt ?_
    intro q hq
    repeat (
      refine WO_dst rfl rfl (by kernel_rfl) (by kernel_rfl) ?_)
    refine Ev_load_pt rfl rfl rfl hq hmg hio.rd.self ?_
    repeat (
      first
        | refine WO_dst rfl rfl (by kernel_rfl) (by kernel_rfl) ?_
        | refine Ev_load rfl rfl rfl ha.at_ rfl ha.l.self ?_
        | refine Ev_move rfl ?_
        | refine Ev_nilCheck rfl ?_
        | refine Ev_fieldAddr rfl rfl rfl rfl rfl rfl ?_)
    refine Ev_indexAddr_rd rfl rfl rfl rfl rfl ha.l hlt ?_
    intro q2 hq2
    repeat (
      refine WO_dst rfl rfl (by kernel_rfl) (by kernel_rfl) ?_)
    refine Ev_load_pt rfl rfl rfl hq2 hmg hio.rd.self ?_
    repeat (
      refine WO_dst rfl rfl (by kernel_rfl) (by kernel_rfl) ?_)
    refine Ev_cap_it rfl rfl rfl rfl rfl hio ?_
    repeat (
      refine WO_dst rfl rfl (by kernel_rfl) (by kernel_rfl) ?_)
    refine Ev_slice_it rfl rfl rfl rfl rfl hio ?_
    intro v9 hv9 hv9b
    rcases Nat.eq_zero_or_pos a.c with hc0 | hcp
    · rw [hc0] at hv9
      repeat' (
        first
          | refine W_seq ?_
          | refine WO_nil ?_
          | refine V_seq ?_
          | refine W_region ?_
          | refine W_block ?_
          | refine WO_dst rfl rfl (by kernel_rfl) (by kernel_rfl) ?_
          | refine Ev_assign rfl ?_)
      refine W_inv (fun _ : Unit => [(10, .int .i64 0), (9, v9), (8, .int .i64 ((m : Nat) : Int)), (0, .ptr p 0), (1, .func (.func 10) [] [])]) (fun _ U => U = T) (fun _ => 0) ?_ () rfl ⟨rfl, rfl, rfl, rfl, rfl, trivial⟩
      rintro _ U hUT2 back4
      rw [hUT2]
      repeat' (
        first
          | refine W_seq ?_
          | refine WO_nil ?_
          | refine V_seq ?_
          | refine W_region ?_
          | refine W_exit ?_
          | refine V_block ?_
          | refine V_block_x rfl ?_
          | refine V_seq_x ?_
          | refine V_loop_x ?_
          | refine W_cond_f rfl ?_
          | refine WO_dst rfl rfl (by kernel_rfl) (by kernel_rfl) ?_
          | refine Ev_len rfl rfl rfl rfl rfl hv9 ?_
          | refine Ev_move rfl ?_
          | refine Ev_assign rfl ?_
          | refine Ev_lssN rfl rfl ?_
          | refine Ev_addN rfl rfl (by simp only [lim]; omega) ?_)
      exact back3 (m + 1) T _ (by omega) ⟨rfl, by omega⟩ ⟨rfl, rfl, rfl, trivial⟩
    obtain ⟨ab, hav, _, hlen, hlen2⟩ := hio.pos hcp
    have hve := hv9b ab _ hav
    rw [hve]
    obtain ⟨tl, hblk⟩ := ha.done m a ab hget (by omega) hcp hav
    repeat' (
      first
        | refine W_seq ?_
        | refine WO_nil ?_
        | refine V_seq ?_
        | refine W_region ?_
        | refine W_block ?_
        | refine WO_dst rfl rfl (by kernel_rfl) (by kernel_rfl) ?_
        | refine Ev_assign rfl ?_)
    refine W_inv (fun j : Nat => [(10, .int .i64 ((j : Nat) : Int)), (9, .slice ab 0 a.c (.ex a.c)), (8, .int .i64 ((m : Nat) : Int)), (0, .ptr p 0), (1, .func (.func 10) [] [])]) (fun j U => U = T ∧ j ≤ a.c) (fun j => a.c - j) ?_ 0 ⟨rfl, Nat.zero_le _⟩ ⟨rfl, rfl, rfl, rfl, rfl, trivial⟩
    rintro j U ⟨hUT2, hj⟩ back4
    rw [hUT2]
    repeat' (
      first
        | refine W_seq ?_
        | refine WO_nil ?_
        | refine V_seq ?_
        | refine W_region ?_
        | refine W_skip ?_
        | refine W_block ?_
        | refine W_exit ?_
        | refine V_block ?_
        | refine V_block_x rfl ?_
        | refine V_seq_x ?_
        | refine V_loop_x ?_
        | refine WO_dst rfl rfl (by kernel_rfl) (by kernel_rfl) ?_
        | refine Ev_move rfl ?_
        | refine Ev_assign rfl ?_
        | refine Ev_lssN rfl rfl ?_
        | refine Ev_len rfl rfl rfl rfl rfl rfl ?_
        | refine Ev_addN rfl rfl (by simp only [lim]; omega) ?_
        | (refine W_cond rfl (fun hc => ?_) (fun hc => ?_) <;> (try dsimp only at hc) <;> try (exfalso; first | omega | exact hc rfl)))
    · have hjl : j < a.c := by assumption
      have hjl2 : j < (mkE m a.c).length := by rw [mkE_len]; exact hjl
      have hcg := cellsE_get hjl2
      rw [mkE_get] at hcg
      have hcg2 : (cellsE (mkE m a.c) ++ tl)[j * 1]? = some (elV (mk1 m j)) := by rw [List.getElem?_append_left (by rw [cellsE_len, mkE_len]; omega)]; exact hcg
      have hD : ∀ f ∈ [(⟨ab, .cells 9 (cellsE (mkE m a.c) ++ tl) true, none⟩ : Fct)], T.h.get f.id = some f.x := by
        intro f hf; rw [List.mem_singleton] at hf; subst hf; exact hblk
      refine W_drawnF [⟨ab, .cells 9 (cellsE (mkE m a.c) ++ tl) true, none⟩] ?_ (by kernel_rfl) ?_
      · intro f hf; rw [List.mem_singleton] at hf; subst hf; exact ⟨rfl, ha.ok _ _ hblk, hblk⟩
      repeat (
        first
          | refine WF_pa rfl rfl (by kernel_rfl) (by kernel_rfl) rfl ?_
          | refine Ev_move rfl ?_
          | refine Ev_indexAddr rfl rfl rfl rfl rfl (by first | omega | (dsimp only; done) | (dsimp only; omega)) ?_)
      refine WF_rf rfl rfl (by kernel_rfl) (by kernel_rfl) hD (FPD_load (p := .ptr ab (0 + j * 1)) (v := elV (mk1 m j)) rfl rfl rfl (pt_of hblk) (by rw [Nat.zero_add]; exact hcg2) (fun b hb => by cases hb; exact ⟨_, List.mem_cons_self .., rfl, hblk, fun j hj => by cases hj⟩)) (elV_veq _) ?_
      repeat (
        first
          | refine WF_pa rfl rfl (by kernel_rfl) (by kernel_rfl) rfl ?_
          | refine Ev_move rfl ?_)
      refine WF_ld rfl rfl (by kernel_rfl) (by kernel_rfl) (fun _ _ => rfl) ?_
      refine Ev_call rfl rfl (mark2 ?_)
      refine ⟨hD, [], by simp, ?_⟩
      repeat (
        first
          | refine WF_nil ?_
          | refine WF_pa rfl rfl (by kernel_rfl) (by kernel_rfl) rfl ?_
          | refine V_seq ?_
          | refine Ev_ene rfl rfl ?_)
      rw [decide_eq_false (fun h => h rfl)]
      repeat' (
        first
          | refine WO_nil ?_
          | refine V_seq ?_
          | refine W_region ?_
          | refine W_skip ?_
          | refine V_block ?_
          | refine W_cond_f rfl ?_
          | refine WO_dst rfl rfl (by kernel_rfl) (by kernel_rfl) ?_
          | refine Ev_move rfl ?_
          | refine Ev_assign rfl ?_
          | refine Ev_addN rfl rfl (by simp only [lim]; omega) ?_)
      exact back4 (j + 1) T _ (by omega) ⟨rfl, by omega⟩ ⟨rfl, rfl, rfl, rfl, rfl, trivial⟩
    · exact back3 (m + 1) T _ (by omega) ⟨rfl, by omega⟩ ⟨rfl, rfl, rfl, trivial⟩
  have hpn := ha.ok _ _ ha.at_
  refine Ev_store rfl rfl rfl rfl rfl ha.at_ (by simp [AV.cells]) (by omega) ?_
  intro U1 un1 uq1 uf1
  repeat (
    first
      | refine W_seq ?_
      | refine WO_nil ?_
      | refine V_seq ?_
      | refine W_region ?_
      | refine WO_dst rfl rfl (by kernel_rfl) (by kernel_rfl) ?_
      | refine WO_no rfl rfl ?_
      | refine Ev_move rfl ?_
      | refine Ev_nilCheck rfl ?_
      | refine Ev_fieldAddr rfl rfl rfl rfl rfl rfl ?_)
  refine Ev_store rfl rfl rfl rfl rfl uq1 (by simp [AV.cells, lput]) (by omega) ?_
  intro U2 un2 uq2 uf2
  repeat (
    first
      | refine W_seq ?_
      | refine WO_nil ?_
      | refine V_seq ?_
      | refine W_region ?_
      | refine WO_dst rfl rfl (by kernel_rfl) (by kernel_rfl) ?_
      | refine WO_no rfl rfl ?_
      | refine Ev_move rfl ?_
      | refine Ev_nilCheck rfl ?_
      | refine Ev_fieldAddr rfl rfl rfl rfl rfl rfl ?_)
  refine Ev_store rfl rfl rfl rfl rfl uq2 (by simp [AV.cells, lput]) (by omega) ?_
  intro U3 un3 uq3 uf3
  repeat (
    first
      | refine W_seq ?_
      | refine WO_nil ?_
      | refine V_seq ?_
      | refine W_region ?_
      | refine W_ret ?_
      | refine WO_dst rfl rfl (by kernel_rfl) (by kernel_rfl) ?_
      | refine Ev_assign rfl ?_)
  refine V_done rfl rfl ?_
  rfl
end Go.Proofs.Ytgiinfjcpdfgiaa
/- GX: slices that come in as arguments: they are only read. -/


namespace GX
open Go
section
variable {P : Program} {X : X}
theorem vrels_ints [Val] {φ : Phi} {k : IntKind} : ∀ (l : List Int), vrels φ (l.map (AV.int k)) (l.map (Value.int k))
  | [] => vrels_nil
  | n :: l => vrels_cons (by simp [vrel]) (vrels_ints l)
theorem veqs_ints {k : IntKind} : ∀ (l : List Int), veqs (l.map (AV.int k)) (l.map (AV.int k)) = true
  | [] => rfl
  | n :: l => by simp only [List.map_cons, veqs, veqs_ints l, veq, ieq_eq]; simp
/-- cells that came in, as a slice that is only read -/
theorem arg_cells [Val] {φ : Phi} {w : World} (hro : ∀ g o, w.heap[g]? = some o → Val.ro g = some o) {a : Addr} {len cap : Nat} {cs : List AV} {vs : List Value} (hl : len ≤ cap) (hv : vs.length = len) (hcell : ∀ i v, vs[i]? = some v → w.cell? (a.add i) = some v) (hrel : vrels φ cs vs) (hself : veqs cs cs = true) :
    ∃ av, vrel φ av (.slice (some a) len cap) ∧ ∀ S, Rd S av 1 cs len := by
  have hcl : cs.length = len := by rw [vrels_length hrel, hv]
  by_cases h0 : len = 0
  · subst h0
    cases List.eq_nil_of_length_eq_zero hcl
    exact ⟨.emp, ⟨a, cap, rfl⟩, fun S => ⟨rfl, rfl, rfl, rfl, rfl, rfl⟩⟩
  · have hsp : a.spot = none ∧ ∃ c t fz, w.heap[a.block]? = some (.cells c t fz) := by
      obtain ⟨v, hv0⟩ : ∃ v, vs[0]? = some v := ⟨_, List.getElem?_eq_getElem (by omega)⟩
      have h := hcell 0 v hv0
      unfold Addr.add World.cell? at h
      simp only [if_true] at h
      split at h
      · rename_i c t fz hh
        split at h
        · cases h
        · rename_i hs
          exact ⟨by simpa using hs, c, t, fz, hh⟩
      · cases h
    obtain ⟨hs, c, t, fz, hh⟩ := hsp
    have hget : ∀ i v, vs[i]? = some v → c[a.off + i]? = some v := by
      intro i v hi
      have h := hcell i v hi
      unfold World.cell? at h
      by_cases hi0 : i = 0
      · subst hi0
        simp only [Addr.add, if_true, hh, hs] at h
        simpa using h
      · simp only [Addr.add, if_neg hi0, hh] at h
        simpa using h
    have hfit : a.off + len ≤ c.size := by
      obtain ⟨v, hv0⟩ : ∃ v, vs[len - 1]? = some v := ⟨_, List.getElem?_eq_getElem (by omega)⟩
      have := (Array.getElem?_eq_some_iff.1 (hget _ _ hv0)).1
      omega
    have hlist : (c.toList.drop a.off).take len = vs := by
      apply List.ext_getElem?
      intro i
      rw [List.getElem?_take]
      split
      · rename_i hi
        obtain ⟨v, hv0⟩ : ∃ v, vs[i]? = some v := ⟨_, List.getElem?_eq_getElem (by omega)⟩
        rw [hv0, List.getElem?_drop]
        simpa using hget i v hv0
      · rw [List.getElem?_eq_none (by omega)]
    refine ⟨.rsl cs len 1, ?_, fun S => ⟨by simp [capW, hcl], by simp [veq, hself], rfl, rfl, ?_, by omega⟩⟩
    · simp only [vrel]
      refine ⟨a.block, a.off, cap, c, t, fz, ?_, hl, by omega, hro _ _ hh, by omega, by rw [hcl, hlist]; exact hrel⟩
      rw [← hs]
    · unfold srcCells; dsimp only
      rw [nble, decide_eq_true (by omega)]
      simp only [nbeq, decide_true, Bool.true_and, cond_true]
      rw [List.take_of_length_le (by omega)]
theorem arg_nil [Val] {φ : Phi} : vrel φ .nils (.slice none 0 0) ∧ ∀ S, Rd S .nils 1 [] 0 := ⟨rfl, fun _ => ⟨rfl, rfl, rfl, rfl, rfl, rfl⟩⟩
theorem arg_ints [Val] {φ : Phi} {k : IntKind} {w : World} (hro : ∀ g o, w.heap[g]? = some o → Val.ro g = some o) {a : Addr} {len cap : Nat} {zs : List Int} (hl : len ≤ cap) (hz : len ≤ zs.length) (hcell : ∀ i, i < zs.length → w.cell? (a.add i) = some (.int k (zs.getD i 0))) :
    ∃ av, vrel φ av (.slice (some a) len cap) ∧ ∀ S, Rd S av 1 ((zs.take len).map (AV.int k)) len := by
  refine arg_cells (vs := (zs.take len).map (Value.int k)) hro hl (by simp; omega) ?_ (vrels_ints _) (veqs_ints _)
  intro i v hi
  rw [List.getElem?_map] at hi
  have hi2 : i < len := by
    rcases Nat.lt_or_ge i len with h | h
    · exact h
    · rw [List.getElem?_eq_none (by simp; omega)] at hi; cases hi
  rw [List.getElem?_take, if_pos hi2, List.getElem?_eq_getElem (by omega)] at hi
  have hc := hcell i (by omega)
  rw [List.getD_eq_getElem?_getD, List.getElem?_eq_getElem (by omega)] at hc
  cases hi
  simpa using hc
/-- bytes that came in -/
theorem arg_bytes [Val] {φ : Phi} {w : World} (hro : ∀ g o, w.heap[g]? = some o → Val.ro g = some o) {a : Addr} {len cap : Nat} {zs : List Int} (hl : len ≤ cap) (hz : len ≤ zs.length) (hcell : ∀ i, i < zs.length → w.cell? (a.add i) = some (.int .u8 (zs.getD i 0))) (hwf : ∀ n ∈ zs, 0 ≤ n ∧ n < 256) :
    ∃ av l, vrel φ av (.slice (some a) len cap) ∧ (∀ S, Rd S av 1 (sbytes l) l.length) ∧ (∀ b ∈ l, b < 256) ∧ l.length = len := by
  obtain ⟨av, h1, h2⟩ := arg_ints (φ := φ) hro hl hz hcell
  have hlen : ((zs.take len).map Int.toNat).length = len := by simp; omega
  refine ⟨av, (zs.take len).map Int.toNat, h1, fun S => (h2 S).eq ?_ hlen.symm, ?_, hlen⟩
  · unfold sbytes
    rw [List.map_map]
    apply List.map_congr_left
    intro n hn
    have := hwf n (List.mem_of_mem_take hn)
    show AV.int .u8 n = AV.int .u8 (Int.ofNat n.toNat)
    congr 1
    show n = ((n.toNat : Nat) : Int)
    omega
  · intro b hb
    obtain ⟨n, hn, rfl⟩ := List.mem_map.1 hb
    have := hwf n (List.mem_of_mem_take hn)
    omega
end
end GX
