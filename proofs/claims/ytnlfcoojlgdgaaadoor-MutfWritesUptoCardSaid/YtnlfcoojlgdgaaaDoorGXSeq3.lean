/- GX: a region that draws its order: the plan follows the text's order. -/
import Derived.Test.YtnlfcoojlgdgaaaDoorGXSeq2
namespace GX
open Go
section
variable {X : X} {rec : Rec} {n : Nat} {ops : List Oper} {e : Env} {h0 : Tr AB}
def RF (X : _root_.GX.X) (n : Nat) (ops : List Oper) (e : Env) (h0 : Tr AB) (recs : List R) (lds : List Nat) (i : Nat) (o : Oper) (r : R) : Prop :=
  r.k = .rd → ∃ l1 l2 ei, lds = l1 ++ l2 ∧ (∀ j ∈ l1, j < i) ∧ (∀ j ∈ l2, i < j) ∧ (∀ t ∈ looks ops o, lookT (masks ops []) ops (recs.take i) e i t = some (ei.at t)) ∧ (∀ t ∈ looks ops o, t < n) ∧
    sk X o.op = .read ∧ readOp X ei (gh (masks ops []) l1 (fun _ => true) (recs.take i) 0 (hOf (recs.take i) h0 l1)) o.op = some r.v ∧ veq r.v r.v = true
theorem OE_of {ops : List Oper} {o : Oper} {re ei : Env} (h : ∀ t ∈ looks ops o, re.at t = ei.at t) : OE re ei o.op := by
  intro x hx
  cases x with
  | tmp t => simp only [opd]; rw [h t (mem_looks hx)]
  | _ => rfl
theorem looks_seq (hn : n < 1000001) (hE : edgesOk ops 0 = true) (hD : dstsOk n ops = true) {pre os : List Oper} {o : Oper} {acc : List R} {ei : Env} (hp : ops = pre ++ o :: os) (hl : acc.length = pre.length) (hput : putAll n pre acc e = some ei)
    (hk : ∀ t ∈ looks ops o, t < n ∧ ∀ j, writer t ops 0 = some j → inM (masks ops []) pre.length j = true ∨ pre.length = j ∨ inM (masks ops []) j pre.length = true) :
    ∀ t ∈ looks ops o, t < n ∧ lookT (masks ops []) ops acc e pre.length t = some (ei.at t) := by
  intro t ht
  obtain ⟨h1, h2⟩ := hk t ht
  refine ⟨h1, ?_⟩
  have hpre : ∀ (q : Nat) (o' : Oper), pre[q]? = some o' → ops[q]? = some o' := by
    intro q o' hq
    rw [hp, List.getElem?_append_left (List.getElem?_eq_some_iff.1 hq).1]; exact hq
  obtain ⟨_, d2⟩ := dsts_spec hD
  obtain ⟨k1, k2⟩ := putAll_at hn hput (fun i j o1 o2 d a b c1 c2 => d2 i j o1 o2 d (hpre _ _ a) (hpre _ _ b) c1 c2) t
  unfold lookT
  cases hw : writer t ops 0 with
  | none =>
    dsimp only
    rw [k2 (fun j o' hj hd => writer_none hw j o' (hpre _ _ hj) hd)]
  | some j =>
    dsimp only
    obtain ⟨_, o', h3, h4⟩ := writer_some hw
    simp only [Nat.sub_zero] at h3
    cases hm : inM (masks ops []) pre.length j with
    | true =>
      simp only [cond_true]
      have hlt := inM_lt hE _ _ hm
      have hpj : pre[j]? = some o' := by
        rw [hp, List.getElem?_append_left hlt] at h3; exact h3
      have haj : acc[j]? = some (acc[j]'(by omega)) := List.getElem?_eq_getElem _
      rw [haj]; dsimp only
      rw [k1 j o' _ hpj h4 haj]
    | false =>
      simp only [cond_false]
      have hge : pre.length ≤ j := by
        rcases h2 j hw with h | h | h
        · rw [hm] at h; cases h
        · omega
        · exact Nat.le_of_lt (inM_lt hE _ _ h)
      have hb : (Nat.beq pre.length j || inM (masks ops []) j pre.length) = true := by
        rcases h2 j hw with h | h | h
        · rw [hm] at h; cases h
        · rw [nbeq]; simp [h]
        · simp [h]
      rw [hb]
      simp only [cond_true]
      rw [k2 (fun q o2 hq hd => by
        have h5 := d2 q j o2 o' t (hpre _ _ hq) h3 hd h4
        have : q < pre.length := (List.getElem?_eq_some_iff.1 hq).1
        omega)]
theorem plan_seq (hn : n < 1000001) (hE : edgesOk ops 0 = true) (hD : dstsOk n ops = true) (hK : seqOK1 ops (masks ops []) (ops.map (fun o => sk X o.op)) n ops 0 = true) :
    ∀ (os pre : List Oper) (acc : List R) (lds : List Nat) (S : St) (ei : Env) (x : Ex) (e' : Env) (S' : St), ops = pre ++ os → acc.length = pre.length → putAll n pre acc e = some ei →
    (∀ (k : Nat) (r : R) b, acc[k]? = some r → r.k = .mk b → (ops.map (fun o => sk X o.op)).getD k .pure = .alloc) →
    (∀ j ∈ lds, j < pre.length ∧ isLC ((ops.map (fun o => sk X o.op)).getD j .pure) = true) →
    lds.Pairwise (· < ·) →
    S.h = gh (masks ops []) lds (fun _ => true) acc 0 (hOf acc h0 lds) →
    opersR X rec n ops os ei S = .ok x e' S' →
    ∃ tl l2, plan X rec n ops (masks ops []) e os pre.length acc lds (hOf acc h0 lds) S.n = some (acc ++ tl, lds ++ l2, S'.n) ∧
      (∀ j ∈ l2, pre.length ≤ j ∧ isLC ((ops.map (fun o => sk X o.op)).getD j .pure) = true) ∧ putAll n ops (acc ++ tl) e = some e' ∧
      S'.h = gh (masks ops []) (lds ++ l2) (fun _ => true) (acc ++ tl) 0 (hOf (acc ++ tl) h0 (lds ++ l2)) ∧ tl.length = os.length ∧ (lds ++ l2).Pairwise (· < ·) ∧ (∀ (k : Nat) (r : R) b, (acc ++ tl)[k]? = some r → r.k = .mk b → (ops.map (fun o => sk X o.op)).getD k .pure = .alloc) ∧
      ∀ (k : Nat) (o : Oper) (r : R), os[k]? = some o → tl[k]? = some r → RF X n ops e h0 (acc ++ tl) (lds ++ l2) (pre.length + k) o r
  | [], pre, acc, lds, S, ei, x, e', S', hp, hl, hput, hmk, _, hpw, hh, h => by
    unfold opersR at h
    cases h
    refine ⟨[], [], ?_, fun j hj => by simp at hj, ?_, ?_, rfl, by simpa using hpw, by simpa using hmk, fun k o r hk => by simp at hk⟩
    · simp [plan]
    · simp only [List.append_nil] at hp ⊢; rw [hp]; exact hput
    · simpa using hh
  | o :: os, pre, acc, lds, S, ei, x, e', S', hp, hl, hput, hmk, hld, hpw, hh, h => by
    have ho : ops[pre.length]? = some o := by rw [hp]; simp
    have hsk : (ops.map (fun o => sk X o.op)).getD pre.length .pure = sk X o.op := by
      rw [List.getD_eq_getElem?_getD, List.getElem?_map, ho]; rfl
    obtain ⟨hk1, hk2⟩ := seqOK1_at hK pre.length o ho
    simp only [Nat.zero_add] at hk1 hk2
    rw [hsk] at hk2
    have hlk := looks_seq hn hE hD hp hl hput hk1
    obtain ⟨re, hre, hag⟩ := renv_good (es := ei) hn hlk
    have hoe : OE re ei o.op := OE_of hag
    have hp' : ops = (pre ++ [o]) ++ os := by rw [hp]; simp
    -- what goes on behind
    have fin : ∀ (r : R) (ldn : List Nat) (S1 : St) (e1 : Env), setDst n ei o.dst r.v = some e1 → (∀ b, r.k = .mk b → sk X o.op = .alloc) → (ldn = [] ∨ ldn = [pre.length] ∧ isLC (sk X o.op) = true) →
        S1.h = gh (masks ops []) (lds ++ ldn) (fun _ => true) (acc ++ [r]) 0 (hOf (acc ++ [r]) h0 (lds ++ ldn)) →
        (r.k = .rd → ldn = [] ∧ sk X o.op = .read ∧ readOp X ei S.h o.op = some r.v ∧ veq r.v r.v = true) →
        opersR X rec n ops os e1 S1 = .ok x e' S' →
        plan X rec n ops (masks ops []) e (o :: os) pre.length acc lds (hOf acc h0 lds) S.n = plan X rec n ops (masks ops []) e os (pre.length + 1) (acc ++ [r]) (lds ++ ldn) (hOf (acc ++ [r]) h0 (lds ++ ldn)) S1.n →
        ∃ tl l2, plan X rec n ops (masks ops []) e (o :: os) pre.length acc lds (hOf acc h0 lds) S.n = some (acc ++ tl, lds ++ l2, S'.n) ∧
          (∀ j ∈ l2, pre.length ≤ j ∧ isLC ((ops.map (fun o => sk X o.op)).getD j .pure) = true) ∧ putAll n ops (acc ++ tl) e = some e' ∧
          S'.h = gh (masks ops []) (lds ++ l2) (fun _ => true) (acc ++ tl) 0 (hOf (acc ++ tl) h0 (lds ++ l2)) ∧ tl.length = (o :: os).length ∧ (lds ++ l2).Pairwise (· < ·) ∧ (∀ (k : Nat) (r : R) b, (acc ++ tl)[k]? = some r → r.k = .mk b → (ops.map (fun o => sk X o.op)).getD k .pure = .alloc) ∧
          ∀ (k : Nat) (o' : Oper) (r : R), (o :: os)[k]? = some o' → tl[k]? = some r → RF X n ops e h0 (acc ++ tl) (lds ++ l2) (pre.length + k) o' r := by
      intro r ldn S1 e1 hset hmk1 hldn hh1 hrd hrun hplan
      obtain ⟨tl, l2, p1, p2, p3, p4, p5, ppw, pmk, p6⟩ := plan_seq hn hE hD hK os (pre ++ [o]) (acc ++ [r]) (lds ++ ldn) S1 e1 x e' S' hp' (by simp [hl]) (putAll_snoc hput hset)
        (by
          intro k r' b hk hb
          by_cases hlt : k < acc.length
          · rw [List.getElem?_append_left hlt] at hk; exact hmk k r' b hk hb
          · have : k = acc.length := by
              have := (List.getElem?_eq_some_iff.1 hk).1
              simp at this; omega
            subst this
            simp at hk; subst hk
            rw [hl, hsk]; exact hmk1 b hb)
        (by
          intro j hj
          rw [List.mem_append] at hj
          rcases hj with hj | hj
          · have := hld j hj; exact ⟨by simp; omega, this.2⟩
          · rcases hldn with hq | ⟨hq, hq2⟩
            · rw [hq] at hj; simp at hj
            · rw [hq] at hj; simp at hj; subst hj; exact ⟨by simp, by rw [hsk]; exact hq2⟩)
        (by
          rw [List.pairwise_append]
          refine ⟨hpw, ?_, fun a ha b hb => ?_⟩
          · rcases hldn with hq | ⟨hq, _⟩ <;> rw [hq] <;> simp
          · rcases hldn with hq | ⟨hq, _⟩
            · rw [hq] at hb; simp at hb
            · rw [hq] at hb; simp at hb; subst hb; exact (hld a ha).1)
        hh1 hrun
      rw [List.length_append, List.length_singleton] at p1
      refine ⟨r :: tl, ldn ++ l2, ?_, ?_, ?_, ?_, by simp [p5], by simpa using ppw, by simpa using pmk, ?_⟩
      · rw [hplan, p1]; simp
      · intro j hj
        rw [List.mem_append] at hj
        rcases hj with hj | hj
        · rcases hldn with hq | ⟨hq, hq2⟩
          · rw [hq] at hj; simp at hj
          · rw [hq] at hj; simp at hj; subst hj; exact ⟨Nat.le_refl _, by rw [hsk]; exact hq2⟩
        · have h1 := (p2 j hj).1; simp only [List.length_append, List.length_singleton] at h1; exact ⟨by omega, (p2 j hj).2⟩
      · rw [← p3]; simp
      · rw [p4]; simp
      · intro k o' r' hk hr'
        cases k with
        | zero =>
          simp at hk hr'; subst hk; subst hr'
          intro hrk
          obtain ⟨q1, q2, q3, q4⟩ := hrd hrk
          subst q1
          refine ⟨lds, l2, ei, by simp, fun j hj => by have := (hld j hj).1; simpa using this, fun j hj => by have := (p2 j hj).1; simp only [List.length_append, List.length_singleton] at this; omega, ?_, fun t ht => (hlk t ht).1, q2, ?_, q4⟩
          · intro t ht
            have : (acc ++ r :: tl).take (pre.length + 0) = acc := by rw [Nat.add_zero, ← hl]; simp
            rw [this]
            exact (hlk t ht).2
          · have : (acc ++ r :: tl).take (pre.length + 0) = acc := by rw [Nat.add_zero, ← hl]; simp
            rw [this, ← hh]; exact q3
        | succ k =>
          have := p6 k o' r' (by simpa using hk) (by simpa using hr')
          simp only [List.length_append, List.length_singleton, List.append_assoc, List.singleton_append] at this
          rw [show pre.length + (k + 1) = pre.length + 1 + k by omega]
          exact this
    unfold opersR at h
    have hwc : wanted ops re o = wanted ops ei o := wanted_congr hag
    have hldlt : ∀ j ∈ lds, j < (acc).length := fun j hj => by rw [hl]; exact (hld j hj).1
    have hOfs : ∀ r : R, hOf (acc ++ [r]) h0 lds = hOf acc h0 lds := fun r => hOf_append hldlt
    have hgs : ∀ r : R, (∀ b, r.k ≠ .mk b) → gh (masks ops []) lds (fun _ => true) (acc ++ [r]) 0 (hOf (acc ++ [r]) h0 lds) = S.h := by
      intro r hr
      rw [hOfs, gh_snoc, ← hh]
      unfold ghStep
      split
      · rename_i b hb; exact absurd hb (hr b)
      · rfl
    have hgc : (∀ (k : Nat), k < pre.length → (ops.map (fun o => sk X o.op)).getD k .pure = .alloc → inM (masks ops []) pre.length k = true) → gh (masks ops []) lds (inM (masks ops []) pre.length) acc 0 (hOf acc h0 lds) = S.h := by
      intro hq
      rw [hh]
      apply gh_congr
      intro k r b h1 h2
      have hkl : k < pre.length := by have := (List.getElem?_eq_some_iff.1 h1).1; omega
      simp only [Nat.zero_add]
      exact hq k hkl (hmk k r b h1 h2)
    cases hw : wanted ops ei o with
    | false =>
      rw [hw] at h
      simp only [cond_false] at h
      split at h
      · cases h
      · rename_i e1 he1
        refine fin ⟨.tup [], S.n, .val⟩ [] S e1 he1 (fun b hb => by cases hb) (.inl rfl) ?_ (fun hb => by cases hb) h ?_
        · rw [List.append_nil, hgs _ (fun b hb => by cases hb)]
        · conv => lhs; unfold plan
          rw [hre]; dsimp only; rw [hwc, hw]; simp only [cond_false, List.append_nil]
          rw [hOfs]
    | true =>
      rw [hw] at h
      simp only [cond_true] at h
      split at h
      · cases h
      · rename_i v S1 hop
        cases hb : rdv (cls X ei o.op) v with
        | false => rw [hb] at h; cases h
        | true =>
          rw [hb] at h
          simp only [cond_true] at h
          split at h
          · cases h
          · rename_i e1 he1
            have hck := sk_ok hop
            have hclr : cls X re o.op = cls X ei o.op := cls_congr hoe
            have hloud : isLC (cls X ei o.op) = true →
              ∃ tl l2, plan X rec n ops (masks ops []) e (o :: os) pre.length acc lds (hOf acc h0 lds) S.n = some (acc ++ tl, lds ++ l2, S'.n) ∧
                (∀ j ∈ l2, pre.length ≤ j ∧ isLC ((ops.map (fun o => sk X o.op)).getD j .pure) = true) ∧ putAll n ops (acc ++ tl) e = some e' ∧
                S'.h = gh (masks ops []) (lds ++ l2) (fun _ => true) (acc ++ tl) 0 (hOf (acc ++ tl) h0 (lds ++ l2)) ∧ tl.length = (o :: os).length ∧ (lds ++ l2).Pairwise (· < ·) ∧ (∀ (k : Nat) (r : R) b, (acc ++ tl)[k]? = some r → r.k = .mk b → (ops.map (fun o => sk X o.op)).getD k .pure = .alloc) ∧
                ∀ (k : Nat) (o' : Oper) (r : R), (o :: os)[k]? = some o' → tl[k]? = some r → RF X n ops e h0 (acc ++ tl) (lds ++ l2) (pre.length + k) o' r := by
              intro hlc
              have hs : cls X ei o.op = sk X o.op := by
                rcases hck with hq | hq
                · rw [hq] at hlc; cases hlc
                · exact hq
              rw [hs] at hlc
              have hbef : bef (masks ops []) (ops.map (fun o => sk X o.op)) pre.length (fun c => !isPure c) = true := by
                cases hskc : sk X o.op with
                | loud => rw [hskc] at hk2; exact hk2
                | call => rw [hskc] at hk2; exact hk2
                | _ => rw [hskc] at hlc; cases hlc
              have hg := hgc (fun k hk hq => bef_at hbef hk (by rw [hq]; rfl))
              have hall : lds.all (fun j => inM (masks ops []) pre.length j) = true := by
                apply List.all_eq_true.2
                intro j hj
                obtain ⟨q1, q2⟩ := hld j hj
                exact bef_at hbef q1 (by cases hq : (ops.map (fun o => sk X o.op)).getD j .pure <;> rw [hq] at q2 <;> first | rfl | cases q2)
              have hop' : oper X rec re { h := gh (masks ops []) lds (inM (masks ops []) pre.length) acc 0 (hOf acc h0 lds), n := S.n } o.op = some (v, S1) := by
                rw [hg, oper_congr hoe]; exact hop
              refine fin ⟨v, S.n, .ld S1.h S1.n⟩ [pre.length] S1 e1 he1 (fun b hb => by cases hb) (.inr ⟨rfl, hlc⟩) ?_ (fun hb => by cases hb) h ?_
              · rw [gh_snoc]
                have : hOf (acc ++ [(⟨v, S.n, .ld S1.h S1.n⟩ : R)]) h0 (lds ++ [pre.length]) = S1.h := hOf_snoc (r := ⟨v, S.n, .ld S1.h S1.n⟩) (m := S1.n) (by rw [← hl]; simp) rfl
                rw [this, gh_had (fun q r b h1 h2 => by
                  have hkl : q < pre.length := by have := (List.getElem?_eq_some_iff.1 h1).1; omega
                  rw [Nat.zero_add]
                  exact bef_at hbef hkl (by rw [hmk q r b h1 h2]; rfl))]
                rfl
              · conv => lhs; unfold plan
                rw [hre]; dsimp only; rw [hwc, hw]; simp only [cond_true]
                have : hOf (acc ++ [(⟨v, S.n, .ld S1.h S1.n⟩ : R)]) h0 (lds ++ [pre.length]) = S1.h := hOf_snoc (r := ⟨v, S.n, .ld S1.h S1.n⟩) (m := S1.n) (by rw [← hl]; simp) rfl
                rw [hclr, hs]
                cases hskc : sk X o.op with
                | loud => dsimp only; rw [hall]; simp only [cond_true]; rw [hop']; dsimp only; rw [this]
                | call => dsimp only; rw [hall]; simp only [cond_true]; rw [hop']; dsimp only; rw [this]
                | _ => rw [hskc] at hlc; cases hlc
            cases hc : cls X ei o.op with
            | loud => exact hloud (by rw [hc]; rfl)
            | call => exact hloud (by rw [hc]; rfl)
            | pure =>
              unfold oper at hop
              rw [hc] at hop
              dsimp only at hop
              split at hop
              · cases hop
              · rename_i v' hv
                cases hop
                refine fin ⟨v, S.n, .val⟩ [] S e1 he1 (fun b hb => by cases hb) (.inl rfl) ?_ (fun hb => by cases hb) h ?_
                · rw [List.append_nil, hgs _ (fun b hb => by cases hb)]
                · conv => lhs; unfold plan
                  rw [hre]; dsimp only; rw [hwc, hw]; simp only [cond_true, List.append_nil]
                  rw [hclr, hc]; dsimp only; rw [pureOp_congr hoe, hv]; dsimp only; rw [hOfs]
            | read =>
              have hs : sk X o.op = .read := by
                rcases hck with hq | hq
                · rw [hq] at hc; cases hc
                · rw [← hq]; exact hc
              rw [hs] at hk2
              dsimp only at hk2
              unfold oper at hop
              rw [hc] at hop
              dsimp only at hop
              split at hop
              · cases hop
              · rename_i v' hv
                cases hop
                rw [hc] at hb
                have hg := hgc (fun k hk hq => bef_at hk2 hk (by rw [hq]; rfl))
                refine fin ⟨v, S.n, .rd⟩ [] S e1 he1 (fun b hb => by cases hb) (.inl rfl) ?_ (fun _ => ⟨rfl, hs, hv, hb⟩) h ?_
                · rw [List.append_nil, hgs _ (fun b hb => by cases hb)]
                · conv => lhs; unfold plan
                  rw [hre]; dsimp only; rw [hwc, hw]; simp only [cond_true, List.append_nil]
                  rw [hclr, hc]; dsimp only; rw [hg, readOp_congr hoe, hv]; dsimp only; rw [hOfs]
            | alloc =>
              have hs : sk X o.op = .alloc := by
                rcases hck with hq | hq
                · rw [hq] at hc; cases hc
                · rw [← hq]; exact hc
              unfold oper at hop
              rw [hc] at hop
              dsimp only at hop
              cases hlt : Nat.blt S.n 1000000000 with
              | false => rw [hlt] at hop; cases hop
              | true =>
                rw [hlt] at hop
                simp only [cond_true] at hop
                split at hop
                · cases hop
                · rename_i b' v' hv
                  cases hop
                  refine fin ⟨v, S.n, .mk b'⟩ [] (S.new b') e1 he1 (fun _ _ => hs) (.inl rfl) ?_ (fun hb => by cases hb) h ?_
                  · rw [List.append_nil, hOfs, gh_snoc, ← hh]
                    unfold ghStep
                    dsimp only
                    have : lds.all (fun j => !inM (masks ops []) j (0 + acc.length)) = true := by
                      apply List.all_eq_true.2
                      intro j hj
                      have h1 := (hld j hj).1
                      cases hq : inM (masks ops []) j (0 + acc.length) with
                      | false => rfl
                      | true => have := inM_lt hE _ _ hq; omega
                    rw [this]
                    rfl
                  · conv => lhs; unfold plan
                    rw [hre]; dsimp only; rw [hwc, hw]; simp only [cond_true, List.append_nil]
                    rw [hclr, hc]; dsimp only; rw [hlt]; simp only [cond_true]; rw [allocOp_congr hoe, hv]; dsimp only; rw [hOfs]
                    rfl

theorem rdOk_of {i : Nat} {op : Op} {v : AV} {re : Env} {lds : List Nat} {recs : List R} {ms : List Nat} : ∀ {js pf : List Nat}, (∀ a b, js = a ++ b → rdOk.rd1 X ms recs h0 re i op v lds (pf ++ a) = true) → rdOk X ops ms recs h0 re i op v lds pf js = true
  | [], pf, h => by unfold rdOk; simpa using h [] [] rfl
  | j :: js, pf, h => by
    unfold rdOk
    rw [Bool.and_eq_true]
    refine ⟨by simpa using h [] (j :: js) rfl, rdOk_of fun a b hab => ?_⟩
    have := h (j :: a) b (by rw [hab]; rfl)
    simpa using this
theorem rdsOk_of {recs : List R} {lds : List Nat} {ms : List Nat} : ∀ {os : List Oper} {k : Nat}, (∀ (i : Nat) (o : Oper), os[i]? = some o → ∃ r, recs[k + i]? = some r ∧ (r.k = .rd → ∃ re, renv ms ops recs e n (k + i) (looks ops o) = some re ∧ rdOk X ops ms recs h0 re (k + i) o.op r.v lds [] lds = true)) → rdsOk X n ops ms recs e h0 lds os k = true
  | [], _, _ => rfl
  | o :: os, k, h => by
    unfold rdsOk
    rw [Bool.and_eq_true]
    refine ⟨?_, rdsOk_of fun i o' ho => ?_⟩
    · obtain ⟨r, h1, h2⟩ := h 0 o (by simp)
      simp only [Nat.add_zero] at h1 h2
      rw [h1]; dsimp only
      split
      · rename_i hk
        obtain ⟨re, h3, h4⟩ := h2 hk
        rw [h3]; exact h4
      · rfl
    · have := h (i + 1) o' (by simpa using ho)
      rw [show k + 1 + i = k + (i + 1) by omega]; exact this
/-- WHERE THE EDGES SAY ENOUGH, a region that draws its order gives what the text's order gives. -/
theorem drawn_seq {S : St} {x : Ex} {e' : Env} {S' : St} (hs : seqOK X n ops = true) (h : opersR X rec n ops ops e S = .ok x e' S') : drawn X rec n ops e S = .ok x e' S' := by
  unfold seqOK at hs
  simp only [Bool.and_eq_true, nblt, decide_eq_true_eq] at hs
  obtain ⟨⟨⟨⟨hE, hD⟩, hN⟩, hn⟩, hK⟩ := hs
  obtain ⟨hle, hx⟩ := opers_n (opersR_opers h)
  subst hx
  obtain ⟨tl, l2, p1, p2, p3, p4, p5, ppw, pmk, p6⟩ := plan_seq (h0 := S.h) (e := e) hn hE hD hK ops [] [] [] S e .nor e' S' (by simp) rfl (by simp [putAll]) (fun k r b hk => by simp at hk) (fun j hj => by simp at hj) List.Pairwise.nil (by simp [gh, hOf]) h
  simp only [List.nil_append, List.length_nil, hOf, Nat.zero_add] at p1 p2 p3 p4 p6 ppw pmk
  unfold drawn
  dsimp only
  rw [hE, hD, hN]
  simp only [Bool.and_self, cond_true]
  rw [p1]
  dsimp only
  have hrd : rdsOk X n ops (masks ops []) tl e S.h l2 ops 0 = true := by
    apply rdsOk_of
    intro i o ho
    have hi : i < ops.length := (List.getElem?_eq_some_iff.1 ho).1
    have hr : tl[i]? = some (tl[i]'(by omega)) := List.getElem?_eq_getElem _
    rw [Nat.zero_add]
    refine ⟨_, hr, fun hk => ?_⟩
    obtain ⟨l1, l3, ei, q1, q2, q3, q4, q5, q6, q7, q8⟩ := p6 i o _ ho hr hk
    have hlt : ∀ j, inM (masks ops []) i j = true → j < (tl.take i).length := fun j hj => by
      have := inM_lt hE _ _ hj
      simp; omega
    have htl : tl = tl.take i ++ tl.drop i := (List.take_append_drop i tl).symm
    obtain ⟨re, r1, r2⟩ := renv_good (ms := masks ops []) (ops := ops) (acc := tl) (e := e) (es := ei) (n := n) (i := i) hn (ts := looks ops o) (fun t ht => ⟨q5 t ht, by
      rw [htl, lookT_append hlt]; exact q4 t ht⟩)
    refine ⟨re, r1, rdOk_of fun a b hab => ?_⟩
    have hoe : OE re ei o.op := OE_of r2
    obtain ⟨_, hk2⟩ := seqOK1_at hK i o ho
    have hski : (ops.map (fun o => sk X o.op)).getD i .pure = sk X o.op := by
      rw [List.getD_eq_getElem?_getD, List.getElem?_map, ho]; rfl
    rw [Nat.zero_add, hski, q6] at hk2
    dsimp only at hk2
    rw [List.nil_append]
    unfold rdOk.rd1
    cases hc : (a.all (fun j => !inM (masks ops []) j i) && l2.all (fun j => !inM (masks ops []) i j || a.contains j)) with
    | false => rfl
    | true =>
      simp only [cond_true]
      simp only [Bool.and_eq_true] at hc
      obtain ⟨c1, c2⟩ := hc
      have hal : a = l1 := by
        have hpre : a ++ b = l1 ++ l3 := by rw [← hab, q1]
        have hin1 : ∀ j ∈ l1, j ∈ a := by
          intro j hj
          have hj2 : j ∈ l2 := by rw [q1]; exact List.mem_append_left _ hj
          have h1 := List.all_eq_true.1 c2 j hj2
          have h2 : inM (masks ops []) i j = true := by
            apply bef_at hk2 (q2 j hj)
            have := (p2 j hj2).2
            cases hq : (ops.map (fun o => sk X o.op)).getD j .pure <;> rw [hq] at this <;> first | rfl | cases this
          rw [h2] at h1
          simpa using h1
        have hin3 : ∀ j ∈ l3, j ∉ a := by
          intro j hj hja
          have hj2 : j ∈ l2 := by rw [q1]; exact List.mem_append_right _ hj
          have h1 := List.all_eq_true.1 c1 j hja
          have hjl : j < ops.length := by
            have := (p2 j hj2).2
            rw [List.getD_eq_getElem?_getD] at this
            by_cases hlt : j < ops.length
            · exact hlt
            · rw [List.getElem?_eq_none (by simpa using hlt)] at this; cases this
          obtain ⟨oj, hoj⟩ : ∃ oj, ops[j]? = some oj := ⟨_, List.getElem?_eq_getElem hjl⟩
          obtain ⟨_, hk3⟩ := seqOK1_at hK j oj hoj
          rw [Nat.zero_add] at hk3
          have hl := (p2 j hj2).2
          have hb : bef (masks ops []) (ops.map (fun o => sk X o.op)) j (fun c => !isPure c) = true := by
            cases hq : (ops.map (fun o => sk X o.op)).getD j .pure <;> rw [hq] at hl hk3 <;> first | exact hk3 | cases hl
          have := bef_at hb (q3 j hj) (by rw [hski, q6]; rfl)
          rw [this] at h1
          cases h1
        rcases List.append_eq_append_iff.1 hpre with ⟨m, hm1, hm2⟩ | ⟨m, hm1, hm2⟩
        · -- l1 = a ++ m
          cases m with
          | nil => simpa using hm1.symm
          | cons y m =>
            exfalso
            have hy : y ∈ a := hin1 y (by rw [hm1]; simp)
            rw [q1, hm1, List.append_assoc, List.pairwise_append] at ppw
            have := ppw.2.2 y hy y (by simp)
            omega
        · cases m with
          | nil => simpa using hm1
          | cons y m =>
            exfalso
            exact hin3 y (by rw [hm2]; simp) (by rw [hm1]; simp)
      subst hal
      have hh : gh (masks ops []) a (inM (masks ops []) i) tl 0 (hOf tl S.h a) = gh (masks ops []) a (fun _ => true) (tl.take i) 0 (hOf (tl.take i) S.h a) := by
        conv => lhs; rw [htl]
        rw [gh_append (fun q hq => by
          cases hm : inM (masks ops []) i q with
          | false => rfl
          | true => have := hlt q hm; omega)]
        rw [hOf_append (fun j hj => by have := q2 j hj; simp; omega)]
        apply gh_congr
        intro k r b h1 h2
        rw [Nat.zero_add]
        have hki : k < i := by have := (List.getElem?_eq_some_iff.1 h1).1; simp at this; omega
        apply bef_at hk2 hki
        have : (ops.map (fun o => sk X o.op)).getD k .pure = .alloc := by
          have hkr : tl[k]? = some r := by rw [htl, List.getElem?_append_left (List.getElem?_eq_some_iff.1 h1).1]; exact h1
          exact pmk k r b hkr h2
        rw [this]; rfl
      rw [hh, readOp_congr hoe, q7]
      exact q8
  rw [hrd]
  simp only [cond_true]
  rw [p3]
  dsimp only
  rw [nble, decide_eq_true hle]
  simp only [cond_true]
  rw [← p4]
end
end GX
