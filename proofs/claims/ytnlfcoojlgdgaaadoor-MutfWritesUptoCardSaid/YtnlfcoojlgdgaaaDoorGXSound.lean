/- GX: SOUND: what the abstract machine runs to, the model runs to, whatever the tape. -/
import Derived.Test.YtnlfcoojlgdgaaaDoorGXDrawn3
namespace GX
open Go

theorem noSelect_spec : ∀ {os : List Oper}, noSelect os = true → ∀ (i : Nat) (o : Oper), os[i]? = some o → ∀ cs b, o.op ≠ .select cs b
  | [], _, i, o, h => by simp at h
  | o :: os, hk, i, o', h => by
    simp only [noSelect, Bool.and_eq_true] at hk
    cases i with
    | zero =>
      simp at h; subst h
      intro cs b hop
      rw [hop] at hk
      simp at hk
    | succ i => simp at h; exact noSelect_spec hk.2 i o' h
section
variable {P : Program} {X : X} {rec : Rec} {n : Nat} {ops : Array Oper} {e : Env} {S : St} {recs : List R} {lds : List Nat} {N1 : Nat} {φ0 : Phi} {w0 : World}

theorem step_any [Val] (hX : XOK P X) (hx : ∀ f g, X.ext f = some g → ExtOK P f g) (hent : EntOK P X rec) (F : DF X rec n ops.toList e S recs lds N1) {ls : Nat → Bool} {a : Act} {w : World} {φ : Phi}
    (I : Inv φ0 w0 n ops.toList e S recs lds N1 ls a w φ) (fr0 : Fresh φ0 S.n N1) (hw0 : wrel φ0 S.h w0) {i : Nat} {o : Oper} (hoa : ops[i]? = some o) (hi : ls i = false) (hr : ∀ ed ∈ o.after, Region.binds .any ed = true → ls ed.on = true)
    {K : Act → World → Prop} {Q : Exit → Act → World → Prop} (hK : ∀ a' w' φ', Inv φ0 w0 n ops.toList e S recs lds N1 (upl ls i) a' w' φ' → K a' w') : wpOp P ops Q i K a w := by
  have ho : ops.toList[i]? = some o := by simpa using hoa
  have hil : i < ops.toList.length := (List.getElem?_eq_some_iff.1 ho).1
  have hri : recs[i]? = some (recs[i]'(by rw [F.hlen]; exact hil)) := List.getElem?_eq_getElem _
  generalize (recs[i]'(by rw [F.hlen]; exact hil)) = r at hri
  obtain ⟨⟨re, hre, hfact⟩, hld, c1, c2, c3⟩ := F.hf i o r ho hri
  obtain ⟨k1, k2⟩ := F.renv_at I ho hi hr hre
  -- the temporaries that are looked at, and no others
  generalize hb : ({ tmps := Array.ofFn (n := n) fun t => if t.val ∈ looks ops.toList o then a.tmps.getD t.val undef else undef, defers := a.defers } : Act) = b
  have hbt : ∀ t, b.tmps.getD t undef = if t ∈ looks ops.toList o then a.tmps.getD t undef else undef := by
    intro t
    subst hb
    rw [Array.getD_eq_getD_getElem?, Array.getElem?_ofFn]
    by_cases ht : t < n
    · rw [dif_pos ht]; simp
    · rw [dif_neg ht, if_neg (fun h => ht (k1 t h))]; rfl
  have hbs : b.tmps.size = n := by subst hb; simp
  have he : erel φ n re b.tmps := by
    refine ⟨hbs, F.hn, fun t => ?_⟩
    rw [k2, hbt]
    by_cases ht : t ∈ looks ops.toList o
    · rw [if_pos ht, if_pos ht]; exact I.env t
    · rw [if_neg ht, if_neg ht]; exact vrel_undef φ
  have hev : execOp a.eval o = execOp b.eval o := by
    apply execOp_congr o (noSelect_spec F.hS i o ho)
    intro x hx
    cases x with
    | tmp t =>
      have : t ∈ looks ops.toList o := by
        unfold looks
        apply List.mem_append_left
        rw [List.mem_filterMap]
        exact ⟨.tmp t, by simpa using hx, rfl⟩
      show a.tmps.getD t undef = b.tmps.getD t undef
      rw [hbt, if_pos this]
    | _ => rfl
  have hwt : wanted ops.toList re o = Region.wanted o (yielded ops a.tmps) := by
    rw [wanted_ok he]
    unfold Region.wanted
    split
    · rfl
    · rename_i j want hg
      have : yielded ops b.tmps j = yielded ops a.tmps j := by
        unfold yielded
        cases hp : ops[j]? with
        | none => rfl
        | some p =>
          simp only [Option.bind_some]
          cases hd : p.dst with
          | none => rfl
          | some d =>
            simp only [Option.bind_some]
            have hdl : d ∈ looks ops.toList o := by
              unfold looks
              apply List.mem_append_right
              rw [hg]
              have hp' : ops.toList[j]? = some p := by simpa using hp
              simp [hp', hd]
            have hdn := k1 d hdl
            have h1 := hbt d
            rw [if_pos hdl] at h1
            have e1 : b.tmps[d]? = some (b.tmps.getD d undef) := by
              rw [Array.getD_eq_getD_getElem?, Array.getElem?_eq_getElem (by omega)]; rfl
            have e2 : a.tmps[d]? = some (a.tmps.getD d undef) := by
              rw [Array.getD_eq_getD_getElem?, Array.getElem?_eq_getElem (by rw [I.size]; exact hdn)]; rfl
            rw [e1, e2, h1]
      rw [this]
  unfold wpOp
  rw [hoa]
  dsimp only
  rw [← hwt]
  rcases hfact with ⟨f1, f2, f3⟩ | ⟨f1, f2, f3, f4⟩ | ⟨f1, f2⟩ | ⟨f1, bl, f2, f3, f4⟩ | ⟨f1, f2, S1, f3, f4⟩
  · rw [f1]
    simp only [Bool.false_eq_true, if_false]
    exact hK _ _ _ (F.step_val I ho hri hi hr (by rw [f3]; rfl) (by rw [f3]; intro b h; cases h) (by rw [f2]; exact vrel_undef φ))
  · rw [f1]
    simp only [if_true]
    left
    obtain ⟨u, u1, u2⟩ := pure_ok hX he f3
    unfold Oper.wp
    rw [hev, u1 w]
    exact hK _ _ _ (F.step_val I ho hri hi hr (by rw [f4]; rfl) (by rw [f4]; intro b h; cases h) u2)
  · rw [f1]
    simp only [if_true]
    left
    obtain ⟨re', hre', hrd⟩ := rdsOk_spec F.hrd i o r ho (by simpa using hri) f2
    simp only [Nat.zero_add] at hre' hrd
    rw [hre] at hre'; cases hre'
    -- the loud ones that have been: the first few
    obtain ⟨s, hs⟩ := filter_prefix (p := ls) F.hsort (fun x y hx hy hxy hly => inM_dc (S := fun q => ls q = true) I.dc y hly x (F.chain hy hx hxy))
    have h1 := rdOk_spec hrd (lds.filter ls) s hs
    rw [List.nil_append] at h1
    unfold rdOk.rd1 at h1
    have hcond : ((lds.filter ls).all (fun j => !inM (masks ops.toList []) j i) && lds.all (fun j => !inM (masks ops.toList []) i j || (lds.filter ls).contains j)) = true := by
      rw [Bool.and_eq_true]
      constructor
      · rw [List.all_eq_true]
        intro j hj
        simp only [List.mem_filter] at hj
        cases hm : inM (masks ops.toList []) j i with
        | false => rfl
        | true =>
          have := inM_dc (S := fun q => ls q = true) I.dc j hj.2 i hm
          rw [hi] at this; cases this
      · rw [List.all_eq_true]
        intro j hj
        cases hm : inM (masks ops.toList []) i j with
        | false => rfl
        | true =>
          have := inM_ready (S := fun q => ls q = true) I.dc ho hr hm
          simp [hj, this]
    rw [hcond] at h1
    simp only [cond_true] at h1
    split at h1
    · cases h1
    · rename_i v' hv'
      have := veq_ok h1
      subst this
      have hpre : ∀ k, inM (masks ops.toList []) i k = true → ls k = true := fun k hk => inM_ready (S := fun q => ls q = true) I.dc ho hr hk
      obtain ⟨u, u1, u2⟩ := read_ok hX (wrel_sub (F.sub I fr0 hw0 hpre) I.wr) he hv'
      unfold Oper.wp
      rw [hev, u1]
      exact hK _ _ _ (F.step_val I ho hri hi hr (by rw [f2]; rfl) (by rw [f2]; intro b h; cases h) u2)
  · rw [f1]
    simp only [if_true]
    left
    obtain ⟨u, w', u1, u2⟩ := alloc_ok (φ := φ) (w := w) hX he f2
    obtain ⟨φ', hI⟩ := F.step_mk I fr0 ho hri hi hr f3 u2
    unfold Oper.wp
    rw [hev, u1]
    exact hK _ _ φ' hI
  · rw [f1]
    simp only [if_true]
    left
    have hin : i ∈ lds := hld.1 (by rw [f4]; rfl)
    obtain ⟨q1, q2⟩ := F.lds_at I.dc ho hi hr hin
    rw [← q1] at f3
    have hpre : ∀ k, inM (masks ops.toList []) i k = true → ls k = true := fun k hk => inM_ready (S := fun q => ls q = true) I.dc ho hr hk
    have hwr := wrel_sub (F.sub I fr0 hw0 hpre) I.wr
    have hn1 : r.n1 = S1.n := by simp [R.n1, f4]
    unfold Oper.wp
    rw [hev]
    refine oper_ok (a0 := a) hX hx hent he hwr (fun id a b => I.fresh i r hi hri id a (by rw [hn1]; exact b)) f3 ?_
    intro u w' φ' u1 u2 u3
    exact hK _ _ φ' (F.step_ld I fr0 hw0 ho hri hi hr f4 u1 u2 u3)

/-! every order -/
def cnt (l : List Bool) : Nat := (l.filter id).length
theorem cnt_set : ∀ {l : List Bool} {i : Nat}, l[i]? = some false → cnt (l.set i true) = cnt l + 1
  | [], _, h => by simp at h
  | b :: l, 0, h => by simp at h; subst h; simp [cnt]
  | b :: l, i + 1, h => by
    simp at h
    have := cnt_set h
    cases b <;> simp [cnt] at this ⊢ <;> omega
theorem cnt_le (l : List Bool) : cnt l ≤ l.length := List.length_filter_le _ _
theorem cnt_all : ∀ {l : List Bool}, cnt l = l.length → ∀ (i : Nat), i < l.length → l[i]? = some true
  | [], _, i, h => by simp at h
  | b :: l, hc, i, h => by
    cases b with
    | false =>
      have := cnt_le l
      simp [cnt] at hc this
      omega
    | true =>
      cases i with
      | zero => simp
      | succ i =>
        simp at h
        have : cnt l = l.length := by simpa [cnt] using hc
        simpa using cnt_all this i h
theorem any_ok [Val] (hX : XOK P X) (hx : ∀ f g, X.ext f = some g → ExtOK P f g) (hent : EntOK P X rec) (F : DF X rec n ops.toList e S recs lds N1) (fr0 : Fresh φ0 S.n N1) (hw0 : wrel φ0 S.h w0) {Q : Exit → Act → World → Prop}
    (hQ : ∀ a w φ, (∃ ls, (∀ i, i < ops.size → ls i = true) ∧ Inv φ0 w0 n ops.toList e S recs lds N1 ls a w φ) → Q .normal a w) :
    ∀ (fuel : Nat) (listed : Array Bool) (a : Act) (w : World) (φ : Phi), listed.size = ops.size → fuel + cnt listed.toList = ops.size → Inv φ0 w0 n ops.toList e S recs lds N1 (fun i => listed.getD i false) a w φ → wpAny P .any ops Q fuel listed a w := by
  intro fuel
  induction fuel with
  | zero =>
    intro listed a w φ hsz hc I
    have hall : ∀ i, i < ops.size → listed[i]? = some true := by
      intro i hi
      have := cnt_all (l := listed.toList) (by simp [hsz]; omega) i (by simp [hsz]; exact hi)
      simpa using this
    refine ⟨?_, hQ a w φ ⟨_, fun i hi => by simp [Array.getD_eq_getD_getElem?, hall i hi], I⟩⟩
    unfold Region.ready
    apply List.filter_eq_nil_iff.2
    intro i hi
    simp only [List.mem_range] at hi
    simp [Array.getD_eq_getD_getElem?, hall i hi]
  | succ fuel ih =>
    intro listed a w φ hsz hc I
    constructor
    · intro hnone
      -- nothing is ready: all has been
      refine hQ a w φ ⟨_, ?_, I⟩
      intro i
      induction i using Nat.strongRecOn with
      | _ i ihi =>
        intro hi
        cases hl : listed.getD i false with
        | true => rfl
        | false =>
          exfalso
          have hmem : i ∈ Region.ready .any ops listed := by
            unfold Region.ready
            rw [List.mem_filter]
            refine ⟨by simpa using hi, ?_⟩
            have h1 : listed[i]? = some false := by
              rw [Array.getD_eq_getD_getElem?] at hl
              have : listed[i]? = some listed[i] := Array.getElem?_eq_getElem (by omega)
              rw [this] at hl ⊢; simpa using hl
            have h2 : listed.getD i true = false := by simp [Array.getD_eq_getD_getElem?, h1]
            have h3 : ops[i]? = some ops[i] := Array.getElem?_eq_getElem hi
            rw [h2, h3]
            simp only [Bool.not_false, Option.map_some, Option.getD_some, Bool.true_and]
            rw [Array.all_eq_true]
            intro q hq
            cases hb : Region.binds .any ops[i].after[q] with
            | false => rfl
            | true =>
              have hlt2 := edges_spec F.hE i ops[i] (by simp) _ (Array.getElem_mem hq) hb
              have := ihi ops[i].after[q].on (by omega) (by omega)
              simp [this]
          rw [hnone] at hmem; cases hmem
    · intro i hi
      unfold Region.ready at hi
      rw [List.mem_filter] at hi
      obtain ⟨hlt, hi⟩ := hi
      simp only [List.mem_range] at hlt
      simp only [Bool.and_eq_true, Bool.not_eq_true'] at hi
      obtain ⟨h1, h2⟩ := hi
      have ho : ops[i]? = some ops[i] := Array.getElem?_eq_getElem hlt
      rw [ho] at h2
      simp only [Option.map_some, Option.getD_some] at h2
      have hli : listed[i]? = some false := by
        have : listed[i]? = some listed[i] := Array.getElem?_eq_getElem (by omega)
        rw [Array.getD_eq_getD_getElem?, this] at h1
        rw [this]; simpa using h1
      have hl0 : listed.getD i false = false := by simp [Array.getD_eq_getD_getElem?, hli]
      refine step_any hX hx hent F I fr0 hw0 ho hl0 ?_ ?_
      · intro ed hed hb
        rw [Array.all_eq_true] at h2
        obtain ⟨q, hq, rfl⟩ := Array.mem_iff_getElem.1 hed
        have := h2 q hq
        rw [hb] at this
        simpa using this
      · intro a' w' φ' I'
        refine ih _ a' w' φ' (by simp [hsz]) ?_ ?_
        · rw [Array.toList_setIfInBounds, cnt_set (by simpa using hli)]; omega
        · have : (fun k => (listed.setIfInBounds i true).getD k false) = upl (fun k => listed.getD k false) i := by
            funext k
            rw [upl_eq, Array.getD_eq_getD_getElem?, Array.getElem?_setIfInBounds]
            by_cases hk : i = k
            · subst hk; simp [hsz, hlt]
            · simp [hk, Ne.symm hk, Array.getD_eq_getD_getElem?]
          rw [this]; exact I'
theorem drawn_ok [Val] (hX : XOK P X) (hx : ∀ f g, X.ext f = some g → ExtOK P f g) (hent : EntOK P X rec) : DrawnOK P X rec := by
  intro ops n e S e' S' id h φ a w Q he hd hw fr hq
  unfold drawn at h
  dsimp only at h
  cases hc : (edgesOk ops.toList 0 && dstsOk n ops.toList && noSelect ops.toList) with
  | false => rw [hc] at h; simp at h
  | true =>
    rw [hc] at h
    simp only [cond_true] at h
    simp only [Bool.and_eq_true] at hc
    obtain ⟨⟨hE, hD⟩, hS⟩ := hc
    split at h
    · simp at h
    · rename_i recs lds N hp
      cases hrd : rdsOk X n ops.toList (masks ops.toList []) recs e S.h lds ops.toList 0 with
      | false => rw [hrd] at h; simp at h
      | true =>
        rw [hrd] at h
        simp only [cond_true] at h
        split at h
        · simp at h
        · rename_i e1 hput
          rw [nble, cond_dec] at h
          split at h
          · rename_i hle
            simp only [Res.ok.injEq, true_and] at h
            obtain ⟨rfl, rfl⟩ := h
            obtain ⟨tl, tlds, g1, g2, g3, g4, g5, g6, g7, g8⟩ := plan_good hE ops.toList 0 [] [] S.h S.n recs lds N hp rfl rfl (by simp) rfl
            simp only [List.nil_append] at g1 g2
            subst g1; subst g2
            have F : DF X rec n ops.toList e S recs lds N := ⟨hE, hD, hS, g3, he.small, hle, fun i o r a b => g7 i o r (Nat.zero_le _) a b, fun q q' r r' a b c => g8 q q' r r' (Nat.zero_le _) a b c, g5, fun j hj => (g4 j hj).2, hrd⟩
            refine wp_region_any hX.mixed ?_
            have hT0 : TL ops.toList recs lds S.h (fun i => (Array.replicate ops.size false).getD i false) = S.h := by
              unfold TL
              have e1 : lds.filter (fun i => (Array.replicate ops.size false).getD i false) = [] := by
                apply List.filter_eq_nil_iff.2
                intro j _
                simp [Array.getD_eq_getD_getElem?, Array.getElem?_replicate]
                split <;> simp
              rw [e1]
              have : ∀ (rs : List R) (k : Nat), gh (masks ops.toList []) [] (fun i => (Array.replicate ops.size false).getD i false) rs k (hOf recs S.h []) = S.h := by
                intro rs
                induction rs with
                | nil => intro k; rfl
                | cons r rs ih =>
                  intro k
                  simp only [gh]
                  have hst : ghStep (masks ops.toList []) [] (fun i => (Array.replicate ops.size false).getD i false) r k (hOf recs S.h []) = hOf recs S.h [] := by
                    unfold ghStep
                    split
                    · have : (Array.replicate ops.size false).getD k false = false := by
                        simp [Array.getD_eq_getD_getElem?, Array.getElem?_replicate]
                        split <;> simp
                      dsimp only; rw [this]; rfl
                    · rfl
                  rw [hst]; exact ih (k + 1)
              exact this recs 0
            have hls0 : ∀ i, (Array.replicate ops.size false).getD i false = false := by
              intro i
              simp [Array.getD_eq_getD_getElem?, Array.getElem?_replicate]
              split <;> simp
            have hfil0 : lds.filter (fun i => (Array.replicate ops.size false).getD i false) = [] := by
              apply List.filter_eq_nil_iff.2
              intro j _
              rw [hls0]; simp
            have hw1 : wrel φ S.h ({ w with drawn := w.drawn + 1 } : World) := wrel_drew hw
            refine any_ok (φ0 := φ) (w0 := w) hX hx hent F fr hw ?_ ops.size _ a _ φ (by simp) ?_ ?_
            · rintro a' w' φ' ⟨ls, hall, I⟩
              have hfil : lds.filter ls = lds := by
                apply List.filter_eq_self.2
                intro j hj
                exact hall j (by have := F.hlt j hj; simpa using this)
              have hgh : TL ops.toList recs lds S.h ls = gh (masks ops.toList []) lds (fun _ => true) recs 0 (hOf recs S.h lds) := by
                unfold TL
                rw [hfil]
                apply gh_congr
                intro k r b h1 h2
                have : k < recs.length := (List.getElem?_eq_some_iff.1 h1).1
                rw [F.hlen] at this
                simpa using hall k (by simpa using this)
              refine hq a' w' φ' ⟨⟨I.size, he.small, fun t => ?_⟩, I.def_, by rw [← hgh]; exact I.wr, by rw [← hgh]; exact I.ext⟩
              have hv := I.env t
              have : e1.at t = envAt ops.toList recs e ls t := by
                obtain ⟨k1, k2⟩ := putAll_at he.small hput (fun i j o o' d => (dsts_spec hD).2 i j o o' d) t
                unfold envAt
                cases hw : writer t ops.toList 0 with
                | none => exact k2 (fun j o hj => writer_none hw j o hj)
                | some j =>
                  obtain ⟨_, o, h1, h2⟩ := writer_some hw
                  simp only [Nat.sub_zero] at h1
                  have hjl : j < ops.toList.length := (List.getElem?_eq_some_iff.1 h1).1
                  have hjr : recs[j]? = some (recs[j]'(by rw [F.hlen]; exact hjl)) := List.getElem?_eq_getElem _
                  rw [k1 j o _ h1 h2 hjr]
                  simp [hall j (by simpa using hjl), hjr]
              rw [this]; exact hv
            · have : cnt (Array.replicate ops.size false).toList = 0 := by
                simp [cnt]
              omega
            · refine ⟨?_, he.size, ?_, hd, by rw [hT0]; exact hw1, ?_, ?_, ?_⟩
              · intro i o _ hi; rw [hls0] at hi; cases hi
              · intro t
                have : envAt ops.toList recs e (fun i => (Array.replicate ops.size false).getD i false) t = e.at t := by
                  unfold envAt
                  split
                  · dsimp only; rw [hls0]; rfl
                  · rfl
                rw [this]; exact he.at_ t
              · rw [hT0]
                exact ⟨hle, Sub.refl _, fun _ => .inl rfl, fun _ b e => .inl ⟨b, e⟩, Nat.le_refl _, fun _ _ _ => rfl, rfl, rfl, rfl⟩
              · intro i r _ hri id h1 h2
                obtain ⟨o, ho⟩ := F.op_of hri
                obtain ⟨_, _, c1, c2, c3⟩ := F.hf i o r ho hri
                exact fr id (by omega) (by show id < N; omega)
              · intro id b hb
                rw [hfil0] at hb
                exact .inl ⟨b, hb⟩
          · simp at h

/-! soundness -/
theorem exec_sound [Val] (hX : XOK P X) (hx : ∀ f g, X.ext f = some g → ExtOK P f g) : ∀ fuel, RecOK P (exec X fuel)
  | 0 => by intro n c e S x e' S' h; simp [exec] at h
  | f + 1 => by
    have ih := exec_sound hX hx f
    have hent := enter_ok hX ih
    exact exec_ok hX hx (exec_mono f) ih hent (drawn_ok hX hx hent)
theorem call_sound [Val] (hX : XOK P X) (hx : ∀ f g, X.ext f = some g → ExtOK P f g) {fuel f : Nat} {args : List AV} {S S' : St} {r : AV} (h : call X fuel f args S = some (r, S')) {φ : Phi} {w : World} {vs : Array Value} (hv : vrels φ args vs.toList) (hw : wrel φ S.h w) (fr : Fresh φ S.n S'.n) :
    CallSpec P f vs w fun v w' => ∃ φ', vrel φ' r v ∧ wrel φ' S'.h w' ∧ Ext φ S.h S.n w φ' S'.h S'.n w' := by
  unfold call at h
  cases hxt : X.ext f with
  | none => exact enter_ok hX (exec_sound hX hx fuel) f args S r S' hxt h φ w vs hv hw fr
  | some g =>
    unfold enter at h
    rw [hxt] at h
    exact (hx f g hxt args S r S' h).2 φ w vs hv hw fr
end
end GX
