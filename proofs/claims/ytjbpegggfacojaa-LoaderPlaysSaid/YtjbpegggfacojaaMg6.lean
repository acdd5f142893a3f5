/- What the row leans on, part 6: texts one behind the other. No condition. -/
import Derived.Test.YtjbpegggfacojaaMg5
import Derived.Below
import Derived.ChangeSame
import Derived.Carry
/- GX: the way in: a call from the model's own side. -/




namespace GX
open Go
section
variable {P : Program} {X : X}
theorem calls_sound [Val] (hX : XOK P X) (hx : ∀ f g, X.ext f = some g → ExtOK P f g) {fuel f : Nat} {args : List AV} {S S' : St} {r : AV} (hext : X.ext f = none) (h : call X fuel f args S = some (r, S')) {φ : Phi} {w : World} {vs : Array Value} (hv : vrels φ args vs.toList) (hw : wrel φ S.h w) (fr : Fresh φ S.n S'.n) :
    Calls P f vs w fun e w' => ∃ v φ', e = .returned v ∧ vrel φ' r v ∧ wrel φ' S'.h w' ∧ Ext φ S.h S.n w φ' S'.h S'.n w' := by
  have hr : RecOK P (exec X fuel) := exec_sound hX hx fuel
  unfold call enter at h
  rw [hext] at h
  dsimp only at h
  split at h
  · simp at h
  · rename_i F hF
    have hfn := hX.fn f F hF
    split at h
    · simp at h
    · rename_i c hb
      rw [nblt, cond_dec] at h
      split at h
      · rename_i hs
        split at h
        · simp at h
        · rename_i x e1 S1 h1
          have hne : ∀ id, x ≠ .exit id := by
            intro id hid; subst hid; simp at h
          have h' : (match rets X e1 S1.h F.results.toList with | none => none | some l => some (tupled l, S1)) = some (r, S') := by
            cases x with
            | exit id => exact absurd rfl (hne id)
            | nor => exact h
            | ret => exact h
          split at h'
          · simp at h'
          · rename_i l hl
            simp at h'; obtain ⟨rfl, rfl⟩ := h'
            refine calls_of_wp hfn hb (cwp_wp ?_)
            refine hr _ _ _ _ _ _ _ h1 φ _ w _ (enter_env hv hs) rfl hw fr ?_
            intro a' w' φ' k
            obtain ⟨v, r1, r2⟩ := results_ok hX k.env k.wr hl
            cases x with
            | exit id => exact absurd rfl (hne id)
            | nor => exact ⟨k.def_, v, r1, v, φ', rfl, r2, k.wr, k.ext⟩
            | ret => exact ⟨k.def_, v, r1, v, φ', rfl, r2, k.wr, k.ext⟩
      · simp at h
theorem kept_below [Val] {φ : Phi} {H : Tr AB} {w w' : World} {n : Nat} (hw : wrel φ H w) (hb : Go.RowKit.Below w.heap.size w w') : wrel φ H w' ∧ Ext φ H n w φ H n w' := by
  refine ⟨⟨fun id b hg => ?_, hw.inj, hw.small, fun g o ho => ⟨by rw [hb.block _ (Array.getElem?_eq_some_iff.1 (hw.ro g o ho).1).1]; exact (hw.ro g o ho).1, (hw.ro g o ho).2⟩⟩, Nat.le_refl _, Sub.refl _, fun _ => .inl rfl, fun _ b e => .inl ⟨b, e⟩, hb.size, fun k hk _ => hb.block k hk, hb.os, hb.tape, hb.output⟩
  obtain ⟨l, o, h1, h2, h3⟩ := hw.blk id b hg
  refine ⟨l, o, h1, ?_, h3⟩
  rw [hb.block _ (wrel_lt hw hg h1)]; exact h2
def φ0 : Phi := fun _ => none
theorem wrel_empty [Val] (w : World) (hro : ∀ g o, Val.ro g = some o → w.heap[g]? = some o) : wrel φ0 .leaf w where
  blk := by intros; simp_all [Tr.get]
  inj := by intros; simp_all [Tr.get]
  small := by intros; simp_all [Tr.get]
  ro := fun g o h => ⟨hro g o h, by intros; simp_all [Tr.get]⟩
/-- WHERE THE MACHINE SAYS 'true', THE CALL RETURNS TRUE, and what was there before is as it was. -/
theorem calls_true [Val] (hX : XOK P X) (hx : ∀ f g, X.ext f = some g → ExtOK P f g) {fuel f : Nat} {args : List AV} {vs : Array Value} (hext : X.ext f = none) (h : (match call X fuel f args { h := .leaf, n := 0 } with | some (.bool true, _) => true | _ => false) = true) (hv : vrels φ0 args vs.toList) (w : World) (hro : ∀ g o, Val.ro g = some o → w.heap[g]? = some o) :
    Calls P f vs w fun e w' => e = .returned (.bool true) ∧ Go.RowKit.Below w.heap.size w w' := by
  split at h
  · rename_i S' hc
    refine (calls_sound hX hx hext hc hv (wrel_empty w hro) (fun _ _ _ => rfl)).mono ?_
    rintro e w' ⟨v, φ', rfl, k1, k2, k3⟩
    refine ⟨by simp only [vrel] at k1; rw [k1], k3.os, k3.tape, k3.output, k3.size, fun k hk => k3.frame k hk ?_⟩
    intro id b l e; cases e
  · cases h
end
section
open Go.WideShapes Go.ChangeShapes Go.RowKit
variable {H : Type} {enc : TypeId × Value → H} {P : Program}
/-- what the row asks behind a call that turns nothing of what was there -/
theorem post_kept {f : Func} {s : ChangeSpec} {apart fresh handsOn again : Bool} {W W' : World} {args : Array Value} {v : Value} {ds gs : List (DataW H)} {before pa pv : List MemPlace} (hb : Below W.heap.size W W')
    (whole : DataW.Whole enc P f.params.toList s.vars apart W args.toList ds gs before)
    (res : ∀ (b : Nat) (sp : Nat → Bool) (hd : Bool), DataW.TrodAll enc P W' b sp hd f.resultTypes.toList (v.resultList f.resultTypes.size) (s.fn H (ds ++ gs)).results [])
    (arg : ∀ sp : Nat → Bool, (∀ p ∈ before, sp p.block = true) → DataW.TrodAll enc P W' 0 sp true f.params.toList args.toList (s.fn H (ds ++ gs)).args pa)
    (var : ∀ sp : Nat → Bool, (∀ p ∈ before, sp p.block = true) → DataW.TrodVars enc P W' sp s.vars (s.fn H (ds ++ gs)).vars pv)
    (cut : before = pa ++ pv) (fits : ∀ (j : Nat) (t : TypeId) (r : Value), f.resultTypes[j]? = some t → (v.resultList f.resultTypes.size)[j]? = some r → Value.okWide P W' .any 0 t r) :
    s.post enc P f apart fresh handsOn again W args v W' := by
  have old : ∀ p ∈ before, decide (p.block < W.heap.size) = true := fun p hp => decide_eq_true (whole.lt p hp)
  have lt : ∀ p ∈ before, p.block < W.heap.size := fun p hp => whole.lt p hp
  refine ⟨ds, gs, before, [], pa, pv, whole, res _ _ _, arg _ old, var _ old, hb.frame _, fun _ => ⟨fits, ?_⟩⟩
  obtain ⟨_, _, _, _, _, hz, hn⟩ := whole
  subst cut
  have all : DataW.TrodAll enc P W' 0 (fun _ => true) true (f.resultTypes.toList ++ f.params.toList) (v.resultList f.resultTypes.size ++ args.toList) ((s.fn H (ds ++ gs)).results ++ (s.fn H (ds ++ gs)).args) ([] ++ pa) :=
    trodAll_append (arg _ fun _ _ => rfl) (res _ _ _)
  refine ⟨_, _, ([] ++ pa) ++ pv, ⟨[] ++ pa, pv, all, var _ fun _ _ => rfl, rfl, fun b off hp => ?_, fun ha => ?_⟩, fun p hp _ => ?_⟩
  · have hp' : MemPlace.cell b off ∈ pa ++ pv := by simpa using hp
    rw [hb.frozen (lt _ hp')]; exact hz b off hp'
  · have := hn ha; simpa using this
  · simpa using hp
end
end GX
