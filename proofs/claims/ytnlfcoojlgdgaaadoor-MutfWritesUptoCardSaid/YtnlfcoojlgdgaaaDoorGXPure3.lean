/- GX: the operations that leave memory alone: slicing, addresses, conversions; all of them. -/
import Derived.Test.YtnlfcoojlgdgaaaDoorGXPure2
namespace GX
open Go
section
variable {P : Program} {X : X} {φ : Phi}

def orel [Val] (φ : Phi) (x : Option AV) (y : Option Value) : Prop := (x = none ∧ y = none) ∨ ∃ a v, x = some a ∧ y = some v ∧ vrel φ a v
theorem optOpd_rel [Val] {n : Nat} {e : Env} {a : Act} (r : erel φ n e a.tmps) {x : Option Operand} {v : Option AV} (h : optOpd e x = some v) : orel φ v (x.map a.eval) := by
  rcases optOpd_ok r h with ⟨rfl, rfl⟩ | ⟨y, u, rfl, rfl, k⟩
  · exact .inl ⟨rfl, rfl⟩
  · exact .inr ⟨u, _, rfl, rfl, k⟩
theorem bound_ok [Val] {x : AV} {u : Value} {y i : Nat} (h : bound x y = some i) (hx : vrel φ x u) {z : Nat} (hz : y ≤ z) (c : BoundsCode) (w : World) : (Instr.sliceBound u z c).run P w = .ok i w ∧ i ≤ y := by
  unfold bound at h
  split at h
  · rename_i k j
    rw [nble, cond_dec] at h
    split at h
    · simp at h; subst h
      simp only [vrel] at hx; subst hx
      refine ⟨?_, by assumption⟩
      simp only [Instr.sliceBound, asIntOf, Sem.run_bind, Sem.run_pure, Result.andThen_ok]
      rw [if_pos ⟨by simp, by simp; omega⟩]
      simp
    · simp at h
  · simp at h
/-- slicing without a third index -/
theorem bounds_ok [Val] {len lim l h : Nat} {lo hi : Option AV} {lo' hi' : Option Value} (hb : bounds len lim lo hi = some (l, h)) (hl : orel φ lo lo') (hh : orel φ hi hi') {isS : Bool} {cap : Nat} (hc : lim ≤ cap) (w : World) :
    (Instr.sliceBounds isS len cap lo' hi' none).run P w = .ok (l, h, cap) w ∧ l ≤ h ∧ (h ≤ lim ∨ h = len) := by
  unfold bounds at hb
  rcases hh with ⟨rfl, rfl⟩ | ⟨a, v, rfl, rfl, hv⟩
  · rcases hl with ⟨rfl, rfl⟩ | ⟨b, u, rfl, rfl, hu⟩
    · simp at hb; obtain ⟨rfl, rfl⟩ := hb
      simp [Instr.sliceBounds]
    · dsimp only at hb
      split at hb
      · simp at hb
      · rename_i l' hl'
        simp at hb; obtain ⟨rfl, rfl⟩ := hb
        have := fun c => (bound_ok (P := P) hl' hu (Nat.le_refl _) c w)
        simp [Instr.sliceBounds, this, (this .index).2]
  · dsimp only at hb
    split at hb
    · simp at hb
    · rename_i h' hh'
      have kh := fun c => (bound_ok (P := P) hh' hv hc c w)
      rcases hl with ⟨rfl, rfl⟩ | ⟨b, u, rfl, rfl, hu⟩
      · simp at hb; obtain ⟨rfl, rfl⟩ := hb
        simp [Instr.sliceBounds, kh, (kh .index).2]
      · dsimp only at hb
        split at hb
        · simp at hb
        · rename_i l' hl'
          simp at hb; obtain ⟨rfl, rfl⟩ := hb
          have kl := fun c => (bound_ok (P := P) hl' hu (Nat.le_refl _) c w)
          simp [Instr.sliceBounds, kh, kl, (kh .index).2, (kl .index).2]
/-- slicing with a third index -/
theorem bounds3_ok [Val] {len lim m l h : Nat} {lo hi : Option AV} {mx : AV} {lo' hi' : Option Value} {mx' : Value} (hm : bound mx lim = some m) (hsome : ∃ q, hi = some q) (hb : bounds len m lo hi = some (l, h)) (hl : orel φ lo lo') (hh : orel φ hi hi') (hx : vrel φ mx mx') {isS : Bool} {cap : Nat} (hc : lim ≤ cap) (w : World) :
    (Instr.sliceBounds isS len cap lo' hi' (some mx')).run P w = .ok (l, h, m) w ∧ l ≤ h ∧ h ≤ m ∧ m ≤ lim := by
  have km := fun c => (bound_ok (P := P) hm hx hc c w)
  unfold bounds at hb
  obtain ⟨q, rfl⟩ := hsome
  rcases hh with ⟨e, _⟩ | ⟨a, v, e, rfl, hv⟩
  · cases e
  · cases e
    dsimp only at hb
    split at hb
    · simp at hb
    · rename_i h' hh'
      have kh := fun c => (bound_ok (P := P) hh' hv (Nat.le_refl _) c w)
      rcases hl with ⟨rfl, rfl⟩ | ⟨b, u, rfl, rfl, hu⟩
      · simp at hb; obtain ⟨rfl, rfl⟩ := hb
        simp [Instr.sliceBounds, kh, km, (kh .index).2, (km .index).2]
      · dsimp only at hb
        split at hb
        · simp at hb
        · rename_i l' hl'
          simp at hb; obtain ⟨rfl, rfl⟩ := hb
          have kl := fun c => (bound_ok (P := P) hl' hu (Nat.le_refl _) c w)
          simp [Instr.sliceBounds, kh, kl, km, (kh .index).2, (kl .index).2, (km .index).2]

theorem add_plain (b o n : Nat) : (Addr.add ⟨b, o, none⟩ n) = ⟨b, o + n, none⟩ := by
  unfold Addr.add; split
  · rename_i h; simp [h]
  · rfl
theorem bytes_extract (s : ByteArray) (l h : Nat) : bytes (s.extract l h) = ((bytes s).take h).drop l := by
  simp only [bytes, ByteArray.data_extract, Array.toList_extract, List.extract_eq_take_drop, List.map_take, List.map_drop, List.drop_take]
theorem bounds_le {len lim l h : Nat} {lo hi : Option AV} (hb : bounds len lim lo hi = some (l, h)) (hlen : len ≤ lim) : l ≤ h ∧ h ≤ lim := by
  have bd : ∀ {x : AV} {y i : Nat}, bound x y = some i → i ≤ y := by
    intro x y i hx
    unfold bound at hx
    split at hx
    · rw [nble, cond_dec] at hx
      split at hx
      · cases hx; assumption
      · cases hx
    · cases hx
  unfold bounds at hb
  split at hb
  · split at hb
    · cases hb; omega
    · split at hb
      · cases hb
      · rename_i h1
        cases hb
        have := bd h1
        omega
  · split at hb
    · cases hb
    · rename_i h1
      have := bd h1
      split at hb
      · cases hb; omega
      · split at hb
        · cases hb
        · rename_i h2
          cases hb
          have := bd h2
          omega
theorem slice_ok [Val] (hX : XOK P X) {t : Nat} {x r : AV} {lo hi mx : Option AV} {u : Value} {lo' hi' mx' : Option Value} (h : aslice X t x lo hi mx = some r) (hx : vrel φ x u) (hl : orel φ lo lo') (hh : orel φ hi hi') (hm : orel φ mx mx')
    (hu : P.underlying t = some .string ∨ ∃ el, P.underlying t = some (.slice el) ∧ ∃ ei, X.ti el = some ei) (hs : (∀ s, x ≠ .str s) ∨ P.underlying t = some .string) (hs2 : (∃ s, x = .str s) ∨ P.underlying t ≠ some .string) :
    ∃ z, (∀ w, (Instr.slice t u lo' hi' mx').run P w = .ok z w) ∧ vrel φ r z := by
  have elem : (∀ s, x ≠ .str s) → ∃ el ei, P.underlying t = some (.slice el) ∧ X.ti el = some ei := by
    intro hn
    rcases hu with hu | ⟨el, hu, ei, hei⟩
    · rcases hs2 with ⟨s, rfl⟩ | hs2
      · exact absurd rfl (hn s)
      · exact absurd hu hs2
    · exact ⟨el, ei, hu, hei⟩
  unfold aslice at h
  cases x with
  | str s =>
    dsimp only at h
    have ht : P.underlying t = some .string := by
      rcases hs with hs | hs
      · exact absurd rfl (hs s)
      · exact hs
    cases mx with
    | some m => simp at h
    | none =>
      dsimp only at h
      split at h
      · simp at h
      · rename_i l h' hb
        simp at h; subst h
        rcases hm with ⟨_, rfl⟩ | ⟨_, _, e, _⟩
        case inr => cases e
        simp only [vrel] at hx
        obtain ⟨b, rfl, rfl⟩ := hx
        have k := fun w => bounds_ok (P := P) (isS := false) hb hl hh (Nat.le_refl _) w
        rw [bytes_length] at k
        refine ⟨.string (b.extract l h'), fun w => ?_, _, rfl, bytes_extract b l h'⟩
        simp [Instr.slice, underlying, ht, k]
  | nils =>
    dsimp only at h
    obtain ⟨el, ei, ht, hei⟩ := elem (by simp)
    have te := hX.ti _ _ hei
    cases mx with
    | some m => simp at h
    | none =>
      dsimp only at h
      split at h
      · simp at h
      · rename_i q hb
        obtain ⟨l, h'⟩ := q
        simp at h; subst h
        rcases hm with ⟨_, rfl⟩ | ⟨_, _, e, _⟩
        case inr => cases e
        simp only [vrel] at hx; subst hx
        have k := fun w => bounds_ok (P := P) (isS := true) hb hl hh (Nat.le_refl _) w
        have h0 := (k default).2
        refine ⟨.slice none 0 0, fun w => ?_, by simp [vrel]⟩
        simp [Instr.slice, underlying, ht, k, te.run_size]
        omega
  | emp =>
    dsimp only at h
    obtain ⟨el, ei, ht, hei⟩ := elem (by simp)
    have te := hX.ti _ _ hei
    cases mx with
    | some m => simp at h
    | none =>
      dsimp only at h
      split at h
      · simp at h
      · rename_i q hb
        obtain ⟨l, h'⟩ := q
        simp at h; subst h
        rcases hm with ⟨_, rfl⟩ | ⟨_, _, e, _⟩
        case inr => cases e
        simp only [vrel] at hx
        obtain ⟨a, c, rfl⟩ := hx
        have k := fun w => bounds_ok (P := P) (isS := true) (cap := c) hb hl hh (Nat.zero_le _) w
        have h0 := (k default).2
        refine ⟨.slice (some (if c = l then a else a.add (l * ei.size))) (h' - l) (c - l), fun w => ?_, ?_⟩
        · simp [Instr.slice, underlying, ht, k, te.run_size]
          split <;> rfl
        · simp only [vrel]
          exact ⟨_, c - l, by congr 1; omega⟩
  | slice b o len cap =>
    dsimp only at h
    obtain ⟨el, ei, ht, hei⟩ := elem (by simp)
    have te := hX.ti _ _ hei
    simp only [vrel] at hx
    obtain ⟨L, c, hL, rfl, hcap⟩ := hx
    split at h
    · simp at h
    · rename_i i hi
      have ti := hX.ti _ _ hi
      rw [ti.und] at ht
      simp only [Option.some.injEq] at ht
      rw [ht] at h
      dsimp only at h
      rw [hei] at h
      dsimp only at h
      have ht' : P.underlying t = some (.slice el) := by rw [ti.und, ht]
      cases cap with
      | ex k =>
        simp only [capOk] at hcap
        obtain ⟨rfl, hlk⟩ := hcap
        cases mx with
        | none =>
          dsimp only at h
          rcases hm with ⟨_, rfl⟩ | ⟨_, _, e, _⟩
          case inr => cases e
          split at h
          · simp at h
          · rename_i l h' hb
            simp at h; subst h
            have kb := fun w => bounds_ok (P := P) (isS := true) hb hl hh (Nat.le_refl _) w
            have h0 := (kb default).2
            refine ⟨.slice (some ⟨L.blk, L.base + (if c = l then o else o + l * ei.size), none⟩) (h' - l) (c - l), fun w => ?_, ?_⟩
            · simp [Instr.slice, underlying, ht', kb, te.run_size, add_plain]
              split <;> simp [Nat.add_assoc]
            · simp only [vrel]
              refine ⟨L, c - l, hL, by rw [nbeq, cond_dec], rfl, ?_⟩
              omega
        | some m =>
          dsimp only at h
          rcases hm with ⟨e, _⟩ | ⟨m', v, e, rfl, hv⟩
          · cases e
          · cases e
            split at h
            · simp at h
            · rename_i m0 hm0
              split at h
              · simp at h
              · split at h
                · simp at h
                · rename_i l h' hb
                  simp at h; subst h
                  have kb := fun w => bounds3_ok (P := P) (isS := true) hm0 ⟨_, rfl⟩ hb hl hh hv (Nat.le_refl _) w
                  have h0 := (kb default).2
                  refine ⟨.slice (some ⟨L.blk, L.base + (if m0 = l then o else o + l * ei.size), none⟩) (h' - l) (m0 - l), fun w => ?_, ?_⟩
                  · simp [Instr.slice, underlying, ht', kb, te.run_size, add_plain]
                    split <;> simp [Nat.add_assoc]
                  · simp only [vrel]
                    refine ⟨L, m0 - l, hL, by rw [nbeq, cond_dec], rfl, ?_⟩
                    omega
      | op z =>
        simp only [capOk] at hcap
        obtain ⟨hlc, htot⟩ := hcap
        cases mx with
        | none =>
          dsimp only at h
          rcases hm with ⟨_, rfl⟩ | ⟨_, _, e, _⟩
          case inr => cases e
          split at h
          · simp at h
          · rename_i l h' hb
            have kb := fun w => bounds_ok (P := P) (isS := true) (cap := c) hb hl hh hlc w
            have h0 := (kb default).2
            rw [nblt, nbeq, nbeq, ← Bool.decide_and, cond_dec] at h
            split at h
            · rename_i hc
              obtain ⟨h1, h2⟩ := hc
              simp at h; subst h
              refine ⟨.slice (some ⟨L.blk, L.base + (o + l * ei.size), none⟩) (h' - l) (c - l), fun w => ?_, ?_⟩
              · simp [Instr.slice, underlying, ht', kb, te.run_size, add_plain]
                rw [if_neg (by omega)]
                simp [Nat.add_assoc]
              · simp only [vrel]
                refine ⟨L, c - l, hL, rfl, by omega, ?_⟩
                subst h2
                rw [Nat.sub_mul]
                have : l * ei.size ≤ c * ei.size := Nat.mul_le_mul_right _ (by omega)
                omega
            · rw [cond_dec] at h
              split at h
              · simp at h; subst h
                refine ⟨.slice (some (if c = l then ⟨L.blk, L.base + o, none⟩ else (Addr.add ⟨L.blk, L.base + o, none⟩ (l * ei.size)))) (h' - l) (c - l), fun w => ?_, ?_⟩
                · simp [Instr.slice, underlying, ht', kb, te.run_size]
                  split <;> rfl
                · simp only [vrel]
                  exact ⟨_, c - l, by congr 1; omega⟩
              · simp at h
        | some m =>
          dsimp only at h
          rcases hm with ⟨e, _⟩ | ⟨m', v, e, rfl, hv⟩
          · cases e
          · cases e
            split at h
            · simp at h
            · rename_i m0 hm0
              split at h
              · simp at h
              · split at h
                · simp at h
                · rename_i l h' hb
                  simp at h; subst h
                  have kb := fun w => bounds3_ok (P := P) (isS := true) (cap := c) hm0 ⟨_, rfl⟩ hb hl hh hv hlc w
                  have h0 := (kb default).2
                  refine ⟨.slice (some ⟨L.blk, L.base + (if m0 = l then o else o + l * ei.size), none⟩) (h' - l) (m0 - l), fun w => ?_, ?_⟩
                  · simp [Instr.slice, underlying, ht', kb, te.run_size, add_plain]
                    split <;> simp [Nat.add_assoc]
                  · simp only [vrel]
                    refine ⟨L, m0 - l, hL, by rw [nbeq, cond_dec], rfl, ?_⟩
                    omega
  | rsl cs len sz =>
    dsimp only at h
    obtain ⟨el, ei, ht, hei⟩ := elem (by simp)
    have te := hX.ti _ _ hei
    simp only [vrel] at hx
    obtain ⟨g, off, c, ca, ty, fz, rfl, hlc, hcl, hro, hfit, hrel⟩ := hx
    cases mx with
    | some m => simp at h
    | none =>
      dsimp only at h
      split at h
      · simp at h
      · rename_i i hi
        have ti := hX.ti _ _ hi
        rw [ti.und] at ht
        simp only [Option.some.injEq] at ht
        rw [ht] at h
        dsimp only at h
        rw [hei] at h
        dsimp only at h
        have ht' : P.underlying t = some (.slice el) := by rw [ti.und, ht]
        rw [nbeq, cond_dec] at h
        split at h
        · rename_i hsz
          split at h
          · simp at h
          · rename_i l h' hb
            simp at h; subst h
            rcases hm with ⟨_, rfl⟩ | ⟨_, _, e, _⟩
            case inr => cases e
            have kb := fun w => bounds_ok (P := P) (isS := true) (cap := c) hb hl hh hlc w
            have h0 := (kb default).2
            have hlen : l ≤ h' ∧ h' ≤ len := bounds_le hb (Nat.le_refl _)
            have hmz : h' * sz ≤ len * sz := Nat.mul_le_mul_right _ hlen.2
            have hlz : l * sz ≤ h' * sz := Nat.mul_le_mul_right _ hlen.1
            have hln : ((cs.take (h' * sz)).drop (l * sz)).length = (h' - l) * sz := by
              rw [List.length_drop, List.length_take, hcl, Nat.sub_mul]; omega
            have hsm : (h' - l) * sz = h' * sz - l * sz := Nat.sub_mul _ _ _
            refine ⟨.slice (some ⟨g, (if c = l then off else off + l * sz), none⟩) (h' - l) (c - l), fun w => ?_, ?_⟩
            · simp [Instr.slice, underlying, ht', kb, te.run_size, add_plain, hsz]
              split <;> rfl
            · simp only [vrel]
              refine ⟨g, _, c - l, ca, ty, fz, rfl, by omega, hln, hro, ?_, ?_⟩
              · rw [hln, hsm]; split <;> omega
              · rw [hln]
                by_cases hcl2 : c = l
                · have h1 : h' - l = 0 := by omega
                  have hnil : (cs.take (h' * sz)).drop (l * sz) = [] := List.eq_nil_of_length_eq_zero (by rw [hln, h1, Nat.zero_mul])
                  rw [hnil, h1, Nat.zero_mul, List.take_zero]; exact vrels_nil
                · rw [if_neg hcl2]
                  have k1 := vrels_drop (l * sz) (vrels_take (h' * sz) hrel)
                  have e : (ca.toList.drop (off + l * sz)).take ((h' - l) * sz) = (((ca.toList.drop off).take cs.length).take (h' * sz)).drop (l * sz) := by
                    rw [List.take_take, Nat.min_eq_left (by omega), List.drop_take, List.drop_drop, ← hsm]
                  rw [e]; exact k1
        · simp at h
  | _ => simp at h
end
end GX
