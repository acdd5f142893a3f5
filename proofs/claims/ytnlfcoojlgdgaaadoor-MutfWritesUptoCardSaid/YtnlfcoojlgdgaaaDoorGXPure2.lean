/- GX: the operations that leave memory alone, one by one. -/
import Derived.Test.YtnlfcoojlgdgaaaDoorGXPure
namespace GX
set_option maxHeartbeats 2000000
open Go
section
variable {P : Program} {X : X} {φ : Phi}

theorem ibin_ok [Val] {op : BinOp} {k : IntKind} {a b : Int} {r : AV} (h : ibin op k a b = some r) :
    ∃ z, (∀ w t, (Go.binOp op t (.int k a) (.int k b)).run P w = .ok z w) ∧ vrel φ r z := by
  cases op <;> simp only [ibin] at h <;> try (simp at h; done)
  case quo =>
    cases hb : ieq b 0 with
    | true => simp [hb] at h
    | false =>
      simp only [hb, cond_false] at h; simp at h; subst h
      have : ¬ b = 0 := by rw [ieq_eq] at hb; simpa using hb
      exact ⟨.int k (k.wrap (a.tdiv b)), fun w t => by simp [Go.binOp, Op.intDiv, this], by simp [vrel, wrp_eq]⟩
  case rem =>
    cases hb : ieq b 0 with
    | true => simp [hb] at h
    | false =>
      simp only [hb, cond_false] at h; simp at h; subst h
      have : ¬ b = 0 := by rw [ieq_eq] at hb; simpa using hb
      exact ⟨.int k (a.tmod b), fun w t => by simp [Go.binOp, Op.intDiv, this], by simp [vrel]⟩
  all_goals
    simp at h; subst h
    refine ⟨_, fun w t => by simp [Go.binOp, Op.intArith, Op.intBits, Op.intCmp]; rfl, ?_⟩
    simp [vrel, wrp_eq, ieq_eq, ilt_eq, ibits_and, ibits_or, ibits_xor, bne]
  all_goals
    rw [Bool.eq_iff_iff]; simp
theorem ishift_ok [Val] {op : BinOp} {k yk : IntKind} {a b : Int} {r : AV} (hop : op = .shl ∨ op = .shr) (h : ishift op k a b = some r) :
    ∃ z, (∀ w t, (Go.binOp op t (.int k a) (.int yk b)).run P w = .ok z w) ∧ vrel φ r z := by
  unfold ishift at h
  cases b with
  | negSucc y => simp at h
  | ofNat y =>
    have hm : (bif Nat.ble y k.bits then y else k.bits) = min y k.bits := by
      rw [nble, cond_dec]; split <;> omega
    simp only [hm] at h
    have hy : ¬ (Int.ofNat y < 0) := by simp
    rcases hop with rfl | rfl
    · simp at h; subst h
      refine ⟨_, fun w t => by simp only [Go.binOp, Op.shift, if_neg hy]; rfl, ?_⟩
      simp [vrel, wrp_eq]
    · simp at h; subst h
      refine ⟨_, fun w t => by simp only [Go.binOp, Op.shift, if_neg hy]; rfl, ?_⟩
      simp [vrel]

theorem run_eqGuard_plain {op : BinOp} {t : Nat} {x y : Operand} {a b : Value} (h : ¬ (op = .eql ∨ op = .neq)) (w : World) : (eqGuard op t x y a b).run P w = .ok () w := by
  cases op <;> first | rfl | simp at h
theorem run_eqGuard_int {op : BinOp} {t : Nat} {x y : Operand} {k : IntKind} {n : Int} {b : Value} (w : World) : (eqGuard op t x y (.int k n) b).run P w = .ok () w := by
  cases op <;> rfl
theorem run_eqGuard_string {op : BinOp} {t : Nat} {x y : Operand} {s : ByteArray} {b : Value} (w : World) : (eqGuard op t x y (.string s) b).run P w = .ok () w := by
  cases op <;> rfl

theorem aeq_guard [Val] (hX : XOK P X) {t : Nat} {a b : AV} {r : Bool} {u v : Value} (h : aeq X 10 t a b = some r) (ha : vrel φ a u) (hb : vrel φ b v) {op : BinOp} {x y : Operand} (w : World) :
    (eqGuard op t x y u v).run P w = .ok () w := by
  by_cases hop : op = .eql ∨ op = .neq
  case neg => exact run_eqGuard_plain hop w
  unfold aeq at h
  split at h
  · simp at h
  · rename_i i hi
    split at h
    case h_23 => simp at h
    case h_22 fs xs ys hd =>
      simp only [vrel] at ha hb
      obtain ⟨us, rfl, hu⟩ := ha
      obtain ⟨vs, rfl, hv⟩ := hb
      cases he : X.eqs t with
      | false => simp [he] at h
      | true =>
        have := (hX.eqs t he).2
        rcases hop with rfl | rfl <;> simp [eqGuard, this]
    all_goals
      simp only [vrel] at ha hb
      first | subst ha | (obtain ⟨_, rfl, _⟩ := ha) | (obtain ⟨_, _, rfl⟩ := ha) | (obtain ⟨_, _, rfl, _⟩ := ha) | (obtain ⟨_, _, _, rfl, _⟩ := ha) | (obtain ⟨_, _, _, _, _, rfl, _⟩ := ha) | (obtain ⟨_, _, _, _, _, _, rfl, _⟩ := ha)
      rcases hop with rfl | rfl <;> rfl

theorem abin_ok [Val] (hX : XOK P X) {op : BinOp} {t : Nat} {a b : AV} {r : AV} {u v : Value} {x y : Operand} (h : abin X op t a b = some r) (ha : vrel φ a u) (hb : vrel φ b v) :
    ∃ z, (∀ w, (do eqGuard op t x y u v; Go.binOp op t u v : Sem Value).run P w = .ok z w) ∧ vrel φ r z := by
  unfold abin at h
  split at h
  · rename_i k m k' m'
    simp only [vrel] at ha hb; subst ha; subst hb
    simp only [Sem.run_bind, run_eqGuard_int, Result.andThen_ok]
    split at h
    · obtain ⟨z, h1, h2⟩ := ishift_ok (P := P) (φ := φ) (yk := k') (.inl rfl) h; exact ⟨z, fun w => h1 w t, h2⟩
    · obtain ⟨z, h1, h2⟩ := ishift_ok (P := P) (φ := φ) (yk := k') (.inr rfl) h; exact ⟨z, fun w => h1 w t, h2⟩
    · rw [cond_dec] at h
      split at h
      · rename_i hk; subst hk
        obtain ⟨z, h1, h2⟩ := ibin_ok (P := P) (φ := φ) h; exact ⟨z, fun w => h1 w t, h2⟩
      · simp at h
  · simp only [vrel] at ha hb
    obtain ⟨s, rfl, e1⟩ := ha
    obtain ⟨s', rfl, e2⟩ := hb
    simp only [Sem.run_bind, run_eqGuard_string, Result.andThen_ok]
    obtain ⟨z, h1, h2⟩ := sbin_ok (P := P) (φ := φ) e1 e2 h
    refine ⟨z, fun w => ?_, h2⟩
    rw [← h1 w]
    cases op <;> rfl
  · rename_i hn1 hn2
    have key : ∀ q, aeq X 10 t a b = some q → (∀ w, (eqGuard op t x y u v).run P w = .ok () w) ∧ ∀ w, (Op.equal t u v).run P w = .ok q w := fun q hq =>
      ⟨fun w => aeq_guard hX hq ha hb w, fun w => aeq_ok hX 10 t a b hq ha hb Op.maxDepth (by decide) w⟩
    have shape : op = .eql ∨ op = .neq → ∀ q, aeq X 10 t a b = some q → Go.binOp op t u v = (do let r ← Op.equal t u v; pure (.bool (if op = .eql then r else !r))) := by
      intro hop q hq
      unfold aeq at hq
      split at hq
      · simp at hq
      · split at hq
        case h_23 => simp at hq
        case h_2 => exact absurd rfl (hn1 _ _ _ _ rfl)
        case h_3 => exact absurd rfl (hn2 _ _ rfl)
        all_goals
          simp only [vrel] at ha hb
          first | subst ha | (obtain ⟨_, rfl, _⟩ := ha) | (obtain ⟨_, _, rfl⟩ := ha) | (obtain ⟨_, _, rfl, _⟩ := ha) | (obtain ⟨_, _, _, rfl, _⟩ := ha) | (obtain ⟨_, _, _, _, _, rfl, _⟩ := ha) | (obtain ⟨_, _, _, _, _, _, rfl, _⟩ := ha)
          first | subst hb | (obtain ⟨_, rfl, _⟩ := hb) | (obtain ⟨_, _, rfl⟩ := hb) | (obtain ⟨_, _, rfl, _⟩ := hb) | (obtain ⟨_, _, _, rfl, _⟩ := hb) | (obtain ⟨_, _, _, _, _, rfl, _⟩ := hb) | (obtain ⟨_, _, _, _, _, _, rfl, _⟩ := hb)
          rcases hop with rfl | rfl <;> rfl
    split at h
    · split at h
      · rename_i q hq
        simp at h; subst h
        obtain ⟨k1, k2⟩ := key q hq
        refine ⟨.bool q, fun w => ?_, by simp [vrel]⟩
        rw [shape (.inl rfl) q hq]
        simp [k1, k2]
      · simp at h
    · split at h
      · rename_i q hq
        simp at h; subst h
        obtain ⟨k1, k2⟩ := key q hq
        refine ⟨.bool !q, fun w => ?_, by simp [vrel]⟩
        rw [shape (.inr rfl) q hq]
        simp [k1, k2]
      · simp at h
    · simp at h

theorem aun_ok [Val] {op : UnOp} {a r : AV} {u : Value} (h : aun op a = some r) (ha : vrel φ a u) : ∃ z, (∀ w, (Op.unary op u).run P w = .ok z w) ∧ vrel φ r z := by
  unfold aun at h
  split at h
  · simp at h; subst h; simp only [vrel] at ha; subst ha
    exact ⟨_, fun w => by simp [Op.unary, Op.intArith]; rfl, by simp [vrel, wrp_eq]⟩
  · simp at h; subst h; simp only [vrel] at ha; subst ha
    exact ⟨_, fun w => by simp only [Op.unary, Op.intBits]; rfl, by simp [vrel, ibits_xor]⟩
  · simp at h; subst h; simp only [vrel] at ha; subst ha
    exact ⟨_, fun w => by simp [Op.unary]; rfl, by simp [vrel]⟩
  · simp at h

/-! composites -/
theorem fill_ok [Val] {place : Nat → Option (Nat × Nat)} : ∀ {ps : List (Nat × AV)} {us : List (Nat × Value)} {cells cs : List AV} {vs : List Value}, prels φ ps us → vrels φ cells vs → afill place cells ps = some cs →
    ∃ xs : Array Value, Instr.fill place vs.toArray us = some xs ∧ vrels φ cs xs.toList
  | [], us, cells, cs, vs, h, hv, hf => by
    simp only [prels] at h; subst h; simp [afill] at hf; subst hf
    exact ⟨vs.toArray, by simp [Instr.fill], hv⟩
  | (i, a) :: ps, us, cells, cs, vs, h, hv, hf => by
    simp only [prels] at h
    obtain ⟨u, us, rfl, hu, ht⟩ := h
    simp only [afill] at hf
    split at hf
    · simp at hf
    · rename_i off size hp
      simp only [nbeq, nble] at hf
      by_cases hc : a.cells.length = size ∧ off + size ≤ cells.length
      · obtain ⟨h1, h2⟩ := hc
        simp only [h1, h2, decide_true, Bool.and_self, cond_true] at hf
        have hl := vrels_length (vrel_cells hu)
        have hl2 := vrels_length hv
        have hus : u.cells.size = size := by rw [← Array.length_toList]; omega
        have hput : (u.cells.zipIdx.foldl (fun cs (c, j) => cs.setIfInBounds (off + j) c) vs.toArray) = (lput vs off u.cells.toList).toArray := by
          rw [← Array.foldl_toList, Array.toList_zipIdx]
          have gen : ∀ (l : List Value) (k : Nat) (vs : List Value), off + k + l.length ≤ vs.length →
              ((l.zipIdx k).foldl (fun (cs : Array Value) (x : Value × Nat) => cs.setIfInBounds (off + x.2) x.1) vs.toArray) = (lput vs (off + k) l).toArray := by
            intro l
            induction l with
            | nil => intro k vs _; simp [lput_nil]
            | cons c l ih =>
              intro k vs hk
              simp only [List.length_cons] at hk
              rw [List.zipIdx_cons, List.foldl_cons, lput_cons _ _ _ _ (by omega)]
              have := ih (k + 1) (vs.set (off + k) c) (by simp; omega)
              simp only [Nat.add_assoc] at this ⊢
              simpa using this
          have := gen u.cells.toList 0 vs (by rw [← hl, ← hl2]; omega)
          simpa using this
        obtain ⟨xs, e1, e2⟩ := fill_ok ht (vrels_lput off hv (vrel_cells hu)) hf
        refine ⟨xs, ?_, e2⟩
        simp only [Instr.fill, hp]
        rw [if_neg]
        · rw [hput]; exact e1
        · simp only [hus]; simp; rw [← hl2]; exact h2
      · simp only [← Bool.decide_and] at hf
        rw [cond_dec, if_neg hc] at hf
        simp at hf
theorem places_ok [Val] (hX : XOK P X) : ∀ {fs : List Field} {ps : List (Nat × Nat)}, places X fs = some ps → fs.mapM (fun f => (P.info? f.type).map fun i => (f.offset, i.size)) = some ps
  | [], ps, h => by simp [places] at h; subst h; rfl
  | f :: fs, ps, h => by
    simp only [places] at h
    split at h
    · simp at h
    · rename_i i hi
      split at h
      · simp at h
      · rename_i l hl
        simp at h; subst h
        obtain ⟨j, e, e2, _⟩ := (hX.ti _ _ hi).info
        simp [List.mapM_cons, e, e2, places_ok hX hl]
theorem build_ok [Val] (hX : XOK P X) {t : Nat} {ps : List (Nat × AV)} {us : Array (Nat × Value)} {r : AV} (h : abuild X t ps = some r) (hp : prels φ ps us.toList) :
    ∃ z, (∀ w, (Instr.build t us).run P w = .ok z w) ∧ vrel φ r z := by
  unfold abuild at h
  split at h
  · simp at h
  · rename_i i hi
    have ti := hX.ti _ _ hi
    split at h
    · rename_i fs hd
      split at h
      · simp at h
      · rename_i pl hpl
        split at h
        · simp at h
        · rename_i cs hf
          simp at h; subst h
          obtain ⟨j, e1, e2, e3, z, e4, _, e5⟩ := ti.info
          obtain ⟨xs, f1, f2⟩ := fill_ok (place := fun j => pl[j]?) hp (e5 φ) hf
          refine ⟨.agg xs, fun w => run_build w t us xs ?_, xs, rfl, f2⟩
          have := places_ok hX hpl
          simp only [Program.built, e1, ti.und, hd, e4, this]
          simpa using f1
    · simp at h
end
end GX
