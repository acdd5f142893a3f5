/- GX: the operations that leave memory alone: all of them. -/
import Derived.Test.YtnlfcoojlgdgaaaDoorGXPure3
namespace GX
open Go
section
variable {P : Program} {X : X} {φ : Phi}

theorem u8nat (n : Nat) (h : n < 256) : (UInt8.ofNat n).toNat = n := by simp; omega
theorem encodeR_eq (r : Int) : bytes (Utf8.encode r) = encodeR r := by
  unfold Utf8.encode encodeR
  simp only [nblt, cond_dec]
  have hc : (if Utf8.valid r = true then r.toNat else Utf8.runeError) ≤ 0x10FFFF := by
    split
    · rename_i h; simp [Utf8.valid] at h; omega
    · simp [Utf8.runeError]
  generalize (if Utf8.valid r = true then r.toNat else Utf8.runeError) = c at *
  split
  · simp only [bytes, List.map_cons, List.map_nil]; rw [u8nat _ (by omega)]
  · split
    · simp only [bytes, List.map_cons, List.map_nil]; rw [u8nat _ (by omega), u8nat _ (by omega)]
    · split
      · simp only [bytes, List.map_cons, List.map_nil]; rw [u8nat _ (by omega), u8nat _ (by omega), u8nat _ (by omega)]
      · simp only [bytes, List.map_cons, List.map_nil]; rw [u8nat _ (by omega), u8nat _ (by omega), u8nat _ (by omega), u8nat _ (by omega)]

theorem bytes_get (s : ByteArray) (i : Nat) : (bytes s)[i]? = (s[i]?).map (·.toNat) := by
  simp only [bytes, List.getElem?_map, Array.getElem?_toList]
  congr 1

theorem run_convert [Val] (s d : Nat) (v : Value) (w : World) {si di : TI} (hs : TIok P s si) (hd : TIok P d di) {r : Result Value}
    (h : (match si.desc, di.desc, v with
      | _, .int k, .int _ n => Conv.intToInt k n
      | _, .string, .int _ n => Conv.intToString n
      | _, .string, .string _ => pure v
      | _, _, _ => stuck "").run P w = r) (hk : (∃ k k' n, di.desc = .int k ∧ v = .int k' n) ∨ (∃ k n, di.desc = .string ∧ v = .int k n) ∨ (∃ b, di.desc = .string ∧ v = .string b)) :
    (convert s d v).run P w = r := by
  rcases hk with ⟨k, k', n, e, rfl⟩ | ⟨k, n, e, rfl⟩ | ⟨b, e, rfl⟩ <;> simp only [e] at h <;> rw [← h] <;> simp [convert, underlying, hs.und, hd.und, e] <;> cases si.desc <;> rfl

theorem cells_len {x : Value} {w : World} (v : Value) (h : (pure v : Sem Value).run P w = .ok x w) : x = v := by simpa using h.symm

theorem pure_ok [Val] (hX : XOK P X) {n : Nat} {e : Env} {a : Act} (he : erel φ n e a.tmps) {o : Oper} {v : AV} (h : pureOp X e o.op = some v) :
    ∃ u, (∀ w, (execOp a.eval o).run P w = .ok (.value u) w) ∧ vrel φ v u := by
  obtain ⟨dst, op, type, pos, after, guard⟩ := o
  dsimp only at h
  have fin : ∀ (s : Sem Value) (hs : execOp a.eval ⟨dst, op, type, pos, after, guard⟩ = (do pure (.value (← s)))), (∃ z, (∀ w, s.run P w = .ok z w) ∧ vrel φ v z) →
      ∃ u, (∀ w, (execOp a.eval ⟨dst, op, type, pos, after, guard⟩).run P w = .ok (.value u) w) ∧ vrel φ v u := by
    intro s hs ⟨z, h1, h2⟩
    exact ⟨z, fun w => by rw [hs]; simp [h1], h2⟩
  cases op with
  | move x => exact ⟨_, fun w => rfl, opd_ok he h⟩
  | assign x => exact ⟨_, fun w => rfl, opd_ok he h⟩
  | pick c x y =>
    simp only [pureOp] at h
    split at h
    · rename_i hc
      split at h
      · have hc := opd_ok he hc; simp only [vrel] at hc
        exact ⟨_, fun w => by simp [execOp, hc, asBool], opd_ok he h⟩
      · simp at h
    · rename_i hc
      split at h
      · have hc := opd_ok he hc; simp only [vrel] at hc
        exact ⟨_, fun w => by simp [execOp, hc, asBool], opd_ok he h⟩
      · simp at h
    · simp at h
  | nilCheck x =>
    simp only [pureOp] at h
    split at h
    · rename_i hc
      have hc := opd_ok he hc
      simp at h; subst h
      have hv := hc
      simp only [vrel] at hc
      obtain ⟨l, h1, h2⟩ := hc
      exact ⟨_, fun w => by simp [execOp, h2]; rfl, by rw [← h2]; exact hv⟩
    · rename_i hc
      have hc := opd_ok he hc
      simp at h; subst h
      have hv := hc
      simp only [vrel] at hc
      obtain ⟨g, off, c, t, fz, h2, _⟩ := hc
      exact ⟨_, fun w => by simp [execOp, h2]; rfl, by rw [← h2]; exact hv⟩
    · rename_i hc
      have hc := opd_ok he hc
      simp at h; subst h
      have hv := hc
      simp only [vrel] at hc
      obtain ⟨l, m, h1, h2⟩ := hc
      exact ⟨_, fun w => by simp [execOp, h1]; rfl, by rw [← h1]; exact hv⟩
    · simp at h
  | binOp op t x y yt =>
    simp only [pureOp] at h
    split at h
    · simp at h
    · rename_i p hp
      split at h
      · simp at h
      · rename_i q hq
        exact fin _ rfl (abin_ok hX h (opd_ok he hp) (opd_ok he hq))
  | unOp op t x =>
    simp only [pureOp] at h
    split at h
    · simp at h
    · rename_i p hp
      exact fin _ rfl (aun_ok h (opd_ok he hp))
  | convert s d x =>
    simp only [pureOp] at h
    split at h
    · simp at h
    · rename_i p hp
      have hp := opd_ok he hp
      split at h
      · simp at h
      · rename_i di hdi
        split at h
        · simp at h
        · rename_i si hsi
          have td := hX.ti _ _ hdi
          have ts := hX.ti _ _ hsi
          refine fin _ rfl ?_
          split at h
          · rename_i k k' m hd _
            simp at h; subst h
            simp only [vrel] at hp
            refine ⟨.int k (k.wrap m), fun w => run_convert s d _ w ts td ?_ (.inl ⟨k, k', m, hd, hp⟩), by simp [vrel, wrp_eq]⟩
            rw [hp, hd]; cases si.desc <;> rfl
          · rename_i k m hd _
            simp at h; subst h
            simp only [vrel] at hp
            refine ⟨.string (Utf8.encode m), fun w => run_convert s d _ w ts td ?_ (.inr (.inl ⟨k, m, hd, hp⟩)), _, rfl, encodeR_eq m⟩
            rw [hp, hd]; cases si.desc <;> rfl
          · rename_i m hd _
            simp at h; subst h
            simp only [vrel] at hp
            obtain ⟨b, hb, hs⟩ := hp
            refine ⟨.string b, fun w => run_convert s d _ w ts td ?_ (.inr (.inr ⟨b, hd, hb⟩)), b, rfl, hs⟩
            rw [hb, hd]; cases si.desc <;> rfl
          · simp at h
  | makeFunc fn first captured =>
    simp only [pureOp] at h
    split at h
    · simp at h
    · rename_i p hp
      split at h
      · simp at h
      · rename_i q hq
        simp at h; subst h
        refine fin _ rfl ⟨.func fn (first.map a.eval) (captured.map a.eval), fun w => rfl, _, _, rfl, ?_, ?_⟩
        · simpa using opds_ok he hp
        · simpa using opds_ok he hq
  | makeInterface t x =>
    simp only [pureOp] at h
    split at h
    · simp at h
    · rename_i p hp
      have hp := opd_ok he hp
      split at h
      · simp at h
      · rename_i i hi
        have ti := hX.ti _ _ hi
        refine fin _ rfl ?_
        split at h
        · simp at h
        · rename_i hn
          simp at h; subst h
          refine ⟨.iface t (a.eval x), fun w => ?_, _, rfl, hp⟩
          simp only [Instr.makeInterface, Sem.run_bind, ti.run_und, Result.andThen_ok]
          cases hd : i.desc <;> first | rfl | exact absurd hd (hn _)
  | build t parts =>
    simp only [pureOp] at h
    split at h
    · simp at h
    · rename_i ps hp
      have := opparts_ok he hp
      refine fin _ rfl (build_ok hX h ?_)
      simpa using this
  | slice t x lo hi mx =>
    simp only [pureOp] at h
    split at h
    · simp at h
    · rename_i p hp
      have hp := opd_ok he hp
      split at h
      · simp at h
      · rename_i lo' hlo
        split at h
        · simp at h
        · rename_i hi' hhi
          split at h
          · simp at h
          · rename_i mx' hmx
            split at h
            · simp at h
            · rename_i i hi0
              have ti := hX.ti _ _ hi0
              have hlo := optOpd_rel he hlo
              have hhi := optOpd_rel he hhi
              have hmx := optOpd_rel he hmx
              split at h
              · rename_i hd
                split at h
                · rename_i q s
                  obtain ⟨z, h1, h2⟩ := slice_ok hX h hp hlo hhi hmx (.inl (by rw [ti.und, hd])) (.inr (by rw [ti.und, hd])) (.inl ⟨_, rfl⟩)
                  refine fin _ rfl ⟨z, fun w => ?_, h2⟩
                  simp only [Instr.sliceAt, Sem.run_bind, ti.run_und, hd, Result.andThen_ok]
                  exact h1 w
                · simp at h
              · rename_i el hd
                split at h
                · simp at h
                · rename_i ei hei
                  split at h
                  · simp at h
                  · rename_i hns
                    obtain ⟨z, h1, h2⟩ := slice_ok hX h hp hlo hhi hmx (.inr ⟨el, by rw [ti.und, hd], ei, hei⟩) (.inl hns) (.inr (by rw [ti.und, hd]; simp))
                    refine fin _ rfl ⟨z, fun w => ?_, h2⟩
                    simp only [Instr.sliceAt, Sem.run_bind, ti.run_und, hd, Result.andThen_ok]
                    exact h1 w
              · simp at h
  | fieldAddr s x f =>
    simp only [pureOp] at h
    split at h
    · rename_i b o hp
      have hp := opd_ok he hp
      split at h
      · simp at h
      · rename_i i hi
        have ti := hX.ti _ _ hi
        split at h
        · rename_i fs hd
          split at h
          · simp at h
          · rename_i fd hf
            split at h
            · simp at h
            · rename_i fi hfi
              have tf := hX.ti _ _ hfi
              rw [nbeq, cond_dec] at h
              split at h
              · simp at h
              · rename_i hz
                simp at h; subst h
                simp only [vrel] at hp
                obtain ⟨l, h1, h2⟩ := hp
                have hf' : fs[f]? = some fd := by simpa using hf
                refine fin _ rfl ⟨.pointer (some ⟨l.blk, l.base + (o + fd.offset), none⟩), fun w => ?_, l, h1, rfl⟩
                simp [Instr.fieldAt, underlying, ti.und, hd, hf', h2, Instr.sureAddr, fieldPlace, tf.run_size, hz, add_plain, Nat.add_assoc]
        · simp at h
    · rename_i cs o hp
      have hp := opd_ok he hp
      split at h
      · simp at h
      · rename_i i hi
        have ti := hX.ti _ _ hi
        split at h
        · rename_i fs hd
          split at h
          · simp at h
          · rename_i fd hf
            split at h
            · simp at h
            · rename_i fi hfi
              have tf := hX.ti _ _ hfi
              rw [nbeq, cond_dec] at h
              split at h
              · simp at h
              · rename_i hz
                simp at h; subst h
                simp only [vrel] at hp
                obtain ⟨g, off, c, ty, fz, h2, hro⟩ := hp
                have hf' : fs[f]? = some fd := by simpa using hf
                refine fin _ rfl ⟨.pointer (some ⟨g, off + (o + fd.offset), none⟩), fun w => ?_, g, off, c, ty, fz, rfl, hro⟩
                simp [Instr.fieldAt, underlying, ti.und, hd, hf', h2, Instr.sureAddr, fieldPlace, tf.run_size, hz, add_plain, Nat.add_assoc]
        · simp at h
    · simp at h
  | field t x f =>
    simp only [pureOp] at h
    split at h
    · rename_i cs hp
      have hp := opd_ok he hp
      split at h
      · simp at h
      · rename_i i hi
        have ti := hX.ti _ _ hi
        split at h
        · rename_i fs hd
          split at h
          · simp at h
          · rename_i fd hf
            simp only [vrel] at hp
            obtain ⟨xs, h1, h2⟩ := hp
            have hf' : fs[f]? = some fd := by simpa using hf
            obtain ⟨z, k1, k2⟩ := run_part hX h2 h
            refine fin _ rfl ⟨z, fun w => ?_, k2⟩
            simp [Instr.field, underlying, ti.und, hd, hf', h1, asAgg, k1]
        · simp at h
    · simp at h
  | indexAddr t x ix =>
    simp only [pureOp] at h
    split at h
    · rename_i k i hix
      have hix := opd_ok he hix
      split at h
      · rename_i b o len cap hp
        have hp := opd_ok he hp
        split at h
        · simp at h
        · rename_i ti0 hti
          have ti := hX.ti _ _ hti
          split at h
          · rename_i el hd
            split at h
            · simp at h
            · rename_i ei hei
              have te := hX.ti _ _ hei
              rw [nblt, cond_dec] at h
              split at h
              · rename_i hlt
                simp at h; subst h
                simp only [vrel] at hp hix
                obtain ⟨l, c, h1, h2, _⟩ := hp
                refine fin _ rfl ⟨.pointer (some ⟨l.blk, l.base + (o + i * ei.size), none⟩), fun w => ?_, l, h1, rfl⟩
                simp [Instr.indexAt, hix, asIntOf, underlying, ti.und, hd, h2, te.run_size, hlt, add_plain, Nat.add_assoc]
              · simp at h
          · simp at h
      · rename_i cs len sz hp
        have hp := opd_ok he hp
        split at h
        · simp at h
        · rename_i ti0 hti
          have ti := hX.ti _ _ hti
          split at h
          · rename_i el hd
            split at h
            · simp at h
            · rename_i ei hei
              have te := hX.ti _ _ hei
              rw [nblt, nbeq, ← Bool.decide_and, cond_dec] at h
              split at h
              · rename_i hlt0
                obtain ⟨hlt, hsz⟩ := hlt0
                simp at h; subst h
                simp only [vrel] at hp hix
                obtain ⟨g, off, c, ca, ty, fz, h2, _, _, hro⟩ := hp
                refine fin _ rfl ⟨.pointer (some ⟨g, off + i * ei.size, none⟩), fun w => ?_, g, off, ca, ty, fz, rfl, hro⟩
                simp [Instr.indexAt, hix, asIntOf, underlying, ti.und, hd, h2, te.run_size, hlt, add_plain]
              · simp at h
          · simp at h
      · simp at h
    · simp at h
  | index t x ix =>
    simp only [pureOp] at h
    split at h
    · rename_i k i hix
      have hix := opd_ok he hix
      split at h
      · rename_i s hp
        have hp := opd_ok he hp
        split at h
        · simp at h
        · rename_i ti0 hti
          have ti := hX.ti _ _ hti
          split at h
          · rename_i hd
            split at h
            · rename_i c hc
              simp at h; subst h
              simp only [vrel] at hp hix
              obtain ⟨b, h1, rfl⟩ := hp
              rw [bytes_get] at hc
              simp only [Option.map_eq_some_iff] at hc
              obtain ⟨x, hx, rfl⟩ := hc
              refine fin _ rfl ⟨.int .u8 (x.toNat : Int), fun w => ?_, rfl⟩
              simp [Instr.index, hix, asIntOf, underlying, ti.und, hd, h1, hx]
            · simp at h
          · simp at h
      · simp at h
    · simp at h
  | extract x ix =>
    simp only [pureOp] at h
    split at h
    · rename_i vs hp
      have hp := opd_ok he hp
      simp only [vrel] at hp
      obtain ⟨xs, h1, h2⟩ := hp
      obtain ⟨u, hu, k⟩ := vrels_get h2 ix v h
      have hu' : xs[ix]? = some u := by simpa using hu
      exact fin _ rfl ⟨u, fun w => by simp [Instr.extract, h1, hu'], k⟩
    · simp at h
  | call c =>
    obtain ⟨cal, args, tys⟩ := c
    cases cal with
    | value f => simp [pureOp] at h
    | invoke r m => simp [pureOp] at h
    | builtin b =>
      have args1 : ∀ {x : Operand}, args.toList = [x] → args.map a.eval = #[a.eval x] := by
        intro x hx
        have : args = #[x] := by apply Array.toList_inj.1; simpa using hx
        subst this; simp
      have args2 : ∀ {x y : Operand}, args.toList = [x, y] → args.map a.eval = #[a.eval x, a.eval y] := by
        intro x y hx
        have : args = #[x, y] := by apply Array.toList_inj.1; simpa using hx
        subst this; simp
      have tys1 : ∀ {t : Nat} {ts : List Nat}, tys.toList = t :: ts → tys[0]? = some t := by
        intro t ts ht
        rw [← Array.getElem?_toList, ht]; rfl
      cases b with
      | len =>
        simp only [pureOp] at h
        split at h
        · rename_i x hx
          split at h
          · rename_i t ts ht
            split at h
            · simp at h
            · rename_i i hi
              have ti := hX.ti _ _ hi
              refine fin (Builtin.len_ tys type (args.map a.eval)) rfl ?_
              split at h
              · rename_i hd hp
                simp at h; subst h
                have hp := opd_ok he hp
                simp only [vrel] at hp
                obtain ⟨b, hb, rfl⟩ := hp
                exact ⟨_, fun w => by simp [Builtin.len_, args1 hx, tys1 ht, underlying, ti.und, hd, hb, goInt]; rfl, by simp [vrel, bytes_length]⟩
              · rename_i hd hp
                simp at h; subst h
                have hp := opd_ok he hp
                simp only [vrel] at hp
                obtain ⟨l, c, _, hb, _⟩ := hp
                exact ⟨_, fun w => by simp [Builtin.len_, args1 hx, tys1 ht, underlying, ti.und, hd, hb, goInt]; rfl, by simp [vrel]⟩
              · rename_i hd hp
                simp at h; subst h
                have hp := opd_ok he hp
                simp only [vrel] at hp
                obtain ⟨_, _, _, _, _, _, hb, _⟩ := hp
                exact ⟨_, fun w => by simp [Builtin.len_, args1 hx, tys1 ht, underlying, ti.und, hd, hb, goInt]; rfl, by simp [vrel]⟩
              · rename_i hd hp
                simp at h; subst h
                have hp := opd_ok he hp
                simp only [vrel] at hp
                exact ⟨_, fun w => by simp [Builtin.len_, args1 hx, tys1 ht, underlying, ti.und, hd, hp, goInt]; rfl, by simp [vrel]⟩
              · rename_i hd hp
                simp at h; subst h
                have hp := opd_ok he hp
                simp only [vrel] at hp
                obtain ⟨l, c, hb⟩ := hp
                exact ⟨_, fun w => by simp [Builtin.len_, args1 hx, tys1 ht, underlying, ti.und, hd, hb, goInt]; rfl, by simp [vrel]⟩
              · rename_i hd hp
                simp at h; subst h
                have hp := opd_ok he hp
                simp only [vrel] at hp
                exact ⟨_, fun w => by simp [Builtin.len_, args1 hx, tys1 ht, underlying, ti.und, hd, hp, goInt]; rfl, by simp [vrel]⟩
              · simp at h
          · simp at h
        · simp at h
      | cap =>
        simp only [pureOp] at h
        split at h
        · rename_i x hx
          split at h
          · rename_i t ts ht
            split at h
            · simp at h
            · rename_i i hi
              have ti := hX.ti _ _ hi
              refine fin (Builtin.cap_ tys type (args.map a.eval)) rfl ?_
              split at h
              · rename_i hd hp
                simp at h; subst h
                have hp := opd_ok he hp
                simp only [vrel, capOk] at hp
                obtain ⟨l, c, _, hb, rfl, _⟩ := hp
                exact ⟨_, fun w => by simp [Builtin.cap_, args1 hx, tys1 ht, underlying, ti.und, hd, hb, goInt]; rfl, by simp [vrel]⟩
              · rename_i hd hp
                simp at h; subst h
                have hp := opd_ok he hp
                simp only [vrel] at hp
                exact ⟨_, fun w => by simp [Builtin.cap_, args1 hx, tys1 ht, underlying, ti.und, hd, hp, goInt]; rfl, by simp [vrel]⟩
              · simp at h
          · simp at h
        · simp at h
      | min =>
        simp only [pureOp] at h
        split at h
        · rename_i x y hx
          refine fin (Builtin.min_ tys type (args.map a.eval)) rfl ?_
          split at h
          · rename_i hp hq
            simp at h; subst h
            have hp := opd_ok he hp
            have hq := opd_ok he hq
            simp only [vrel] at hp hq
            refine ⟨_, fun w => by simp [Builtin.min_, args2 hx, hp, hq, Builtin.min2]; rfl, ?_⟩
            simp only [vrel, ilt_eq, cond_dec]
          · simp at h
        · simp at h
      | max =>
        simp only [pureOp] at h
        split at h
        · rename_i x y hx
          refine fin (Builtin.max_ tys type (args.map a.eval)) rfl ?_
          split at h
          · rename_i hp hq
            simp at h; subst h
            have hp := opd_ok he hp
            have hq := opd_ok he hq
            simp only [vrel] at hp hq
            refine ⟨_, fun w => by simp [Builtin.max_, args2 hx, hp, hq, Builtin.max2]; rfl, ?_⟩
            simp only [vrel, ilt_eq, cond_dec]
          · simp at h
        · simp at h
      | _ => simp [pureOp] at h
  | _ => simp [pureOp] at h
end
end GX
