/- GX: the operations that write memory: copy, maps, iterators; all of them. -/
import Derived.Test.YtnlfcoojlgdgaaaDoorGXLoud
namespace GX
open Go
section
variable {P : Program} {X : X} {φ : Phi} {w : World} {H : Tr AB}

theorem St.eta (S : St) : ({ h := S.h, n := S.n } : St) = S := by cases S; rfl
theorem copy_ok [Val] (hX : XOK P X) {S S' : St} (hw : wrel φ S.h w) {t ty : Nat} {ts : List TypeId} {d x r : AV} {ud ux : Value} (hd : vrel φ d ud) (hx : vrel φ x ux) (h : acopy X S t d x = some (r, S')) :
    Wrote P φ S w r S' (Builtin.copy_ (t :: ts).toArray ty #[ud, ux]) := by
  unfold acopy at h
  split at h
  · simp at h
  · rename_i i hi
    have ti := hX.ti _ _ hi
    split at h
    · rename_i el hdt
      split at h
      · simp at h
      · rename_i ei hei
        have te := hX.ti _ _ hei
        split at h
        · simp at h
        · rename_i m hm
          have hlenOf : (Builtin.lenOf ux).run P w = .ok m w := by
            cases x <;> simp [srcLen] at hm <;> subst hm <;> simp only [vrel] at hx
            · obtain ⟨b, rfl, rfl⟩ := hx; simp [Builtin.lenOf, bytes_length]
            · obtain ⟨L, c, _, rfl, _⟩ := hx; rfl
            · obtain ⟨a, c, rfl⟩ := hx; rfl
            · subst hx; rfl
            · obtain ⟨_, _, _, _, _, _, rfl, _⟩ := hx; rfl
          split at h
          · simp at h; obtain ⟨rfl, rfl⟩ := h
            simp only [vrel] at hd; subst hd
            have hf : (Builtin.firstCells ei.size 0 ux).run P w = .ok #[] w := by
              cases x <;> simp [srcLen] at hm <;> simp only [vrel] at hx
              · obtain ⟨b, rfl, rfl⟩ := hx; simp [Builtin.firstCells]
              · obtain ⟨L, c, _, rfl, _⟩ := hx; simp [Builtin.firstCells, loadCells, loadCellsFrom]
              · obtain ⟨a, c, rfl⟩ := hx; simp [Builtin.firstCells, loadCells, loadCellsFrom]
              · subst hx; rfl
              · obtain ⟨_, _, _, _, _, _, rfl, _⟩ := hx; simp [Builtin.firstCells, loadCells, loadCellsFrom]
            refine ⟨.int .i64 0, w, φ, ?_, by simp [vrel], hw, Ext.refl _ _ _ _⟩
            simp [Builtin.copy_, underlying, ti.und, hdt, hlenOf, te.run_size, hf, goInt]
          · simp at h; obtain ⟨rfl, rfl⟩ := h
            simp only [vrel] at hd; obtain ⟨ad, cd, rfl⟩ := hd
            have hf : (Builtin.firstCells ei.size 0 ux).run P w = .ok #[] w := by
              cases x <;> simp [srcLen] at hm <;> simp only [vrel] at hx
              · obtain ⟨b, rfl, rfl⟩ := hx; simp [Builtin.firstCells]
              · obtain ⟨L, c, _, rfl, _⟩ := hx; simp [Builtin.firstCells, loadCells, loadCellsFrom]
              · obtain ⟨a, c, rfl⟩ := hx; simp [Builtin.firstCells, loadCells, loadCellsFrom]
              · subst hx; rfl
              · obtain ⟨_, _, _, _, _, _, rfl, _⟩ := hx; simp [Builtin.firstCells, loadCells, loadCellsFrom]
            refine ⟨.int .i64 0, w, φ, ?_, by simp [vrel], hw, Ext.refl _ _ _ _⟩
            simp [Builtin.copy_, underlying, ti.und, hdt, hlenOf, te.run_size, hf, goInt, storeCells]
          · rename_i b o dl cap
            simp only [vrel] at hd
            obtain ⟨L, c, hL, rfl, _⟩ := hd
            have hn : (bif Nat.ble m dl then m else dl) = Nat.min m dl := by
              rw [nble, cond_dec]; split
              · rename_i q; exact (Nat.min_eq_left q).symm
              · rename_i q; exact (Nat.min_eq_right (by omega)).symm
            simp only [hn] at h
            split at h
            · simp at h
            · rename_i cs hsrc
              split at h
              · simp at h
              · rename_i S1 hst
                simp at h; obtain ⟨rfl, rfl⟩ := h
                obtain ⟨_, us, l2, l3, l4⟩ := src_ok (P := P) hw hx hm (Nat.min_le_left _ _) hsrc
                obtain ⟨w', r1, r2, r3, r4⟩ := storeAt_ok (P := P) hw hst hL l3
                refine ⟨.int .i64 (Nat.min m dl : Nat), w', φ, ?_, by simp [vrel], r2, r3⟩
                simp [Builtin.copy_, underlying, ti.und, hdt, hlenOf, te.run_size, l2, goInt, r1]
          · simp at h
    · simp at h

/-! maps -/
theorem afind_some : ∀ {es : List (AV × AV × Nat)} {t : Nat} {k : AV} {i j : Nat} {v : AV}, afind X t k es i = some (some (j, v)) → i ≤ j ∧ ∃ k' b, es[j - i]? = some (k', v, b)
  | [], _, _, _, _, _, h => by simp [afind] at h
  | (k', x, b) :: es, t, k, i, j, v, h => by
    simp only [afind] at h
    split at h
    · simp at h; obtain ⟨rfl, rfl⟩ := h; exact ⟨Nat.le_refl _, k', b, by simp⟩
    · obtain ⟨h1, k2, b2, h2⟩ := afind_some h
      refine ⟨by omega, k2, b2, ?_⟩
      rw [show j - i = (j - (i + 1)) + 1 by omega]
      simpa using h2
    · simp at h
theorem mrel_get [Val] : ∀ {es : List (AV × AV × Nat)} {l : List MapEntry} {i : Nat} {k v : AV} {b : Nat}, mrel φ es l → es[i]? = some (k, v, b) → ∃ e, l[i]? = some e ∧ vrel φ k e.key ∧ vrel φ v e.val ∧ e.born = b
  | [], _, _, _, _, _, _, h => by simp at h
  | (k', x, b') :: es, l, 0, k, v, b, hr, h => by
    simp only [mrel] at hr
    obtain ⟨e, l', rfl, h1, h2, h3, h4⟩ := hr
    simp at h; obtain ⟨rfl, rfl, rfl⟩ := h
    exact ⟨e, by simp, h1, h2, h3⟩
  | (k', x, b') :: es, l, i + 1, k, v, b, hr, h => by
    simp only [mrel] at hr
    obtain ⟨e, l', rfl, h1, h2, h3, h4⟩ := hr
    simp at h
    simpa using mrel_get h4 h
theorem mrel_put [Val] : ∀ {es : List (AV × AV × Nat)} {l : List MapEntry} {i : Nat} {k v : AV} {uk uv : Value}, mrel φ es l → vrel φ k uk → vrel φ v uv → mrel φ (mput es i k v) (l.modify i fun e => { e with key := uk, val := uv })
  | [], l, i, _, _, _, _, hr, _, _ => by simp only [mrel] at hr; subst hr; simp [mput, mrel]
  | (k', x, b') :: es, l, 0, k, v, uk, uv, hr, hk, hv => by
    simp only [mrel] at hr
    obtain ⟨e, l', rfl, h1, h2, h3, h4⟩ := hr
    simp only [mput, mrel]
    exact ⟨{ e with key := uk, val := uv }, l', by simp, hk, hv, h3, h4⟩
  | (k', x, b') :: es, l, i + 1, k, v, uk, uv, hr, hk, hv => by
    simp only [mrel] at hr
    obtain ⟨e, l', rfl, h1, h2, h3, h4⟩ := hr
    simp only [mput, mrel]
    exact ⟨e, _, by simp, h1, h2, h3, mrel_put h4 hk hv⟩
theorem mrel_push [Val] {es : List (AV × AV × Nat)} {l : List MapEntry} {k v : AV} {uk uv : Value} {b : Nat} (hr : mrel φ es l) (hk : vrel φ k uk) (hv : vrel φ v uv) : mrel φ (es ++ [(k, v, b)]) (l ++ [{ key := uk, val := uv, born := b }]) := by
  induction es generalizing l with
  | nil => simp only [mrel] at hr; subst hr; exact ⟨_, _, rfl, hk, hv, rfl, rfl⟩
  | cons e es ih =>
    obtain ⟨k', x, b'⟩ := e
    simp only [mrel] at hr
    obtain ⟨e, l', rfl, h1, h2, h3, h4⟩ := hr
    exact ⟨e, _, rfl, h1, h2, h3, ih h4⟩
theorem ksame1_ok [Val] {a b : AV} {u v : Value} (h : ksame1 a b = true) (ha : vrel φ a u) (hb : vrel φ b v) (d : Nat) : Instr.sameBits d u v = true := by
  unfold ksame1 at h
  split at h
  · simp only [vrel] at ha hb; subst ha; subst hb
    simp only [Bool.and_eq_true, decide_eq_true_eq, ieq_eq] at h
    obtain ⟨rfl, h2⟩ := h
    cases d <;> simp [Instr.sameBits, h2] <;> simpa using h2
  · simp only [vrel] at ha hb
    obtain ⟨x, rfl, rfl⟩ := ha
    obtain ⟨y, rfl, rfl⟩ := hb
    rw [bytes_toList, bytes_toList, seq_map, ← beq_toListBytes] at h
    cases d <;> simpa [Instr.sameBits] using h
  · simp only [vrel] at ha hb; subst ha; subst hb
    cases d <;> simpa [Instr.sameBits] using h
  · simp at h
theorem ksames_ok [Val] : ∀ {as bs : List AV} {us vs : List Value}, ksames as bs = true → vrels φ as us → vrels φ bs vs → ∀ d, us.length = vs.length ∧ (us.zip vs).all (fun (x, y) => Instr.sameBits d x y) = true
  | [], [], us, vs, _, ha, hb, d => by simp only [vrels] at ha hb; subst ha; subst hb; simp
  | [], _ :: _, _, _, h, _, _, _ => by simp [ksames] at h
  | _ :: _, [], _, _, h, _, _, _ => by simp [ksames] at h
  | a :: as, b :: bs, us, vs, h, ha, hb, d => by
    simp only [vrels] at ha hb
    obtain ⟨u, us, rfl, a1, a2⟩ := ha
    obtain ⟨v, vs, rfl, b1, b2⟩ := hb
    simp only [ksames] at h
    cases hk : ksame1 a b with
    | false => simp [hk] at h
    | true =>
      simp only [hk, cond_true] at h
      obtain ⟨h1, h2⟩ := ksames_ok h a2 b2 d
      exact ⟨by simp [h1], by simp [ksame1_ok hk a1 b1 d, h2]⟩
theorem ksame_ok [Val] {a b : AV} {u v : Value} (h : ksame a b = true) (ha : vrel φ a u) (hb : vrel φ b v) (d : Nat) : Instr.sameBits (d + 1) u v = true := by
  unfold ksame at h
  split at h
  · simp only [vrel] at ha hb
    obtain ⟨us, rfl, a1⟩ := ha
    obtain ⟨vs, rfl, b1⟩ := hb
    obtain ⟨h1, h2⟩ := ksames_ok h a1 b1 d
    simp at h1
    simp only [Instr.sameBits, h1, beq_self_eq_true, Bool.true_and]
    exact h2
  · exact ksame1_ok h ha hb _
theorem keyStays [Val] {es : List (AV × AV × Nat)} {l : List MapEntry} {i : Nat} {k : AV} {uk : Value} (h : keyAt es i k = true) (hr : mrel φ es l) (hk : vrel φ k uk) :
    (Instr.keyThatStays (((l[i]?).map (·.key)).getD uk) uk).run P w = .ok uk w := by
  unfold keyAt at h
  split at h
  · rename_i k' v b he
    obtain ⟨e, h1, h2, _⟩ := mrel_get hr he
    rw [h1]
    have := ksame_ok h h2 hk 9999
    simp only [Option.map_some, Option.getD_some, Instr.keyThatStays]
    rw [if_pos this]; rfl
  · simp at h
theorem modify_toList {α : Type} (a : Array α) (i : Nat) (f : α → α) : (a.modify i f).toList = a.toList.modify i f := by simp
theorem update_ok [Val] (hX : XOK P X) {S S' : St} (hw : wrel φ S.h w) {t : Nat} {m k v : AV} {um uk uv : Value} (hm : vrel φ m um) (hk : vrel φ k uk) (hv : vrel φ v uv) (h : aupdate X S t m k v = some S') :
    ∃ w', (Instr.mapUpdate t um uk uv).run P w = .ok () w' ∧ wrel φ S'.h w' ∧ Ext φ S.h S.n w φ S'.h S'.n w' := by
  unfold aupdate at h
  split at h
  · simp at h
  · rename_i i hi
    have ti := hX.ti _ _ hi
    split at h
    · rename_i kt et hd
      split at h
      · rename_i r
        cases hkv : keyVal X 4 kt k with
        | false => simp [hkv] at h
        | true =>
          simp only [hkv, cond_true] at h
          have chk := fun em W => keyVal_ok hX 4 kt k hkv _ hk em 10000 (by omega) W
          simp only [vrel] at hm
          obtain ⟨L, hL, rfl⟩ := hm
          split at h
          · rename_i es clock hg
            obtain ⟨ea, m1, m2⟩ := map_at hw hg hL
            have hgo : (getObj L.blk).run P w = .ok (.map ea clock) w := by simp [getObj, Sem.run, m1]
            have hso : ∀ o, (setObj L.blk o).run P w = .ok () (setBlk w L.blk o) := by intro o; simp [setObj, Sem.run, m1]; rfl
            have cki : ∃ ki, X.ti kt = some ki := by
              unfold keyVal at hkv
              split at hkv
              · simp at hkv
              · rename_i ki hki; exact ⟨ki, hki⟩
            obtain ⟨ki, hki⟩ := cki
            split at h
            · simp at h
            · rename_i j x hf
              cases hka : keyAt es j k with
              | false => simp [hka] at h
              | true =>
                simp only [hka, cond_true] at h
                simp at h; subst h
                obtain ⟨r', f1, f2⟩ := findKey_ok hX hk hki hf m2
                cases r' with
                | none => simp [fres] at f2
                | some y =>
                  obtain ⟨j', yv⟩ := y
                  simp only [fres] at f2
                  obtain ⟨rfl, _⟩ := f2
                  have ks := keyStays (P := P) (w := w) hka m2 hk
                  simp only [Array.getElem?_toList] at ks
                  have hb : brel φ (.map (mput es j k v) clock) L (.map (ea.modify j fun e => { e with key := uk, val := uv }) clock) := ⟨_, rfl, by rw [modify_toList]; exact mrel_put m2 hk hv⟩
                  obtain ⟨r1, r2⟩ := put_ok (n := S.n) hw hg hL hb
                  refine ⟨_, ?_, r1, r2⟩
                  simp only [Instr.mapUpdate, Sem.run_bind, ti.run_und, hd, Result.andThen_ok, hgo, chk, f1, ks, hso]
            · rename_i hf
              simp at h; subst h
              obtain ⟨r', f1, f2⟩ := findKey_ok hX hk hki hf m2
              cases r' with
              | some y => simp [fres] at f2
              | none =>
                have hb : brel φ (.map (es ++ [(k, v, clock)]) (clock + 1)) L (.map (ea.push { key := uk, val := uv, born := clock }) (clock + 1)) := ⟨_, rfl, by simpa using mrel_push m2 hk hv⟩
                obtain ⟨r1, r2⟩ := put_ok (n := S.n) hw hg hL hb
                refine ⟨_, ?_, r1, r2⟩
                simp only [Instr.mapUpdate, Sem.run_bind, ti.run_und, hd, Result.andThen_ok, hgo, chk, f1, hso]
          · simp at h
      · simp at h
    · simp at h
theorem entry_ok [Val] (hX : XOK P X) {S S' : St} (hw : wrel φ S.h w) {t : Nat} {m k r : AV} {um uk : Value} (hm : vrel φ m um) (hk : vrel φ k uk) (h : aentry X S t m k = some (r, S')) :
    Wrote P φ S w r S' (Instr.mapEntry t um uk) := by
  unfold aentry at h
  split at h
  · simp at h
  · rename_i i hi
    have ti := hX.ti _ _ hi
    split at h
    · rename_i kt et hd
      split at h
      · rename_i rr
        cases hkv : keyVal X 4 kt k with
        | false => simp [hkv] at h
        | true =>
          simp only [hkv, cond_true] at h
          have chk := fun em W => keyVal_ok hX 4 kt k hkv _ hk em 10000 (by omega) W
          simp only [vrel] at hm
          obtain ⟨L, hL, rfl⟩ := hm
          split at h
          · rename_i es clock hg
            obtain ⟨ea, m1, m2⟩ := map_at hw hg hL
            have hgo : (getObj L.blk).run P w = .ok (.map ea clock) w := by simp [getObj, Sem.run, m1]
            have hso : ∀ o, (setObj L.blk o).run P w = .ok () (setBlk w L.blk o) := by intro o; simp [setObj, Sem.run, m1]; rfl
            have cki : ∃ ki, X.ti kt = some ki := by
              unfold keyVal at hkv
              split at hkv
              · simp at hkv
              · rename_i ki hki; exact ⟨ki, hki⟩
            obtain ⟨ki, hki⟩ := cki
            split at h
            · simp at h
            · rename_i j x hf
              cases hka : keyAt es j k with
              | false => simp [hka] at h
              | true =>
                simp only [hka, cond_true] at h
                simp at h; obtain ⟨rfl, rfl⟩ := h
                obtain ⟨r', f1, f2⟩ := findKey_ok hX hk hki hf m2
                cases r' with
                | none => simp [fres] at f2
                | some y =>
                  obtain ⟨j', yv⟩ := y
                  simp only [fres] at f2
                  obtain ⟨rfl, f3⟩ := f2
                  have ks := keyStays (P := P) (w := w) hka m2 hk
                  simp only [Array.getElem?_toList] at ks
                  obtain ⟨_, k', b, hes⟩ := afind_some hf
                  simp only [Nat.sub_zero] at hes
                  obtain ⟨e, e1, e2, e3, e4⟩ := mrel_get m2 hes
                  simp only [Array.getElem?_toList] at e1
                  have hst : stampAt es j = b := by simp [stampAt, hes]
                  have hmod : (ea.modify j fun q => { q with key := uk }).toList = ea.toList.modify j fun q => { q with key := uk, val := e.val } := by
                    rw [modify_toList]
                    apply List.ext_getElem?
                    intro q
                    rw [List.getElem?_modify, List.getElem?_modify]
                    by_cases hq : j = q
                    · subst hq; simp [Array.getElem?_toList, e1]
                    · simp [hq]
                  have hb : brel φ (.map (mput es j k x) clock) L (.map (ea.modify j fun e => { e with key := uk }) clock) := ⟨_, rfl, by rw [hmod]; exact mrel_put m2 hk e3⟩
                  obtain ⟨r1, r2⟩ := put_ok (n := S.n) hw hg hL hb
                  refine ⟨.tuple #[yv, goInt b], _, φ, ?_, ⟨_, rfl, vrels_cons f3 (vrels_cons (by simp [vrel, goInt, hst]) vrels_nil)⟩, r1, r2⟩
                  simp only [Instr.mapEntry, Sem.run_bind, ti.run_und, hd, Result.andThen_ok, hgo, chk, f1, ks, hso, Sem.run_pure]
                  simp [e1, e4]
            · rename_i hf
              split at h
              · simp at h
              · rename_i ei hei
                have te := hX.ti _ _ hei
                obtain ⟨r', f1, f2⟩ := findKey_ok hX hk hki hf m2
                cases r' with
                | some y => simp [fres] at f2
                | none =>
                  split at h
                  · simp at h
                  · simp at h
                  · rename_i z hz hn1 hn2
                    simp at h; obtain ⟨rfl, rfl⟩ := h
                    have hzz : (match ei.desc with | .struct _ => some (.agg ei.zero) | .array _ _ => some (.agg ei.zero) | _ => match ei.zero with | [z] => some z | _ => none) = some z := by
                      cases hdd : ei.desc <;> first | exact absurd hdd (hn1 _) | exact absurd hdd (hn2 _ _) | simp [hz]
                    obtain ⟨zu, z1, z2⟩ := zero_rel te hzz
                    have hb : brel φ (.map (es ++ [(k, z, clock)]) (clock + 1)) L (.map (ea.push { key := uk, val := zu, born := clock }) (clock + 1)) := ⟨_, rfl, by simpa using mrel_push m2 hk (z2 φ)⟩
                    obtain ⟨r1, r2⟩ := put_ok (n := S.n) hw hg hL hb
                    refine ⟨.tuple #[zu, goInt clock], _, φ, ?_, ⟨_, rfl, vrels_cons (z2 φ) (vrels_cons (by simp [vrel, goInt]) vrels_nil)⟩, r1, r2⟩
                    simp only [Instr.mapEntry, Sem.run_bind, ti.run_und, hd, Result.andThen_ok, hgo, chk, f1, z1, hso, Sem.run_pure]
                  · simp at h
          · simp at h
      · simp at h
    · simp at h

theorem stamped_ok [Val] : ∀ {es es' : List (AV × AV × Nat)} {l : List MapEntry} {born : Nat} {v : AV} {uv : Value}, stamped es born v = some es' → mrel φ es l → vrel φ v uv →
    ∃ i, l.findIdx? (fun e => (e.born : Int) == (born : Int)) = some i ∧ mrel φ es' (l.modify i fun e => { e with val := uv })
  | [], _, _, _, _, _, h, _, _ => by simp [stamped] at h
  | (k, x, b) :: es, es', l, born, v, uv, h, hr, hv => by
    simp only [mrel] at hr
    obtain ⟨e, l', rfl, h1, h2, h3, h4⟩ := hr
    simp only [stamped, nbeq, cond_dec] at h
    split at h
    · rename_i hb
      simp at h; subst h
      refine ⟨0, by simp [List.findIdx?_cons, h3, hb], ?_⟩
      exact ⟨{ e with val := uv }, l', by simp, h1, hv, h3, h4⟩
    · rename_i hb
      split at h
      · rename_i l2 hl2
        simp at h; subst h
        obtain ⟨i, i1, i2⟩ := stamped_ok hl2 h4 hv
        refine ⟨i + 1, ?_, ?_⟩
        · have : ((e.born : Int) == (born : Int)) = false := by simp [h3]; omega
          simp [List.findIdx?_cons, this, i1]
        · exact ⟨e, _, by simp, h1, h2, h3, i2⟩
      · simp at h
theorem entryStore_ok [Val] {S S' : St} (hw : wrel φ S.h w) {t : Nat} {m st v : AV} {um us uv : Value} (hm : vrel φ m um) (hs : vrel φ st us) (hv : vrel φ v uv) (h : aentryStore S m st v = some S') :
    ∃ w', (Instr.entryStore t um us uv).run P w = .ok () w' ∧ wrel φ S'.h w' ∧ Ext φ S.h S.n w φ S'.h S'.n w' := by
  unfold aentryStore at h
  split at h
  · rename_i r kk born
    split at h
    · rename_i es clock hg
      split at h
      · rename_i es' hes
        simp at h; subst h
        simp only [vrel] at hm hs
        obtain ⟨L, hL, rfl⟩ := hm
        subst hs
        obtain ⟨ea, m1, m2⟩ := map_at hw hg hL
        have hgo : (getObj L.blk).run P w = .ok (.map ea clock) w := by simp [getObj, Sem.run, m1]
        have hso : ∀ o, (setObj L.blk o).run P w = .ok () (setBlk w L.blk o) := by intro o; simp [setObj, Sem.run, m1]; rfl
        obtain ⟨i, i1, i2⟩ := stamped_ok hes m2 hv
        have i1' : ea.findIdx? (fun e => (e.born : Int) == (born : Int)) = some i := by cases ea; simpa using i1
        have hb : brel φ (.map es' clock) L (.map (ea.modify i fun e => { e with val := uv }) clock) := ⟨_, rfl, by rw [modify_toList]; exact i2⟩
        obtain ⟨r1, r2⟩ := put_ok (n := S.n) hw hg hL hb
        refine ⟨_, ?_, r1, r2⟩
        have e0 : Int.ofNat born = (born : Int) := rfl
        simp only [Instr.entryStore, Sem.run_bind, hgo, Result.andThen_ok, asInt, asIntOf, Sem.run_pure, e0, i1', hso]
      · simp at h
    · simp at h
  · simp at h
theorem mrel_erase [Val] : ∀ {es : List (AV × AV × Nat)} {l : List MapEntry} {i : Nat}, mrel φ es l → mrel φ (es.eraseIdx i) (l.eraseIdx i)
  | [], l, i, hr => by simp only [mrel] at hr; subst hr; simp [mrel]
  | (k', x, b') :: es, l, 0, hr => by
    simp only [mrel] at hr
    obtain ⟨e, l', rfl, h1, h2, h3, h4⟩ := hr
    simpa using h4
  | (k', x, b') :: es, l, i + 1, hr => by
    simp only [mrel] at hr
    obtain ⟨e, l', rfl, h1, h2, h3, h4⟩ := hr
    exact ⟨e, _, by simp, h1, h2, h3, mrel_erase h4⟩
theorem delete_ok [Val] (hX : XOK P X) {S S' : St} (hw : wrel φ S.h w) {t ty : Nat} {ts : List TypeId} {m k : AV} {um uk : Value} (hm : vrel φ m um) (hk : vrel φ k uk) (h : adelete X S t m k = some S') :
    Wrote P φ S w (.tup []) S' (Builtin.delete_ (t :: ts).toArray ty #[um, uk]) := by
  unfold adelete at h
  split at h
  · simp at h
  · rename_i i hi
    have ti := hX.ti _ _ hi
    split at h
    · rename_i kt et hd
      split at h
      · rename_i r
        cases hkv : keyVal X 4 kt k with
        | false => simp [hkv] at h
        | true =>
          simp only [hkv, cond_true] at h
          have chk := fun em W => keyVal_ok hX 4 kt k hkv _ hk em 10000 (by omega) W
          simp only [vrel] at hm
          obtain ⟨L, hL, rfl⟩ := hm
          split at h
          · rename_i es clock hg
            obtain ⟨ea, m1, m2⟩ := map_at hw hg hL
            have hgo : (getObj L.blk).run P w = .ok (.map ea clock) w := by simp [getObj, Sem.run, m1]
            have hso : ∀ o, (setObj L.blk o).run P w = .ok () (setBlk w L.blk o) := by intro o; simp [setObj, Sem.run, m1]; rfl
            have cki : ∃ ki, X.ti kt = some ki := by
              unfold keyVal at hkv
              split at hkv
              · simp at hkv
              · rename_i ki hki; exact ⟨ki, hki⟩
            obtain ⟨ki, hki⟩ := cki
            split at h
            · simp at h
            · rename_i j x hf
              simp at h; subst h
              obtain ⟨r', f1, f2⟩ := findKey_ok hX hk hki hf m2
              cases r' with
              | none => simp [fres] at f2
              | some y =>
                obtain ⟨j', yv⟩ := y
                simp only [fres] at f2
                obtain ⟨rfl, _⟩ := f2
                have hb : brel φ (.map (merase es j) clock) L (.map (ea.eraseIdxIfInBounds j) clock) := ⟨_, rfl, by simpa [merase] using mrel_erase m2⟩
                obtain ⟨r1, r2⟩ := put_ok (n := S.n) hw hg hL hb
                refine ⟨.tuple #[], _, φ, ?_, ⟨_, rfl, rfl⟩, r1, r2⟩
                simp [Builtin.delete_, underlying, ti.und, hd, hgo, chk, f1, hso]
            · rename_i hf
              simp at h; subst h
              obtain ⟨r', f1, f2⟩ := findKey_ok hX hk hki hf m2
              cases r' with
              | some y => simp [fres] at f2
              | none =>
                refine ⟨.tuple #[], w, φ, ?_, ⟨_, rfl, rfl⟩, hw, Ext.refl _ _ _ _⟩
                simp [Builtin.delete_, underlying, ti.und, hd, hgo, chk, f1, hso, setBlk_same m1]
          · simp at h
      · simp at h
    · simp at h
theorem next_ok [Val] {S S' : St} (hw : wrel φ S.h w) {ty : Nat} {it r : AV} {ui : Value} (hi : vrel φ it ui) (h : anext S it = some (r, S')) :
    Wrote P φ S w r S' (Instr.next ui true ty) := by
  unfold anext at h
  split at h
  · rename_i rr
    simp only [vrel] at hi
    obtain ⟨L, hL, rfl⟩ := hi
    split at h
    · rename_i s pos hg
      obtain ⟨l, o, h1, h2, h3⟩ := hw.blk rr _ hg
      rw [hL] at h1; cases h1
      simp only [brel] at h3
      obtain ⟨bs, rfl, hbs, hbase⟩ := h3
      have hgo : (getObj L.blk).run P w = .ok (.stringIter bs pos) w := by simp [getObj, Sem.run, h2]
      have hso : ∀ o, (setObj L.blk o).run P w = .ok () (setBlk w L.blk o) := by intro o; simp [setObj, Sem.run, h2]; rfl
      subst hbs
      split at h
      · rename_i hd
        simp at h; obtain ⟨rfl, rfl⟩ := h
        have : ¬ pos < bs.size := by
          rw [← bytes_length]; intro hlt
          have := congrArg List.length hd
          simp at this; omega
        refine ⟨.tuple #[.bool false], w, φ, ?_, ⟨_, rfl, vrels_cons rfl vrels_nil⟩, hw, Ext.refl _ _ _ _⟩
        simp [Instr.next, hbase, hgo, this]
      · rename_i b l' hd
        have hlt : pos < bs.size := by
          rw [← bytes_length]
          have := congrArg List.length hd
          simp at this; omega
        have hdec := decodeR_eq bs pos hlt
        rw [hd] at hdec
        rw [hdec] at h
        simp at h; obtain ⟨rfl, rfl⟩ := h
        have hb : brel φ (.sit (bytes bs) (pos + (Utf8.decode bs pos).2)) L (.stringIter bs (pos + (Utf8.decode bs pos).2)) := ⟨bs, rfl, rfl, hbase⟩
        obtain ⟨r1, r2⟩ := put_ok (n := S.n) hw hg hL hb
        refine ⟨.tuple #[.bool true, goInt pos, .int .i32 (Utf8.decode bs pos).1], _, φ, ?_, ⟨_, rfl, vrels_cons rfl (vrels_cons (by simp [vrel, goInt]) (vrels_cons (by simp [vrel]) vrels_nil))⟩, r1, r2⟩
        simp [Instr.next, hbase, hgo, hlt, hso]
    · simp at h
  · simp at h

/-- the result of an operation that is no call -/
def VOk (r : Next) (u : Value) : Prop := r = .value u ∨ (r = .skip ∧ u = undef)
theorem isBytes_ok [Val] (hX : XOK P X) {s : Nat} (h : isBytes X s = true) : ∃ el, P.underlying s = some (.slice el) ∧ P.underlying el = some (.int .u8) := by
  unfold isBytes at h
  split at h
  · simp at h
  · rename_i i hi
    split at h
    · rename_i el hd
      split at h
      · simp at h
      · rename_i ei hei
        split at h
        · rename_i k hk
          have hk8 : k = .u8 := by simpa using h
          subst hk8
          exact ⟨el, by rw [(hX.ti _ _ hi).und, hd], by rw [(hX.ti _ _ hei).und, hk]⟩
        · simp at h
    · simp at h
/-- a mark behind the end of a block -/
theorem mark_ok [Val] {S : St} (hw : wrel φ S.h w) {b o n : Nat} {c : Cap} {u : Value} (hp : vrel φ (.slice b o n c) u) {t : Nat} {cs : List AV} {sp : Bool} (hg : S.h.get b = some (.cells t cs sp)) {s el : Nat} (h1 : P.underlying s = some (.slice el)) (h2 : P.underlying el = some (.int .u8)) :
    Wrote P φ S w (.slice b o n c) (S.put b (.cells t cs true)) (Go.convert s s u) := by
  have hp' := hp
  simp only [vrel] at hp
  obtain ⟨L, k, hL, rfl, _⟩ := hp
  obtain ⟨cc, fz, a1, a2, a3, a4, a5, a6⟩ := cells_at hw hg hL
  have hfz : ∃ fz', w.freeze ⟨L.blk, cc.size, none⟩ 1 = setBlk w L.blk (.cells cc t fz') ∧ ∀ i, i < cc.size → free fz' i := by
    obtain ⟨lo, hi⟩ := fz
    refine ⟨if lo == hi then (cc.size, cc.size + 1) else (min lo cc.size, max hi (cc.size + 1)), ?_, ?_⟩
    · have hlt : L.blk < w.heap.size := (Array.getElem?_eq_some_iff.1 a1).1
      have hget : w.heap[L.blk] = .cells cc t (lo, hi) := (Array.getElem?_eq_some_iff.1 a1).2
      have key : ∀ (g : Obj → Obj), w.heap.modify L.blk g = w.heap.setIfInBounds L.blk (g w.heap[L.blk]) := by
        intro g
        apply Array.ext
        · simp
        · intro i h3 h4
          simp only [Array.getElem_modify]
          split
          · rename_i hi'; subst hi'; exact (Array.getElem_setIfInBounds_self ..).symm
          · rename_i hi'; exact (Array.getElem_setIfInBounds_ne _ hi').symm
      simp only [World.freeze, setBlk, Nat.one_ne_zero, if_false, key, hget]
    · intro i hi'
      have := a2 i hi'
      unfold free at this ⊢
      by_cases he : lo = hi
      · simp [he]; omega
      · simp [he]; simp at this; omega
  obtain ⟨fz', hf, hfree⟩ := hfz
  have hb : brel φ (.cells t cs true) L (.cells cc t fz') := ⟨cc, fz', rfl, hfree, a3, a4, (fun h => by cases h), a6⟩
  obtain ⟨r1, r2⟩ := put_ok (n := S.n) hw hg hL hb
  refine ⟨_, setBlk w L.blk (.cells cc t fz'), φ, ?_, hp', r1, r2⟩
  have hsh : w.shape? L.blk = some (t, cc.size) := by simp [World.shape?, a1]
  rw [← hf]
  simp [Go.convert, underlying, h1, h2, markStringish, hsh]
theorem loud_ok [Val] (hX : XOK P X) {S S' : St} (hw : wrel φ S.h w) {n : Nat} {e : Env} {a : Act} (he : erel φ n e a.tmps) {o : Oper} {v : AV} (h : loudOp X e S o.op = some (v, S')) (fr : ∀ id, S.n ≤ id → id < S'.n → φ id = none) :
    ∃ r u w' φ', (execOp a.eval o).run P w = .ok r w' ∧ VOk r u ∧ vrel φ' v u ∧ wrel φ' S'.h w' ∧ Ext φ S.h S.n w φ' S'.h S'.n w' := by
  obtain ⟨dst, op, type, pos, after, guard⟩ := o
  dsimp only at h
  have fin : ∀ (s : Sem Value) (hs : execOp a.eval ⟨dst, op, type, pos, after, guard⟩ = (do pure (.value (← s)))), Wrote P φ S w v S' s →
      ∃ r u w' φ', (execOp a.eval ⟨dst, op, type, pos, after, guard⟩).run P w = .ok r w' ∧ VOk r u ∧ vrel φ' v u ∧ wrel φ' S'.h w' ∧ Ext φ S.h S.n w φ' S'.h S'.n w' := by
    intro s hs ⟨z, w', φ', h1, h2, h3, h4⟩
    exact ⟨_, z, w', φ', by rw [hs]; simp [h1], .inl rfl, h2, h3, h4⟩
  have finU : ∀ (s : Sem Unit) (hs : execOp a.eval ⟨dst, op, type, pos, after, guard⟩ = (do s; pure .skip)), v = .tup [] → (∃ w', s.run P w = .ok () w' ∧ wrel φ S'.h w' ∧ Ext φ S.h S.n w φ S'.h S'.n w') →
      ∃ r u w' φ', (execOp a.eval ⟨dst, op, type, pos, after, guard⟩).run P w = .ok r w' ∧ VOk r u ∧ vrel φ' v u ∧ wrel φ' S'.h w' ∧ Ext φ S.h S.n w φ' S'.h S'.n w' := by
    intro s hs hv ⟨w', h1, h2, h3⟩
    subst hv
    exact ⟨_, undef, w', φ, by rw [hs]; simp only [Sem.run_bind, h1, Result.andThen_ok, Sem.run_pure], .inr ⟨rfl, rfl⟩, vrel_undef φ, h2, h3⟩
  cases op with
  | store t x y =>
    simp only [loudOp] at h
    split at h
    · rename_i b o hp
      have hp := opd_ok he hp
      split at h
      · simp at h
      · rename_i q hq
        have hq := opd_ok he hq
        split at h
        · simp at h
        · rename_i i hi
          have ti := hX.ti _ _ hi
          rw [nbeq, cond_dec] at h
          split at h
          · rename_i hlen
            split at h
            · simp at h
            · rename_i S1 hst
              simp at h; obtain ⟨rfl, rfl⟩ := h
              simp only [vrel] at hp
              obtain ⟨L, hL, h2⟩ := hp
              obtain ⟨w', r1, r2, r3, r4⟩ := storeAt_ok (P := P) hw hst hL (vrel_cells hq)
              refine finU (Instr.storeAt t (a.eval x) (a.eval y)) rfl rfl ⟨w', ?_, r2, r3⟩
              have hl2 := vrels_length (vrel_cells hq)
              have hne : ¬ (a.eval y).cells.size ≠ i.size := by simp at hl2; omega
              simp only [Instr.storeAt, h2, Instr.sureAddr, Sem.run_bind, Sem.run_pure, Result.andThen_ok, storeVar, ti.run_size, hne, if_false]
              exact r1
          · simp at h
    · simp at h
  | convert s d x =>
    simp only [loudOp] at h
    split at h
    · rename_i b o n c hx
      cases hc : (Nat.beq s d && isBytes X s) with
      | false => rw [hc] at h; simp at h
      | true =>
        rw [hc] at h
        simp only [cond_true] at h
        simp only [Bool.and_eq_true] at hc
        obtain rfl := Nat.eq_of_beq_eq_true hc.1
        obtain ⟨el, h1, h2⟩ := isBytes_ok hX hc.2
        split at h
        · rename_i t cs sp hg
          simp only [Option.some.injEq, Prod.mk.injEq] at h
          obtain ⟨rfl, rfl⟩ := h
          exact fin (Go.convert s s (a.eval x)) rfl (mark_ok hw (opd_ok he hx) hg h1 h2)
        · simp at h
    · simp at h
  | mapUpdate t m k y =>
    simp only [loudOp] at h
    split at h
    · rename_i m' k' y' hm hk hy
      split at h
      · simp at h
      · rename_i S1 hs
        simp at h; obtain ⟨rfl, rfl⟩ := h
        exact finU (Instr.mapUpdate t (a.eval m) (a.eval k) (a.eval y)) rfl rfl (update_ok hX hw (opd_ok he hm) (opd_ok he hk) (opd_ok he hy) hs)
    · simp at h
  | insert t m k y =>
    simp only [loudOp] at h
    split at h
    · rename_i m' k' y' hm hk hy
      split at h
      · simp at h
      · rename_i S1 hs
        simp at h; obtain ⟨rfl, rfl⟩ := h
        exact finU (Instr.mapUpdate t (a.eval m) (a.eval k) (a.eval y)) rfl rfl (update_ok hX hw (opd_ok he hm) (opd_ok he hk) (opd_ok he hy) hs)
    · simp at h
  | mapEntry t m k =>
    simp only [loudOp] at h
    split at h
    · rename_i m' k' hm hk
      exact fin (Instr.mapEntry t (a.eval m) (a.eval k)) rfl (entry_ok hX hw (opd_ok he hm) (opd_ok he hk) h)
    · simp at h
  | entryStore t m s y =>
    simp only [loudOp] at h
    split at h
    · rename_i m' s' y' hm hs hy
      split at h
      · simp at h
      · rename_i S1 hst
        simp at h; obtain ⟨rfl, rfl⟩ := h
        exact finU (Instr.entryStore t (a.eval m) (a.eval s) (a.eval y)) rfl rfl (entryStore_ok hw (opd_ok he hm) (opd_ok he hs) (opd_ok he hy) hst)
    · simp at h
  | next it str =>
    simp only [loudOp] at h
    cases str with
    | false => simp at h
    | true =>
      simp only [cond_true] at h
      split at h
      · simp at h
      · rename_i i hi
        exact fin (Instr.next (a.eval it) true type) rfl (next_ok hw (opd_ok he hi) h)
  | call c =>
    obtain ⟨cal, args, tys⟩ := c
    cases cal with
    | value f => simp [loudOp] at h
    | invoke r m => simp [loudOp] at h
    | builtin b =>
      have args2 : ∀ {x y : Operand}, args.toList = [x, y] → args.map a.eval = #[a.eval x, a.eval y] := by
        intro x y hx
        have : args = #[x, y] := by apply Array.toList_inj.1; simpa using hx
        subst this; simp
      cases b with
      | append =>
        simp only [loudOp] at h
        split at h
        · rename_i s x t t' ts hargs htys
          split at h
          · simp at h
          · rename_i i' hi'
            have ti' := hX.ti _ _ hi'
            split at h
            · simp at h
            · rename_i hnint
              split at h
              · rename_i s' x' hs hx
                refine fin (Builtin.append_ tys type (args.map a.eval)) rfl ?_
                have ht : tys = (t :: t' :: ts).toArray := by apply Array.toList_inj.1; simpa using htys
                rw [args2 hargs, ht]
                exact append_ok hX hw ti'.und hnint (opd_ok he hs) (opd_ok he hx) h fr
              · simp at h
        · simp at h
      | copy =>
        simp only [loudOp] at h
        split at h
        · rename_i s x t ts hargs htys
          split at h
          · rename_i s' x' hs hx
            refine fin (Builtin.copy_ tys type (args.map a.eval)) rfl ?_
            have ht : tys = (t :: ts).toArray := by apply Array.toList_inj.1; simpa using htys
            rw [args2 hargs, ht]
            exact copy_ok hX hw (opd_ok he hs) (opd_ok he hx) h
          · simp at h
        · simp at h
      | delete =>
        simp only [loudOp] at h
        split at h
        · rename_i m k t ts hargs htys
          split at h
          · rename_i m' k' hm hk
            split at h
            · simp at h
            · rename_i S1 hst
              simp at h; obtain ⟨rfl, rfl⟩ := h
              refine fin (Builtin.delete_ tys type (args.map a.eval)) rfl ?_
              have ht : tys = (t :: ts).toArray := by apply Array.toList_inj.1; simpa using htys
              rw [args2 hargs, ht]
              exact delete_ok hX hw (opd_ok he hm) (opd_ok he hk) hst
          · simp at h
        · simp at h
      | _ => simp [loudOp] at h
  | _ => simp [loudOp] at h
end
end GX
