/- GX: the operations that only read memory. -/
import Derived.Test.YtnlfcoojlgdgaaaDoorGXPure4
import Derived.Laws.BytesString
import Derived.Laws.Cover4
import Derived.LaidEqlPtr
import Derived.DeepKeys3
namespace GX
open Go
section
variable {P : Program} {X : X} {φ : Phi} {H : Tr AB} {w : World}

theorem cells_at [Val] (hw : wrel φ H w) {b : Nat} {t : TypeId} {cs : List AV} {sp : Bool} (hg : H.get b = some (.cells t cs sp)) {L : Loc} (hL : φ b = some L) :
    ∃ c fz, w.heap[L.blk]? = some (.cells c t fz) ∧ (∀ i, i < c.size → free fz i) ∧ L.tot = c.size ∧
      L.base + cs.length ≤ c.size ∧ (sp = false → L.base + cs.length = c.size ∧ ∀ i, ¬ (fz.1 ≤ i ∧ i < fz.2)) ∧ vrels φ cs ((c.toList.drop L.base).take cs.length) := by
  obtain ⟨l, o, h1, h2, h3⟩ := hw.blk b _ hg
  rw [hL] at h1; cases h1
  simp only [brel] at h3
  obtain ⟨c, fz, rfl, a⟩ := h3
  exact ⟨c, fz, h2, a⟩
theorem has_loc [Val] (hw : wrel φ H w) {b : Nat} {x : AB} (hg : H.get b = some x) : ∃ L, φ b = some L := by
  obtain ⟨l, o, h1, _⟩ := hw.blk b _ hg; exact ⟨l, h1⟩
theorem cell_ok [Val] (hw : wrel φ H w) {b : Nat} {t : TypeId} {cs : List AV} {sp : Bool} (hg : H.get b = some (.cells t cs sp)) {L : Loc} (hL : φ b = some L) {i : Nat} {a : AV} (hi : cs[i]? = some a) :
    ∃ u, w.cell? ⟨L.blk, L.base + i, none⟩ = some u ∧ vrel φ a u := by
  obtain ⟨c, fz, h1, h2, h3, h4, h5, h6⟩ := cells_at hw hg hL
  obtain ⟨u, hu, hv⟩ := vrels_get h6 i a hi
  have hlt : i < cs.length := (List.getElem?_eq_some_iff.1 hi).1
  rw [List.getElem?_take, if_pos hlt, List.getElem?_drop] at hu
  refine ⟨u, ?_, hv⟩
  simp only [World.cell?, h1]
  simpa using hu
theorem row_ok [Val] (hw : wrel φ H w) {b o n : Nat} {r : List AV} (h : row H b o n = some r) {L : Loc} (hL : φ b = some L) :
    ∃ us : List Value, us.length = n ∧ vrels φ r us ∧ ∀ j u, us[j]? = some u → w.cell? ⟨L.blk, L.base + o + j, none⟩ = some u := by
  unfold row at h
  split at h
  · rename_i t cs sp hg
    rw [nble, cond_dec] at h
    split at h
    · rename_i hle
      simp at h; subst h
      obtain ⟨c, fz, h1, h2, h3, h4, h5, h6⟩ := cells_at hw hg hL
      refine ⟨(c.toList.drop (L.base + o)).take n, by simp; omega, ?_, ?_⟩
      · have := vrels_take n (vrels_drop o h6)
        have e : ((List.take cs.length (List.drop L.base c.toList)).drop o).take n = (c.toList.drop (L.base + o)).take n := by
          rw [List.drop_take, List.take_take, List.drop_drop]; congr 1; omega
        rw [e] at this; exact this
      · intro j u hj
        rw [List.getElem?_take] at hj
        split at hj
        · rw [List.getElem?_drop] at hj
          simp only [World.cell?, h1]
          simpa using hj
        · simp at hj
    · simp at h
  · simp at h
theorem loadCells_ok [Val] (hw : wrel φ H w) {b o n : Nat} {r : List AV} (h : row H b o n = some r) {L : Loc} (hL : φ b = some L) :
    ∃ us : List Value, us.length = n ∧ vrels φ r us ∧ (loadCells ⟨L.blk, L.base + o, none⟩ n).run P w = .ok us.toArray w := by
  obtain ⟨us, h1, h2, h3⟩ := row_ok hw h hL
  refine ⟨us, h1, h2, ?_⟩
  rw [← h1]
  exact run_loadCells_list w _ us (fun j v hj => by rw [add_plain]; exact h3 j v hj)
theorem loadAt_ok [Val] (hX : XOK P X) (hw : wrel φ H w) {t b o : Nat} {v : AV} (h : loadAt X H t b o = some v) {L : Loc} (hL : φ b = some L) :
    ∃ u, (loadVar t ⟨L.blk, L.base + o, none⟩).run P w = .ok u w ∧ vrel φ v u := by
  unfold loadAt at h
  split at h
  · simp at h
  · rename_i i hi
    have ti := hX.ti _ _ hi
    have agg : aggD i.desc = true → (match row H b o i.size with | some cs => some (AV.agg cs) | none => none) = some v → ∃ u, (loadVar t ⟨L.blk, L.base + o, none⟩).run P w = .ok u w ∧ vrel φ v u := by
      intro hd h
      split at h
      · rename_i cs hr
        simp at h; subst h
        obtain ⟨us, h1, h2, h3⟩ := loadCells_ok (P := P) hw hr hL
        exact ⟨.agg us.toArray, by simp [loadVar, ti.run_isAgg, hd, ti.run_size, h3], _, rfl, h2⟩
      · simp at h
    cases hd : i.desc with
    | struct fs => rw [hd] at h; exact agg (by simp [hd, aggD]) h
    | array k e => rw [hd] at h; exact agg (by simp [hd, aggD]) h
    | _ =>
      rw [hd] at h
      dsimp only at h
      split at h
      · rename_i t' cs sp hg
        obtain ⟨u, hu, hv⟩ := cell_ok hw hg hL h
        exact ⟨u, by simp [loadVar, ti.run_isAgg, hd, aggD, hu], hv⟩
      · simp at h
theorem ro_cell [Val] (hw : wrel φ H w) {g off t : Nat} {c : Array Value} {fz : Nat × Nat} {cs : List AV} (hro : Val.ro g = some (.cells c t fz)) (hrel : vrels φ cs ((c.toList.drop off).take cs.length)) {i : Nat} {a : AV} (hi : cs[i]? = some a) :
    ∃ u, w.cell? ⟨g, off + i, none⟩ = some u ∧ vrel φ a u := by
  obtain ⟨h1, _⟩ := hw.ro _ _ hro
  obtain ⟨u, hu, hv⟩ := vrels_get hrel i a hi
  have hlt : i < cs.length := (List.getElem?_eq_some_iff.1 hi).1
  rw [List.getElem?_take, if_pos hlt, List.getElem?_drop] at hu
  refine ⟨u, ?_, hv⟩
  simp only [World.cell?, h1]
  simpa using hu
theorem ro_row [Val] (hw : wrel φ H w) {g off t : Nat} {c : Array Value} {fz : Nat × Nat} {cs : List AV} (hro : Val.ro g = some (.cells c t fz)) (hfit : off + cs.length ≤ c.size) (hrel : vrels φ cs ((c.toList.drop off).take cs.length)) {o n : Nat} (hle : o + n ≤ cs.length) :
    ∃ us : List Value, us.length = n ∧ vrels φ ((cs.drop o).take n) us ∧ ∀ j u, us[j]? = some u → w.cell? ⟨g, off + o + j, none⟩ = some u := by
  obtain ⟨h1, _⟩ := hw.ro _ _ hro
  refine ⟨(c.toList.drop (off + o)).take n, by simp; omega, ?_, ?_⟩
  · have := vrels_take n (vrels_drop o hrel)
    have e : ((List.take cs.length (List.drop off c.toList)).drop o).take n = (c.toList.drop (off + o)).take n := by
      rw [List.drop_take, List.take_take, List.drop_drop]; congr 1; omega
    rw [e] at this; exact this
  · intro j u hj
    rw [List.getElem?_take] at hj
    split at hj
    · rw [List.getElem?_drop] at hj
      simp only [World.cell?, h1]
      simpa using hj
    · simp at hj
theorem ro_loadCells [Val] (hw : wrel φ H w) {g off t : Nat} {c : Array Value} {fz : Nat × Nat} {cs : List AV} (hro : Val.ro g = some (.cells c t fz)) (hfit : off + cs.length ≤ c.size) (hrel : vrels φ cs ((c.toList.drop off).take cs.length)) {o n : Nat} (hle : o + n ≤ cs.length) :
    ∃ us : List Value, us.length = n ∧ vrels φ ((cs.drop o).take n) us ∧ (loadCells ⟨g, off + o, none⟩ n).run P w = .ok us.toArray w := by
  obtain ⟨us, h1, h2, h3⟩ := ro_row hw hro hfit hrel hle
  refine ⟨us, h1, h2, ?_⟩
  rw [← h1]
  exact run_loadCells_list w _ us (fun j v hj => by rw [add_plain]; exact h3 j v hj)
theorem loadR_ok [Val] (hX : XOK P X) (hw : wrel φ H w) {g off t0 : Nat} {c : Array Value} {fz : Nat × Nat} {cs : List AV} (hro : Val.ro g = some (.cells c t0 fz)) (hfit : off + cs.length ≤ c.size) (hrel : vrels φ cs ((c.toList.drop off).take cs.length)) {t o : Nat} {v : AV} (h : loadR X t cs o = some v) :
    ∃ u, (loadVar t ⟨g, off + o, none⟩).run P w = .ok u w ∧ vrel φ v u := by
  unfold loadR at h
  split at h
  · simp at h
  · rename_i i hi
    have ti := hX.ti _ _ hi
    have agg : aggD i.desc = true → (bif Nat.ble (o + i.size) cs.length then some (AV.agg ((cs.drop o).take i.size)) else none) = some v → ∃ u, (loadVar t ⟨g, off + o, none⟩).run P w = .ok u w ∧ vrel φ v u := by
      intro hd h
      rw [nble, cond_dec] at h
      split at h
      · rename_i hle
        simp at h; subst h
        obtain ⟨us, h1, h2, h3⟩ := ro_loadCells (P := P) hw hro hfit hrel hle
        exact ⟨.agg us.toArray, by simp [loadVar, ti.run_isAgg, hd, ti.run_size, h3], _, rfl, h2⟩
      · simp at h
    cases hd : i.desc with
    | struct fs => rw [hd] at h; exact agg (by simp [hd, aggD]) h
    | array k e => rw [hd] at h; exact agg (by simp [hd, aggD]) h
    | _ =>
      rw [hd] at h
      dsimp only at h
      obtain ⟨u, hu, hv⟩ := ro_cell hw hro hrel h
      exact ⟨u, by simp [loadVar, ti.run_isAgg, hd, aggD, hu], hv⟩
theorem bytesOf_ok [Val] : ∀ {cs : List AV} {s : List Nat} {us : List Value}, bytesOf cs = some s → vrels φ cs us →
    us = (s.map (fun n : Nat => (n : Int))).map (Value.int .u8) ∧ ∀ n ∈ s, n < 256
  | [], s, us, h, hr => by simp [bytesOf] at h; subst h; simp only [vrels] at hr; subst hr; simp
  | a :: cs, s, us, h, hr => by
    simp only [vrels] at hr
    obtain ⟨v, vs, rfl, hv, ht⟩ := hr
    unfold bytesOf at h
    split at h
    · rename_i h0; cases h0
    · rename_i n l h0; cases h0
      rw [nblt, cond_dec] at h
      split at h
      · rename_i hn
        split at h
        · rename_i r hr
          simp at h; subst h
          obtain ⟨h1, h2⟩ := bytesOf_ok hr ht
          simp only [vrel] at hv
          refine ⟨by rw [h1, hv]; rfl, ?_⟩
          intro m hm
          simp at hm
          rcases hm with rfl | hm
          · exact hn
          · exact h2 m hm
        · simp at h
      · simp at h
    · simp at h
theorem bytes_push (s : ByteArray) (b : UInt8) : bytes (s.push b) = bytes s ++ [b.toNat] := by simp [bytes]
theorem bytes_fold (ns : List Nat) (h : ∀ n ∈ ns, n < 256) (s : ByteArray) : bytes ((ns.map (fun n : Nat => (n : Int))).foldl (fun r n => r.push (UInt8.ofNat n.toNat)) s) = bytes s ++ ns := by
  induction ns generalizing s with
  | nil => simp
  | cons n ns ih =>
    simp only [List.map_cons, List.foldl_cons]
    rw [ih (fun m hm => h m (by simp [hm])), bytes_push]
    have := h n (by simp)
    simp only [Int.toNat_natCast, u8nat n this]
    simp
theorem bytes_empty : bytes ByteArray.empty = [] := rfl
theorem runesOf_ok [Val] : ∀ {cs : List AV} {s : List Nat} {us : List Value}, runesOf cs = some s → vrels φ cs us →
    ∃ ns : List Int, us = ns.map (Value.int .i32) ∧ ∀ b : ByteArray, bytes (ns.foldl (fun r n => r ++ Utf8.encode n) b) = bytes b ++ s
  | [], s, us, h, hr => by simp [runesOf] at h; subst h; simp only [vrels] at hr; subst hr; exact ⟨[], rfl, by simp⟩
  | a :: cs, s, us, h, hr => by
    simp only [vrels] at hr
    obtain ⟨v, vs, rfl, hv, ht⟩ := hr
    unfold runesOf at h
    split at h
    · rename_i h0; cases h0
    · rename_i n l h0; cases h0
      split at h
      · rename_i r hr
        simp at h; subst h
        obtain ⟨ns, h1, h2⟩ := runesOf_ok hr ht
        simp only [vrel] at hv
        refine ⟨n :: ns, by rw [h1, hv]; rfl, fun b => ?_⟩
        simp only [List.foldl_cons, h2, bytes_append, encodeR_eq, List.append_assoc]
      · simp at h
    · simp at h

/-! maps -/
theorem checkKey_struct {em : Bool} {D t : Nat} {fs : Array Field} {cs : Array Value} (ht : P.underlying t = some (.struct fs))
    (h : ∀ f ∈ fs.toList, f.name ≠ "_" ∧ ∃ u, (part f.type cs f.offset).run P w = .ok u w ∧ (Instr.checkKey em D f.type u).run P w = .ok () w) :
    (Instr.checkKey em (D + 1) t (.agg cs)).run P w = .ok () w := by
  simp only [Instr.checkKey, Sem.run_bind, underlying, run_program, ht, Result.andThen_ok, Sem.run_pure]
  rw [← Array.forIn_toList]
  clear ht
  generalize fs.toList = l at *
  induction l with
  | nil => rfl
  | cons f l ih =>
    obtain ⟨hn, u, h1, h2⟩ := h f (by simp)
    simp only [List.forIn_cons, Sem.run_bind, hn, ne_eq, not_false_eq_true, if_true, h1, h2, Result.andThen_ok, Sem.run_pure]
    exact ih (fun f hf => h f (by simp [hf]))
theorem keyVal_ok [Val] (hX : XOK P X) : ∀ (d t : Nat) (k : AV), keyVal X d t k = true → ∀ (v : Value), vrel φ k v → ∀ (em : Bool) (D : Nat), d ≤ D → ∀ w, (Instr.checkKey em D t v).run P w = .ok () w
  | 0, _, _, h => by simp [keyVal] at h
  | d + 1, t, k, h => by
    intro v hv em D hD w
    obtain ⟨D, rfl⟩ : ∃ E, D = E + 1 := ⟨D - 1, by omega⟩
    unfold keyVal at h
    split at h
    · simp at h
    · rename_i i hi
      have ti := hX.ti _ _ hi
      split at h
      · rename_i hd
        simp only [vrel] at hv; subst hv
        simp [Instr.checkKey, underlying, ti.und, hd]
      · rename_i hd
        simp only [vrel] at hv; subst hv
        simp [Instr.checkKey, underlying, ti.und, hd]
      · rename_i hd
        simp only [vrel] at hv; obtain ⟨b, rfl, _⟩ := hv
        simp [Instr.checkKey, underlying, ti.und, hd]
      · rename_i fs cs hd
        simp only [vrel] at hv; obtain ⟨xs, rfl, hx⟩ := hv
        refine checkKey_struct (by rw [ti.und, hd]) ?_
        intro f hf
        have := List.all_eq_true.1 h f hf
        simp only [Bool.and_eq_true] at this
        obtain ⟨h1, h2⟩ := this
        split at h2
        · rename_i a ha
          obtain ⟨u, k1, k2⟩ := run_part hX hx ha
          exact ⟨by simpa [isBlank] using h1, u, k1 w, keyVal_ok hX d f.type a h2 u k2 em D (by omega) w⟩
        · simp at h2
      · simp at h
def fres [Val] (φ : Phi) (r : Option (Nat × AV)) (r' : Option (Nat × Value)) : Prop :=
  match r, r' with
  | none, none => True
  | some (i, a), some (j, u) => i = j ∧ vrel φ a u
  | _, _ => False
theorem findAsking_ok [Val] (hX : XOK P X) {t : Nat} {k : AV} {v : Value} (hk : vrel φ k v) : ∀ {es : List (AV × AV × Nat)} {l : List MapEntry} {i : Nat} {r : Option (Nat × AV)}, afind X t k es i = some r → mrel φ es l →
    ∃ r', (∀ w, (Instr.findAsking t v l i).run P w = .ok r' w) ∧ fres φ r r'
  | [], l, i, r, h, hr => by
    simp [afind] at h; subst h; simp only [mrel] at hr; subst hr
    exact ⟨none, fun w => rfl, trivial⟩
  | (k', x, b) :: es, l, i, r, h, hr => by
    simp only [mrel] at hr
    obtain ⟨e, l', rfl, h1, h2, h3, h4⟩ := hr
    simp only [afind] at h
    split at h
    · rename_i he
      simp at h; subst h
      refine ⟨some (i, e.val), fun w => ?_, rfl, h2⟩
      have := aeq_ok hX 10 t k k' he hk h1 Op.maxDepth (by decide) w
      simp [Instr.findAsking, Op.equal, this]
    · rename_i he
      obtain ⟨r', k1, k2⟩ := findAsking_ok hX hk h h4
      refine ⟨r', fun w => ?_, k2⟩
      have := aeq_ok hX 10 t k k' he hk h1 Op.maxDepth (by decide) w
      simp [Instr.findAsking, Op.equal, this, k1]
    · simp at h
/-- what 'findNow' decides agrees with the equality -/
theorem findNow_ok [Val] {t : Nat} {k : AV} {v : Value} (hk : vrel φ k v) {i0 : TI} (hi : X.ti t = some i0) : ∀ {es : List (AV × AV × Nat)} {l : List MapEntry} {i : Nat} {r : Option (Nat × AV)} {r' : Option (Nat × Value)}, afind X t k es i = some r → mrel φ es l →
    Instr.findNow i0.desc v l i = some r' → fres φ r r'
  | [], l, i, r, r', h, hr, hn => by
    simp [afind] at h; subst h; simp only [mrel] at hr; subst hr
    simp [Instr.findNow] at hn; subst hn; trivial
  | (k', x, b) :: es, l, i, r, r', h, hr, hn => by
    simp only [mrel] at hr
    obtain ⟨e, l', rfl, h1, h2, h3, h4⟩ := hr
    simp only [afind] at h
    have same : ∀ q q', aeq X 10 t k k' = some q → Instr.sameNow i0.desc v e.key = some q' → q = q' := by
      intro q q' hq hq'
      unfold aeq at hq
      rw [hi] at hq
      dsimp only at hq
      split at hq
      case h_1 a c hd =>
        simp only [vrel] at hk h1
        rw [hd, hk, h1] at hq'
        simp [Instr.sameNow] at hq' hq; rw [← hq, ← hq']
      case h_2 hd =>
        simp only [vrel] at hk h1
        rw [hd, hk, h1] at hq'
        rw [cond_dec] at hq
        simp only [Instr.sameNow] at hq'
        split at hq
        · rename_i hkk
          simp [hkk] at hq' hq
          rw [← hq, ← hq', ieq_eq]
        · simp at hq
      case h_3 hd =>
        simp only [vrel] at hk h1
        obtain ⟨a, ha, rfl⟩ := hk
        obtain ⟨c, hc, rfl⟩ := h1
        rw [hd, ha, hc] at hq'
        simp [Instr.sameNow] at hq' hq
        rw [← hq, ← hq', bytes_toList, bytes_toList, seq_map, beq_toListBytes]
      case h_23 => simp at hq
      all_goals
        rename_i hd
        rw [hd] at hq'
        simp [Instr.sameNow] at hq'
    simp only [Instr.findNow] at hn
    split at h
    · rename_i he
      simp at h; subst h
      split at hn
      · simp at hn; subst hn; exact ⟨rfl, h2⟩
      · rename_i hs; exact absurd (same _ _ he hs) (by simp)
      · simp at hn
    · rename_i he
      split at hn
      · rename_i hs; exact absurd (same _ _ he hs) (by simp)
      · exact findNow_ok hk hi h h4 hn
      · simp at hn
    · simp at h
theorem findKey_ok [Val] (hX : XOK P X) {t : Nat} {k : AV} {v : Value} (hk : vrel φ k v) {i0 : TI} (hi : X.ti t = some i0) {es : List (AV × AV × Nat)} {l : List MapEntry} {r : Option (Nat × AV)} (h : afind X t k es 0 = some r) (hr : mrel φ es l) :
    ∃ r', (∀ w, (Instr.findKey t v l).run P w = .ok r' w) ∧ fres φ r r' := by
  have ti := hX.ti _ _ hi
  cases hn : Instr.findNow i0.desc v l 0 with
  | some r' => exact ⟨r', fun w => by simp [Instr.findKey, underlying, ti.und, hn], findNow_ok hk hi h hr hn⟩
  | none =>
    obtain ⟨r', h1, h2⟩ := findAsking_ok hX hk h hr
    exact ⟨r', fun w => by simp [Instr.findKey, underlying, ti.und, hn, h1], h2⟩
theorem zero_rel [Val] {t : Nat} {i : TI} (ti : TIok P t i) {z : AV} (hz : (match i.desc with
      | .struct _ => some (.agg i.zero)
      | .array _ _ => some (.agg i.zero)
      | _ => match i.zero with | [z] => some z | _ => none) = some z) : ∃ u, (∀ w, (zeroValue t).run P w = .ok u w) ∧ ∀ φ, vrel φ z u := by
  obtain ⟨j, a, _, _, u, hu, k1, k2⟩ := ti.info
  have hrun : ∀ w, (zeroValue t).run P w = .ok u w := fun w => by simp [zeroValue, typeInfo, a, hu]
  refine ⟨u, hrun, fun φ => ?_⟩
  have agg : aggD i.desc = true → some (AV.agg i.zero) = some z → vrel φ z u := by
    intro hd h
    rw [hd] at k1
    simp at h; subst h
    cases u <;> simp [aggV] at k1
    exact ⟨_, rfl, k2 φ⟩
  cases hd : i.desc with
  | struct fs => rw [hd] at hz; exact agg (by rw [hd]; rfl) hz
  | array n e => rw [hd] at hz; exact agg (by rw [hd]; rfl) hz
  | _ =>
    rw [hd] at hz k1
    dsimp only at hz
    split at hz
    · rename_i z' hz'
      simp at hz; subst hz
      have := k2 φ
      rw [hz'] at this
      simp only [vrels] at this
      obtain ⟨v, vs, e, hv, rfl⟩ := this
      cases u <;> simp [aggV, aggD] at k1 <;> simp [Value.cells] at e <;> subst e <;> exact hv
    · simp at hz
theorem map_at [Val] (hw : wrel φ H w) {r : Nat} {es : List (AV × AV × Nat)} {clock : Nat} (hg : H.get r = some (.map es clock)) {L : Loc} (hL : φ r = some L) :
    ∃ ea, w.heap[L.blk]? = some (.map ea clock) ∧ mrel φ es ea.toList := by
  obtain ⟨l, o, h1, h2, h3⟩ := hw.blk r _ hg
  rw [hL] at h1; cases h1
  simp only [brel] at h3
  obtain ⟨ea, rfl, h⟩ := h3
  exact ⟨ea, h2, h⟩

theorem read_ok [Val] (hX : XOK P X) (hw : wrel φ H w) {n : Nat} {e : Env} {a : Act} (he : erel φ n e a.tmps) {o : Oper} {v : AV} (h : readOp X e H o.op = some v) :
    ∃ u, (execOp a.eval o).run P w = .ok (.value u) w ∧ vrel φ v u := by
  obtain ⟨dst, op, type, pos, after, guard⟩ := o
  dsimp only at h
  have fin : ∀ (s : Sem Value) (hs : execOp a.eval ⟨dst, op, type, pos, after, guard⟩ = (do pure (.value (← s)))), (∃ z, s.run P w = .ok z w ∧ vrel φ v z) →
      ∃ u, (execOp a.eval ⟨dst, op, type, pos, after, guard⟩).run P w = .ok (.value u) w ∧ vrel φ v u := by
    intro s hs ⟨z, h1, h2⟩
    exact ⟨z, by rw [hs]; simp [h1], h2⟩
  cases op with
  | load t x =>
    simp only [readOp] at h
    split at h
    · rename_i b o hp
      have hp := opd_ok he hp
      simp only [vrel] at hp
      obtain ⟨L, h1, h2⟩ := hp
      obtain ⟨u, k1, k2⟩ := loadAt_ok hX hw h h1
      exact fin (Instr.loadAt t (a.eval x)) rfl ⟨u, by simp [Instr.loadAt, h2, Instr.sureAddr, k1], k2⟩
    · rename_i cs o hp
      have hp := opd_ok he hp
      simp only [vrel] at hp
      obtain ⟨g, off, c, ty, fz, h2, hro, hfit, hrel⟩ := hp
      obtain ⟨u, k1, k2⟩ := loadR_ok hX hw hro hfit hrel h
      exact fin (Instr.loadAt t (a.eval x)) rfl ⟨u, by simp [Instr.loadAt, h2, Instr.sureAddr, k1], k2⟩
    · simp at h
  | binOp op t x y yt =>
    simp only [readOp] at h
    split at h
    · rename_i b o hp
      split at h
      · rename_i b' o' hq
        have hp := opd_ok he hp
        have hq := opd_ok he hq
        simp only [vrel] at hp hq
        obtain ⟨L, p1, p2⟩ := hp
        obtain ⟨L', q1, q2⟩ := hq
        split at h
        · simp at h
        · rename_i i hi
          have ti := hX.ti _ _ hi
          split at h
          · rename_i el hd
            split at h
            · simp at h
            · rename_i ei hei
              have te := hX.ti _ _ hei
              obtain ⟨j, j1, j2, _⟩ := te.info
              rw [nbeq, cond_dec] at h
              split at h
              · simp at h
              · rename_i hz
                split at h
                · rename_i t1 cs1 t2 cs2 g1 g2
                  have blk' : ∀ {b : Nat} {t : TypeId} {cs : List AV}, blk H b = some (t, cs, false) → H.get b = some (.cells t cs false) := by
                    intro b t cs hb
                    unfold blk at hb
                    split at hb
                    · rename_i hg; simp at hb; obtain ⟨rfl, rfl, rfl⟩ := hb; exact hg
                    · simp at hb
                  have g1 := blk' g1
                  have g2 := blk' g2
                  obtain ⟨c1, f1, w1, _, _, _, s1, _⟩ := cells_at hw g1 p1
                  obtain ⟨c2, f2, w2, _, _, _, s2, _⟩ := cells_at hw g2 q1
                  have key : (sameAddr ⟨L.blk, L.base + o, none⟩ ⟨L'.blk, L'.base + o', none⟩).run P w = .ok (Nat.beq b b' && Nat.beq o o') w := by
                    by_cases hb : b = b'
                    · subst hb
                      rw [p1] at q1; cases q1
                      simp [sameAddr, nbeq]
                      rw [Bool.eq_iff_iff]; simp
                    · have hblk : ¬ L.blk = L'.blk := fun e => hb (hw.inj b b' _ _ L L' g1 g2 p1 q1 e)
                      have z1 := (s1 rfl).2
                      have z2 := (s2 rfl).2
                      have fz1 : ∀ q, w.frozen? ⟨L.blk, q, none⟩ = false := fun q => by
                        simp only [World.frozen?, w1]; have := z1 q; simp at this ⊢; exact this
                      have fz2 : ∀ q, w.frozen? ⟨L'.blk, q, none⟩ = false := fun q => by
                        simp only [World.frozen?, w2]; have := z2 q; simp at this ⊢; exact this
                      simp [sameAddr, hblk, fz1, fz2, noView, viewAt, World.shape?, w1, w2, mayBeOne, stringish, nbeq, hb]
                  have eqv : (Op.equal t (a.eval x) (a.eval y)).run P w = .ok (Nat.beq b b' && Nat.beq o o') w := by
                    have gen : ∀ d, (Op.equalIn (d + 1) t (a.eval x) (a.eval y)).run P w = .ok (Nat.beq b b' && Nat.beq o o') w := by
                      intro d
                      simp only [Op.equalIn, p2, q2, Sem.run_bind, ti.run_und, hd, Result.andThen_ok]
                      simp only [te.run_size, Result.andThen_ok]
                      rw [if_pos (by simpa using hz)]
                      exact key
                    exact gen 9999
                  split at h
                  · simp at h; subst h
                    refine fin (do eqGuard .eql t x y (a.eval x) (a.eval y); Go.binOp .eql t (a.eval x) (a.eval y)) rfl ⟨.bool (Nat.beq b b' && Nat.beq o o'), ?_, by simp [vrel]⟩
                    have hb2 : Go.binOp .eql t (a.eval x) (a.eval y) = (do pure (.bool (← Op.equal t (a.eval x) (a.eval y)))) := by rw [p2, q2]; rfl
                    have hg : (eqGuard .eql t x y (a.eval x) (a.eval y)).run P w = .ok () w := by rw [p2, q2]; rfl
                    rw [hb2]
                    simp [hg, eqv]
                  · simp at h; subst h
                    refine fin (do eqGuard .neq t x y (a.eval x) (a.eval y); Go.binOp .neq t (a.eval x) (a.eval y)) rfl ⟨.bool (!(Nat.beq b b' && Nat.beq o o')), ?_, by simp [vrel]⟩
                    have hb2 : Go.binOp .neq t (a.eval x) (a.eval y) = (do pure (.bool (!(← Op.equal t (a.eval x) (a.eval y))))) := by rw [p2, q2]; rfl
                    have hg : (eqGuard .neq t x y (a.eval x) (a.eval y)).run P w = .ok () w := by rw [p2, q2]; rfl
                    rw [hb2]
                    simp [hg, eqv]
                  · simp at h
                · simp at h
          · simp at h
      · simp at h
    · simp at h
  | convert s d x =>
    simp only [readOp] at h
    split at h
    · simp at h
    · rename_i p hp
      have hp := opd_ok he hp
      split at h
      · simp at h
      · rename_i di hdi
        split at h
        · simp at h
        · rename_i si hsi
          have td := hX.ti _ _ hdi
          have ts := hX.ti _ _ hsi
          split at h
          · rename_i hdd
            split at h
            · rename_i el hds
              split at h
              · simp at h
              · rename_i ei hei
                have te := hX.ti _ _ hei
                refine fin (Go.convert s d (a.eval x)) rfl ?_
                split at h
                · rename_i hk _
                  simp at h; subst h; simp only [vrel] at hp
                  exact ⟨.string .empty, by simp [Go.convert, underlying, td.und, ts.und, te.und, hdd, hds, hk, hp, Conv.bytesToString], _, rfl, rfl⟩
                · rename_i hk _
                  simp at h; subst h; simp only [vrel] at hp
                  obtain ⟨q, c, hp⟩ := hp
                  have := run_bytesToString (P := P) w q 0 c [] (by simp [loadCells, loadCellsFrom])
                  exact ⟨.string .empty, (by simp [Go.convert, underlying, td.und, ts.und, te.und, hdd, hds, hk, hp, this] <;> rfl), _, rfl, rfl⟩
                · rename_i b o len cap hk _
                  split at h
                  · simp at h
                  · rename_i cs hr
                    split at h
                    · simp at h
                    · rename_i s' hs'
                      simp at h; subst h; simp only [vrel] at hp
                      obtain ⟨L, c, hL, hp, _⟩ := hp
                      obtain ⟨us, u1, u2, u3⟩ := loadCells_ok (P := P) hw hr hL
                      obtain ⟨e1, e2⟩ := bytesOf_ok hs' u2
                      rw [e1] at u3
                      have := run_bytesToString (P := P) w _ len c _ u3
                      refine ⟨_, by simp [Go.convert, underlying, td.und, ts.und, te.und, hdd, hds, hk, hp, this]; rfl, _, rfl, ?_⟩
                      have := bytes_fold s' e2 .empty
                      simpa [bytes_empty] using this
                · rename_i cs len sz hk _
                  rw [nbeq, cond_dec] at h
                  split at h
                  · rename_i hsz
                    split at h
                    · simp at h
                    · rename_i s' hs'
                      simp at h; subst h; simp only [vrel] at hp
                      obtain ⟨g, off, c, ca, ty, fz, hp, _, hcl, hro, hfit, hrel⟩ := hp
                      obtain ⟨us, u1, u2, u3⟩ := ro_loadCells (P := P) hw hro hfit hrel (o := 0) (n := len) (by rw [hcl, hsz]; omega)
                      rw [List.drop_zero, List.take_of_length_le (by rw [hcl, hsz]; omega)] at u2
                      rw [Nat.add_zero] at u3
                      obtain ⟨e1, e2⟩ := bytesOf_ok hs' u2
                      rw [e1] at u3
                      have := run_bytesToString (P := P) w _ len c _ u3
                      refine ⟨_, by simp [Go.convert, underlying, td.und, ts.und, te.und, hdd, hds, hk, hp, this]; rfl, _, rfl, ?_⟩
                      have := bytes_fold s' e2 .empty
                      simpa [bytes_empty] using this
                  · simp at h
                · rename_i cs len sz hk _
                  rw [nbeq, cond_dec] at h
                  split at h
                  · rename_i hsz
                    split at h
                    · simp at h
                    · rename_i s' hs'
                      simp at h; subst h; simp only [vrel] at hp
                      obtain ⟨g, off, c, ca, ty, fz, hp, _, hcl, hro, hfit, hrel⟩ := hp
                      obtain ⟨us, u1, u2, u3⟩ := ro_loadCells (P := P) hw hro hfit hrel (o := 0) (n := len) (by rw [hcl, hsz]; omega)
                      rw [List.drop_zero, List.take_of_length_le (by rw [hcl, hsz]; omega)] at u2
                      rw [Nat.add_zero] at u3
                      obtain ⟨ns, e1, e2⟩ := runesOf_ok hs' u2
                      rw [e1] at u3
                      have := run_runesToString (P := P) w _ len c _ u3
                      refine ⟨_, by simp [Go.convert, underlying, td.und, ts.und, te.und, hdd, hds, hk, hp, this]; rfl, _, rfl, ?_⟩
                      have := e2 .empty
                      simpa [bytes_empty, runesBytes] using this
                  · simp at h
                · rename_i hk _
                  simp at h; subst h; simp only [vrel] at hp
                  exact ⟨.string .empty, by simp [Go.convert, underlying, td.und, ts.und, te.und, hdd, hds, hk, hp, Conv.runesToString], _, rfl, rfl⟩
                · rename_i hk _
                  simp at h; subst h; simp only [vrel] at hp
                  obtain ⟨q, c, hp⟩ := hp
                  have := run_runesToString (P := P) w q 0 c [] (by simp [loadCells, loadCellsFrom])
                  exact ⟨.string .empty, (by simp [Go.convert, underlying, td.und, ts.und, te.und, hdd, hds, hk, hp, this] <;> rfl), _, rfl, rfl⟩
                · rename_i b o len cap hk _
                  split at h
                  · simp at h
                  · rename_i cs hr
                    split at h
                    · simp at h
                    · rename_i s' hs'
                      simp at h; subst h; simp only [vrel] at hp
                      obtain ⟨L, c, hL, hp, _⟩ := hp
                      obtain ⟨us, u1, u2, u3⟩ := loadCells_ok (P := P) hw hr hL
                      obtain ⟨ns, e1, e2⟩ := runesOf_ok hs' u2
                      rw [e1] at u3
                      have := run_runesToString (P := P) w _ len c _ u3
                      refine ⟨_, by simp [Go.convert, underlying, td.und, ts.und, te.und, hdd, hds, hk, hp, this]; rfl, _, rfl, ?_⟩
                      have := e2 .empty
                      simpa [bytes_empty, runesBytes] using this
                · simp at h
            · simp at h
          · simp at h
  | lookup t x ix ok =>
    simp only [readOp] at h
    split at h
    · simp at h
    · rename_i i hi
      have ti := hX.ti _ _ hi
      split at h
      · rename_i kt et hd
        split at h
        · simp at h
        · rename_i k hk
          have hk := opd_ok he hk
          cases hkv : keyVal X 4 kt k with
          | false => simp [hkv] at h
          | true =>
            simp only [hkv, cond_true] at h
            split at h
            · simp at h
            · rename_i ei hei
              have te := hX.ti _ _ hei
              split at h
              · simp at h
              · rename_i z hz
                obtain ⟨zu, z1, z2⟩ := zero_rel te hz
                have chk := fun em => keyVal_ok hX 4 kt k hkv _ hk em 10000 (by omega) w
                have done : ∀ (r : Option (Nat × AV)) (r' : Option (Nat × Value)), fres φ r r' → some (bif ok then AV.tup [(match r with | some (_, v) => v | none => z), .bool (match r with | some _ => true | none => false)] else (match r with | some (_, v) => v | none => z)) = some v →
                    ∃ (vv : Value) (bb : Bool), ((∃ j, r' = some (j, vv) ∧ bb = true) ∨ (r' = none ∧ vv = zu ∧ bb = false)) ∧ vrel φ v (if ok then .tuple #[vv, .bool bb] else vv) := by
                  intro r r' hr hv
                  cases r with
                  | none =>
                    cases r' with
                    | some _ => simp [fres] at hr
                    | none =>
                      refine ⟨zu, false, .inr ⟨rfl, rfl, rfl⟩, ?_⟩
                      cases ok
                      · simp at hv; subst hv; exact z2 φ
                      · simp at hv; subst hv
                        exact ⟨_, rfl, vrels_cons (z2 φ) (vrels_cons rfl vrels_nil)⟩
                  | some y =>
                    cases r' with
                    | none => simp [fres] at hr
                    | some y' =>
                      obtain ⟨_, y1⟩ := y
                      obtain ⟨j, y2⟩ := y'
                      simp only [fres] at hr
                      refine ⟨y2, true, .inl ⟨j, rfl, rfl⟩, ?_⟩
                      cases ok
                      · simp at hv; subst hv; exact hr.2
                      · simp at hv; subst hv
                        exact ⟨_, rfl, vrels_cons hr.2 (vrels_cons rfl vrels_nil)⟩
                have cki : ∃ ki, X.ti kt = some ki := by
                  unfold keyVal at hkv
                  split at hkv
                  · simp at hkv
                  · rename_i ki hki; exact ⟨ki, hki⟩
                obtain ⟨ki, hki⟩ := cki
                refine fin (Instr.lookup t (a.eval x) (a.eval ix) ok) rfl ?_
                split at h
                · simp at h
                · rename_i r hr
                  split at hr
                  · rename_i hx
                    have hx := opd_ok he hx
                    simp only [vrel] at hx
                    simp at hr; subst hr
                    obtain ⟨r', f1, f2⟩ := findKey_ok (r := none) hX hk hki (es := []) (l := []) (by simp [afind]) (by simp [mrel])
                    obtain ⟨vv, bb, q1, q2⟩ := done none r' f2 h
                    refine ⟨_, ?_, q2⟩
                    rcases q1 with ⟨j, rfl, rfl⟩ | ⟨rfl, rfl, rfl⟩
                    · simp [Instr.lookup, underlying, ti.und, hd, hx, chk, f1]
                    · simp [Instr.lookup, underlying, ti.und, hd, hx, chk, f1, z1]
                  · rename_i m hx
                    have hx := opd_ok he hx
                    simp only [vrel] at hx
                    obtain ⟨L, l1, l2⟩ := hx
                    split at hr
                    · rename_i es clock hg
                      obtain ⟨ea, m1, m2⟩ := map_at hw hg l1
                      obtain ⟨r', f1, f2⟩ := findKey_ok hX hk hki hr m2
                      obtain ⟨vv, bb, q1, q2⟩ := done r r' f2 h
                      refine ⟨_, ?_, q2⟩
                      have hgo : (getObj L.blk).run P w = .ok (.map ea clock) w := by simp [getObj, Sem.run, m1]
                      rcases q1 with ⟨j, rfl, rfl⟩ | ⟨rfl, rfl, rfl⟩
                      · simp [Instr.lookup, underlying, ti.und, hd, l2, chk, f1, hgo]
                      · simp [Instr.lookup, underlying, ti.und, hd, l2, chk, f1, hgo, z1]
                    · simp at hr
                  · simp at hr
      · simp at h
  | call c =>
    obtain ⟨cal, args, tys⟩ := c
    cases cal with
    | value f => simp [readOp] at h
    | invoke r m => simp [readOp] at h
    | builtin b =>
      cases b with
      | len =>
        simp only [readOp] at h
        split at h
        · rename_i x hx
          split at h
          · rename_i t ts ht
            split at h
            · simp at h
            · rename_i i hi
              have ti := hX.ti _ _ hi
              have args1 : args.map a.eval = #[a.eval x] := by
                have : args = #[x] := by apply Array.toList_inj.1; simpa using hx
                subst this; simp
              have tys1 : tys[0]? = some t := by rw [← Array.getElem?_toList, ht]; rfl
              refine fin (Builtin.len_ tys type (args.map a.eval)) rfl ?_
              split at h
              · rename_i m hd hp
                have hp := opd_ok he hp
                simp only [vrel] at hp
                obtain ⟨L, l1, l2⟩ := hp
                split at h
                · rename_i es clock hg
                  simp at h; subst h
                  obtain ⟨ea, m1, m2⟩ := map_at hw hg l1
                  have hgo : (getObj L.blk).run P w = .ok (.map ea clock) w := by simp [getObj, Sem.run, m1]
                  have := mrel_length m2
                  exact ⟨_, by simp [Builtin.len_, args1, tys1, underlying, ti.und, hd, l2, goInt, hgo]; rfl, by simp [vrel, this]⟩
                · simp at h
              · simp at h
          · simp at h
        · simp at h
      | _ => simp [readOp] at h
  | _ => simp [readOp] at h
end
end GX
