/- What the row leans on, part 3: texts one behind the other. No condition. -/
import Derived.Test.YtjbpegggfacojaaMg2
import Derived.Laws.BytesString
import Derived.Laws.Cover4
import Derived.LaidEqlPtr
import Derived.DeepKeys3
/- GX: the operations that only read memory. -/





namespace GX
open Go
section
variable {P : Program} {X : X} {φ : Phi} {H : Tr AB} {w : World}

theorem cells_at [Val] (hw : wrel φ H w) {b : Nat} {t : TypeId} {cs : List AV} {sp : Bool} (hg : H.get b = some (.cells t cs sp)) {L : Loc} (hL : φ b = some L) :
    ∃ c fz, w.heap[L.blk]? = some (.cells c t fz) ∧ (∀ i, i < c.size → free fz i) ∧ L.tot = c.size ∧
      L.base + cs.length ≤ c.size ∧ (sp = false → L.base + cs.length = c.size ∧ ∀ i, ¬ (fz.1 ≤ i ∧ i < fz.2)) ∧ vrels φ cs ((c.toList.drop L.base).take cs.length) := by
  obtain ⟨l, o, h1, h2, h3⟩ := hw.blk b _ hg
  rw [hL] at h1; cases h1
  simp only [brel] at h3
  obtain ⟨c, fz, rfl, b1, b2, b3, b4, b5, _⟩ := h3
  exact ⟨c, fz, h2, b1, b2, b3, b4, b5⟩
/-- also what lies behind the told cells -/
theorem cells_sp [Val] (hw : wrel φ H w) {b : Nat} {t : TypeId} {cs : List AV} {sp : Bool} (hg : H.get b = some (.cells t cs sp)) {L : Loc} (hL : φ b = some L) :
    ∃ c fz, w.heap[L.blk]? = some (.cells c t fz) ∧ (∀ i, i < c.size → free fz i) ∧ L.tot = c.size ∧
      L.base + cs.length ≤ c.size ∧ (sp = false → L.base + cs.length = c.size ∧ ∀ i, ¬ (fz.1 ≤ i ∧ i < fz.2)) ∧ vrels φ cs ((c.toList.drop L.base).take cs.length) ∧ flatR (c.toList.drop (L.base + cs.length)) := by
  obtain ⟨l, o, h1, h2, h3⟩ := hw.blk b _ hg
  rw [hL] at h1; cases h1
  simp only [brel] at h3
  obtain ⟨c, fz, rfl, a⟩ := h3
  exact ⟨c, fz, h2, a⟩
theorem has_loc [Val] (hw : wrel φ H w) {b : Nat} {x : AB} (hg : H.get b = some x) : ∃ L, φ b = some L := by
  obtain ⟨l, o, h1, _⟩ := hw.blk b _ hg; exact ⟨l, h1⟩
theorem cell_ok [Val] (hw : wrel φ H w) {b : Nat} {t : TypeId} {cs : List AV} {sp : Bool} (hg : H.get b = some (.cells t cs sp)) {L : Loc} (hL : φ b = some L) {i : Nat} {a : AV} (hi : cs[i]? = some a) :
    ∃ u, w.cell? ⟨L.blk, L.base + i, none⟩ = some u ∧ vrel φ a u := by
  obtain ⟨c, fz, h1, h2, h3, h4, h5, h6⟩ := cells_at hw hg hL
  obtain ⟨u, hu, hv⟩ := vrels_get h6 i a hi
  have hlt : i < cs.length := (List.getElem?_eq_some_iff.1 hi).1
  rw [List.getElem?_take, if_pos hlt, List.getElem?_drop] at hu
  refine ⟨u, ?_, hv⟩
  simp only [World.cell?, h1]
  simpa using hu
theorem row_ok [Val] (hw : wrel φ H w) {b o n : Nat} {r : List AV} (h : row H b o n = some r) {L : Loc} (hL : φ b = some L) :
    ∃ us : List Value, us.length = n ∧ vrels φ r us ∧ ∀ j u, us[j]? = some u → w.cell? ⟨L.blk, L.base + o + j, none⟩ = some u := by
  unfold row at h
  split at h
  · rename_i t cs sp hg
    rw [nble, cond_dec] at h
    split at h
    · rename_i hle
      simp at h; subst h
      obtain ⟨c, fz, h1, h2, h3, h4, h5, h6⟩ := cells_at hw hg hL
      refine ⟨(c.toList.drop (L.base + o)).take n, by simp; omega, ?_, ?_⟩
      · have := vrels_take n (vrels_drop o h6)
        have e : ((List.take cs.length (List.drop L.base c.toList)).drop o).take n = (c.toList.drop (L.base + o)).take n := by
          rw [List.drop_take, List.take_take, List.drop_drop]; congr 1; omega
        rw [e] at this; exact this
      · intro j u hj
        rw [List.getElem?_take] at hj
        split at hj
        · rw [List.getElem?_drop] at hj
          simp only [World.cell?, h1]
          simpa using hj
        · simp at hj
    · simp at h
  · simp at h
theorem loadCells_ok [Val] (hw : wrel φ H w) {b o n : Nat} {r : List AV} (h : row H b o n = some r) {L : Loc} (hL : φ b = some L) :
    ∃ us : List Value, us.length = n ∧ vrels φ r us ∧ (loadCells ⟨L.blk, L.base + o, none⟩ n).run P w = .ok us.toArray w := by
  obtain ⟨us, h1, h2, h3⟩ := row_ok hw h hL
  refine ⟨us, h1, h2, ?_⟩
  rw [← h1]
  exact run_loadCells_list w _ us (fun j v hj => by rw [add_plain]; exact h3 j v hj)
theorem loadAt_ok [Val] (hX : XOK P X) (hw : wrel φ H w) {t b o : Nat} {v : AV} (h : loadAt X H t b o = some v) {L : Loc} (hL : φ b = some L) :
    ∃ u, (loadVar t ⟨L.blk, L.base + o, none⟩).run P w = .ok u w ∧ vrel φ v u := by
  unfold loadAt at h
  split at h
  · simp at h
  · rename_i i hi
    have ti := hX.ti _ _ hi
    have agg : aggD i.desc = true → (match row H b o i.size with | some cs => some (AV.agg cs) | none => none) = some v → ∃ u, (loadVar t ⟨L.blk, L.base + o, none⟩).run P w = .ok u w ∧ vrel φ v u := by
      intro hd h
      split at h
      · rename_i cs hr
        simp at h; subst h
        obtain ⟨us, h1, h2, h3⟩ := loadCells_ok (P := P) hw hr hL
        exact ⟨.agg us.toArray, by simp [loadVar, ti.run_isAgg, hd, ti.run_size, h3], _, rfl, h2⟩
      · simp at h
    cases hd : i.desc with
    | struct fs => rw [hd] at h; exact agg (by simp [hd, aggD]) h
    | array k e => rw [hd] at h; exact agg (by simp [hd, aggD]) h
    | _ =>
      rw [hd] at h
      dsimp only at h
      split at h
      · rename_i t' cs sp hg
        obtain ⟨u, hu, hv⟩ := cell_ok hw hg hL h
        exact ⟨u, by simp [loadVar, ti.run_isAgg, hd, aggD, hu], hv⟩
      · simp at h
theorem ro_cell [Val] (hw : wrel φ H w) {g off t : Nat} {c : Array Value} {fz : Nat × Nat} {cs : List AV} (hro : Val.ro g = some (.cells c t fz)) (hrel : vrels φ cs ((c.toList.drop off).take cs.length)) {i : Nat} {a : AV} (hi : cs[i]? = some a) :
    ∃ u, w.cell? ⟨g, off + i, none⟩ = some u ∧ vrel φ a u := by
  obtain ⟨h1, _⟩ := hw.ro _ _ hro
  obtain ⟨u, hu, hv⟩ := vrels_get hrel i a hi
  have hlt : i < cs.length := (List.getElem?_eq_some_iff.1 hi).1
  rw [List.getElem?_take, if_pos hlt, List.getElem?_drop] at hu
  refine ⟨u, ?_, hv⟩
  simp only [World.cell?, h1]
  simpa using hu
theorem ro_row [Val] (hw : wrel φ H w) {g off t : Nat} {c : Array Value} {fz : Nat × Nat} {cs : List AV} (hro : Val.ro g = some (.cells c t fz)) (hfit : off + cs.length ≤ c.size) (hrel : vrels φ cs ((c.toList.drop off).take cs.length)) {o n : Nat} (hle : o + n ≤ cs.length) :
    ∃ us : List Value, us.length = n ∧ vrels φ ((cs.drop o).take n) us ∧ ∀ j u, us[j]? = some u → w.cell? ⟨g, off + o + j, none⟩ = some u := by
  obtain ⟨h1, _⟩ := hw.ro _ _ hro
  refine ⟨(c.toList.drop (off + o)).take n, by simp; omega, ?_, ?_⟩
  · have := vrels_take n (vrels_drop o hrel)
    have e : ((List.take cs.length (List.drop off c.toList)).drop o).take n = (c.toList.drop (off + o)).take n := by
      rw [List.drop_take, List.take_take, List.drop_drop]; congr 1; omega
    rw [e] at this; exact this
  · intro j u hj
    rw [List.getElem?_take] at hj
    split at hj
    · rw [List.getElem?_drop] at hj
      simp only [World.cell?, h1]
      simpa using hj
    · simp at hj
theorem ro_loadCells [Val] (hw : wrel φ H w) {g off t : Nat} {c : Array Value} {fz : Nat × Nat} {cs : List AV} (hro : Val.ro g = some (.cells c t fz)) (hfit : off + cs.length ≤ c.size) (hrel : vrels φ cs ((c.toList.drop off).take cs.length)) {o n : Nat} (hle : o + n ≤ cs.length) :
    ∃ us : List Value, us.length = n ∧ vrels φ ((cs.drop o).take n) us ∧ (loadCells ⟨g, off + o, none⟩ n).run P w = .ok us.toArray w := by
  obtain ⟨us, h1, h2, h3⟩ := ro_row hw hro hfit hrel hle
  refine ⟨us, h1, h2, ?_⟩
  rw [← h1]
  exact run_loadCells_list w _ us (fun j v hj => by rw [add_plain]; exact h3 j v hj)
theorem loadR_ok [Val] (hX : XOK P X) (hw : wrel φ H w) {g off t0 : Nat} {c : Array Value} {fz : Nat × Nat} {cs : List AV} (hro : Val.ro g = some (.cells c t0 fz)) (hfit : off + cs.length ≤ c.size) (hrel : vrels φ cs ((c.toList.drop off).take cs.length)) {t o : Nat} {v : AV} (h : loadR X t cs o = some v) :
    ∃ u, (loadVar t ⟨g, off + o, none⟩).run P w = .ok u w ∧ vrel φ v u := by
  unfold loadR at h
  split at h
  · simp at h
  · rename_i i hi
    have ti := hX.ti _ _ hi
    have agg : aggD i.desc = true → (bif Nat.ble (o + i.size) cs.length then some (AV.agg ((cs.drop o).take i.size)) else none) = some v → ∃ u, (loadVar t ⟨g, off + o, none⟩).run P w = .ok u w ∧ vrel φ v u := by
      intro hd h
      rw [nble, cond_dec] at h
      split at h
      · rename_i hle
        simp at h; subst h
        obtain ⟨us, h1, h2, h3⟩ := ro_loadCells (P := P) hw hro hfit hrel hle
        exact ⟨.agg us.toArray, by simp [loadVar, ti.run_isAgg, hd, ti.run_size, h3], _, rfl, h2⟩
      · simp at h
    cases hd : i.desc with
    | struct fs => rw [hd] at h; exact agg (by simp [hd, aggD]) h
    | array k e => rw [hd] at h; exact agg (by simp [hd, aggD]) h
    | _ =>
      rw [hd] at h
      dsimp only at h
      obtain ⟨u, hu, hv⟩ := ro_cell hw hro hrel h
      exact ⟨u, by simp [loadVar, ti.run_isAgg, hd, aggD, hu], hv⟩
theorem bytesOf_ok [Val] : ∀ {cs : List AV} {s : List Nat} {us : List Value}, bytesOf cs = some s → vrels φ cs us →
    us = (s.map (fun n : Nat => (n : Int))).map (Value.int .u8) ∧ ∀ n ∈ s, n < 256
  | [], s, us, h, hr => by simp [bytesOf] at h; subst h; simp only [vrels] at hr; subst hr; simp
  | a :: cs, s, us, h, hr => by
    simp only [vrels] at hr
    obtain ⟨v, vs, rfl, hv, ht⟩ := hr
    unfold bytesOf at h
    split at h
    · rename_i h0; cases h0
    · rename_i n l h0; cases h0
      rw [nblt, cond_dec] at h
      split at h
      · rename_i hn
        split at h
        · rename_i r hr
          simp at h; subst h
          obtain ⟨h1, h2⟩ := bytesOf_ok hr ht
          simp only [vrel] at hv
          refine ⟨by rw [h1, hv]; rfl, ?_⟩
          intro m hm
          simp at hm
          rcases hm with rfl | hm
          · exact hn
          · exact h2 m hm
        · simp at h
      · simp at h
    · simp at h
theorem bytes_push (s : ByteArray) (b : UInt8) : bytes (s.push b) = bytes s ++ [b.toNat] := by simp [bytes]
theorem bytes_fold (ns : List Nat) (h : ∀ n ∈ ns, n < 256) (s : ByteArray) : bytes ((ns.map (fun n : Nat => (n : Int))).foldl (fun r n => r.push (UInt8.ofNat n.toNat)) s) = bytes s ++ ns := by
  induction ns generalizing s with
  | nil => simp
  | cons n ns ih =>
    simp only [List.map_cons, List.foldl_cons]
    rw [ih (fun m hm => h m (by simp [hm])), bytes_push]
    have := h n (by simp)
    simp only [Int.toNat_natCast, u8nat n this]
    simp
theorem bytes_empty : bytes ByteArray.empty = [] := rfl
theorem runesOf_ok [Val] : ∀ {cs : List AV} {s : List Nat} {us : List Value}, runesOf cs = some s → vrels φ cs us →
    ∃ ns : List Int, us = ns.map (Value.int .i32) ∧ ∀ b : ByteArray, bytes (ns.foldl (fun r n => r ++ Utf8.encode n) b) = bytes b ++ s
  | [], s, us, h, hr => by simp [runesOf] at h; subst h; simp only [vrels] at hr; subst hr; exact ⟨[], rfl, by simp⟩
  | a :: cs, s, us, h, hr => by
    simp only [vrels] at hr
    obtain ⟨v, vs, rfl, hv, ht⟩ := hr
    unfold runesOf at h
    split at h
    · rename_i h0; cases h0
    · rename_i n l h0; cases h0
      split at h
      · rename_i r hr
        simp at h; subst h
        obtain ⟨ns, h1, h2⟩ := runesOf_ok hr ht
        simp only [vrel] at hv
        refine ⟨n :: ns, by rw [h1, hv]; rfl, fun b => ?_⟩
        simp only [List.foldl_cons, h2, bytes_append, encodeR_eq, List.append_assoc]
      · simp at h
    · simp at h

/-! maps -/
theorem checkKey_struct {em : Bool} {D t : Nat} {fs : Array Field} {cs : Array Value} (ht : P.underlying t = some (.struct fs))
    (h : ∀ f ∈ fs.toList, f.name ≠ "_" ∧ ∃ u, (part f.type cs f.offset).run P w = .ok u w ∧ (Instr.checkKey em D f.type u).run P w = .ok () w) :
    (Instr.checkKey em (D + 1) t (.agg cs)).run P w = .ok () w := by
  simp only [Instr.checkKey, Sem.run_bind, underlying, run_program, ht, Result.andThen_ok, Sem.run_pure]
  rw [← Array.forIn_toList]
  clear ht
  generalize fs.toList = l at *
  induction l with
  | nil => rfl
  | cons f l ih =>
    obtain ⟨hn, u, h1, h2⟩ := h f (by simp)
    simp only [List.forIn_cons, Sem.run_bind, hn, ne_eq, not_false_eq_true, if_true, h1, h2, Result.andThen_ok, Sem.run_pure]
    exact ih (fun f hf => h f (by simp [hf]))
theorem keyVal_ok [Val] (hX : XOK P X) : ∀ (d t : Nat) (k : AV), keyVal X d t k = true → ∀ (v : Value), vrel φ k v → ∀ (em : Bool) (D : Nat), d ≤ D → ∀ w, (Instr.checkKey em D t v).run P w = .ok () w
  | 0, _, _, h => by simp [keyVal] at h
  | d + 1, t, k, h => by
    intro v hv em D hD w
    obtain ⟨D, rfl⟩ : ∃ E, D = E + 1 := ⟨D - 1, by omega⟩
    unfold keyVal at h
    split at h
    · simp at h
    · rename_i i hi
      have ti := hX.ti _ _ hi
      split at h
      · rename_i hd
        simp only [vrel] at hv; subst hv
        simp [Instr.checkKey, underlying, ti.und, hd]
      · rename_i hd
        simp only [vrel] at hv; subst hv
        simp [Instr.checkKey, underlying, ti.und, hd]
      · rename_i hd
        simp only [vrel] at hv; obtain ⟨b, rfl, _⟩ := hv
        simp [Instr.checkKey, underlying, ti.und, hd]
      · rename_i fs cs hd
        simp only [vrel] at hv; obtain ⟨xs, rfl, hx⟩ := hv
        refine checkKey_struct (by rw [ti.und, hd]) ?_
        intro f hf
        have := List.all_eq_true.1 h f hf
        simp only [Bool.and_eq_true] at this
        obtain ⟨h1, h2⟩ := this
        split at h2
        · rename_i a ha
          obtain ⟨u, k1, k2⟩ := run_part hX hx ha
          exact ⟨by simpa [isBlank] using h1, u, k1 w, keyVal_ok hX d f.type a h2 u k2 em D (by omega) w⟩
        · simp at h2
      · simp at h
def fres [Val] (φ : Phi) (r : Option (Nat × AV)) (r' : Option (Nat × Value)) : Prop :=
  match r, r' with
  | none, none => True
  | some (i, a), some (j, u) => i = j ∧ vrel φ a u
  | _, _ => False
theorem findAsking_ok [Val] (hX : XOK P X) {t : Nat} {k : AV} {v : Value} (hk : vrel φ k v) : ∀ {es : List (AV × AV × Nat)} {l : List MapEntry} {i : Nat} {r : Option (Nat × AV)}, afind X t k es i = some r → mrel φ es l →
    ∃ r', (∀ w, (Instr.findAsking t v l i).run P w = .ok r' w) ∧ fres φ r r'
  | [], l, i, r, h, hr => by
    simp [afind] at h; subst h; simp only [mrel] at hr; subst hr
    exact ⟨none, fun w => rfl, trivial⟩
  | (k', x, b) :: es, l, i, r, h, hr => by
    simp only [mrel] at hr
    obtain ⟨e, l', rfl, h1, h2, h3, h4⟩ := hr
    simp only [afind] at h
    split at h
    · rename_i he
      simp at h; subst h
      refine ⟨some (i, e.val), fun w => ?_, rfl, h2⟩
      have := aeq_ok hX 10 t k k' he hk h1 Op.maxDepth (by decide) w
      simp [Instr.findAsking, Op.equal, this]
    · rename_i he
      obtain ⟨r', k1, k2⟩ := findAsking_ok hX hk h h4
      refine ⟨r', fun w => ?_, k2⟩
      have := aeq_ok hX 10 t k k' he hk h1 Op.maxDepth (by decide) w
      simp [Instr.findAsking, Op.equal, this, k1]
    · simp at h
/-- what 'findNow' decides agrees with the equality -/
theorem findNow_ok [Val] {t : Nat} {k : AV} {v : Value} (hk : vrel φ k v) {i0 : TI} (hi : X.ti t = some i0) : ∀ {es : List (AV × AV × Nat)} {l : List MapEntry} {i : Nat} {r : Option (Nat × AV)} {r' : Option (Nat × Value)}, afind X t k es i = some r → mrel φ es l →
    Instr.findNow i0.desc v l i = some r' → fres φ r r'
  | [], l, i, r, r', h, hr, hn => by
    simp [afind] at h; subst h; simp only [mrel] at hr; subst hr
    simp [Instr.findNow] at hn; subst hn; trivial
  | (k', x, b) :: es, l, i, r, r', h, hr, hn => by
    simp only [mrel] at hr
    obtain ⟨e, l', rfl, h1, h2, h3, h4⟩ := hr
    simp only [afind] at h
    have same : ∀ q q', aeq X 10 t k k' = some q → Instr.sameNow i0.desc v e.key = some q' → q = q' := by
      intro q q' hq hq'
      unfold aeq at hq
      rw [hi] at hq
      dsimp only at hq
      split at hq
      case h_1 a c hd =>
        simp only [vrel] at hk h1
        rw [hd, hk, h1] at hq'
        simp [Instr.sameNow] at hq' hq; rw [← hq, ← hq']
      case h_2 hd =>
        simp only [vrel] at hk h1
        rw [hd, hk, h1] at hq'
        rw [cond_dec] at hq
        simp only [Instr.sameNow] at hq'
        split at hq
        · rename_i hkk
          simp [hkk] at hq' hq
          rw [← hq, ← hq', ieq_eq]
        · simp at hq
      case h_3 hd =>
        simp only [vrel] at hk h1
        obtain ⟨a, ha, rfl⟩ := hk
        obtain ⟨c, hc, rfl⟩ := h1
        rw [hd, ha, hc] at hq'
        simp [Instr.sameNow] at hq' hq
        rw [← hq, ← hq', bytes_toList, bytes_toList, seq_map, beq_toListBytes]
      case h_23 => simp at hq
      all_goals
        rename_i hd
        rw [hd] at hq'
        simp [Instr.sameNow] at hq'
    simp only [Instr.findNow] at hn
    split at h
    · rename_i he
      simp at h; subst h
      split at hn
      · simp at hn; subst hn; exact ⟨rfl, h2⟩
      · rename_i hs; exact absurd (same _ _ he hs) (by simp)
      · simp at hn
    · rename_i he
      split at hn
      · rename_i hs; exact absurd (same _ _ he hs) (by simp)
      · exact findNow_ok hk hi h h4 hn
      · simp at hn
    · simp at h
theorem findKey_ok [Val] (hX : XOK P X) {t : Nat} {k : AV} {v : Value} (hk : vrel φ k v) {i0 : TI} (hi : X.ti t = some i0) {es : List (AV × AV × Nat)} {l : List MapEntry} {r : Option (Nat × AV)} (h : afind X t k es 0 = some r) (hr : mrel φ es l) :
    ∃ r', (∀ w, (Instr.findKey t v l).run P w = .ok r' w) ∧ fres φ r r' := by
  have ti := hX.ti _ _ hi
  cases hn : Instr.findNow i0.desc v l 0 with
  | some r' => exact ⟨r', fun w => by simp [Instr.findKey, underlying, ti.und, hn], findNow_ok hk hi h hr hn⟩
  | none =>
    obtain ⟨r', h1, h2⟩ := findAsking_ok hX hk h hr
    exact ⟨r', fun w => by simp [Instr.findKey, underlying, ti.und, hn, h1], h2⟩
theorem zero_rel [Val] {t : Nat} {i : TI} (ti : TIok P t i) {z : AV} (hz : (match i.desc with
      | .struct _ => some (.agg i.zero)
      | .array _ _ => some (.agg i.zero)
      | _ => match i.zero with | [z] => some z | _ => none) = some z) : ∃ u, (∀ w, (zeroValue t).run P w = .ok u w) ∧ ∀ φ, vrel φ z u := by
  obtain ⟨j, a, _, _, u, hu, k1, k2⟩ := ti.info
  have hrun : ∀ w, (zeroValue t).run P w = .ok u w := fun w => by simp [zeroValue, typeInfo, a, hu]
  refine ⟨u, hrun, fun φ => ?_⟩
  have agg : aggD i.desc = true → some (AV.agg i.zero) = some z → vrel φ z u := by
    intro hd h
    rw [hd] at k1
    simp at h; subst h
    cases u <;> simp [aggV] at k1
    exact ⟨_, rfl, k2 φ⟩
  cases hd : i.desc with
  | struct fs => rw [hd] at hz; exact agg (by rw [hd]; rfl) hz
  | array n e => rw [hd] at hz; exact agg (by rw [hd]; rfl) hz
  | _ =>
    rw [hd] at hz k1
    dsimp only at hz
    split at hz
    · rename_i z' hz'
      simp at hz; subst hz
      have := k2 φ
      rw [hz'] at this
      simp only [vrels] at this
      obtain ⟨v, vs, e, hv, rfl⟩ := this
      cases u <;> simp [aggV, aggD] at k1 <;> simp [Value.cells] at e <;> subst e <;> exact hv
    · simp at hz
theorem map_at [Val] (hw : wrel φ H w) {r : Nat} {es : List (AV × AV × Nat)} {clock : Nat} (hg : H.get r = some (.map es clock)) {L : Loc} (hL : φ r = some L) :
    ∃ ea, w.heap[L.blk]? = some (.map ea clock) ∧ mrel φ es ea.toList := by
  obtain ⟨l, o, h1, h2, h3⟩ := hw.blk r _ hg
  rw [hL] at h1; cases h1
  simp only [brel] at h3
  obtain ⟨ea, rfl, h⟩ := h3
  exact ⟨ea, h2, h⟩

theorem read_ok [Val] (hX : XOK P X) (hw : wrel φ H w) {n : Nat} {e : Env} {a : Act} (he : erel φ n e a.tmps) {o : Oper} {v : AV} (h : readOp X e H o.op = some v) :
    ∃ u, (execOp a.eval o).run P w = .ok (.value u) w ∧ vrel φ v u := by
  obtain ⟨dst, op, type, pos, after, guard⟩ := o
  dsimp only at h
  have fin : ∀ (s : Sem Value) (hs : execOp a.eval ⟨dst, op, type, pos, after, guard⟩ = (do pure (.value (← s)))), (∃ z, s.run P w = .ok z w ∧ vrel φ v z) →
      ∃ u, (execOp a.eval ⟨dst, op, type, pos, after, guard⟩).run P w = .ok (.value u) w ∧ vrel φ v u := by
    intro s hs ⟨z, h1, h2⟩
    exact ⟨z, by rw [hs]; simp [h1], h2⟩
  cases op with
  | load t x =>
    simp only [readOp] at h
    split at h
    · rename_i b o hp
      have hp := opd_ok he hp
      simp only [vrel] at hp
      obtain ⟨L, h1, h2⟩ := hp
      obtain ⟨u, k1, k2⟩ := loadAt_ok hX hw h h1
      exact fin (Instr.loadAt t (a.eval x)) rfl ⟨u, by simp [Instr.loadAt, h2, Instr.sureAddr, k1], k2⟩
    · rename_i cs o hp
      have hp := opd_ok he hp
      simp only [vrel] at hp
      obtain ⟨g, off, c, ty, fz, h2, hro, hfit, hrel⟩ := hp
      obtain ⟨u, k1, k2⟩ := loadR_ok hX hw hro hfit hrel h
      exact fin (Instr.loadAt t (a.eval x)) rfl ⟨u, by simp [Instr.loadAt, h2, Instr.sureAddr, k1], k2⟩
    · simp at h
  | binOp op t x y yt =>
    simp only [readOp] at h
    split at h
    · rename_i b o hp
      split at h
      · rename_i b' o' hq
        have hp := opd_ok he hp
        have hq := opd_ok he hq
        simp only [vrel] at hp hq
        obtain ⟨L, p1, p2⟩ := hp
        obtain ⟨L', q1, q2⟩ := hq
        split at h
        · simp at h
        · rename_i i hi
          have ti := hX.ti _ _ hi
          split at h
          · rename_i el hd
            split at h
            · simp at h
            · rename_i ei hei
              have te := hX.ti _ _ hei
              obtain ⟨j, j1, j2, _⟩ := te.info
              rw [nbeq, cond_dec] at h
              split at h
              · simp at h
              · rename_i hz
                split at h
                · rename_i t1 cs1 t2 cs2 g1 g2
                  have blk' : ∀ {b : Nat} {t : TypeId} {cs : List AV}, blk H b = some (t, cs, false) → H.get b = some (.cells t cs false) := by
                    intro b t cs hb
                    unfold blk at hb
                    split at hb
                    · rename_i hg; simp at hb; obtain ⟨rfl, rfl, rfl⟩ := hb; exact hg
                    · simp at hb
                  have g1 := blk' g1
                  have g2 := blk' g2
                  obtain ⟨c1, f1, w1, _, _, _, s1, _⟩ := cells_at hw g1 p1
                  obtain ⟨c2, f2, w2, _, _, _, s2, _⟩ := cells_at hw g2 q1
                  have key : (sameAddr ⟨L.blk, L.base + o, none⟩ ⟨L'.blk, L'.base + o', none⟩).run P w = .ok (Nat.beq b b' && Nat.beq o o') w := by
                    by_cases hb : b = b'
                    · subst hb
                      rw [p1] at q1; cases q1
                      simp [sameAddr, nbeq]
                      rw [Bool.eq_iff_iff]; simp
                    · have hblk : ¬ L.blk = L'.blk := fun e => hb (hw.inj b b' _ _ L L' g1 g2 p1 q1 e)
                      have z1 := (s1 rfl).2
                      have z2 := (s2 rfl).2
                      have fz1 : ∀ q, w.frozen? ⟨L.blk, q, none⟩ = false := fun q => by
                        simp only [World.frozen?, w1]; have := z1 q; simp at this ⊢; exact this
                      have fz2 : ∀ q, w.frozen? ⟨L'.blk, q, none⟩ = false := fun q => by
                        simp only [World.frozen?, w2]; have := z2 q; simp at this ⊢; exact this
                      simp [sameAddr, hblk, fz1, fz2, noView, viewAt, World.shape?, w1, w2, mayBeOne, stringish, nbeq, hb]
                  have eqv : (Op.equal t (a.eval x) (a.eval y)).run P w = .ok (Nat.beq b b' && Nat.beq o o') w := by
                    have gen : ∀ d, (Op.equalIn (d + 1) t (a.eval x) (a.eval y)).run P w = .ok (Nat.beq b b' && Nat.beq o o') w := by
                      intro d
                      simp only [Op.equalIn, p2, q2, Sem.run_bind, ti.run_und, hd, Result.andThen_ok]
                      simp only [te.run_size, Result.andThen_ok]
                      rw [if_pos (by simpa using hz)]
                      exact key
                    exact gen 9999
                  split at h
                  · simp at h; subst h
                    refine fin (do eqGuard .eql t x y (a.eval x) (a.eval y); Go.binOp .eql t (a.eval x) (a.eval y)) rfl ⟨.bool (Nat.beq b b' && Nat.beq o o'), ?_, by simp [vrel]⟩
                    have hb2 : Go.binOp .eql t (a.eval x) (a.eval y) = (do pure (.bool (← Op.equal t (a.eval x) (a.eval y)))) := by rw [p2, q2]; rfl
                    have hg : (eqGuard .eql t x y (a.eval x) (a.eval y)).run P w = .ok () w := by rw [p2, q2]; rfl
                    rw [hb2]
                    simp [hg, eqv]
                  · simp at h; subst h
                    refine fin (do eqGuard .neq t x y (a.eval x) (a.eval y); Go.binOp .neq t (a.eval x) (a.eval y)) rfl ⟨.bool (!(Nat.beq b b' && Nat.beq o o')), ?_, by simp [vrel]⟩
                    have hb2 : Go.binOp .neq t (a.eval x) (a.eval y) = (do pure (.bool (!(← Op.equal t (a.eval x) (a.eval y))))) := by rw [p2, q2]; rfl
                    have hg : (eqGuard .neq t x y (a.eval x) (a.eval y)).run P w = .ok () w := by rw [p2, q2]; rfl
                    rw [hb2]
                    simp [hg, eqv]
                  · simp at h
                · simp at h
          · simp at h
      · simp at h
    · simp at h
  | convert s d x =>
    simp only [readOp] at h
    split at h
    · simp at h
    · rename_i p hp
      have hp := opd_ok he hp
      split at h
      · simp at h
      · rename_i di hdi
        split at h
        · simp at h
        · rename_i si hsi
          have td := hX.ti _ _ hdi
          have ts := hX.ti _ _ hsi
          split at h
          · rename_i hdd
            split at h
            · rename_i el hds
              split at h
              · simp at h
              · rename_i ei hei
                have te := hX.ti _ _ hei
                refine fin (Go.convert s d (a.eval x)) rfl ?_
                split at h
                · rename_i hk _
                  simp at h; subst h; simp only [vrel] at hp
                  exact ⟨.string .empty, by simp [Go.convert, underlying, td.und, ts.und, te.und, hdd, hds, hk, hp, Conv.bytesToString], _, rfl, rfl⟩
                · rename_i hk _
                  simp at h; subst h; simp only [vrel] at hp
                  obtain ⟨q, c, hp⟩ := hp
                  have := run_bytesToString (P := P) w q 0 c [] (by simp [loadCells, loadCellsFrom])
                  exact ⟨.string .empty, (by simp [Go.convert, underlying, td.und, ts.und, te.und, hdd, hds, hk, hp, this] <;> rfl), _, rfl, rfl⟩
                · rename_i b o len cap hk _
                  split at h
                  · simp at h
                  · rename_i cs hr
                    split at h
                    · simp at h
                    · rename_i s' hs'
                      simp at h; subst h; simp only [vrel] at hp
                      obtain ⟨L, c, hL, hp, _⟩ := hp
                      obtain ⟨us, u1, u2, u3⟩ := loadCells_ok (P := P) hw hr hL
                      obtain ⟨e1, e2⟩ := bytesOf_ok hs' u2
                      rw [e1] at u3
                      have := run_bytesToString (P := P) w _ len c _ u3
                      refine ⟨_, by simp [Go.convert, underlying, td.und, ts.und, te.und, hdd, hds, hk, hp, this]; rfl, _, rfl, ?_⟩
                      have := bytes_fold s' e2 .empty
                      simpa [bytes_empty] using this
                · rename_i cs len sz hk _
                  rw [nbeq, cond_dec] at h
                  split at h
                  · rename_i hsz
                    split at h
                    · simp at h
                    · rename_i s' hs'
                      simp at h; subst h; simp only [vrel] at hp
                      obtain ⟨g, off, c, ca, ty, fz, hp, _, hcl, hro, hfit, hrel⟩ := hp
                      obtain ⟨us, u1, u2, u3⟩ := ro_loadCells (P := P) hw hro hfit hrel (o := 0) (n := len) (by rw [hcl, hsz]; omega)
                      rw [List.drop_zero, List.take_of_length_le (by rw [hcl, hsz]; omega)] at u2
                      rw [Nat.add_zero] at u3
                      obtain ⟨e1, e2⟩ := bytesOf_ok hs' u2
                      rw [e1] at u3
                      have := run_bytesToString (P := P) w _ len c _ u3
                      refine ⟨_, by simp [Go.convert, underlying, td.und, ts.und, te.und, hdd, hds, hk, hp, this]; rfl, _, rfl, ?_⟩
                      have := bytes_fold s' e2 .empty
                      simpa [bytes_empty] using this
                  · simp at h
                · rename_i cs len sz hk _
                  rw [nbeq, cond_dec] at h
                  split at h
                  · rename_i hsz
                    split at h
                    · simp at h
                    · rename_i s' hs'
                      simp at h; subst h; simp only [vrel] at hp
                      obtain ⟨g, off, c, ca, ty, fz, hp, _, hcl, hro, hfit, hrel⟩ := hp
                      obtain ⟨us, u1, u2, u3⟩ := ro_loadCells (P := P) hw hro hfit hrel (o := 0) (n := len) (by rw [hcl, hsz]; omega)
                      rw [List.drop_zero, List.take_of_length_le (by rw [hcl, hsz]; omega)] at u2
                      rw [Nat.add_zero] at u3
                      obtain ⟨ns, e1, e2⟩ := runesOf_ok hs' u2
                      rw [e1] at u3
                      have := run_runesToString (P := P) w _ len c _ u3
                      refine ⟨_, by simp [Go.convert, underlying, td.und, ts.und, te.und, hdd, hds, hk, hp, this]; rfl, _, rfl, ?_⟩
                      have := e2 .empty
                      simpa [bytes_empty, runesBytes] using this
                  · simp at h
                · rename_i hk _
                  simp at h; subst h; simp only [vrel] at hp
                  exact ⟨.string .empty, by simp [Go.convert, underlying, td.und, ts.und, te.und, hdd, hds, hk, hp, Conv.runesToString], _, rfl, rfl⟩
                · rename_i hk _
                  simp at h; subst h; simp only [vrel] at hp
                  obtain ⟨q, c, hp⟩ := hp
                  have := run_runesToString (P := P) w q 0 c [] (by simp [loadCells, loadCellsFrom])
                  exact ⟨.string .empty, (by simp [Go.convert, underlying, td.und, ts.und, te.und, hdd, hds, hk, hp, this] <;> rfl), _, rfl, rfl⟩
                · rename_i b o len cap hk _
                  split at h
                  · simp at h
                  · rename_i cs hr
                    split at h
                    · simp at h
                    · rename_i s' hs'
                      simp at h; subst h; simp only [vrel] at hp
                      obtain ⟨L, c, hL, hp, _⟩ := hp
                      obtain ⟨us, u1, u2, u3⟩ := loadCells_ok (P := P) hw hr hL
                      obtain ⟨ns, e1, e2⟩ := runesOf_ok hs' u2
                      rw [e1] at u3
                      have := run_runesToString (P := P) w _ len c _ u3
                      refine ⟨_, by simp [Go.convert, underlying, td.und, ts.und, te.und, hdd, hds, hk, hp, this]; rfl, _, rfl, ?_⟩
                      have := e2 .empty
                      simpa [bytes_empty, runesBytes] using this
                · simp at h
            · simp at h
          · simp at h
  | lookup t x ix ok =>
    simp only [readOp] at h
    split at h
    · simp at h
    · rename_i i hi
      have ti := hX.ti _ _ hi
      split at h
      · rename_i kt et hd
        split at h
        · simp at h
        · rename_i k hk
          have hk := opd_ok he hk
          cases hkv : keyVal X 4 kt k with
          | false => simp [hkv] at h
          | true =>
            simp only [hkv, cond_true] at h
            split at h
            · simp at h
            · rename_i ei hei
              have te := hX.ti _ _ hei
              split at h
              · simp at h
              · rename_i z hz
                obtain ⟨zu, z1, z2⟩ := zero_rel te hz
                have chk := fun em => keyVal_ok hX 4 kt k hkv _ hk em 10000 (by omega) w
                have done : ∀ (r : Option (Nat × AV)) (r' : Option (Nat × Value)), fres φ r r' → some (bif ok then AV.tup [(match r with | some (_, v) => v | none => z), .bool (match r with | some _ => true | none => false)] else (match r with | some (_, v) => v | none => z)) = some v →
                    ∃ (vv : Value) (bb : Bool), ((∃ j, r' = some (j, vv) ∧ bb = true) ∨ (r' = none ∧ vv = zu ∧ bb = false)) ∧ vrel φ v (if ok then .tuple #[vv, .bool bb] else vv) := by
                  intro r r' hr hv
                  cases r with
                  | none =>
                    cases r' with
                    | some _ => simp [fres] at hr
                    | none =>
                      refine ⟨zu, false, .inr ⟨rfl, rfl, rfl⟩, ?_⟩
                      cases ok
                      · simp at hv; subst hv; exact z2 φ
                      · simp at hv; subst hv
                        exact ⟨_, rfl, vrels_cons (z2 φ) (vrels_cons rfl vrels_nil)⟩
                  | some y =>
                    cases r' with
                    | none => simp [fres] at hr
                    | some y' =>
                      obtain ⟨_, y1⟩ := y
                      obtain ⟨j, y2⟩ := y'
                      simp only [fres] at hr
                      refine ⟨y2, true, .inl ⟨j, rfl, rfl⟩, ?_⟩
                      cases ok
                      · simp at hv; subst hv; exact hr.2
                      · simp at hv; subst hv
                        exact ⟨_, rfl, vrels_cons hr.2 (vrels_cons rfl vrels_nil)⟩
                have cki : ∃ ki, X.ti kt = some ki := by
                  unfold keyVal at hkv
                  split at hkv
                  · simp at hkv
                  · rename_i ki hki; exact ⟨ki, hki⟩
                obtain ⟨ki, hki⟩ := cki
                refine fin (Instr.lookup t (a.eval x) (a.eval ix) ok) rfl ?_
                split at h
                · simp at h
                · rename_i r hr
                  split at hr
                  · rename_i hx
                    have hx := opd_ok he hx
                    simp only [vrel] at hx
                    simp at hr; subst hr
                    obtain ⟨r', f1, f2⟩ := findKey_ok (r := none) hX hk hki (es := []) (l := []) (by simp [afind]) (by simp [mrel])
                    obtain ⟨vv, bb, q1, q2⟩ := done none r' f2 h
                    refine ⟨_, ?_, q2⟩
                    rcases q1 with ⟨j, rfl, rfl⟩ | ⟨rfl, rfl, rfl⟩
                    · simp [Instr.lookup, underlying, ti.und, hd, hx, chk, f1]
                    · simp [Instr.lookup, underlying, ti.und, hd, hx, chk, f1, z1]
                  · rename_i m hx
                    have hx := opd_ok he hx
                    simp only [vrel] at hx
                    obtain ⟨L, l1, l2⟩ := hx
                    split at hr
                    · rename_i es clock hg
                      obtain ⟨ea, m1, m2⟩ := map_at hw hg l1
                      obtain ⟨r', f1, f2⟩ := findKey_ok hX hk hki hr m2
                      obtain ⟨vv, bb, q1, q2⟩ := done r r' f2 h
                      refine ⟨_, ?_, q2⟩
                      have hgo : (getObj L.blk).run P w = .ok (.map ea clock) w := by simp [getObj, Sem.run, m1]
                      rcases q1 with ⟨j, rfl, rfl⟩ | ⟨rfl, rfl, rfl⟩
                      · simp [Instr.lookup, underlying, ti.und, hd, l2, chk, f1, hgo]
                      · simp [Instr.lookup, underlying, ti.und, hd, l2, chk, f1, hgo, z1]
                    · simp at hr
                  · simp at hr
      · simp at h
  | call c =>
    obtain ⟨cal, args, tys⟩ := c
    cases cal with
    | value f => simp [readOp] at h
    | invoke r m => simp [readOp] at h
    | builtin b =>
      cases b with
      | len =>
        simp only [readOp] at h
        split at h
        · rename_i x hx
          split at h
          · rename_i t ts ht
            split at h
            · simp at h
            · rename_i i hi
              have ti := hX.ti _ _ hi
              have args1 : args.map a.eval = #[a.eval x] := by
                have : args = #[x] := by apply Array.toList_inj.1; simpa using hx
                subst this; simp
              have tys1 : tys[0]? = some t := by rw [← Array.getElem?_toList, ht]; rfl
              refine fin (Builtin.len_ tys type (args.map a.eval)) rfl ?_
              split at h
              · rename_i m hd hp
                have hp := opd_ok he hp
                simp only [vrel] at hp
                obtain ⟨L, l1, l2⟩ := hp
                split at h
                · rename_i es clock hg
                  simp at h; subst h
                  obtain ⟨ea, m1, m2⟩ := map_at hw hg l1
                  have hgo : (getObj L.blk).run P w = .ok (.map ea clock) w := by simp [getObj, Sem.run, m1]
                  have := mrel_length m2
                  exact ⟨_, by simp [Builtin.len_, args1, tys1, underlying, ti.und, hd, l2, goInt, hgo]; rfl, by simp [vrel, this]⟩
                · simp at h
              · simp at h
          · simp at h
        · simp at h
      | _ => simp [readOp] at h
  | _ => simp [readOp] at h
end
end GX
/- GX: the operations that make one block. -/

namespace GX
open Go
section
variable {P : Program} {X : X} {φ : Phi} {w : World}

theorem decodeR_eq (s : ByteArray) (i : Nat) (hi : i < s.size) : decodeR ((bytes s).drop i) = Utf8.decode s i := by
  have hlen := bytes_length s
  have hd : (bytes s).drop i = (bytes s)[i]'(by omega) :: (bytes s).drop (i + 1) := List.drop_eq_getElem_cons (by omega)
  have hb0 : (bytes s)[i]'(by omega) = (s.get! (i + 0)).toNat := by
    have := bytes_get s i
    rw [List.getElem?_eq_getElem (by omega), getElem?_pos s i hi] at this
    simp at this
    rw [this]
    simp [ByteArray.get!, hi]
    rfl
  have hl : ∀ k, ((bytes s).drop (i + 1))[k]? = if i + (k + 1) < s.size then some (s.get! (i + (k + 1))).toNat else none := by
    intro k
    rw [List.getElem?_drop, bytes_get, show i + 1 + k = i + (k + 1) by omega]
    split
    · rename_i h
      rw [getElem?_pos s _ h]
      simp [ByteArray.get!, h]
      rfl
    · rename_i h
      rw [getElem?_neg s _ (by simpa using h)]; rfl
  have hg : ∀ k, i + (k + 1) < s.size → ((bytes s).drop (i + 1)).getD k 0 = (s.get! (i + (k + 1))).toNat := by
    intro k hk
    rw [List.getD_eq_getElem?_getD, hl, if_pos hk]; rfl
  have hc : ∀ k, (((bytes s).drop (i + 1)).getD k 0 / 64 == 2) = (decide (i + (k + 1) < s.size) && (s.get! (i + (k + 1))).toNat / 64 == 2) := by
    intro k
    rw [List.getD_eq_getElem?_getD, hl]
    by_cases hk : i + (k + 1) < s.size <;> simp [hk]
  rw [hd]
  unfold decodeR Utf8.decode
  dsimp only
  rw [hb0]
  generalize hl1 : (bytes s).drop (i + 1) = l1 at *
  have g0 := hg 0
  have g1 := hg 1
  have g2 := hg 2
  simp only [Nat.zero_add, Nat.reduceAdd] at g0 g1 g2
  simp only [hc, Nat.zero_add, Nat.reduceAdd]
  clear hc hg hl hl1 hb0 hd
  by_cases h0 : (s.get! (i + 0)).toNat < 128
  · simp only [h0, if_true]
  · simp only [h0, if_false]
    by_cases h1 : ((s.get! (i + 0)).toNat / 32 == 6 && (decide (i + 1 < s.size) && (s.get! (i + 1)).toNat / 64 == 2)) = true
    · simp only [h1, if_true]
      simp only [Bool.and_eq_true, decide_eq_true_eq] at h1
      simp only [g0 h1.2.1]
    · simp only [Bool.not_eq_true] at h1; simp only [h1, Bool.false_eq_true, if_false]
      by_cases h2 : ((s.get! (i + 0)).toNat / 16 == 14 && (decide (i + 1 < s.size) && (s.get! (i + 1)).toNat / 64 == 2) && (decide (i + 2 < s.size) && (s.get! (i + 2)).toNat / 64 == 2)) = true
      · simp only [h2, if_true]
        simp only [Bool.and_eq_true, decide_eq_true_eq] at h2
        simp only [g0 h2.1.2.1, g1 h2.2.1]
      · simp only [Bool.not_eq_true] at h2; simp only [h2, Bool.false_eq_true, if_false]
        by_cases h3 : ((s.get! (i + 0)).toNat / 8 == 30 && (decide (i + 1 < s.size) && (s.get! (i + 1)).toNat / 64 == 2) && (decide (i + 2 < s.size) && (s.get! (i + 2)).toNat / 64 == 2) && (decide (i + 3 < s.size) && (s.get! (i + 3)).toNat / 64 == 2)) = true
        · simp only [h3, if_true]
          simp only [Bool.and_eq_true, decide_eq_true_eq] at h3
          simp only [g0 h3.1.1.2.1, g1 h3.1.2.1, g2 h3.2.1]
        · simp only [Bool.not_eq_true] at h3; simp only [h3, Bool.false_eq_true, if_false]
theorem runesFrom_eq [Val] (s : ByteArray) : ∀ (b i : Nat) (acc : Array Value), ∃ us : List Value, Conv.runesFrom s b i acc = acc ++ us.toArray ∧ ∀ φ, vrels φ (runesFrom b ((bytes s).drop i)) us
  | 0, i, acc => ⟨[], by simp [Conv.runesFrom], fun _ => rfl⟩
  | b + 1, i, acc => by
    by_cases hi : i < s.size
    · have hd : (bytes s).drop i = (bytes s)[i]'(by rw [bytes_length]; exact hi) :: (bytes s).drop (i + 1) := List.drop_eq_getElem_cons _
      have hdec := decodeR_eq s i hi
      obtain ⟨us, h1, h2⟩ := runesFrom_eq s b (i + (Utf8.decode s i).2) (acc.push (.int .i32 (Int.ofNat (Utf8.decode s i).1)))
      refine ⟨.int .i32 (Int.ofNat (Utf8.decode s i).1) :: us, ?_, fun φ => ?_⟩
      · simp only [Conv.runesFrom, hi, if_true]
        rw [h1]
        apply Array.ext'
        simp
      · simp only [runesFrom]
        rw [hd]
        dsimp only
        rw [← hd, hdec, List.drop_drop]
        exact vrels_cons rfl (h2 φ)
    · refine ⟨[], by simp [Conv.runesFrom, hi], fun φ => ?_⟩
      rw [List.drop_eq_nil_of_le (by rw [bytes_length]; omega)]
      rfl
theorem range_map_mod (zs : List Value) (m : Nat) (hm : zs.length = m) : ∀ n, (List.range (n * m)).map (fun i => zs.toArray[i % zs.toArray.size]!) = (List.replicate n zs).flatten
  | 0 => by simp
  | n + 1 => by
    rw [Nat.succ_mul, Nat.add_comm, List.range_add, List.map_append, List.replicate_succ, List.flatten_cons, ← range_map_mod zs m hm n]
    congr 1
    · apply List.ext_getElem?
      intro j
      rw [List.getElem?_map]
      by_cases hj : j < m
      · rw [List.getElem?_range hj, List.getElem?_eq_getElem (by omega)]
        simp [hm, Nat.mod_eq_of_lt hj, hj]
      · rw [List.getElem?_eq_none (by simp; omega), List.getElem?_eq_none (by omega)]; rfl
    · rw [List.map_map]
      apply List.map_congr_left
      intro j _
      simp [hm]
theorem rep_rel [Val] {φ : Phi} {z : List AV} {zs : List Value} (h : vrels φ z zs) : ∀ n, vrels φ (rep z n) (List.replicate n zs).flatten
  | 0 => rfl
  | n + 1 => by rw [List.replicate_succ, List.flatten_cons]; exact vrels_append h (rep_rel h n)
theorem rep_length (z : List AV) : ∀ n, (rep z n).length = n * z.length
  | 0 => by simp [rep]
  | n + 1 => by simp [rep, rep_length z n, Nat.succ_mul]; omega

theorem push_modify {α : Type} (xs : Array α) (o : α) (f : α → α) : (xs.push o).modify xs.size f = xs.push (f o) := by
  apply Array.ext_getElem?
  intro i
  rw [Array.getElem?_modify, Array.getElem?_push, Array.getElem?_push]
  by_cases h : i = xs.size
  · subst h; simp
  · simp [h, Ne.symm h]

theorem freeze_alloc_heap (w : World) (c : Array Value) (t : TypeId) (n : Nat) : ((w.alloc (.cells c t)).freeze ⟨w.heap.size, n, none⟩ 1).heap = w.heap.push (.cells c t (n, n + 1)) := by
  unfold World.freeze
  rw [if_neg (by omega)]
  have h1 : (w.alloc (.cells c t)).heap = w.heap.push (.cells c t) := rfl
  dsimp only
  rw [h1, push_modify]
  rfl

theorem runesFrom_le : ∀ (b : Nat) (l : List Nat), (runesFrom b l).length ≤ b
  | 0, _ => by simp [runesFrom]
  | b + 1, [] => by simp [runesFrom]
  | b + 1, x :: l => by
    simp only [runesFrom, List.length_cons]
    have := runesFrom_le b ((x :: l).drop (decodeR (x :: l)).2)
    omega
/-- a new block -/
structure Made [Val] (φ : Phi) (w w' : World) (id : Nat) (ab : AB) (v : AV) (u : Value) : Prop where
  heap : ∃ o tot, w'.heap = w.heap.push o ∧ ∀ φ', Sub φ φ' → φ' id = some ⟨w.heap.size, 0, tot⟩ → brel φ' ab ⟨w.heap.size, 0, tot⟩ o ∧ vrel φ' v u
  os : w'.os = w.os
  tape : w'.tape = w.tape
  output : w'.output = w.output

theorem made_closed [Val] {id : Nat} {t : TypeId} {cs : List AV} {c : Array Value} {v : AV} {u : Value} (hc : vrels φ cs c.toList) (hv : ∀ φ', φ' id = some ⟨w.heap.size, 0, c.size⟩ → vrel φ' v u) :
    Made φ w (w.alloc (.cells c t)) id (.cells t cs false) v u := by
  refine ⟨⟨.cells c t, c.size, rfl, fun φ' hs hid => ⟨⟨c, (0, 0), rfl, fun i _ => .inl rfl, rfl, ?_, fun _ => ⟨?_, fun i => by omega⟩, ?_, ?_⟩, hv φ' hid⟩⟩, rfl, rfl, rfl⟩
  · have := vrels_length hc; simp at this ⊢; omega
  · have := vrels_length hc; simp at this ⊢; omega
  · have h2 := vrels_length hc
    have h3 : List.take cs.length (List.drop 0 c.toList) = c.toList := by rw [h2, List.drop_zero, List.take_length]
    show vrels φ' cs (List.take cs.length (List.drop 0 c.toList))
    rw [h3]
    exact vrels_mono hs _ hc
  · have h2 := vrels_length hc
    show flatR (List.drop (0 + cs.length) c.toList)
    rw [List.drop_of_length_le (by simp at h2 ⊢; omega)]; exact flatR_nil
theorem run_buildSlice_any {t el len sz : Nat} {us : Array (Nat × Value)} {cells : Array Value} {z : Value} (hu : P.underlying t = some (.slice el)) (hs : (Go.sizeOf el).run P w = .ok sz w) (hz : (zeroValue el).run P w = .ok z w)
    (hsm : len * sz ≤ 16777216) (h : Instr.fill (fun i => some (i * sz, sz)) ((Array.range (len * sz)).map (z.cells[· % z.cells.size]!)) us.toList = some cells) :
    (Instr.buildSlice t len us).run P w = .ok (.slice (some ⟨w.heap.size, 0, none⟩) len len) (w.alloc (.cells cells el)) := by
  have hu' : (underlying t).run P w = .ok (.slice el) w := by simp [underlying, hu]
  have hsmall : ¬ len * sz > 2 ^ 24 := by simp; omega
  have hr0 : Array.range 0 = #[] := rfl
  by_cases h0 : len * sz = 0
  · have h' : Instr.fill (fun i => some (i * sz, sz)) #[] us.toList = some cells := by
      rw [h0] at h; simpa [hr0] using h
    simp [Instr.buildSlice, hu', hs, h0, h', newRow, hr0]
  · simp only [Instr.buildSlice, Sem.run_bind, hu', Result.andThen_ok, hs, hsmall, if_false, h0, Sem.run_pure, hz]
    simp only [h, Sem.run_bind, newRow, run_newObj, Result.andThen_ok, Sem.run_pure, World.alloc_eq]
theorem alloc_ok [Val] (hX : XOK P X) {n : Nat} {e : Env} {a : Act} (he : erel φ n e a.tmps) {o : Oper} {id : Nat} {ab : AB} {v : AV} (h : allocOp X e id o.op = some (ab, v)) :
    ∃ u w', (execOp a.eval o).run P w = .ok (.value u) w' ∧ Made φ w w' id ab v u := by
  obtain ⟨dst, op, type, pos, after, guard⟩ := o
  dsimp only at h
  have fin : ∀ (s : Sem Value) (hs : execOp a.eval ⟨dst, op, type, pos, after, guard⟩ = (do pure (.value (← s)))), (∃ z w', s.run P w = .ok z w' ∧ Made φ w w' id ab v z) →
      ∃ u w', (execOp a.eval ⟨dst, op, type, pos, after, guard⟩).run P w = .ok (.value u) w' ∧ Made φ w w' id ab v u := by
    intro s hs ⟨z, w', h1, h2⟩
    exact ⟨z, w', by rw [hs]; simp [h1], h2⟩
  cases op with
  | alloc t =>
    simp only [allocOp] at h
    split at h
    · simp at h
    · rename_i i hi
      simp at h; obtain ⟨rfl, rfl⟩ := h
      have ti := hX.ti _ _ hi
      obtain ⟨j, a1, _, _, z, hz, _, k2⟩ := ti.info
      have hrun : (zeroValue t).run P w = .ok z w := by simp [zeroValue, typeInfo, a1, hz]
      refine fin (Instr.alloc t true (.tuple #[])) rfl ⟨.pointer (some ⟨w.heap.size, 0, none⟩), w.alloc (.cells z.cells t), ?_, made_closed (k2 φ) (fun φ' hid => ⟨_, hid, by simp⟩)⟩
      simp [Instr.alloc, hrun, newVar, newRow]
  | box t x =>
    simp only [allocOp] at h
    split at h
    · simp at h
    · rename_i p hp
      simp at h; obtain ⟨rfl, rfl⟩ := h
      have hp := opd_ok he hp
      refine fin (Instr.box t (a.eval x)) rfl ⟨.pointer (some ⟨w.heap.size, 0, none⟩), w.alloc (.cells (a.eval x).cells t), ?_, made_closed (vrel_cells hp) (fun φ' hid => ⟨_, hid, by simp⟩)⟩
      simp [Instr.box, newVar, newRow]
  | buildSlice t len parts =>
    simp only [allocOp] at h
    split at h
    · simp at h
    · rename_i i hi
      have ti := hX.ti _ _ hi
      split at h
      · rename_i el hd
        split at h
        · simp at h
        · rename_i ei hei
          have te := hX.ti _ _ hei
          rw [nbeq, nblt, nbeq] at h
          by_cases hc : ei.size = 0 ∨ 16777216 < len * ei.size ∨ ¬ ei.zero.length = ei.size
          · have : (decide (ei.size = 0) || decide (16777216 < len * ei.size) || !decide (ei.zero.length = ei.size)) = true := by
              rcases hc with h | h | h <;> simp [h]
            rw [this] at h; simp at h
          · have : (decide (ei.size = 0) || decide (16777216 < len * ei.size) || !decide (ei.zero.length = ei.size)) = false := by
              simp at hc ⊢; exact ⟨⟨hc.1, hc.2.1⟩, hc.2.2⟩
            rw [this] at h
            simp only [cond_false] at h
            simp at hc
            split at h
            · simp at h
            · rename_i ps hps
              split at h
              · simp at h
              · rename_i cs hf
                simp at h; obtain ⟨rfl, rfl⟩ := h
                have hparts := opparts_ok he hps
                obtain ⟨j, a1, a2, _, z, hz, _, k2⟩ := te.info
                have hzl := vrels_length (k2 φ)
                have hzs : (List.range (len * ei.size)).map (fun i => z.cells[i % z.cells.size]!) = (List.replicate len z.cells.toList).flatten := by
                  have := range_map_mod z.cells.toList ei.size (by omega) len
                  simpa using this
                obtain ⟨xs, f1, f2⟩ := fill_ok (place := fun i => some (i * ei.size, ei.size)) hparts (rep_rel (k2 φ) len) hf
                have hrun : (zeroValue el).run P w = .ok z w := by simp [zeroValue, typeInfo, a1, hz]
                refine fin _ rfl ⟨.slice (some ⟨w.heap.size, 0, none⟩) len len, w.alloc (.cells xs el), ?_, made_closed f2 (fun φ' hid => ⟨_, _, hid, by simp, rfl, Nat.le_refl _⟩)⟩
                refine run_buildSlice_any (by rw [ti.und, hd]) (te.run_size w) hrun hc.2.1 ?_
                rw [← f1]
                congr 1
                · apply Array.ext'
                  rw [Array.toList_map, Array.toList_range, hzs]
                · simp
      · simp at h
  | makeSlice t l c =>
    simp only [allocOp] at h
    split at h
    · simp at h
    · rename_i i hi
      have ti := hX.ti _ _ hi
      split at h
      · rename_i el hd
        split at h
        · simp at h
        · rename_i ei hei
          have te := hX.ti _ _ hei
          split at h
          · rename_i l' hl
            have hl := opd_ok he hl
            split at h
            · rename_i c' hc
              have hc := opd_ok he hc
              simp only [vrel] at hl hc
              rw [nble, nble, nble, nbeq, nbeq] at h
              by_cases hcond : l' ≤ c' ∧ ei.bytes * c' ≤ 1048576000000 ∧ c' ≤ 1048576000000 ∧ ¬ ei.size = 0 ∧ ei.zero.length = ei.size
              · obtain ⟨h1, h2, h3, h4, h5⟩ := hcond
                simp only [h1, h2, h3, h4, h5, decide_true, decide_false, Bool.not_false, Bool.and_self, cond_true] at h
                simp at h; obtain ⟨rfl, rfl⟩ := h
                obtain ⟨j, a1, a2, a3, z, hz, _, k2⟩ := te.info
                have hrun : (zeroValue el).run P w = .ok z w := by simp [zeroValue, typeInfo, a1, hz]
                have hzl := vrels_length (k2 φ)
                have hzs : (List.range (c' * ei.size)).map (fun i => z.cells[i % z.cells.size]!) = (List.replicate c' z.cells.toList).flatten := by
                  have := range_map_mod z.cells.toList ei.size (by omega) c'
                  simpa using this
                have hcells : vrels φ (rep ei.zero c') ((Array.range (c' * ei.size)).map (z.cells[· % z.cells.size]!)).toList := by
                  rw [Array.toList_map, Array.toList_range, hzs]
                  exact rep_rel (k2 φ) c'
                refine fin (Instr.makeSlice t (a.eval l) (a.eval c)) rfl ⟨.slice (some ⟨w.heap.size, 0, none⟩) l' c', w.alloc (.cells _ el), ?_, made_closed hcells (fun φ' hid => ⟨_, _, hid, by simp, rfl, h1⟩)⟩
                have wl : IntKind.i64.wrap (l' : Int) = l' := wrap_in .i64 _ (fun _ => by have : (lim .i64 : Int) = 9223372036854775808 := rfl; omega) (by have : (lim .i64 : Int) = 9223372036854775808 := rfl; omega) (fun _ => by omega)
                have wc : IntKind.i64.wrap (c' : Int) = c' := wrap_in .i64 _ (fun _ => by have : (lim .i64 : Int) = 9223372036854775808 := rfl; omega) (by have : (lim .i64 : Int) = 9223372036854775808 := rfl; omega) (fun _ => by omega)
                have hb : ¬ ((j.bytes : Int) * (c' : Int) > 2 ^ 48) := by
                  rw [a3]
                  have h2' : ((ei.bytes * c' : Nat) : Int) ≤ 1048576000000 := Int.ofNat_le.2 h2
                  rw [Int.natCast_mul] at h2'
                  have : (2 : Int) ^ 48 = 281474976710656 := rfl
                  omega
                have e1 : a.eval l = .int .i64 (l' : Int) := hl
                have e2 : a.eval c = .int .i64 (c' : Int) := hc
                have n1 : ¬ ((l' : Int) < 0) := by omega
                have n2 : ¬ ((c' : Int) < 0) := by omega
                have n3 : ¬ ((l' : Int) > (c' : Int)) := by omega
                have hti : (typeInfo el).run P w = .ok j w := by simp [typeInfo, a1]
                simp only [Instr.makeSlice, Sem.run_bind, ti.run_und, hd, Result.andThen_ok, e1, e2, asInt, asIntOf, Sem.run_pure, hti, wl, wc]
                have hcnd : ((decide ((c' : Int) < 0) || decide ((j.bytes : Int) * (c' : Int) > 2 ^ 48)) || decide ((l' : Int) < 0) || decide ((l' : Int) > (c' : Int))) = false := by
                  simp only [n1, n2, n3, hb, decide_false, Bool.or_self]
                simp only [Int.toNat_natCast]
                rw [if_neg (by rw [hcnd]; simp)]
                simp only [Sem.run_bind, run_askRoom, Result.andThen_ok, te.run_size]
                by_cases h0 : c' * ei.size = 0
                · have hr0 : Array.range 0 = #[] := rfl
                  simp [h0, newRow, hr0]
                · simp only [h0, if_false, Sem.run_bind, hrun, Result.andThen_ok, Sem.run_pure, newRow, run_newObj, World.alloc_eq]
              · have : (decide (l' ≤ c') && decide (ei.bytes * c' ≤ 1048576000000) && decide (c' ≤ 1048576000000) && !decide (ei.size = 0) && decide (ei.zero.length = ei.size)) = false := by
                  rw [Bool.eq_false_iff]; intro hh; apply hcond; simpa [and_assoc] using hh
                rw [this] at h; simp at h
            · simp at h
          · simp at h
      · simp at h
  | makeMap t r =>
    cases r with
    | none =>
      simp [allocOp] at h; obtain ⟨rfl, rfl⟩ := h
      refine fin (Instr.makeMap t none) rfl ⟨.map (some w.heap.size), w.alloc (.map #[] 0), by simp [Instr.makeMap], ⟨⟨_, 0, rfl, fun φ' hs hid => ⟨⟨#[], rfl, rfl⟩, ⟨_, hid, rfl⟩⟩⟩, rfl, rfl, rfl⟩⟩
    | some _ => simp [allocOp] at h
  | convert s d x =>
    simp only [allocOp] at h
    split at h
    · rename_i st hp
      have hp := opd_ok he hp
      simp only [vrel] at hp
      obtain ⟨bs, hb, hbs⟩ := hp
      split at h
      · simp at h
      · rename_i di hdi
        have td := hX.ti _ _ hdi
        split at h
        · simp at h
        · rename_i si hsi
          have ts := hX.ti _ _ hsi
          split at h
          · rename_i el hd
            split at h
            · simp at h
            · rename_i ei hei
              have te := hX.ti _ _ hei
              rw [nbeq] at h
              by_cases h1 : ei.size = 1
              · simp only [h1, decide_true, Bool.not_true, cond_false] at h
                refine fin (Go.convert s d (a.eval x)) rfl ?_
                split at h
                · rename_i hk
                  rw [nblt, cond_dec] at h
                  split at h
                  case isFalse => simp at h
                  rename_i hlim
                  simp at h; obtain ⟨rfl, rfl⟩ := h
                  have hbl : bs.size < 9223372036854775808 := by rw [← bytes_length, hbs]; exact hlim
                  obtain ⟨cap, hcap, hle, hcl⟩ : ∃ cap, (choose (.appendCap bs.size 0 el)).run P w = .ok cap w.drew ∧ bs.size ≤ cap ∧ cap < 9223372036854775808 := by
                    refine ⟨_, by simp [Question.forced]; rfl, ?_, ?_⟩
                    · simp [Question.cut]
                    · simp only [Question.cut]
                      have := Nat.mod_lt (w.tape w.drawn (.appendCap bs.size 0 el)) (show 0 < 2 ^ 63 - bs.size by omega)
                      omega
                  have hrun : (Go.convert s d (.string bs)).run P w = (Conv.stringToBytes el bs).run P w := by
                    simp only [Go.convert, Sem.run_bind, ts.run_und, td.run_und, hd, Result.andThen_ok]
                    cases si.desc <;> simp [te.run_und, hk]
                  refine ⟨.slice (some ⟨w.heap.size, 0, none⟩) bs.size cap, (w.drew.alloc (.cells ((bs.data.map fun b => Value.int .u8 b.toNat) ++ Array.replicate (cap - bs.size) (.int .u8 0)) el)).freeze ⟨w.heap.size, cap, none⟩ 1, ?_, ?_⟩
                  · rw [hb, hrun]
                    have hsz : bs.size + (cap - bs.size) = cap := by omega
                    simp only [Conv.stringToBytes, Sem.run_bind, hcap, Result.andThen_ok, newRow, run_newObj, Sem.run_pure, World.alloc_eq]
                    have hsh : (w.drew.alloc (.cells ((bs.data.map fun b => Value.int .u8 b.toNat) ++ Array.replicate (cap - bs.size) (.int .u8 0)) el)).shape? w.heap.size = some (el, cap) := by
                      have hbl : (w.drew.alloc (.cells ((bs.data.map fun b => Value.int .u8 b.toNat) ++ Array.replicate (cap - bs.size) (.int .u8 0)) el)).heap[w.heap.size]? = some (.cells ((bs.data.map fun b => Value.int .u8 b.toNat) ++ Array.replicate (cap - bs.size) (.int .u8 0)) el (0, 0)) := by
                        show (w.heap.push _)[w.heap.size]? = _
                        simp
                      simp only [World.shape?, hbl]
                      have : bs.data.size = bs.size := rfl
                      simp [this, hsz]
                    have hd1 : w.drew.heap.size = w.heap.size := rfl
                    simp only [markStringish, Sem.run_bind, hd1, run_shape, hsh, Result.andThen_ok, run_freeze]
                  · have hsz : bs.data.size + (cap - bs.size) = cap := by show bs.size + _ = cap; omega
                    refine ⟨⟨.cells ((bs.data.map fun b => Value.int .u8 b.toNat) ++ Array.replicate (cap - bs.size) (.int .u8 0)) el (cap, cap + 1), cap, ?_, fun φ' hs hid => ⟨⟨_, (cap, cap + 1), rfl, ?_, ?_, ?_, ?_, ?_, ?_⟩, ?_⟩⟩, rfl, rfl, rfl⟩
                    · exact freeze_alloc_heap w.drew _ _ _
                    · intro i hi
                      refine .inr ⟨?_, ?_⟩ <;> (simp at hi ⊢; omega)

                    · simp; omega
                    · subst hbs; simp [sbytes, bytes]
                    · intro h; cases h
                    · subst hbs
                      have : (List.take (sbytes (bytes bs)).length (List.drop 0 ((bs.data.map fun b : UInt8 => Value.int .u8 b.toNat) ++ Array.replicate (cap - bs.size) (Value.int .u8 0)).toList)) = bs.data.toList.map fun b : UInt8 => Value.int .u8 b.toNat := by
                        simp [sbytes, bytes]
                      rw [this]
                      simp only [sbytes, bytes, List.map_map]
                      generalize bs.data.toList = l
                      induction l with
                      | nil => rfl
                      | cons b l ih => exact vrels_cons rfl ih
                    · intro v hv
                      have hv2 := List.mem_of_mem_drop hv
                      simp only [Array.toList_append, List.mem_append, Array.toList_map, List.mem_map, Array.toList_replicate, List.mem_replicate] at hv2
                      rcases hv2 with ⟨x, _, rfl⟩ | ⟨_, rfl⟩
                      · exact ⟨.int .u8 x.toNat, rfl⟩
                      · exact ⟨.int .u8 0, rfl⟩
                    · subst hbs
                      exact ⟨_, cap, hid, by rw [bytes_length], by rw [bytes_length]; exact hle, by simp, hcl⟩
                · rename_i hk
                  rw [nblt, cond_dec] at h
                  split at h
                  case isFalse => simp at h
                  rename_i hlim
                  simp at h; obtain ⟨rfl, rfl⟩ := h
                  obtain ⟨us, r1, r2⟩ := runesFrom_eq bs bs.size 0 #[]
                  have r1' : Conv.runesFrom bs bs.size 0 #[] = us.toArray := by simpa using r1
                  have hul := vrels_length (r2 φ)
                  simp only [List.drop_zero, ← bytes_length, hbs] at r1' hul r2
                  have hbl : us.length < 9223372036854775808 := by
                    rw [← hul]
                    exact Nat.lt_of_le_of_lt (runesFrom_le _ _) hlim
                  obtain ⟨cap, hcap, hle, hcl⟩ : ∃ cap, (choose (.appendCap us.length 0 el)).run P w = .ok cap w.drew ∧ us.length ≤ cap ∧ cap < 9223372036854775808 := by
                    refine ⟨_, by simp [Question.forced]; rfl, ?_, ?_⟩
                    · simp [Question.cut]
                    · simp only [Question.cut]
                      have := Nat.mod_lt (w.tape w.drawn (.appendCap us.length 0 el)) (show 0 < 2 ^ 63 - us.length by omega)
                      omega
                  have hrun : (Go.convert s d (.string bs)).run P w = (Conv.stringToRunes el bs).run P w := by
                    simp only [Go.convert, Sem.run_bind, ts.run_und, td.run_und, hd, Result.andThen_ok]
                    cases si.desc <;> simp [te.run_und, hk]
                  refine ⟨.slice (some ⟨w.heap.size, 0, none⟩) us.length cap, w.drew.alloc (.cells (us.toArray ++ Array.replicate (cap - us.length) (.int .i32 0)) el), ?_, ?_⟩
                  · rw [hb, hrun]
                    have : Conv.runesFrom bs bs.size 0 #[] = us.toArray := by rw [← bytes_length, hbs]; exact r1'
                    simp only [Conv.stringToRunes, this, Sem.run_bind]
                    simp only [List.size_toArray, hcap, Result.andThen_ok, newRow, Sem.run_bind, run_newObj, Sem.run_pure, World.alloc_eq]
                    rfl
                  · refine ⟨⟨.cells (us.toArray ++ Array.replicate (cap - us.length) (.int .i32 0)) el, cap, rfl, fun φ' hs hid => ⟨⟨_, (0, 0), rfl, ?_, ?_, ?_, ?_, ?_, ?_⟩, ?_⟩⟩, rfl, rfl, rfl⟩
                    · intro i hi; exact .inl rfl
                    · simp; omega
                    · simp; omega
                    · intro h; cases h
                    · have : (List.take (runesFrom st.length st).length (List.drop 0 (us.toArray ++ Array.replicate (cap - us.length) (Value.int .i32 0)).toList)) = us := by
                        rw [hul]; simp
                      rw [this]; exact r2 φ'
                    · rw [hul]
                      have e : List.drop (0 + us.length) (us.toArray ++ Array.replicate (cap - us.length) (Value.int .i32 0)).toList = List.replicate (cap - us.length) (Value.int .i32 0) := by simp
                      show flatR (List.drop (0 + us.length) _)
                      rw [e]
                      intro v hv
                      rw [List.mem_replicate] at hv
                      rw [hv.2]; exact ⟨.int .i32 0, rfl⟩
                    · exact ⟨_, cap, hid, by rw [hul], by rw [hul]; exact hle, by simp, hcl⟩
                · simp at h
              · simp [h1] at h
          · simp at h
    · simp at h
  | range t x =>
    simp only [allocOp] at h
    split at h
    · simp at h
    · rename_i i hi
      have ti := hX.ti _ _ hi
      split at h
      · rename_i hd
        split at h
        · rename_i st hp
          have hp := opd_ok he hp
          simp only [vrel] at hp
          obtain ⟨bs, hb, hbs⟩ := hp
          simp at h; obtain ⟨rfl, rfl⟩ := h
          exact fin (Instr.range t (a.eval x)) rfl ⟨.pointer (some ⟨w.heap.size, 0, none⟩), w.alloc (.stringIter bs 0), by simp [Instr.range, underlying, ti.und, hd, hb], ⟨⟨_, 0, rfl, fun φ' hs hid => ⟨⟨bs, rfl, hbs, rfl⟩, ⟨_, hid, by simp⟩⟩⟩, rfl, rfl, rfl⟩⟩
        · simp at h
      · simp at h
  | _ => simp [allocOp] at h
end
end GX
/- GX: the operations that write memory. -/

namespace GX
open Go

def setBlk (w : World) (b : Nat) (o : Obj) : World := { w with heap := w.heap.setIfInBounds b o }
theorem setBlk_get (w : World) (b : Nat) (o : Obj) (k : Nat) : (setBlk w b o).heap[k]? = if b = k then (if k < w.heap.size then some o else none) else w.heap[k]? := by
  simp only [setBlk, Array.getElem?_setIfInBounds]
  split
  · rename_i h; subst h; rfl
  · rfl
theorem setBlk_size (w : World) (b : Nat) (o : Obj) : (setBlk w b o).heap.size = w.heap.size := by simp [setBlk]
section
variable {P : Program} {X : X} {φ : Phi} {w : World} {H : Tr AB}

theorem put_ok [Val] (hw : wrel φ H w) {id n : Nat} {ab0 ab' : AB} (hg : H.get id = some ab0) {L : Loc} (hL : φ id = some L) {o' : Obj} (hb : brel φ ab' L o') :
    wrel φ (Tr.set 40 H id ab') (setBlk w L.blk o') ∧ Ext φ H n w φ (Tr.set 40 H id ab') n (setBlk w L.blk o') := by
  have hsm := hw.small id _ hg
  have hget : ∀ m, (Tr.set 40 H id ab').get m = if m = id then some ab' else H.get m := fun m => Tr.get_set 40 H id ab' m (by omega)
  have hlt := wrel_lt hw hg hL
  refine ⟨⟨?_, ?_, ?_, ?_⟩, ⟨Nat.le_refl _, Sub.refl _, fun _ => .inl rfl, ?_, by rw [setBlk_size]; exact Nat.le_refl _, ?_, rfl, rfl, rfl⟩⟩
  · intro m b hm
    rw [hget] at hm
    split at hm
    · rename_i e; subst e
      simp at hm; subst hm
      exact ⟨L, o', hL, by rw [setBlk_get, if_pos rfl, if_pos hlt], hb⟩
    · rename_i hne
      obtain ⟨l, o, h1, h2, h3⟩ := hw.blk m b hm
      refine ⟨l, o, h1, ?_, h3⟩
      rw [setBlk_get, if_neg]
      · exact h2
      · intro e; exact hne (hw.inj m id _ _ l L hm hg h1 hL e.symm)
  · intro m m' b b' l l' h1 h2 h3 h4 h5
    rw [hget] at h1 h2
    have k1 : ∃ x, H.get m = some x := by
      split at h1
      · rename_i e; subst e; exact ⟨_, hg⟩
      · exact ⟨_, h1⟩
    have k2 : ∃ x, H.get m' = some x := by
      split at h2
      · rename_i e; subst e; exact ⟨_, hg⟩
      · exact ⟨_, h2⟩
    obtain ⟨x, k1⟩ := k1
    obtain ⟨y, k2⟩ := k2
    exact hw.inj m m' _ _ l l' k1 k2 h3 h4 h5
  · intro m b hm
    rw [hget] at hm
    split at hm
    · rename_i e; subst e; exact hsm
    · exact hw.small m b hm
  · intro g o ho
    obtain ⟨q1, q2⟩ := hw.ro g o ho
    refine ⟨by rw [setBlk_get, if_neg (q2 id _ L hg hL)]; exact q1, fun m b l hm hl => ?_⟩
    rw [hget] at hm
    split at hm
    · rename_i e; subst e; rw [hL] at hl; cases hl; exact q2 m _ L hg hL
    · exact q2 m b l hm hl
  · intro m b hm
    rw [hget] at hm
    split at hm
    · rename_i e; subst e; exact .inl ⟨_, hg⟩
    · exact .inl ⟨_, hm⟩
  · intro k hk hn
    rw [setBlk_get, if_neg (hn id _ L hg hL)]
def upd (φ : Phi) (id : Nat) (L : Loc) : Phi := fun m => if m = id then some L else φ m
theorem upd_sub {id : Nat} {L : Loc} (h : φ id = none) : Sub φ (upd φ id L) := by
  intro m l hm
  unfold upd
  split
  · rename_i e; subst e; rw [h] at hm; cases hm
  · exact hm
theorem new_ok [Val] (hw : wrel φ H w) {n : Nat} {ab : AB} {v : AV} {u : Value} {w' : World} (hn : n < 1000000000) (hf : φ n = none) (hm : Made φ w w' n ab v u) :
    ∃ φ', wrel φ' (Tr.set 40 H n ab) w' ∧ Ext φ H n w φ' (Tr.set 40 H n ab) (n + 1) w' ∧ vrel φ' v u := by
  obtain ⟨⟨o, tot, h1, h2⟩, hos, ht, hout⟩ := hm
  have hs : Sub φ (upd φ n ⟨w.heap.size, 0, tot⟩) := upd_sub hf
  obtain ⟨h3, h4⟩ := h2 _ hs (by simp [upd])
  have hget : ∀ m, (Tr.set 40 H n ab).get m = if m = n then some ab else H.get m := fun m => Tr.get_set 40 H n ab m (by omega)
  have old : ∀ {m x}, m ≠ n → H.get m = some x → ∃ l o, φ m = some l ∧ upd φ n ⟨w.heap.size, 0, tot⟩ m = some l ∧ w.heap[l.blk]? = some o ∧ l.blk < w.heap.size ∧ brel φ x l o := by
    intro m x hne hx
    obtain ⟨l, o, a1, a2, a3⟩ := hw.blk m x hx
    exact ⟨l, o, a1, by simp [upd, hne, a1], a2, (Array.getElem?_eq_some_iff.1 a2).1, a3⟩
  refine ⟨_, ⟨?_, ?_, ?_, ?_⟩, ⟨by omega, hs, ?_, ?_, by rw [h1]; simp, ?_, hos, ht, hout⟩, h4⟩
  · intro m b hm
    rw [hget] at hm
    split at hm
    · rename_i e; subst e; simp at hm; subst hm
      exact ⟨_, o, by simp [upd], by rw [h1]; simp, h3⟩
    · rename_i hne
      obtain ⟨l, o, a1, a2, a3, a4, a5⟩ := old hne hm
      refine ⟨l, o, a2, ?_, brel_mono hs a5⟩
      rw [h1, Array.getElem?_push, if_neg (by omega)]
      exact a3
  · intro m m' b b' l l' e1 e2 e3 e4 e5
    rw [hget] at e1 e2
    by_cases c1 : m = n
    · by_cases c2 : m' = n
      · rw [c1, c2]
      · rw [if_neg c2] at e2
        obtain ⟨l2, o2, a1, a2, a3, a4, a5⟩ := old c2 e2
        rw [a2] at e4; cases e4
        simp [upd, c1] at e3; subst e3
        simp at e5; omega
    · rw [if_neg c1] at e1
      obtain ⟨l1, o1, a1, a2, a3, a4, a5⟩ := old c1 e1
      rw [a2] at e3; cases e3
      by_cases c2 : m' = n
      · simp [upd, c2] at e4; subst e4
        simp at e5; omega
      · rw [if_neg c2] at e2
        obtain ⟨l2, o2, b1, b2, b3, b4, b5⟩ := old c2 e2
        rw [b2] at e4; cases e4
        exact hw.inj m m' _ _ _ _ e1 e2 a1 b1 e5
  · intro m b hm
    rw [hget] at hm
    split at hm
    · rename_i e; subst e; exact hn
    · exact hw.small m b hm
  · intro g o' ho
    obtain ⟨q1, q2⟩ := hw.ro g o' ho
    have hlt := (Array.getElem?_eq_some_iff.1 q1).1
    refine ⟨by rw [h1, Array.getElem?_push, if_neg (by omega)]; exact q1, fun m b l hm hl => ?_⟩
    rw [hget] at hm
    by_cases c1 : m = n
    · simp [upd, c1] at hl; subst hl; simp; omega
    · rw [if_neg c1] at hm
      simp [upd, c1] at hl
      exact q2 m b l hm hl
  · intro m
    by_cases c : m = n
    · right
      refine ⟨by omega, by omega, fun l hl => ?_⟩
      simp [upd, c] at hl; subst hl
      exact .inl (Nat.le_refl _)
    · left; simp [upd, c]
  · intro m b hm
    rw [hget] at hm
    split at hm
    · rename_i e; subst e; right; omega
    · exact .inl ⟨_, hm⟩
  · intro k hk _
    rw [h1, Array.getElem?_push, if_neg (by omega)]

theorem setCell_eq {b off : Nat} {v : Value} {c : Array Value} {t : TypeId} {fz : Nat × Nat} (h : w.heap[b]? = some (.cells c t fz)) :
    w.setCell ⟨b, off, none⟩ v = setBlk w b (.cells (c.setIfInBounds off v) t fz) := by
  unfold World.setCell setBlk
  congr 1
  apply Array.ext_getElem?
  intro i
  rw [Array.getElem?_modify, Array.getElem?_setIfInBounds]
  split
  · rename_i e; dsimp only at e; subst e
    rw [h]
    have := (Array.getElem?_eq_some_iff.1 h).1
    simp [this]
  · rfl
theorem setBlk_setBlk (b : Nat) (o o' : Obj) : setBlk (setBlk w b o) b o' = setBlk w b o' := by
  unfold setBlk
  congr 1
  apply Array.ext_getElem?
  intro i
  simp only [Array.getElem?_setIfInBounds, Array.size_setIfInBounds]
  split <;> simp_all
theorem setBlk_same {b : Nat} {o : Obj} (h : w.heap[b]? = some o) : setBlk w b o = w := by
  unfold setBlk
  have : w.heap.setIfInBounds b o = w.heap := by
    apply Array.ext_getElem?
    intro i
    rw [Array.getElem?_setIfInBounds]
    split
    · rename_i e; subst e; rw [if_pos (Array.getElem?_eq_some_iff.1 h).1, h]
    · rfl
  rw [this]
theorem run_storeCells_blk (b o : Nat) (t : TypeId) (fz : Nat × Nat) : ∀ (vs : List Value) (i : Nat) (c : Array Value) (w : World), w.heap[b]? = some (.cells c t fz) → o + i + vs.length ≤ c.size →
    (∀ j, j < c.size → ¬ (fz.1 ≤ j ∧ j < fz.2)) → (∀ v ∈ vs, v.oneCell' = true) →
    (storeCells ⟨b, o, none⟩ vs i).run P w = .ok () (setBlk w b (.cells (lput c.toList (o + i) vs).toArray t fz))
  | [], i, c, w, h, _, _, _ => by
    rw [lput_nil]
    simp only [storeCells, Sem.run_pure]
    rw [setBlk_same (by simpa using h)]
  | v :: vs, i, c, w, h, hl, hf, h1 => by
    simp only [List.length_cons] at hl
    have hi : o + i < c.size := by omega
    have hc : w.cell? ⟨b, o + i, none⟩ = some c[o + i] := by simp [World.cell?, h, hi]
    have hfz : w.frozen? ⟨b, o + i, none⟩ = false := by
      have := hf (o + i) hi
      simp only [World.frozen?, h]
      simp at this ⊢; exact this
    have hst : (store ((⟨b, o, none⟩ : Addr).add i) v).run P w = .ok () (setBlk w b (.cells (c.setIfInBounds (o + i) v) t fz)) := by
      rw [add_plain, run_store P w _ v _ (h1 v (by simp)), hc]
      simp only [hfz, Bool.false_eq_true, if_false]
      rw [setCell_eq h]
    simp only [storeCells, Sem.run_bind, hst, Result.andThen_ok]
    have hb : b < w.heap.size := (Array.getElem?_eq_some_iff.1 h).1
    rw [run_storeCells_blk b o t fz vs (i + 1) (c.setIfInBounds (o + i) v) _ (by rw [setBlk_get, if_pos rfl, if_pos hb]) (by simp; omega) (by simpa using hf) (fun u hu => h1 u (by simp [hu]))]
    rw [setBlk_setBlk]
    congr 4
    rw [lput_cons _ _ _ _ (by simpa using hi)]
    simp [Nat.add_assoc]
theorem drop_take_lput {α : Type} (c : List α) (b o n : Nat) (vs : List α) (h : o + vs.length ≤ n) (h2 : b + n ≤ c.length) :
    ((lput c (b + o) vs).drop b).take n = lput ((c.drop b).take n) o vs := by
  apply List.ext_getElem?
  intro i
  rw [List.getElem?_take, List.getElem?_drop, lput_set_get, lput_set_get, List.getElem?_take, List.getElem?_drop]
  simp only [List.length_take, List.length_drop]
  by_cases hi : i < n
  · rw [if_pos hi, if_pos hi]
    by_cases hc : o ≤ i ∧ i < o + vs.length
    · rw [if_pos ⟨by omega, by omega, by omega⟩, if_pos ⟨by omega, by omega, by omega⟩]
      congr 1; omega
    · rw [if_neg (by omega), if_neg (by omega)]
  · rw [if_neg hi, if_neg hi, if_neg (by omega)]
theorem vrels_one [Val] : ∀ {vs : List AV} {us : List Value}, vrels φ vs us → vs.all AV.one = true → ∀ v ∈ us, v.oneCell' = true
  | [], us, h, _ => by simp only [vrels] at h; subst h; simp
  | x :: vs, us, h, h2 => by
    simp only [vrels] at h
    obtain ⟨u, us, rfl, k1, k2⟩ := h
    simp only [List.all_cons, Bool.and_eq_true] at h2
    intro y hy
    simp at hy
    rcases hy with rfl | hy
    · exact vrel_one k1 h2.1
    · exact vrels_one k2 h2.2 y hy
theorem storeAt_ok [Val] (hw : wrel φ H w) {n : Nat} {S' : St} {b o : Nat} {vs : List AV} (h : storeAt { h := H, n } b o vs = some S') {L : Loc} (hL : φ b = some L) {us : List Value} (hv : vrels φ vs us) :
    ∃ w', (storeCells ⟨L.blk, L.base + o, none⟩ us).run P w = .ok () w' ∧ wrel φ S'.h w' ∧ Ext φ H n w φ S'.h S'.n w' ∧ S'.n = n := by
  unfold storeAt at h
  split at h
  · rename_i t cs sp hg
    rw [nble] at h
    by_cases hc : o + vs.length ≤ cs.length ∧ vs.all AV.one = true
    · obtain ⟨h1, h2⟩ := hc
      simp only [h1, h2, decide_true, Bool.and_self, cond_true] at h
      simp at h; subst h
      obtain ⟨c, fz, a1, a2, a3, a4, a5, a6, a7⟩ := cells_sp hw hg hL
      have hlen := vrels_length hv
      have hone := vrels_one hv h2
      have hrun := run_storeCells_blk (P := P) L.blk (L.base + o) t fz us 0 c w a1 (by omega) (fun i hi => free_not (a2 i hi)) hone
      refine ⟨_, hrun, ?_⟩
      have hb : brel φ (.cells t (lput cs o vs) sp) L (.cells (lput c.toList (L.base + o + 0) us).toArray t fz) := by
        refine ⟨_, fz, rfl, ?_, ?_, ?_, ?_, ?_, ?_⟩
        · simpa [lput_length] using a2
        · simpa [lput_length] using a3
        · simpa [lput_length] using a4
        · simpa [lput_length] using a5
        · have := drop_take_lput c.toList L.base o cs.length us (by omega) (by simpa using a4)
          simp only [Nat.add_zero, lput_length]
          rw [this]
          exact vrels_lput o a6 hv
        · show flatR (List.drop (L.base + (lput cs o vs).length) (lput c.toList (L.base + o + 0) us))
          rw [lput_length, drop_lput_after _ _ _ _ (by omega)]; exact a7
      obtain ⟨r1, r2⟩ := put_ok (n := n) hw hg hL hb
      exact ⟨r1, r2, rfl⟩
    · have : (decide (o + vs.length ≤ cs.length) && vs.all AV.one) = false := by
        rw [Bool.eq_false_iff]; intro hh; apply hc; simpa using hh
      rw [this] at h; simp at h
  · simp at h

/-! append and copy -/
theorem sbytes_rel [Val] (b : ByteArray) (n : Nat) : vrels φ (sbytes ((bytes b).take n)) (((b.extract 0 n).data.map fun x => Value.int .u8 x.toNat).toList) := by
  have : ((b.extract 0 n).data.map fun x : UInt8 => Value.int .u8 x.toNat).toList = (b.data.toList.take n).map fun x : UInt8 => Value.int .u8 x.toNat := by
    simp [ByteArray.data_extract, List.extract_eq_take_drop]
  rw [this]
  simp only [sbytes, bytes, ← List.map_take, List.map_map]
  generalize b.data.toList.take n = l
  induction l with
  | nil => rfl
  | cons b l ih => exact vrels_cons rfl ih
theorem src_ok [Val] (hw : wrel φ H w) {x : AV} {u : Value} (hx : vrel φ x u) {n m size : Nat} {cs : List AV} (hl : srcLen x = some m) (hm : n ≤ m) (h : srcCells H size n x = some cs) :
    (Builtin.lenOf u).run P w = .ok m w ∧ ∃ us : List Value, (Builtin.firstCells size n u).run P w = .ok us.toArray w ∧ vrels φ cs us ∧ us.length = n * size := by
  cases x with
  | slice b o len cap =>
    simp [srcLen] at hl; subst hl
    simp only [srcCells] at h
    simp only [vrel] at hx
    obtain ⟨L, c, hL, rfl, _⟩ := hx
    obtain ⟨us, h1, h2, h3⟩ := loadCells_ok (P := P) hw h hL
    exact ⟨rfl, us, by simp [Builtin.firstCells, h3], h2, h1⟩
  | nils =>
    simp [srcLen] at hl; subst hl
    have : n = 0 := by omega
    subst this
    simp [srcCells] at h; subst h
    simp only [vrel] at hx; subst hx
    exact ⟨rfl, [], rfl, rfl, by simp⟩
  | emp =>
    simp [srcLen] at hl; subst hl
    have : n = 0 := by omega
    subst this
    simp [srcCells] at h; subst h
    simp only [vrel] at hx
    obtain ⟨a, c, rfl⟩ := hx
    exact ⟨rfl, [], by simp [Builtin.firstCells, loadCells, loadCellsFrom], rfl, by simp⟩
  | str s =>
    simp [srcLen] at hl; subst hl
    simp only [srcCells, nbeq, cond_dec] at h
    split at h
    · rename_i h1; subst h1
      simp at h; subst h
      simp only [vrel] at hx
      obtain ⟨b, rfl, rfl⟩ := hx
      have hr := sbytes_rel (φ := φ) b n
      refine ⟨by simp [Builtin.lenOf, bytes_length], _, ?_, hr, ?_⟩
      · simp only [Builtin.firstCells, Sem.run_pure, Array.toArray_toList]
      · have := vrels_length hr
        rw [← this]
        rw [bytes_length] at hm
        simp [sbytes, bytes_length]; omega
    · simp at h
  | rsl cs0 len sz =>
    simp [srcLen] at hl; subst hl
    simp only [srcCells] at h
    rw [nbeq, nble, ← Bool.decide_and, cond_dec] at h
    split at h
    · rename_i h1
      obtain ⟨h1, h2⟩ := h1
      simp at h; subst h
      simp only [vrel] at hx
      obtain ⟨g, off, c, ca, ty, fz, rfl, _, hcl, hro, hfit, hrel⟩ := hx
      obtain ⟨us, u1, u2, u3⟩ := ro_loadCells (P := P) hw hro hfit hrel (o := 0) (n := n * size) (by omega)
      rw [List.drop_zero] at u2
      rw [Nat.add_zero] at u3
      exact ⟨rfl, us, by simp [Builtin.firstCells, u3], u2, u1⟩
    · simp at h
  | _ => simp [srcLen] at hl
theorem growBy_le (n : Nat) : ∀ (r c : Nat), c < n ∨ c ≤ 2 * n + 1000 → Builtin.growBy n r c ≤ 2 * n + 1000
  | 0, c, h => by simp only [Builtin.growBy]; omega
  | r + 1, c, h => by
    simp only [Builtin.growBy]
    split
    · omega
    · exact growBy_le n r _ (by omega)
theorem nextcap_le (n c : Nat) (h : c < n) : Builtin.nextslicecap n c ≤ 2 * n + 1000 := by
  unfold Builtin.nextslicecap
  split
  · omega
  · split
    · omega
    · exact growBy_le n 4 c (by omega)
/-- append where it must grow -/
theorem run_append_grow' [Val] {el t t' ty : Nat} {ts : List TypeId} {ei : TI} {d : TypeDesc} {base : Option Addr} {sLen sCap n : Nat} {v : Value} {old new : List Value}
    (hu : P.underlying t = some (.slice el)) (te : TIok P el ei) (hu' : P.underlying t' = some d) (hd : ∀ k, d ≠ .int k)
    (hlen : (Builtin.lenOf v).run P w = .ok n w) (hneed : ¬ sLen + n ≤ sCap) (hroom : (2 * (sLen + n) + 1000) * ei.bytes ≤ 140737488355328) (hroom2 : sLen + n ≤ 140737488355328)
    (hold : (Builtin.firstCells ei.size sLen (.slice base sLen sCap)).run P w.drew = .ok old.toArray w.drew)
    (hnew : (Builtin.firstCells ei.size n v).run P w.drew = .ok new.toArray w.drew) :
    ∃ (cap : Nat) (rest : List Value), sLen + n ≤ cap ∧ cap < 9223372036854775808 ∧ rest.length = (cap - (sLen + n)) * ei.zero.length ∧ flatR rest ∧
      (Builtin.append_ (t :: t' :: ts).toArray ty #[.slice base sLen sCap, v]).run P w = .ok (.slice (some ⟨w.heap.size, 0, none⟩) (sLen + n) cap) (w.drew.alloc (.cells (old ++ new ++ rest).toArray el)) := by
  obtain ⟨j, j1, j2, j3, z, hz, _, k2⟩ := te.info
  have hrz : ∀ W : World, (zeroValue el).run P W = .ok z W := fun W => by simp [zeroValue, typeInfo, j1, hz]
  have hti : ∀ W : World, (typeInfo el).run P W = .ok j W := fun W => by simp [typeInfo, j1]
  obtain ⟨cap, hcap, hle, hlim⟩ : ∃ cap, (choose (.appendCap (sLen + n) sCap el)).run P w = .ok cap w.drew ∧ sLen + n ≤ cap ∧ cap < 9223372036854775808 := by
    refine ⟨_, by simp [Question.forced]; rfl, ?_, ?_⟩
    · simp [Question.cut]
    · simp only [Question.cut]
      have := Nat.mod_lt (w.tape w.drawn (.appendCap (sLen + n) sCap el)) (show 0 < 2 ^ 63 - (sLen + n) by omega)
      omega
  have hz0 : ((underlying t').run P w) = .ok d w := by simp [underlying, hu']
  have hzeros : (d matches .int _) = false := by cases d <;> first | rfl | exact absurd rfl (hd _)
  have hnc := nextcap_le (sLen + n) sCap (by omega)
  have hbig : ¬ (Builtin.nextslicecap (sLen + n) sCap * j.bytes > 2 ^ 48) := by
    rw [j3]
    have : Builtin.nextslicecap (sLen + n) sCap * ei.bytes ≤ (2 * (sLen + n) + 1000) * ei.bytes := Nat.mul_le_mul_right _ hnc
    have e : 2 ^ 48 = 281474976710656 := rfl
    omega
  have hmax' : ¬ (((sLen + n : Nat) : Int) > IntKind.i64.max ∧ (False ∨ j.bytes = 0)) := by
    have : IntKind.i64.max = 9223372036854775807 := rfl
    omega
  refine ⟨cap, (Builtin.zeroCells z.cells (cap - (sLen + n))).toList, hle, hlim, ?_, ?_, ?_⟩
  · have := vrels_length (k2 (fun _ => none))
    simp at this
    simp [Builtin.zeroCells, this]
  · intro v hv
    simp only [Builtin.zeroCells, Array.toList_map, List.mem_map] at hv
    obtain ⟨i, hi, rfl⟩ := hv
    have hi2 : i < (cap - (sLen + n)) * z.cells.size := by simpa using hi
    have hpos : 0 < z.cells.size := by
      rcases Nat.eq_zero_or_pos z.cells.size with h0 | h0
      · rw [h0, Nat.mul_zero] at hi2; omega
      · exact h0
    have hlt := Nat.mod_lt i hpos
    rw [getElem!_pos z.cells (i % z.cells.size) hlt]
    exact vrels_mem (k2 (fun _ => none)) _ (by simp)
  · have e0 : (t :: t' :: ts).toArray[0]? = some t := by simp
    have e1 : (t :: t' :: ts).toArray[1]? = some t' := by simp
    have a0 : (#[Value.slice base sLen sCap, v] : Array Value)[0]? = some (.slice base sLen sCap) := rfl
    have a1 : (#[Value.slice base sLen sCap, v] : Array Value)[1]? = some v := rfl
    simp only [Builtin.append_, e0, e1, a0, a1, Sem.run_bind, underlying, run_program, hu, hu', Result.andThen_ok, Sem.run_pure, te.run_size]
    simp only [Bool.false_eq_true, if_false, Sem.run_bind, hlen, Result.andThen_ok, hneed, hti, hmax', hbig, hcap, run_askRoom, hold, hnew, Bool.not_false, if_true, hrz, newRow, run_newObj, Sem.run_pure, World.alloc_eq, World.size_drew]
    have harr : old.toArray ++ new.toArray ++ Builtin.zeroCells z.cells (cap - (sLen + n)) = (old ++ new ++ (Builtin.zeroCells z.cells (cap - (sLen + n))).toList).toArray := by
      apply Array.ext'; simp
    rw [harr]
theorem run_append_fits' [Val] {el t t' ty : Nat} {ts : List TypeId} {ei : TI} {d : TypeDesc} {base : Option Addr} {sLen sCap n : Nat} {v : Value} {new : List Value} {w' : World}
    (hu : P.underlying t = some (.slice el)) (te : TIok P el ei) (hu' : P.underlying t' = some d) (hd : ∀ k, d ≠ .int k)
    (hlen : (Builtin.lenOf v).run P w = .ok n w) (hneed : sLen + n ≤ sCap)
    (hnew : (Builtin.firstCells ei.size n v).run P w = .ok new.toArray w)
    (hst : ∀ a, base = some a → (storeCells (a.add (sLen * ei.size)) new).run P w = .ok () w') (hnone : base = none → w' = w) :
    (Builtin.append_ (t :: t' :: ts).toArray ty #[.slice base sLen sCap, v]).run P w = .ok (.slice base (sLen + n) sCap) w' := by
  have e0 : (t :: t' :: ts).toArray[0]? = some t := by simp
  have e1 : (t :: t' :: ts).toArray[1]? = some t' := by simp
  have a0 : (#[Value.slice base sLen sCap, v] : Array Value)[0]? = some (.slice base sLen sCap) := rfl
  have a1 : (#[Value.slice base sLen sCap, v] : Array Value)[1]? = some v := rfl
  simp only [Builtin.append_, e0, e1, a0, a1, Sem.run_bind, underlying, run_program, hu, hu', Result.andThen_ok, Sem.run_pure, te.run_size]
  have hzb : (match d with | .int _ => true | _ => false) = false := by cases d <;> first | rfl | exact absurd rfl (hd _)
  simp only [Bool.false_eq_true, if_false, Sem.run_bind, hlen, Result.andThen_ok, hneed, if_true, Bool.not_false, hnew]
  cases base with
  | none => rw [hnone rfl]; rfl
  | some a => simp only [Sem.run_bind, hst a rfl, Result.andThen_ok, Sem.run_pure]
theorem slice_none_of [Val] {φ : Phi} {u : Value} (h : vrel φ .nils u) : u = .slice none 0 0 := by simpa [vrel] using h

/-- what an operation that writes comes to -/
def Wrote [Val] (P : Program) (φ : Phi) (S : St) (w : World) (v : AV) (S' : St) (s : Sem Value) : Prop :=
  ∃ u w' φ', s.run P w = .ok u w' ∧ vrel φ' v u ∧ wrel φ' S'.h w' ∧ Ext φ S.h S.n w φ' S'.h S'.n w'
theorem wrel_drew [Val] (hw : wrel φ H w) : wrel φ H w.drew := ⟨fun id b hb => hw.blk id b hb, hw.inj, hw.small, hw.ro⟩
theorem grow_ok [Val] {S S' : St} (hw : wrel φ S.h w) {el t t' ty : Nat} {ts : List TypeId} {ei : TI} {d : TypeDesc} (te : TIok P el ei) (hu : P.underlying t = some (.slice el)) (hu' : P.underlying t' = some d) (hd : ∀ k, d ≠ .int k)
    {base : Option Addr} {sLen sCap n : Nat} {x r : AV} {v : Value} {olds news : List AV} (hx : vrel φ x v) (hn : srcLen x = some n) (hsrc : srcCells S.h ei.size n x = some news)
    (hold : ∃ us : List Value, vrels φ olds us ∧ (Builtin.firstCells ei.size sLen (.slice base sLen sCap)).run P w.drew = .ok us.toArray w.drew)
    (hneed : ¬ sLen + n ≤ sCap) (h : grow S el ei.size ei.bytes (olds ++ news) (sLen + n) = some (r, S')) (hlen : (olds ++ news).length = (sLen + n) * ei.size)
    (hz : ei.zero.length = ei.size) (fr : ∀ id, S.n ≤ id → id < S'.n → φ id = none) :
    Wrote P φ S w r S' (Builtin.append_ (t :: t' :: ts).toArray ty #[.slice base sLen sCap, v]) := by
  unfold grow at h
  rw [nblt, nble, nble] at h
  by_cases hc : S.n < 1000000000 ∧ (2 * (sLen + n) + 1000) * ei.bytes ≤ 140737488355328 ∧ sLen + n ≤ 140737488355328
  · obtain ⟨h1, h2, h3⟩ := hc
    simp only [h1, h2, h3, decide_true, Bool.and_self, cond_true, Option.some.injEq, Prod.mk.injEq] at h
    obtain ⟨rfl, rfl⟩ := h
    obtain ⟨us, u1, u2⟩ := hold
    obtain ⟨l1, _⟩ := src_ok (P := P) hw hx hn (Nat.le_refl _) hsrc
    obtain ⟨_, vs, l2, l3, l4⟩ := src_ok (P := P) (wrel_drew hw) hx hn (Nat.le_refl _) hsrc
    obtain ⟨cap, rest, g1, glim, g2, gf, g3⟩ := run_append_grow' (ty := ty) (ts := ts) hu te hu' hd l1 hneed h2 h3 u2 l2
    have hul := vrels_length u1
    have hvl := vrels_length l3
    have hm : Made φ w (w.drew.alloc (.cells (us ++ vs ++ rest).toArray el)) S.n (.cells el (olds ++ news) true) (.slice S.n 0 (sLen + n) (.op ei.size)) (.slice (some ⟨w.heap.size, 0, none⟩) (sLen + n) cap) := by
      have htot : (us ++ vs ++ rest).length = cap * ei.size := by
        rw [List.length_append, List.length_append, g2, hz, ← hul, ← hvl, ← List.length_append, hlen, Nat.sub_mul]
        have : (sLen + n) * ei.size ≤ cap * ei.size := Nat.mul_le_mul_right _ g1
        omega
      refine ⟨⟨_, cap * ei.size, rfl, fun φ' hs hid => ⟨⟨_, (0, 0), rfl, fun i _ => .inl rfl, by simpa using htot.symm, ?_, (fun h => by cases h), ?_, ?_⟩, ⟨_, cap, hid, by simp, g1, by simp, glim⟩⟩⟩, rfl, rfl, rfl⟩
      · simp at hul hvl ⊢; omega
      · have : List.take (olds ++ news).length (List.drop 0 (us ++ vs ++ rest).toArray.toList) = us ++ vs := by
          have e : (olds ++ news).length = (us ++ vs).length := by simp [hul, hvl]
          rw [e]
          show List.take (us ++ vs).length (us ++ vs ++ rest) = us ++ vs
          exact List.take_left
        rw [this]
        exact vrels_mono hs _ (vrels_append u1 l3)
      · have e : (olds ++ news).length = (us ++ vs).length := by simp [hul, hvl]
        rw [e]
        show flatR (List.drop (0 + (us ++ vs).length) (us ++ vs ++ rest))
        rw [Nat.zero_add, List.drop_left]; exact gf
    have hfn : φ S.n = none := fr S.n (Nat.le_refl _) (by simp [St.new])
    obtain ⟨φ', r1, r2, r3⟩ := new_ok (n := S.n) hw h1 hfn hm
    exact ⟨_, _, φ', g3, r3, r1, r2⟩
  · have : (decide (S.n < 1000000000) && decide ((2 * (sLen + n) + 1000) * ei.bytes ≤ 140737488355328) && decide (sLen + n ≤ 140737488355328)) = false := by
      rw [Bool.eq_false_iff]; intro hh; apply hc; simpa [and_assoc] using hh
    rw [this] at h; simp at h

theorem wrel_sub [Val] {H2 : Tr AB} (hs : ∀ id x, H2.get id = some x → H.get id = some x) (hw : wrel φ H w) : wrel φ H2 w :=
  ⟨fun id b h => hw.blk id b (hs _ _ h), fun id id' b b' l l' h1 h2 h3 h4 h5 => hw.inj id id' b b' l l' (hs _ _ h1) (hs _ _ h2) h3 h4 h5, fun id b h => hw.small id b (hs _ _ h), fun g o ho => ⟨(hw.ro g o ho).1, fun id b l h => (hw.ro g o ho).2 id b l (hs _ _ h)⟩⟩
theorem Ext.shrink {φ' : Phi} {H1 H2 : Tr AB} {n n' : Nat} {w' : World} (hs : ∀ id x, H2.get id = some x → H1.get id = some x) (e : Ext φ H n w φ' H1 n' w') : Ext φ H n w φ' H2 n' w' :=
  ⟨e.le, e.sub, e.new, fun id b h => e.dom id b (hs _ _ h), e.size, e.frame, e.os, e.tape, e.output⟩
theorem firstCells_row [Val] (hw : wrel φ H w) {b o k size len c : Nat} {old : List AV} (hr : row H b o (k * size) = some old) {L : Loc} (hL : φ b = some L) :
    ∃ us : List Value, vrels φ old us ∧ (Builtin.firstCells size k (.slice (some ⟨L.blk, L.base + o, none⟩) len c)).run P w = .ok us.toArray w := by
  obtain ⟨us, h1, h2, h3⟩ := loadCells_ok (P := P) hw hr hL
  exact ⟨us, h2, by simpa [Builtin.firstCells] using h3⟩
theorem row_length {b o n : Nat} {r : List AV} (h : row H b o n = some r) : r.length = n := by
  unfold row at h
  split at h
  · rw [nble, cond_dec] at h
    split at h
    · simp at h; subst h; simp; omega
    · simp at h
  · simp at h
theorem append_ok [Val] (hX : XOK P X) {S S' : St} (hw : wrel φ S.h w) {t t' ty : Nat} {ts : List TypeId} {d : TypeDesc} (hu' : P.underlying t' = some d) (hd : ∀ k, d ≠ .int k)
    {s x r : AV} {us ux : Value} (hs : vrel φ s us) (hx : vrel φ x ux) (h : aappend X S t s x = some (r, S')) (fr : ∀ id, S.n ≤ id → id < S'.n → φ id = none) :
    Wrote P φ S w r S' (Builtin.append_ (t :: t' :: ts).toArray ty #[us, ux]) := by
  unfold aappend at h
  split at h
  · simp at h
  · rename_i i hi
    have ti := hX.ti _ _ hi
    split at h
    · rename_i el hdt
      have hu : P.underlying t = some (.slice el) := by rw [ti.und, hdt]
      split at h
      · simp at h
      · rename_i ei hei
        have te := hX.ti _ _ hei
        rw [nbeq, nbeq] at h
        by_cases hz : ei.size = 0 ∨ ¬ ei.zero.length = ei.size
        · have : (decide (ei.size = 0) || !decide (ei.zero.length = ei.size)) = true := by rcases hz with h | h <;> simp [h]
          rw [this] at h; simp at h
        · simp only [not_or, Classical.not_not] at hz
          obtain ⟨hz1, hz2⟩ := hz
          simp only [hz1, hz2, decide_false, decide_true, Bool.not_true, Bool.or_self, cond_false] at h
          split at h
          · simp at h
          · rename_i n hn
            split at h
            · simp at h
            · rename_i news hsrc
              obtain ⟨l1, vs, l2, l3, l4⟩ := src_ok (P := P) hw hx hn (Nat.le_refl _) hsrc
              have hnl : news.length = n * ei.size := by rw [vrels_length l3, l4]
              split at h
              · -- nil
                have := slice_none_of hs; subst this
                rw [nbeq, cond_dec] at h
                split at h
                · rename_i h0; subst h0
                  simp at h; obtain ⟨rfl, rfl⟩ := h
                  exact ⟨_, w, φ, run_append_fits' (w' := w) hu te hu' hd l1 (by omega) l2 (fun a e => by cases e) (fun _ => rfl), by simp [vrel], hw, Ext.refl _ _ _ _⟩
                · rename_i h0
                  have h' : grow S el ei.size ei.bytes ([] ++ news) (0 + n) = some (r, S') := by simpa using h
                  exact grow_ok (ty := ty) (ts := ts) hw te hu hu' hd hx hn hsrc ⟨[], vrels_nil, by simp [Builtin.firstCells]⟩ (by omega) h' (by simpa using hnl) hz2 fr
              · -- emp
                rw [nbeq, cond_dec] at h
                split at h
                · rename_i h0; subst h0
                  simp at h; obtain ⟨rfl, rfl⟩ := h
                  have hs' := hs
                  simp only [vrel] at hs
                  obtain ⟨a, c, rfl⟩ := hs
                  have hvs : vs = [] := by simpa using l4
                  subst hvs
                  exact ⟨_, w, φ, run_append_fits' (w' := w) hu te hu' hd l1 (by omega) l2 (fun a e => rfl) (fun e => rfl), hs', hw, Ext.refl _ _ _ _⟩
                · simp at h
              · -- known capacity
                rename_i b o len k
                have hs' := hs
                simp only [vrel] at hs
                obtain ⟨L, c, hL, rfl, hcap⟩ := hs
                simp only [capOk] at hcap
                obtain ⟨rfl, hlk⟩ := hcap
                rw [nble, cond_dec] at h
                split at h
                · rename_i hfit
                  split at h
                  · simp at h
                  · rename_i S1 hst
                    simp at h; obtain ⟨rfl, rfl⟩ := h
                    obtain ⟨w', r1, r2, r3, r4⟩ := storeAt_ok (P := P) hw hst hL l3
                    refine ⟨.slice (some ⟨L.blk, L.base + o, none⟩) (len + n) c, w', φ, run_append_fits' (w' := w') hu te hu' hd l1 hfit l2 (fun a e => ?_) (fun e => by cases e), ?_, r2, r3⟩
                    · cases e
                      rw [add_plain, Nat.add_assoc]; exact r1
                    · exact ⟨L, c, hL, rfl, rfl, hfit⟩
                · rename_i hfit
                  split at h
                  · simp at h
                  · rename_i old hrow
                    have hol := row_length hrow
                    obtain ⟨os, o1, o2⟩ := firstCells_row (P := P) (len := len) (c := c) (wrel_drew hw) hrow hL
                    exact grow_ok (ty := ty) (ts := ts) hw te hu hu' hd hx hn hsrc ⟨os, o1, o2⟩ hfit h (by rw [List.length_append, hol, hnl, Nat.add_mul]) hz2 fr
              · -- open
                rename_i b o len z
                have hs' := hs
                simp only [vrel] at hs
                obtain ⟨L, c, hL, rfl, hcap⟩ := hs
                simp only [capOk] at hcap
                obtain ⟨hlc, htot, hclim⟩ := hcap
                rw [nbeq, cond_dec] at h
                split at h
                · rename_i h0; subst h0
                  simp at h; obtain ⟨rfl, rfl⟩ := h
                  have hvs : vs = [] := by simpa using l4
                  subst hvs
                  exact ⟨_, w, φ, run_append_fits' (w' := w) hu te hu' hd l1 (by omega) l2 (fun a e => rfl) (fun e => rfl), hs', hw, Ext.refl _ _ _ _⟩
                · rename_i hn0
                  rw [nbeq] at h
                  by_cases hze : z = ei.size
                  case neg => simp [hze] at h
                  subst hze
                  simp only [decide_true, Bool.not_true, cond_false] at h
                  split at h
                  · rename_i t0 cs sp hg
                    obtain ⟨cc, fz, a1, a2, a3, a4, a5, a6, a7⟩ := cells_sp hw hg hL
                    rw [nble, cond_dec] at h
                    split at h
                    · rename_i hfit
                      have hfit' : len + n ≤ c := by
                        have : (len + n) * ei.size ≤ c * ei.size := by omega
                        exact Nat.le_of_mul_le_mul_right this (by omega)
                      split at h
                      · simp at h
                      · rename_i S1 hst
                        simp at h; obtain ⟨rfl, rfl⟩ := h
                        obtain ⟨w', r1, r2, r3, r4⟩ := storeAt_ok (P := P) hw hst hL l3
                        refine ⟨.slice (some ⟨L.blk, L.base + o, none⟩) (len + n) c, w', φ, run_append_fits' (w' := w') hu te hu' hd l1 hfit' l2 (fun a e => ?_) (fun e => by cases e), ?_, r2, r3⟩
                        · cases e
                          rw [add_plain, Nat.add_assoc]; exact r1
                        · exact ⟨L, c, hL, rfl, hfit', htot, hclim⟩
                    · rename_i hfit
                      rw [nblt, nbeq, nbeq, nble, nble] at h
                      by_cases hc : S.n < 1000000000 ∧ sp = true ∧ t0 = el ∧ o + len * ei.size = cs.length ∧ (2 * (len + n) + 1000) * ei.bytes ≤ 140737488355328 ∧ len + n ≤ 140737488355328 ∧ news.all AV.one = true
                      · obtain ⟨c1, c2, c3, c4, c5, c6, c7⟩ := hc
                        subst c2; subst c3
                        simp only [c1, c4, c5, c6, c7, decide_true, Bool.and_self, cond_true, Option.some.injEq, Prod.mk.injEq] at h
                        obtain ⟨rfl, rfl⟩ := h
                        have hnew0 : S.h.get S.n = none := by
                          cases hq : S.h.get S.n with
                          | none => rfl
                          | some y =>
                            obtain ⟨L', hL'⟩ := has_loc hw hq
                            rw [fr S.n (Nat.le_refl _) (Nat.lt_succ_self _)] at hL'; cases hL'
                        have hbn : b ≠ S.n := fun e => by rw [e, hnew0] at hg; cases hg
                        have hget : ∀ m, (Tr.set 40 (S.h.del b) S.n (.cells t0 (cs.drop o ++ news) true)).get m = if m = S.n then some (.cells t0 (cs.drop o ++ news) true) else if m = b then none else S.h.get m := by
                          intro m
                          rw [Tr.get_set 40 _ _ _ _ (by omega), Tr.get_del]
                        by_cases hin : len + n ≤ c
                        · have hone := vrels_one l3 c7
                          have hle : L.base + o + len * ei.size + 0 + vs.length ≤ cc.size := by
                            rw [l4, ← a3, ← htot]
                            have : (len + n) * ei.size ≤ c * ei.size := Nat.mul_le_mul_right _ hin
                            rw [Nat.add_mul] at this
                            omega
                          have hrun := run_storeCells_blk (P := P) L.blk (L.base + o + len * ei.size) t0 fz vs 0 cc w a1 hle (fun i hi => free_not (a2 i hi)) hone
                          have hwl := wrel_lt hw hg hL
                          have hsub : Sub φ (upd φ S.n ⟨L.blk, L.base + o, L.tot⟩) := upd_sub (fr S.n (Nat.le_refl _) (Nat.lt_succ_self _))
                          have hvl := vrels_length l3
                          have hlen2 : (cs.drop o ++ news).length = (len + n) * ei.size := by
                            rw [List.length_append, List.length_drop, hvl, l4, Nat.add_mul]; omega
                          refine ⟨.slice (some ⟨L.blk, L.base + o, none⟩) (len + n) c, setBlk w L.blk (.cells (lput cc.toList (L.base + o + len * ei.size + 0) vs).toArray t0 fz), upd φ S.n ⟨L.blk, L.base + o, L.tot⟩, run_append_fits' hu te hu' hd l1 hin l2 (fun a e => ?_) (fun e => by cases e), ?_, ?_, ?_⟩
                          · cases e
                            rw [add_plain]; exact hrun
                          · exact ⟨⟨L.blk, L.base + o, L.tot⟩, c, by simp [upd], by simp, hin, by simpa using htot, hclim⟩
                          · have hbr : brel (upd φ S.n ⟨L.blk, L.base + o, L.tot⟩) (.cells t0 (cs.drop o ++ news) true) ⟨L.blk, L.base + o, L.tot⟩ (.cells (lput cc.toList (L.base + o + len * ei.size + 0) vs).toArray t0 fz) := by
                              refine ⟨_, fz, rfl, by simpa [lput_length] using a2, by simpa [lput_length] using a3, ?_, (fun h => by cases h), ?_, ?_⟩
                              · simp only [hlen2, List.size_toArray, lput_length]
                                have : (len + n) * ei.size ≤ c * ei.size := Nat.mul_le_mul_right _ hin
                                simp only [Array.length_toList]
                                omega
                              · have e1 : (((lput cc.toList (L.base + o + len * ei.size + 0) vs).drop (L.base + o)).take (cs.drop o ++ news).length) = (((cc.toList.drop L.base).take cs.length).drop o) ++ vs := by
                                  apply List.ext_getElem?
                                  intro q
                                  have hd1 : ((List.take cs.length (List.drop L.base cc.toList)).drop o).length = len * ei.size := by
                                    simp only [List.length_drop, List.length_take, Array.length_toList]; omega
                                  rw [List.getElem?_take, List.getElem?_drop, lput_set_get]
                                  simp only [hlen2, Array.length_toList]
                                  have ht2 : (len + n) * ei.size ≤ c * ei.size := Nat.mul_le_mul_right _ hin
                                  have ht3 : (len + n) * ei.size = len * ei.size + n * ei.size := Nat.add_mul _ _ _
                                  by_cases q1 : q < len * ei.size
                                  · rw [if_pos (by omega), if_neg (by omega), List.getElem?_append_left (by omega), List.getElem?_drop, List.getElem?_take, if_pos (by omega), List.getElem?_drop]
                                    congr 1; omega
                                  · rw [List.getElem?_append_right (by omega), hd1]
                                    by_cases q2 : q < (len + n) * ei.size
                                    · rw [if_pos q2, if_pos ⟨by omega, by omega, by omega⟩]
                                      congr 1; omega
                                    · rw [if_neg q2, List.getElem?_eq_none (by omega)]
                                show vrels _ _ (List.take _ (List.drop _ (lput cc.toList (L.base + o + len * ei.size + 0) vs).toArray.toList))
                                rw [show ((lput cc.toList (L.base + o + len * ei.size + 0) vs).toArray.toList) = lput cc.toList (L.base + o + len * ei.size + 0) vs from rfl, e1]
                                exact vrels_mono hsub _ (vrels_append (vrels_drop o a6) l3)
                              · show flatR (List.drop (L.base + o + (cs.drop o ++ news).length) (lput cc.toList (L.base + o + len * ei.size + 0) vs))
                                rw [hlen2, drop_lput_after _ _ _ _ (by rw [l4, Nat.add_mul]; omega)]
                                intro v hv
                                refine a7 v ?_
                                have e9 : L.base + o + (len + n) * ei.size = (L.base + cs.length) + n * ei.size := by rw [Nat.add_mul]; omega
                                rw [e9, ← List.drop_drop] at hv
                                exact List.mem_of_mem_drop hv
                            refine ⟨?_, ?_, ?_, ?_⟩
                            · intro m x hm
                              rw [hget] at hm
                              split at hm
                              · rename_i em; subst em
                                simp at hm; subst hm
                                exact ⟨⟨L.blk, L.base + o, L.tot⟩, _, by simp [upd], by rw [setBlk_get, if_pos rfl, if_pos hwl], hbr⟩
                              · rename_i em
                                split at hm
                                · cases hm
                                · rename_i eb
                                  obtain ⟨l, ob, b1, b2, b3⟩ := hw.blk m x hm
                                  refine ⟨l, ob, by simp [upd, em, b1], ?_, brel_mono hsub b3⟩
                                  rw [setBlk_get, if_neg]
                                  · exact b2
                                  · intro e; exact eb (hw.inj m b _ _ l L hm hg b1 hL e.symm)
                            · intro m m' x x' l l' e1 e2 e3 e4 e5
                              rw [hget] at e1 e2
                              by_cases d1 : m = S.n
                              · by_cases d2 : m' = S.n
                                · rw [d1, d2]
                                · rw [if_neg d2] at e2
                                  split at e2
                                  · cases e2
                                  · rename_i d3
                                    simp [upd, d1] at e3; subst e3
                                    simp [upd, d2] at e4
                                    exact absurd (hw.inj m' b _ _ l' L e2 hg e4 hL e5.symm) d3
                              · rw [if_neg d1] at e1
                                split at e1
                                · cases e1
                                · rename_i d3
                                  simp [upd, d1] at e3
                                  by_cases d2 : m' = S.n
                                  · simp [upd, d2] at e4; subst e4
                                    exact absurd (hw.inj m b _ _ l L e1 hg e3 hL e5) d3
                                  · rw [if_neg d2] at e2
                                    split at e2
                                    · cases e2
                                    · simp [upd, d2] at e4
                                      exact hw.inj m m' _ _ l l' e1 e2 e3 e4 e5
                            · intro m x hm
                              rw [hget] at hm
                              split at hm
                              · rename_i em; subst em; exact c1
                              · split at hm
                                · cases hm
                                · exact hw.small m x hm
                            · intro g o' ho
                              obtain ⟨q1, q2⟩ := hw.ro g o' ho
                              refine ⟨by rw [setBlk_get, if_neg (q2 b _ L hg hL)]; exact q1, fun m x l hm hl => ?_⟩
                              rw [hget] at hm
                              by_cases d1 : m = S.n
                              · simp [upd, d1] at hl; subst hl; exact q2 b _ L hg hL
                              · rw [if_neg d1] at hm
                                split at hm
                                · cases hm
                                · simp [upd, d1] at hl
                                  exact q2 m x l hm hl
                          · refine ⟨Nat.le_succ _, hsub, ?_, ?_, by rw [setBlk_size]; exact Nat.le_refl _, ?_, rfl, rfl, rfl⟩
                            · intro m
                              by_cases d1 : m = S.n
                              · right
                                refine ⟨by omega, by rw [d1]; exact Nat.lt_succ_self _, fun l hl => ?_⟩
                                simp [upd, d1] at hl; subst hl
                                exact .inr ⟨b, _, L, hg, hL, rfl⟩
                              · left; simp [upd, d1]
                            · intro m x hm
                              rw [hget] at hm
                              split at hm
                              · rename_i em; subst em; right; exact ⟨Nat.le_refl _, Nat.lt_succ_self _⟩
                              · split at hm
                                · cases hm
                                · exact .inl ⟨_, hm⟩
                            · intro k hk hn'
                              rw [setBlk_get, if_neg (hn' b _ L hg hL)]
                        · have hrow : row S.h b o (len * ei.size) = some (cs.drop o) := by
                            simp only [row, hg, nble, cond_dec]
                            rw [if_pos (by omega)]
                            congr 1
                            rw [List.take_of_length_le (by simp; omega)]
                          obtain ⟨os, o1, o2⟩ := firstCells_row (P := P) (len := len) (c := c) (wrel_drew hw) hrow hL
                          have hgr : grow S t0 ei.size ei.bytes (cs.drop o ++ news) (len + n) = some (.slice S.n 0 (len + n) (.op ei.size), S.new (.cells t0 (cs.drop o ++ news) true)) := by
                            unfold grow
                            rw [nblt, nble, nble]
                            simp only [c1, c5, c6, decide_true, Bool.and_self, cond_true]
                          have := grow_ok (ty := ty) (ts := ts) hw te hu hu' hd hx hn hsrc ⟨os, o1, o2⟩ hin hgr (by rw [List.length_append, hnl, Nat.add_mul, List.length_drop]; omega) hz2 fr
                          obtain ⟨u, w', φ', q1, q2, q3, q4⟩ := this
                          have hsubs : ∀ id x, (Tr.set 40 (S.h.del b) S.n (.cells t0 (cs.drop o ++ news) true)).get id = some x → (S.new (.cells t0 (cs.drop o ++ news) true)).h.get id = some x := by
                            intro m x hm
                            rw [hget] at hm
                            show (Tr.set 40 S.h S.n _).get m = some x
                            rw [Tr.get_set 40 _ _ _ _ (by omega)]
                            split at hm
                            · rename_i em; rw [if_pos em]; exact hm
                            · rename_i em
                              split at hm
                              · cases hm
                              · rw [if_neg em]; exact hm
                          exact ⟨u, w', φ', q1, q2, wrel_sub hsubs q3, q4.shrink hsubs⟩
                      · have : (decide (S.n < 1000000000) && sp && decide (t0 = el) && decide (o + len * ei.size = cs.length) && decide ((2 * (len + n) + 1000) * ei.bytes ≤ 140737488355328) && decide (len + n ≤ 140737488355328) && news.all AV.one) = false := by
                          rw [Bool.eq_false_iff]; intro hh; apply hc; simpa [and_assoc] using hh
                        rw [this] at h; simp at h
                  · simp at h
              · simp at h
    · simp at h
end
end GX
/- GX: the operations that write memory: copy, maps, iterators; all of them. -/

namespace GX
open Go
section
variable {P : Program} {X : X} {φ : Phi} {w : World} {H : Tr AB}

theorem St.eta (S : St) : ({ h := S.h, n := S.n } : St) = S := by cases S; rfl
theorem copy_ok [Val] (hX : XOK P X) {S S' : St} (hw : wrel φ S.h w) {t ty : Nat} {ts : List TypeId} {d x r : AV} {ud ux : Value} (hd : vrel φ d ud) (hx : vrel φ x ux) (h : acopy X S t d x = some (r, S')) :
    Wrote P φ S w r S' (Builtin.copy_ (t :: ts).toArray ty #[ud, ux]) := by
  unfold acopy at h
  split at h
  · simp at h
  · rename_i i hi
    have ti := hX.ti _ _ hi
    split at h
    · rename_i el hdt
      split at h
      · simp at h
      · rename_i ei hei
        have te := hX.ti _ _ hei
        split at h
        · simp at h
        · rename_i m hm
          have hlenOf : (Builtin.lenOf ux).run P w = .ok m w := by
            cases x <;> simp [srcLen] at hm <;> subst hm <;> simp only [vrel] at hx
            · obtain ⟨b, rfl, rfl⟩ := hx; simp [Builtin.lenOf, bytes_length]
            · obtain ⟨L, c, _, rfl, _⟩ := hx; rfl
            · obtain ⟨a, c, rfl⟩ := hx; rfl
            · subst hx; rfl
            · obtain ⟨_, _, _, _, _, _, rfl, _⟩ := hx; rfl
          split at h
          · simp at h; obtain ⟨rfl, rfl⟩ := h
            simp only [vrel] at hd; subst hd
            have hf : (Builtin.firstCells ei.size 0 ux).run P w = .ok #[] w := by
              cases x <;> simp [srcLen] at hm <;> simp only [vrel] at hx
              · obtain ⟨b, rfl, rfl⟩ := hx; simp [Builtin.firstCells]
              · obtain ⟨L, c, _, rfl, _⟩ := hx; simp [Builtin.firstCells, loadCells, loadCellsFrom]
              · obtain ⟨a, c, rfl⟩ := hx; simp [Builtin.firstCells, loadCells, loadCellsFrom]
              · subst hx; rfl
              · obtain ⟨_, _, _, _, _, _, rfl, _⟩ := hx; simp [Builtin.firstCells, loadCells, loadCellsFrom]
            refine ⟨.int .i64 0, w, φ, ?_, by simp [vrel], hw, Ext.refl _ _ _ _⟩
            simp [Builtin.copy_, underlying, ti.und, hdt, hlenOf, te.run_size, hf, goInt]
          · simp at h; obtain ⟨rfl, rfl⟩ := h
            simp only [vrel] at hd; obtain ⟨ad, cd, rfl⟩ := hd
            have hf : (Builtin.firstCells ei.size 0 ux).run P w = .ok #[] w := by
              cases x <;> simp [srcLen] at hm <;> simp only [vrel] at hx
              · obtain ⟨b, rfl, rfl⟩ := hx; simp [Builtin.firstCells]
              · obtain ⟨L, c, _, rfl, _⟩ := hx; simp [Builtin.firstCells, loadCells, loadCellsFrom]
              · obtain ⟨a, c, rfl⟩ := hx; simp [Builtin.firstCells, loadCells, loadCellsFrom]
              · subst hx; rfl
              · obtain ⟨_, _, _, _, _, _, rfl, _⟩ := hx; simp [Builtin.firstCells, loadCells, loadCellsFrom]
            refine ⟨.int .i64 0, w, φ, ?_, by simp [vrel], hw, Ext.refl _ _ _ _⟩
            simp [Builtin.copy_, underlying, ti.und, hdt, hlenOf, te.run_size, hf, goInt, storeCells]
          · rename_i b o dl cap
            simp only [vrel] at hd
            obtain ⟨L, c, hL, rfl, _⟩ := hd
            have hn : (bif Nat.ble m dl then m else dl) = Nat.min m dl := by
              rw [nble, cond_dec]; split
              · rename_i q; exact (Nat.min_eq_left q).symm
              · rename_i q; exact (Nat.min_eq_right (by omega)).symm
            simp only [hn] at h
            split at h
            · simp at h
            · rename_i cs hsrc
              split at h
              · simp at h
              · rename_i S1 hst
                simp at h; obtain ⟨rfl, rfl⟩ := h
                obtain ⟨_, us, l2, l3, l4⟩ := src_ok (P := P) hw hx hm (Nat.min_le_left _ _) hsrc
                obtain ⟨w', r1, r2, r3, r4⟩ := storeAt_ok (P := P) hw hst hL l3
                refine ⟨.int .i64 (Nat.min m dl : Nat), w', φ, ?_, by simp [vrel], r2, r3⟩
                simp [Builtin.copy_, underlying, ti.und, hdt, hlenOf, te.run_size, l2, goInt, r1]
          · simp at h
    · simp at h

/-! maps -/
theorem afind_some : ∀ {es : List (AV × AV × Nat)} {t : Nat} {k : AV} {i j : Nat} {v : AV}, afind X t k es i = some (some (j, v)) → i ≤ j ∧ ∃ k' b, es[j - i]? = some (k', v, b)
  | [], _, _, _, _, _, h => by simp [afind] at h
  | (k', x, b) :: es, t, k, i, j, v, h => by
    simp only [afind] at h
    split at h
    · simp at h; obtain ⟨rfl, rfl⟩ := h; exact ⟨Nat.le_refl _, k', b, by simp⟩
    · obtain ⟨h1, k2, b2, h2⟩ := afind_some h
      refine ⟨by omega, k2, b2, ?_⟩
      rw [show j - i = (j - (i + 1)) + 1 by omega]
      simpa using h2
    · simp at h
theorem mrel_get [Val] : ∀ {es : List (AV × AV × Nat)} {l : List MapEntry} {i : Nat} {k v : AV} {b : Nat}, mrel φ es l → es[i]? = some (k, v, b) → ∃ e, l[i]? = some e ∧ vrel φ k e.key ∧ vrel φ v e.val ∧ e.born = b
  | [], _, _, _, _, _, _, h => by simp at h
  | (k', x, b') :: es, l, 0, k, v, b, hr, h => by
    simp only [mrel] at hr
    obtain ⟨e, l', rfl, h1, h2, h3, h4⟩ := hr
    simp at h; obtain ⟨rfl, rfl, rfl⟩ := h
    exact ⟨e, by simp, h1, h2, h3⟩
  | (k', x, b') :: es, l, i + 1, k, v, b, hr, h => by
    simp only [mrel] at hr
    obtain ⟨e, l', rfl, h1, h2, h3, h4⟩ := hr
    simp at h
    simpa using mrel_get h4 h
theorem mrel_put [Val] : ∀ {es : List (AV × AV × Nat)} {l : List MapEntry} {i : Nat} {k v : AV} {uk uv : Value}, mrel φ es l → vrel φ k uk → vrel φ v uv → mrel φ (mput es i k v) (l.modify i fun e => { e with key := uk, val := uv })
  | [], l, i, _, _, _, _, hr, _, _ => by simp only [mrel] at hr; subst hr; simp [mput, mrel]
  | (k', x, b') :: es, l, 0, k, v, uk, uv, hr, hk, hv => by
    simp only [mrel] at hr
    obtain ⟨e, l', rfl, h1, h2, h3, h4⟩ := hr
    simp only [mput, mrel]
    exact ⟨{ e with key := uk, val := uv }, l', by simp, hk, hv, h3, h4⟩
  | (k', x, b') :: es, l, i + 1, k, v, uk, uv, hr, hk, hv => by
    simp only [mrel] at hr
    obtain ⟨e, l', rfl, h1, h2, h3, h4⟩ := hr
    simp only [mput, mrel]
    exact ⟨e, _, by simp, h1, h2, h3, mrel_put h4 hk hv⟩
theorem mrel_push [Val] {es : List (AV × AV × Nat)} {l : List MapEntry} {k v : AV} {uk uv : Value} {b : Nat} (hr : mrel φ es l) (hk : vrel φ k uk) (hv : vrel φ v uv) : mrel φ (es ++ [(k, v, b)]) (l ++ [{ key := uk, val := uv, born := b }]) := by
  induction es generalizing l with
  | nil => simp only [mrel] at hr; subst hr; exact ⟨_, _, rfl, hk, hv, rfl, rfl⟩
  | cons e es ih =>
    obtain ⟨k', x, b'⟩ := e
    simp only [mrel] at hr
    obtain ⟨e, l', rfl, h1, h2, h3, h4⟩ := hr
    exact ⟨e, _, rfl, h1, h2, h3, ih h4⟩
theorem ksame1_ok [Val] {a b : AV} {u v : Value} (h : ksame1 a b = true) (ha : vrel φ a u) (hb : vrel φ b v) (d : Nat) : Instr.sameBits d u v = true := by
  unfold ksame1 at h
  split at h
  · simp only [vrel] at ha hb; subst ha; subst hb
    simp only [Bool.and_eq_true, decide_eq_true_eq, ieq_eq] at h
    obtain ⟨rfl, h2⟩ := h
    cases d <;> simp [Instr.sameBits, h2] <;> simpa using h2
  · simp only [vrel] at ha hb
    obtain ⟨x, rfl, rfl⟩ := ha
    obtain ⟨y, rfl, rfl⟩ := hb
    rw [bytes_toList, bytes_toList, seq_map, ← beq_toListBytes] at h
    cases d <;> simpa [Instr.sameBits] using h
  · simp only [vrel] at ha hb; subst ha; subst hb
    cases d <;> simpa [Instr.sameBits] using h
  · simp at h
theorem ksames_ok [Val] : ∀ {asx bs : List AV} {us vs : List Value}, ksames asx bs = true → vrels φ asx us → vrels φ bs vs → ∀ d, us.length = vs.length ∧ (us.zip vs).all (fun (x, y) => Instr.sameBits d x y) = true
  | [], [], us, vs, _, ha, hb, d => by simp only [vrels] at ha hb; subst ha; subst hb; simp
  | [], _ :: _, _, _, h, _, _, _ => by simp [ksames] at h
  | _ :: _, [], _, _, h, _, _, _ => by simp [ksames] at h
  | a :: asx, b :: bs, us, vs, h, ha, hb, d => by
    simp only [vrels] at ha hb
    obtain ⟨u, us, rfl, a1, a2⟩ := ha
    obtain ⟨v, vs, rfl, b1, b2⟩ := hb
    simp only [ksames] at h
    cases hk : ksame1 a b with
    | false => simp [hk] at h
    | true =>
      simp only [hk, cond_true] at h
      obtain ⟨h1, h2⟩ := ksames_ok h a2 b2 d
      exact ⟨by simp [h1], by simp [ksame1_ok hk a1 b1 d, h2]⟩
theorem ksame_ok [Val] {a b : AV} {u v : Value} (h : ksame a b = true) (ha : vrel φ a u) (hb : vrel φ b v) (d : Nat) : Instr.sameBits (d + 1) u v = true := by
  unfold ksame at h
  split at h
  · simp only [vrel] at ha hb
    obtain ⟨us, rfl, a1⟩ := ha
    obtain ⟨vs, rfl, b1⟩ := hb
    obtain ⟨h1, h2⟩ := ksames_ok h a1 b1 d
    simp at h1
    simp only [Instr.sameBits, h1, beq_self_eq_true, Bool.true_and]
    exact h2
  · exact ksame1_ok h ha hb _
theorem keyStays [Val] {es : List (AV × AV × Nat)} {l : List MapEntry} {i : Nat} {k : AV} {uk : Value} (h : keyAt es i k = true) (hr : mrel φ es l) (hk : vrel φ k uk) :
    (Instr.keyThatStays (((l[i]?).map (·.key)).getD uk) uk).run P w = .ok uk w := by
  unfold keyAt at h
  split at h
  · rename_i k' v b he
    obtain ⟨e, h1, h2, _⟩ := mrel_get hr he
    rw [h1]
    have := ksame_ok h h2 hk 9999
    simp only [Option.map_some, Option.getD_some, Instr.keyThatStays]
    rw [if_pos this]; rfl
  · simp at h
theorem modify_toList {α : Type} (a : Array α) (i : Nat) (f : α → α) : (a.modify i f).toList = a.toList.modify i f := by simp
theorem update_ok [Val] (hX : XOK P X) {S S' : St} (hw : wrel φ S.h w) {t : Nat} {m k v : AV} {um uk uv : Value} (hm : vrel φ m um) (hk : vrel φ k uk) (hv : vrel φ v uv) (h : aupdate X S t m k v = some S') :
    ∃ w', (Instr.mapUpdate t um uk uv).run P w = .ok () w' ∧ wrel φ S'.h w' ∧ Ext φ S.h S.n w φ S'.h S'.n w' := by
  unfold aupdate at h
  split at h
  · simp at h
  · rename_i i hi
    have ti := hX.ti _ _ hi
    split at h
    · rename_i kt et hd
      split at h
      · rename_i r
        cases hkv : keyVal X 4 kt k with
        | false => simp [hkv] at h
        | true =>
          simp only [hkv, cond_true] at h
          have chk := fun em W => keyVal_ok hX 4 kt k hkv _ hk em 10000 (by omega) W
          simp only [vrel] at hm
          obtain ⟨L, hL, rfl⟩ := hm
          split at h
          · rename_i es clock hg
            obtain ⟨ea, m1, m2⟩ := map_at hw hg hL
            have hgo : (getObj L.blk).run P w = .ok (.map ea clock) w := by simp [getObj, Sem.run, m1]
            have hso : ∀ o, (setObj L.blk o).run P w = .ok () (setBlk w L.blk o) := by intro o; simp [setObj, Sem.run, m1]; rfl
            have cki : ∃ ki, X.ti kt = some ki := by
              unfold keyVal at hkv
              split at hkv
              · simp at hkv
              · rename_i ki hki; exact ⟨ki, hki⟩
            obtain ⟨ki, hki⟩ := cki
            split at h
            · simp at h
            · rename_i j x hf
              cases hka : keyAt es j k with
              | false => simp [hka] at h
              | true =>
                simp only [hka, cond_true] at h
                simp at h; subst h
                obtain ⟨r', f1, f2⟩ := findKey_ok hX hk hki hf m2
                cases r' with
                | none => simp [fres] at f2
                | some y =>
                  obtain ⟨j', yv⟩ := y
                  simp only [fres] at f2
                  obtain ⟨rfl, _⟩ := f2
                  have ks := keyStays (P := P) (w := w) hka m2 hk
                  simp only [Array.getElem?_toList] at ks
                  have hb : brel φ (.map (mput es j k v) clock) L (.map (ea.modify j fun e => { e with key := uk, val := uv }) clock) := ⟨_, rfl, by rw [modify_toList]; exact mrel_put m2 hk hv⟩
                  obtain ⟨r1, r2⟩ := put_ok (n := S.n) hw hg hL hb
                  refine ⟨_, ?_, r1, r2⟩
                  simp only [Instr.mapUpdate, Sem.run_bind, ti.run_und, hd, Result.andThen_ok, hgo, chk, f1, ks, hso]
            · rename_i hf
              simp at h; subst h
              obtain ⟨r', f1, f2⟩ := findKey_ok hX hk hki hf m2
              cases r' with
              | some y => simp [fres] at f2
              | none =>
                have hb : brel φ (.map (es ++ [(k, v, clock)]) (clock + 1)) L (.map (ea.push { key := uk, val := uv, born := clock }) (clock + 1)) := ⟨_, rfl, by simpa using mrel_push m2 hk hv⟩
                obtain ⟨r1, r2⟩ := put_ok (n := S.n) hw hg hL hb
                refine ⟨_, ?_, r1, r2⟩
                simp only [Instr.mapUpdate, Sem.run_bind, ti.run_und, hd, Result.andThen_ok, hgo, chk, f1, hso]
          · simp at h
      · simp at h
    · simp at h
theorem entry_ok [Val] (hX : XOK P X) {S S' : St} (hw : wrel φ S.h w) {t : Nat} {m k r : AV} {um uk : Value} (hm : vrel φ m um) (hk : vrel φ k uk) (h : aentry X S t m k = some (r, S')) :
    Wrote P φ S w r S' (Instr.mapEntry t um uk) := by
  unfold aentry at h
  split at h
  · simp at h
  · rename_i i hi
    have ti := hX.ti _ _ hi
    split at h
    · rename_i kt et hd
      split at h
      · rename_i rr
        cases hkv : keyVal X 4 kt k with
        | false => simp [hkv] at h
        | true =>
          simp only [hkv, cond_true] at h
          have chk := fun em W => keyVal_ok hX 4 kt k hkv _ hk em 10000 (by omega) W
          simp only [vrel] at hm
          obtain ⟨L, hL, rfl⟩ := hm
          split at h
          · rename_i es clock hg
            obtain ⟨ea, m1, m2⟩ := map_at hw hg hL
            have hgo : (getObj L.blk).run P w = .ok (.map ea clock) w := by simp [getObj, Sem.run, m1]
            have hso : ∀ o, (setObj L.blk o).run P w = .ok () (setBlk w L.blk o) := by intro o; simp [setObj, Sem.run, m1]; rfl
            have cki : ∃ ki, X.ti kt = some ki := by
              unfold keyVal at hkv
              split at hkv
              · simp at hkv
              · rename_i ki hki; exact ⟨ki, hki⟩
            obtain ⟨ki, hki⟩ := cki
            split at h
            · simp at h
            · rename_i j x hf
              cases hka : keyAt es j k with
              | false => simp [hka] at h
              | true =>
                simp only [hka, cond_true] at h
                simp at h; obtain ⟨rfl, rfl⟩ := h
                obtain ⟨r', f1, f2⟩ := findKey_ok hX hk hki hf m2
                cases r' with
                | none => simp [fres] at f2
                | some y =>
                  obtain ⟨j', yv⟩ := y
                  simp only [fres] at f2
                  obtain ⟨rfl, f3⟩ := f2
                  have ks := keyStays (P := P) (w := w) hka m2 hk
                  simp only [Array.getElem?_toList] at ks
                  obtain ⟨_, k', b, hes⟩ := afind_some hf
                  simp only [Nat.sub_zero] at hes
                  obtain ⟨e, e1, e2, e3, e4⟩ := mrel_get m2 hes
                  simp only [Array.getElem?_toList] at e1
                  have hst : stampAt es j = b := by simp [stampAt, hes]
                  have hmod : (ea.modify j fun q => { q with key := uk }).toList = ea.toList.modify j fun q => { q with key := uk, val := e.val } := by
                    rw [modify_toList]
                    apply List.ext_getElem?
                    intro q
                    rw [List.getElem?_modify, List.getElem?_modify]
                    by_cases hq : j = q
                    · subst hq; simp [Array.getElem?_toList, e1]
                    · simp [hq]
                  have hb : brel φ (.map (mput es j k x) clock) L (.map (ea.modify j fun e => { e with key := uk }) clock) := ⟨_, rfl, by rw [hmod]; exact mrel_put m2 hk e3⟩
                  obtain ⟨r1, r2⟩ := put_ok (n := S.n) hw hg hL hb
                  refine ⟨.tuple #[yv, goInt b], _, φ, ?_, ⟨_, rfl, vrels_cons f3 (vrels_cons (by simp [vrel, goInt, hst]) vrels_nil)⟩, r1, r2⟩
                  simp only [Instr.mapEntry, Sem.run_bind, ti.run_und, hd, Result.andThen_ok, hgo, chk, f1, ks, hso, Sem.run_pure]
                  simp [e1, e4]
            · rename_i hf
              split at h
              · simp at h
              · rename_i ei hei
                have te := hX.ti _ _ hei
                obtain ⟨r', f1, f2⟩ := findKey_ok hX hk hki hf m2
                cases r' with
                | some y => simp [fres] at f2
                | none =>
                  split at h
                  · simp at h
                  · simp at h
                  · rename_i z hz hn1 hn2
                    simp at h; obtain ⟨rfl, rfl⟩ := h
                    have hzz : (match ei.desc with | .struct _ => some (.agg ei.zero) | .array _ _ => some (.agg ei.zero) | _ => match ei.zero with | [z] => some z | _ => none) = some z := by
                      cases hdd : ei.desc <;> first | exact absurd hdd (hn1 _) | exact absurd hdd (hn2 _ _) | simp [hz]
                    obtain ⟨zu, z1, z2⟩ := zero_rel te hzz
                    have hb : brel φ (.map (es ++ [(k, z, clock)]) (clock + 1)) L (.map (ea.push { key := uk, val := zu, born := clock }) (clock + 1)) := ⟨_, rfl, by simpa using mrel_push m2 hk (z2 φ)⟩
                    obtain ⟨r1, r2⟩ := put_ok (n := S.n) hw hg hL hb
                    refine ⟨.tuple #[zu, goInt clock], _, φ, ?_, ⟨_, rfl, vrels_cons (z2 φ) (vrels_cons (by simp [vrel, goInt]) vrels_nil)⟩, r1, r2⟩
                    simp only [Instr.mapEntry, Sem.run_bind, ti.run_und, hd, Result.andThen_ok, hgo, chk, f1, z1, hso, Sem.run_pure]
                  · simp at h
          · simp at h
      · simp at h
    · simp at h

theorem stamped_ok [Val] : ∀ {es es' : List (AV × AV × Nat)} {l : List MapEntry} {born : Nat} {v : AV} {uv : Value}, stamped es born v = some es' → mrel φ es l → vrel φ v uv →
    ∃ i, l.findIdx? (fun e => (e.born : Int) == (born : Int)) = some i ∧ mrel φ es' (l.modify i fun e => { e with val := uv })
  | [], _, _, _, _, _, h, _, _ => by simp [stamped] at h
  | (k, x, b) :: es, es', l, born, v, uv, h, hr, hv => by
    simp only [mrel] at hr
    obtain ⟨e, l', rfl, h1, h2, h3, h4⟩ := hr
    simp only [stamped, nbeq, cond_dec] at h
    split at h
    · rename_i hb
      simp at h; subst h
      refine ⟨0, by simp [List.findIdx?_cons, h3, hb], ?_⟩
      exact ⟨{ e with val := uv }, l', by simp, h1, hv, h3, h4⟩
    · rename_i hb
      split at h
      · rename_i l2 hl2
        simp at h; subst h
        obtain ⟨i, i1, i2⟩ := stamped_ok hl2 h4 hv
        refine ⟨i + 1, ?_, ?_⟩
        · have : ((e.born : Int) == (born : Int)) = false := by simp [h3]; omega
          simp [List.findIdx?_cons, this, i1]
        · exact ⟨e, _, by simp, h1, h2, h3, i2⟩
      · simp at h
theorem entryStore_ok [Val] {S S' : St} (hw : wrel φ S.h w) {t : Nat} {m st v : AV} {um us uv : Value} (hm : vrel φ m um) (hs : vrel φ st us) (hv : vrel φ v uv) (h : aentryStore S m st v = some S') :
    ∃ w', (Instr.entryStore t um us uv).run P w = .ok () w' ∧ wrel φ S'.h w' ∧ Ext φ S.h S.n w φ S'.h S'.n w' := by
  unfold aentryStore at h
  split at h
  · rename_i r kk born
    split at h
    · rename_i es clock hg
      split at h
      · rename_i es' hes
        simp at h; subst h
        simp only [vrel] at hm hs
        obtain ⟨L, hL, rfl⟩ := hm
        subst hs
        obtain ⟨ea, m1, m2⟩ := map_at hw hg hL
        have hgo : (getObj L.blk).run P w = .ok (.map ea clock) w := by simp [getObj, Sem.run, m1]
        have hso : ∀ o, (setObj L.blk o).run P w = .ok () (setBlk w L.blk o) := by intro o; simp [setObj, Sem.run, m1]; rfl
        obtain ⟨i, i1, i2⟩ := stamped_ok hes m2 hv
        have i1' : ea.findIdx? (fun e => (e.born : Int) == (born : Int)) = some i := by cases ea; simpa using i1
        have hb : brel φ (.map es' clock) L (.map (ea.modify i fun e => { e with val := uv }) clock) := ⟨_, rfl, by rw [modify_toList]; exact i2⟩
        obtain ⟨r1, r2⟩ := put_ok (n := S.n) hw hg hL hb
        refine ⟨_, ?_, r1, r2⟩
        have e0 : Int.ofNat born = (born : Int) := rfl
        simp only [Instr.entryStore, Sem.run_bind, hgo, Result.andThen_ok, asInt, asIntOf, Sem.run_pure, e0, i1', hso]
      · simp at h
    · simp at h
  · simp at h
theorem mrel_erase [Val] : ∀ {es : List (AV × AV × Nat)} {l : List MapEntry} {i : Nat}, mrel φ es l → mrel φ (es.eraseIdx i) (l.eraseIdx i)
  | [], l, i, hr => by simp only [mrel] at hr; subst hr; simp [mrel]
  | (k', x, b') :: es, l, 0, hr => by
    simp only [mrel] at hr
    obtain ⟨e, l', rfl, h1, h2, h3, h4⟩ := hr
    simpa using h4
  | (k', x, b') :: es, l, i + 1, hr => by
    simp only [mrel] at hr
    obtain ⟨e, l', rfl, h1, h2, h3, h4⟩ := hr
    exact ⟨e, _, by simp, h1, h2, h3, mrel_erase h4⟩
theorem delete_ok [Val] (hX : XOK P X) {S S' : St} (hw : wrel φ S.h w) {t ty : Nat} {ts : List TypeId} {m k : AV} {um uk : Value} (hm : vrel φ m um) (hk : vrel φ k uk) (h : adelete X S t m k = some S') :
    Wrote P φ S w (.tup []) S' (Builtin.delete_ (t :: ts).toArray ty #[um, uk]) := by
  unfold adelete at h
  split at h
  · simp at h
  · rename_i i hi
    have ti := hX.ti _ _ hi
    split at h
    · rename_i kt et hd
      split at h
      · rename_i r
        cases hkv : keyVal X 4 kt k with
        | false => simp [hkv] at h
        | true =>
          simp only [hkv, cond_true] at h
          have chk := fun em W => keyVal_ok hX 4 kt k hkv _ hk em 10000 (by omega) W
          simp only [vrel] at hm
          obtain ⟨L, hL, rfl⟩ := hm
          split at h
          · rename_i es clock hg
            obtain ⟨ea, m1, m2⟩ := map_at hw hg hL
            have hgo : (getObj L.blk).run P w = .ok (.map ea clock) w := by simp [getObj, Sem.run, m1]
            have hso : ∀ o, (setObj L.blk o).run P w = .ok () (setBlk w L.blk o) := by intro o; simp [setObj, Sem.run, m1]; rfl
            have cki : ∃ ki, X.ti kt = some ki := by
              unfold keyVal at hkv
              split at hkv
              · simp at hkv
              · rename_i ki hki; exact ⟨ki, hki⟩
            obtain ⟨ki, hki⟩ := cki
            split at h
            · simp at h
            · rename_i j x hf
              simp at h; subst h
              obtain ⟨r', f1, f2⟩ := findKey_ok hX hk hki hf m2
              cases r' with
              | none => simp [fres] at f2
              | some y =>
                obtain ⟨j', yv⟩ := y
                simp only [fres] at f2
                obtain ⟨rfl, _⟩ := f2
                have hb : brel φ (.map (merase es j) clock) L (.map (ea.eraseIdxIfInBounds j) clock) := ⟨_, rfl, by simpa [merase] using mrel_erase m2⟩
                obtain ⟨r1, r2⟩ := put_ok (n := S.n) hw hg hL hb
                refine ⟨.tuple #[], _, φ, ?_, ⟨_, rfl, rfl⟩, r1, r2⟩
                simp [Builtin.delete_, underlying, ti.und, hd, hgo, chk, f1, hso]
            · rename_i hf
              simp at h; subst h
              obtain ⟨r', f1, f2⟩ := findKey_ok hX hk hki hf m2
              cases r' with
              | some y => simp [fres] at f2
              | none =>
                refine ⟨.tuple #[], w, φ, ?_, ⟨_, rfl, rfl⟩, hw, Ext.refl _ _ _ _⟩
                simp [Builtin.delete_, underlying, ti.und, hd, hgo, chk, f1, hso, setBlk_same m1]
          · simp at h
      · simp at h
    · simp at h
theorem next_ok [Val] {S S' : St} (hw : wrel φ S.h w) {ty : Nat} {it r : AV} {ui : Value} (hi : vrel φ it ui) (h : anext S it = some (r, S')) :
    Wrote P φ S w r S' (Instr.next ui true ty) := by
  unfold anext at h
  split at h
  · rename_i rr
    simp only [vrel] at hi
    obtain ⟨L, hL, rfl⟩ := hi
    split at h
    · rename_i s pos hg
      obtain ⟨l, o, h1, h2, h3⟩ := hw.blk rr _ hg
      rw [hL] at h1; cases h1
      simp only [brel] at h3
      obtain ⟨bs, rfl, hbs, hbase⟩ := h3
      have hgo : (getObj L.blk).run P w = .ok (.stringIter bs pos) w := by simp [getObj, Sem.run, h2]
      have hso : ∀ o, (setObj L.blk o).run P w = .ok () (setBlk w L.blk o) := by intro o; simp [setObj, Sem.run, h2]; rfl
      subst hbs
      split at h
      · rename_i hd
        simp at h; obtain ⟨rfl, rfl⟩ := h
        have : ¬ pos < bs.size := by
          rw [← bytes_length]; intro hlt
          have := congrArg List.length hd
          simp at this; omega
        refine ⟨.tuple #[.bool false], w, φ, ?_, ⟨_, rfl, vrels_cons rfl vrels_nil⟩, hw, Ext.refl _ _ _ _⟩
        simp [Instr.next, hbase, hgo, this]
      · rename_i b l' hd
        have hlt : pos < bs.size := by
          rw [← bytes_length]
          have := congrArg List.length hd
          simp at this; omega
        have hdec := decodeR_eq bs pos hlt
        rw [hd] at hdec
        rw [hdec] at h
        simp at h; obtain ⟨rfl, rfl⟩ := h
        have hb : brel φ (.sit (bytes bs) (pos + (Utf8.decode bs pos).2)) L (.stringIter bs (pos + (Utf8.decode bs pos).2)) := ⟨bs, rfl, rfl, hbase⟩
        obtain ⟨r1, r2⟩ := put_ok (n := S.n) hw hg hL hb
        refine ⟨.tuple #[.bool true, goInt pos, .int .i32 (Utf8.decode bs pos).1], _, φ, ?_, ⟨_, rfl, vrels_cons rfl (vrels_cons (by simp [vrel, goInt]) (vrels_cons (by simp [vrel]) vrels_nil))⟩, r1, r2⟩
        simp [Instr.next, hbase, hgo, hlt, hso]
    · simp at h
  · simp at h

/-- the result of an operation that is no call -/
def VOk (r : Next) (u : Value) : Prop := r = .value u ∨ (r = .skip ∧ u = undef)
theorem isBytes_ok [Val] (hX : XOK P X) {s : Nat} (h : isBytes X s = true) : ∃ el, P.underlying s = some (.slice el) ∧ P.underlying el = some (.int .u8) := by
  unfold isBytes at h
  split at h
  · simp at h
  · rename_i i hi
    split at h
    · rename_i el hd
      split at h
      · simp at h
      · rename_i ei hei
        split at h
        · rename_i k hk
          have hk8 : k = .u8 := by simpa using h
          subst hk8
          exact ⟨el, by rw [(hX.ti _ _ hi).und, hd], by rw [(hX.ti _ _ hei).und, hk]⟩
        · simp at h
    · simp at h
/-- a mark behind the end of a block -/
theorem mark_ok [Val] {S : St} (hw : wrel φ S.h w) {b o n : Nat} {c : Cap} {u : Value} (hp : vrel φ (.slice b o n c) u) {t : Nat} {cs : List AV} {sp : Bool} (hg : S.h.get b = some (.cells t cs sp)) {s el : Nat} (h1 : P.underlying s = some (.slice el)) (h2 : P.underlying el = some (.int .u8)) :
    Wrote P φ S w (.slice b o n c) (S.put b (.cells t cs true)) (Go.convert s s u) := by
  have hp' := hp
  simp only [vrel] at hp
  obtain ⟨L, k, hL, rfl, _⟩ := hp
  obtain ⟨cc, fz, a1, a2, a3, a4, a5, a6, a7⟩ := cells_sp hw hg hL
  have hfz : ∃ fz', w.freeze ⟨L.blk, cc.size, none⟩ 1 = setBlk w L.blk (.cells cc t fz') ∧ ∀ i, i < cc.size → free fz' i := by
    obtain ⟨lo, hi⟩ := fz
    refine ⟨if lo == hi then (cc.size, cc.size + 1) else (min lo cc.size, max hi (cc.size + 1)), ?_, ?_⟩
    · have hlt : L.blk < w.heap.size := (Array.getElem?_eq_some_iff.1 a1).1
      have hget : w.heap[L.blk] = .cells cc t (lo, hi) := (Array.getElem?_eq_some_iff.1 a1).2
      have key : ∀ (g : Obj → Obj), w.heap.modify L.blk g = w.heap.setIfInBounds L.blk (g w.heap[L.blk]) := by
        intro g
        apply Array.ext
        · simp
        · intro i h3 h4
          simp only [Array.getElem_modify]
          split
          · rename_i hi'; subst hi'; exact (Array.getElem_setIfInBounds_self ..).symm
          · rename_i hi'; exact (Array.getElem_setIfInBounds_ne _ hi').symm
      simp only [World.freeze, setBlk, Nat.one_ne_zero, if_false, key, hget]
    · intro i hi'
      have := a2 i hi'
      unfold free at this ⊢
      by_cases he : lo = hi
      · simp [he]; omega
      · simp [he]; simp at this; omega
  obtain ⟨fz', hf, hfree⟩ := hfz
  have hb : brel φ (.cells t cs true) L (.cells cc t fz') := ⟨cc, fz', rfl, hfree, a3, a4, (fun h => by cases h), a6, a7⟩
  obtain ⟨r1, r2⟩ := put_ok (n := S.n) hw hg hL hb
  refine ⟨_, setBlk w L.blk (.cells cc t fz'), φ, ?_, hp', r1, r2⟩
  have hsh : w.shape? L.blk = some (t, cc.size) := by simp [World.shape?, a1]
  rw [← hf]
  simp [Go.convert, underlying, h1, h2, markStringish, hsh]
theorem loud_ok [Val] (hX : XOK P X) {S S' : St} (hw : wrel φ S.h w) {n : Nat} {e : Env} {a : Act} (he : erel φ n e a.tmps) {o : Oper} {v : AV} (h : loudOp X e S o.op = some (v, S')) (fr : ∀ id, S.n ≤ id → id < S'.n → φ id = none) :
    ∃ r u w' φ', (execOp a.eval o).run P w = .ok r w' ∧ VOk r u ∧ vrel φ' v u ∧ wrel φ' S'.h w' ∧ Ext φ S.h S.n w φ' S'.h S'.n w' := by
  obtain ⟨dst, op, type, pos, after, guard⟩ := o
  dsimp only at h
  have fin : ∀ (s : Sem Value) (hs : execOp a.eval ⟨dst, op, type, pos, after, guard⟩ = (do pure (.value (← s)))), Wrote P φ S w v S' s →
      ∃ r u w' φ', (execOp a.eval ⟨dst, op, type, pos, after, guard⟩).run P w = .ok r w' ∧ VOk r u ∧ vrel φ' v u ∧ wrel φ' S'.h w' ∧ Ext φ S.h S.n w φ' S'.h S'.n w' := by
    intro s hs ⟨z, w', φ', h1, h2, h3, h4⟩
    exact ⟨_, z, w', φ', by rw [hs]; simp [h1], .inl rfl, h2, h3, h4⟩
  have finU : ∀ (s : Sem Unit) (hs : execOp a.eval ⟨dst, op, type, pos, after, guard⟩ = (do s; pure .skip)), v = .tup [] → (∃ w', s.run P w = .ok () w' ∧ wrel φ S'.h w' ∧ Ext φ S.h S.n w φ S'.h S'.n w') →
      ∃ r u w' φ', (execOp a.eval ⟨dst, op, type, pos, after, guard⟩).run P w = .ok r w' ∧ VOk r u ∧ vrel φ' v u ∧ wrel φ' S'.h w' ∧ Ext φ S.h S.n w φ' S'.h S'.n w' := by
    intro s hs hv ⟨w', h1, h2, h3⟩
    subst hv
    exact ⟨_, undef, w', φ, by rw [hs]; simp only [Sem.run_bind, h1, Result.andThen_ok, Sem.run_pure], .inr ⟨rfl, rfl⟩, vrel_undef φ, h2, h3⟩
  cases op with
  | store t x y =>
    simp only [loudOp] at h
    split at h
    · rename_i b o hp
      have hp := opd_ok he hp
      split at h
      · simp at h
      · rename_i q hq
        have hq := opd_ok he hq
        split at h
        · simp at h
        · rename_i i hi
          have ti := hX.ti _ _ hi
          rw [nbeq, cond_dec] at h
          split at h
          · rename_i hlen
            split at h
            · simp at h
            · rename_i S1 hst
              simp at h; obtain ⟨rfl, rfl⟩ := h
              simp only [vrel] at hp
              obtain ⟨L, hL, h2⟩ := hp
              obtain ⟨w', r1, r2, r3, r4⟩ := storeAt_ok (P := P) hw hst hL (vrel_cells hq)
              refine finU (Instr.storeAt t (a.eval x) (a.eval y)) rfl rfl ⟨w', ?_, r2, r3⟩
              have hl2 := vrels_length (vrel_cells hq)
              have hne : ¬ (a.eval y).cells.size ≠ i.size := by simp at hl2; omega
              simp only [Instr.storeAt, h2, Instr.sureAddr, Sem.run_bind, Sem.run_pure, Result.andThen_ok, storeVar, ti.run_size, hne, if_false]
              exact r1
          · simp at h
    · simp at h
  | convert s d x =>
    simp only [loudOp] at h
    split at h
    · rename_i b o n c hx
      cases hc : (Nat.beq s d && isBytes X s) with
      | false => rw [hc] at h; simp at h
      | true =>
        rw [hc] at h
        simp only [cond_true] at h
        simp only [Bool.and_eq_true] at hc
        obtain rfl := Nat.eq_of_beq_eq_true hc.1
        obtain ⟨el, h1, h2⟩ := isBytes_ok hX hc.2
        split at h
        · rename_i t cs sp hg
          simp only [Option.some.injEq, Prod.mk.injEq] at h
          obtain ⟨rfl, rfl⟩ := h
          exact fin (Go.convert s s (a.eval x)) rfl (mark_ok hw (opd_ok he hx) hg h1 h2)
        · simp at h
    · simp at h
  | mapUpdate t m k y =>
    simp only [loudOp] at h
    split at h
    · rename_i m' k' y' hm hk hy
      split at h
      · simp at h
      · rename_i S1 hs
        simp at h; obtain ⟨rfl, rfl⟩ := h
        exact finU (Instr.mapUpdate t (a.eval m) (a.eval k) (a.eval y)) rfl rfl (update_ok hX hw (opd_ok he hm) (opd_ok he hk) (opd_ok he hy) hs)
    · simp at h
  | insert t m k y =>
    simp only [loudOp] at h
    split at h
    · rename_i m' k' y' hm hk hy
      split at h
      · simp at h
      · rename_i S1 hs
        simp at h; obtain ⟨rfl, rfl⟩ := h
        exact finU (Instr.mapUpdate t (a.eval m) (a.eval k) (a.eval y)) rfl rfl (update_ok hX hw (opd_ok he hm) (opd_ok he hk) (opd_ok he hy) hs)
    · simp at h
  | mapEntry t m k =>
    simp only [loudOp] at h
    split at h
    · rename_i m' k' hm hk
      exact fin (Instr.mapEntry t (a.eval m) (a.eval k)) rfl (entry_ok hX hw (opd_ok he hm) (opd_ok he hk) h)
    · simp at h
  | entryStore t m s y =>
    simp only [loudOp] at h
    split at h
    · rename_i m' s' y' hm hs hy
      split at h
      · simp at h
      · rename_i S1 hst
        simp at h; obtain ⟨rfl, rfl⟩ := h
        exact finU (Instr.entryStore t (a.eval m) (a.eval s) (a.eval y)) rfl rfl (entryStore_ok hw (opd_ok he hm) (opd_ok he hs) (opd_ok he hy) hst)
    · simp at h
  | next it str =>
    simp only [loudOp] at h
    cases str with
    | false => simp at h
    | true =>
      simp only [cond_true] at h
      split at h
      · simp at h
      · rename_i i hi
        exact fin (Instr.next (a.eval it) true type) rfl (next_ok hw (opd_ok he hi) h)
  | call c =>
    obtain ⟨cal, args, tys⟩ := c
    cases cal with
    | value f => simp [loudOp] at h
    | invoke r m => simp [loudOp] at h
    | builtin b =>
      have args2 : ∀ {x y : Operand}, args.toList = [x, y] → args.map a.eval = #[a.eval x, a.eval y] := by
        intro x y hx
        have : args = #[x, y] := by apply Array.toList_inj.1; simpa using hx
        subst this; simp
      cases b with
      | append =>
        simp only [loudOp] at h
        split at h
        · rename_i s x t t' ts hargs htys
          split at h
          · simp at h
          · rename_i i' hi'
            have ti' := hX.ti _ _ hi'
            split at h
            · simp at h
            · rename_i hnint
              split at h
              · rename_i s' x' hs hx
                refine fin (Builtin.append_ tys type (args.map a.eval)) rfl ?_
                have ht : tys = (t :: t' :: ts).toArray := by apply Array.toList_inj.1; simpa using htys
                rw [args2 hargs, ht]
                exact append_ok hX hw ti'.und hnint (opd_ok he hs) (opd_ok he hx) h fr
              · simp at h
        · simp at h
      | copy =>
        simp only [loudOp] at h
        split at h
        · rename_i s x t ts hargs htys
          split at h
          · rename_i s' x' hs hx
            refine fin (Builtin.copy_ tys type (args.map a.eval)) rfl ?_
            have ht : tys = (t :: ts).toArray := by apply Array.toList_inj.1; simpa using htys
            rw [args2 hargs, ht]
            exact copy_ok hX hw (opd_ok he hs) (opd_ok he hx) h
          · simp at h
        · simp at h
      | delete =>
        simp only [loudOp] at h
        split at h
        · rename_i m k t ts hargs htys
          split at h
          · rename_i m' k' hm hk
            split at h
            · simp at h
            · rename_i S1 hst
              simp at h; obtain ⟨rfl, rfl⟩ := h
              refine fin (Builtin.delete_ tys type (args.map a.eval)) rfl ?_
              have ht : tys = (t :: ts).toArray := by apply Array.toList_inj.1; simpa using htys
              rw [args2 hargs, ht]
              exact delete_ok hX hw (opd_ok he hm) (opd_ok he hk) hst
          · simp at h
        · simp at h
      | _ => simp [loudOp] at h
  | _ => simp [loudOp] at h
end
end GX
