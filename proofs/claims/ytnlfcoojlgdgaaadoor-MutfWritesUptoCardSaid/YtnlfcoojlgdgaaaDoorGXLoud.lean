/- GX: the operations that write memory. -/
import Derived.Test.YtnlfcoojlgdgaaaDoorGXAlloc
namespace GX
open Go

def setBlk (w : World) (b : Nat) (o : Obj) : World := { w with heap := w.heap.setIfInBounds b o }
theorem setBlk_get (w : World) (b : Nat) (o : Obj) (k : Nat) : (setBlk w b o).heap[k]? = if b = k then (if k < w.heap.size then some o else none) else w.heap[k]? := by
  simp only [setBlk, Array.getElem?_setIfInBounds]
  split
  · rename_i h; subst h; rfl
  · rfl
theorem setBlk_size (w : World) (b : Nat) (o : Obj) : (setBlk w b o).heap.size = w.heap.size := by simp [setBlk]
section
variable {P : Program} {X : X} {φ : Phi} {w : World} {H : Tr AB}

theorem put_ok [Val] (hw : wrel φ H w) {id n : Nat} {ab0 ab' : AB} (hg : H.get id = some ab0) {L : Loc} (hL : φ id = some L) {o' : Obj} (hb : brel φ ab' L o') :
    wrel φ (Tr.set 40 H id ab') (setBlk w L.blk o') ∧ Ext φ H n w φ (Tr.set 40 H id ab') n (setBlk w L.blk o') := by
  have hsm := hw.small id _ hg
  have hget : ∀ m, (Tr.set 40 H id ab').get m = if m = id then some ab' else H.get m := fun m => Tr.get_set 40 H id ab' m (by omega)
  have hlt := wrel_lt hw hg hL
  refine ⟨⟨?_, ?_, ?_, ?_⟩, ⟨Nat.le_refl _, Sub.refl _, fun _ => .inl rfl, ?_, by rw [setBlk_size]; exact Nat.le_refl _, ?_, rfl, rfl, rfl⟩⟩
  · intro m b hm
    rw [hget] at hm
    split at hm
    · rename_i e; subst e
      simp at hm; subst hm
      exact ⟨L, o', hL, by rw [setBlk_get, if_pos rfl, if_pos hlt], hb⟩
    · rename_i hne
      obtain ⟨l, o, h1, h2, h3⟩ := hw.blk m b hm
      refine ⟨l, o, h1, ?_, h3⟩
      rw [setBlk_get, if_neg]
      · exact h2
      · intro e; exact hne (hw.inj m id _ _ l L hm hg h1 hL e.symm)
  · intro m m' b b' l l' h1 h2 h3 h4 h5
    rw [hget] at h1 h2
    have k1 : ∃ x, H.get m = some x := by
      split at h1
      · rename_i e; subst e; exact ⟨_, hg⟩
      · exact ⟨_, h1⟩
    have k2 : ∃ x, H.get m' = some x := by
      split at h2
      · rename_i e; subst e; exact ⟨_, hg⟩
      · exact ⟨_, h2⟩
    obtain ⟨x, k1⟩ := k1
    obtain ⟨y, k2⟩ := k2
    exact hw.inj m m' _ _ l l' k1 k2 h3 h4 h5
  · intro m b hm
    rw [hget] at hm
    split at hm
    · rename_i e; subst e; exact hsm
    · exact hw.small m b hm
  · intro g o ho
    obtain ⟨q1, q2⟩ := hw.ro g o ho
    refine ⟨by rw [setBlk_get, if_neg (q2 id _ L hg hL)]; exact q1, fun m b l hm hl => ?_⟩
    rw [hget] at hm
    split at hm
    · rename_i e; subst e; rw [hL] at hl; cases hl; exact q2 m _ L hg hL
    · exact q2 m b l hm hl
  · intro m b hm
    rw [hget] at hm
    split at hm
    · rename_i e; subst e; exact .inl ⟨_, hg⟩
    · exact .inl ⟨_, hm⟩
  · intro k hk hn
    rw [setBlk_get, if_neg (hn id _ L hg hL)]
def upd (φ : Phi) (id : Nat) (L : Loc) : Phi := fun m => if m = id then some L else φ m
theorem upd_sub {id : Nat} {L : Loc} (h : φ id = none) : Sub φ (upd φ id L) := by
  intro m l hm
  unfold upd
  split
  · rename_i e; subst e; rw [h] at hm; cases hm
  · exact hm
theorem new_ok [Val] (hw : wrel φ H w) {n : Nat} {ab : AB} {v : AV} {u : Value} {w' : World} (hn : n < 1000000000) (hf : φ n = none) (hm : Made φ w w' n ab v u) :
    ∃ φ', wrel φ' (Tr.set 40 H n ab) w' ∧ Ext φ H n w φ' (Tr.set 40 H n ab) (n + 1) w' ∧ vrel φ' v u := by
  obtain ⟨⟨o, tot, h1, h2⟩, hos, ht, hout⟩ := hm
  have hs : Sub φ (upd φ n ⟨w.heap.size, 0, tot⟩) := upd_sub hf
  obtain ⟨h3, h4⟩ := h2 _ hs (by simp [upd])
  have hget : ∀ m, (Tr.set 40 H n ab).get m = if m = n then some ab else H.get m := fun m => Tr.get_set 40 H n ab m (by omega)
  have old : ∀ {m x}, m ≠ n → H.get m = some x → ∃ l o, φ m = some l ∧ upd φ n ⟨w.heap.size, 0, tot⟩ m = some l ∧ w.heap[l.blk]? = some o ∧ l.blk < w.heap.size ∧ brel φ x l o := by
    intro m x hne hx
    obtain ⟨l, o, a1, a2, a3⟩ := hw.blk m x hx
    exact ⟨l, o, a1, by simp [upd, hne, a1], a2, (Array.getElem?_eq_some_iff.1 a2).1, a3⟩
  refine ⟨_, ⟨?_, ?_, ?_, ?_⟩, ⟨by omega, hs, ?_, ?_, by rw [h1]; simp, ?_, hos, ht, hout⟩, h4⟩
  · intro m b hm
    rw [hget] at hm
    split at hm
    · rename_i e; subst e; simp at hm; subst hm
      exact ⟨_, o, by simp [upd], by rw [h1]; simp, h3⟩
    · rename_i hne
      obtain ⟨l, o, a1, a2, a3, a4, a5⟩ := old hne hm
      refine ⟨l, o, a2, ?_, brel_mono hs a5⟩
      rw [h1, Array.getElem?_push, if_neg (by omega)]
      exact a3
  · intro m m' b b' l l' e1 e2 e3 e4 e5
    rw [hget] at e1 e2
    by_cases c1 : m = n
    · by_cases c2 : m' = n
      · rw [c1, c2]
      · rw [if_neg c2] at e2
        obtain ⟨l2, o2, a1, a2, a3, a4, a5⟩ := old c2 e2
        rw [a2] at e4; cases e4
        simp [upd, c1] at e3; subst e3
        simp at e5; omega
    · rw [if_neg c1] at e1
      obtain ⟨l1, o1, a1, a2, a3, a4, a5⟩ := old c1 e1
      rw [a2] at e3; cases e3
      by_cases c2 : m' = n
      · simp [upd, c2] at e4; subst e4
        simp at e5; omega
      · rw [if_neg c2] at e2
        obtain ⟨l2, o2, b1, b2, b3, b4, b5⟩ := old c2 e2
        rw [b2] at e4; cases e4
        exact hw.inj m m' _ _ _ _ e1 e2 a1 b1 e5
  · intro m b hm
    rw [hget] at hm
    split at hm
    · rename_i e; subst e; exact hn
    · exact hw.small m b hm
  · intro g o' ho
    obtain ⟨q1, q2⟩ := hw.ro g o' ho
    have hlt := (Array.getElem?_eq_some_iff.1 q1).1
    refine ⟨by rw [h1, Array.getElem?_push, if_neg (by omega)]; exact q1, fun m b l hm hl => ?_⟩
    rw [hget] at hm
    by_cases c1 : m = n
    · simp [upd, c1] at hl; subst hl; simp; omega
    · rw [if_neg c1] at hm
      simp [upd, c1] at hl
      exact q2 m b l hm hl
  · intro m
    by_cases c : m = n
    · right
      refine ⟨by omega, by omega, fun l hl => ?_⟩
      simp [upd, c] at hl; subst hl
      exact .inl (Nat.le_refl _)
    · left; simp [upd, c]
  · intro m b hm
    rw [hget] at hm
    split at hm
    · rename_i e; subst e; right; omega
    · exact .inl ⟨_, hm⟩
  · intro k hk _
    rw [h1, Array.getElem?_push, if_neg (by omega)]

theorem setCell_eq {b off : Nat} {v : Value} {c : Array Value} {t : TypeId} {fz : Nat × Nat} (h : w.heap[b]? = some (.cells c t fz)) :
    w.setCell ⟨b, off, none⟩ v = setBlk w b (.cells (c.setIfInBounds off v) t fz) := by
  unfold World.setCell setBlk
  congr 1
  apply Array.ext_getElem?
  intro i
  rw [Array.getElem?_modify, Array.getElem?_setIfInBounds]
  split
  · rename_i e; dsimp only at e; subst e
    rw [h]
    have := (Array.getElem?_eq_some_iff.1 h).1
    simp [this]
  · rfl
theorem setBlk_setBlk (b : Nat) (o o' : Obj) : setBlk (setBlk w b o) b o' = setBlk w b o' := by
  unfold setBlk
  congr 1
  apply Array.ext_getElem?
  intro i
  simp only [Array.getElem?_setIfInBounds, Array.size_setIfInBounds]
  split <;> simp_all
theorem setBlk_same {b : Nat} {o : Obj} (h : w.heap[b]? = some o) : setBlk w b o = w := by
  unfold setBlk
  have : w.heap.setIfInBounds b o = w.heap := by
    apply Array.ext_getElem?
    intro i
    rw [Array.getElem?_setIfInBounds]
    split
    · rename_i e; subst e; rw [if_pos (Array.getElem?_eq_some_iff.1 h).1, h]
    · rfl
  rw [this]
theorem run_storeCells_blk (b o : Nat) (t : TypeId) (fz : Nat × Nat) : ∀ (vs : List Value) (i : Nat) (c : Array Value) (w : World), w.heap[b]? = some (.cells c t fz) → o + i + vs.length ≤ c.size →
    (∀ j, j < c.size → ¬ (fz.1 ≤ j ∧ j < fz.2)) → (∀ v ∈ vs, v.oneCell' = true) →
    (storeCells ⟨b, o, none⟩ vs i).run P w = .ok () (setBlk w b (.cells (lput c.toList (o + i) vs).toArray t fz))
  | [], i, c, w, h, _, _, _ => by
    rw [lput_nil]
    simp only [storeCells, Sem.run_pure]
    rw [setBlk_same (by simpa using h)]
  | v :: vs, i, c, w, h, hl, hf, h1 => by
    simp only [List.length_cons] at hl
    have hi : o + i < c.size := by omega
    have hc : w.cell? ⟨b, o + i, none⟩ = some c[o + i] := by simp [World.cell?, h, hi]
    have hfz : w.frozen? ⟨b, o + i, none⟩ = false := by
      have := hf (o + i) hi
      simp only [World.frozen?, h]
      simp at this ⊢; exact this
    have hst : (store ((⟨b, o, none⟩ : Addr).add i) v).run P w = .ok () (setBlk w b (.cells (c.setIfInBounds (o + i) v) t fz)) := by
      rw [add_plain, run_store P w _ v _ (h1 v (by simp)), hc]
      simp only [hfz, Bool.false_eq_true, if_false]
      rw [setCell_eq h]
    simp only [storeCells, Sem.run_bind, hst, Result.andThen_ok]
    have hb : b < w.heap.size := (Array.getElem?_eq_some_iff.1 h).1
    rw [run_storeCells_blk b o t fz vs (i + 1) (c.setIfInBounds (o + i) v) _ (by rw [setBlk_get, if_pos rfl, if_pos hb]) (by simp; omega) (by simpa using hf) (fun u hu => h1 u (by simp [hu]))]
    rw [setBlk_setBlk]
    congr 4
    rw [lput_cons _ _ _ _ (by simpa using hi)]
    simp [Nat.add_assoc]
theorem drop_take_lput {α : Type} (c : List α) (b o n : Nat) (vs : List α) (h : o + vs.length ≤ n) (h2 : b + n ≤ c.length) :
    ((lput c (b + o) vs).drop b).take n = lput ((c.drop b).take n) o vs := by
  apply List.ext_getElem?
  intro i
  rw [List.getElem?_take, List.getElem?_drop, lput_set_get, lput_set_get, List.getElem?_take, List.getElem?_drop]
  simp only [List.length_take, List.length_drop]
  by_cases hi : i < n
  · rw [if_pos hi, if_pos hi]
    by_cases hc : o ≤ i ∧ i < o + vs.length
    · rw [if_pos ⟨by omega, by omega, by omega⟩, if_pos ⟨by omega, by omega, by omega⟩]
      congr 1; omega
    · rw [if_neg (by omega), if_neg (by omega)]
  · rw [if_neg hi, if_neg hi, if_neg (by omega)]
theorem vrels_one [Val] : ∀ {vs : List AV} {us : List Value}, vrels φ vs us → vs.all AV.one = true → ∀ v ∈ us, v.oneCell' = true
  | [], us, h, _ => by simp only [vrels] at h; subst h; simp
  | x :: vs, us, h, h2 => by
    simp only [vrels] at h
    obtain ⟨u, us, rfl, k1, k2⟩ := h
    simp only [List.all_cons, Bool.and_eq_true] at h2
    intro y hy
    simp at hy
    rcases hy with rfl | hy
    · exact vrel_one k1 h2.1
    · exact vrels_one k2 h2.2 y hy
theorem storeAt_ok [Val] (hw : wrel φ H w) {n : Nat} {S' : St} {b o : Nat} {vs : List AV} (h : storeAt { h := H, n } b o vs = some S') {L : Loc} (hL : φ b = some L) {us : List Value} (hv : vrels φ vs us) :
    ∃ w', (storeCells ⟨L.blk, L.base + o, none⟩ us).run P w = .ok () w' ∧ wrel φ S'.h w' ∧ Ext φ H n w φ S'.h S'.n w' ∧ S'.n = n := by
  unfold storeAt at h
  split at h
  · rename_i t cs sp hg
    rw [nble] at h
    by_cases hc : o + vs.length ≤ cs.length ∧ vs.all AV.one = true
    · obtain ⟨h1, h2⟩ := hc
      simp only [h1, h2, decide_true, Bool.and_self, cond_true] at h
      simp at h; subst h
      obtain ⟨c, fz, a1, a2, a3, a4, a5, a6⟩ := cells_at hw hg hL
      have hlen := vrels_length hv
      have hone := vrels_one hv h2
      have hrun := run_storeCells_blk (P := P) L.blk (L.base + o) t fz us 0 c w a1 (by omega) (fun i hi => free_not (a2 i hi)) hone
      refine ⟨_, hrun, ?_⟩
      have hb : brel φ (.cells t (lput cs o vs) sp) L (.cells (lput c.toList (L.base + o + 0) us).toArray t fz) := by
        refine ⟨_, fz, rfl, ?_, ?_, ?_, ?_, ?_⟩
        · simpa [lput_length] using a2
        · simpa [lput_length] using a3
        · simpa [lput_length] using a4
        · simpa [lput_length] using a5
        · have := drop_take_lput c.toList L.base o cs.length us (by omega) (by simpa using a4)
          simp only [Nat.add_zero, lput_length]
          rw [this]
          exact vrels_lput o a6 hv
      obtain ⟨r1, r2⟩ := put_ok (n := n) hw hg hL hb
      exact ⟨r1, r2, rfl⟩
    · have : (decide (o + vs.length ≤ cs.length) && vs.all AV.one) = false := by
        rw [Bool.eq_false_iff]; intro hh; apply hc; simpa using hh
      rw [this] at h; simp at h
  · simp at h

/-! append and copy -/
theorem sbytes_rel [Val] (b : ByteArray) (n : Nat) : vrels φ (sbytes ((bytes b).take n)) (((b.extract 0 n).data.map fun x => Value.int .u8 x.toNat).toList) := by
  have : ((b.extract 0 n).data.map fun x : UInt8 => Value.int .u8 x.toNat).toList = (b.data.toList.take n).map fun x : UInt8 => Value.int .u8 x.toNat := by
    simp [ByteArray.data_extract, List.extract_eq_take_drop]
  rw [this]
  simp only [sbytes, bytes, ← List.map_take, List.map_map]
  generalize b.data.toList.take n = l
  induction l with
  | nil => rfl
  | cons b l ih => exact vrels_cons rfl ih
theorem src_ok [Val] (hw : wrel φ H w) {x : AV} {u : Value} (hx : vrel φ x u) {n m size : Nat} {cs : List AV} (hl : srcLen x = some m) (hm : n ≤ m) (h : srcCells H size n x = some cs) :
    (Builtin.lenOf u).run P w = .ok m w ∧ ∃ us : List Value, (Builtin.firstCells size n u).run P w = .ok us.toArray w ∧ vrels φ cs us ∧ us.length = n * size := by
  cases x with
  | slice b o len cap =>
    simp [srcLen] at hl; subst hl
    simp only [srcCells] at h
    simp only [vrel] at hx
    obtain ⟨L, c, hL, rfl, _⟩ := hx
    obtain ⟨us, h1, h2, h3⟩ := loadCells_ok (P := P) hw h hL
    exact ⟨rfl, us, by simp [Builtin.firstCells, h3], h2, h1⟩
  | nils =>
    simp [srcLen] at hl; subst hl
    have : n = 0 := by omega
    subst this
    simp [srcCells] at h; subst h
    simp only [vrel] at hx; subst hx
    exact ⟨rfl, [], rfl, rfl, by simp⟩
  | emp =>
    simp [srcLen] at hl; subst hl
    have : n = 0 := by omega
    subst this
    simp [srcCells] at h; subst h
    simp only [vrel] at hx
    obtain ⟨a, c, rfl⟩ := hx
    exact ⟨rfl, [], by simp [Builtin.firstCells, loadCells, loadCellsFrom], rfl, by simp⟩
  | str s =>
    simp [srcLen] at hl; subst hl
    simp only [srcCells, nbeq, cond_dec] at h
    split at h
    · rename_i h1; subst h1
      simp at h; subst h
      simp only [vrel] at hx
      obtain ⟨b, rfl, rfl⟩ := hx
      have hr := sbytes_rel (φ := φ) b n
      refine ⟨by simp [Builtin.lenOf, bytes_length], _, ?_, hr, ?_⟩
      · simp only [Builtin.firstCells, Sem.run_pure, Array.toArray_toList]
      · have := vrels_length hr
        rw [← this]
        rw [bytes_length] at hm
        simp [sbytes, bytes_length]; omega
    · simp at h
  | rsl cs0 len sz =>
    simp [srcLen] at hl; subst hl
    simp only [srcCells] at h
    rw [nbeq, nble, ← Bool.decide_and, cond_dec] at h
    split at h
    · rename_i h1
      obtain ⟨h1, h2⟩ := h1
      simp at h; subst h
      simp only [vrel] at hx
      obtain ⟨g, off, c, ca, ty, fz, rfl, _, hcl, hro, hfit, hrel⟩ := hx
      obtain ⟨us, u1, u2, u3⟩ := ro_loadCells (P := P) hw hro hfit hrel (o := 0) (n := n * size) (by omega)
      rw [List.drop_zero] at u2
      rw [Nat.add_zero] at u3
      exact ⟨rfl, us, by simp [Builtin.firstCells, u3], u2, u1⟩
    · simp at h
  | _ => simp [srcLen] at hl
theorem growBy_le (n : Nat) : ∀ (r c : Nat), c < n ∨ c ≤ 2 * n + 1000 → Builtin.growBy n r c ≤ 2 * n + 1000
  | 0, c, h => by simp only [Builtin.growBy]; omega
  | r + 1, c, h => by
    simp only [Builtin.growBy]
    split
    · omega
    · exact growBy_le n r _ (by omega)
theorem nextcap_le (n c : Nat) (h : c < n) : Builtin.nextslicecap n c ≤ 2 * n + 1000 := by
  unfold Builtin.nextslicecap
  split
  · omega
  · split
    · omega
    · exact growBy_le n 4 c (by omega)
/-- append where it must grow -/
theorem run_append_grow' [Val] {el t t' ty : Nat} {ts : List TypeId} {ei : TI} {d : TypeDesc} {base : Option Addr} {sLen sCap n : Nat} {v : Value} {old new : List Value}
    (hu : P.underlying t = some (.slice el)) (te : TIok P el ei) (hu' : P.underlying t' = some d) (hd : ∀ k, d ≠ .int k)
    (hlen : (Builtin.lenOf v).run P w = .ok n w) (hneed : ¬ sLen + n ≤ sCap) (hroom : (2 * (sLen + n) + 1000) * ei.bytes ≤ 140737488355328) (hroom2 : sLen + n ≤ 140737488355328)
    (hold : (Builtin.firstCells ei.size sLen (.slice base sLen sCap)).run P w.drew = .ok old.toArray w.drew)
    (hnew : (Builtin.firstCells ei.size n v).run P w.drew = .ok new.toArray w.drew) :
    ∃ (cap : Nat) (rest : List Value), sLen + n ≤ cap ∧ rest.length = (cap - (sLen + n)) * ei.zero.length ∧
      (Builtin.append_ (t :: t' :: ts).toArray ty #[.slice base sLen sCap, v]).run P w = .ok (.slice (some ⟨w.heap.size, 0, none⟩) (sLen + n) cap) (w.drew.alloc (.cells (old ++ new ++ rest).toArray el)) := by
  obtain ⟨j, j1, j2, j3, z, hz, _, k2⟩ := te.info
  have hrz : ∀ W : World, (zeroValue el).run P W = .ok z W := fun W => by simp [zeroValue, typeInfo, j1, hz]
  have hti : ∀ W : World, (typeInfo el).run P W = .ok j W := fun W => by simp [typeInfo, j1]
  obtain ⟨cap, hcap, hle⟩ : ∃ cap, (choose (.appendCap (sLen + n) sCap el)).run P w = .ok cap w.drew ∧ sLen + n ≤ cap := by
    refine ⟨_, by simp [Question.forced]; rfl, ?_⟩
    simp [Question.cut]
  have hz0 : ((underlying t').run P w) = .ok d w := by simp [underlying, hu']
  have hzeros : (d matches .int _) = false := by cases d <;> first | rfl | exact absurd rfl (hd _)
  have hnc := nextcap_le (sLen + n) sCap (by omega)
  have hbig : ¬ (Builtin.nextslicecap (sLen + n) sCap * j.bytes > 2 ^ 48) := by
    rw [j3]
    have : Builtin.nextslicecap (sLen + n) sCap * ei.bytes ≤ (2 * (sLen + n) + 1000) * ei.bytes := Nat.mul_le_mul_right _ hnc
    have e : 2 ^ 48 = 281474976710656 := rfl
    omega
  have hmax' : ¬ (((sLen + n : Nat) : Int) > IntKind.i64.max ∧ (False ∨ j.bytes = 0)) := by
    have : IntKind.i64.max = 9223372036854775807 := rfl
    omega
  refine ⟨cap, (Builtin.zeroCells z.cells (cap - (sLen + n))).toList, hle, ?_, ?_⟩
  · have := vrels_length (k2 (fun _ => none))
    simp at this
    simp [Builtin.zeroCells, this]
  · have e0 : (t :: t' :: ts).toArray[0]? = some t := by simp
    have e1 : (t :: t' :: ts).toArray[1]? = some t' := by simp
    have a0 : (#[Value.slice base sLen sCap, v] : Array Value)[0]? = some (.slice base sLen sCap) := rfl
    have a1 : (#[Value.slice base sLen sCap, v] : Array Value)[1]? = some v := rfl
    simp only [Builtin.append_, e0, e1, a0, a1, Sem.run_bind, underlying, run_program, hu, hu', Result.andThen_ok, Sem.run_pure, te.run_size]
    simp only [Bool.false_eq_true, if_false, Sem.run_bind, hlen, Result.andThen_ok, hneed, hti, hmax', hbig, hcap, run_askRoom, hold, hnew, Bool.not_false, if_true, hrz, newRow, run_newObj, Sem.run_pure, World.alloc_eq, World.size_drew]
    have harr : old.toArray ++ new.toArray ++ Builtin.zeroCells z.cells (cap - (sLen + n)) = (old ++ new ++ (Builtin.zeroCells z.cells (cap - (sLen + n))).toList).toArray := by
      apply Array.ext'; simp
    rw [harr]
theorem run_append_fits' [Val] {el t t' ty : Nat} {ts : List TypeId} {ei : TI} {d : TypeDesc} {base : Option Addr} {sLen sCap n : Nat} {v : Value} {new : List Value} {w' : World}
    (hu : P.underlying t = some (.slice el)) (te : TIok P el ei) (hu' : P.underlying t' = some d) (hd : ∀ k, d ≠ .int k)
    (hlen : (Builtin.lenOf v).run P w = .ok n w) (hneed : sLen + n ≤ sCap)
    (hnew : (Builtin.firstCells ei.size n v).run P w = .ok new.toArray w)
    (hst : ∀ a, base = some a → (storeCells (a.add (sLen * ei.size)) new).run P w = .ok () w') (hnone : base = none → w' = w) :
    (Builtin.append_ (t :: t' :: ts).toArray ty #[.slice base sLen sCap, v]).run P w = .ok (.slice base (sLen + n) sCap) w' := by
  have e0 : (t :: t' :: ts).toArray[0]? = some t := by simp
  have e1 : (t :: t' :: ts).toArray[1]? = some t' := by simp
  have a0 : (#[Value.slice base sLen sCap, v] : Array Value)[0]? = some (.slice base sLen sCap) := rfl
  have a1 : (#[Value.slice base sLen sCap, v] : Array Value)[1]? = some v := rfl
  simp only [Builtin.append_, e0, e1, a0, a1, Sem.run_bind, underlying, run_program, hu, hu', Result.andThen_ok, Sem.run_pure, te.run_size]
  have hzb : (match d with | .int _ => true | _ => false) = false := by cases d <;> first | rfl | exact absurd rfl (hd _)
  simp only [Bool.false_eq_true, if_false, Sem.run_bind, hlen, Result.andThen_ok, hneed, if_true, Bool.not_false, hnew]
  cases base with
  | none => rw [hnone rfl]; rfl
  | some a => simp only [Sem.run_bind, hst a rfl, Result.andThen_ok, Sem.run_pure]
theorem slice_none_of [Val] {φ : Phi} {u : Value} (h : vrel φ .nils u) : u = .slice none 0 0 := by simpa [vrel] using h

/-- what an operation that writes comes to -/
def Wrote [Val] (P : Program) (φ : Phi) (S : St) (w : World) (v : AV) (S' : St) (s : Sem Value) : Prop :=
  ∃ u w' φ', s.run P w = .ok u w' ∧ vrel φ' v u ∧ wrel φ' S'.h w' ∧ Ext φ S.h S.n w φ' S'.h S'.n w'
theorem wrel_drew [Val] (hw : wrel φ H w) : wrel φ H w.drew := ⟨fun id b hb => hw.blk id b hb, hw.inj, hw.small, hw.ro⟩
theorem grow_ok [Val] {S S' : St} (hw : wrel φ S.h w) {el t t' ty : Nat} {ts : List TypeId} {ei : TI} {d : TypeDesc} (te : TIok P el ei) (hu : P.underlying t = some (.slice el)) (hu' : P.underlying t' = some d) (hd : ∀ k, d ≠ .int k)
    {base : Option Addr} {sLen sCap n : Nat} {x r : AV} {v : Value} {olds news : List AV} (hx : vrel φ x v) (hn : srcLen x = some n) (hsrc : srcCells S.h ei.size n x = some news)
    (hold : ∃ us : List Value, vrels φ olds us ∧ (Builtin.firstCells ei.size sLen (.slice base sLen sCap)).run P w.drew = .ok us.toArray w.drew)
    (hneed : ¬ sLen + n ≤ sCap) (h : grow S el ei.size ei.bytes (olds ++ news) (sLen + n) = some (r, S')) (hlen : (olds ++ news).length = (sLen + n) * ei.size)
    (hz : ei.zero.length = ei.size) (fr : ∀ id, S.n ≤ id → id < S'.n → φ id = none) :
    Wrote P φ S w r S' (Builtin.append_ (t :: t' :: ts).toArray ty #[.slice base sLen sCap, v]) := by
  unfold grow at h
  rw [nblt, nble, nble] at h
  by_cases hc : S.n < 1000000000 ∧ (2 * (sLen + n) + 1000) * ei.bytes ≤ 140737488355328 ∧ sLen + n ≤ 140737488355328
  · obtain ⟨h1, h2, h3⟩ := hc
    simp only [h1, h2, h3, decide_true, Bool.and_self, cond_true, Option.some.injEq, Prod.mk.injEq] at h
    obtain ⟨rfl, rfl⟩ := h
    obtain ⟨us, u1, u2⟩ := hold
    obtain ⟨l1, _⟩ := src_ok (P := P) hw hx hn (Nat.le_refl _) hsrc
    obtain ⟨_, vs, l2, l3, l4⟩ := src_ok (P := P) (wrel_drew hw) hx hn (Nat.le_refl _) hsrc
    obtain ⟨cap, rest, g1, g2, g3⟩ := run_append_grow' (ty := ty) (ts := ts) hu te hu' hd l1 hneed h2 h3 u2 l2
    have hul := vrels_length u1
    have hvl := vrels_length l3
    have hm : Made φ w (w.drew.alloc (.cells (us ++ vs ++ rest).toArray el)) S.n (.cells el (olds ++ news) true) (.slice S.n 0 (sLen + n) (.op ei.size)) (.slice (some ⟨w.heap.size, 0, none⟩) (sLen + n) cap) := by
      have htot : (us ++ vs ++ rest).length = cap * ei.size := by
        rw [List.length_append, List.length_append, g2, hz, ← hul, ← hvl, ← List.length_append, hlen, Nat.sub_mul]
        have : (sLen + n) * ei.size ≤ cap * ei.size := Nat.mul_le_mul_right _ g1
        omega
      refine ⟨⟨_, cap * ei.size, rfl, fun φ' hs hid => ⟨⟨_, (0, 0), rfl, fun i _ => .inl rfl, by simpa using htot.symm, ?_, (fun h => by cases h), ?_⟩, ⟨_, cap, hid, by simp, g1, by simp⟩⟩⟩, rfl, rfl, rfl⟩
      · simp at hul hvl ⊢; omega
      · have : List.take (olds ++ news).length (List.drop 0 (us ++ vs ++ rest).toArray.toList) = us ++ vs := by
          have e : (olds ++ news).length = (us ++ vs).length := by simp [hul, hvl]
          rw [e]
          show List.take (us ++ vs).length (us ++ vs ++ rest) = us ++ vs
          exact List.take_left
        rw [this]
        exact vrels_mono hs _ (vrels_append u1 l3)
    have hfn : φ S.n = none := fr S.n (Nat.le_refl _) (by simp [St.new])
    obtain ⟨φ', r1, r2, r3⟩ := new_ok (n := S.n) hw h1 hfn hm
    exact ⟨_, _, φ', g3, r3, r1, r2⟩
  · have : (decide (S.n < 1000000000) && decide ((2 * (sLen + n) + 1000) * ei.bytes ≤ 140737488355328) && decide (sLen + n ≤ 140737488355328)) = false := by
      rw [Bool.eq_false_iff]; intro hh; apply hc; simpa [and_assoc] using hh
    rw [this] at h; simp at h

theorem wrel_sub [Val] {H2 : Tr AB} (hs : ∀ id x, H2.get id = some x → H.get id = some x) (hw : wrel φ H w) : wrel φ H2 w :=
  ⟨fun id b h => hw.blk id b (hs _ _ h), fun id id' b b' l l' h1 h2 h3 h4 h5 => hw.inj id id' b b' l l' (hs _ _ h1) (hs _ _ h2) h3 h4 h5, fun id b h => hw.small id b (hs _ _ h), fun g o ho => ⟨(hw.ro g o ho).1, fun id b l h => (hw.ro g o ho).2 id b l (hs _ _ h)⟩⟩
theorem Ext.shrink {φ' : Phi} {H1 H2 : Tr AB} {n n' : Nat} {w' : World} (hs : ∀ id x, H2.get id = some x → H1.get id = some x) (e : Ext φ H n w φ' H1 n' w') : Ext φ H n w φ' H2 n' w' :=
  ⟨e.le, e.sub, e.new, fun id b h => e.dom id b (hs _ _ h), e.size, e.frame, e.os, e.tape, e.output⟩
theorem firstCells_row [Val] (hw : wrel φ H w) {b o k size len c : Nat} {old : List AV} (hr : row H b o (k * size) = some old) {L : Loc} (hL : φ b = some L) :
    ∃ us : List Value, vrels φ old us ∧ (Builtin.firstCells size k (.slice (some ⟨L.blk, L.base + o, none⟩) len c)).run P w = .ok us.toArray w := by
  obtain ⟨us, h1, h2, h3⟩ := loadCells_ok (P := P) hw hr hL
  exact ⟨us, h2, by simpa [Builtin.firstCells] using h3⟩
theorem row_length {b o n : Nat} {r : List AV} (h : row H b o n = some r) : r.length = n := by
  unfold row at h
  split at h
  · rw [nble, cond_dec] at h
    split at h
    · simp at h; subst h; simp; omega
    · simp at h
  · simp at h
theorem append_ok [Val] (hX : XOK P X) {S S' : St} (hw : wrel φ S.h w) {t t' ty : Nat} {ts : List TypeId} {d : TypeDesc} (hu' : P.underlying t' = some d) (hd : ∀ k, d ≠ .int k)
    {s x r : AV} {us ux : Value} (hs : vrel φ s us) (hx : vrel φ x ux) (h : aappend X S t s x = some (r, S')) (fr : ∀ id, S.n ≤ id → id < S'.n → φ id = none) :
    Wrote P φ S w r S' (Builtin.append_ (t :: t' :: ts).toArray ty #[us, ux]) := by
  unfold aappend at h
  split at h
  · simp at h
  · rename_i i hi
    have ti := hX.ti _ _ hi
    split at h
    · rename_i el hdt
      have hu : P.underlying t = some (.slice el) := by rw [ti.und, hdt]
      split at h
      · simp at h
      · rename_i ei hei
        have te := hX.ti _ _ hei
        rw [nbeq, nbeq] at h
        by_cases hz : ei.size = 0 ∨ ¬ ei.zero.length = ei.size
        · have : (decide (ei.size = 0) || !decide (ei.zero.length = ei.size)) = true := by rcases hz with h | h <;> simp [h]
          rw [this] at h; simp at h
        · simp only [not_or, Classical.not_not] at hz
          obtain ⟨hz1, hz2⟩ := hz
          simp only [hz1, hz2, decide_false, decide_true, Bool.not_true, Bool.or_self, cond_false] at h
          split at h
          · simp at h
          · rename_i n hn
            split at h
            · simp at h
            · rename_i news hsrc
              obtain ⟨l1, vs, l2, l3, l4⟩ := src_ok (P := P) hw hx hn (Nat.le_refl _) hsrc
              have hnl : news.length = n * ei.size := by rw [vrels_length l3, l4]
              split at h
              · -- nil
                have := slice_none_of hs; subst this
                rw [nbeq, cond_dec] at h
                split at h
                · rename_i h0; subst h0
                  simp at h; obtain ⟨rfl, rfl⟩ := h
                  exact ⟨_, w, φ, run_append_fits' (w' := w) hu te hu' hd l1 (by omega) l2 (fun a e => by cases e) (fun _ => rfl), by simp [vrel], hw, Ext.refl _ _ _ _⟩
                · rename_i h0
                  have h' : grow S el ei.size ei.bytes ([] ++ news) (0 + n) = some (r, S') := by simpa using h
                  exact grow_ok (ty := ty) (ts := ts) hw te hu hu' hd hx hn hsrc ⟨[], vrels_nil, by simp [Builtin.firstCells]⟩ (by omega) h' (by simpa using hnl) hz2 fr
              · -- emp
                rw [nbeq, cond_dec] at h
                split at h
                · rename_i h0; subst h0
                  simp at h; obtain ⟨rfl, rfl⟩ := h
                  have hs' := hs
                  simp only [vrel] at hs
                  obtain ⟨a, c, rfl⟩ := hs
                  have hvs : vs = [] := by simpa using l4
                  subst hvs
                  exact ⟨_, w, φ, run_append_fits' (w' := w) hu te hu' hd l1 (by omega) l2 (fun a e => rfl) (fun e => rfl), hs', hw, Ext.refl _ _ _ _⟩
                · simp at h
              · -- known capacity
                rename_i b o len k
                have hs' := hs
                simp only [vrel] at hs
                obtain ⟨L, c, hL, rfl, hcap⟩ := hs
                simp only [capOk] at hcap
                obtain ⟨rfl, hlk⟩ := hcap
                rw [nble, cond_dec] at h
                split at h
                · rename_i hfit
                  split at h
                  · simp at h
                  · rename_i S1 hst
                    simp at h; obtain ⟨rfl, rfl⟩ := h
                    obtain ⟨w', r1, r2, r3, r4⟩ := storeAt_ok (P := P) hw hst hL l3
                    refine ⟨.slice (some ⟨L.blk, L.base + o, none⟩) (len + n) c, w', φ, run_append_fits' (w' := w') hu te hu' hd l1 hfit l2 (fun a e => ?_) (fun e => by cases e), ?_, r2, r3⟩
                    · cases e
                      rw [add_plain, Nat.add_assoc]; exact r1
                    · exact ⟨L, c, hL, rfl, rfl, hfit⟩
                · rename_i hfit
                  split at h
                  · simp at h
                  · rename_i old hrow
                    have hol := row_length hrow
                    obtain ⟨os, o1, o2⟩ := firstCells_row (P := P) (len := len) (c := c) (wrel_drew hw) hrow hL
                    exact grow_ok (ty := ty) (ts := ts) hw te hu hu' hd hx hn hsrc ⟨os, o1, o2⟩ hfit h (by rw [List.length_append, hol, hnl, Nat.add_mul]) hz2 fr
              · -- open
                rename_i b o len z
                have hs' := hs
                simp only [vrel] at hs
                obtain ⟨L, c, hL, rfl, hcap⟩ := hs
                simp only [capOk] at hcap
                obtain ⟨hlc, htot⟩ := hcap
                rw [nbeq, cond_dec] at h
                split at h
                · rename_i h0; subst h0
                  simp at h; obtain ⟨rfl, rfl⟩ := h
                  have hvs : vs = [] := by simpa using l4
                  subst hvs
                  exact ⟨_, w, φ, run_append_fits' (w' := w) hu te hu' hd l1 (by omega) l2 (fun a e => rfl) (fun e => rfl), hs', hw, Ext.refl _ _ _ _⟩
                · rename_i hn0
                  rw [nbeq] at h
                  by_cases hze : z = ei.size
                  case neg => simp [hze] at h
                  subst hze
                  simp only [decide_true, Bool.not_true, cond_false] at h
                  split at h
                  · rename_i t0 cs sp hg
                    obtain ⟨cc, fz, a1, a2, a3, a4, a5, a6⟩ := cells_at hw hg hL
                    rw [nble, cond_dec] at h
                    split at h
                    · rename_i hfit
                      have hfit' : len + n ≤ c := by
                        have : (len + n) * ei.size ≤ c * ei.size := by omega
                        exact Nat.le_of_mul_le_mul_right this (by omega)
                      split at h
                      · simp at h
                      · rename_i S1 hst
                        simp at h; obtain ⟨rfl, rfl⟩ := h
                        obtain ⟨w', r1, r2, r3, r4⟩ := storeAt_ok (P := P) hw hst hL l3
                        refine ⟨.slice (some ⟨L.blk, L.base + o, none⟩) (len + n) c, w', φ, run_append_fits' (w' := w') hu te hu' hd l1 hfit' l2 (fun a e => ?_) (fun e => by cases e), ?_, r2, r3⟩
                        · cases e
                          rw [add_plain, Nat.add_assoc]; exact r1
                        · exact ⟨L, c, hL, rfl, hfit', htot⟩
                    · rename_i hfit
                      rw [nblt, nbeq, nbeq, nble, nble] at h
                      by_cases hc : S.n < 1000000000 ∧ sp = true ∧ t0 = el ∧ o + len * ei.size = cs.length ∧ (2 * (len + n) + 1000) * ei.bytes ≤ 140737488355328 ∧ len + n ≤ 140737488355328 ∧ news.all AV.one = true
                      · obtain ⟨c1, c2, c3, c4, c5, c6, c7⟩ := hc
                        subst c2; subst c3
                        simp only [c1, c4, c5, c6, c7, decide_true, Bool.and_self, cond_true, Option.some.injEq, Prod.mk.injEq] at h
                        obtain ⟨rfl, rfl⟩ := h
                        have hnew0 : S.h.get S.n = none := by
                          cases hq : S.h.get S.n with
                          | none => rfl
                          | some y =>
                            obtain ⟨L', hL'⟩ := has_loc hw hq
                            rw [fr S.n (Nat.le_refl _) (Nat.lt_succ_self _)] at hL'; cases hL'
                        have hbn : b ≠ S.n := fun e => by rw [e, hnew0] at hg; cases hg
                        have hget : ∀ m, (Tr.set 40 (S.h.del b) S.n (.cells t0 (cs.drop o ++ news) true)).get m = if m = S.n then some (.cells t0 (cs.drop o ++ news) true) else if m = b then none else S.h.get m := by
                          intro m
                          rw [Tr.get_set 40 _ _ _ _ (by omega), Tr.get_del]
                        by_cases hin : len + n ≤ c
                        · have hone := vrels_one l3 c7
                          have hle : L.base + o + len * ei.size + 0 + vs.length ≤ cc.size := by
                            rw [l4, ← a3, ← htot]
                            have : (len + n) * ei.size ≤ c * ei.size := Nat.mul_le_mul_right _ hin
                            rw [Nat.add_mul] at this
                            omega
                          have hrun := run_storeCells_blk (P := P) L.blk (L.base + o + len * ei.size) t0 fz vs 0 cc w a1 hle (fun i hi => free_not (a2 i hi)) hone
                          have hwl := wrel_lt hw hg hL
                          have hsub : Sub φ (upd φ S.n ⟨L.blk, L.base + o, L.tot⟩) := upd_sub (fr S.n (Nat.le_refl _) (Nat.lt_succ_self _))
                          have hvl := vrels_length l3
                          have hlen2 : (cs.drop o ++ news).length = (len + n) * ei.size := by
                            rw [List.length_append, List.length_drop, hvl, l4, Nat.add_mul]; omega
                          refine ⟨.slice (some ⟨L.blk, L.base + o, none⟩) (len + n) c, setBlk w L.blk (.cells (lput cc.toList (L.base + o + len * ei.size + 0) vs).toArray t0 fz), upd φ S.n ⟨L.blk, L.base + o, L.tot⟩, run_append_fits' hu te hu' hd l1 hin l2 (fun a e => ?_) (fun e => by cases e), ?_, ?_, ?_⟩
                          · cases e
                            rw [add_plain]; exact hrun
                          · exact ⟨⟨L.blk, L.base + o, L.tot⟩, c, by simp [upd], by simp, hin, by simpa using htot⟩
                          · have hbr : brel (upd φ S.n ⟨L.blk, L.base + o, L.tot⟩) (.cells t0 (cs.drop o ++ news) true) ⟨L.blk, L.base + o, L.tot⟩ (.cells (lput cc.toList (L.base + o + len * ei.size + 0) vs).toArray t0 fz) := by
                              refine ⟨_, fz, rfl, by simpa [lput_length] using a2, by simpa [lput_length] using a3, ?_, (fun h => by cases h), ?_⟩
                              · simp only [hlen2, List.size_toArray, lput_length]
                                have : (len + n) * ei.size ≤ c * ei.size := Nat.mul_le_mul_right _ hin
                                simp only [Array.length_toList]
                                omega
                              · have e1 : (((lput cc.toList (L.base + o + len * ei.size + 0) vs).drop (L.base + o)).take (cs.drop o ++ news).length) = (((cc.toList.drop L.base).take cs.length).drop o) ++ vs := by
                                  apply List.ext_getElem?
                                  intro q
                                  have hd1 : ((List.take cs.length (List.drop L.base cc.toList)).drop o).length = len * ei.size := by
                                    simp only [List.length_drop, List.length_take, Array.length_toList]; omega
                                  rw [List.getElem?_take, List.getElem?_drop, lput_set_get]
                                  simp only [hlen2, Array.length_toList]
                                  have ht2 : (len + n) * ei.size ≤ c * ei.size := Nat.mul_le_mul_right _ hin
                                  have ht3 : (len + n) * ei.size = len * ei.size + n * ei.size := Nat.add_mul _ _ _
                                  by_cases q1 : q < len * ei.size
                                  · rw [if_pos (by omega), if_neg (by omega), List.getElem?_append_left (by omega), List.getElem?_drop, List.getElem?_take, if_pos (by omega), List.getElem?_drop]
                                    congr 1; omega
                                  · rw [List.getElem?_append_right (by omega), hd1]
                                    by_cases q2 : q < (len + n) * ei.size
                                    · rw [if_pos q2, if_pos ⟨by omega, by omega, by omega⟩]
                                      congr 1; omega
                                    · rw [if_neg q2, List.getElem?_eq_none (by omega)]
                                show vrels _ _ (List.take _ (List.drop _ (lput cc.toList (L.base + o + len * ei.size + 0) vs).toArray.toList))
                                rw [show ((lput cc.toList (L.base + o + len * ei.size + 0) vs).toArray.toList) = lput cc.toList (L.base + o + len * ei.size + 0) vs from rfl, e1]
                                exact vrels_mono hsub _ (vrels_append (vrels_drop o a6) l3)
                            refine ⟨?_, ?_, ?_, ?_⟩
                            · intro m x hm
                              rw [hget] at hm
                              split at hm
                              · rename_i em; subst em
                                simp at hm; subst hm
                                exact ⟨⟨L.blk, L.base + o, L.tot⟩, _, by simp [upd], by rw [setBlk_get, if_pos rfl, if_pos hwl], hbr⟩
                              · rename_i em
                                split at hm
                                · cases hm
                                · rename_i eb
                                  obtain ⟨l, ob, b1, b2, b3⟩ := hw.blk m x hm
                                  refine ⟨l, ob, by simp [upd, em, b1], ?_, brel_mono hsub b3⟩
                                  rw [setBlk_get, if_neg]
                                  · exact b2
                                  · intro e; exact eb (hw.inj m b _ _ l L hm hg b1 hL e.symm)
                            · intro m m' x x' l l' e1 e2 e3 e4 e5
                              rw [hget] at e1 e2
                              by_cases d1 : m = S.n
                              · by_cases d2 : m' = S.n
                                · rw [d1, d2]
                                · rw [if_neg d2] at e2
                                  split at e2
                                  · cases e2
                                  · rename_i d3
                                    simp [upd, d1] at e3; subst e3
                                    simp [upd, d2] at e4
                                    exact absurd (hw.inj m' b _ _ l' L e2 hg e4 hL e5.symm) d3
                              · rw [if_neg d1] at e1
                                split at e1
                                · cases e1
                                · rename_i d3
                                  simp [upd, d1] at e3
                                  by_cases d2 : m' = S.n
                                  · simp [upd, d2] at e4; subst e4
                                    exact absurd (hw.inj m b _ _ l L e1 hg e3 hL e5) d3
                                  · rw [if_neg d2] at e2
                                    split at e2
                                    · cases e2
                                    · simp [upd, d2] at e4
                                      exact hw.inj m m' _ _ l l' e1 e2 e3 e4 e5
                            · intro m x hm
                              rw [hget] at hm
                              split at hm
                              · rename_i em; subst em; exact c1
                              · split at hm
                                · cases hm
                                · exact hw.small m x hm
                            · intro g o' ho
                              obtain ⟨q1, q2⟩ := hw.ro g o' ho
                              refine ⟨by rw [setBlk_get, if_neg (q2 b _ L hg hL)]; exact q1, fun m x l hm hl => ?_⟩
                              rw [hget] at hm
                              by_cases d1 : m = S.n
                              · simp [upd, d1] at hl; subst hl; exact q2 b _ L hg hL
                              · rw [if_neg d1] at hm
                                split at hm
                                · cases hm
                                · simp [upd, d1] at hl
                                  exact q2 m x l hm hl
                          · refine ⟨Nat.le_succ _, hsub, ?_, ?_, by rw [setBlk_size]; exact Nat.le_refl _, ?_, rfl, rfl, rfl⟩
                            · intro m
                              by_cases d1 : m = S.n
                              · right
                                refine ⟨by omega, by rw [d1]; exact Nat.lt_succ_self _, fun l hl => ?_⟩
                                simp [upd, d1] at hl; subst hl
                                exact .inr ⟨b, _, L, hg, hL, rfl⟩
                              · left; simp [upd, d1]
                            · intro m x hm
                              rw [hget] at hm
                              split at hm
                              · rename_i em; subst em; right; exact ⟨Nat.le_refl _, Nat.lt_succ_self _⟩
                              · split at hm
                                · cases hm
                                · exact .inl ⟨_, hm⟩
                            · intro k hk hn'
                              rw [setBlk_get, if_neg (hn' b _ L hg hL)]
                        · have hrow : row S.h b o (len * ei.size) = some (cs.drop o) := by
                            simp only [row, hg, nble, cond_dec]
                            rw [if_pos (by omega)]
                            congr 1
                            rw [List.take_of_length_le (by simp; omega)]
                          obtain ⟨os, o1, o2⟩ := firstCells_row (P := P) (len := len) (c := c) (wrel_drew hw) hrow hL
                          have hgr : grow S t0 ei.size ei.bytes (cs.drop o ++ news) (len + n) = some (.slice S.n 0 (len + n) (.op ei.size), S.new (.cells t0 (cs.drop o ++ news) true)) := by
                            unfold grow
                            rw [nblt, nble, nble]
                            simp only [c1, c5, c6, decide_true, Bool.and_self, cond_true]
                          have := grow_ok (ty := ty) (ts := ts) hw te hu hu' hd hx hn hsrc ⟨os, o1, o2⟩ hin hgr (by rw [List.length_append, hnl, Nat.add_mul, List.length_drop]; omega) hz2 fr
                          obtain ⟨u, w', φ', q1, q2, q3, q4⟩ := this
                          have hsubs : ∀ id x, (Tr.set 40 (S.h.del b) S.n (.cells t0 (cs.drop o ++ news) true)).get id = some x → (S.new (.cells t0 (cs.drop o ++ news) true)).h.get id = some x := by
                            intro m x hm
                            rw [hget] at hm
                            show (Tr.set 40 S.h S.n _).get m = some x
                            rw [Tr.get_set 40 _ _ _ _ (by omega)]
                            split at hm
                            · rename_i em; rw [if_pos em]; exact hm
                            · rename_i em
                              split at hm
                              · cases hm
                              · rw [if_neg em]; exact hm
                          exact ⟨u, w', φ', q1, q2, wrel_sub hsubs q3, q4.shrink hsubs⟩
                      · have : (decide (S.n < 1000000000) && sp && decide (t0 = el) && decide (o + len * ei.size = cs.length) && decide ((2 * (len + n) + 1000) * ei.bytes ≤ 140737488355328) && decide (len + n ≤ 140737488355328) && news.all AV.one) = false := by
                          rw [Bool.eq_false_iff]; intro hh; apply hc; simpa [and_assoc] using hh
                        rw [this] at h; simp at h
                  · simp at h
              · simp at h
    · simp at h
end
end GX
