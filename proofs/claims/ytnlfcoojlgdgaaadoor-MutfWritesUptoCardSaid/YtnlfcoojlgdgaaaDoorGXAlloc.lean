/- GX: the operations that make one block. -/
import Derived.Test.YtnlfcoojlgdgaaaDoorGXRead
namespace GX
open Go
section
variable {P : Program} {X : X} {φ : Phi} {w : World}

theorem decodeR_eq (s : ByteArray) (i : Nat) (hi : i < s.size) : decodeR ((bytes s).drop i) = Utf8.decode s i := by
  have hlen := bytes_length s
  have hd : (bytes s).drop i = (bytes s)[i]'(by omega) :: (bytes s).drop (i + 1) := List.drop_eq_getElem_cons (by omega)
  have hb0 : (bytes s)[i]'(by omega) = (s.get! (i + 0)).toNat := by
    have := bytes_get s i
    rw [List.getElem?_eq_getElem (by omega), getElem?_pos s i hi] at this
    simp at this
    rw [this]
    simp [ByteArray.get!, hi]
    rfl
  have hl : ∀ k, ((bytes s).drop (i + 1))[k]? = if i + (k + 1) < s.size then some (s.get! (i + (k + 1))).toNat else none := by
    intro k
    rw [List.getElem?_drop, bytes_get, show i + 1 + k = i + (k + 1) by omega]
    split
    · rename_i h
      rw [getElem?_pos s _ h]
      simp [ByteArray.get!, h]
      rfl
    · rename_i h
      rw [getElem?_neg s _ (by simpa using h)]; rfl
  have hg : ∀ k, i + (k + 1) < s.size → ((bytes s).drop (i + 1)).getD k 0 = (s.get! (i + (k + 1))).toNat := by
    intro k hk
    rw [List.getD_eq_getElem?_getD, hl, if_pos hk]; rfl
  have hc : ∀ k, (((bytes s).drop (i + 1)).getD k 0 / 64 == 2) = (decide (i + (k + 1) < s.size) && (s.get! (i + (k + 1))).toNat / 64 == 2) := by
    intro k
    rw [List.getD_eq_getElem?_getD, hl]
    by_cases hk : i + (k + 1) < s.size <;> simp [hk]
  rw [hd]
  unfold decodeR Utf8.decode
  dsimp only
  rw [hb0]
  generalize hl1 : (bytes s).drop (i + 1) = l1 at *
  have g0 := hg 0
  have g1 := hg 1
  have g2 := hg 2
  simp only [Nat.zero_add, Nat.reduceAdd] at g0 g1 g2
  simp only [hc, Nat.zero_add, Nat.reduceAdd]
  clear hc hg hl hl1 hb0 hd
  by_cases h0 : (s.get! (i + 0)).toNat < 128
  · simp only [h0, if_true]
  · simp only [h0, if_false]
    by_cases h1 : ((s.get! (i + 0)).toNat / 32 == 6 && (decide (i + 1 < s.size) && (s.get! (i + 1)).toNat / 64 == 2)) = true
    · simp only [h1, if_true]
      simp only [Bool.and_eq_true, decide_eq_true_eq] at h1
      simp only [g0 h1.2.1]
    · simp only [Bool.not_eq_true] at h1; simp only [h1, Bool.false_eq_true, if_false]
      by_cases h2 : ((s.get! (i + 0)).toNat / 16 == 14 && (decide (i + 1 < s.size) && (s.get! (i + 1)).toNat / 64 == 2) && (decide (i + 2 < s.size) && (s.get! (i + 2)).toNat / 64 == 2)) = true
      · simp only [h2, if_true]
        simp only [Bool.and_eq_true, decide_eq_true_eq] at h2
        simp only [g0 h2.1.2.1, g1 h2.2.1]
      · simp only [Bool.not_eq_true] at h2; simp only [h2, Bool.false_eq_true, if_false]
        by_cases h3 : ((s.get! (i + 0)).toNat / 8 == 30 && (decide (i + 1 < s.size) && (s.get! (i + 1)).toNat / 64 == 2) && (decide (i + 2 < s.size) && (s.get! (i + 2)).toNat / 64 == 2) && (decide (i + 3 < s.size) && (s.get! (i + 3)).toNat / 64 == 2)) = true
        · simp only [h3, if_true]
          simp only [Bool.and_eq_true, decide_eq_true_eq] at h3
          simp only [g0 h3.1.1.2.1, g1 h3.1.2.1, g2 h3.2.1]
        · simp only [Bool.not_eq_true] at h3; simp only [h3, Bool.false_eq_true, if_false]
theorem runesFrom_eq [Val] (s : ByteArray) : ∀ (b i : Nat) (acc : Array Value), ∃ us : List Value, Conv.runesFrom s b i acc = acc ++ us.toArray ∧ ∀ φ, vrels φ (runesFrom b ((bytes s).drop i)) us
  | 0, i, acc => ⟨[], by simp [Conv.runesFrom], fun _ => rfl⟩
  | b + 1, i, acc => by
    by_cases hi : i < s.size
    · have hd : (bytes s).drop i = (bytes s)[i]'(by rw [bytes_length]; exact hi) :: (bytes s).drop (i + 1) := List.drop_eq_getElem_cons _
      have hdec := decodeR_eq s i hi
      obtain ⟨us, h1, h2⟩ := runesFrom_eq s b (i + (Utf8.decode s i).2) (acc.push (.int .i32 (Int.ofNat (Utf8.decode s i).1)))
      refine ⟨.int .i32 (Int.ofNat (Utf8.decode s i).1) :: us, ?_, fun φ => ?_⟩
      · simp only [Conv.runesFrom, hi, if_true]
        rw [h1]
        apply Array.ext'
        simp
      · simp only [runesFrom]
        rw [hd]
        dsimp only
        rw [← hd, hdec, List.drop_drop]
        exact vrels_cons rfl (h2 φ)
    · refine ⟨[], by simp [Conv.runesFrom, hi], fun φ => ?_⟩
      rw [List.drop_eq_nil_of_le (by rw [bytes_length]; omega)]
      rfl
theorem range_map_mod (zs : List Value) (m : Nat) (hm : zs.length = m) : ∀ n, (List.range (n * m)).map (fun i => zs.toArray[i % zs.toArray.size]!) = (List.replicate n zs).flatten
  | 0 => by simp
  | n + 1 => by
    rw [Nat.succ_mul, Nat.add_comm, List.range_add, List.map_append, List.replicate_succ, List.flatten_cons, ← range_map_mod zs m hm n]
    congr 1
    · apply List.ext_getElem?
      intro j
      rw [List.getElem?_map]
      by_cases hj : j < m
      · rw [List.getElem?_range hj, List.getElem?_eq_getElem (by omega)]
        simp [hm, Nat.mod_eq_of_lt hj, hj]
      · rw [List.getElem?_eq_none (by simp; omega), List.getElem?_eq_none (by omega)]; rfl
    · rw [List.map_map]
      apply List.map_congr_left
      intro j _
      simp [hm]
theorem rep_rel [Val] {φ : Phi} {z : List AV} {zs : List Value} (h : vrels φ z zs) : ∀ n, vrels φ (rep z n) (List.replicate n zs).flatten
  | 0 => rfl
  | n + 1 => by rw [List.replicate_succ, List.flatten_cons]; exact vrels_append h (rep_rel h n)
theorem rep_length (z : List AV) : ∀ n, (rep z n).length = n * z.length
  | 0 => by simp [rep]
  | n + 1 => by simp [rep, rep_length z n, Nat.succ_mul]; omega

theorem push_modify {α : Type} (xs : Array α) (o : α) (f : α → α) : (xs.push o).modify xs.size f = xs.push (f o) := by
  apply Array.ext_getElem?
  intro i
  rw [Array.getElem?_modify, Array.getElem?_push, Array.getElem?_push]
  by_cases h : i = xs.size
  · subst h; simp
  · simp [h, Ne.symm h]

theorem freeze_alloc_heap (w : World) (c : Array Value) (t : TypeId) (n : Nat) : ((w.alloc (.cells c t)).freeze ⟨w.heap.size, n, none⟩ 1).heap = w.heap.push (.cells c t (n, n + 1)) := by
  unfold World.freeze
  rw [if_neg (by omega)]
  have h1 : (w.alloc (.cells c t)).heap = w.heap.push (.cells c t) := rfl
  dsimp only
  rw [h1, push_modify]
  rfl

/-- a new block -/
structure Made [Val] (φ : Phi) (w w' : World) (id : Nat) (ab : AB) (v : AV) (u : Value) : Prop where
  heap : ∃ o tot, w'.heap = w.heap.push o ∧ ∀ φ', Sub φ φ' → φ' id = some ⟨w.heap.size, 0, tot⟩ → brel φ' ab ⟨w.heap.size, 0, tot⟩ o ∧ vrel φ' v u
  os : w'.os = w.os
  tape : w'.tape = w.tape
  output : w'.output = w.output

theorem made_closed [Val] {id : Nat} {t : TypeId} {cs : List AV} {c : Array Value} {v : AV} {u : Value} (hc : vrels φ cs c.toList) (hv : ∀ φ', φ' id = some ⟨w.heap.size, 0, c.size⟩ → vrel φ' v u) :
    Made φ w (w.alloc (.cells c t)) id (.cells t cs false) v u := by
  refine ⟨⟨.cells c t, c.size, rfl, fun φ' hs hid => ⟨⟨c, (0, 0), rfl, fun i _ => .inl rfl, rfl, ?_, fun _ => ⟨?_, fun i => by omega⟩, ?_⟩, hv φ' hid⟩⟩, rfl, rfl, rfl⟩
  · have := vrels_length hc; simp at this ⊢; omega
  · have := vrels_length hc; simp at this ⊢; omega
  · have h2 := vrels_length hc
    have h3 : List.take cs.length (List.drop 0 c.toList) = c.toList := by rw [h2, List.drop_zero, List.take_length]
    show vrels φ' cs (List.take cs.length (List.drop 0 c.toList))
    rw [h3]
    exact vrels_mono hs _ hc
theorem run_buildSlice_any {t el len sz : Nat} {us : Array (Nat × Value)} {cells : Array Value} {z : Value} (hu : P.underlying t = some (.slice el)) (hs : (Go.sizeOf el).run P w = .ok sz w) (hz : (zeroValue el).run P w = .ok z w)
    (hsm : len * sz ≤ 16777216) (h : Instr.fill (fun i => some (i * sz, sz)) ((Array.range (len * sz)).map (z.cells[· % z.cells.size]!)) us.toList = some cells) :
    (Instr.buildSlice t len us).run P w = .ok (.slice (some ⟨w.heap.size, 0, none⟩) len len) (w.alloc (.cells cells el)) := by
  have hu' : (underlying t).run P w = .ok (.slice el) w := by simp [underlying, hu]
  have hsmall : ¬ len * sz > 2 ^ 24 := by simp; omega
  have hr0 : Array.range 0 = #[] := rfl
  by_cases h0 : len * sz = 0
  · have h' : Instr.fill (fun i => some (i * sz, sz)) #[] us.toList = some cells := by
      rw [h0] at h; simpa [hr0] using h
    simp [Instr.buildSlice, hu', hs, h0, h', newRow, hr0]
  · simp only [Instr.buildSlice, Sem.run_bind, hu', Result.andThen_ok, hs, hsmall, if_false, h0, Sem.run_pure, hz]
    simp only [h, Sem.run_bind, newRow, run_newObj, Result.andThen_ok, Sem.run_pure, World.alloc_eq]
theorem alloc_ok [Val] (hX : XOK P X) {n : Nat} {e : Env} {a : Act} (he : erel φ n e a.tmps) {o : Oper} {id : Nat} {ab : AB} {v : AV} (h : allocOp X e id o.op = some (ab, v)) :
    ∃ u w', (execOp a.eval o).run P w = .ok (.value u) w' ∧ Made φ w w' id ab v u := by
  obtain ⟨dst, op, type, pos, after, guard⟩ := o
  dsimp only at h
  have fin : ∀ (s : Sem Value) (hs : execOp a.eval ⟨dst, op, type, pos, after, guard⟩ = (do pure (.value (← s)))), (∃ z w', s.run P w = .ok z w' ∧ Made φ w w' id ab v z) →
      ∃ u w', (execOp a.eval ⟨dst, op, type, pos, after, guard⟩).run P w = .ok (.value u) w' ∧ Made φ w w' id ab v u := by
    intro s hs ⟨z, w', h1, h2⟩
    exact ⟨z, w', by rw [hs]; simp [h1], h2⟩
  cases op with
  | alloc t =>
    simp only [allocOp] at h
    split at h
    · simp at h
    · rename_i i hi
      simp at h; obtain ⟨rfl, rfl⟩ := h
      have ti := hX.ti _ _ hi
      obtain ⟨j, a1, _, _, z, hz, _, k2⟩ := ti.info
      have hrun : (zeroValue t).run P w = .ok z w := by simp [zeroValue, typeInfo, a1, hz]
      refine fin (Instr.alloc t true (.tuple #[])) rfl ⟨.pointer (some ⟨w.heap.size, 0, none⟩), w.alloc (.cells z.cells t), ?_, made_closed (k2 φ) (fun φ' hid => ⟨_, hid, by simp⟩)⟩
      simp [Instr.alloc, hrun, newVar, newRow]
  | box t x =>
    simp only [allocOp] at h
    split at h
    · simp at h
    · rename_i p hp
      simp at h; obtain ⟨rfl, rfl⟩ := h
      have hp := opd_ok he hp
      refine fin (Instr.box t (a.eval x)) rfl ⟨.pointer (some ⟨w.heap.size, 0, none⟩), w.alloc (.cells (a.eval x).cells t), ?_, made_closed (vrel_cells hp) (fun φ' hid => ⟨_, hid, by simp⟩)⟩
      simp [Instr.box, newVar, newRow]
  | buildSlice t len parts =>
    simp only [allocOp] at h
    split at h
    · simp at h
    · rename_i i hi
      have ti := hX.ti _ _ hi
      split at h
      · rename_i el hd
        split at h
        · simp at h
        · rename_i ei hei
          have te := hX.ti _ _ hei
          rw [nbeq, nblt, nbeq] at h
          by_cases hc : ei.size = 0 ∨ 16777216 < len * ei.size ∨ ¬ ei.zero.length = ei.size
          · have : (decide (ei.size = 0) || decide (16777216 < len * ei.size) || !decide (ei.zero.length = ei.size)) = true := by
              rcases hc with h | h | h <;> simp [h]
            rw [this] at h; simp at h
          · have : (decide (ei.size = 0) || decide (16777216 < len * ei.size) || !decide (ei.zero.length = ei.size)) = false := by
              simp at hc ⊢; exact ⟨⟨hc.1, hc.2.1⟩, hc.2.2⟩
            rw [this] at h
            simp only [cond_false] at h
            simp at hc
            split at h
            · simp at h
            · rename_i ps hps
              split at h
              · simp at h
              · rename_i cs hf
                simp at h; obtain ⟨rfl, rfl⟩ := h
                have hparts := opparts_ok he hps
                obtain ⟨j, a1, a2, _, z, hz, _, k2⟩ := te.info
                have hzl := vrels_length (k2 φ)
                have hzs : (List.range (len * ei.size)).map (fun i => z.cells[i % z.cells.size]!) = (List.replicate len z.cells.toList).flatten := by
                  have := range_map_mod z.cells.toList ei.size (by omega) len
                  simpa using this
                obtain ⟨xs, f1, f2⟩ := fill_ok (place := fun i => some (i * ei.size, ei.size)) hparts (rep_rel (k2 φ) len) hf
                have hrun : (zeroValue el).run P w = .ok z w := by simp [zeroValue, typeInfo, a1, hz]
                refine fin _ rfl ⟨.slice (some ⟨w.heap.size, 0, none⟩) len len, w.alloc (.cells xs el), ?_, made_closed f2 (fun φ' hid => ⟨_, _, hid, by simp, rfl, Nat.le_refl _⟩)⟩
                refine run_buildSlice_any (by rw [ti.und, hd]) (te.run_size w) hrun hc.2.1 ?_
                rw [← f1]
                congr 1
                · apply Array.ext'
                  rw [Array.toList_map, Array.toList_range, hzs]
                · simp
      · simp at h
  | makeSlice t l c =>
    simp only [allocOp] at h
    split at h
    · simp at h
    · rename_i i hi
      have ti := hX.ti _ _ hi
      split at h
      · rename_i el hd
        split at h
        · simp at h
        · rename_i ei hei
          have te := hX.ti _ _ hei
          split at h
          · rename_i l' hl
            have hl := opd_ok he hl
            split at h
            · rename_i c' hc
              have hc := opd_ok he hc
              simp only [vrel] at hl hc
              rw [nble, nble, nble, nbeq, nbeq] at h
              by_cases hcond : l' ≤ c' ∧ ei.bytes * c' ≤ 1048576000000 ∧ c' ≤ 1048576000000 ∧ ¬ ei.size = 0 ∧ ei.zero.length = ei.size
              · obtain ⟨h1, h2, h3, h4, h5⟩ := hcond
                simp only [h1, h2, h3, h4, h5, decide_true, decide_false, Bool.not_false, Bool.and_self, cond_true] at h
                simp at h; obtain ⟨rfl, rfl⟩ := h
                obtain ⟨j, a1, a2, a3, z, hz, _, k2⟩ := te.info
                have hrun : (zeroValue el).run P w = .ok z w := by simp [zeroValue, typeInfo, a1, hz]
                have hzl := vrels_length (k2 φ)
                have hzs : (List.range (c' * ei.size)).map (fun i => z.cells[i % z.cells.size]!) = (List.replicate c' z.cells.toList).flatten := by
                  have := range_map_mod z.cells.toList ei.size (by omega) c'
                  simpa using this
                have hcells : vrels φ (rep ei.zero c') ((Array.range (c' * ei.size)).map (z.cells[· % z.cells.size]!)).toList := by
                  rw [Array.toList_map, Array.toList_range, hzs]
                  exact rep_rel (k2 φ) c'
                refine fin (Instr.makeSlice t (a.eval l) (a.eval c)) rfl ⟨.slice (some ⟨w.heap.size, 0, none⟩) l' c', w.alloc (.cells _ el), ?_, made_closed hcells (fun φ' hid => ⟨_, _, hid, by simp, rfl, h1⟩)⟩
                have wl : IntKind.i64.wrap (l' : Int) = l' := wrap_in .i64 _ (fun _ => by have : (lim .i64 : Int) = 9223372036854775808 := rfl; omega) (by have : (lim .i64 : Int) = 9223372036854775808 := rfl; omega) (fun _ => by omega)
                have wc : IntKind.i64.wrap (c' : Int) = c' := wrap_in .i64 _ (fun _ => by have : (lim .i64 : Int) = 9223372036854775808 := rfl; omega) (by have : (lim .i64 : Int) = 9223372036854775808 := rfl; omega) (fun _ => by omega)
                have hb : ¬ ((j.bytes : Int) * (c' : Int) > 2 ^ 48) := by
                  rw [a3]
                  have h2' : ((ei.bytes * c' : Nat) : Int) ≤ 1048576000000 := Int.ofNat_le.2 h2
                  rw [Int.natCast_mul] at h2'
                  have : (2 : Int) ^ 48 = 281474976710656 := rfl
                  omega
                have e1 : a.eval l = .int .i64 (l' : Int) := hl
                have e2 : a.eval c = .int .i64 (c' : Int) := hc
                have n1 : ¬ ((l' : Int) < 0) := by omega
                have n2 : ¬ ((c' : Int) < 0) := by omega
                have n3 : ¬ ((l' : Int) > (c' : Int)) := by omega
                have hti : (typeInfo el).run P w = .ok j w := by simp [typeInfo, a1]
                simp only [Instr.makeSlice, Sem.run_bind, ti.run_und, hd, Result.andThen_ok, e1, e2, asInt, asIntOf, Sem.run_pure, hti, wl, wc]
                have hcnd : ((decide ((c' : Int) < 0) || decide ((j.bytes : Int) * (c' : Int) > 2 ^ 48)) || decide ((l' : Int) < 0) || decide ((l' : Int) > (c' : Int))) = false := by
                  simp only [n1, n2, n3, hb, decide_false, Bool.or_self]
                simp only [Int.toNat_natCast]
                rw [if_neg (by rw [hcnd]; simp)]
                simp only [Sem.run_bind, run_askRoom, Result.andThen_ok, te.run_size]
                by_cases h0 : c' * ei.size = 0
                · have hr0 : Array.range 0 = #[] := rfl
                  simp [h0, newRow, hr0]
                · simp only [h0, if_false, Sem.run_bind, hrun, Result.andThen_ok, Sem.run_pure, newRow, run_newObj, World.alloc_eq]
              · have : (decide (l' ≤ c') && decide (ei.bytes * c' ≤ 1048576000000) && decide (c' ≤ 1048576000000) && !decide (ei.size = 0) && decide (ei.zero.length = ei.size)) = false := by
                  rw [Bool.eq_false_iff]; intro hh; apply hcond; simpa [and_assoc] using hh
                rw [this] at h; simp at h
            · simp at h
          · simp at h
      · simp at h
  | makeMap t r =>
    cases r with
    | none =>
      simp [allocOp] at h; obtain ⟨rfl, rfl⟩ := h
      refine fin (Instr.makeMap t none) rfl ⟨.map (some w.heap.size), w.alloc (.map #[] 0), by simp [Instr.makeMap], ⟨⟨_, 0, rfl, fun φ' hs hid => ⟨⟨#[], rfl, rfl⟩, ⟨_, hid, rfl⟩⟩⟩, rfl, rfl, rfl⟩⟩
    | some _ => simp [allocOp] at h
  | convert s d x =>
    simp only [allocOp] at h
    split at h
    · rename_i st hp
      have hp := opd_ok he hp
      simp only [vrel] at hp
      obtain ⟨bs, hb, hbs⟩ := hp
      split at h
      · simp at h
      · rename_i di hdi
        have td := hX.ti _ _ hdi
        split at h
        · simp at h
        · rename_i si hsi
          have ts := hX.ti _ _ hsi
          split at h
          · rename_i el hd
            split at h
            · simp at h
            · rename_i ei hei
              have te := hX.ti _ _ hei
              rw [nbeq] at h
              by_cases h1 : ei.size = 1
              · simp only [h1, decide_true, Bool.not_true, cond_false] at h
                refine fin (Go.convert s d (a.eval x)) rfl ?_
                split at h
                · rename_i hk
                  simp at h; obtain ⟨rfl, rfl⟩ := h
                  obtain ⟨cap, hcap, hle⟩ : ∃ cap, (choose (.appendCap bs.size 0 el)).run P w = .ok cap w.drew ∧ bs.size ≤ cap := by
                    refine ⟨_, by simp [Question.forced]; rfl, ?_⟩
                    simp [Question.cut]
                  have hrun : (Go.convert s d (.string bs)).run P w = (Conv.stringToBytes el bs).run P w := by
                    simp only [Go.convert, Sem.run_bind, ts.run_und, td.run_und, hd, Result.andThen_ok]
                    cases si.desc <;> simp [te.run_und, hk]
                  refine ⟨.slice (some ⟨w.heap.size, 0, none⟩) bs.size cap, (w.drew.alloc (.cells ((bs.data.map fun b => Value.int .u8 b.toNat) ++ Array.replicate (cap - bs.size) (.int .u8 0)) el)).freeze ⟨w.heap.size, cap, none⟩ 1, ?_, ?_⟩
                  · rw [hb, hrun]
                    have hsz : bs.size + (cap - bs.size) = cap := by omega
                    simp only [Conv.stringToBytes, Sem.run_bind, hcap, Result.andThen_ok, newRow, run_newObj, Sem.run_pure, World.alloc_eq]
                    have hsh : (w.drew.alloc (.cells ((bs.data.map fun b => Value.int .u8 b.toNat) ++ Array.replicate (cap - bs.size) (.int .u8 0)) el)).shape? w.heap.size = some (el, cap) := by
                      have hbl : (w.drew.alloc (.cells ((bs.data.map fun b => Value.int .u8 b.toNat) ++ Array.replicate (cap - bs.size) (.int .u8 0)) el)).heap[w.heap.size]? = some (.cells ((bs.data.map fun b => Value.int .u8 b.toNat) ++ Array.replicate (cap - bs.size) (.int .u8 0)) el (0, 0)) := by
                        show (w.heap.push _)[w.heap.size]? = _
                        simp
                      simp only [World.shape?, hbl]
                      have : bs.data.size = bs.size := rfl
                      simp [this, hsz]
                    have hd1 : w.drew.heap.size = w.heap.size := rfl
                    simp only [markStringish, Sem.run_bind, hd1, run_shape, hsh, Result.andThen_ok, run_freeze]
                  · have hsz : bs.data.size + (cap - bs.size) = cap := by show bs.size + _ = cap; omega
                    refine ⟨⟨.cells ((bs.data.map fun b => Value.int .u8 b.toNat) ++ Array.replicate (cap - bs.size) (.int .u8 0)) el (cap, cap + 1), cap, ?_, fun φ' hs hid => ⟨⟨_, (cap, cap + 1), rfl, ?_, ?_, ?_, ?_, ?_⟩, ?_⟩⟩, rfl, rfl, rfl⟩
                    · exact freeze_alloc_heap w.drew _ _ _
                    · intro i hi
                      refine .inr ⟨?_, ?_⟩ <;> (simp at hi ⊢; omega)

                    · simp; omega
                    · subst hbs; simp [sbytes, bytes]
                    · intro h; cases h
                    · subst hbs
                      have : (List.take (sbytes (bytes bs)).length (List.drop 0 ((bs.data.map fun b : UInt8 => Value.int .u8 b.toNat) ++ Array.replicate (cap - bs.size) (Value.int .u8 0)).toList)) = bs.data.toList.map fun b : UInt8 => Value.int .u8 b.toNat := by
                        simp [sbytes, bytes]
                      rw [this]
                      simp only [sbytes, bytes, List.map_map]
                      generalize bs.data.toList = l
                      induction l with
                      | nil => rfl
                      | cons b l ih => exact vrels_cons rfl ih
                    · subst hbs
                      exact ⟨_, cap, hid, by rw [bytes_length], by rw [bytes_length]; exact hle, by simp⟩
                · rename_i hk
                  simp at h; obtain ⟨rfl, rfl⟩ := h
                  obtain ⟨us, r1, r2⟩ := runesFrom_eq bs bs.size 0 #[]
                  have r1' : Conv.runesFrom bs bs.size 0 #[] = us.toArray := by simpa using r1
                  have hul := vrels_length (r2 φ)
                  simp only [List.drop_zero, ← bytes_length, hbs] at r1' hul r2
                  obtain ⟨cap, hcap, hle⟩ : ∃ cap, (choose (.appendCap us.length 0 el)).run P w = .ok cap w.drew ∧ us.length ≤ cap := by
                    refine ⟨_, by simp [Question.forced]; rfl, ?_⟩
                    simp [Question.cut]
                  have hrun : (Go.convert s d (.string bs)).run P w = (Conv.stringToRunes el bs).run P w := by
                    simp only [Go.convert, Sem.run_bind, ts.run_und, td.run_und, hd, Result.andThen_ok]
                    cases si.desc <;> simp [te.run_und, hk]
                  refine ⟨.slice (some ⟨w.heap.size, 0, none⟩) us.length cap, w.drew.alloc (.cells (us.toArray ++ Array.replicate (cap - us.length) (.int .i32 0)) el), ?_, ?_⟩
                  · rw [hb, hrun]
                    have : Conv.runesFrom bs bs.size 0 #[] = us.toArray := by rw [← bytes_length, hbs]; exact r1'
                    simp only [Conv.stringToRunes, this, Sem.run_bind]
                    simp only [List.size_toArray, hcap, Result.andThen_ok, newRow, Sem.run_bind, run_newObj, Sem.run_pure, World.alloc_eq]
                    rfl
                  · refine ⟨⟨.cells (us.toArray ++ Array.replicate (cap - us.length) (.int .i32 0)) el, cap, rfl, fun φ' hs hid => ⟨⟨_, (0, 0), rfl, ?_, ?_, ?_, ?_, ?_⟩, ?_⟩⟩, rfl, rfl, rfl⟩
                    · intro i hi; exact .inl rfl
                    · simp; omega
                    · simp; omega
                    · intro h; cases h
                    · have : (List.take (runesFrom st.length st).length (List.drop 0 (us.toArray ++ Array.replicate (cap - us.length) (Value.int .i32 0)).toList)) = us := by
                        rw [hul]; simp
                      rw [this]; exact r2 φ'
                    · exact ⟨_, cap, hid, by rw [hul], by rw [hul]; exact hle, by simp⟩
                · simp at h
              · simp [h1] at h
          · simp at h
    · simp at h
  | range t x =>
    simp only [allocOp] at h
    split at h
    · simp at h
    · rename_i i hi
      have ti := hX.ti _ _ hi
      split at h
      · rename_i hd
        split at h
        · rename_i st hp
          have hp := opd_ok he hp
          simp only [vrel] at hp
          obtain ⟨bs, hb, hbs⟩ := hp
          simp at h; obtain ⟨rfl, rfl⟩ := h
          exact fin (Instr.range t (a.eval x)) rfl ⟨.pointer (some ⟨w.heap.size, 0, none⟩), w.alloc (.stringIter bs 0), by simp [Instr.range, underlying, ti.und, hd, hb], ⟨⟨_, 0, rfl, fun φ' hs hid => ⟨⟨bs, rfl, hbs, rfl⟩, ⟨_, hid, by simp⟩⟩⟩, rfl, rfl, rfl⟩⟩
        · simp at h
      · simp at h
  | _ => simp [allocOp] at h
end
end GX
