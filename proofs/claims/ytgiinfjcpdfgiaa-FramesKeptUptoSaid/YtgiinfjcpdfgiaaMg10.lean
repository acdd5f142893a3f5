/- What the row leans on, part 10: texts one behind the other. No condition. -/
import Derived.Test.YtgiinfjcpdfgiaaMg9
import Derived.ChangeArms
import Derived.DataReads
import Derived.Deep.Slices
import Derived.KernelRfl
/- GX: arguments of any type that is made of numbers, strings, slices, structs and pointers: they are only read. -/




namespace GX
open Go Go.Deep
/-- a type whose values may come in -/
def okT (P : Program) : Nat → TypeId → Bool
  | 0, _ => false
  | g + 1, t => match P.underlying t with
    | some .bool => true
    | some (.int _) => true
    | some .string => true
    | some (.slice e) => decide (0 < P.cellsOf e) && okT P g e
    | some (.pointer e) => decide (0 < P.cellsOf e) && okT P g e
    | some (.struct fs) => tile fs.toList 0 (P.cellsOf t) && fs.toList.all fun f => okT P g f.type
    | _ => false
where
  /-- the fields lie one behind the other -/
  tile : List Field → Nat → Nat → Bool
  | [], o, n => decide (o = n)
  | f :: fs, o, n => decide (f.offset = o) && tile fs (o + P.cellsOf f.type) n
/-- cells of a type that came in, of at most so many parts and letters -/
def Rdt (P : Program) (N : Nat) : Nat → TypeId → List AV → Prop
  | 0, _, _ => False
  | g + 1, t, cs => match P.underlying t with
    | some .bool => ∃ b, cs = [.bool b]
    | some (.int k) => ∃ n, cs = [.int k n] ∧ (Lit.int k n).wf = true
    | some .string => ∃ s : List Nat, cs = [.str s] ∧ (∀ b ∈ s, b < 256) ∧ s.length ≤ N
    | some (.slice e) => ∃ v rows, cs = [v] ∧ (∀ S, Rd S v (P.cellsOf e) (List.flatten rows) rows.length) ∧ rows.length ≤ N ∧ ∀ r ∈ rows, r.length = P.cellsOf e ∧ Rdt P N g e r
    | some (.pointer e) => cs = [.nilp] ∨ ∃ cs', cs = [.rptr cs' 0] ∧ cs'.length = P.cellsOf e ∧ Rdt P N g e cs'
    | some (.struct fs) => cs.length = P.cellsOf t ∧ ∀ f ∈ fs.toList, Rdt P N g f.type ((cs.drop f.offset).take (P.cellsOf f.type))
    | _ => False
structure BulkOK {H : Type} (bulk : DataW H → Nat) : Prop where
  str : ∀ l, l.length ≤ bulk (.lit (.string l))
  ptr : ∀ d, bulk d ≤ bulk (.ptr d)
  len : ∀ l r, l.length ≤ bulk (.slice l r)
  sl : ∀ l r, ∀ d ∈ l, bulk d ≤ bulk (.slice l r)
  agg : ∀ l, ∀ d ∈ l, bulk d ≤ bulk (.agg l)
theorem veqs_append : ∀ {a b : List AV}, veqs a a = true → veqs b b = true → veqs (a ++ b) (a ++ b) = true
  | [], b, _, h => h
  | x :: a, b, h1, h2 => by
    simp only [veqs, Bool.and_eq_true, List.cons_append] at h1 ⊢
    exact ⟨h1.1, veqs_append h1.2 h2⟩
/-- cells that lie somewhere -/
theorem cells_in {w : World} {a : Addr} {vs : List Value} (h0 : vs ≠ []) (hcell : ∀ i v, vs[i]? = some v → w.cell? (a.add i) = some v) :
    a.spot = none ∧ ∃ c t fz, w.heap[a.block]? = some (.cells c t fz) ∧ a.off + vs.length ≤ c.size ∧ (c.toList.drop a.off).take vs.length = vs := by
  have hpos : 0 < vs.length := List.length_pos_iff.2 h0
  have hsp : a.spot = none ∧ ∃ c t fz, w.heap[a.block]? = some (.cells c t fz) := by
    have h := hcell 0 vs[0] (List.getElem?_eq_getElem hpos)
    unfold Addr.add World.cell? at h
    simp only [if_true] at h
    split at h
    · rename_i c t fz hh
      split at h
      · cases h
      · rename_i hs
        exact ⟨by simpa using hs, c, t, fz, hh⟩
    · cases h
  obtain ⟨hs, c, t, fz, hh⟩ := hsp
  have hget : ∀ i v, vs[i]? = some v → c[a.off + i]? = some v := by
    intro i v hi
    have h := hcell i v hi
    unfold World.cell? at h
    by_cases hi0 : i = 0
    · subst hi0
      simp only [Addr.add, if_true, hh, hs] at h
      simpa using h
    · simp only [Addr.add, if_neg hi0, hh] at h
      simpa using h
  have hfit : a.off + vs.length ≤ c.size := by
    have := (Array.getElem?_eq_some_iff.1 (hget (vs.length - 1) _ (List.getElem?_eq_getElem (by omega)))).1
    omega
  refine ⟨hs, c, t, fz, hh, hfit, ?_⟩
  apply List.ext_getElem?
  intro i
  rw [List.getElem?_take]
  split
  · rename_i hi
    rw [List.getElem?_eq_getElem hi, List.getElem?_drop]
    simpa using hget i _ (List.getElem?_eq_getElem hi)
  · rw [List.getElem?_eq_none (by omega)]
theorem arg_cellsN [Val] {φ : Phi} {w : World} (hro : ∀ g o, w.heap[g]? = some o → Val.ro g = some o) {a : Addr} {len cap sz : Nat} {cs : List AV} {vs : List Value} (hz : 0 < sz) (hl : len ≤ cap) (hv : vs.length = len * sz) (hcell : ∀ i v, vs[i]? = some v → w.cell? (a.add i) = some v) (hrel : vrels φ cs vs) (hself : veqs cs cs = true) :
    ∃ av, vrel φ av (.slice (some a) len cap) ∧ ∀ S, Rd S av sz cs len := by
  have hcl : cs.length = len * sz := by rw [vrels_length hrel, hv]
  by_cases h0 : vs = []
  · subst h0
    have hl0 : len = 0 := by
      rcases Nat.eq_zero_or_pos len with h | h
      · exact h
      · have := Nat.mul_pos h hz
        simp at hv; omega
    subst hl0
    cases List.eq_nil_of_length_eq_zero (by rw [hcl, Nat.zero_mul] : cs.length = 0)
    exact ⟨.emp, ⟨a, cap, rfl⟩, fun S => ⟨rfl, rfl, rfl, rfl, rfl, by simp⟩⟩
  · obtain ⟨hs, c, t, fz, hh, hfit, hlist⟩ := cells_in h0 hcell
    refine ⟨.rsl cs len sz, ?_, fun S => ⟨by simp [capW, hcl], by simp [veq, hself], rfl, rfl, ?_, hcl⟩⟩
    · simp only [vrel]
      refine ⟨a.block, a.off, cap, c, t, fz, ?_, hl, hcl, hro _ _ hh, by omega, by rw [hcl, ← hv, hlist]; exact hrel⟩
      rw [← hs]
    · unfold srcCells; dsimp only
      rw [nble, decide_eq_true (by omega)]
      simp only [nbeq, decide_true, Bool.true_and, cond_true]
      rw [List.take_of_length_le (by omega)]
theorem bytes_lt' (s : ByteArray) : ∀ b ∈ bytes s, b < 256 := by
  intro b hb
  unfold bytes at hb
  obtain ⟨c, _, rfl⟩ := List.mem_map.1 hb
  exact c.toNat_lt
section
variable {H : Type} {enc : TypeId × Value → H} {P : Program} {w : World} {base : Nat} {sp : Nat → Bool} {held : Bool} {bulk : DataW H → Nat} {N : Nat}
/-- the fields of a struct, one behind the other -/
theorem fields_rel [Val] {φ : Phi} {cs : List Value} {R : Field → List AV → Prop} : ∀ (fs : List Field) (o n : Nat), okT.tile P fs o n = true → o ≤ n → n ≤ cs.length →
    (∀ f ∈ fs, ∃ avs, vrels φ avs ((cs.drop f.offset).take (P.cellsOf f.type)) ∧ veqs avs avs = true ∧ R f avs) →
    ∃ avs, vrels φ avs ((cs.drop o).take (n - o)) ∧ veqs avs avs = true ∧ ∀ f ∈ fs, o ≤ f.offset ∧ R f ((avs.drop (f.offset - o)).take (P.cellsOf f.type))
  | [], o, n, ht, _, _, _ => by
    have : o = n := of_decide_eq_true ht
    subst this
    exact ⟨[], by rw [Nat.sub_self, List.take_zero]; exact vrels_nil, rfl, by simp⟩
  | f :: fs, o, n, ht, ho, hn, h => by
    unfold okT.tile at ht
    simp only [Bool.and_eq_true, decide_eq_true_eq] at ht
    obtain ⟨hfo, ht⟩ := ht
    have hle : o + P.cellsOf f.type ≤ n := by
      have key : ∀ (l : List Field) (a : Nat), okT.tile P l a n = true → a ≤ n := by
        intro l
        induction l with
        | nil => intro a h; exact Nat.le_of_eq (of_decide_eq_true h)
        | cons x l ih =>
          intro a h
          unfold okT.tile at h
          simp only [Bool.and_eq_true, decide_eq_true_eq] at h
          have := ih _ h.2; omega
      exact key _ _ ht
    obtain ⟨a1, r1, v1, p1⟩ := h f (List.mem_cons_self ..)
    obtain ⟨a2, r2, v2, p2⟩ := fields_rel fs (o + P.cellsOf f.type) n ht hle hn (fun g hg => h g (List.mem_cons_of_mem _ hg))
    have hl1 : a1.length = P.cellsOf f.type := by rw [vrels_length r1, List.length_take, List.length_drop]; omega
    refine ⟨a1 ++ a2, ?_, veqs_append v1 v2, fun g hg => ?_⟩
    · have e : (cs.drop o).take (n - o) = (cs.drop f.offset).take (P.cellsOf f.type) ++ (cs.drop (o + P.cellsOf f.type)).take (n - (o + P.cellsOf f.type)) := by
        rw [hfo, show n - o = P.cellsOf f.type + (n - (o + P.cellsOf f.type)) by omega, List.take_add, List.drop_drop]
      rw [e]; exact vrels_append r1 r2
    · rcases List.mem_cons.1 hg with rfl | hg
      · rw [hfo, Nat.sub_self, List.drop_zero, List.take_append_of_le_length (by omega), List.take_of_length_le (by omega)]
        exact ⟨Nat.le_refl _, p1⟩
      · obtain ⟨q1, q2⟩ := p2 g hg
        refine ⟨by omega, ?_⟩
        rw [show g.offset - o = a1.length + (g.offset - (o + P.cellsOf f.type)) by omega, ← List.drop_drop, List.drop_append_of_le_length (Nat.le_refl _), List.drop_length, List.nil_append]
        exact q2
/-- what came in, as cells that are only read -/
theorem trod_rel [Val] {φ : Phi} (hro : ∀ g o, w.heap[g]? = some o → Val.ro g = some o) (hB : BulkOK bulk) : ∀ (g : Nat) (t : TypeId) (f : Nat) (cs : List Value) (x : DataW H × List MemPlace), okT P g t = true → DataW.trod enc P w base sp held f t cs = some x → bulk x.1 ≤ N →
    ∃ avs, vrels φ avs cs ∧ veqs avs avs = true ∧ Rdt P N g t avs
  | 0, _, _, _, _, hk, _, _ => by cases hk
  | g + 1, t, f, cs, x, hk, h, hb => by
    unfold okT at hk
    unfold Rdt
    split at hk
    · rename_i hu
      obtain ⟨b, rfl, rfl⟩ := DataW.trod_bool hu h
      exact ⟨[.bool b], vrels_cons rfl vrels_nil, by cases b <;> rfl, b, rfl⟩
    · rename_i k hu
      obtain ⟨n, rfl, rfl, hw⟩ := DataW.trod_int hu h
      exact ⟨[.int k n], vrels_cons rfl vrels_nil, by simp [veqs, veq_int], n, rfl, hw⟩
    · rename_i hu
      obtain ⟨s, rfl, rfl, hs⟩ := DataW.trod_string hu h
      refine ⟨[.str (bytes s)], vrels_cons ⟨s, rfl, rfl⟩ vrels_nil, by simp [veqs, veq_str], bytes s, rfl, bytes_lt' s, ?_⟩
      have h1 := hB.str s.data.toList
      have h2 : (bytes s).length = s.data.toList.length := by unfold bytes; simp
      dsimp only at hb
      omega
    · rename_i e hu
      simp only [Bool.and_eq_true, decide_eq_true_eq] at hk
      obtain ⟨hz, hk⟩ := hk
      rcases DataW.trod_slice hu h with ⟨rfl, rfl⟩ | ⟨a, len, cap, elems, rest, n, _, rfl, rfl, hbs, hl, hm, hlen, hel, hsp, hns⟩
      · exact ⟨[.nils], vrels_cons rfl vrels_nil, rfl, .nils, [], rfl, fun S => ⟨rfl, rfl, rfl, rfl, rfl, by simp⟩, Nat.zero_le _, by simp⟩
      · dsimp only at hb
        have hlN : len ≤ N := by
          have := hB.len (elems.map (·.1)) (rest.map (·.1))
          rw [List.length_map, hlen] at this
          omega
        have each : ∀ i, i < len → ∃ q : List Value × List AV, w.cells? base (a.add (i * P.cellsOf e)) (P.cellsOf e) = some q.1 ∧ vrels φ q.2 q.1 ∧ veqs q.2 q.2 = true ∧ Rdt P N g e q.2 := by
          intro i hi
          have h1 := hel i hi
          rw [List.getElem?_eq_getElem (by omega)] at h1
          obtain ⟨cs', h2, h3⟩ := Option.bind_eq_some_iff.1 h1
          obtain ⟨avs, h4, h5, h6⟩ := trod_rel hro hB g e n cs' _ hk h3 (Nat.le_trans (hB.sl _ _ _ (List.mem_map_of_mem (List.getElem_mem _))) hb)
          exact ⟨(cs', avs), h2, h4, h5, h6⟩
        obtain ⟨q, hq⟩ := choose_lt each
        have hql : ∀ i, i < len → (q i).1.length = P.cellsOf e := fun i hi => (World.cells?_some (hq i hi).1).2.1
        -- all cells, one behind the other
        have all : ∀ m, m ≤ len → ∃ vs : List Value, vs.length = m * P.cellsOf e ∧ (∀ i v, vs[i]? = some v → w.cell? (a.add i) = some v) ∧ vrels φ (List.flatten ((List.range m).map fun i => (q i).2)) vs ∧ veqs (List.flatten ((List.range m).map fun i => (q i).2)) (List.flatten ((List.range m).map fun i => (q i).2)) = true := by
          intro m
          induction m with
          | zero => intro _; exact ⟨[], by simp, by simp, vrels_nil, rfl⟩
          | succ m ih =>
            intro hm2
            obtain ⟨vs, g1, g2, g3, g4⟩ := ih (by omega)
            obtain ⟨c1, c2, c3, c4⟩ := hq m (by omega)
            obtain ⟨d1, d2, d3⟩ := World.cells?_some c1
            refine ⟨vs ++ (q m).1, by rw [List.length_append, g1, d2, Nat.add_mul, Nat.one_mul], fun i v hv => ?_, ?_, ?_⟩
            · by_cases hi : i < vs.length
              · rw [List.getElem?_append_left hi] at hv; exact g2 i v hv
              · rw [List.getElem?_append_right (by omega)] at hv
                have hi2 : i - vs.length < P.cellsOf e := by
                  have := (List.getElem?_eq_some_iff.1 hv).1; omega
                have h7 := d3 _ hi2
                rw [add_add, ← g1, hv, show vs.length + (i - vs.length) = i by omega] at h7
                exact h7
            · rw [List.range_succ, List.map_append, List.flatten_append]
              exact vrels_append g3 (by simpa using c2)
            · rw [List.range_succ, List.map_append, List.flatten_append]
              exact veqs_append g4 (by simpa using c3)
        obtain ⟨vs, g1, g2, g3, g4⟩ := all len (Nat.le_refl _)
        obtain ⟨av, k1, k2⟩ := arg_cellsN (φ := φ) hro hz hl g1 g2 g3 g4
        refine ⟨[av], vrels_cons k1 vrels_nil, ?_, av, (List.range len).map fun i => (q i).2, rfl, fun S => by simpa using k2 S, by simpa using hlN, ?_⟩
        · have := (k2 { h := .leaf, n := 0 }).self
          simp [veqs, this]
        · intro r hr
          obtain ⟨i, hi, rfl⟩ := List.mem_map.1 hr
          have hi := List.mem_range.1 hi
          exact ⟨by rw [vrels_length (hq i hi).2.1]; exact hql i hi, (hq i hi).2.2.2⟩
    · rename_i e hu
      simp only [Bool.and_eq_true, decide_eq_true_eq] at hk
      obtain ⟨hz, hk⟩ := hk
      rcases DataW.trod_pointer hu h with ⟨rfl, rfl⟩ | ⟨a, cs', y, n, _, rfl, rfl, hc, hy⟩
      · exact ⟨[.nilp], vrels_cons rfl vrels_nil, rfl, .inl rfl⟩
      · dsimp only at hb
        obtain ⟨avs, h4, h5, h6⟩ := trod_rel hro hB g e n cs' _ hk hy (Nat.le_trans (hB.ptr _) hb)
        obtain ⟨_, d2, d3⟩ := World.cells?_some hc
        have hne : cs' ≠ [] := by intro h; rw [h] at d2; simp at d2; omega
        obtain ⟨hs, c, tt, fz, hh, hfit, hlist⟩ := cells_in (a := a) hne (fun i v hv => by
          have := (List.getElem?_eq_some_iff.1 hv).1
          rw [d3 i (by omega), hv])
        have hl := vrels_length h4
        refine ⟨[.rptr avs 0], vrels_cons ?_ vrels_nil, by simp [veqs, veq, h5], .inr ⟨avs, rfl, by omega, h6⟩⟩
        simp only [vrel]
        refine ⟨a.block, a.off, c, tt, fz, ?_, hro _ _ hh, by omega, by rw [hl, hlist]; exact h4⟩
        rw [Nat.add_zero, ← hs]
    · rename_i fs hu
      simp only [Bool.and_eq_true, List.all_eq_true] at hk
      obtain ⟨ht, hk⟩ := hk
      obtain ⟨xs, n, _, rfl, hlen, hxs, hf⟩ := DataW.trod_struct hu h
      dsimp only at hb
      obtain ⟨avs, h4, h5, h6⟩ := fields_rel (φ := φ) (cs := cs) (R := fun f avs => Rdt P N g f.type avs) fs.toList 0 (P.cellsOf t) ht (Nat.zero_le _) (by omega) (by
        intro fd hfd
        obtain ⟨i, hi, rfl⟩ := List.getElem_of_mem hfd
        have hi' : i < fs.size := by simpa using hi
        have h1 := hf i fs[i] (by simp [hi'])
        rw [List.getElem?_eq_getElem (by omega)] at h1
        simp only [Array.getElem_toList]
        exact trod_rel hro hB g _ n _ _ (hk _ (by simp)) h1 (Nat.le_trans (hB.agg _ _ (List.mem_map_of_mem (List.getElem_mem _))) hb))
      rw [List.drop_zero, Nat.sub_zero, List.take_of_length_le (by omega)] at h4
      exact ⟨avs, h4, h5, by rw [vrels_length h4]; exact hlen, fun f hf => (h6 f hf).2⟩
    · cases hk
end
end GX
/- Chapter 9: a frame that comes in. -/



namespace Go.Proofs.Ytgiinfjcpdfgiaa
open GX Go
set_option maxRecDepth 100000
theorem u3 : Try.prog.underlying 3 = some (.int .i64) := by kernel_rfl
theorem u9 : Try.prog.underlying 9 = some .string := by kernel_rfl
theorem u22 : Try.prog.underlying 22 = some (.slice 9) := by kernel_rfl
theorem u24 : Try.prog.underlying 24 = some (.struct #[⟨"At", 3, 0, false, "", "", 0⟩, ⟨"Locals", 22, 1, false, "", "", 8⟩, ⟨"Stack", 22, 2, false, "", "", 32⟩]) := by kernel_rfl
theorem c3 : Try.prog.cellsOf 3 = 1 := by kernel_rfl
theorem c9 : Try.prog.cellsOf 9 = 1 := by kernel_rfl
theorem c22 : Try.prog.cellsOf 22 = 1 := by kernel_rfl
theorem c24 : Try.prog.cellsOf 24 = 3 := by kernel_rfl
theorem rdt_int {N g t : Nat} {k : IntKind} {a : AV} (hu : Try.prog.underlying t = some (.int k)) (h : Rdt Try.prog N (g + 1) t [a]) : ∃ n, a = .int k n ∧ (Lit.int k n).wf = true := by
  unfold Rdt at h; rw [hu] at h
  obtain ⟨n, h1, h2⟩ := h
  exact ⟨n, List.head_eq_of_cons_eq h1, h2⟩
theorem rdt_str {N g : Nat} {a : AV} (h : Rdt Try.prog N (g + 1) 9 [a]) : ∃ s, a = .str s ∧ (∀ b ∈ s, b < 256) ∧ s.length ≤ N := by
  unfold Rdt at h; rw [u9] at h
  obtain ⟨n, h1, h2⟩ := h
  exact ⟨n, List.head_eq_of_cons_eq h1, h2⟩
theorem rows_texts {N g : Nat} : ∀ (rows : List (List AV)), (∀ r ∈ rows, r.length = Try.prog.cellsOf 9 ∧ Rdt Try.prog N (g + 1) 9 r) → ∃ l : List El, List.flatten rows = cellsE l ∧ l.length = rows.length
  | [], _ => ⟨[], rfl, rfl⟩
  | r :: rows, h => by
    obtain ⟨l, h1, h2⟩ := rows_texts rows (fun r hr => h r (List.mem_cons_of_mem _ hr))
    obtain ⟨h4, h5⟩ := h r (List.mem_cons_self ..)
    rw [c9] at h4
    match r, h4 with
    | [a], _ =>
      obtain ⟨s, rfl, _⟩ := rdt_str h5
      exact ⟨s :: l, by rw [List.flatten_cons, h1]; rfl, by simp [h2]⟩
theorem texts_arg {N g : Nat} {a : AV} (h : Rdt Try.prog N (g + 2) 22 [a]) : ∃ l : List El, (∀ S, Es S a l) ∧ l.length ≤ N := by
  unfold Rdt at h; rw [u22] at h
  obtain ⟨v, rows, h1, h2, h3, h4⟩ := h
  obtain ⟨l, g1, g2⟩ := rows_texts rows h4
  cases List.head_eq_of_cons_eq h1
  exact ⟨l, fun S => (by rw [c9] at h2; exact (h2 S).eq g1 g2.symm), by omega⟩
theorem frame_arg {N g : Nat} {r : List AV} (h : Rdt Try.prog N (g + 3) 24 r) : ∃ a u1 u2 l1 l2, r = [.int .i64 a, u1, u2] ∧ (∀ S, Es S u1 l1) ∧ (∀ S, Es S u2 l2) ∧ l1.length ≤ N ∧ l2.length ≤ N := by
  unfold Rdt at h; rw [u24] at h
  obtain ⟨hl, hf⟩ := h
  rw [c24] at hl
  match r, hl with
  | [a0, a1, a2], _ =>
    simp only [List.mem_cons, forall_eq_or_imp, c3, c22, List.drop_zero, List.drop_succ_cons, List.take_succ_cons, List.take_zero] at hf
    obtain ⟨h0, h1, h2, _⟩ := hf
    obtain ⟨n0, rfl, _⟩ := rdt_int u3 h0
    obtain ⟨l1, g1, k1⟩ := texts_arg h1
    obtain ⟨l2, g2, k2⟩ := texts_arg h2
    exact ⟨n0, a1, a2, l1, l2, rfl, g1, g2, k1, k2⟩
end Go.Proofs.Ytgiinfjcpdfgiaa
/- GX: a region that draws its order, where reads look at blocks that later loud operations leave alone until one behind which no such read can come. -/

namespace GX
open Go
/-- all operations from one on are behind this one -/
def ZB (ops : List Oper) (z i : Nat) : Bool := (List.range ops.length).all fun j => Nat.blt j z || inM (masks ops []) j i
/-- .. until an operation from which on the blocks are known no more: all from there on are behind each such read -/
def RunZ (X : X) (rec : Rec) (n : Nat) (all : List Oper) (z : Nat) : List Fct → List Oper → Nat → Env → St → Env → St → Prop
  | _, [], _, e, S, e', S' => e' = e ∧ S' = S
  | D, o :: os, i, e, S, e', S' =>
    (wanted all e o = true ∧ ∃ v S1 e1 N, oper X rec e S o.op = some (v, S1) ∧ setDst n e o.dst v = some e1 ∧ rdv (cls X e o.op) v = true ∧
      (cls X e o.op = .read → rdStat (masks all []) (all.map (fun o => sk X o.op)) i = true ∨ ZB all z i = true ∧ FPD X D (masks all []) i e o.op v) ∧
      (isLC (cls X e o.op) = true → i < z → ∀ f ∈ D, S1.h.get f.id = some f.x) ∧
      (∀ f ∈ N, f.src = some i ∧ f.id < S1.n ∧ S1.h.get f.id = some f.x ∧ (isLC (cls X e o.op) = true ∨ cls X e o.op = .alloc ∧ f.id = S.n)) ∧ RunZ X rec n all z (D ++ N) os (i + 1) e1 S1 e' S') ∨
    (wanted all e o = false ∧ ∃ e1, setDst n e o.dst (.tup []) = some e1 ∧ RunZ X rec n all z D os (i + 1) e1 S e' S')
theorem RunZ_le {X : X} {rec rec' : Rec} (hr : RecLe rec rec') {n : Nat} {all : List Oper} {z : Nat} : ∀ {D : List Fct} {os : List Oper} {i : Nat} {e : Env} {S : St} {e' S'}, RunZ X rec n all z D os i e S e' S' → RunZ X rec' n all z D os i e S e' S'
  | _, [], _, _, _, _, _, h => h
  | _, o :: os, i, e, S, e', S', h => by
    unfold RunZ at h ⊢
    rcases h with ⟨hw, v, S1, e1, N, h1, h2, h3, h4, h5, h6, h7⟩ | ⟨hw, e1, h1, h2⟩
    · exact .inl ⟨hw, v, S1, e1, N, oper_le hr h1, h2, h3, h4, h5, h6, RunZ_le hr h7⟩
    · exact .inr ⟨hw, e1, h1, RunZ_le hr h2⟩
theorem RunZ_n {X : X} {rec : Rec} {n : Nat} {all : List Oper} {z : Nat} : ∀ {D : List Fct} {os : List Oper} {i : Nat} {e : Env} {S : St} {e' S'}, RunZ X rec n all z D os i e S e' S' → S.n ≤ S'.n
  | _, [], _, _, _, _, _, h => by unfold RunZ at h; rw [h.2]; exact Nat.le_refl _
  | _, o :: os, i, e, S, e', S', h => by
    unfold RunZ at h
    rcases h with ⟨_, v, S1, e1, N, h1, _, _, _, _, _, h6⟩ | ⟨_, e1, _, h2⟩
    · exact Nat.le_trans (oper_n h1) (RunZ_n h6)
    · exact RunZ_n h2
/-- a fact, and what the plan has put down -/
def FZ (ms : List Nat) (z : Nat) (N0 : Nat) (h0 : Tr AB) (acc : List R) (f : Fct) : Prop :=
  (f.src = none ∧ f.id < N0 ∧ h0.get f.id = some f.x ∧ ∀ (k : Nat) (r : R) h' m, acc[k]? = some r → r.k = .ld h' m → k < z → h'.get f.id = some f.x) ∨
  ∃ j r, f.src = some j ∧ acc[j]? = some r ∧ ((r.k = .mk f.x ∧ r.n0 = f.id) ∨ (∃ h' m, r.k = .ld h' m ∧ h'.get f.id = some f.x ∧ f.id < m ∧ ∀ (k : Nat) (r : R) b, acc[k]? = some r → r.k = .mk b → k < j → inM ms j k = true)) ∧
    ∀ (k : Nat) (r : R) h' m, acc[k]? = some r → r.k = .ld h' m → j < k → k < z → h'.get f.id = some f.x
theorem FZ_snoc {ms : List Nat} {z : Nat} {N0 : Nat} {h0 : Tr AB} {acc : List R} {f : Fct} {r : R} (h : FZ ms z N0 h0 acc f) (hr : ∀ h' m, r.k = .ld h' m → acc.length < z → h'.get f.id = some f.x) : FZ ms z N0 h0 (acc ++ [r]) f := by
  have key : ∀ (k : Nat) (r' : R), (acc ++ [r])[k]? = some r' → acc[k]? = some r' ∨ (k = acc.length ∧ r' = r) := by
    intro k r' hk
    by_cases hlt : k < acc.length
    · rw [List.getElem?_append_left hlt] at hk; exact .inl hk
    · have h2 : k = acc.length := by
        have := (List.getElem?_eq_some_iff.1 hk).1
        simp at this; omega
      subst h2
      simp at hk; exact .inr ⟨rfl, hk.symm⟩
  rcases h with ⟨h1, h2, h3, h4⟩ | ⟨j, r0, h1, h2, h3, h4⟩
  · refine .inl ⟨h1, h2, h3, fun k r' h' m hk hl hz => ?_⟩
    rcases key k r' hk with hk | ⟨hkk, rfl⟩
    · exact h4 k r' h' m hk hl hz
    · exact hr h' m hl (hkk ▸ hz)
  · have hj : j < acc.length := (List.getElem?_eq_some_iff.1 h2).1
    refine .inr ⟨j, r0, h1, by rw [List.getElem?_append_left hj]; exact h2, ?_, ?_⟩
    · rcases h3 with h3 | ⟨h', m, a1, a2, a3, a4⟩
      · exact .inl h3
      · refine .inr ⟨h', m, a1, a2, a3, ?_⟩
        intro k r' b hk hb hlt
        rcases key k r' hk with hk | ⟨hk, _⟩
        · exact a4 k r' b hk hb hlt
        · omega
    · intro k r' h' m hk hl hlt hz
      rcases key k r' hk with hk | ⟨hkk, rfl⟩
      · exact h4 k r' h' m hk hl hlt hz
      · exact hr h' m hl (hkk ▸ hz)
theorem FZ_get {ms : List Nat} {z : Nat} {N0 i : Nat} {h0 : Tr AB} {recs : List R} {f : Fct} {pf : List Nat} (hz : ∀ j ∈ pf, j < z) (hbd : ∀ (k : Nat) (r : R) b, recs[k]? = some r → r.k = .mk b → N0 ≤ r.n0 ∧ r.n0 < 1000000000)
    (hmono : ∀ (q q' : Nat) (r r' : R), q < q' → recs[q]? = some r → recs[q']? = some r' → r.n1 ≤ r'.n0) (hpf : pf.Pairwise (· < ·)) (hld : ∀ j ∈ pf, ∃ r, recs[j]? = some r ∧ r.isL) (hlt : ∀ j k, inM ms j k = true → k < j)
    (h : FZ ms z N0 h0 recs f) (hu : ∀ j, f.src = some j → inM ms i j = true ∧ ((∃ r, recs[j]? = some r ∧ r.isL) → j ∈ pf)) : (gh ms pf (inM ms i) recs 0 (hOf recs h0 pf)).get f.id = some f.x := by
  have hbd' := fun k r b h1 h2 => (hbd k r b h1 h2).2
  rcases h with ⟨_, h2, h3, h4⟩ | ⟨j, r, h1, h2, h3, h4⟩
  · rw [gh_miss hbd' (fun k r b a1 a2 _ _ => by have := (hbd k r b a1 a2).1; omega)]
    refine hOf_has (a := 0) hpf (fun k hk => ?_) (.inl ⟨h3, fun _ _ => Nat.zero_le _⟩)
    obtain ⟨r, b1, h', m, b2⟩ := hld k hk
    exact ⟨r, h', m, b1, b2, fun _ => h4 k r h' m b1 b2 (hz k hk)⟩
  · obtain ⟨u1, u2⟩ := hu j h1
    rcases h3 with ⟨g1, g2⟩ | ⟨h', m, g1, g2, g3, g4⟩
    · by_cases hun : Unm ms pf j
      · rw [← g2]
        exact gh_hit hbd' hmono h2 g1 (by rw [Nat.zero_add]; exact u1) (by rw [Nat.zero_add]; exact hun)
      · have huni : ∀ (k : Nat) (r' : R) b, recs[k]? = some r' → r'.k = .mk b → r'.n0 = f.id → k = j := by
          intro k r' b a1 a2 a3
          rcases Nat.lt_trichotomy k j with hk | hk | hk
          · have := hmono k j r' r hk a1 h2
            simp [R.n1, a2] at this; omega
          · exact hk
          · have := hmono j k r r' hk h2 a1
            simp [R.n1, g1] at this; omega
        rw [gh_miss hbd' (fun k r' b a1 a2 _ a4 a5 => by
          have := huni k r' b a1 a2 a5; subst this
          rw [Nat.zero_add] at a4; exact hun a4)]
        have hex : ∃ q ∈ pf, j + 1 ≤ q := by
          refine Classical.byContradiction fun hne => hun fun q hq => ?_
          cases hqq : inM ms q j with
          | false => rfl
          | true => exact absurd ⟨q, hq, hlt q j hqq⟩ hne
        refine hOf_has (a := j + 1) hpf (fun k hk => ?_) (.inr hex)
        obtain ⟨r', b1, h', m, b2⟩ := hld k hk
        exact ⟨r', h', m, b1, b2, fun hl => h4 k r' h' m b1 b2 hl (hz k hk)⟩
    · have hjp := u2 ⟨r, h2, h', m, g1⟩
      rw [gh_miss hbd' (fun k r' b a1 a2 _ a4 a5 => by
        rcases Nat.lt_trichotomy k j with hk | hk | hk
        · have e1 := g4 k r' b a1 a2 hk
          rw [Nat.zero_add] at a4
          have e2 := a4 j hjp
          rw [e1] at e2; cases e2
        · subst hk; rw [h2] at a1; cases a1; rw [g1] at a2; cases a2
        · have := hmono j k r r' hk h2 a1
          simp [R.n1, g1] at this; omega)]
      refine hOf_has (a := j) hpf (fun k hk => ?_) (.inr ⟨j, hjp, Nat.le_refl _⟩)
      obtain ⟨r', b1, h'', m', b2⟩ := hld k hk
      refine ⟨r', h'', m', b1, b2, fun hl => ?_⟩
      rcases Nat.lt_or_ge j k with hk2 | hk2
      · exact h4 k r' h'' m' b1 b2 hk2 (hz k hk)
      · have : k = j := by omega
        subst this
        rw [h2] at b1; cases b1; rw [g1] at b2; cases b2; exact g2
section
variable {X : X} {rec : Rec} {n : Nat} {ops : List Oper} {e : Env} {h0 : Tr AB}
def RFZ (X : _root_.GX.X) (n : Nat) (ops : List Oper) (z : Nat) (N0 : Nat) (e : Env) (h0 : Tr AB) (recs : List R) (lds : List Nat) (i : Nat) (o : Oper) (r : R) : Prop :=
  r.k = .rd → ∃ l1 l2 ei, lds = l1 ++ l2 ∧ (∀ j ∈ l1, j < i) ∧ (∀ j ∈ l2, i < j) ∧ (∀ t ∈ looks ops o, lookT (masks ops []) ops (recs.take i) e i t = some (ei.at t)) ∧ (∀ t ∈ looks ops o, t < n) ∧
    sk X o.op = .read ∧ veq r.v r.v = true ∧ ((rdStat (masks ops []) (ops.map (fun o => sk X o.op)) i = true ∧ readOp X ei (gh (masks ops []) l1 (fun _ => true) (recs.take i) 0 (hOf (recs.take i) h0 l1)) o.op = some r.v) ∨ ∃ D, ZB ops z i = true ∧ FPD X D (masks ops []) i ei o.op r.v ∧ ∀ f ∈ D, FZ (masks ops []) z N0 h0 recs f)
theorem plan_seqZ {z N0 : Nat} (hn : n < 1000001) (hE : edgesOk ops 0 = true) (hD : dstsOk n ops = true) (hK : seqB1 ops (masks ops []) (ops.map (fun o => sk X o.op)) n ops 0 = true) :
    ∀ (D : List Fct) (os pre : List Oper) (acc : List R) (lds : List Nat) (S : St) (ei : Env) (e' : Env) (S' : St), ops = pre ++ os → acc.length = pre.length → putAll n pre acc e = some ei →
    (∀ (k : Nat) (r : R) b, acc[k]? = some r → r.k = .mk b → (ops.map (fun o => sk X o.op)).getD k .pure = .alloc ∧ N0 ≤ r.n0 ∧ r.n0 < 1000000000) →
    (∀ f ∈ D, FZ (masks ops []) z N0 h0 acc f) →
    (∀ (k : Nat) (r : R), acc[k]? = some r → r.isL → k ∈ lds) → (∀ (q q' : Nat) (r r' : R), q < q' → acc[q]? = some r → acc[q']? = some r' → r.n1 ≤ r'.n0) → (∀ (q : Nat) (r : R), acc[q]? = some r → r.n1 ≤ S.n) →
    N0 ≤ S.n →
    (∀ j ∈ lds, j < pre.length ∧ isLC ((ops.map (fun o => sk X o.op)).getD j .pure) = true ∧ ∃ r, acc[j]? = some r ∧ r.isL) →
    lds.Pairwise (· < ·) →
    S.h = gh (masks ops []) lds (fun _ => true) acc 0 (hOf acc h0 lds) →
    RunZ X rec n ops z D os pre.length ei S e' S' →
    ∃ tl l2, plan X rec n ops (masks ops []) e os pre.length acc lds (hOf acc h0 lds) S.n = some (acc ++ tl, lds ++ l2, S'.n) ∧
      (∀ j ∈ l2, pre.length ≤ j ∧ isLC ((ops.map (fun o => sk X o.op)).getD j .pure) = true) ∧ putAll n ops (acc ++ tl) e = some e' ∧
      S'.h = gh (masks ops []) (lds ++ l2) (fun _ => true) (acc ++ tl) 0 (hOf (acc ++ tl) h0 (lds ++ l2)) ∧ tl.length = os.length ∧ (lds ++ l2).Pairwise (· < ·) ∧ (∀ (k : Nat) (r : R) b, (acc ++ tl)[k]? = some r → r.k = .mk b → (ops.map (fun o => sk X o.op)).getD k .pure = .alloc ∧ N0 ≤ r.n0 ∧ r.n0 < 1000000000) ∧ (∀ f ∈ D, FZ (masks ops []) z N0 h0 (acc ++ tl) f) ∧ (∀ (k : Nat) (r : R), (acc ++ tl)[k]? = some r → r.isL → k ∈ lds ++ l2) ∧ (∀ (q q' : Nat) (r r' : R), q < q' → (acc ++ tl)[q]? = some r → (acc ++ tl)[q']? = some r' → r.n1 ≤ r'.n0) ∧ (∀ j ∈ lds ++ l2, ∃ r, (acc ++ tl)[j]? = some r ∧ r.isL) ∧
      ∀ (k : Nat) (o : Oper) (r : R), os[k]? = some o → tl[k]? = some r → RFZ X n ops z N0 e h0 (acc ++ tl) (lds ++ l2) (pre.length + k) o r
  | D, [], pre, acc, lds, S, ei, e', S', hp, hl, hput, hmk, hF, hal, hmo, _, _, hld, hpw, hh, h => by
    unfold RunZ at h
    obtain ⟨rfl, rfl⟩ := h
    refine ⟨[], [], ?_, fun j hj => by simp at hj, ?_, ?_, rfl, by simpa using hpw, by simpa using hmk, by simpa using hF, by simpa using hal, by simpa using hmo, fun j hj => by simpa using (hld j (by simpa using hj)).2.2, fun k o r hk => by simp at hk⟩
    · simp [plan]
    · simp only [List.append_nil] at hp ⊢; rw [hp]; exact hput
    · simpa using hh
  | D, o :: os, pre, acc, lds, S, ei, e', S', hp, hl, hput, hmk, hF, hal, hmo, hmn, hN, hld, hpw, hh, h => by
    have ho : ops[pre.length]? = some o := by rw [hp]; simp
    have hsk : (ops.map (fun o => sk X o.op)).getD pre.length .pure = sk X o.op := by
      rw [List.getD_eq_getElem?_getD, List.getElem?_map, ho]; rfl
    obtain ⟨hk1, hk2⟩ := seqB1_at hK pre.length o ho
    simp only [Nat.zero_add] at hk1 hk2
    rw [hsk] at hk2
    have hlk := looks_seq hn hE hD hp hl hput hk1
    obtain ⟨re, hre, hag⟩ := renv_good (es := ei) hn hlk
    have hoe : OE re ei o.op := OE_of hag
    have hp' : ops = (pre ++ [o]) ++ os := by rw [hp]; simp
    -- what goes on behind
    have fin : ∀ (r : R) (ldn : List Nat) (S1 : St) (e1 : Env) (N : List Fct), setDst n ei o.dst r.v = some e1 → (∀ b, r.k = .mk b → sk X o.op = .alloc ∧ N0 ≤ r.n0 ∧ r.n0 < 1000000000) → (∀ h' m, r.k = .ld h' m → pre.length < z → ∀ f ∈ D, h'.get f.id = some f.x) → (∀ f ∈ N, FZ (masks ops []) z N0 h0 (acc ++ [r]) f) → r.n0 = S.n → r.n1 = S1.n → S.n ≤ S1.n → N0 ≤ S1.n → (ldn = [] ∧ ¬ r.isL ∨ ldn = [pre.length] ∧ isLC (sk X o.op) = true ∧ r.isL) →
        S1.h = gh (masks ops []) (lds ++ ldn) (fun _ => true) (acc ++ [r]) 0 (hOf (acc ++ [r]) h0 (lds ++ ldn)) →
        (r.k = .rd → ldn = [] ∧ sk X o.op = .read ∧ veq r.v r.v = true ∧ ((rdStat (masks ops []) (ops.map (fun o => sk X o.op)) pre.length = true ∧ readOp X ei S.h o.op = some r.v) ∨ ZB ops z pre.length = true ∧ FPD X D (masks ops []) pre.length ei o.op r.v)) →
        RunZ X rec n ops z (D ++ N) os (pre.length + 1) e1 S1 e' S' →
        plan X rec n ops (masks ops []) e (o :: os) pre.length acc lds (hOf acc h0 lds) S.n = plan X rec n ops (masks ops []) e os (pre.length + 1) (acc ++ [r]) (lds ++ ldn) (hOf (acc ++ [r]) h0 (lds ++ ldn)) S1.n →
        ∃ tl l2, plan X rec n ops (masks ops []) e (o :: os) pre.length acc lds (hOf acc h0 lds) S.n = some (acc ++ tl, lds ++ l2, S'.n) ∧
          (∀ j ∈ l2, pre.length ≤ j ∧ isLC ((ops.map (fun o => sk X o.op)).getD j .pure) = true) ∧ putAll n ops (acc ++ tl) e = some e' ∧
          S'.h = gh (masks ops []) (lds ++ l2) (fun _ => true) (acc ++ tl) 0 (hOf (acc ++ tl) h0 (lds ++ l2)) ∧ tl.length = (o :: os).length ∧ (lds ++ l2).Pairwise (· < ·) ∧ (∀ (k : Nat) (r : R) b, (acc ++ tl)[k]? = some r → r.k = .mk b → (ops.map (fun o => sk X o.op)).getD k .pure = .alloc ∧ N0 ≤ r.n0 ∧ r.n0 < 1000000000) ∧ (∀ f ∈ D, FZ (masks ops []) z N0 h0 (acc ++ tl) f) ∧ (∀ (k : Nat) (r : R), (acc ++ tl)[k]? = some r → r.isL → k ∈ lds ++ l2) ∧ (∀ (q q' : Nat) (r r' : R), q < q' → (acc ++ tl)[q]? = some r → (acc ++ tl)[q']? = some r' → r.n1 ≤ r'.n0) ∧ (∀ j ∈ lds ++ l2, ∃ r, (acc ++ tl)[j]? = some r ∧ r.isL) ∧
          ∀ (k : Nat) (o' : Oper) (r : R), (o :: os)[k]? = some o' → tl[k]? = some r → RFZ X n ops z N0 e h0 (acc ++ tl) (lds ++ l2) (pre.length + k) o' r := by
      intro r ldn S1 e1 N hset hmk1 hlb1 hNf hr0 hr1 hnS1 hN1 hldn hh1 hrd hrun hplan
      have hlast : ∀ (k : Nat) (r' : R), (acc ++ [r])[k]? = some r' → acc[k]? = some r' ∨ (k = acc.length ∧ r' = r) := by
        intro k r' hk
        by_cases hlt : k < acc.length
        · rw [List.getElem?_append_left hlt] at hk; exact .inl hk
        · have h2 : k = acc.length := by
            have := (List.getElem?_eq_some_iff.1 hk).1
            simp at this; omega
          subst h2
          simp at hk; exact .inr ⟨rfl, hk.symm⟩
      obtain ⟨tl, l2, p1, p2, p3, p4, p5, ppw, pmk, pF, pal, pmo, pld, p6⟩ := plan_seqZ hn hE hD hK (D ++ N) os (pre ++ [o]) (acc ++ [r]) (lds ++ ldn) S1 e1 e' S' hp' (by simp [hl]) (putAll_snoc hput hset)
        (by
          intro k r' b hk hb
          by_cases hlt : k < acc.length
          · rw [List.getElem?_append_left hlt] at hk; exact hmk k r' b hk hb
          · have : k = acc.length := by
              have := (List.getElem?_eq_some_iff.1 hk).1
              simp at this; omega
            subst this
            simp at hk; subst hk
            rw [hl, hsk]; exact hmk1 b hb)
        (by
          intro f hf
          rcases List.mem_append.1 hf with hf | hf
          · exact FZ_snoc (hF f hf) (fun h' m hk hz => hlb1 h' m hk (hl ▸ hz) f hf)
          · exact hNf f hf)
        (by
          intro k r' hk hkl
          rcases hlast k r' hk with hk | ⟨rfl, rfl⟩
          · exact List.mem_append_left _ (hal k r' hk hkl)
          · rcases hldn with ⟨_, hq⟩ | ⟨hq, _⟩
            · exact absurd hkl hq
            · rw [hq, hl]; simp)
        (by
          intro q q' r1 r2 hlt h1 h2
          rcases hlast q' r2 h2 with h2 | ⟨rfl, rfl⟩
          · have hlt2 := (List.getElem?_eq_some_iff.1 h2).1
            rcases hlast q r1 h1 with h1 | ⟨rfl, rfl⟩
            · exact hmo q q' r1 r2 hlt h1 h2
            · omega
          · rcases hlast q r1 h1 with h1 | ⟨rfl, rfl⟩
            · rw [hr0]; exact hmn q r1 h1
            · omega)
        (by
          intro q r1 h1
          rcases hlast q r1 h1 with h1 | ⟨rfl, rfl⟩
          · have h2 := hmn q r1 h1
            have h3 : r.n0 ≤ r.n1 := by
              rw [hr1, hr0]; exact hnS1
            omega
          · omega)
        hN1
        (by
          intro j hj
          rw [List.mem_append] at hj
          rcases hj with hj | hj
          · obtain ⟨g1, g2, r', g3, g4⟩ := hld j hj; exact ⟨by simp; omega, g2, r', by rw [List.getElem?_append_left (List.getElem?_eq_some_iff.1 g3).1]; exact g3, g4⟩
          · rcases hldn with ⟨hq, _⟩ | ⟨hq, hq2, hq3⟩
            · rw [hq] at hj; simp at hj
            · rw [hq] at hj; simp at hj; subst hj; exact ⟨by simp, by rw [hsk]; exact hq2, r, by rw [← hl]; simp, hq3⟩)
        (by
          rw [List.pairwise_append]
          refine ⟨hpw, ?_, fun a ha b hb => ?_⟩
          · rcases hldn with ⟨hq, _⟩ | ⟨hq, _⟩ <;> rw [hq] <;> simp
          · rcases hldn with ⟨hq, _⟩ | ⟨hq, _⟩
            · rw [hq] at hb; simp at hb
            · rw [hq] at hb; simp at hb; subst hb; exact (hld a ha).1)
        hh1 (by rw [List.length_append, List.length_singleton]; exact hrun)
      rw [List.length_append, List.length_singleton] at p1
      refine ⟨r :: tl, ldn ++ l2, ?_, ?_, ?_, ?_, by simp [p5], by simpa using ppw, by simpa using pmk, fun f hf => by simpa using pF f (List.mem_append_left _ hf), by simpa using pal, by simpa using pmo, by simpa using pld, ?_⟩
      · rw [hplan, p1]; simp
      · intro j hj
        rw [List.mem_append] at hj
        rcases hj with hj | hj
        · rcases hldn with ⟨hq, _⟩ | ⟨hq, hq2, _⟩
          · rw [hq] at hj; simp at hj
          · rw [hq] at hj; simp at hj; subst hj; exact ⟨Nat.le_refl _, by rw [hsk]; exact hq2⟩
        · have h1 := (p2 j hj).1; simp only [List.length_append, List.length_singleton] at h1; exact ⟨by omega, (p2 j hj).2⟩
      · rw [← p3]; simp
      · rw [p4]; simp
      · intro k o' r' hk hr'
        cases k with
        | zero =>
          simp at hk hr'; subst hk; subst hr'
          intro hrk
          obtain ⟨q1, q2, q4, q3⟩ := hrd hrk
          subst q1
          refine ⟨lds, l2, ei, by simp, fun j hj => by have := (hld j hj).1; simpa using this, fun j hj => by have := (p2 j hj).1; simp only [List.length_append, List.length_singleton] at this; omega, ?_, fun t ht => (hlk t ht).1, q2, q4, q3.imp (fun q => ⟨by simpa using q.1, ?_⟩) (fun q => ⟨D, by simpa using q.1, by simpa using q.2, fun f hf => by simpa using pF f (List.mem_append_left _ hf)⟩)⟩
          · intro t ht
            have : (acc ++ r :: tl).take (pre.length + 0) = acc := by rw [Nat.add_zero, ← hl]; simp
            rw [this]
            exact (hlk t ht).2
          · have : (acc ++ r :: tl).take (pre.length + 0) = acc := by rw [Nat.add_zero, ← hl]; simp
            rw [this, ← hh]; exact q.2
        | succ k =>
          have := p6 k o' r' (by simpa using hk) (by simpa using hr')
          simp only [List.length_append, List.length_singleton, List.append_assoc, List.singleton_append] at this
          rw [show pre.length + (k + 1) = pre.length + 1 + k by omega]
          exact this
    have hwc : wanted ops re o = wanted ops ei o := wanted_congr hag
    have hldlt : ∀ j ∈ lds, j < (acc).length := fun j hj => by rw [hl]; exact (hld j hj).1
    have hOfs : ∀ r : R, hOf (acc ++ [r]) h0 lds = hOf acc h0 lds := fun r => hOf_append hldlt
    have hgs : ∀ r : R, (∀ b, r.k ≠ .mk b) → gh (masks ops []) lds (fun _ => true) (acc ++ [r]) 0 (hOf (acc ++ [r]) h0 lds) = S.h := by
      intro r hr
      rw [hOfs, gh_snoc, ← hh]
      unfold ghStep
      split
      · rename_i b hb; exact absurd hb (hr b)
      · rfl
    have hgc : (∀ (k : Nat), k < pre.length → (ops.map (fun o => sk X o.op)).getD k .pure = .alloc → inM (masks ops []) pre.length k = true) → gh (masks ops []) lds (inM (masks ops []) pre.length) acc 0 (hOf acc h0 lds) = S.h := by
      intro hq
      rw [hh]
      apply gh_congr
      intro k r b h1 h2
      have hkl : k < pre.length := by have := (List.getElem?_eq_some_iff.1 h1).1; omega
      simp only [Nat.zero_add]
      exact hq k hkl (hmk k r b h1 h2).1
    have hzlt : ZB ops z pre.length = true → pre.length < z := by
      intro hzb
      have hlo : pre.length < ops.length := (List.getElem?_eq_some_iff.1 ho).1
      have h1 := List.all_eq_true.1 hzb pre.length (by simpa using hlo)
      rw [Bool.or_eq_true] at h1
      rcases h1 with h1 | h1
      · rw [nblt, decide_eq_true_eq] at h1; exact h1
      · have := inM_lt hE _ _ h1; omega
    have hgB : pre.length < z → ∀ f ∈ D, (∀ j, f.src = some j → inM (masks ops []) pre.length j = true) → (gh (masks ops []) lds (inM (masks ops []) pre.length) acc 0 (hOf acc h0 lds)).get f.id = some f.x := by
      intro hzz f hf hu
      refine FZ_get (fun j hj => Nat.lt_trans (hld j hj).1 hzz) (fun k r b h1 h2 => (hmk k r b h1 h2).2) hmo hpw (fun j hj => (hld j hj).2.2) (fun j k => inM_lt hE j k) (hF f hf) (fun j hj => ⟨hu j hj, fun ⟨r, h1, h2⟩ => hal j r h1 h2⟩)
    unfold RunZ at h
    rcases h with ⟨hw, v, S1, e1, N, hop, he1, hb, hrdc, hlc, hNf, h⟩ | ⟨hw, e1, he1, h⟩
    case inr =>
      refine fin ⟨.tup [], S.n, .val⟩ [] S e1 [] he1 (fun b hb => by cases hb) (fun h' m hb => by cases hb) (fun f hf => by cases hf) rfl rfl (Nat.le_refl _) hN (.inl ⟨rfl, fun ⟨_, _, q⟩ => by cases q⟩) ?_ (fun hb => by cases hb) (by rw [List.append_nil]; exact h) ?_
      · rw [List.append_nil, hgs _ (fun b hb => by cases hb)]
      · conv => lhs; unfold plan
        rw [hre]; dsimp only; rw [hwc, hw]; simp only [cond_false, List.append_nil]
        rw [hOfs]
    case inl =>
      have hck := sk_ok hop
      have hclr : cls X re o.op = cls X ei o.op := cls_congr hoe
      have hN1 : N0 ≤ S1.n := Nat.le_trans hN (oper_n hop)
      have hloud : isLC (cls X ei o.op) = true →
        ∃ tl l2, plan X rec n ops (masks ops []) e (o :: os) pre.length acc lds (hOf acc h0 lds) S.n = some (acc ++ tl, lds ++ l2, S'.n) ∧
          (∀ j ∈ l2, pre.length ≤ j ∧ isLC ((ops.map (fun o => sk X o.op)).getD j .pure) = true) ∧ putAll n ops (acc ++ tl) e = some e' ∧
          S'.h = gh (masks ops []) (lds ++ l2) (fun _ => true) (acc ++ tl) 0 (hOf (acc ++ tl) h0 (lds ++ l2)) ∧ tl.length = (o :: os).length ∧ (lds ++ l2).Pairwise (· < ·) ∧ (∀ (k : Nat) (r : R) b, (acc ++ tl)[k]? = some r → r.k = .mk b → (ops.map (fun o => sk X o.op)).getD k .pure = .alloc ∧ N0 ≤ r.n0 ∧ r.n0 < 1000000000) ∧ (∀ f ∈ D, FZ (masks ops []) z N0 h0 (acc ++ tl) f) ∧ (∀ (k : Nat) (r : R), (acc ++ tl)[k]? = some r → r.isL → k ∈ lds ++ l2) ∧ (∀ (q q' : Nat) (r r' : R), q < q' → (acc ++ tl)[q]? = some r → (acc ++ tl)[q']? = some r' → r.n1 ≤ r'.n0) ∧ (∀ j ∈ lds ++ l2, ∃ r, (acc ++ tl)[j]? = some r ∧ r.isL) ∧
          ∀ (k : Nat) (o' : Oper) (r : R), (o :: os)[k]? = some o' → tl[k]? = some r → RFZ X n ops z N0 e h0 (acc ++ tl) (lds ++ l2) (pre.length + k) o' r := by
        intro hlc0
        have hs : cls X ei o.op = sk X o.op := by
          rcases hck with hq | hq
          · rw [hq] at hlc0; cases hlc0
          · exact hq
        have hlc1 := hlc hlc0
        rw [hs] at hlc0
        have hbef : bef (masks ops []) (ops.map (fun o => sk X o.op)) pre.length isAll = true := hk2 hlc0
        have hg := hgc (fun k hk hq => bef_at hbef hk (by rw [hq]; rfl))
        have hall : lds.all (fun j => inM (masks ops []) pre.length j) = true := by
          apply List.all_eq_true.2
          intro j hj
          obtain ⟨q1, q2, -⟩ := hld j hj
          exact bef_at hbef q1 (by cases hq : (ops.map (fun o => sk X o.op)).getD j .pure <;> rw [hq] at q2 <;> first | rfl | cases q2)
        have hop' : oper X rec re { h := gh (masks ops []) lds (inM (masks ops []) pre.length) acc 0 (hOf acc h0 lds), n := S.n } o.op = some (v, S1) := by
          rw [hg, oper_congr hoe]; exact hop
        refine fin ⟨v, S.n, .ld S1.h S1.n⟩ [pre.length] S1 e1 N he1 (fun b hb => by cases hb) (fun h' m hb => by cases hb; exact hlc1) (fun f hf => ?_) rfl rfl (oper_n hop) hN1 (.inr ⟨rfl, hlc0, _, _, rfl⟩) ?_ (fun hb => by cases hb) h ?_
        · obtain ⟨n1, n2, n3, _⟩ := hNf f hf
          refine .inr ⟨pre.length, ⟨v, S.n, .ld S1.h S1.n⟩, n1, by rw [← hl]; simp, .inr ⟨_, _, rfl, n3, n2, ?_⟩, ?_⟩
          · intro k r b hk hb hlt
            rw [List.getElem?_append_left (by omega)] at hk
            exact bef_at hbef hlt (by rw [(hmk k r b hk hb).1]; rfl)
          · intro k r h' m hk _ hlt _
            have := (List.getElem?_eq_some_iff.1 hk).1
            simp at this; omega
        · rw [gh_snoc]
          have : hOf (acc ++ [(⟨v, S.n, .ld S1.h S1.n⟩ : R)]) h0 (lds ++ [pre.length]) = S1.h := hOf_snoc (r := ⟨v, S.n, .ld S1.h S1.n⟩) (m := S1.n) (by rw [← hl]; simp) rfl
          rw [this, gh_had (fun q r b h1 h2 => by
            have hkl : q < pre.length := by have := (List.getElem?_eq_some_iff.1 h1).1; omega
            rw [Nat.zero_add]
            exact bef_at hbef hkl (by rw [(hmk q r b h1 h2).1]; rfl))]
          rfl
        · conv => lhs; unfold plan
          rw [hre]; dsimp only; rw [hwc, hw]; simp only [cond_true]
          have : hOf (acc ++ [(⟨v, S.n, .ld S1.h S1.n⟩ : R)]) h0 (lds ++ [pre.length]) = S1.h := hOf_snoc (r := ⟨v, S.n, .ld S1.h S1.n⟩) (m := S1.n) (by rw [← hl]; simp) rfl
          rw [hclr, hs]
          cases hskc : sk X o.op with
          | loud => dsimp only; rw [hall]; simp only [cond_true]; rw [hop']; dsimp only; rw [this]
          | call => dsimp only; rw [hall]; simp only [cond_true]; rw [hop']; dsimp only; rw [this]
          | _ => rw [hskc] at hlc0; cases hlc0
      cases hc : cls X ei o.op with
      | loud => exact hloud (by rw [hc]; rfl)
      | call => exact hloud (by rw [hc]; rfl)
      | pure =>
        unfold oper at hop
        rw [hc] at hop
        dsimp only at hop
        split at hop
        · cases hop
        · rename_i v' hv
          cases hop
          have hN0 : N = [] := by
            cases N with
            | nil => rfl
            | cons f N => exfalso; have := (hNf f (List.mem_cons_self ..)).2.2.2; rw [hc] at this; exact absurd this (by rintro (q | ⟨q, _⟩) <;> cases q)
          subst hN0
          refine fin ⟨v, S.n, .val⟩ [] S e1 [] he1 (fun b hb => by cases hb) (fun h' m hb => by cases hb) (fun f hf => by cases hf) rfl rfl (Nat.le_refl _) hN (.inl ⟨rfl, fun ⟨_, _, q⟩ => by cases q⟩) ?_ (fun hb => by cases hb) h ?_
          · rw [List.append_nil, hgs _ (fun b hb => by cases hb)]
          · conv => lhs; unfold plan
            rw [hre]; dsimp only; rw [hwc, hw]; simp only [cond_true, List.append_nil]
            rw [hclr, hc]; dsimp only; rw [pureOp_congr hoe, hv]; dsimp only; rw [hOfs]
      | read =>
        have hs : sk X o.op = .read := by
          rcases hck with hq | hq
          · rw [hq] at hc; cases hc
          · rw [← hq]; exact hc
        have hrdc' := hrdc hc
        unfold oper at hop
        rw [hc] at hop
        dsimp only at hop
        split at hop
        · cases hop
        · rename_i v' hv
          cases hop
          rw [hc] at hb
          have hrd2 : readOp X ei (gh (masks ops []) lds (inM (masks ops []) pre.length) acc 0 (hOf acc h0 lds)) o.op = some v := by
            rcases hrdc' with hst | hfp
            · have hst' := hst
              unfold rdStat at hst'
              rw [Bool.and_eq_true] at hst'
              rw [hgc (fun k hk hq => bef_at hst'.1 hk (by rw [hq]; rfl))]; exact hv
            · exact hfp.2 _ (hgB (hzlt hfp.1))
          have hN0 : N = [] := by
            cases N with
            | nil => rfl
            | cons f N => exfalso; have := (hNf f (List.mem_cons_self ..)).2.2.2; rw [hc] at this; exact absurd this (by rintro (q | ⟨q, _⟩) <;> cases q)
          subst hN0
          refine fin ⟨v, S.n, .rd⟩ [] S e1 [] he1 (fun b hb => by cases hb) (fun h' m hb => by cases hb) (fun f hf => by cases hf) rfl rfl (Nat.le_refl _) hN (.inl ⟨rfl, fun ⟨_, _, q⟩ => by cases q⟩) ?_ (fun _ => ⟨rfl, hs, hb, hrdc'.imp (fun q => ⟨q, hv⟩) (fun q => q)⟩) h ?_
          · rw [List.append_nil, hgs _ (fun b hb => by cases hb)]
          · conv => lhs; unfold plan
            rw [hre]; dsimp only; rw [hwc, hw]; simp only [cond_true, List.append_nil]
            rw [hclr, hc]; dsimp only; rw [readOp_congr hoe, hrd2]; dsimp only; rw [hOfs]
      | alloc =>
        have hs : sk X o.op = .alloc := by
          rcases hck with hq | hq
          · rw [hq] at hc; cases hc
          · rw [← hq]; exact hc
        unfold oper at hop
        rw [hc] at hop
        dsimp only at hop
        cases hlt : Nat.blt S.n 1000000000 with
        | false => rw [hlt] at hop; cases hop
        | true =>
          rw [hlt] at hop
          simp only [cond_true] at hop
          have hlt2 : S.n < 1000000000 := by rw [nblt, decide_eq_true_eq] at hlt; exact hlt
          split at hop
          · cases hop
          · rename_i b' v' hv
            cases hop
            refine fin ⟨v, S.n, .mk b'⟩ [] (S.new b') e1 N he1 (fun _ _ => ⟨hs, hN, hlt2⟩) (fun h' m hb => by cases hb) (fun f hf => ?_) rfl rfl (Nat.le_succ _) hN1 (.inl ⟨rfl, fun ⟨_, _, q⟩ => by cases q⟩) ?_ (fun hb => by cases hb) h ?_
            · obtain ⟨n1, _, n3, n4⟩ := hNf f hf
              rw [hc] at n4
              rcases n4 with q | ⟨_, q⟩
              · cases q
              have hx : f.x = b' := by
                have h5 : (S.new b').h.get S.n = some b' := by unfold St.new; dsimp only; rw [Tr.get_set 40 _ _ _ _ (by omega), if_pos rfl]
                rw [q, h5] at n3; cases n3; rfl
              refine .inr ⟨pre.length, ⟨v, S.n, .mk b'⟩, n1, by rw [← hl]; simp, .inl ⟨by rw [hx], q.symm⟩, ?_⟩
              intro k r h' m hk _ hlt _
              have := (List.getElem?_eq_some_iff.1 hk).1
              simp at this; omega
            · rw [List.append_nil, hOfs, gh_snoc, ← hh]
              unfold ghStep
              dsimp only
              have : lds.all (fun j => !inM (masks ops []) j (0 + acc.length)) = true := by
                apply List.all_eq_true.2
                intro j hj
                have h1 := (hld j hj).1
                cases hq : inM (masks ops []) j (0 + acc.length) with
                | false => rfl
                | true => have := inM_lt hE _ _ hq; omega
              rw [this]
              rfl
            · conv => lhs; unfold plan
              rw [hre]; dsimp only; rw [hwc, hw]; simp only [cond_true, List.append_nil]
              rw [hclr, hc]; dsimp only; rw [hlt]; simp only [cond_true]; rw [allocOp_congr hoe, hv]; dsimp only; rw [hOfs]
              rfl
/-- WHERE THE EDGES SAY ENOUGH but for reads that loud operations leave alone, a region that draws its order gives what the text's order gives. -/
theorem drawn_Z {z : Nat} {D : List Fct} {S : St} {e' : Env} {S' : St} (hD0 : ∀ f ∈ D, f.src = none ∧ f.id < S.n ∧ S.h.get f.id = some f.x) (hs : seqB X n ops = true) (h : RunZ X rec n ops z D ops 0 e S e' S') : drawn X rec n ops e S = .ok .nor e' S' := by
  unfold seqB at hs
  simp only [Bool.and_eq_true, nblt, decide_eq_true_eq] at hs
  obtain ⟨⟨⟨⟨hE, hD⟩, hN⟩, hn⟩, hK⟩ := hs
  have hle := RunZ_n h
  obtain ⟨tl, l2, p1, p2, p3, p4, p5, ppw, pmk, -, pal, pmo, pld, p6⟩ := plan_seqZ (h0 := S.h) (e := e) (N0 := S.n) hn hE hD hK D ops [] [] [] S e e' S' (by simp) rfl (by simp [putAll]) (fun k r b hk => by simp at hk) (fun f hf => .inl ⟨(hD0 f hf).1, (hD0 f hf).2.1, (hD0 f hf).2.2, fun k r h' m hk _ => by simp at hk⟩) (fun k r hk => by simp at hk) (fun q q' r r' _ hk => by simp at hk) (fun k r hk => by simp at hk) (Nat.le_refl _) (fun j hj => by simp at hj) List.Pairwise.nil (by simp [gh, hOf]) h
  simp only [List.nil_append, List.length_nil, hOf, Nat.zero_add] at p1 p2 p3 p4 p6 ppw pmk pal pmo pld
  unfold drawn
  dsimp only
  rw [hE, hD, hN]
  simp only [Bool.and_self, cond_true]
  rw [p1]
  dsimp only
  have hrd : rdsOk X n ops (masks ops []) tl e S.h l2 ops 0 = true := by
    apply rdsOk_of
    intro i o ho
    have hi : i < ops.length := (List.getElem?_eq_some_iff.1 ho).1
    have hr : tl[i]? = some (tl[i]'(by omega)) := List.getElem?_eq_getElem _
    rw [Nat.zero_add]
    refine ⟨_, hr, fun hk => ?_⟩
    obtain ⟨l1, l3, ei, q1, q2, q3, q4, q5, q6, q8, q9⟩ := p6 i o _ ho hr hk
    have hlt : ∀ j, inM (masks ops []) i j = true → j < (tl.take i).length := fun j hj => by
      have := inM_lt hE _ _ hj
      simp; omega
    have htl : tl = tl.take i ++ tl.drop i := (List.take_append_drop i tl).symm
    obtain ⟨re, r1, r2⟩ := renv_good (ms := masks ops []) (ops := ops) (acc := tl) (e := e) (es := ei) (n := n) (i := i) hn (ts := looks ops o) (fun t ht => ⟨q5 t ht, by
      rw [htl, lookT_append hlt]; exact q4 t ht⟩)
    refine ⟨re, r1, rdOk_of fun a b hab => ?_⟩
    have hoe : OE re ei o.op := OE_of r2
    have hski : (ops.map (fun o => sk X o.op)).getD i .pure = sk X o.op := by
      rw [List.getD_eq_getElem?_getD, List.getElem?_map, ho]; rfl
    rw [List.nil_append]
    unfold rdOk.rd1
    cases hc : (a.all (fun j => !inM (masks ops []) j i) && l2.all (fun j => !inM (masks ops []) i j || a.contains j)) with
    | false => rfl
    | true =>
      simp only [cond_true]
      simp only [Bool.and_eq_true] at hc
      obtain ⟨c1, c2⟩ := hc
      rcases q9 with ⟨hst, q7⟩ | ⟨D', hzb, hfp, hfi⟩
      case inr =>
        have hsub : ∀ j ∈ a, j ∈ l2 := fun j hj => by rw [hab]; exact List.mem_append_left _ hj
        have hg : ∀ f ∈ D', (∀ j, f.src = some j → inM (masks ops []) i j = true) → (gh (masks ops []) a (inM (masks ops []) i) tl 0 (hOf tl S.h a)).get f.id = some f.x := by
          intro f hf hu
          refine FZ_get (fun j hj => ?_) (fun k r b h1 h2 => (pmk k r b h1 h2).2) pmo ?_ (fun j hj => pld j (hsub j hj)) (fun j k => inM_lt hE j k) (hfi f hf) (fun j hj => ⟨hu j hj, fun ⟨r, h1, h2⟩ => ?_⟩)
          · have h1 := List.all_eq_true.1 c1 j hj
            obtain ⟨r, h2, _⟩ := pld j (hsub j hj)
            have h3 := (List.getElem?_eq_some_iff.1 h2).1
            have h4 := List.all_eq_true.1 hzb j (by simp only [List.mem_range]; omega)
            rw [Bool.or_eq_true] at h4
            rcases h4 with h4 | h4
            · rw [nblt, decide_eq_true_eq] at h4; exact h4
            · rw [h4] at h1; cases h1
          · rw [hab, List.pairwise_append] at ppw; exact ppw.1
          · have h3 := List.all_eq_true.1 c2 j (pal j r h1 h2)
            rw [hu j hj] at h3
            simpa using h3
        rw [readOp_congr hoe, hfp _ hg]
        exact q8
      unfold rdStat at hst
      rw [Bool.and_eq_true] at hst
      obtain ⟨hk2, hk3⟩ := hst
      have hal : a = l1 := by
        have hpre : a ++ b = l1 ++ l3 := by rw [← hab, q1]
        have hin1 : ∀ j ∈ l1, j ∈ a := by
          intro j hj
          have hj2 : j ∈ l2 := by rw [q1]; exact List.mem_append_left _ hj
          have h1 := List.all_eq_true.1 c2 j hj2
          have h2 : inM (masks ops []) i j = true := by
            apply bef_at hk2 (q2 j hj)
            have := (p2 j hj2).2
            cases hq : (ops.map (fun o => sk X o.op)).getD j .pure <;> rw [hq] at this <;> first | rfl | cases this
          rw [h2] at h1
          simpa using h1
        have hin3 : ∀ j ∈ l3, j ∉ a := by
          intro j hj hja
          have hj2 : j ∈ l2 := by rw [q1]; exact List.mem_append_right _ hj
          have h1 := List.all_eq_true.1 c1 j hja
          have hjl : j < ops.length := by
            have := (p2 j hj2).2
            rw [List.getD_eq_getElem?_getD] at this
            by_cases hlt : j < ops.length
            · exact hlt
            · rw [List.getElem?_eq_none (by simpa using hlt)] at this; cases this
          have hl := (p2 j hj2).2
          have h3 := List.all_eq_true.1 hk3 j (by simpa using hjl)
          rw [hl, nble, decide_eq_false (by have := q3 j hj; omega)] at h3
          have : inM (masks ops []) j i = true := by simpa using h3
          rw [this] at h1
          cases h1
        rcases List.append_eq_append_iff.1 hpre with ⟨m, hm1, hm2⟩ | ⟨m, hm1, hm2⟩
        · -- l1 = a ++ m
          cases m with
          | nil => simpa using hm1.symm
          | cons y m =>
            exfalso
            have hy : y ∈ a := hin1 y (by rw [hm1]; simp)
            rw [q1, hm1, List.append_assoc, List.pairwise_append] at ppw
            have := ppw.2.2 y hy y (by simp)
            omega
        · cases m with
          | nil => simpa using hm1
          | cons y m =>
            exfalso
            exact hin3 y (by rw [hm2]; simp) (by rw [hm1]; simp)
      subst hal
      have hh : gh (masks ops []) a (inM (masks ops []) i) tl 0 (hOf tl S.h a) = gh (masks ops []) a (fun _ => true) (tl.take i) 0 (hOf (tl.take i) S.h a) := by
        conv => lhs; rw [htl]
        rw [gh_append (fun q hq => by
          cases hm : inM (masks ops []) i q with
          | false => rfl
          | true => have := hlt q hm; omega)]
        rw [hOf_append (fun j hj => by have := q2 j hj; simp; omega)]
        apply gh_congr
        intro k r b h1 h2
        rw [Nat.zero_add]
        have hki : k < i := by have := (List.getElem?_eq_some_iff.1 h1).1; simp at this; omega
        apply bef_at hk2 hki
        have : (ops.map (fun o => sk X o.op)).getD k .pure = .alloc := by
          have hkr : tl[k]? = some r := by rw [htl, List.getElem?_append_left (List.getElem?_eq_some_iff.1 h1).1]; exact h1
          exact (pmk k r b hkr h2).1
        rw [this]; rfl
      rw [hh, readOp_congr hoe, q7]
      exact q8
  rw [hrd]
  simp only [cond_true]
  rw [p3]
  dsimp only
  rw [nble, decide_eq_true hle]
  simp only [cond_true]
  rw [← p4]
end
end GX
/- GX: reasoning about runs: W_drawnF where the last operations may write to the told blocks. -/


namespace GX
noncomputable section
open Go
def WZ (X : X) (n : Nat) (all : List Oper) (z : Nat) (D : List Fct) (os : List Oper) (i : Nat) (ks : List Kt) (Q : Ex → Env → St → Prop) (l : L) (S : St) : Prop :=
  ∀ e, Ag l e → ∃ f e' S', RunZ X (exec X f) n all z D os i e S e' S' ∧ QK X n ks Q .nor e' S'
section
variable {X : X} {n : Nat} {ks : List Kt} {Q : Ex → Env → St → Prop} {l : L} {S : St} {z : Nat} {D : List Fct} {all os : List Oper} {o : Oper} {i : Nat}
theorem W_drawnZ (z : Nat) (D : List Fct) {id : Nat} {ops : Array Oper} (hD : ∀ f ∈ D, f.src = none ∧ f.id < S.n ∧ S.h.get f.id = some f.x) (hs : seqB X n ops.toList = true) (h : WZ X n ops.toList z D ops.toList 0 ks Q l S) : W X n (.region id ops true) ks Q l S := by
  unfold W
  intro e he
  obtain ⟨f, e1, S1, h1, h2⟩ := h e he
  exact ⟨f + 1, .nor, e1, S1, by show step X (exec X f) n (.region id ops true) e S = _; unfold step; exact drawn_Z hD hs h1, h2⟩
theorem WZ_nil (h : V X n .nor ks Q l S) : WZ X n all z D [] i ks Q l S := by
  unfold V at h
  exact fun e he => ⟨0, e, S, ⟨rfl, rfl⟩, h e he⟩
theorem WZ_pa {d : Nat} (hg : o.guard = none) (hd : o.dst = some d) (hn : Nat.blt d n = true) (hn' : Nat.blt n 1000001 = true) (hsk : isPA (sk X o.op) = true)
    (h : Ev X l S o.op fun v S' => WZ X n all z D os (i + 1) ks Q ((d, v) :: l) S') : WZ X n all z D (o :: os) i ks Q l S := by
  intro e he
  unfold Ev at h
  obtain ⟨f, v, S1, h1, h2, h3⟩ := h e he
  rw [nblt, decide_eq_true_eq] at hn hn'
  obtain ⟨g, e2, S2, h4, h5⟩ := h3 _ (he.put hn' hn)
  have hck := sk_ok h1
  refine ⟨max f g, e2, S2, .inl ⟨wanted_none hg, v, S1, e.put d v, [], oper_le (exec_le (Nat.le_max_left f g)) h1, ?_, h2, fun hc => ?_, fun hc _ => ?_, fun f hf => (by cases hf), by rw [List.append_nil]; exact RunZ_le (exec_le (Nat.le_max_right f g)) h4⟩, h5⟩
  · rw [hd]; unfold setDst; dsimp only; rw [nblt, decide_eq_true hn]; rfl
  · rcases hck with hq | hq
    · rw [hq] at hc; cases hc
    · rw [hq] at hc; rw [hc] at hsk; cases hsk
  · rcases hck with hq | hq
    · rw [hq] at hc; cases hc
    · rw [hq] at hc
      exfalso
      cases hs : sk X o.op <;> rw [hs] at hc hsk <;> first | (cases hc; done) | (cases hsk; done)
/-- an operation that makes a block, which is told -/
theorem WZ_al {d : Nat} (hg : o.guard = none) (hd : o.dst = some d) (hn : Nat.blt d n = true) (hn' : Nat.blt n 1000001 = true) (hcl : ∀ e, Ag l e → cls X e o.op = .alloc)
    (h : Ev X l S o.op fun v S' => ∃ x, S'.h.get S.n = some x ∧ S.n < S'.n ∧ WZ X n all z (D ++ [⟨S.n, x, some i⟩]) os (i + 1) ks Q ((d, v) :: l) S') : WZ X n all z D (o :: os) i ks Q l S := by
  intro e he
  unfold Ev at h
  obtain ⟨f, v, S1, h1, h2, x, hx, hlt, h3⟩ := h e he
  rw [nblt, decide_eq_true_eq] at hn hn'
  obtain ⟨g, e2, S2, h4, h5⟩ := h3 _ (he.put hn' hn)
  have hc0 := hcl e he
  refine ⟨max f g, e2, S2, .inl ⟨wanted_none hg, v, S1, e.put d v, [⟨S.n, x, some i⟩], oper_le (exec_le (Nat.le_max_left f g)) h1, ?_, h2, fun hc => (by rw [hc0] at hc; cases hc), fun hc _ => (by rw [hc0] at hc; cases hc), fun f hf => ?_, RunZ_le (exec_le (Nat.le_max_right f g)) h4⟩, h5⟩
  · rw [hd]; unfold setDst; dsimp only; rw [nblt, decide_eq_true hn]; rfl
  · rw [List.mem_singleton] at hf; subst hf
    exact ⟨rfl, hlt, hx, .inr ⟨hc0, rfl⟩⟩
/-- a read that is ordered with all loud operations -/
theorem WZ_rs {d : Nat} (hg : o.guard = none) (hd : o.dst = some d) (hn : Nat.blt d n = true) (hn' : Nat.blt n 1000001 = true) (hsk : isLC (sk X o.op) = false) (hst : rdStat (masks all []) (all.map (fun o => sk X o.op)) i = true)
    (h : Ev X l S o.op fun v S' => WZ X n all z D os (i + 1) ks Q ((d, v) :: l) S') : WZ X n all z D (o :: os) i ks Q l S := by
  intro e he
  unfold Ev at h
  obtain ⟨f, v, S1, h1, h2, h3⟩ := h e he
  rw [nblt, decide_eq_true_eq] at hn hn'
  obtain ⟨g, e2, S2, h4, h5⟩ := h3 _ (he.put hn' hn)
  have hck := sk_ok h1
  refine ⟨max f g, e2, S2, .inl ⟨wanted_none hg, v, S1, e.put d v, [], oper_le (exec_le (Nat.le_max_left f g)) h1, ?_, h2, fun _ => .inl hst, fun hc _ => ?_, fun f hf => (by cases hf), by rw [List.append_nil]; exact RunZ_le (exec_le (Nat.le_max_right f g)) h4⟩, h5⟩
  · rw [hd]; unfold setDst; dsimp only; rw [nblt, decide_eq_true hn]; rfl
  · rcases hck with hq | hq
    · rw [hq] at hc; cases hc
    · rw [hq, hsk] at hc; cases hc
/-- a read that looks at told blocks alone -/
theorem WZ_rf {d : Nat} {v : AV} (hzb : ZB all z i = true) (hg : o.guard = none) (hd : o.dst = some d) (hn : Nat.blt d n = true) (hn' : Nat.blt n 1000001 = true) (hS : ∀ f ∈ D, S.h.get f.id = some f.x)
    (hfp : ∀ e, Ag l e → cls X e o.op = .read ∧ FPD X D (masks all []) i e o.op v) (hvv : veq v v = true) (h : WZ X n all z D os (i + 1) ks Q ((d, v) :: l) S) : WZ X n all z D (o :: os) i ks Q l S := by
  intro e he
  obtain ⟨hc, hf⟩ := hfp e he
  rw [nblt, decide_eq_true_eq] at hn hn'
  obtain ⟨g, e2, S2, h4, h5⟩ := h _ (he.put hn' hn)
  refine ⟨g, e2, S2, .inl ⟨wanted_none hg, v, S, e.put d v, [], ?_, ?_, by rw [hc]; exact hvv, fun _ => .inr ⟨hzb, hf⟩, fun hl _ => (by rw [hc] at hl; cases hl), fun f hf => (by cases hf), by rw [List.append_nil]; exact h4⟩, h5⟩
  · unfold oper; rw [hc]; dsimp only; rw [hf S.h (fun f h1 _ => hS f h1)]
  · rw [hd]; unfold setDst; dsimp only; rw [nblt, decide_eq_true hn]; rfl
/-- a loud operation, or a call, that leaves the told blocks alone, and may tell more -/
theorem WZ_ld {d : Nat} (hg : o.guard = none) (hd : o.dst = some d) (hn : Nat.blt d n = true) (hn' : Nat.blt n 1000001 = true) (hcl : ∀ e, Ag l e → isLC (cls X e o.op) = true)
    (h : Ev X l S o.op fun v S' => (Nat.blt i z = true → ∀ f ∈ D, S'.h.get f.id = some f.x) ∧ ∃ N : List Fct, (∀ f ∈ N, f.src = some i ∧ f.id < S'.n ∧ S'.h.get f.id = some f.x) ∧ WZ X n all z (D ++ N) os (i + 1) ks Q ((d, v) :: l) S') : WZ X n all z D (o :: os) i ks Q l S := by
  intro e he
  unfold Ev at h
  obtain ⟨f, v, S1, h1, h2, hB, N, hN, h3⟩ := h e he
  rw [nblt, decide_eq_true_eq] at hn hn'
  obtain ⟨g, e2, S2, h4, h5⟩ := h3 _ (he.put hn' hn)
  have hc0 := hcl e he
  refine ⟨max f g, e2, S2, .inl ⟨wanted_none hg, v, S1, e.put d v, N, oper_le (exec_le (Nat.le_max_left f g)) h1, ?_, h2, fun hc => ?_, fun _ hz => hB (by rw [nblt]; exact decide_eq_true hz), fun f hf => ⟨(hN f hf).1, (hN f hf).2.1, (hN f hf).2.2, .inl hc0⟩, RunZ_le (exec_le (Nat.le_max_right f g)) h4⟩, h5⟩
  · rw [hd]; unfold setDst; dsimp only; rw [nblt, decide_eq_true hn]; rfl
  · rw [hc] at hc0; cases hc0
theorem WZ_ld0 (hg : o.guard = none) (hd : o.dst = none) (hcl : ∀ e, Ag l e → isLC (cls X e o.op) = true)
    (h : Ev X l S o.op fun _ S' => (Nat.blt i z = true → ∀ f ∈ D, S'.h.get f.id = some f.x) ∧ ∃ N : List Fct, (∀ f ∈ N, f.src = some i ∧ f.id < S'.n ∧ S'.h.get f.id = some f.x) ∧ WZ X n all z (D ++ N) os (i + 1) ks Q l S') : WZ X n all z D (o :: os) i ks Q l S := by
  intro e he
  unfold Ev at h
  obtain ⟨f, v, S1, h1, h2, hB, N, hN, h3⟩ := h e he
  obtain ⟨g, e2, S2, h4, h5⟩ := h3 _ he
  have hc0 := hcl e he
  refine ⟨max f g, e2, S2, .inl ⟨wanted_none hg, v, S1, e, N, oper_le (exec_le (Nat.le_max_left f g)) h1, ?_, h2, fun hc => ?_, fun _ hz => hB (by rw [nblt]; exact decide_eq_true hz), fun f hf => ⟨(hN f hf).1, (hN f hf).2.1, (hN f hf).2.2, .inl hc0⟩, RunZ_le (exec_le (Nat.le_max_right f g)) h4⟩, h5⟩
  · rw [hd]; rfl
  · rw [hc] at hc0; cases hc0
theorem WZ_guard {j d0 : Nat} {want : Bool} {p : Oper} {c : Bool} {d : Nat} (hg : o.guard = some (j, want)) (hp : all[j]? = some p) (hd0 : p.dst = some d0) (hl : lk l d0 = some (.bool c)) (hd : o.dst = some d) (hn : Nat.blt d n = true) (hn' : Nat.blt n 1000001 = true)
    (h1 : c = want → WZ X n all z D ({ o with guard := none } :: os) i ks Q ((d0, .bool want) :: l) S) (h2 : c = (!want) → WZ X n all z D os (i + 1) ks Q ((d, .tup []) :: (d0, .bool (!want)) :: l) S) : WZ X n all z D (o :: os) i ks Q l S := by
  intro e he
  rw [nblt, decide_eq_true_eq] at hn hn'
  have hat : e.at d0 = .bool c := he d0 _ hl
  have hag : ∀ b, c = b → Ag ((d0, .bool b) :: l) e := by
    intro b hb t v ht
    unfold lk at ht
    rw [nbeq, cond_dec] at ht
    by_cases hh : d0 = t
    · subst hh; rw [if_pos rfl] at ht; cases ht; rw [hat, hb]
    · rw [if_neg hh] at ht; exact he t v ht
  have hw : wanted all e o = (c == want) := by unfold wanted; rw [hg]; dsimp only; rw [hp]; dsimp only; rw [hd0]; dsimp only; rw [hat]
  by_cases hc : c = want
  · obtain ⟨f, e2, S2, h3, h4⟩ := h1 hc e (hag want hc)
    refine ⟨f, e2, S2, ?_, h4⟩
    have hw' : wanted all e o = true := by rw [hw, hc]; cases want <;> rfl
    unfold RunZ at h3 ⊢
    rcases h3 with ⟨_, h3⟩ | ⟨h3, _⟩
    · exact .inl ⟨hw', h3⟩
    · rw [wanted_none rfl] at h3; cases h3
  · have hc' : c = (!want) := by cases c <;> cases want <;> simp_all
    obtain ⟨f, e2, S2, h3, h4⟩ := h2 hc' _ ((hag _ hc').put hn' hn)
    refine ⟨f, e2, S2, ?_, h4⟩
    have hw' : wanted all e o = false := by rw [hw, hc']; cases want <;> rfl
    refine .inr ⟨hw', e.put d (.tup []), ?_, h3⟩
    rw [hd]; unfold setDst; dsimp only; rw [nblt, decide_eq_true hn]; rfl
theorem WZ_guard_dt {j d0 : Nat} {q : Oper} {p : Prop} [Decidable p] {d : Nat} (hg : o.guard = some (j, true)) (hp : all[j]? = some q) (hd0 : q.dst = some d0) (hl : lk l d0 = some (.bool (decide p))) (hd : o.dst = some d) (hn : Nat.blt d n = true) (hn' : Nat.blt n 1000001 = true)
    (h1 : p → WZ X n all z D ({ o with guard := none } :: os) i ks Q ((d0, .bool true) :: l) S) (h2 : ¬ p → WZ X n all z D os (i + 1) ks Q ((d, .tup []) :: (d0, .bool false) :: l) S) : WZ X n all z D (o :: os) i ks Q l S :=
  WZ_guard hg hp hd0 hl hd hn hn' (fun h => h1 (of_decide_eq_true h)) (fun h => h2 (of_decide_eq_false h))
theorem WZ_guard_df {j d0 : Nat} {q : Oper} {p : Prop} [Decidable p] {d : Nat} (hg : o.guard = some (j, false)) (hp : all[j]? = some q) (hd0 : q.dst = some d0) (hl : lk l d0 = some (.bool (decide p))) (hd : o.dst = some d) (hn : Nat.blt d n = true) (hn' : Nat.blt n 1000001 = true)
    (h1 : ¬ p → WZ X n all z D ({ o with guard := none } :: os) i ks Q ((d0, .bool false) :: l) S) (h2 : p → WZ X n all z D os (i + 1) ks Q ((d, .tup []) :: (d0, .bool true) :: l) S) : WZ X n all z D (o :: os) i ks Q l S :=
  WZ_guard hg hp hd0 hl hd hn hn' (fun h => h1 (of_decide_eq_false h)) (fun h => h2 (of_decide_eq_true h))
theorem WZ_guard_t {j d0 : Nat} {want : Bool} {p : Oper} {d : Nat} (hg : o.guard = some (j, want)) (hp : all[j]? = some p) (hd0 : p.dst = some d0) (hl : lk l d0 = some (.bool want)) (hd : o.dst = some d) (hn : Nat.blt d n = true) (hn' : Nat.blt n 1000001 = true)
    (h1 : WZ X n all z D ({ o with guard := none } :: os) i ks Q l S) : WZ X n all z D (o :: os) i ks Q l S := by
  refine WZ_guard hg hp hd0 hl hd hn hn' (fun _ => ?_) (fun h => ?_)
  · intro e he
    exact h1 e (fun t v ht => he t v (by
      unfold lk; rw [nbeq, cond_dec]
      by_cases hh : d0 = t
      · subst hh; rw [hl] at ht; cases ht; rw [if_pos rfl]
      · rw [if_neg hh]; exact ht))
  · cases want <;> cases h
theorem WZ_skip {d : Nat} (hd : o.dst = some d) (hn : Nat.blt d n = true) (hn' : Nat.blt n 1000001 = true) (hw : ∀ e, Ag l e → wanted all e o = false) (h2 : WZ X n all z D os (i + 1) ks Q ((d, .tup []) :: l) S) : WZ X n all z D (o :: os) i ks Q l S := by
  intro e he
  rw [nblt, decide_eq_true_eq] at hn hn'
  obtain ⟨f, e2, S2, h3, h4⟩ := h2 _ (he.put hn' hn)
  refine ⟨f, e2, S2, .inr ⟨hw e he, e.put d (.tup []), ?_, h3⟩, h4⟩
  rw [hd]; unfold setDst; dsimp only; rw [nblt, decide_eq_true hn]; rfl
theorem WZ_guard_f {j d0 : Nat} {want c : Bool} {p : Oper} {d : Nat} (hg : o.guard = some (j, want)) (hp : all[j]? = some p) (hd0 : p.dst = some d0) (hl : lk l d0 = some (.bool c)) (hc : (c == want) = false) (hd : o.dst = some d) (hn : Nat.blt d n = true) (hn' : Nat.blt n 1000001 = true)
    (h2 : WZ X n all z D os (i + 1) ks Q ((d, .tup []) :: l) S) : WZ X n all z D (o :: os) i ks Q l S :=
  WZ_skip hd hn hn' (fun e he => by unfold wanted; rw [hg]; dsimp only; rw [hp]; dsimp only; rw [hd0]; dsimp only; rw [he d0 _ hl]; exact hc) h2
theorem WZ_guard_x {j d0 : Nat} {want : Bool} {p : Oper} {d : Nat} (hg : o.guard = some (j, want)) (hp : all[j]? = some p) (hd0 : p.dst = some d0) (hl : lk l d0 = some (.tup [])) (hd : o.dst = some d) (hn : Nat.blt d n = true) (hn' : Nat.blt n 1000001 = true)
    (h2 : WZ X n all z D os (i + 1) ks Q ((d, .tup []) :: l) S) : WZ X n all z D (o :: os) i ks Q l S :=
  WZ_skip hd hn hn' (fun e he => by unfold wanted; rw [hg]; dsimp only; rw [hp]; dsimp only; rw [hd0]; dsimp only; rw [he d0 _ hl]) h2
end
end
end GX
/- frames: copied, Push, Pop, Set; slices.Clone. (NODRAWN) -/




namespace Go.Proofs.Ytgiinfjcpdfgiaa
open GX
set_option maxHeartbeats 16000000
set_option maxRecDepth 100000
section
open Go
variable {X : _root_.GX.X} {n : Nat} {l : L} {S : St}
theorem V_done_ct {x : Ex} {a t u b o : Nat} {v w : AV} {R : AV → St → Prop} (hx : (match x with | .exit _ => false | _ => true) = true) (ha : lk l a = some (.ptr b o)) (hl : loadAt X S.h t b o = some v) (hu : lk l u = some w) (h : R (.tup [v, w]) S) : V X n x [] (QF X [.cell a t, .tmp u] R) l S := by
  unfold V
  intro e he
  refine ⟨fun i hi => ?_, [v, w], ?_, h⟩
  · subst hi; cases hx
  · simp only [rets, he a _ ha, he u _ hu, hl]
theorem V_done_ctt {x : Ex} {a t u u' b o : Nat} {v w w' : AV} {R : AV → St → Prop} (hx : (match x with | .exit _ => false | _ => true) = true) (ha : lk l a = some (.ptr b o)) (hl : loadAt X S.h t b o = some v) (hu : lk l u = some w) (hu' : lk l u' = some w') (h : R (.tup [v, w, w']) S) : V X n x [] (QF X [.cell a t, .tmp u, .tmp u'] R) l S := by
  unfold V
  intro e he
  refine ⟨fun i hi => ?_, [v, w, w'], ?_, h⟩
  · subst hi; cases hx
  · simp only [rets, he a _ ha, he u _ hu, he u' _ hu', hl]
theorem V_done_c {x : Ex} {a t b o : Nat} {v : AV} {R : AV → St → Prop} (hx : (match x with | .exit _ => false | _ => true) = true) (ha : lk l a = some (.ptr b o)) (hl : loadAt X S.h t b o = some v) (h : R (tupled [v]) S) : V X n x [] (QF X [.cell a t] R) l S := by
  unfold V
  intro e he
  refine ⟨fun i hi => ?_, [v], ?_, h⟩
  · subst hi; cases hx
  · simp only [rets, he a _ ha, hl]
end
/-- a frame's three cells -/
abbrev fcells (a : Int) (v w : AV) : List AV := [.int .i64 a, v, w]
theorem fcells_veqs {a : Int} {v w : AV} (hv : veq v v = true) (hw : veq w w = true) : GX.veqs (fcells a v w) (fcells a v w) = true := by simp [GX.veqs, veq_int, hv, hw]
theorem loadAt_f {H : Tr AB} {b : Nat} {a : Int} {v w : AV} {sp : Bool} (h : H.get b = some (.cells 24 (fcells a v w) sp)) : loadAt X1 H 24 b 0 = some (.agg (fcells a v w)) := by
  have e : row H b 0 3 = some (fcells a v w) := by unfold row; rw [h]; rfl
  show (match row H b 0 3 with | some cs => some (AV.agg cs) | none => none) = _
  rw [e]
abbrev Gs (S : St) (v : AV) (cs : List El) : Prop := Gz S v 9 1 (cellsE cs) cs.length
theorem gs_one {S : St} {v : AV} {cs : List El} (h : Gs S v cs) : AV.one v = true := by
  rcases h with (⟨h, _⟩ | ⟨b, h, _⟩) | ⟨_, _, b, o, h, _⟩ <;> rw [h] <;> rfl
theorem gs_cells {S : St} {v : AV} {cs : List El} (h : Gs S v cs) : v.cells = [v] ∧ [v].all AV.one = true := by
  rcases h with (⟨h, _⟩ | ⟨b, h, _⟩) | ⟨_, _, b, o, h, _⟩ <;> subst h <;> exact ⟨rfl, rfl⟩
theorem rd_one {S : St} {v : AV} {sz m : Nat} {cs : List AV} (h : Rd S v sz cs m) : AV.one v = true := by
  have := h.sl
  cases v <;> first | rfl | cases this
/-- a copy -/
theorem clone_runs {S : St} {v : AV} {cs : List El} (hok : Sok S) (hv : Es S v cs) (hb : cs.length ≤ 1000000000) (hn : S.n + 2 ≤ 1000000000) :
    Runs X1 18 [v] S fun r S' => Fr S S' .nils 2 ∧ Gs S' r cs ∧ ∀ c, blkOf r = some c → S.n ≤ c := by
  refine Runs_fn (m := 8) (by kernel_rfl) Try.func18 rfl (by kernel_rfl) (by kernel_rfl) ?_
  repeat (
    first
      | refine W_seq ?_
      | refine WO_nil ?_
      | refine V_seq ?_
      | refine W_region ?_
      | refine WO_dst rfl rfl (by kernel_rfl) (by kernel_rfl) ?_
      | refine Ev_move rfl ?_
      | refine Ev_assign rfl ?_)
  refine Ev_eq_nils rfl rfl rfl rfl hv ?_
  intro q hq
  repeat (
    first
      | refine WO_nil ?_
      | refine V_seq ?_)
  refine W_condb rfl (fun hc => ?_) (fun hc => ?_)
  · have h0 := hq hc
    repeat (
      first
        | refine W_seq ?_
        | refine WO_nil ?_
        | refine V_seq ?_
        | refine W_region ?_
        | refine W_ret ?_
        | refine V_ret ?_
        | refine WO_dst rfl rfl (by kernel_rfl) (by kernel_rfl) ?_
        | refine Ev_assign rfl ?_)
    refine V_done rfl rfl ?_
    refine ⟨⟨Nat.le_refl _, by omega, hok, fun _ _ _ => rfl⟩, .inl (.inl ⟨rfl, h0.2, h0.1⟩), fun c hc => by cases hc⟩
  · repeat (
      first
        | refine W_seq ?_
        | refine V_seq ?_
        | refine W_region ?_
        | refine W_skip ?_
        | refine WO_dst rfl rfl (by kernel_rfl) (by kernel_rfl) ?_)
    refine Ev_buildSlice rfl rfl rfl rfl rfl rfl hok (by omega) ?_
    intro S1 hn1 hok1 hq1 hf1
    have hv1 := hv.keep (fun c h => hf1 c (hv.lt hok h))
    repeat (
      first
        | refine WO_dst rfl rfl (by kernel_rfl) (by kernel_rfl) ?_
        | refine Ev_move rfl ?_)
    refine Ev_append_gz (cs := []) (m := 0) rfl rfl rfl rfl rfl rfl rfl rfl rfl rfl (.inr ⟨rfl, rfl, S.n, 0, rfl, Rd_lit hq1 rfl (by kernel_rfl)⟩) hv1 (cellsE_one cs) hok1 (by omega) (by dsimp only; omega) (by omega) ?_
    intro v2 S2 hle2 hn2 hok2 hown2 hf2 hb2
    repeat (
      first
        | refine WO_nil ?_
        | refine V_seq ?_
        | refine W_ret ?_
        | refine WO_dst rfl rfl (by kernel_rfl) (by kernel_rfl) ?_
        | refine Ev_assign rfl ?_)
    refine V_done rfl rfl ?_
    refine ⟨⟨by omega, by omega, hok2, fun c _ h => by rw [hf2 c (fun h => by cases h; omega) (by omega), hf1 c h]⟩, hown2.eq rfl (by omega), fun c hc => ?_⟩
    rcases hb2 c hc with h | h
    · cases h; exact Nat.le_refl _
    · omega
theorem fr_nil {S S' : St} {k : Nat} (h : Fr S S' .nils k) {c : Nat} (hc : c < S.n) : S'.h.get c = S.h.get c := h.same c (by simp [blkOf]) hc
/-- a frame in new memory -/
structure CopO (S : St) (a : Int) (cs1 cs2 : List El) (k : Nat) (r : AV) (S' : St) : Prop where
  fr : Fr S S' .nils k
  ex : ∃ w1 w2, r = .agg (fcells a w1 w2) ∧ Gs S' w1 cs1 ∧ Gs S' w2 cs2 ∧ (∀ c, blkOf w1 = some c → S.n ≤ c ∧ blkOf w2 ≠ some c) ∧ ∀ c, blkOf w2 = some c → S.n ≤ c
theorem copied_runs {S : St} {a : Int} {v1 v2 : AV} {cs1 cs2 : List El} (hok : Sok S) (h1 : Es S v1 cs1) (h2 : Es S v2 cs2) (hb : cs1.length ≤ 1000000000 ∧ cs2.length ≤ 1000000000) (hn : S.n + 6 ≤ 1000000000) :
    Runs X1 17 [.agg (fcells a v1 v2)] S (CopO S a cs1 cs2 6) := by
  refine Runs_fn (m := 12) (by kernel_rfl) Try.func17 rfl (by kernel_rfl) (by kernel_rfl) ?_
  repeat (
    first
      | refine W_seq ?_
      | refine W_region ?_
      | refine WO_dst rfl rfl (by kernel_rfl) (by kernel_rfl) ?_)
  refine Ev_box rfl hok (by omega) ?_
  intro S1 n1 ok1 q1 f1
  repeat (
    refine WO_dst rfl rfl (by kernel_rfl) (by kernel_rfl) ?_)
  refine Ev_alloc_ rfl ok1 (by omega) ?_
  intro S2 n2 ok2 q2 f2
  have at2 : S2.h.get S.n = some (.cells 24 (fcells a v1 v2) false) := by rw [f2 _ (by omega)]; exact q1
  have g1 : Es S2 v1 cs1 := h1.keep (fun c hc => by have := h1.lt hok hc; rw [f2 c (by omega), f1 c this])
  have g2 : Es S2 v2 cs2 := h2.keep (fun c hc => by have := h2.lt hok hc; rw [f2 c (by omega), f1 c this])
  have hD : ∀ f ∈ [(⟨S.n, .cells 24 (fcells a v1 v2) false, none⟩ : Fct)], S2.h.get f.id = some f.x := by
    intro f hf; rw [List.mem_singleton] at hf; subst hf; exact at2
  repeat (
    first
      | refine W_seq ?_
      | refine WO_nil ?_
      | refine V_seq ?_)
  refine W_drawnZ 7 [⟨S.n, .cells 24 (fcells a v1 v2) false, none⟩] ?_ (by kernel_rfl) ?_
  · intro f hf; rw [List.mem_singleton] at hf; subst hf; exact ⟨rfl, by dsimp only; omega, at2⟩
  repeat (
    first
      | refine WZ_pa rfl rfl (by kernel_rfl) (by kernel_rfl) rfl ?_
      | refine Ev_fieldAddr rfl rfl rfl rfl rfl rfl ?_)
  refine WZ_rf (by kernel_rfl) rfl rfl (by kernel_rfl) (by kernel_rfl) hD (FPD_load rfl rfl rfl (pt_of at2) rfl (fun b hb => by cases hb; exact ⟨_, List.mem_cons_self .., rfl, at2, fun j hj => by cases hj⟩)) h1.self ?_
  repeat (
    refine W_seq ?_)
  refine WZ_ld rfl rfl (by kernel_rfl) (by kernel_rfl) (fun _ _ => rfl) ?_
  refine Ev_call rfl rfl ((clone_runs ok2 g1 hb.1 (by omega)).mono ?_)
  rintro w1 S3 - ⟨F3, z3, b3⟩
  have g3n := F3.n
  have g3l := F3.le
  have at3 : S3.h.get S.n = some (.cells 24 (fcells a v1 v2) false) := by rw [fr_nil F3 (by omega)]; exact at2
  have hD3 : ∀ f ∈ [(⟨S.n, .cells 24 (fcells a v1 v2) false, none⟩ : Fct)], S3.h.get f.id = some f.x := by
    intro f hf; rw [List.mem_singleton] at hf; subst hf; exact at3
  refine ⟨fun _ => hD3, [], by simp, ?_⟩
  repeat (
    first
      | refine WZ_pa rfl rfl (by kernel_rfl) (by kernel_rfl) rfl ?_
      | refine Ev_fieldAddr rfl rfl rfl rfl rfl rfl ?_)
  refine WZ_rf (by kernel_rfl) rfl rfl (by kernel_rfl) (by kernel_rfl) (by simpa using at3) (FPD_load rfl rfl rfl (pt_of at3) rfl (fun b hb => by cases hb; exact ⟨_, List.mem_cons_self .., rfl, at3, fun j hj => by cases hj⟩)) h2.self ?_
  repeat (
    refine W_seq ?_)
  refine WZ_ld rfl rfl (by kernel_rfl) (by kernel_rfl) (fun _ _ => rfl) ?_
  refine Ev_call rfl rfl ((clone_runs F3.ok (g2.keep (fun c hc => fr_nil F3 (g2.lt ok2 hc))) hb.2 (by omega)).mono ?_)
  rintro w2 S4 - ⟨F4, z4, b4⟩
  have g4n := F4.n
  have g4l := F4.le
  have at4 : S4.h.get S.n = some (.cells 24 (fcells a v1 v2) false) := by rw [fr_nil F4 (by omega)]; exact at3
  refine ⟨fun _ => by simpa using at4, [], by simp, ?_⟩
  repeat (
    first
      | refine WZ_pa rfl rfl (by kernel_rfl) (by kernel_rfl) rfl ?_
      | refine Ev_fieldAddr rfl rfl rfl rfl rfl rfl ?_)
  refine WZ_ld0 rfl rfl (fun _ _ => rfl) ?_
  refine Ev_store rfl rfl rfl (by rw [(gs_cells z3).1]; rfl) (by rw [(gs_cells z3).1]; exact (gs_cells z3).2) at4 (by rw [(gs_cells z3).1]; show 1 + 1 ≤ 3; omega) (by omega) ?_
  intro S5 n5 q5 f5
  have at5 : S5.h.get S.n = some (.cells 24 (fcells a w1 v2) false) := q5.trans (congrArg (fun z => some (AB.cells 24 z false)) (by rw [(gs_cells z3).1]; rfl))
  refine ⟨fun h => absurd h (by decide), [], by simp, ?_⟩
  repeat (
    first
      | refine WZ_pa rfl rfl (by kernel_rfl) (by kernel_rfl) rfl ?_
      | refine Ev_fieldAddr rfl rfl rfl rfl rfl rfl ?_)
  refine WZ_ld0 rfl rfl (fun _ _ => rfl) ?_
  refine Ev_store rfl rfl rfl (by rw [(gs_cells z4).1]; rfl) (by rw [(gs_cells z4).1]; exact (gs_cells z4).2) at5 (by rw [(gs_cells z4).1]; show 2 + 1 ≤ 3; omega) (by omega) ?_
  intro S6 n6 q6 f6
  have at6 : S6.h.get S.n = some (.cells 24 (fcells a w1 w2) false) := q6.trans (congrArg (fun z => some (AB.cells 24 z false)) (by rw [(gs_cells z4).1]; rfl))
  refine ⟨fun h => absurd h (by decide), [], by simp, ?_⟩
  have ok5 : Sok S5 := sok_upd F4.ok (by omega) n5 at5 f5
  have ok6 : Sok S6 := sok_upd ok5 (by omega) n6 at6 f6
  have b3' : ∀ c, blkOf w1 = some c → S.n + 2 ≤ c ∧ c < S3.n := fun c hc => ⟨by have := b3 c hc; omega, z3.lt F3.ok hc⟩
  have b4' : ∀ c, blkOf w2 = some c → S3.n ≤ c ∧ c < S4.n := fun c hc => ⟨b4 c hc, z4.lt F4.ok hc⟩
  have z3' : Gs S6 w1 cs1 := z3.keep (fun c hc => by have := b3' c hc; rw [f6 c (by omega), f5 c (by omega), fr_nil F4 this.2])
  have z4' : Gs S6 w2 cs2 := z4.keep (fun c hc => by have := b4' c hc; rw [f6 c (by omega), f5 c (by omega)])
  repeat (
    first
      | refine WZ_nil ?_
      | refine W_seq ?_
      | refine V_seq ?_
      | refine W_region ?_
      | refine WO_dst rfl rfl (by kernel_rfl) (by kernel_rfl) ?_)
  refine Ev_load_agg (ds := fcells a w1 w2) rfl rfl rfl at6 (by show 0 + 3 ≤ 3; decide) rfl (fcells_veqs z3'.rd.self z4'.rd.self) ?_
  repeat (
    refine WO_no rfl rfl ?_)
  have hq6 : S6.h.get (S.n + 1) = some (.cells 24 [.int .i64 0, .nils, .nils] false) := by rw [f6 _ (by omega), f5 _ (by omega), fr_nil F4 (by omega), fr_nil F3 (by omega), ← n1]; exact q2
  refine Ev_store rfl rfl rfl rfl (by show (AV.one (.int .i64 a) && (AV.one w1 && (AV.one w2 && true))) = true; rw [gs_one z3', gs_one z4']; rfl) (by rw [n1]; exact hq6) (by simp [AV.cells]) (by omega) ?_
  intro S7 n7 q7 f7
  rw [n1] at q7 f7
  have ok7 : Sok S7 := sok_upd ok6 (by omega) n7 q7 f7
  repeat (
    first
      | refine WO_nil ?_
      | refine V_seq ?_
      | refine W_ret ?_)
  refine V_done_c rfl rfl (loadAt_f (a := a) (v := w1) (w := w2) (by rw [n1]; exact q7)) ?_
  refine ⟨⟨by omega, by omega, ok7, fun c _ hc => by rw [f7 c (by omega), f6 c (by omega), f5 c (by omega), fr_nil F4 (by omega), fr_nil F3 (by omega), f2 c (by omega), f1 c hc]⟩, w1, w2, rfl, z3'.keep (fun c hc => f7 c (by have := b3' c hc; omega)), z4'.keep (fun c hc => f7 c (by have := b4' c hc; omega)), fun c hc => ⟨by have := b3' c hc; omega, fun e => by have := b4' c e; have := b3' c hc; omega⟩, fun c hc => by have := b4' c hc; omega⟩
end Go.Proofs.Ytgiinfjcpdfgiaa
/- carafebook.Book.Keep of a list whose capacity is known. (NODRAWN) -/



namespace Go.Proofs.Ytgiinfjcpdfgiaa
open GX
set_option maxHeartbeats 16000000
set_option maxRecDepth 100000
/-- a book that has one list more than before, perhaps without the first ones -/
structure Kp (S T : St) (p : Nat) (vl vw : AV) (i : It) (is : List It) : Prop where
  ex : ∃ vl' vw' h' w k, Bk T p vl' vw' h' ((is ++ [{ i with w := w }]).drop k) ∧ k ≤ is.length ∧ (∀ c, blkOf vl' = some c → S.n ≤ c) ∧ (∀ c, blkOf vw' = some c → S.n ≤ c) ∧ (∀ c, blkOf w = some c → S.n ≤ c)
  le : S.n ≤ T.n
  n : T.n ≤ S.n + 10
  same : ∀ c, c < S.n → c ≠ p → blkOf vl ≠ some c → blkOf vw ≠ some c → T.h.get c = S.h.get c
theorem Bk.drop1 {T U : St} {p : Nat} {vl vw vl' vw' : AV} {h h' : Int} {is : List It} (b : Bk T p vl vw h is) (hUok : Sok U) (hat : U.h.get p = some (.cells 27 [vl', vw', .int .i64 h', .bool false] false)) (hlo : OwA U vl' 22 1 ((is.map It.v).drop 1) (is.length - 1)) (hwo : OwA U vw' 22 1 ((is.map It.w).drop 1) (is.length - 1)) (hl : blkOf vl' = blkOf vl) (hw : blkOf vw' = blkOf vw) (hf : ∀ c, c ≠ p → U.h.get c = T.h.get c) : Bk U p vl' vw' h' (is.drop 1) := by
  have hm : ∀ i ∈ is.drop 1, i ∈ is := fun i hi => List.mem_of_mem_drop hi
  refine ⟨hUok, hat, by rw [List.map_drop, List.length_drop]; exact hlo, by rw [List.map_drop, List.length_drop]; exact hwo, fun i hi => (b.it i (hm i hi)).keep (fun c hc => hf c (b.ip i (hm i hi) c (.inl hc)).1) (fun c hc => hf c (b.ip i (hm i hi) c (.inr hc)).1), by rw [hl]; exact b.lp, by rw [hw]; exact b.wp, by rw [hl, hw]; exact b.lw, fun i hi => by rw [hl, hw]; exact b.ip i (hm i hi), fun j k x y c hj hk hne hx => ?_, by rw [List.length_drop]; have := b.few; omega⟩
  rw [List.getElem?_drop] at hj hk
  exact b.dis _ _ x y c hj hk (by omega) hx
theorem ItOK.one {T : St} {i : It} (h : ItOK T i) : AV.one i.v = true := by
  rcases h.cap with ⟨b, o, h⟩ | ⟨h, _⟩ <;> rw [h] <;> rfl
theorem Bk.held {T U : St} {p : Nat} {vl vw : AV} {h h' : Int} {is : List It} (b : Bk T p vl vw h is) (hn : U.n = T.n) (hq : U.h.get p = some (.cells 27 [vl, vw, .int .i64 h', .bool false] false)) (hf : ∀ c, c ≠ p → U.h.get c = T.h.get c) : Bk U p vl vw h' is :=
  ⟨sok_upd b.ok (b.ok _ _ b.at_) hn hq hf, hq, b.lo.keep (fun c hc => hf c (fun e => b.lp (by rw [hc, e]))), b.wo.keep (fun c hc => hf c (fun e => b.wp (by rw [hc, e]))),
    fun i hi => (b.it i hi).keep (fun c hc => hf c (b.ip i hi c (.inl hc)).1) (fun c hc => hf c (b.ip i hi c (.inr hc)).1), b.lp, b.wp, b.lw, b.ip, b.dis, b.few⟩
theorem owa_cells1 {S : St} {v : AV} {el sz : Nat} {cs : List AV} {m : Nat} (h : OwA S v el sz cs m) : v.cells = [v] ∧ [v].all AV.one = true := by
  rcases h with ⟨h1, _⟩ | ⟨b, pre, h1, _⟩ <;> subst h1 <;> exact ⟨rfl, rfl⟩
theorem afill_one {v : AV} (h : AV.one v = true) : afill (fun i => some (i * 1, 1)) (rep [.nils] 1) [(0, v)] = some [v] := by
  cases v <;> first | rfl | cases h
theorem keep_runs {S : St} {p : Nat} {vl vw : AV} {h : Int} {is : List It} {i : It} (b : Bk S p vl vw h is) (hi : ItOK S { i with w := i.v }) (hb : ∀ c, blkOf i.v = some c → c ≠ p ∧ blkOf vl ≠ some c ∧ blkOf vw ≠ some c ∧ ∀ j ∈ is, blkOf j.v ≠ some c) (hlen : is.length ≤ 900) (hn : S.n ≤ 900000000) :
    Runs X2 8 [.ptr p 0, i.v] S fun _ T => Kp S T p vl vw i is := by
  have hird : Es S i.v i.cs := hi.rd
  have hpn := b.ok _ _ b.at_
  have hsm := hi.small
  dsimp only at hsm
  refine Runs_fn (m := 112) (by kernel_rfl) Try.func8 rfl (by kernel_rfl) (by kernel_rfl) ?_
  repeat (
    first
      | refine W_seq ?_
      | refine W_region ?_
      | refine WO_dst rfl rfl (by kernel_rfl) (by kernel_rfl) ?_
      | refine Ev_load rfl rfl rfl b.at_ rfl b.l.self ?_
      | refine Ev_move rfl ?_
      | refine Ev_nilCheck rfl ?_
      | refine Ev_fieldAddr rfl rfl rfl rfl rfl rfl ?_)
  refine Ev_buildSlice rfl rfl rfl rfl rfl (afill_one hi.one) b.ok (by omega) ?_
  intro S1 n1 ok1 q1 f1
  have hlo1 : OwA S1 vl 22 1 (is.map It.v) is.length := b.lo.keep (fun c hc => f1 c (b.l.lt b.ok hc))
  have hone : [i.v].all AV.one = true := by simp [hi.one]
  have hnew1 : Rd S1 (.slice S.n 0 1 (.ex 1)) 1 [i.v] 1 := Rd_lit q1 rfl rfl
  repeat (
    refine WO_dst rfl rfl (by kernel_rfl) (by kernel_rfl) ?_)
  refine Ev_append_a rfl rfl rfl rfl rfl rfl rfl rfl rfl rfl hlo1 (by decide) hnew1 hone ok1 (by omega) (by dsimp only; omega) (by omega) ?_
  intro vl2 S2 n2 ok2 lo2 f2 hb2
  have hat2 : S2.h.get p = some (.cells 27 [vl, vw, .int .i64 h, .bool false] false) := by rw [f2 p b.lp (by omega), f1 p hpn]; exact b.at_
  repeat (
    first
      | refine WO_dst rfl rfl (by kernel_rfl) (by kernel_rfl) ?_
      | refine WO_no rfl rfl ?_
      | refine Ev_nilCheck rfl ?_
      | refine Ev_fieldAddr rfl rfl rfl rfl rfl rfl ?_)
  refine Ev_store rfl rfl rfl (by rw [(owa_cells1 lo2).1]; rfl) (by rw [(owa_cells1 lo2).1]; exact (owa_cells1 lo2).2) hat2 (by rw [(owa_cells1 lo2).1]; show 0 + 1 ≤ 4; omega) (by omega) ?_
  intro S3 n3 q3 f3
  have ok3 : Sok S3 := sok_upd ok2 (by omega) n3 q3 f3
  have e3 : lput [vl, vw, .int .i64 h, .bool false] 0 vl2.cells = [vl2, vw, .int .i64 h, .bool false] := by rw [(owa_cells1 lo2).1]; rfl
  have hat3 : S3.h.get p = some (.cells 27 [vl2, vw, .int .i64 h, .bool false] false) := q3.trans (congrArg (fun z => some (AB.cells 27 z false)) e3)
  have fr3 : ∀ c, c < S.n → c ≠ p → blkOf vl ≠ some c → S3.h.get c = S.h.get c := fun c h1 h2 h3 => by rw [f3 c h2, f2 c h3 (by omega), f1 c h1]
  have wo3 : OwA S3 vw 22 1 (is.map It.w) is.length := b.wo.keep (fun c hc => fr3 c (b.w.lt b.ok hc) (fun e => b.wp (by rw [hc, e])) (fun e => b.lw c e hc))
  have ird3 : Es S3 i.v i.cs := hird.keep (fun c hc => fr3 c (hird.lt b.ok hc) (hb c hc).1 (hb c hc).2.1)
  have lo3 : OwA S3 vl2 22 1 (is.map It.v ++ [i.v]) (is.length + 1) := lo2.keep (fun c hc => f3 c (fun e => by rw [hb2] at hc; cases hc; omega))
  have hD : ∀ f ∈ [(⟨p, .cells 27 [vl2, vw, .int .i64 h, .bool false] false, none⟩ : Fct)], S3.h.get f.id = some f.x := by
    intro f hf; rw [List.mem_singleton] at hf; subst hf; exact hat3
  repeat (
    first
      | refine W_seq ?_
      | refine WO_nil ?_
      | refine V_seq ?_)
  refine W_drawnZ 11 [⟨p, .cells 27 [vl2, vw, .int .i64 h, .bool false] false, none⟩] ?_ (by kernel_rfl) ?_
  · intro f hf; rw [List.mem_singleton] at hf; subst hf; exact ⟨rfl, by dsimp only; omega, hat3⟩
  repeat (
    first
      | refine WZ_pa rfl rfl (by kernel_rfl) (by kernel_rfl) rfl ?_
      | refine Ev_move rfl ?_
      | refine Ev_nilCheck rfl ?_
      | refine Ev_fieldAddr rfl rfl rfl rfl rfl rfl ?_)
  refine WZ_rf (by kernel_rfl) rfl rfl (by kernel_rfl) (by kernel_rfl) hD (FPD_load rfl rfl rfl (pt_of hat3) rfl (fun b hb => by cases hb; exact ⟨_, List.mem_cons_self .., rfl, hat3, fun j hj => by cases hj⟩)) wo3.rd.self ?_
  repeat (
    first
      | refine WZ_pa rfl rfl (by kernel_rfl) (by kernel_rfl) rfl ?_
      | refine Ev_move rfl ?_)
  refine WZ_ld rfl rfl (by kernel_rfl) (by kernel_rfl) (fun _ _ => rfl) ?_
  refine Ev_append (cs := []) (m := 0) rfl rfl rfl rfl rfl rfl rfl rfl rfl rfl (.inl ⟨rfl, rfl, rfl⟩) ird3 (cellsE_one _) ok3 (by omega) (by dsimp only; omega) (by omega) ?_
  intro w4 S4 le4 n4 ok4 ow4 f4 b4
  have hat4 : S4.h.get p = some (.cells 27 [vl2, vw, .int .i64 h, .bool false] false) := by rw [f4 p (by simp [blkOf]) (by omega)]; exact hat3
  have hD4 : ∀ f ∈ [(⟨p, .cells 27 [vl2, vw, .int .i64 h, .bool false] false, none⟩ : Fct)], S4.h.get f.id = some f.x := by
    intro f hf; rw [List.mem_singleton] at hf; subst hf; exact hat4
  have hone4 : AV.one w4 = true := by rcases ow4 with ⟨e, _⟩ | ⟨_, e, _⟩ <;> rw [e] <;> rfl
  have hb4 : ∀ c, blkOf w4 = some c → S3.n ≤ c := fun c hc => (b4 c hc).resolve_left (by simp [blkOf])
  refine ⟨fun _ => hD4, [], by simp, ?_⟩
  refine WZ_pa rfl rfl (by kernel_rfl) (by kernel_rfl) rfl ?_
  refine Ev_buildSlice rfl rfl rfl rfl rfl (afill_one hone4) ok4 (by omega) ?_
  intro S5 n5 ok5 q5 f5
  have wo5 : OwA S5 vw 22 1 (is.map It.w) is.length := wo3.keep (fun c hc => by rw [f5 c (by have := wo3.lt ok3 hc; omega), f4 c (by simp [blkOf]) (wo3.lt ok3 hc)])
  have hone5 : [w4].all AV.one = true := by simp [hone4]
  have hnew5 : Rd S5 (.slice S4.n 0 1 (.ex 1)) 1 [w4] 1 := Rd_lit q5 rfl rfl
  refine WZ_ld rfl rfl (by kernel_rfl) (by kernel_rfl) (fun _ _ => rfl) ?_
  refine Ev_append_a rfl rfl rfl rfl rfl rfl rfl rfl rfl rfl wo5 (by decide) hnew5 hone5 ok5 (by omega) (by dsimp only; omega) (by omega) ?_
  intro vw2 S6 n6 ok6 wo6 f6 hb6
  have hat5 : S5.h.get p = some (.cells 27 [vl2, vw, .int .i64 h, .bool false] false) := by rw [f5 p (by omega)]; exact hat4
  have hat6 : S6.h.get p = some (.cells 27 [vl2, vw, .int .i64 h, .bool false] false) := by rw [f6 p b.wp (by omega)]; exact hat5
  refine ⟨fun _ => fun f hf => (by rw [List.append_nil, List.mem_singleton] at hf; subst hf; exact hat6), [], by simp, ?_⟩
  repeat (
    first
      | refine WZ_pa rfl rfl (by kernel_rfl) (by kernel_rfl) rfl ?_
      | refine Ev_nilCheck rfl ?_
      | refine Ev_fieldAddr rfl rfl rfl rfl rfl rfl ?_)
  refine WZ_ld0 rfl rfl (fun _ _ => rfl) ?_
  refine Ev_store rfl rfl rfl (by rw [(owa_cells1 wo6).1]; rfl) (by rw [(owa_cells1 wo6).1]; exact (owa_cells1 wo6).2) hat6 (by rw [(owa_cells1 wo6).1]; show 1 + 1 ≤ 4; omega) (by omega) ?_
  intro S7 n7 q7 f7
  refine ⟨fun h => absurd h (by decide), [], by simp, ?_⟩
  have ok7 : Sok S7 := sok_upd ok6 (by omega) n7 q7 f7
  have e7 : lput [vl2, vw, .int .i64 h, .bool false] 1 vw2.cells = [vl2, vw2, .int .i64 h, .bool false] := by rw [(owa_cells1 wo6).1]; rfl
  have hat7 : S7.h.get p = some (.cells 27 [vl2, vw2, .int .i64 h, .bool false] false) := q7.trans (congrArg (fun z => some (AB.cells 27 z false)) e7)
  have fr7 : ∀ c, c < S.n → c ≠ p → blkOf vl ≠ some c → blkOf vw ≠ some c → S7.h.get c = S.h.get c := fun c h1 h2 h3 h4 => by rw [f7 c h2, f6 c h4 (by omega), f5 c (by omega), f4 c (by simp [blkOf]) (by omega), fr3 c h1 h2 h3]
  have b7 : Bk S7 p vl2 vw2 h (is ++ [{ i with w := w4 }]) := by
    have hlt4 : ∀ c, blkOf w4 = some c → c < S4.n := fun c hc => ow4.rd.lt ok4 hc
    have hivlt : ∀ c, blkOf i.v = some c → c < S.n := fun c hc => hird.lt b.ok hc
    refine ⟨ok7, hat7, ?_, ?_, ?_, ?_, ?_, ?_, ?_, ?_, by simp; omega⟩
    · rw [List.map_append, List.length_append]
      exact lo3.keep (fun c hc => by rw [hb2] at hc; cases hc; rw [f7 _ (by omega), f6 _ (fun e => by have := b.w.lt b.ok e; omega) (by omega), f5 _ (by omega), f4 _ (by simp [blkOf]) (by omega)])
    · rw [List.map_append, List.length_append]
      exact wo6.keep (fun c hc => by rw [hb6] at hc; cases hc; rw [f7 _ (by omega)])
    · intro j hj
      rw [List.mem_append] at hj
      rcases hj with hj | hj
      · exact (b.it j hj).keep (fun c hc => fr7 c ((b.it j hj).rd.lt b.ok hc) (b.ip j hj c (.inl hc)).1 (b.ip j hj c (.inl hc)).2.1 (b.ip j hj c (.inl hc)).2.2) (fun c hc => fr7 c ((b.it j hj).wr.lt b.ok hc) (b.ip j hj c (.inr hc)).1 (b.ip j hj c (.inr hc)).2.1 (b.ip j hj c (.inr hc)).2.2)
      · rw [List.mem_singleton] at hj; subst hj
        have h7 := hi.keep (U := S7) (fun c hc => fr7 c (hivlt c hc) (hb c hc).1 (hb c hc).2.1 (hb c hc).2.2.1) (fun c hc => fr7 c (hivlt c hc) (hb c hc).1 (hb c hc).2.1 (hb c hc).2.2.1)
        refine ⟨h7.kind, h7.lim, ?_, h7.small⟩
        have hw4 : Es S4 w4 i.cs := by have := ow4.rd; rw [List.nil_append, Nat.zero_add] at this; exact this
        exact hw4.keep (fun c hc => by have := hlt4 c hc; have := hb4 c hc; rw [f7 c (by omega), f6 c (fun e => by have := b.w.lt b.ok e; omega) (by omega), f5 c (by omega)])
    · rw [hb2]; intro e; cases e; omega
    · rw [hb6]; intro e; cases e; omega
    · intro c hc; rw [hb2] at hc; have hc2 := Option.some.inj hc; rw [hb6]; intro e; have e2 := Option.some.inj e; omega
    · intro j hj c hc
      rw [hb2, hb6]
      rw [List.mem_append] at hj
      rcases hj with hj | hj
      · have hlt : c < S.n := by
          rcases hc with hc | hc
          · exact (b.it j hj).rd.lt b.ok hc
          · exact (b.it j hj).wr.lt b.ok hc
        exact ⟨(b.ip j hj c hc).1, fun e => by cases e; omega, fun e => by cases e; omega⟩
      · rw [List.mem_singleton] at hj; subst hj
        rcases hc with hc | hc
        · have := hivlt c hc
          exact ⟨(hb c hc).1, fun e => by cases e; omega, fun e => by cases e; omega⟩
        · have := hlt4 c hc; have := hb4 c hc
          exact ⟨by omega, fun e => by cases e; omega, fun e => by cases e; omega⟩
    · intro j k x y c hj hk hne hx hy
      have key : ∀ (q : Nat) (z : It), (is ++ [{ i with w := w4 }])[q]? = some z → (is[q]? = some z ∧ q < is.length) ∨ (q = is.length ∧ z.v = i.v) := by
        intro q z hq
        by_cases hlt : q < is.length
        · rw [List.getElem?_append_left hlt] at hq; exact .inl ⟨hq, hlt⟩
        · have h2 := (List.getElem?_eq_some_iff.1 hq).1
          simp at h2
          have : q = is.length := by omega
          subst this
          simp at hq
          exact .inr ⟨rfl, by rw [← hq]⟩
      rcases key j x hj with ⟨h1, h2⟩ | ⟨h1, h2⟩ <;> rcases key k y hk with ⟨h3, h4⟩ | ⟨h3, h4⟩
      · exact b.dis j k x y c h1 h3 hne hx hy
      · rw [h4] at hy; exact (hb c hy).2.2.2 x (List.mem_of_getElem? h1) hx
      · rw [h2] at hx; exact (hb c hx).2.2.2 y (List.mem_of_getElem? h3) hy
      · omega
  have hi7 : ItOK S7 { i with w := w4 } := b7.it _ (by simp)
  repeat (
    first
      | refine WZ_nil ?_
      | refine W_seq ?_
      | refine V_seq ?_
      | refine W_region ?_
      | refine WO_dst rfl rfl (by kernel_rfl) (by kernel_rfl) ?_
      | refine Ev_load rfl rfl rfl b7.at_ rfl (veq_int _ _) ?_
      | refine Ev_cap_it (i := { i with w := w4 }) rfl rfl rfl rfl rfl hi7 ?_
      | refine Ev_move rfl ?_
      | refine Ev_nilCheck rfl ?_
      | refine Ev_fieldAddr rfl rfl rfl rfl rfl rfl ?_)
  refine Ev_addw rfl rfl ?_
  refine WO_dst rfl rfl (by kernel_rfl) (by kernel_rfl) ?_
  refine Ev_addw rfl rfl ?_
  repeat (
    first
      | refine WO_dst rfl rfl (by kernel_rfl) (by kernel_rfl) ?_
      | refine WO_no rfl rfl ?_
      | refine Ev_nilCheck rfl ?_
      | refine Ev_fieldAddr rfl rfl rfl rfl rfl rfl ?_)
  refine Ev_store rfl rfl rfl rfl rfl b7.at_ (by simp [AV.cells]) (by omega) ?_
  intro S8 n8 q8 f8
  have b8 := b7.held n8 q8 f8
  repeat (
    first
      | refine WO_nil ?_
      | refine V_seq ?_
      | refine W_block ?_)
  refine W_inv (fun _ : AV × AV × Int × List It => [(0, .ptr p 0), (1, i.v)]) (fun a T => Bk T p a.1 a.2.1 a.2.2.1 a.2.2.2 ∧ T.n = S8.n ∧ (∀ c, c ≠ p → T.h.get c = S8.h.get c) ∧ (∃ k, a.2.2.2 = (is ++ [{ i with w := w4 }]).drop k ∧ k ≤ is.length) ∧ blkOf a.1 = some S1.n ∧ blkOf a.2.1 = some S5.n) (fun a => a.2.2.2.length) ?_ (vl2, vw2, _, is ++ [{ i with w := w4 }]) ⟨b8, rfl, fun _ _ => rfl, ⟨0, rfl, Nat.zero_le _⟩, hb2, hb6⟩ ⟨rfl, rfl, trivial⟩
  rintro ⟨ul, uw, uh, us⟩ T ⟨hb', hTn, hTf, ⟨k, hk, hkl⟩, hbl, hbw⟩ back
  dsimp only at hb' hk hbl hbw back
  have hend : Kp S T p vl vw i is := by
    refine ⟨⟨ul, uw, uh, w4, k, by rw [← hk]; exact hb', hkl, fun c hc => by rw [hbl] at hc; cases hc; omega, fun c hc => by rw [hbw] at hc; cases hc; omega, fun c hc => by have := hb4 c hc; omega⟩, by omega, by omega, fun c h1 h2 h3 h4 => by rw [hTf c h2, f8 c h2, fr7 c h1 h2 h3 h4]⟩
  have hpn' := hb'.ok _ _ hb'.at_
  have hfew := hb'.few
  repeat' (
    first
      | refine W_seq ?_
      | refine WO_nil ?_
      | refine V_seq ?_
      | refine W_region ?_
      | refine W_skip ?_
      | refine W_block ?_
      | refine W_exit ?_
      | refine V_block_x rfl ?_
      | refine V_seq_x ?_
      | refine V_loop_x ?_
      | refine W_cond_t rfl ?_
      | refine W_cond_f rfl ?_
      | refine WO_dst rfl rfl (by kernel_rfl) (by kernel_rfl) ?_
      | refine WO_guard_t rfl rfl rfl rfl rfl (by kernel_rfl) (by kernel_rfl) ?_
      | refine WO_guard_f rfl rfl rfl rfl rfl rfl (by kernel_rfl) (by kernel_rfl) ?_
      | refine WO_guard_x rfl rfl rfl rfl rfl (by kernel_rfl) (by kernel_rfl) ?_
      | refine Ev_load rfl rfl rfl hb'.at_ rfl hb'.l.self ?_
      | refine Ev_load rfl rfl rfl hb'.at_ rfl (veq_int _ _) ?_
      | refine Ev_len rfl rfl rfl rfl rfl hb'.l.len ?_
      | refine Ev_move rfl ?_
      | refine Ev_pick_t rfl rfl rfl ?_
      | refine Ev_pick_f rfl rfl rfl ?_
      | refine Ev_gtrN rfl rfl ?_
      | refine Ev_gtr rfl rfl ?_
      | refine Ev_nilCheck rfl ?_
      | refine Ev_fieldAddr rfl rfl rfl rfl rfl rfl ?_
      | (refine WO_guard_dt rfl rfl rfl rfl rfl (by kernel_rfl) (by kernel_rfl) (fun hg => ?_) (fun hg => ?_) <;> (try dsimp only at hg) <;> try (exfalso; first | omega | exact hg rfl))
      | (refine WO_guard_df rfl rfl rfl rfl rfl (by kernel_rfl) (by kernel_rfl) (fun hg => ?_) (fun hg => ?_) <;> (try dsimp only at hg) <;> try (exfalso; first | omega | exact hg rfl))
      | (refine W_cond rfl (fun hc => ?_) (fun hc => ?_) <;> (try dsimp only at hc) <;> try (exfalso; first | omega | exact hc rfl)))
  · refine V_done rfl rfl ?_
    exact hend
  · have h1l : 1 < us.length := by assumption
    have hit0 := hb'.it _ (List.getElem_mem (show 0 < us.length by omega))
    have hs0 := hit0.small
    refine W_drawn (by kernel_rfl) ?_
    repeat' (
      first
        | refine WO_dst rfl rfl (by kernel_rfl) (by kernel_rfl) ?_
        | refine WO_guard_t rfl rfl rfl rfl rfl (by kernel_rfl) (by kernel_rfl) ?_
        | refine Ev_load rfl rfl rfl hb'.at_ rfl hb'.l.self ?_
        | refine Ev_load rfl rfl rfl hb'.at_ rfl (show veq (.bool false) (.bool false) = true from rfl) ?_
        | refine Ev_move rfl ?_
        | refine Ev_nilCheck rfl ?_
        | refine Ev_fieldAddr rfl rfl rfl rfl rfl rfl ?_)
    refine Ev_indexAddr_rd (i := 0) rfl rfl rfl rfl rfl hb'.l (by omega) ?_
    intro q hq
    repeat (
      first
        | refine WO_dst rfl rfl (by kernel_rfl) (by kernel_rfl) ?_
        | refine WO_guard_t rfl rfl rfl rfl rfl (by kernel_rfl) (by kernel_rfl) ?_)
    refine Ev_load_pt rfl rfl rfl hq (map_get (show 0 < us.length by omega)) hit0.rd.self ?_
    repeat (
      first
        | refine WO_dst rfl rfl (by kernel_rfl) (by kernel_rfl) ?_
        | refine WO_guard_t rfl rfl rfl rfl rfl (by kernel_rfl) (by kernel_rfl) ?_
        | refine Ev_load rfl rfl rfl hb'.at_ rfl hb'.w.self ?_
        | refine Ev_move rfl ?_
        | refine Ev_nilCheck rfl ?_
        | refine Ev_fieldAddr rfl rfl rfl rfl rfl rfl ?_)
    refine Ev_indexAddr_rd (i := 0) rfl rfl rfl rfl rfl hb'.w (by omega) ?_
    intro q2 hq2
    repeat (
      first
        | refine WO_dst rfl rfl (by kernel_rfl) (by kernel_rfl) ?_
        | refine WO_guard_t rfl rfl rfl rfl rfl (by kernel_rfl) (by kernel_rfl) ?_)
    refine Ev_load_pt rfl rfl rfl hq2 (map_get (show 0 < us.length by omega)) hit0.wr.self ?_
    repeat (
      first
        | refine WO_dst rfl rfl (by kernel_rfl) (by kernel_rfl) ?_
        | refine WO_guard_t rfl rfl rfl rfl rfl (by kernel_rfl) (by kernel_rfl) ?_)
    refine Ev_call rfl rfl ((esame_runs hit0.rd hit0.wr ⟨by omega, by omega⟩).mono ?_)
    rintro _ T2 - ⟨rfl, hT2⟩
    rw [hT2, decide_eq_true rfl]
    repeat' (
      first
        | refine WO_dst rfl rfl (by kernel_rfl) (by kernel_rfl) ?_
        | refine WO_no rfl rfl ?_
        | refine WO_guard_t rfl rfl rfl rfl rfl (by kernel_rfl) (by kernel_rfl) ?_
        | refine Ev_pick_f rfl rfl rfl ?_
        | refine Ev_notb rfl ?_
        | refine Ev_nilCheck rfl ?_
        | refine Ev_fieldAddr rfl rfl rfl rfl rfl rfl ?_)
    refine Ev_store rfl rfl rfl rfl rfl hb'.at_ (by simp [AV.cells]) (by omega) ?_
    intro U1 un1 uq1 uf1
    have c1 := hb'.held (h' := uh) un1 uq1 uf1
    repeat (
      first
        | refine W_seq ?_
        | refine WO_nil ?_
        | refine V_seq ?_)
    refine W_drawn (by kernel_rfl) ?_
    repeat (
      first
        | refine WO_dst rfl rfl (by kernel_rfl) (by kernel_rfl) ?_
        | refine Ev_load rfl rfl rfl c1.at_ rfl c1.l.self ?_
        | refine Ev_load rfl rfl rfl c1.at_ rfl (veq_int _ _) ?_
        | refine Ev_move rfl ?_
        | refine Ev_nilCheck rfl ?_
        | refine Ev_fieldAddr rfl rfl rfl rfl rfl rfl ?_)
    refine Ev_indexAddr_rd (i := 0) rfl rfl rfl rfl rfl c1.l (by omega) ?_
    intro q3 hq3
    repeat (
      refine WO_dst rfl rfl (by kernel_rfl) (by kernel_rfl) ?_)
    refine Ev_load_pt rfl rfl rfl hq3 (map_get (show 0 < us.length by omega)) hit0.rd.self ?_
    repeat (
      first
        | refine WO_dst rfl rfl (by kernel_rfl) (by kernel_rfl) ?_
        | refine Ev_cap_it (i := us[0]) rfl rfl rfl rfl rfl hit0 ?_)
    refine Ev_subw rfl rfl ?_
    refine WO_dst rfl rfl (by kernel_rfl) (by kernel_rfl) ?_
    refine Ev_subw rfl rfl ?_
    repeat (
      first
        | refine WO_dst rfl rfl (by kernel_rfl) (by kernel_rfl) ?_
        | refine WO_no rfl rfl ?_
        | refine Ev_nilCheck rfl ?_
        | refine Ev_fieldAddr rfl rfl rfl rfl rfl rfl ?_)
    refine Ev_store rfl rfl rfl rfl rfl c1.at_ (by simp [AV.cells]) (by omega) ?_
    intro U2 un2 uq2 uf2
    obtain ⟨h2, c2⟩ : ∃ h2, Bk U2 p ul uw h2 us := ⟨_, c1.held un2 uq2 uf2⟩
    repeat (
      first
        | refine W_seq ?_
        | refine WO_nil ?_
        | refine V_seq ?_
        | refine W_region ?_
        | refine WO_dst rfl rfl (by kernel_rfl) (by kernel_rfl) ?_
        | refine Ev_load rfl rfl rfl c2.at_ rfl c2.l.self ?_
        | refine Ev_move rfl ?_
        | refine Ev_nilCheck rfl ?_
        | refine Ev_fieldAddr rfl rfl rfl rfl rfl rfl ?_)
    refine Ev_slice_a (lo := 1) rfl rfl rfl rfl rfl c2.lo h1l ?_
    intro xl hxl hxlb
    repeat (
      first
        | refine WO_dst rfl rfl (by kernel_rfl) (by kernel_rfl) ?_
        | refine WO_no rfl rfl ?_
        | refine Ev_nilCheck rfl ?_
        | refine Ev_fieldAddr rfl rfl rfl rfl rfl rfl ?_)
    refine Ev_store rfl rfl rfl (by rw [(owa_cells1 hxl).1]; rfl) (by rw [(owa_cells1 hxl).1]; exact (owa_cells1 hxl).2) c2.at_ (by rw [(owa_cells1 hxl).1]; show 0 + 1 ≤ 4; omega) (by omega) ?_
    intro U3 un3 uq3 uf3
    have at3 : U3.h.get p = some (.cells 27 [xl, uw, .int .i64 h2, .bool false] false) := uq3.trans (congrArg (fun z => some (AB.cells 27 z false)) (by rw [(owa_cells1 hxl).1]; rfl))
    have wo3' : OwA U3 uw 22 1 (us.map It.w) us.length := c2.wo.keep (fun c hc => uf3 c (fun e => c2.wp (by rw [hc, e])))
    repeat (
      first
        | refine WO_nil ?_
        | refine V_seq ?_
        | refine W_region ?_
        | refine WO_dst rfl rfl (by kernel_rfl) (by kernel_rfl) ?_
        | refine Ev_load rfl rfl rfl at3 rfl wo3'.rd.self ?_
        | refine Ev_move rfl ?_
        | refine Ev_nilCheck rfl ?_
        | refine Ev_fieldAddr rfl rfl rfl rfl rfl rfl ?_)
    refine Ev_slice_a (lo := 1) rfl rfl rfl rfl rfl wo3' h1l ?_
    intro xw hxw hxwb
    repeat (
      first
        | refine WO_dst rfl rfl (by kernel_rfl) (by kernel_rfl) ?_
        | refine WO_no rfl rfl ?_
        | refine Ev_nilCheck rfl ?_
        | refine Ev_fieldAddr rfl rfl rfl rfl rfl rfl ?_)
    refine Ev_store rfl rfl rfl (by rw [(owa_cells1 hxw).1]; rfl) (by rw [(owa_cells1 hxw).1]; exact (owa_cells1 hxw).2) at3 (by rw [(owa_cells1 hxw).1]; show 1 + 1 ≤ 4; omega) (by omega) ?_
    intro U4 un4 uq4 uf4
    have at4 : U4.h.get p = some (.cells 27 [xl, xw, .int .i64 h2, .bool false] false) := uq4.trans (congrArg (fun z => some (AB.cells 27 z false)) (by rw [(owa_cells1 hxw).1]; rfl))
    have f24 : ∀ c, c ≠ p → U4.h.get c = U2.h.get c := fun c hc => by rw [uf4 c hc, uf3 c hc]
    have ok4' : Sok U4 := sok_upd (sok_upd c2.ok (by omega) un3 at3 uf3) (by omega) un4 at4 uf4
    have c4 : Bk U4 p xl xw h2 (us.drop 1) := c2.drop1 ok4' at4 (hxl.keep (fun c hc => f24 c (fun e => c2.lp (by rw [← hxlb, hc, e])))) (hxw.keep (fun c hc => uf4 c (fun e => c2.wp (by rw [← hxwb, hc, e])))) hxlb hxwb f24
    repeat (
      first
        | refine WO_nil ?_
        | refine V_block ?_)
    have hkk := congrArg List.length hk
    simp at hkk
    refine back (xl, xw, h2, us.drop 1) U4 _ (by dsimp only; rw [List.length_drop]; omega) ⟨c4, by omega, fun c hc => by rw [f24 c hc, uf2 c hc, uf1 c hc, hTf c hc], ⟨k + 1, by dsimp only; rw [hk, List.drop_drop], by omega⟩, hxlb.trans hbl, hxwb.trans hbw⟩ ⟨rfl, rfl, trivial⟩
  · refine V_done rfl rfl ?_
    exact hend
end Go.Proofs.Ytgiinfjcpdfgiaa
/- Keeping a list whose capacity the run chooses. (NODRAWN) -/


namespace Go.Proofs.Ytgiinfjcpdfgiaa
open GX
set_option maxHeartbeats 16000000
set_option maxRecDepth 100000
theorem known_true2 {S : St} {R : AV → St → Prop} (h : R (.bool true) S) : Runs X2 11 [] S R := Runs_ext (g := extTrue) rfl rfl (Nat.le_refl _) h
/-- a book knows nothing of a block -/
structure Fre (p : Nat) (vl vw : AV) (is : List It) (b : Nat) : Prop where
  p : b ≠ p
  l : blkOf vl ≠ some b
  w : blkOf vw ≠ some b
  it : ∀ j ∈ is, blkOf j.v ≠ some b ∧ blkOf j.w ≠ some b
theorem Bk.lts {T : St} {p : Nat} {vl vw : AV} {h : Int} {is : List It} (b : Bk T p vl vw h is) : p < T.n ∧ (∀ c, blkOf vl = some c → c < T.n) ∧ (∀ c, blkOf vw = some c → c < T.n) ∧ ∀ j ∈ is, ∀ c, blkOf j.v = some c ∨ blkOf j.w = some c → c < T.n :=
  ⟨b.ok _ _ b.at_, fun _ hc => b.l.lt b.ok hc, fun _ hc => b.w.lt b.ok hc, fun j hj _ hc => hc.elim (fun hc => (b.it j hj).rd.lt b.ok hc) (fun hc => (b.it j hj).wr.lt b.ok hc)⟩
/-- a block that is new is unknown to a book -/
theorem Bk.fre {T : St} {p : Nat} {vl vw : AV} {h : Int} {is : List It} (b : Bk T p vl vw h is) {c : Nat} (hc : T.n ≤ c) : Fre p vl vw is c := by
  obtain ⟨h1, h2, h3, h4⟩ := b.lts
  refine ⟨by omega, fun e => by have := h2 _ e; omega, fun e => by have := h3 _ e; omega, fun j hj => ⟨fun e => by have := h4 j hj _ (.inl e); omega, fun e => by have := h4 j hj _ (.inr e); omega⟩⟩
/-- what a book does not know may change -/
theorem Bk.other {T U : St} {p : Nat} {vl vw : AV} {h : Int} {is : List It} (b : Bk T p vl vw h is) (hok : Sok U) (hf : ∀ c, c < T.n → ¬ Fre p vl vw is c → U.h.get c = T.h.get c) : Bk U p vl vw h is := by
  obtain ⟨h1, h2, h3, h4⟩ := b.lts
  exact ⟨hok, by rw [hf p h1 (fun f => f.p rfl)]; exact b.at_, b.lo.keep (fun c hc => hf c (h2 c hc) (fun f => f.l hc)), b.wo.keep (fun c hc => hf c (h3 c hc) (fun f => f.w hc)),
    fun i hi => (b.it i hi).keep (fun c hc => hf c (h4 i hi c (.inl hc)) (fun f => (f.it i hi).1 hc)) (fun c hc => hf c (h4 i hi c (.inr hc)) (fun f => (f.it i hi).2 hc)), b.lp, b.wp, b.lw, b.ip, b.dis, b.few⟩
theorem Bk.far {T U : St} {p : Nat} {vl vw : AV} {h : Int} {is : List It} (b : Bk T p vl vw h is) (hok : Sok U) (hf : ∀ c, c < T.n → U.h.get c = T.h.get c) : Bk U p vl vw h is := b.other hok fun c hc _ => hf c hc
theorem Bk.new {T : St} {p : Nat} (hok : Sok T) (hat : T.h.get p = some (.cells 27 [.nils, .nils, .int .i64 0, .bool false] false)) : Bk T p .nils .nils 0 [] :=
  ⟨hok, hat, .inl ⟨rfl, rfl, rfl⟩, .inl ⟨rfl, rfl, rfl⟩, fun i hi => (by cases hi), by simp [blkOf], by simp [blkOf], by simp [blkOf], fun i hi => (by cases hi), fun j k a b c h => (by simp at h), by simp⟩
/-- a list that can be kept: its own block, whose capacity the run chooses, or is known; or an empty one -/
def Kz (S : St) (v : AV) (cs : List El) : Prop :=
  Own S v 9 1 (cellsE cs) cs.length ∨ (cs = [] ∧ ∃ b o, v = .slice b o 0 (.ex 0) ∧ Es S v []) ∨ ∃ b k extra, v = .slice b 0 cs.length (.ex k) ∧ S.h.get b = some (.cells 9 (cellsE cs ++ extra) true) ∧ cs.length ≤ k ∧ k ≤ cs.length + extra.length ∧ k < 9223372036854775808
theorem ex_rd {S : St} {b k : Nat} {cs : List El} {extra : List AV} (h1 : S.h.get b = some (.cells 9 (cellsE cs ++ extra) true)) (h2 : cs.length ≤ k) : Es S (.slice b 0 cs.length (.ex k)) cs := by
  refine ⟨?_, veq_slice _ _ _ _, rfl, rfl, ?_, by rw [cellsE_len]; omega⟩
  · show Nat.ble cs.length k = true
    rw [nble]; exact decide_eq_true (by omega)
  · unfold srcCells row; dsimp only; rw [h1]; dsimp only
    rw [nble, decide_eq_true (by rw [List.length_append, cellsE_len]; omega)]
    simp only [cond_true, List.drop_zero]
    rw [List.take_append_of_le_length (by rw [cellsE_len]; omega), List.take_of_length_le (by rw [cellsE_len]; omega)]
theorem Kz.rd {S : St} {v : AV} {cs : List El} (h : Kz S v cs) : Es S v cs := by
  rcases h with h | ⟨rfl, b, o, _, h⟩ | ⟨b, k, extra, rfl, h1, h2, h3, _⟩
  · exact h.rd
  · exact h
  · exact ex_rd h1 h2
theorem Kz.keep {S S' : St} {v : AV} {cs : List El} (h : Kz S v cs) (hk : ∀ b, blkOf v = some b → S'.h.get b = S.h.get b) : Kz S' v cs := by
  rcases h with h | ⟨e, b, o, e2, h⟩ | ⟨b, k, extra, rfl, h1, h2⟩
  · exact .inl (h.keep hk)
  · exact .inr (.inl ⟨e, b, o, e2, h.keep hk⟩)
  · exact .inr (.inr ⟨b, k, extra, rfl, by rw [hk b rfl]; exact h1, h2⟩)
theorem Kz.of {S : St} {v : AV} {cs : List El} (h : Gz S v 9 1 (cellsE cs) cs.length) : Kz S v cs := by
  rcases h with h | ⟨h1, h2, b, o, h3, h4⟩
  · exact .inl h
  · have : cs = [] := List.eq_nil_of_length_eq_zero h1
    subst this
    exact .inr (.inl ⟨rfl, b, o, h3, h4⟩)
theorem Kz.nil {S : St} : Kz S .nils [] := .inl (.inl ⟨rfl, rfl, rfl⟩)
section
variable [Val] {P : Go.Program} {X : X} {n : Nat} {ks : List Kt} {Q : Ex → Env → St → Prop} {l : L} {S : St} {all os : List Go.Oper}
/-- the capacity of a list becomes known -/
theorem SWO_it {d : Nat} {v : AV} {cs : List El} (hl : lk l d = some v) (hz : Kz S v cs) (hs : cs.length ≤ 2000000) (hok : Sok S) (hdn : Nat.blt d n = true) (hn' : Nat.blt n 1000001 = true)
    (h : ∀ it S', it.w = it.v → blkOf it.v = blkOf v → ItOK S' it → Sok S' → S'.n = S.n → (∀ y, blkOf v ≠ some y → S'.h.get y = S.h.get y) → SWO P n all os ks Q ((d, it.v) :: l) S') : SWO P n all os ks Q l S := by
  have weak : SWO P n all os ks Q ((d, v) :: l) S → SWO P n all os ks Q l S := by
    intro g
    unfold SWO at g ⊢
    exact fun e φ A w R i he hA hL ho => g e φ A w R i (fun t x hx => by
      unfold lk at hx
      rw [nbeq, cond_dec] at hx
      split at hx
      · rename_i e1; subst e1; cases hx; exact he _ _ hl
      · exact he t x hx) hA hL ho
  rcases hz with (⟨rfl, h2, h3⟩ | ⟨b, rfl, hb, hlen⟩) | ⟨rfl, b, o, rfl, h2⟩ | ⟨b, k, extra, rfl, h1, h2, h3, h4⟩
  · refine weak (h ⟨.nils, 0, [], [], .nils⟩ S rfl rfl ⟨.inr ⟨rfl, rfl, .inl rfl⟩, by decide, ⟨rfl, rfl, rfl, rfl, rfl, rfl⟩, Nat.zero_le _⟩ hok rfl fun _ _ => rfl)
  · refine SWO_cap hl hb hdn hn' ?_
    intro cp extra S' k1 k2 k3 k4 k5 k6
    have hl2 := cellsE_len cs
    refine h ⟨.slice b 0 cs.length (.ex cp), cp, cs, extra, .slice b 0 cs.length (.ex cp)⟩ S' rfl rfl ⟨.inl ⟨b, rfl, k5, k1, by dsimp only; omega⟩, k2, ex_rd k5 k1, hs⟩ (sok_upd hok (hok _ _ hb) k4 k5 k6) k4 (fun y hy => k6 y (fun e => hy (by rw [e]; rfl)))
  · refine weak (h ⟨.slice b o 0 (.ex 0), 0, [], [], .slice b o 0 (.ex 0)⟩ S rfl rfl ⟨.inr ⟨rfl, rfl, .inr ⟨b, o, rfl, h2⟩⟩, (by show 0 < _; decide), h2, Nat.zero_le _⟩ hok rfl fun _ _ => rfl)
  · refine weak (h ⟨.slice b 0 cs.length (.ex k), k, cs, extra, .slice b 0 cs.length (.ex k)⟩ S rfl rfl ⟨.inl ⟨b, rfl, h1, h2, h3⟩, h4, ex_rd h1 h2, hs⟩ hok rfl fun _ _ => rfl)
end
/-- a book, what is going to be kept in it, and what stays as it is -/
structure Pd (T : St) (p : Nat) (is : List It) (ps : List (AV × List El)) (qs : List (Nat × AB)) (m : Nat) : Prop where
  ex : ∃ vl vw h, Bk T p vl vw h is ∧ (∀ x ∈ ps, ∀ c, blkOf x.1 = some c → Fre p vl vw is c) ∧ ∀ y ∈ qs, Fre p vl vw is y.1
  few : is.length ≤ m
  kz : ∀ x ∈ ps, Kz T x.1 x.2 ∧ x.2.length ≤ 2000000
  dis : ps.Pairwise fun x y => ∀ c, blkOf x.1 = some c → blkOf y.1 ≠ some c
  st : ∀ y ∈ qs, T.h.get y.1 = some y.2 ∧ ∀ x ∈ ps, blkOf x.1 ≠ some y.1
theorem Pd.ok {T : St} {p : Nat} {is : List It} {ps : List (AV × List El)} {qs : List (Nat × AB)} {m : Nat} (h : Pd T p is ps qs m) : Sok T := by
  obtain ⟨_, _, _, hb, _⟩ := h.ex
  exact hb.ok
/-- the first of what is going to be kept is looked at -/
theorem Pd.cap {T U : St} {p : Nat} {is : List It} {v : AV} {cs : List El} {ps : List (AV × List El)} {qs : List (Nat × AB)} {m : Nat} {it : It} (h : Pd T p is ((v, cs) :: ps) qs m) (hv : blkOf it.v = blkOf v) (hok : Sok U) (hf : ∀ y, blkOf v ≠ some y → U.h.get y = T.h.get y) :
    Pd U p is ps qs m ∧ (∀ c, blkOf it.v = some c → (∀ x ∈ ps, blkOf x.1 ≠ some c) ∧ ∀ y ∈ qs, y.1 ≠ c) ∧ ∃ vl vw h, Bk U p vl vw h is ∧ (∀ x ∈ ps, ∀ c, blkOf x.1 = some c → Fre p vl vw is c) ∧ (∀ y ∈ qs, Fre p vl vw is y.1) ∧ ∀ c, blkOf it.v = some c → Fre p vl vw is c := by
  obtain ⟨vl, vw, hh, hb, hfr, hq⟩ := h.ex
  obtain ⟨hd1, hd2⟩ := List.pairwise_cons.1 h.dis
  have hb2 : Bk U p vl vw hh is := hb.other hok fun c _ hc => hf c (fun e => hc (hfr _ (List.mem_cons_self ..) c e))
  have hfr2 : ∀ x ∈ ps, ∀ c, blkOf x.1 = some c → Fre p vl vw is c := fun x hx => hfr x (List.mem_cons_of_mem _ hx)
  refine ⟨⟨⟨vl, vw, hh, hb2, hfr2, hq⟩, h.few, fun x hx => ?_, hd2, fun y hy => ?_⟩, fun c hc => ⟨fun x hx => hd1 x hx c (by rw [← hv]; exact hc), fun y hy e => (h.st y hy).2 _ (List.mem_cons_self ..) (by rw [e, ← hv]; exact hc)⟩, vl, vw, hh, hb2, hfr2, hq, fun c hc => hfr _ (List.mem_cons_self ..) c (by rw [← hv]; exact hc)⟩
  · obtain ⟨k1, k2⟩ := h.kz x (List.mem_cons_of_mem _ hx)
    exact ⟨k1.keep (fun c hc => hf c (fun e => hd1 x hx c e hc)), k2⟩
  · obtain ⟨k1, k2⟩ := h.st y hy
    exact ⟨by rw [hf _ (k2 _ (List.mem_cons_self ..))]; exact k1, fun x hx => k2 x (List.mem_cons_of_mem _ hx)⟩
/-- KEEP: the first of what is going to be kept is kept -/
theorem keep_pd {T : St} {p : Nat} {is : List It} {ps : List (AV × List El)} {qs : List (Nat × AB)} {m : Nat} {it : It} (hp : Pd T p is ps qs m) (hdis : ∀ c, blkOf it.v = some c → (∀ x ∈ ps, blkOf x.1 ≠ some c) ∧ ∀ y ∈ qs, y.1 ≠ c)
    (hbk : ∃ vl vw h, Bk T p vl vw h is ∧ (∀ x ∈ ps, ∀ c, blkOf x.1 = some c → Fre p vl vw is c) ∧ (∀ y ∈ qs, Fre p vl vw is y.1) ∧ ∀ c, blkOf it.v = some c → Fre p vl vw is c) (hw : it.w = it.v) (hi : ItOK T it) (hm : m ≤ 800) (hn : T.n ≤ 800000000) :
    Runs X2 8 [.ptr p 0, it.v] T fun _ U => (∃ is', Pd U p is' ps qs (m + 1)) ∧ T.n ≤ U.n ∧ U.n ≤ T.n + 10 := by
  obtain ⟨vl, vw, h, hb, hfr, hfq, hfi⟩ := hbk
  have hi2 : ItOK T { it with w := it.v } := by
    have e : { it with w := it.v } = it := by cases it; dsimp only at hw; subst hw; rfl
    rw [e]; exact hi
  have hfew := hp.few
  refine (keep_runs hb hi2 (fun c hc => ⟨(hfi c hc).p, (hfi c hc).l, (hfi c hc).w, fun j hj => ((hfi c hc).it j hj).1⟩) (by omega) (by omega)).mono ?_
  rintro _ U - ⟨⟨vl', vw', h', w, k, hb', hk, hl1, hl2, hl3⟩, g1, g2, g3⟩
  have hlt : ∀ x ∈ ps, ∀ c, blkOf x.1 = some c → c < T.n := fun x hx c hc => (hp.kz x hx).1.rd.lt hb.ok hc
  have hfre : ∀ c, c < T.n → Fre p vl vw is c → (∀ d, blkOf it.v = some d → d ≠ c) → Fre p vl' vw' ((is ++ [{ it with w := w }]).drop k) c := fun c hc2 hf hd => by
    refine ⟨hf.p, fun e => by have := hl1 c e; omega, fun e => by have := hl2 c e; omega, fun j hj => ?_⟩
    have hj2 := List.mem_of_mem_drop hj
    rcases List.mem_append.1 hj2 with hj3 | hj3
    · exact hf.it j hj3
    · rw [List.mem_singleton] at hj3; subst hj3
      exact ⟨fun e => hd c e rfl, fun e => by have := hl3 c e; omega⟩
  have hqlt : ∀ y ∈ qs, y.1 < T.n := fun y hy => hb.ok _ _ (hp.st y hy).1
  refine ⟨⟨_, ⟨⟨vl', vw', h', hb', fun x hx c hc => hfre c (hlt x hx c hc) (hfr x hx c hc) (fun d hd e => (hdis d hd).1 x hx (by rw [e]; exact hc)), fun y hy => hfre _ (hqlt y hy) (hfq y hy) (fun d hd e => (hdis d hd).2 y hy e.symm)⟩, ?_, fun x hx => ?_, hp.dis, fun y hy => ?_⟩⟩, g1, g2⟩
  · rw [List.length_drop, List.length_append, List.length_singleton]; omega
  · obtain ⟨k1, k2⟩ := hp.kz x hx
    exact ⟨k1.keep (fun c hc => g3 c (hlt x hx c hc) (hfr x hx c hc).p (hfr x hx c hc).l (hfr x hx c hc).w), k2⟩
  · obtain ⟨k1, k2⟩ := hp.st y hy
    exact ⟨by rw [g3 _ (hqlt y hy) (hfq y hy).p (hfq y hy).l (hfq y hy).w]; exact k1, k2⟩
/-- lists in new memory are going to be kept -/
theorem Pd.more {T U : St} {p : Nat} {is : List It} {m : Nat} {ps : List (AV × List El)} {qs qs' : List (Nat × AB)} (h : Pd T p is [] qs m) (hok : Sok U) (hf : ∀ c, c < T.n → U.h.get c = T.h.get c) (hz : ∀ x ∈ ps, Kz U x.1 x.2 ∧ x.2.length ≤ 2000000) (hn : ∀ x ∈ ps, ∀ c, blkOf x.1 = some c → T.n ≤ c) (hd : ps.Pairwise fun x y => ∀ c, blkOf x.1 = some c → blkOf y.1 ≠ some c)
    (hq : ∀ y ∈ qs', T.n ≤ y.1 ∧ U.h.get y.1 = some y.2 ∧ ∀ x ∈ ps, blkOf x.1 ≠ some y.1) : Pd U p is ps (qs ++ qs') m := by
  obtain ⟨vl, vw, hh, hb, _, hfq⟩ := h.ex
  refine ⟨⟨vl, vw, hh, hb.far hok hf, fun x hx c hc => hb.fre (hn x hx c hc), fun y hy => ?_⟩, h.few, hz, hd, fun y hy => ?_⟩
  · rcases List.mem_append.1 hy with hy | hy
    · exact hfq y hy
    · exact hb.fre (hq y hy).1
  · rcases List.mem_append.1 hy with hy | hy
    · have hlt := hb.ok _ _ (h.st y hy).1
      exact ⟨by rw [hf _ hlt]; exact (h.st y hy).1, fun x hx e => by have := hn x hx _ e; omega⟩
    · exact (hq y hy).2
theorem Pd.less {T : St} {p : Nat} {is : List It} {m : Nat} {ps : List (AV × List El)} {qs qs' : List (Nat × AB)} (h : Pd T p is ps (qs ++ qs') m) : Pd T p is ps qs m := by
  obtain ⟨vl, vw, hh, hb, hfr, hfq⟩ := h.ex
  exact ⟨⟨vl, vw, hh, hb, hfr, fun y hy => hfq y (List.mem_append_left _ hy)⟩, h.few, h.kz, h.dis, fun y hy => h.st y (List.mem_append_left _ hy)⟩
theorem Pd.start {T : St} {p : Nat} {qs : List (Nat × AB)} (hok : Sok T) (hat : T.h.get p = some (.cells 27 [.nils, .nils, .int .i64 0, .bool false] false)) (hq : ∀ y ∈ qs, T.h.get y.1 = some y.2 ∧ y.1 ≠ p) : Pd T p [] [] qs 0 :=
  ⟨⟨_, _, _, Bk.new hok hat, fun x hx => (by cases hx), fun y hy => ⟨(hq y hy).2, by simp [blkOf], by simp [blkOf], fun j hj => by cases hj⟩⟩, Nat.le_refl _, fun x hx => (by cases hx), .nil, fun y hy => ⟨(hq y hy).1, fun x hx => by cases hx⟩⟩
theorem apart_pd {S : St} {p : Nat} {is : List It} {m : Nat} {qs : List (Nat × AB)} (h : Pd S p is [] qs m) (hn : S.n ≤ 900000000) : Runs X2 9 [.ptr p 0, .func (.func 10) [] []] S fun r _ => r = .bool true := by
  obtain ⟨vl, vw, hh, hb, _⟩ := h.ex
  exact apart_runs hb hn
end Go.Proofs.Ytgiinfjcpdfgiaa
/- frames: Push of one text, Pop of one, Set of the first one. (NODRAWN) -/



namespace Go.Proofs.Ytgiinfjcpdfgiaa
open GX
set_option maxHeartbeats 16000000
set_option maxRecDepth 100000
theorem f_one {a : Int} {w1 w2 : AV} (h1 : AV.one w1 = true) (h2 : AV.one w2 = true) : (AV.agg (fcells a w1 w2)).cells.all AV.one = true := by
  show (AV.one (.int .i64 a) && (AV.one w1 && (AV.one w2 && true))) = true
  rw [h1, h2]; rfl
theorem kz_one {S : St} {v : AV} {cs : List El} (h : Kz S v cs) : AV.one v = true := rd_one h.rd
theorem kz_cells {S : St} {v : AV} {cs : List El} (h : Kz S v cs) : v.cells = [v] ∧ [v].all AV.one = true := by
  have h1 := kz_one h
  refine ⟨?_, by simp [h1]⟩
  have := h.rd.sl
  cases v <;> first | rfl | cases this
/-- a frame in new memory, and what else is answered -/
structure FrmO (S : St) (a : Int) (cs1 cs2 : List El) (w1 w2 : AV) (k : Nat) (S' : St) : Prop where
  fr : Fr S S' .nils k
  l : Kz S' w1 cs1
  s : Kz S' w2 cs2
  bl : ∀ c, blkOf w1 = some c → S.n ≤ c ∧ blkOf w2 ≠ some c
  bs : ∀ c, blkOf w2 = some c → S.n ≤ c
/-- Push of one text -/
theorem push_runs {S : St} {a most : Int} {v1 v2 v : AV} {cs1 cs2 : List El} {x : El} (hok : Sok S) (h1 : Es S v1 cs1) (h2 : Es S v2 cs2) (h3 : Es S v [x]) (hm : most = ((cs2.length : Nat) : Int) + 1) (hb : cs1.length ≤ 100000000 ∧ cs2.length ≤ 100000000) (hn : S.n + 20 ≤ 1000000000) :
    Runs X1 5 [.agg (fcells a v1 v2), .int .i64 most, v] S fun r S' => ∃ w1 w2, r = .tup [.agg (fcells a w1 w2), .int .i64 0] ∧ FrmO S a cs1 (cs2 ++ [x]) w1 w2 12 S' := by
  subst hm
  refine Runs_fn (m := 26) (by kernel_rfl) Try.func5 rfl (by kernel_rfl) (by kernel_rfl) ?_
  repeat (
    first
      | refine W_seq ?_
      | refine W_region ?_
      | refine WO_dst rfl rfl (by kernel_rfl) (by kernel_rfl) ?_)
  refine Ev_box rfl hok (by omega) ?_
  intro S1 n1 ok1 q1 f1
  repeat (
    refine WO_dst rfl rfl (by kernel_rfl) (by kernel_rfl) ?_)
  refine Ev_alloc_ rfl ok1 (by omega) ?_
  intro S2 n2 ok2 q2 f2
  have at2 : S2.h.get S.n = some (.cells 24 (fcells a v1 v2) false) := by rw [f2 _ (by omega)]; exact q1
  have k2 : ∀ c, c < S.n → S2.h.get c = S.h.get c := fun c hc => by rw [f2 c (by omega), f1 c hc]
  have e1 : Es S2 v1 cs1 := h1.keep (fun c hc => k2 c (h1.lt hok hc))
  have e2 : Es S2 v2 cs2 := h2.keep (fun c hc => k2 c (h2.lt hok hc))
  have e3 : Es S2 v [x] := h3.keep (fun c hc => k2 c (h3.lt hok hc))
  have hl3 : slen v = some 1 := e3.len
  have hxl : [x].length = 1 := rfl
  repeat' (
    first
      | refine W_seq ?_
      | refine WO_nil ?_
      | refine V_seq ?_
      | refine W_region ?_
      | refine W_skip ?_
      | refine WO_dst rfl rfl (by kernel_rfl) (by kernel_rfl) ?_
      | refine Ev_load rfl rfl rfl at2 rfl e2.self ?_
      | refine Ev_len rfl rfl rfl rfl rfl e2.len ?_
      | refine Ev_len rfl rfl rfl rfl rfl hl3 ?_
      | refine Ev_move rfl ?_
      | refine Ev_assign rfl ?_
      | refine Ev_gtrN rfl rfl ?_
      | refine Ev_fieldAddr rfl rfl rfl rfl rfl rfl ?_
      | refine Ev_addN rfl rfl (by simp only [lim]; omega) ?_
      | (refine W_cond rfl (fun hc => ?_) (fun hc => ?_) <;> (try dsimp only at hc) <;> try (exfalso; first | omega | exact hc rfl)))
  refine Ev_load_agg (ds := fcells a v1 v2) rfl rfl rfl at2 (by show 0 + 3 ≤ 3; decide) rfl (fcells_veqs e1.self e2.self) ?_
  repeat (
    refine WO_dst rfl rfl (by kernel_rfl) (by kernel_rfl) ?_)
  refine Ev_call rfl rfl ((copied_runs ok2 e1 e2 ⟨by omega, by omega⟩ (by omega)).mono ?_)
  rintro _ S3 - ⟨F3, w1, w2, rfl, z1, z2, b1, b2⟩
  have g3n := F3.n
  have g3l := F3.le
  repeat (
    refine WO_dst rfl rfl (by kernel_rfl) (by kernel_rfl) ?_)
  refine Ev_alloc_ rfl F3.ok (by omega) ?_
  intro S4 n4 ok4 q4 f4
  repeat (
    refine WO_no rfl rfl ?_)
  refine Ev_store rfl rfl rfl rfl (f_one (gs_one z1) (gs_one z2)) q4 (by show 0 + 3 ≤ 3; decide) (by omega) ?_
  intro S5 n5 q5 f5
  have at5 : S5.h.get S3.n = some (.cells 24 (fcells a w1 w2) false) := q5
  have ok5 : Sok S5 := sok_upd ok4 (by omega) n5 q5 f5
  have k5 : ∀ c, c < S3.n → S5.h.get c = S3.h.get c := fun c hc => by rw [f5 c (by omega), f4 c hc]
  have y1 : Gs S5 w1 cs1 := z1.keep (fun c hc => k5 c (z1.lt F3.ok hc))
  have y2 : Gs S5 w2 cs2 := z2.keep (fun c hc => k5 c (z2.lt F3.ok hc))
  have e35 : Es S5 v [x] := e3.keep (fun c hc => by have := e3.lt ok2 hc; rw [k5 c (by omega), fr_nil F3 this])
  repeat' (
    first
      | refine W_seq ?_
      | refine WO_nil ?_
      | refine V_seq ?_
      | refine W_region ?_
      | refine WO_dst rfl rfl (by kernel_rfl) (by kernel_rfl) ?_
      | refine Ev_load rfl rfl rfl at5 rfl y2.rd.self ?_
      | refine Ev_move rfl ?_
      | refine Ev_fieldAddr rfl rfl rfl rfl rfl rfl ?_)
  refine Ev_append_gz rfl rfl rfl rfl rfl rfl rfl rfl rfl rfl y2 e35 (cellsE_one _) ok5 (by omega) (by dsimp only; omega) (by omega) ?_
  intro w3 S6 le6 n6 ok6 gz6 f6 b6
  have p6 : Gs S6 w3 (cs2 ++ [x]) := gz6.eq (cellsE_app _ _).symm (by simp)
  have w1lt : ∀ c, blkOf w1 = some c → S.n + 2 ≤ c ∧ c < S3.n := fun c hc => ⟨by have := (b1 c hc).1; omega, z1.lt F3.ok hc⟩
  have w2lt : ∀ c, blkOf w2 = some c → S.n + 2 ≤ c ∧ c < S3.n := fun c hc => ⟨by have := b2 c hc; omega, z2.lt F3.ok hc⟩
  have w3b : ∀ c, blkOf w3 = some c → S.n + 2 ≤ c ∧ c ≠ S3.n ∧ c < S6.n ∧ blkOf w1 ≠ some c := fun c hc => by
    refine ⟨?_, ?_, p6.lt ok6 hc, ?_⟩
    · rcases b6 c hc with h | h
      · have := w2lt c h; omega
      · omega
    · rcases b6 c hc with h | h
      · have := w2lt c h; omega
      · omega
    · intro e
      rcases b6 c hc with h | h
      · exact (b1 c e).2 h
      · have := w1lt c e; omega
  have at6 : S6.h.get S3.n = some (.cells 24 (fcells a w1 w2) false) := by rw [f6 _ (fun e => by have := w2lt _ e; omega) (by omega)]; exact at5
  have p1 : Gs S6 w1 cs1 := y1.keep (fun c hc => f6 c (fun e => (b1 c hc).2 e) (by have := w1lt c hc; omega))
  repeat (
    first
      | refine WO_dst rfl rfl (by kernel_rfl) (by kernel_rfl) ?_
      | refine WO_no rfl rfl ?_
      | refine Ev_fieldAddr rfl rfl rfl rfl rfl rfl ?_)
  refine Ev_store rfl rfl rfl (by rw [(gs_cells p6).1]; rfl) (by rw [(gs_cells p6).1]; exact (gs_cells p6).2) at6 (by rw [(gs_cells p6).1]; show 2 + 1 ≤ 3; omega) (by omega) ?_
  intro S7 n7 q7 f7
  have at7 : S7.h.get S3.n = some (.cells 24 (fcells a w1 w3) false) := q7.trans (congrArg (fun z => some (AB.cells 24 z false)) (by rw [(gs_cells p6).1]; rfl))
  have ok7 : Sok S7 := sok_upd ok6 (by omega) n7 at7 f7
  have p17 : Gs S7 w1 cs1 := p1.keep (fun c hc => f7 c (by have := w1lt c hc; omega))
  have p37 : Gs S7 w3 (cs2 ++ [x]) := p6.keep (fun c hc => f7 c (w3b c hc).2.1)
  repeat (
    first
      | refine W_seq ?_
      | refine WO_nil ?_
      | refine V_seq ?_
      | refine W_region ?_
      | refine WO_dst rfl rfl (by kernel_rfl) (by kernel_rfl) ?_)
  refine Ev_load_agg (ds := fcells a w1 w3) rfl rfl rfl at7 (by show 0 + 3 ≤ 3; decide) rfl (fcells_veqs p17.rd.self p37.rd.self) ?_
  repeat (
    refine WO_no rfl rfl ?_)
  have hq7 : S7.h.get (S.n + 1) = some (.cells 24 [.int .i64 0, .nils, .nils] false) := by
    rw [f7 _ (by omega), f6 _ (fun e => by have := w2lt _ e; omega) (by omega), k5 _ (by omega), fr_nil F3 (by omega), ← n1]; exact q2
  refine Ev_store rfl rfl rfl rfl (f_one (gs_one p17) (gs_one p37)) (by rw [n1]; exact hq7) (by show 0 + 3 ≤ 3; decide) (by omega) ?_
  intro S8 n8 q8 f8
  rw [n1] at q8 f8
  have ok8 : Sok S8 := sok_upd ok7 (by omega) n8 q8 f8
  repeat (
    first
      | refine WO_nil ?_
      | refine V_seq ?_
      | refine W_ret ?_
      | refine WO_dst rfl rfl (by kernel_rfl) (by kernel_rfl) ?_
      | refine Ev_assign rfl ?_)
  refine V_done_ct rfl rfl (loadAt_f (a := a) (v := w1) (w := w3) (by rw [n1]; exact q8)) rfl ?_
  refine ⟨w1, w3, rfl, ⟨⟨by omega, by omega, ok8, fun c _ hc => ?_⟩, .of (p17.keep (fun c hc => f8 c (by have := w1lt c hc; omega))), .of (p37.keep (fun c hc => f8 c (by have := (w3b c hc).1; omega))), fun c hc => ⟨by have := w1lt c hc; omega, fun e => (w3b c e).2.2.2 hc⟩, fun c hc => by have := (w3b c hc).1; omega⟩⟩
  rw [f8 c (by omega), f7 c (by omega), f6 c (fun e => by have := w2lt c e; omega) (by omega), k5 c (by omega), fr_nil F3 (by omega), k2 c hc]
end Go.Proofs.Ytgiinfjcpdfgiaa
/- frames: Pop of one text, Set of the first one. (NODRAWN) -/


namespace Go.Proofs.Ytgiinfjcpdfgiaa
open GX
set_option maxHeartbeats 16000000
set_option maxRecDepth 100000
theorem Ev_slice_op3 {X : X} {l : L} {S : St} {R : AV → St → Prop} {x y z : Go.Operand} {t b k m : Nat} {kk kk' : Go.IntKind} {ti ei : TI} {el : Nat} (hx : od l x = some (.slice b 0 k (.op 1))) (hy : od l y = some (.int kk ((m : Nat) : Int))) (hz : od l z = some (.int kk' ((m : Nat) : Int))) (hm : m ≤ k) (hti : X.ti t = some ti) (hd : ti.desc = .slice el) (he' : X.ti el = some ei) (hR : R (.slice b 0 m (.ex m)) S) :
    Ev X l S (.slice t x none (some y) (some z)) R := by
  refine Ev_slice hx rfl (by unfold odopt; dsimp only; rw [hy]) (by unfold odopt; dsimp only; rw [hz]) hti hd he' rfl (r := .slice b 0 m (.ex m)) ?_ hR
  unfold aslice
  dsimp only
  rw [hti]; dsimp only; rw [hd]; dsimp only; rw [he']; dsimp only
  have h1 : bound (.int kk' ((m : Nat) : Int)) k = some m := by
    show (bif Nat.ble m k then some m else none) = some m
    rw [nble, decide_eq_true hm]; rfl
  have h2 : bounds k m none (some (.int kk ((m : Nat) : Int))) = some (0, m) := by
    unfold bounds
    dsimp only
    have : bound (.int kk ((m : Nat) : Int)) m = some m := by
      show (bif Nat.ble m m then some m else none) = some m
      rw [nble, decide_eq_true (Nat.le_refl m)]; rfl
    rw [this]
  rw [h1]; dsimp only; rw [h2]; dsimp only
  have e : (bif Nat.beq m 0 then 0 else 0 + 0 * ei.size) = 0 := by cases Nat.beq m 0 <;> simp
  rw [e]; rfl
/-- Pop of one text -/
theorem pop_runs {S : St} {a : Int} {v1 v2 : AV} {cs1 cs2 : List El} (hok : Sok S) (h1 : Es S v1 cs1) (h2 : Es S v2 cs2) (hp : 0 < cs2.length) (hb : cs1.length ≤ 100000000 ∧ cs2.length ≤ 100000000) (hn : S.n + 20 ≤ 1000000000) :
    Runs X1 6 [.agg (fcells a v1 v2), .int .i64 1] S fun r S' => ∃ w1 w2 w3 cs3, r = .tup [.agg (fcells a w1 w2), w3, .int .i64 0] ∧ FrmO S a cs1 (cs2.take (cs2.length - 1)) w1 w2 12 S' ∧ Kz S' w3 cs3 ∧ cs3.length ≤ 1 ∧ ∀ c, blkOf w3 = some c → S.n ≤ c ∧ blkOf w1 ≠ some c ∧ blkOf w2 ≠ some c := by
  refine Runs_fn (m := 40) (by kernel_rfl) Try.func6 rfl (by kernel_rfl) (by kernel_rfl) ?_
  repeat (
    first
      | refine W_seq ?_
      | refine W_region ?_
      | refine WO_dst rfl rfl (by kernel_rfl) (by kernel_rfl) ?_)
  refine Ev_box rfl hok (by omega) ?_
  intro S1 n1 ok1 q1 f1
  repeat (
    refine WO_dst rfl rfl (by kernel_rfl) (by kernel_rfl) ?_)
  refine Ev_alloc_ rfl ok1 (by omega) ?_
  intro S2 n2 ok2 q2 f2
  have at2 : S2.h.get S.n = some (.cells 24 (fcells a v1 v2) false) := by rw [f2 _ (by omega)]; exact q1
  have k2 : ∀ c, c < S.n → S2.h.get c = S.h.get c := fun c hc => by rw [f2 c (by omega), f1 c hc]
  have e1 : Es S2 v1 cs1 := h1.keep (fun c hc => k2 c (h1.lt hok hc))
  have e2 : Es S2 v2 cs2 := h2.keep (fun c hc => k2 c (h2.lt hok hc))
  repeat' (
    first
      | refine W_seq ?_
      | refine WO_nil ?_
      | refine V_seq ?_
      | refine W_region ?_
      | refine W_skip ?_
      | refine WO_dst rfl rfl (by kernel_rfl) (by kernel_rfl) ?_
      | refine WO_guard_t rfl rfl rfl rfl rfl (by kernel_rfl) (by kernel_rfl) ?_
      | refine Ev_load rfl rfl rfl at2 rfl e2.self ?_
      | refine Ev_len rfl rfl rfl rfl rfl e2.len ?_
      | refine Ev_move rfl ?_
      | refine Ev_assign rfl ?_
      | refine Ev_pick_f rfl rfl rfl ?_
      | refine Ev_lssN rfl rfl ?_
      | refine Ev_gtrN rfl rfl ?_
      | refine Ev_fieldAddr rfl rfl rfl rfl rfl rfl ?_
      | (refine W_cond rfl (fun hc => ?_) (fun hc => ?_) <;> (try dsimp only at hc) <;> try (exfalso; first | omega | exact hc rfl)))
  refine Ev_load_agg (ds := fcells a v1 v2) rfl rfl rfl at2 (by show 0 + 3 ≤ 3; decide) rfl (fcells_veqs e1.self e2.self) ?_
  repeat (
    refine WO_dst rfl rfl (by kernel_rfl) (by kernel_rfl) ?_)
  refine Ev_call rfl rfl ((copied_runs ok2 e1 e2 ⟨by omega, by omega⟩ (by omega)).mono ?_)
  rintro _ S3 - ⟨F3, w1, w2, rfl, z1, z2, b1, b2⟩
  have g3n := F3.n
  have g3l := F3.le
  repeat (
    refine WO_dst rfl rfl (by kernel_rfl) (by kernel_rfl) ?_)
  refine Ev_alloc_ rfl F3.ok (by omega) ?_
  intro S4 n4 ok4 q4 f4
  repeat (
    refine WO_no rfl rfl ?_)
  refine Ev_store rfl rfl rfl rfl (f_one (gs_one z1) (gs_one z2)) q4 (by show 0 + 3 ≤ 3; decide) (by omega) ?_
  intro S5 n5 q5 f5
  have at5 : S5.h.get S3.n = some (.cells 24 (fcells a w1 w2) false) := q5
  have ok5 : Sok S5 := sok_upd ok4 (by omega) n5 q5 f5
  have k5 : ∀ c, c < S3.n → S5.h.get c = S3.h.get c := fun c hc => by rw [f5 c (by omega), f4 c hc]
  have y1 : Gs S5 w1 cs1 := z1.keep (fun c hc => k5 c (z1.lt F3.ok hc))
  have y2 : Gs S5 w2 cs2 := z2.keep (fun c hc => k5 c (z2.lt F3.ok hc))
  have at25 : S5.h.get S.n = some (.cells 24 (fcells a v1 v2) false) := by rw [k5 _ (by omega), fr_nil F3 (by omega)]; exact at2
  have w1lt : ∀ c, blkOf w1 = some c → S.n + 2 ≤ c ∧ c < S3.n := fun c hc => ⟨by have := (b1 c hc).1; omega, z1.lt F3.ok hc⟩
  have w2lt : ∀ c, blkOf w2 = some c → S.n + 2 ≤ c ∧ c < S3.n := fun c hc => ⟨by have := b2 c hc; omega, z2.lt F3.ok hc⟩
  rcases y2.own hp with ⟨_, _, h0⟩ | ⟨bw, hw2, hbw, hlw⟩
  · omega
  have e25 : Es S5 v2 cs2 := e2.keep (fun c hc => by have := e2.lt ok2 hc; rw [k5 c (by omega), fr_nil F3 this])
  repeat' (
    first
      | refine W_seq ?_
      | refine WO_nil ?_
      | refine V_seq ?_
      | refine W_region ?_
      | refine WO_dst rfl rfl (by kernel_rfl) (by kernel_rfl) ?_
      | refine Ev_load rfl rfl rfl at25 rfl e25.self ?_
      | refine Ev_len rfl rfl rfl rfl rfl e25.len ?_
      | refine Ev_load rfl rfl rfl at5 rfl y2.rd.self ?_
      | refine Ev_move rfl ?_
      | refine Ev_assign rfl ?_
      | refine Ev_fieldAddr rfl rfl rfl rfl rfl rfl ?_
      | refine Ev_subN rfl rfl (by simp only [lim]; omega) (by first | omega | (dsimp only; done) | (dsimp only; omega)) ?_)
  refine Ev_slice_lo (lo := cs2.length - 1) rfl rfl rfl rfl rfl y2.rd (by omega) ?_
  intro sl hsl hslb
  have hsl' : Es S5 sl (cs2.drop (cs2.length - 1)) := hsl.eq (by unfold cellsE; rw [List.map_drop, Nat.mul_one]) (by rw [List.length_drop])
  have hll : (cs2.drop (cs2.length - 1)).length ≤ 1 := by rw [List.length_drop]; omega
  repeat (
    refine WO_dst rfl rfl (by kernel_rfl) (by kernel_rfl) ?_)
  refine Ev_call rfl rfl ((clone_runs ok5 hsl' (by omega) (by omega)).mono ?_)
  rintro w3 S6 - ⟨F6, z6, b6⟩
  have g6n := F6.n
  have g6l := F6.le
  have at6 : S6.h.get S3.n = some (.cells 24 (fcells a w1 w2) false) := by rw [fr_nil F6 (by omega)]; exact at5
  have x1 : Gs S6 w1 cs1 := y1.keep (fun c hc => fr_nil F6 (y1.lt ok5 hc))
  have x2 : Gs S6 w2 cs2 := y2.keep (fun c hc => fr_nil F6 (y2.lt ok5 hc))
  repeat' (
    first
      | refine W_seq ?_
      | refine WO_nil ?_
      | refine V_seq ?_
      | refine W_region ?_
      | refine WO_dst rfl rfl (by kernel_rfl) (by kernel_rfl) ?_
      | refine Ev_load rfl rfl rfl at6 rfl x2.rd.self ?_
      | refine Ev_move rfl ?_
      | refine Ev_assign rfl ?_
      | refine Ev_fieldAddr rfl rfl rfl rfl rfl rfl ?_)
  refine Ev_slice_op3 (b := bw) (k := cs2.length) (m := cs2.length - 1) (congrArg some hw2) rfl rfl (by omega) rfl rfl rfl ?_
  have hb6 : S6.h.get bw = some (.cells 9 (cellsE cs2) true) := by rw [fr_nil F6 (by have := w2lt bw (by rw [hw2]; rfl); omega)]; exact hbw
  have hbb := w2lt bw (by rw [hw2]; rfl)
  repeat (
    first
      | refine WO_dst rfl rfl (by kernel_rfl) (by kernel_rfl) ?_
      | refine WO_no rfl rfl ?_
      | refine Ev_fieldAddr rfl rfl rfl rfl rfl rfl ?_)
  refine Ev_store rfl rfl rfl rfl rfl at6 (by show 2 + 1 ≤ 3; omega) (by omega) ?_
  intro S7 n7 q7 f7
  have at7 : S7.h.get S3.n = some (.cells 24 (fcells a w1 (.slice bw 0 (cs2.length - 1) (.ex (cs2.length - 1)))) false) := q7
  have ok7 : Sok S7 := sok_upd F6.ok (by omega) n7 at7 f7
  have p1 : Gs S7 w1 cs1 := x1.keep (fun c hc => f7 c (by have := w1lt c hc; omega))
  have hb7 : S7.h.get bw = some (.cells 9 (cellsE (cs2.take (cs2.length - 1)) ++ cellsE (cs2.drop (cs2.length - 1))) true) := by
    rw [f7 bw (by omega), hb6, ← cellsE_app, List.take_append_drop]
  have htl : (cs2.take (cs2.length - 1)).length = cs2.length - 1 := by rw [List.length_take]; omega
  have p2 : Kz S7 (.slice bw 0 (cs2.length - 1) (.ex (cs2.length - 1))) (cs2.take (cs2.length - 1)) :=
    .inr (.inr ⟨bw, cs2.length - 1, cellsE (cs2.drop (cs2.length - 1)), by rw [htl], hb7, by omega, by omega, by omega⟩)
  have p3 : Gs S7 w3 (cs2.drop (cs2.length - 1)) := z6.keep (fun c hc => f7 c (by have := b6 c hc; omega))
  repeat (
    first
      | refine W_seq ?_
      | refine WO_nil ?_
      | refine V_seq ?_
      | refine W_region ?_
      | refine WO_dst rfl rfl (by kernel_rfl) (by kernel_rfl) ?_)
  refine Ev_load_agg (ds := fcells a w1 (.slice bw 0 (cs2.length - 1) (.ex (cs2.length - 1)))) rfl rfl rfl at7 (by show 0 + 3 ≤ 3; decide) rfl (fcells_veqs p1.rd.self p2.rd.self) ?_
  repeat (
    first
      | refine WO_dst rfl rfl (by kernel_rfl) (by kernel_rfl) ?_
      | refine WO_no rfl rfl ?_
      | refine Ev_move rfl ?_)
  have hq7 : S7.h.get (S.n + 1) = some (.cells 24 [.int .i64 0, .nils, .nils] false) := by
    rw [f7 _ (by omega), fr_nil F6 (by omega), k5 _ (by omega), fr_nil F3 (by omega), ← n1]; exact q2
  refine Ev_store rfl rfl rfl rfl (f_one (gs_one p1) rfl) (by rw [n1]; exact hq7) (by show 0 + 3 ≤ 3; decide) (by omega) ?_
  intro S8 n8 q8 f8
  rw [n1] at q8 f8
  have ok8 : Sok S8 := sok_upd ok7 (by omega) n8 q8 f8
  repeat (
    first
      | refine WO_nil ?_
      | refine V_seq ?_
      | refine W_ret ?_
      | refine WO_dst rfl rfl (by kernel_rfl) (by kernel_rfl) ?_
      | refine Ev_assign rfl ?_)
  refine V_done_ctt rfl rfl (loadAt_f (a := a) (v := w1) (w := .slice bw 0 (cs2.length - 1) (.ex (cs2.length - 1))) (by rw [n1]; exact q8)) rfl rfl ?_
  have b6' : ∀ c, blkOf w3 = some c → S3.n < c := fun c hc => by have := b6 c hc; omega
  refine ⟨w1, _, w3, _, rfl, ⟨⟨by omega, by omega, ok8, fun c _ hc => ?_⟩, .of (p1.keep (fun c hc => f8 c (by have := w1lt c hc; omega))), p2.keep (fun c hc => by cases hc; exact f8 bw (by omega)), fun c hc => ⟨by have := w1lt c hc; omega, fun e => by cases e; exact (b1 bw hc).2 (by rw [hw2]; rfl)⟩, fun c hc => by cases hc; omega⟩, .of (p3.keep (fun c hc => f8 c (by have := b6' c hc; omega))), hll, fun c hc => ⟨by have := b6' c hc; omega, fun e => by have := b6' c hc; have := w1lt c e; omega, fun e => by cases e; have := b6' bw hc; omega⟩⟩
  rw [f8 c (by omega), f7 c (by omega), fr_nil F6 (by omega), k5 c (by omega), fr_nil F3 (by omega), k2 c hc]
end Go.Proofs.Ytgiinfjcpdfgiaa
/- frames: Set of the first one. (NODRAWN) -/


namespace Go.Proofs.Ytgiinfjcpdfgiaa
open GX
set_option maxHeartbeats 16000000
set_option maxRecDepth 100000
/-- Set of the first local, or none -/
theorem set_runs {S : St} {a : Int} {v1 v2 : AV} {cs1 cs2 : List El} {x : El} (hok : Sok S) (h1 : Es S v1 cs1) (h2 : Es S v2 cs2) (hb : cs1.length ≤ 100000000 ∧ cs2.length ≤ 100000000) (hn : S.n + 20 ≤ 1000000000) :
    Runs X1 7 [.agg (fcells a v1 v2), .int .i64 0, .str x] S fun r S' => ∃ a' w1 w2 ds1 ds2 e, r = .tup [.agg (fcells a' w1 w2), .int .i64 e] ∧ FrmO S a' ds1 ds2 w1 w2 12 S' ∧ ds1.length ≤ cs1.length ∧ ds2.length ≤ cs2.length := by
  refine Runs_fn (m := 27) (by kernel_rfl) Try.func7 rfl (by kernel_rfl) (by kernel_rfl) ?_
  repeat (
    first
      | refine W_seq ?_
      | refine W_region ?_
      | refine WO_dst rfl rfl (by kernel_rfl) (by kernel_rfl) ?_)
  refine Ev_box rfl hok (by omega) ?_
  intro S1 n1 ok1 q1 f1
  repeat (
    refine WO_dst rfl rfl (by kernel_rfl) (by kernel_rfl) ?_)
  refine Ev_alloc_ rfl ok1 (by omega) ?_
  intro S2 n2 ok2 q2 f2
  have at2 : S2.h.get S.n = some (.cells 24 (fcells a v1 v2) false) := by rw [f2 _ (by omega)]; exact q1
  have k2 : ∀ c, c < S.n → S2.h.get c = S.h.get c := fun c hc => by rw [f2 c (by omega), f1 c hc]
  have e1 : Es S2 v1 cs1 := h1.keep (fun c hc => k2 c (h1.lt hok hc))
  have e2 : Es S2 v2 cs2 := h2.keep (fun c hc => k2 c (h2.lt hok hc))
  repeat' (
    first
      | refine W_seq ?_
      | refine WO_nil ?_
      | refine V_seq ?_
      | refine W_region ?_
      | refine W_skip ?_
      | refine WO_dst rfl rfl (by kernel_rfl) (by kernel_rfl) ?_
      | refine WO_guard_t rfl rfl rfl rfl rfl (by kernel_rfl) (by kernel_rfl) ?_
      | refine Ev_load rfl rfl rfl at2 rfl e1.self ?_
      | refine Ev_len rfl rfl rfl rfl rfl e1.len ?_
      | refine Ev_move rfl ?_
      | refine Ev_assign rfl ?_
      | refine Ev_pick_f rfl rfl rfl ?_
      | refine Ev_lssN rfl rfl ?_
      | refine Ev_geqN rfl rfl ?_
      | refine Ev_fieldAddr rfl rfl rfl rfl rfl rfl ?_
      | (refine W_cond rfl (fun hc => ?_) (fun hc => ?_) <;> (try dsimp only at hc) <;> try (exfalso; first | omega | exact hc rfl)))
  · refine Ev_build (v := .agg (fcells 0 .nils .nils)) rfl rfl ?_
    repeat (
      refine WO_no rfl rfl ?_)
    have hq2 : S2.h.get (S.n + 1) = some (.cells 24 [.int .i64 0, .nils, .nils] false) := by rw [← n1]; exact q2
    refine Ev_store rfl rfl rfl rfl (f_one rfl rfl) (by rw [n1]; exact hq2) (by show 0 + 3 ≤ 3; decide) (by omega) ?_
    intro S8 n8 q8 f8
    rw [n1] at q8 f8
    have ok8 : Sok S8 := sok_upd ok2 (by omega) n8 q8 f8
    repeat (
      first
        | refine WO_nil ?_
        | refine V_seq ?_
        | refine W_ret ?_
        | refine V_ret ?_
        | refine WO_dst rfl rfl (by kernel_rfl) (by kernel_rfl) ?_
        | refine Ev_assign rfl ?_)
    refine V_done_ct rfl rfl (loadAt_f (a := 0) (v := .nils) (w := .nils) (by rw [n1]; exact q8)) rfl ?_
    exact ⟨0, .nils, .nils, [], [], _, rfl, ⟨⟨by omega, by omega, ok8, fun c _ hc => by rw [f8 c (by omega), k2 c hc]⟩, .nil, .nil, fun c hc => (by cases hc), fun c hc => (by cases hc)⟩, Nat.zero_le _, Nat.zero_le _⟩
  have hp : 0 < cs1.length := by omega
  refine Ev_load_agg (ds := fcells a v1 v2) rfl rfl rfl at2 (by show 0 + 3 ≤ 3; decide) rfl (fcells_veqs e1.self e2.self) ?_
  repeat (
    refine WO_dst rfl rfl (by kernel_rfl) (by kernel_rfl) ?_)
  refine Ev_call rfl rfl ((copied_runs ok2 e1 e2 ⟨by omega, by omega⟩ (by omega)).mono ?_)
  rintro _ S3 - ⟨F3, w1, w2, rfl, z1, z2, b1, b2⟩
  have g3n := F3.n
  have g3l := F3.le
  repeat (
    refine WO_dst rfl rfl (by kernel_rfl) (by kernel_rfl) ?_)
  refine Ev_alloc_ rfl F3.ok (by omega) ?_
  intro S4 n4 ok4 q4 f4
  repeat (
    refine WO_no rfl rfl ?_)
  refine Ev_store rfl rfl rfl rfl (f_one (gs_one z1) (gs_one z2)) q4 (by show 0 + 3 ≤ 3; decide) (by omega) ?_
  intro S5 n5 q5 f5
  have at5 : S5.h.get S3.n = some (.cells 24 (fcells a w1 w2) false) := q5
  have ok5 : Sok S5 := sok_upd ok4 (by omega) n5 q5 f5
  have k5 : ∀ c, c < S3.n → S5.h.get c = S3.h.get c := fun c hc => by rw [f5 c (by omega), f4 c hc]
  have y1 : Gs S5 w1 cs1 := z1.keep (fun c hc => k5 c (z1.lt F3.ok hc))
  have y2 : Gs S5 w2 cs2 := z2.keep (fun c hc => k5 c (z2.lt F3.ok hc))
  have w1lt : ∀ c, blkOf w1 = some c → S.n + 2 ≤ c ∧ c < S3.n := fun c hc => ⟨by have := (b1 c hc).1; omega, z1.lt F3.ok hc⟩
  have w2lt : ∀ c, blkOf w2 = some c → S.n + 2 ≤ c ∧ c < S3.n := fun c hc => ⟨by have := b2 c hc; omega, z2.lt F3.ok hc⟩
  rcases y1.own hp with ⟨_, _, h0⟩ | ⟨bw, hw1, hbw, hlw⟩
  · omega
  have hbb := w1lt bw (by rw [hw1]; rfl)
  repeat' (
    first
      | refine W_seq ?_
      | refine WO_nil ?_
      | refine V_seq ?_
      | refine W_region ?_
      | refine WO_dst rfl rfl (by kernel_rfl) (by kernel_rfl) ?_
      | refine Ev_load rfl rfl rfl at5 rfl y1.rd.self ?_
      | refine Ev_move rfl ?_
      | refine Ev_fieldAddr rfl rfl rfl rfl rfl rfl ?_)
  refine Ev_indexAddr (i := 0) (b := bw) (o := 0) (len := cs1.length) (cap := .op 1) rfl (congrArg some hw1) rfl rfl rfl hp ?_
  repeat (
    refine WO_no rfl rfl ?_)
  refine Ev_store rfl rfl rfl rfl rfl hbw (by show 0 + 0 * 1 + 1 ≤ _; rw [cellsE_len]; omega) (by omega) ?_
  intro S7 n7 q7 f7
  have at7 : S7.h.get S3.n = some (.cells 24 (fcells a w1 w2) false) := by rw [f7 _ (by omega)]; exact at5
  have ok7 : Sok S7 := sok_upd ok5 (by omega) n7 q7 f7
  have p2 : Gs S7 w2 cs2 := y2.keep (fun c hc => f7 c (fun e => by subst e; exact (b1 c (by rw [hw1]; rfl)).2 hc))
  obtain ⟨ds1, hds, p1⟩ : ∃ ds1 : List El, ds1.length = cs1.length ∧ Gs S7 w1 ds1 := by
    match cs1, hp, hw1, hbw, q7, hlw with
    | c :: r, _, hw1, hbw, q7, hlw =>
      refine ⟨x :: r, rfl, .inl (.inr ⟨bw, hw1, q7.trans (congrArg (fun z => some (AB.cells 9 z true)) (lput_pre [] [elV c] [elV x] (cellsE r) rfl)), ?_⟩)⟩
      rw [cellsE_len, Nat.mul_one]
  repeat (
    first
      | refine W_seq ?_
      | refine WO_nil ?_
      | refine V_seq ?_
      | refine W_region ?_
      | refine WO_dst rfl rfl (by kernel_rfl) (by kernel_rfl) ?_)
  refine Ev_load_agg (ds := fcells a w1 w2) rfl rfl rfl at7 (by show 0 + 3 ≤ 3; decide) rfl (fcells_veqs p1.rd.self p2.rd.self) ?_
  repeat (
    refine WO_no rfl rfl ?_)
  have hq7 : S7.h.get (S.n + 1) = some (.cells 24 [.int .i64 0, .nils, .nils] false) := by
    rw [f7 _ (by omega), k5 _ (by omega), fr_nil F3 (by omega), ← n1]; exact q2
  refine Ev_store rfl rfl rfl rfl (f_one (gs_one p1) (gs_one p2)) (by rw [n1]; exact hq7) (by show 0 + 3 ≤ 3; decide) (by omega) ?_
  intro S8 n8 q8 f8
  rw [n1] at q8 f8
  have ok8 : Sok S8 := sok_upd ok7 (by omega) n8 q8 f8
  repeat (
    first
      | refine WO_nil ?_
      | refine V_seq ?_
      | refine W_ret ?_
      | refine WO_dst rfl rfl (by kernel_rfl) (by kernel_rfl) ?_
      | refine Ev_assign rfl ?_)
  refine V_done_ct rfl rfl (loadAt_f (a := a) (v := w1) (w := w2) (by rw [n1]; exact q8)) rfl ?_
  refine ⟨a, w1, w2, ds1, cs2, _, rfl, ⟨⟨by omega, by omega, ok8, fun c _ hc => ?_⟩, .of (p1.keep (fun c hc => f8 c (by have := w1lt c hc; omega))), .of (p2.keep (fun c hc => f8 c (by have := w2lt c hc; omega))), fun c hc => ⟨by have := w1lt c hc; omega, (b1 c hc).2⟩, fun c hc => by have := w2lt c hc; omega⟩, by omega, Nat.le_refl _⟩
  rw [f8 c (by omega), f7 c (by omega), k5 c (by omega), fr_nil F3 (by omega), k2 c hc]
end Go.Proofs.Ytgiinfjcpdfgiaa
/- carafelaw9.FramesKept over the model's own runs. (NODRAWN) -/



namespace Go.Proofs.Ytgiinfjcpdfgiaa
open GX
set_option maxHeartbeats 16000000
set_option maxRecDepth 100000
theorem kept_calls [Val] (hx1 : ∀ f g, X1.ext f = some g → ExtOK Try.prog f g) {a : Int} {u1 u2 : AV} {as1 as2 : List El} (hu1 : ∀ S, Es S u1 as1) (hu2 : ∀ S, Es S u2 as2) (hl1 : as1.length ≤ 1048576) (hl2 : as2.length ≤ 1048576)
    {vs : Array Go.Value} (hv : vrels φ0 [.agg (fcells a u1 u2)] vs.toList) (w : Go.World) (hro : ∀ g o, Val.ro g = some o → w.heap[g]? = some o) :
    Go.Calls Try.prog 3 vs w fun e w' => e = .returned (.bool true) ∧ Go.RowKit.Below w.heap.size w w' := by
  have hX := xok2
  have hx := ext2_ok hx1
  have hX' := hX
  have hx' := hx
  refine SW_true (m := 61) xok2 Try.func3 rfl (by kernel_rfl) (by kernel_rfl) ?_ hv w hro
  repeat (
    first
      | refine SW_seq ?_
      | refine SW_region ?_
      | refine SWO_dst hX hx rfl rfl (by kernel_rfl) (by kernel_rfl) ?_)
  refine Ev_box rfl (by intro c x h; simp [Tr.get] at h) (by decide) ?_
  intro T0 n0 ok0 q0 f0
  have hn0 : T0.n = 1 := n0
  have hq0 : T0.h.get 0 = some (.cells 24 (fcells a u1 u2) false) := q0
  repeat (
    first
      | refine SW_seq ?_
      | refine SWO_nil ?_
      | refine SV_seq ?_
      | refine SW_region ?_
      | refine SWO_dst hX hx rfl rfl (by kernel_rfl) (by kernel_rfl) ?_
      | refine Ev_assign rfl ?_)
  refine Ev_alloc_ rfl ok0 (by omega) ?_
  intro T1 n1 ok1 q1 f1
  have p0 : Pd T1 T0.n [] [] [(0, .cells 24 (fcells a u1 u2) false)] 0 := Pd.start ok1 q1 (fun y hy => by
    rw [List.mem_singleton] at hy; subst hy
    exact ⟨(f1 0 (by omega)).trans hq0, by dsimp only; omega⟩)
  repeat (
    first
      | refine SW_seq ?_
      | refine SWO_nil ?_
      | refine SV_seq ?_
      | refine SW_region ?_
      | refine SW_block ?_
      | refine SWO_dst hX hx rfl rfl (by kernel_rfl) (by kernel_rfl) ?_
      | refine Ev_assign rfl ?_)
  refine SW_inv (fun i : Nat => [(4, .int .i64 ((i : Nat) : Int)), (3, .ptr T0.n 0), (1, .ptr 0 0)]) (fun i T => i ≤ 2 ∧ (∃ is, Pd T T0.n is [] [(0, .cells 24 (fcells a u1 u2) false)] (7 * i)) ∧ T.n ≤ 2 + 200 * i) (fun i => 2 - i) ?_ 0 ⟨by omega, ⟨_, p0⟩, by omega⟩ ⟨rfl, rfl, rfl, trivial⟩
  rintro i T ⟨hi, ⟨is, hp⟩, hTn⟩ back
  repeat' (
    first
      | refine SW_seq ?_
      | refine SWO_nil ?_
      | refine SV_seq ?_
      | refine SW_region ?_
      | refine SWO_dst hX hx rfl rfl (by kernel_rfl) (by kernel_rfl) ?_
      | refine Ev_move rfl ?_
      | refine Ev_lssN rfl rfl ?_)
  refine SW_cond rfl (fun hc => ?_) (fun hc => ?_)
  · have hlt : i < 2 := hc
    have at0 := (hp.st (0, _) (List.mem_singleton.2 rfl)).1
    have hX := xok1
    have hx := hx1
    repeat (
      first
        | refine SW_seq ?_
        | refine SV_seq ?_
        | refine SW_region ?_
        | refine SW_skip ?_
        | refine SW_block ?_
        | refine SWO_dst hX hx rfl rfl (by kernel_rfl) (by kernel_rfl) ?_)
    refine Ev_load_agg (ds := fcells a u1 u2) rfl rfl rfl at0 (by show 0 + 3 ≤ 3; decide) rfl (fcells_veqs (hu1 T).self (hu2 T).self) ?_
    repeat (
      first
        | refine SWO_dst hX hx rfl rfl (by kernel_rfl) (by kernel_rfl) ?_
        | refine Ev_load rfl rfl rfl at0 rfl (hu2 T).self ?_
        | refine Ev_len rfl rfl rfl rfl rfl (hu2 T).len ?_
        | refine Ev_fieldAddr rfl rfl rfl rfl rfl rfl ?_
        | refine Ev_addN rfl rfl (by simp only [lim]; omega) ?_)
    refine Ev_buildSlice rfl rfl rfl rfl rfl rfl hp.ok (by omega) ?_
    intro S1 m1 ok1 z1 e1
    repeat (
      refine SWO_dst hX hx rfl rfl (by kernel_rfl) (by kernel_rfl) ?_)
    refine Ev_call rfl rfl ((push_runs (most := ((as2.length + 1 : Nat) : Int)) (x := [73]) ok1 (hu1 _) (hu2 _) (Rd_lit z1 rfl rfl) (by omega) ⟨by omega, by omega⟩ (by omega)).mono ?_)
    rintro _ S2 - ⟨w1, w2, rfl, F2⟩
    have g2n := F2.fr.n
    have g2l := F2.fr.le
    repeat (
      first
        | refine SWO_dst hX hx rfl rfl (by kernel_rfl) (by kernel_rfl) ?_
        | refine Ev_move rfl ?_
        | refine Ev_extract rfl rfl ?_)
    refine Ev_alloc_ rfl F2.fr.ok (by omega) ?_
    intro S3 m3 ok3 z3 e3
    repeat (
      refine SWO_no hX hx rfl rfl ?_)
    refine Ev_store rfl rfl rfl rfl (f_one (kz_one F2.l) (kz_one F2.s)) z3 (by show 0 + 3 ≤ 3; decide) (by omega) ?_
    intro S4 m4 z4 e4
    have at4 : S4.h.get S2.n = some (.cells 24 (fcells a w1 w2) false) := z4
    have ok4 : Sok S4 := sok_upd ok3 (by omega) m4 z4 e4
    have k4 : ∀ c, c < S2.n → S4.h.get c = S2.h.get c := fun c hc => by rw [e4 c (by omega), e3 c hc]
    have l4 : Kz S4 w1 as1 := F2.l.keep (fun c hc => k4 c (F2.l.rd.lt F2.fr.ok hc))
    have s4 : Kz S4 w2 (as2 ++ [[73]]) := F2.s.keep (fun c hc => k4 c (F2.s.rd.lt F2.fr.ok hc))
    have hlen : (as2 ++ [[73]]).length = as2.length + 1 := by simp
    repeat (
      first
        | refine SW_seq ?_
        | refine SWO_nil ?_
        | refine SV_seq ?_
        | refine SW_region ?_
        | refine SWO_dst hX hx rfl rfl (by kernel_rfl) (by kernel_rfl) ?_
        | refine Ev_assign rfl ?_)
    refine Ev_load_agg (ds := fcells a w1 w2) rfl rfl rfl at4 (by show 0 + 3 ≤ 3; decide) rfl (fcells_veqs l4.rd.self s4.rd.self) ?_
    repeat (
      refine SWO_dst hX hx rfl rfl (by kernel_rfl) (by kernel_rfl) ?_)
    refine Ev_call rfl rfl ((pop_runs ok4 l4.rd s4.rd (by omega) ⟨by omega, by omega⟩ (by omega)).mono ?_)
    rintro _ S5 - ⟨x1, x2, x3, cs3, rfl, F5, z5, hl5, b5⟩
    have g5n := F5.fr.n
    have g5l := F5.fr.le
    repeat (
      first
        | refine SWO_dst hX hx rfl rfl (by kernel_rfl) (by kernel_rfl) ?_
        | refine Ev_move rfl ?_
        | refine Ev_extract rfl rfl ?_)
    refine Ev_alloc_ rfl F5.fr.ok (by omega) ?_
    intro S6 m6 ok6 z6 e6
    repeat (
      refine SWO_no hX hx rfl rfl ?_)
    refine Ev_store rfl rfl rfl rfl (f_one (kz_one F5.l) (kz_one F5.s)) z6 (by show 0 + 3 ≤ 3; decide) (by omega) ?_
    intro S7 m7 z7 e7
    have at7 : S7.h.get S5.n = some (.cells 24 (fcells a x1 x2) false) := z7
    have ok7 : Sok S7 := sok_upd ok6 (by omega) m7 z7 e7
    have k7 : ∀ c, c < S5.n → S7.h.get c = S5.h.get c := fun c hc => by rw [e7 c (by omega), e6 c hc]
    have k47 : ∀ c, c < S4.n → S7.h.get c = S4.h.get c := fun c hc => by rw [k7 c (by omega), fr_nil F5.fr hc]
    have at47 : S7.h.get S2.n = some (.cells 24 (fcells a w1 w2) false) := by rw [k47 _ (by omega)]; exact at4
    have l47 : Kz S7 w1 as1 := l4.keep (fun c hc => k47 c (l4.rd.lt ok4 hc))
    have s47 : Kz S7 w2 (as2 ++ [[73]]) := s4.keep (fun c hc => k47 c (s4.rd.lt ok4 hc))
    repeat (
      first
        | refine SW_seq ?_
        | refine SWO_nil ?_
        | refine SV_seq ?_
        | refine SW_region ?_
        | refine SWO_dst hX hx rfl rfl (by kernel_rfl) (by kernel_rfl) ?_
        | refine Ev_assign rfl ?_)
    refine Ev_load_agg (ds := fcells a w1 w2) rfl rfl rfl at47 (by show 0 + 3 ≤ 3; decide) rfl (fcells_veqs l47.rd.self s47.rd.self) ?_
    repeat (
      refine SWO_dst hX hx rfl rfl (by kernel_rfl) (by kernel_rfl) ?_)
    refine Ev_call rfl rfl ((set_runs (x := [73]) ok7 l47.rd s47.rd ⟨by omega, by omega⟩ (by omega)).mono ?_)
    rintro _ S8 - ⟨a', y1, y2, ds1, ds2, er, rfl, F8, hl8, hl8'⟩
    have g8n := F8.fr.n
    have g8l := F8.fr.le
    repeat (
      first
        | refine SWO_dst hX hx rfl rfl (by kernel_rfl) (by kernel_rfl) ?_
        | refine Ev_move rfl ?_
        | refine Ev_extract rfl rfl ?_)
    refine Ev_alloc_ rfl F8.fr.ok (by omega) ?_
    intro S9 m9 ok9 z9 e9
    repeat (
      refine SWO_no hX hx rfl rfl ?_)
    refine Ev_store rfl rfl rfl rfl (f_one (kz_one F8.l) (kz_one F8.s)) z9 (by show 0 + 3 ≤ 3; decide) (by omega) ?_
    intro S10 m10 z10 e10
    have at10 : S10.h.get S8.n = some (.cells 24 (fcells a' y1 y2) false) := z10
    have ok10 : Sok S10 := sok_upd ok9 (by omega) m10 z10 e10
    have k10 : ∀ c, c < S8.n → S10.h.get c = S8.h.get c := fun c hc => by rw [e10 c (by omega), e9 c hc]
    have k710 : ∀ c, c < S7.n → S10.h.get c = S7.h.get c := fun c hc => by rw [k10 c (by omega), fr_nil F8.fr hc]
    have hX := hX'
    have hx := hx'
    have r_w1 : ∀ c, blkOf w1 = some c → T.n ≤ c ∧ c < S2.n := fun c hc => ⟨by have := (F2.bl c hc).1; omega, F2.l.rd.lt F2.fr.ok hc⟩
    have r_w2 : ∀ c, blkOf w2 = some c → T.n ≤ c ∧ c < S2.n := fun c hc => ⟨by have := F2.bs c hc; omega, F2.s.rd.lt F2.fr.ok hc⟩
    have r_x1 : ∀ c, blkOf x1 = some c → S4.n ≤ c ∧ c < S5.n := fun c hc => ⟨by have := (F5.bl c hc).1; omega, F5.l.rd.lt F5.fr.ok hc⟩
    have r_x2 : ∀ c, blkOf x2 = some c → S4.n ≤ c ∧ c < S5.n := fun c hc => ⟨by have := F5.bs c hc; omega, F5.s.rd.lt F5.fr.ok hc⟩
    have r_x3 : ∀ c, blkOf x3 = some c → S4.n ≤ c ∧ c < S5.n := fun c hc => ⟨by have := (b5 c hc).1; omega, z5.rd.lt F5.fr.ok hc⟩
    have r_y1 : ∀ c, blkOf y1 = some c → S7.n ≤ c ∧ c < S8.n := fun c hc => ⟨by have := (F8.bl c hc).1; omega, F8.l.rd.lt F8.fr.ok hc⟩
    have r_y2 : ∀ c, blkOf y2 = some c → S7.n ≤ c ∧ c < S8.n := fun c hc => ⟨by have := F8.bs c hc; omega, F8.s.rd.lt F8.fr.ok hc⟩
    have hd_w1 : ∀ y ∈ [(w2, as2 ++ [[73]]), (x1, as1), (x2, (as2 ++ [[73]]).take ((as2 ++ [[73]]).length - 1)), (x3, cs3), (y1, ds1), (y2, ds2)], ∀ c, blkOf w1 = some c → blkOf y.1 ≠ some c := by
      intro y hy c h1 h2
      simp only [List.mem_cons, List.mem_nil_iff, or_false] at hy
      rcases hy with rfl | rfl | rfl | rfl | rfl | rfl
      · exact (F2.bl c h1).2 h2
      · have := r_w1 c h1; have := r_x1 c h2; omega
      · have := r_w1 c h1; have := r_x2 c h2; omega
      · have := r_w1 c h1; have := r_x3 c h2; omega
      · have := r_w1 c h1; have := r_y1 c h2; omega
      · have := r_w1 c h1; have := r_y2 c h2; omega
    have hd_w2 : ∀ y ∈ [(x1, as1), (x2, (as2 ++ [[73]]).take ((as2 ++ [[73]]).length - 1)), (x3, cs3), (y1, ds1), (y2, ds2)], ∀ c, blkOf w2 = some c → blkOf y.1 ≠ some c := by
      intro y hy c h1 h2
      simp only [List.mem_cons, List.mem_nil_iff, or_false] at hy
      rcases hy with rfl | rfl | rfl | rfl | rfl
      · have := r_w2 c h1; have := r_x1 c h2; omega
      · have := r_w2 c h1; have := r_x2 c h2; omega
      · have := r_w2 c h1; have := r_x3 c h2; omega
      · have := r_w2 c h1; have := r_y1 c h2; omega
      · have := r_w2 c h1; have := r_y2 c h2; omega
    have hd_x1 : ∀ y ∈ [(x2, (as2 ++ [[73]]).take ((as2 ++ [[73]]).length - 1)), (x3, cs3), (y1, ds1), (y2, ds2)], ∀ c, blkOf x1 = some c → blkOf y.1 ≠ some c := by
      intro y hy c h1 h2
      simp only [List.mem_cons, List.mem_nil_iff, or_false] at hy
      rcases hy with rfl | rfl | rfl | rfl
      · exact (F5.bl c h1).2 h2
      · exact (b5 c h2).2.1 h1
      · have := r_x1 c h1; have := r_y1 c h2; omega
      · have := r_x1 c h1; have := r_y2 c h2; omega
    have hd_x2 : ∀ y ∈ [(x3, cs3), (y1, ds1), (y2, ds2)], ∀ c, blkOf x2 = some c → blkOf y.1 ≠ some c := by
      intro y hy c h1 h2
      simp only [List.mem_cons, List.mem_nil_iff, or_false] at hy
      rcases hy with rfl | rfl | rfl
      · exact (b5 c h2).2.2 h1
      · have := r_x2 c h1; have := r_y1 c h2; omega
      · have := r_x2 c h1; have := r_y2 c h2; omega
    have hd_x3 : ∀ y ∈ [(y1, ds1), (y2, ds2)], ∀ c, blkOf x3 = some c → blkOf y.1 ≠ some c := by
      intro y hy c h1 h2
      simp only [List.mem_cons, List.mem_nil_iff, or_false] at hy
      rcases hy with rfl | rfl
      · have := r_x3 c h1; have := r_y1 c h2; omega
      · have := r_x3 c h1; have := r_y2 c h2; omega
    have hd_y1 : ∀ y ∈ [(y2, ds2)], ∀ c, blkOf y1 = some c → blkOf y.1 ≠ some c := by
      intro y hy c h1 h2
      simp only [List.mem_cons, List.mem_nil_iff, or_false] at hy
      rcases hy with rfl
      · exact (F8.bl c h1).2 h2
    have p10 : Pd S10 T0.n is [(w1, as1), (w2, as2 ++ [[73]]), (x1, as1), (x2, (as2 ++ [[73]]).take ((as2 ++ [[73]]).length - 1)), (x3, cs3), (y1, ds1), (y2, ds2)] ([(0, .cells 24 (fcells a u1 u2) false)] ++ [(S2.n, .cells 24 (fcells a w1 w2) false), (S5.n, .cells 24 (fcells a x1 x2) false), (S8.n, .cells 24 (fcells a' y1 y2) false)]) (7 * i) := by
      refine hp.more ok10 (fun c hc => by rw [k710 c (by omega), k47 c (by omega), k4 c (by omega), fr_nil F2.fr (by omega), e1 c hc]) ?_ ?_ (.cons hd_w1 (.cons hd_w2 (.cons hd_x1 (.cons hd_x2 (.cons hd_x3 (.cons hd_y1 (.cons (fun y hy => by cases hy) .nil))))))) ?_
      · intro x hx
        simp only [List.mem_cons, List.mem_nil_iff, or_false] at hx
        rcases hx with rfl | rfl | rfl | rfl | rfl | rfl | rfl
        · exact ⟨l47.keep (fun c hc => k710 c (l47.rd.lt ok7 hc)), by dsimp only; omega⟩
        · exact ⟨s47.keep (fun c hc => k710 c (s47.rd.lt ok7 hc)), by dsimp only; omega⟩
        · exact ⟨F5.l.keep (fun c hc => by have := r_x1 c hc; rw [k710 c (by omega), k7 c (by omega)]), by dsimp only; omega⟩
        · exact ⟨F5.s.keep (fun c hc => by have := r_x2 c hc; rw [k710 c (by omega), k7 c (by omega)]), by dsimp only; rw [List.length_take]; omega⟩
        · exact ⟨z5.keep (fun c hc => by have := r_x3 c hc; rw [k710 c (by omega), k7 c (by omega)]), by dsimp only; omega⟩
        · exact ⟨F8.l.keep (fun c hc => by have := r_y1 c hc; rw [k10 c (by omega)]), by dsimp only; omega⟩
        · exact ⟨F8.s.keep (fun c hc => by have := r_y2 c hc; rw [k10 c (by omega)]), by dsimp only; omega⟩
      · intro x hx c hc
        simp only [List.mem_cons, List.mem_nil_iff, or_false] at hx
        rcases hx with rfl | rfl | rfl | rfl | rfl | rfl | rfl
        · have := r_w1 c hc; omega
        · have := r_w2 c hc; omega
        · have := r_x1 c hc; omega
        · have := r_x2 c hc; omega
        · have := r_x3 c hc; omega
        · have := r_y1 c hc; omega
        · have := r_y2 c hc; omega
      · intro y hy
        have key : ∀ b, b = S2.n ∨ b = S5.n ∨ b = S8.n → ∀ x ∈ [(w1, as1), (w2, as2 ++ [[73]]), (x1, as1), (x2, (as2 ++ [[73]]).take ((as2 ++ [[73]]).length - 1)), (x3, cs3), (y1, ds1), (y2, ds2)], blkOf x.1 ≠ some b := by
          intro b hb x hx hc
          simp only [List.mem_cons, List.mem_nil_iff, or_false] at hx
          rcases hx with rfl | rfl | rfl | rfl | rfl | rfl | rfl
          · have := r_w1 b hc; omega
          · have := r_w2 b hc; omega
          · have := r_x1 b hc; omega
          · have := r_x2 b hc; omega
          · have := r_x3 b hc; omega
          · have := r_y1 b hc; omega
          · have := r_y2 b hc; omega
        simp only [List.mem_cons, List.mem_nil_iff, or_false] at hy
        rcases hy with rfl | rfl | rfl
        · exact ⟨by dsimp only; omega, by rw [k710 _ (by dsimp only; omega)]; exact at47, key _ (.inl rfl)⟩
        · exact ⟨by dsimp only; omega, by rw [k710 _ (by dsimp only; omega)]; exact at7, key _ (.inr (.inl rfl))⟩
        · exact ⟨by dsimp only; omega, at10, key _ (.inr (.inr rfl))⟩
    have at0 := (p10.st (S2.n, .cells 24 (fcells a w1 w2) false) (by simp)).1
    repeat (first | (refine SWO_dst hX hx rfl rfl (by kernel_rfl) (by kernel_rfl) ?_; first | refine Ev_assign rfl ?_ | refine Ev_move rfl ?_ | refine Ev_extract rfl rfl ?_ | refine Ev_field rfl rfl rfl rfl rfl ?_ | refine Ev_fieldAddr rfl rfl rfl rfl rfl rfl ?_ | refine Ev_load rfl rfl rfl at0 rfl (p10.kz _ (List.mem_cons_self ..)).1.rd.self ?_) | refine SWO_nil ?_ | refine SV_seq ?_ | refine SW_seq ?_ | refine SW_region ?_)
    refine SWO_it (d := 38) rfl (p10.kz _ (List.mem_cons_self ..)).1 (p10.kz _ (List.mem_cons_self ..)).2 p10.ok (by kernel_rfl) (by kernel_rfl) ?_
    intro it0 T11 a0 b0 c0 d0 e0 f0
    obtain ⟨qq0, uu0, vv0⟩ := p10.cap b0 d0 f0
    repeat (
      refine SWO_dst hX hx rfl rfl (by kernel_rfl) (by kernel_rfl) ?_)
    refine Ev_call rfl rfl ((keep_pd qq0 uu0 vv0 a0 c0 (by omega) (by omega)).mono ?_)
    rintro _ T12 - ⟨⟨is0, r0⟩, g0, h0⟩
    have at1 := (r0.st (S2.n, .cells 24 (fcells a w1 w2) false) (by simp)).1
    repeat (first | (refine SWO_dst hX hx rfl rfl (by kernel_rfl) (by kernel_rfl) ?_; first | refine Ev_assign rfl ?_ | refine Ev_move rfl ?_ | refine Ev_extract rfl rfl ?_ | refine Ev_field rfl rfl rfl rfl rfl ?_ | refine Ev_fieldAddr rfl rfl rfl rfl rfl rfl ?_ | refine Ev_load rfl rfl rfl at1 rfl (r0.kz _ (List.mem_cons_self ..)).1.rd.self ?_) | refine SWO_nil ?_ | refine SV_seq ?_ | refine SW_seq ?_ | refine SW_region ?_)
    refine SWO_it (d := 41) rfl (r0.kz _ (List.mem_cons_self ..)).1 (r0.kz _ (List.mem_cons_self ..)).2 r0.ok (by kernel_rfl) (by kernel_rfl) ?_
    intro it1 T13 a1 b1 c1 d1 e1 f1
    obtain ⟨qq1, uu1, vv1⟩ := r0.cap b1 d1 f1
    repeat (
      refine SWO_dst hX hx rfl rfl (by kernel_rfl) (by kernel_rfl) ?_)
    refine Ev_call rfl rfl ((keep_pd qq1 uu1 vv1 a1 c1 (by omega) (by omega)).mono ?_)
    rintro _ T14 - ⟨⟨is1, r1⟩, g1, h1⟩
    have at2 := (r1.st (S5.n, .cells 24 (fcells a x1 x2) false) (by simp)).1
    repeat (first | (refine SWO_dst hX hx rfl rfl (by kernel_rfl) (by kernel_rfl) ?_; first | refine Ev_assign rfl ?_ | refine Ev_move rfl ?_ | refine Ev_extract rfl rfl ?_ | refine Ev_field rfl rfl rfl rfl rfl ?_ | refine Ev_fieldAddr rfl rfl rfl rfl rfl rfl ?_ | refine Ev_load rfl rfl rfl at2 rfl (r1.kz _ (List.mem_cons_self ..)).1.rd.self ?_) | refine SWO_nil ?_ | refine SV_seq ?_ | refine SW_seq ?_ | refine SW_region ?_)
    refine SWO_it (d := 44) rfl (r1.kz _ (List.mem_cons_self ..)).1 (r1.kz _ (List.mem_cons_self ..)).2 r1.ok (by kernel_rfl) (by kernel_rfl) ?_
    intro it2 T15 a2 b2 c2 d2 e2 f2
    obtain ⟨qq2, uu2, vv2⟩ := r1.cap b2 d2 f2
    repeat (
      refine SWO_dst hX hx rfl rfl (by kernel_rfl) (by kernel_rfl) ?_)
    refine Ev_call rfl rfl ((keep_pd qq2 uu2 vv2 a2 c2 (by omega) (by omega)).mono ?_)
    rintro _ T16 - ⟨⟨is2, r2⟩, g2, h2⟩
    have at3 := (r2.st (S5.n, .cells 24 (fcells a x1 x2) false) (by simp)).1
    repeat (first | (refine SWO_dst hX hx rfl rfl (by kernel_rfl) (by kernel_rfl) ?_; first | refine Ev_assign rfl ?_ | refine Ev_move rfl ?_ | refine Ev_extract rfl rfl ?_ | refine Ev_field rfl rfl rfl rfl rfl ?_ | refine Ev_fieldAddr rfl rfl rfl rfl rfl rfl ?_ | refine Ev_load rfl rfl rfl at3 rfl (r2.kz _ (List.mem_cons_self ..)).1.rd.self ?_) | refine SWO_nil ?_ | refine SV_seq ?_ | refine SW_seq ?_ | refine SW_region ?_)
    refine SWO_it (d := 47) rfl (r2.kz _ (List.mem_cons_self ..)).1 (r2.kz _ (List.mem_cons_self ..)).2 r2.ok (by kernel_rfl) (by kernel_rfl) ?_
    intro it3 T17 a3 b3 c3 d3 e3 f3
    obtain ⟨qq3, uu3, vv3⟩ := r2.cap b3 d3 f3
    repeat (
      refine SWO_dst hX hx rfl rfl (by kernel_rfl) (by kernel_rfl) ?_)
    refine Ev_call rfl rfl ((keep_pd qq3 uu3 vv3 a3 c3 (by omega) (by omega)).mono ?_)
    rintro _ T18 - ⟨⟨is3, r3⟩, g3, h3⟩
    repeat (first | (refine SWO_dst hX hx rfl rfl (by kernel_rfl) (by kernel_rfl) ?_; first | refine Ev_assign rfl ?_ | refine Ev_move rfl ?_ | refine Ev_extract rfl rfl ?_ | refine Ev_field rfl rfl rfl rfl rfl ?_) | refine SWO_nil ?_ | refine SV_seq ?_ | refine SW_seq ?_ | refine SW_region ?_)
    refine SWO_it (d := 49) rfl (r3.kz _ (List.mem_cons_self ..)).1 (r3.kz _ (List.mem_cons_self ..)).2 r3.ok (by kernel_rfl) (by kernel_rfl) ?_
    intro it4 T19 a4 b4 c4 d4 e4 f4
    obtain ⟨qq4, uu4, vv4⟩ := r3.cap b4 d4 f4
    repeat (
      refine SWO_dst hX hx rfl rfl (by kernel_rfl) (by kernel_rfl) ?_)
    refine Ev_call rfl rfl ((keep_pd qq4 uu4 vv4 a4 c4 (by omega) (by omega)).mono ?_)
    rintro _ T20 - ⟨⟨is4, r4⟩, g4, h4⟩
    have at5 := (r4.st (S8.n, .cells 24 (fcells a' y1 y2) false) (by simp)).1
    repeat (first | (refine SWO_dst hX hx rfl rfl (by kernel_rfl) (by kernel_rfl) ?_; first | refine Ev_assign rfl ?_ | refine Ev_move rfl ?_ | refine Ev_extract rfl rfl ?_ | refine Ev_field rfl rfl rfl rfl rfl ?_ | refine Ev_fieldAddr rfl rfl rfl rfl rfl rfl ?_ | refine Ev_load rfl rfl rfl at5 rfl (r4.kz _ (List.mem_cons_self ..)).1.rd.self ?_) | refine SWO_nil ?_ | refine SV_seq ?_ | refine SW_seq ?_ | refine SW_region ?_)
    refine SWO_it (d := 52) rfl (r4.kz _ (List.mem_cons_self ..)).1 (r4.kz _ (List.mem_cons_self ..)).2 r4.ok (by kernel_rfl) (by kernel_rfl) ?_
    intro it5 T21 a5 b5 c5 d5 e5 f5
    obtain ⟨qq5, uu5, vv5⟩ := r4.cap b5 d5 f5
    repeat (
      refine SWO_dst hX hx rfl rfl (by kernel_rfl) (by kernel_rfl) ?_)
    refine Ev_call rfl rfl ((keep_pd qq5 uu5 vv5 a5 c5 (by omega) (by omega)).mono ?_)
    rintro _ T22 - ⟨⟨is5, r5⟩, g5, h5⟩
    have at6 := (r5.st (S8.n, .cells 24 (fcells a' y1 y2) false) (by simp)).1
    repeat (first | (refine SWO_dst hX hx rfl rfl (by kernel_rfl) (by kernel_rfl) ?_; first | refine Ev_assign rfl ?_ | refine Ev_move rfl ?_ | refine Ev_extract rfl rfl ?_ | refine Ev_field rfl rfl rfl rfl rfl ?_ | refine Ev_fieldAddr rfl rfl rfl rfl rfl rfl ?_ | refine Ev_load rfl rfl rfl at6 rfl (r5.kz _ (List.mem_cons_self ..)).1.rd.self ?_) | refine SWO_nil ?_ | refine SV_seq ?_ | refine SW_seq ?_ | refine SW_region ?_)
    refine SWO_it (d := 55) rfl (r5.kz _ (List.mem_cons_self ..)).1 (r5.kz _ (List.mem_cons_self ..)).2 r5.ok (by kernel_rfl) (by kernel_rfl) ?_
    intro it6 T23 a6 b6 c6 d6 e6 f6
    obtain ⟨qq6, uu6, vv6⟩ := r5.cap b6 d6 f6
    repeat (
      refine SWO_dst hX hx rfl rfl (by kernel_rfl) (by kernel_rfl) ?_)
    refine Ev_call rfl rfl ((keep_pd qq6 uu6 vv6 a6 c6 (by omega) (by omega)).mono ?_)
    rintro _ T24 - ⟨⟨is6, r6⟩, g6, h6⟩
    repeat (
      first
        | refine SWO_nil ?_
        | refine SV_seq ?_
        | refine SW_region ?_
        | refine SV_block ?_
        | refine SWO_dst hX hx rfl rfl (by kernel_rfl) (by kernel_rfl) ?_
        | refine Ev_move rfl ?_
        | refine Ev_assign rfl ?_
        | refine Ev_addN rfl rfl (by simp only [lim]; omega) ?_)
    exact back (i + 1) _ _ (by omega) ⟨by omega, ⟨_, (Pd.less r6 : Pd _ _ _ _ [(0, .cells 24 (fcells a u1 u2) false)] _)⟩, by omega⟩ ⟨rfl, rfl, rfl, trivial⟩
  · repeat (
      first
        | refine SW_seq ?_
        | refine SV_seq ?_
        | refine SW_region ?_
        | refine SW_exit ?_
        | refine SV_block_x rfl ?_
        | refine SV_seq_x ?_
        | refine SV_loop_x ?_
        | refine SWO_dst hX hx rfl rfl (by kernel_rfl) (by kernel_rfl) ?_)
    refine Ev_call rfl rfl ((apart_pd hp (by omega)).mono ?_)
    rintro _ T7 - rfl
    repeat (
      first
        | refine SWO_dst hX hx rfl rfl (by kernel_rfl) (by kernel_rfl) ?_
        | refine SWO_guard_t rfl rfl rfl rfl rfl (by kernel_rfl) (by kernel_rfl) ?_
        | refine Ev_move rfl ?_)
    refine Ev_call rfl rfl (known_true2 ?_)
    repeat (
      first
        | refine SWO_nil ?_
        | refine SV_seq ?_
        | refine SW_ret ?_
        | refine SWO_dst hX hx rfl rfl (by kernel_rfl) (by kernel_rfl) ?_
        | refine Ev_assign rfl ?_
        | refine Ev_pick_t rfl rfl rfl ?_)
    exact SV_done rfl rfl rfl
end Go.Proofs.Ytgiinfjcpdfgiaa
