/- What the row leans on, part 10: texts one behind the other. No condition. -/
import Derived.Test.YtjbpegggfacojaaMg9
import Derived.ChangeArms
import Derived.DataReads
import Derived.Deep.Slices
import Derived.KernelRfl
/- GX: arguments of any type that is made of numbers, strings, slices, structs and pointers: they are only read. -/




namespace GX
open Go Go.Deep
/-- a type whose values may come in -/
def okT (P : Program) : Nat → TypeId → Bool
  | 0, _ => false
  | g + 1, t => match P.underlying t with
    | some .bool => true
    | some (.int _) => true
    | some .string => true
    | some (.slice e) => decide (0 < P.cellsOf e) && okT P g e
    | some (.pointer e) => decide (0 < P.cellsOf e) && okT P g e
    | some (.struct fs) => tile fs.toList 0 (P.cellsOf t) && fs.toList.all fun f => okT P g f.type
    | _ => false
where
  /-- the fields lie one behind the other -/
  tile : List Field → Nat → Nat → Bool
  | [], o, n => decide (o = n)
  | f :: fs, o, n => decide (f.offset = o) && tile fs (o + P.cellsOf f.type) n
/-- cells of a type that came in, of at most so many parts and letters -/
def Rdt (P : Program) (N : Nat) : Nat → TypeId → List AV → Prop
  | 0, _, _ => False
  | g + 1, t, cs => match P.underlying t with
    | some .bool => ∃ b, cs = [.bool b]
    | some (.int k) => ∃ n, cs = [.int k n] ∧ (Lit.int k n).wf = true
    | some .string => ∃ s : List Nat, cs = [.str s] ∧ (∀ b ∈ s, b < 256) ∧ s.length ≤ N
    | some (.slice e) => ∃ v rows, cs = [v] ∧ (∀ S, Rd S v (P.cellsOf e) (List.flatten rows) rows.length) ∧ rows.length ≤ N ∧ ∀ r ∈ rows, r.length = P.cellsOf e ∧ Rdt P N g e r
    | some (.pointer e) => cs = [.nilp] ∨ ∃ cs', cs = [.rptr cs' 0] ∧ cs'.length = P.cellsOf e ∧ Rdt P N g e cs'
    | some (.struct fs) => cs.length = P.cellsOf t ∧ ∀ f ∈ fs.toList, Rdt P N g f.type ((cs.drop f.offset).take (P.cellsOf f.type))
    | _ => False
structure BulkOK {H : Type} (bulk : DataW H → Nat) : Prop where
  str : ∀ l, l.length ≤ bulk (.lit (.string l))
  ptr : ∀ d, bulk d ≤ bulk (.ptr d)
  len : ∀ l r, l.length ≤ bulk (.slice l r)
  sl : ∀ l r, ∀ d ∈ l, bulk d ≤ bulk (.slice l r)
  agg : ∀ l, ∀ d ∈ l, bulk d ≤ bulk (.agg l)
theorem veqs_append : ∀ {a b : List AV}, veqs a a = true → veqs b b = true → veqs (a ++ b) (a ++ b) = true
  | [], b, _, h => h
  | x :: a, b, h1, h2 => by
    simp only [veqs, Bool.and_eq_true, List.cons_append] at h1 ⊢
    exact ⟨h1.1, veqs_append h1.2 h2⟩
/-- cells that lie somewhere -/
theorem cells_in {w : World} {a : Addr} {vs : List Value} (h0 : vs ≠ []) (hcell : ∀ i v, vs[i]? = some v → w.cell? (a.add i) = some v) :
    a.spot = none ∧ ∃ c t fz, w.heap[a.block]? = some (.cells c t fz) ∧ a.off + vs.length ≤ c.size ∧ (c.toList.drop a.off).take vs.length = vs := by
  have hpos : 0 < vs.length := List.length_pos_iff.2 h0
  have hsp : a.spot = none ∧ ∃ c t fz, w.heap[a.block]? = some (.cells c t fz) := by
    have h := hcell 0 vs[0] (List.getElem?_eq_getElem hpos)
    unfold Addr.add World.cell? at h
    simp only [if_true] at h
    split at h
    · rename_i c t fz hh
      split at h
      · cases h
      · rename_i hs
        exact ⟨by simpa using hs, c, t, fz, hh⟩
    · cases h
  obtain ⟨hs, c, t, fz, hh⟩ := hsp
  have hget : ∀ i v, vs[i]? = some v → c[a.off + i]? = some v := by
    intro i v hi
    have h := hcell i v hi
    unfold World.cell? at h
    by_cases hi0 : i = 0
    · subst hi0
      simp only [Addr.add, if_true, hh, hs] at h
      simpa using h
    · simp only [Addr.add, if_neg hi0, hh] at h
      simpa using h
  have hfit : a.off + vs.length ≤ c.size := by
    have := (Array.getElem?_eq_some_iff.1 (hget (vs.length - 1) _ (List.getElem?_eq_getElem (by omega)))).1
    omega
  refine ⟨hs, c, t, fz, hh, hfit, ?_⟩
  apply List.ext_getElem?
  intro i
  rw [List.getElem?_take]
  split
  · rename_i hi
    rw [List.getElem?_eq_getElem hi, List.getElem?_drop]
    simpa using hget i _ (List.getElem?_eq_getElem hi)
  · rw [List.getElem?_eq_none (by omega)]
theorem arg_cellsN [Val] {φ : Phi} {w : World} (hro : ∀ g o, w.heap[g]? = some o → Val.ro g = some o) {a : Addr} {len cap sz : Nat} {cs : List AV} {vs : List Value} (hz : 0 < sz) (hl : len ≤ cap) (hv : vs.length = len * sz) (hcell : ∀ i v, vs[i]? = some v → w.cell? (a.add i) = some v) (hrel : vrels φ cs vs) (hself : veqs cs cs = true) :
    ∃ av, vrel φ av (.slice (some a) len cap) ∧ ∀ S, Rd S av sz cs len := by
  have hcl : cs.length = len * sz := by rw [vrels_length hrel, hv]
  by_cases h0 : vs = []
  · subst h0
    have hl0 : len = 0 := by
      rcases Nat.eq_zero_or_pos len with h | h
      · exact h
      · have := Nat.mul_pos h hz
        simp at hv; omega
    subst hl0
    cases List.eq_nil_of_length_eq_zero (by rw [hcl, Nat.zero_mul] : cs.length = 0)
    exact ⟨.emp, ⟨a, cap, rfl⟩, fun S => ⟨rfl, rfl, rfl, rfl, rfl, by simp⟩⟩
  · obtain ⟨hs, c, t, fz, hh, hfit, hlist⟩ := cells_in h0 hcell
    refine ⟨.rsl cs len sz, ?_, fun S => ⟨by simp [capW, hcl], by simp [veq, hself], rfl, rfl, ?_, hcl⟩⟩
    · simp only [vrel]
      refine ⟨a.block, a.off, cap, c, t, fz, ?_, hl, hcl, hro _ _ hh, by omega, by rw [hcl, ← hv, hlist]; exact hrel⟩
      rw [← hs]
    · unfold srcCells; dsimp only
      rw [nble, decide_eq_true (by omega)]
      simp only [nbeq, decide_true, Bool.true_and, cond_true]
      rw [List.take_of_length_le (by omega)]
theorem bytes_lt' (s : ByteArray) : ∀ b ∈ bytes s, b < 256 := by
  intro b hb
  unfold bytes at hb
  obtain ⟨c, _, rfl⟩ := List.mem_map.1 hb
  exact c.toNat_lt
section
variable {H : Type} {enc : TypeId × Value → H} {P : Program} {w : World} {base : Nat} {sp : Nat → Bool} {held : Bool} {bulk : DataW H → Nat} {N : Nat}
/-- the fields of a struct, one behind the other -/
theorem fields_rel [Val] {φ : Phi} {cs : List Value} {R : Field → List AV → Prop} : ∀ (fs : List Field) (o n : Nat), okT.tile P fs o n = true → o ≤ n → n ≤ cs.length →
    (∀ f ∈ fs, ∃ avs, vrels φ avs ((cs.drop f.offset).take (P.cellsOf f.type)) ∧ veqs avs avs = true ∧ R f avs) →
    ∃ avs, vrels φ avs ((cs.drop o).take (n - o)) ∧ veqs avs avs = true ∧ ∀ f ∈ fs, o ≤ f.offset ∧ R f ((avs.drop (f.offset - o)).take (P.cellsOf f.type))
  | [], o, n, ht, _, _, _ => by
    have : o = n := of_decide_eq_true ht
    subst this
    exact ⟨[], by rw [Nat.sub_self, List.take_zero]; exact vrels_nil, rfl, by simp⟩
  | f :: fs, o, n, ht, ho, hn, h => by
    unfold okT.tile at ht
    simp only [Bool.and_eq_true, decide_eq_true_eq] at ht
    obtain ⟨hfo, ht⟩ := ht
    have hle : o + P.cellsOf f.type ≤ n := by
      have key : ∀ (l : List Field) (a : Nat), okT.tile P l a n = true → a ≤ n := by
        intro l
        induction l with
        | nil => intro a h; exact Nat.le_of_eq (of_decide_eq_true h)
        | cons x l ih =>
          intro a h
          unfold okT.tile at h
          simp only [Bool.and_eq_true, decide_eq_true_eq] at h
          have := ih _ h.2; omega
      exact key _ _ ht
    obtain ⟨a1, r1, v1, p1⟩ := h f (List.mem_cons_self ..)
    obtain ⟨a2, r2, v2, p2⟩ := fields_rel fs (o + P.cellsOf f.type) n ht hle hn (fun g hg => h g (List.mem_cons_of_mem _ hg))
    have hl1 : a1.length = P.cellsOf f.type := by rw [vrels_length r1, List.length_take, List.length_drop]; omega
    refine ⟨a1 ++ a2, ?_, veqs_append v1 v2, fun g hg => ?_⟩
    · have e : (cs.drop o).take (n - o) = (cs.drop f.offset).take (P.cellsOf f.type) ++ (cs.drop (o + P.cellsOf f.type)).take (n - (o + P.cellsOf f.type)) := by
        rw [hfo, show n - o = P.cellsOf f.type + (n - (o + P.cellsOf f.type)) by omega, List.take_add, List.drop_drop]
      rw [e]; exact vrels_append r1 r2
    · rcases List.mem_cons.1 hg with rfl | hg
      · rw [hfo, Nat.sub_self, List.drop_zero, List.take_append_of_le_length (by omega), List.take_of_length_le (by omega)]
        exact ⟨Nat.le_refl _, p1⟩
      · obtain ⟨q1, q2⟩ := p2 g hg
        refine ⟨by omega, ?_⟩
        rw [show g.offset - o = a1.length + (g.offset - (o + P.cellsOf f.type)) by omega, ← List.drop_drop, List.drop_append_of_le_length (Nat.le_refl _), List.drop_length, List.nil_append]
        exact q2
/-- what came in, as cells that are only read -/
theorem trod_rel [Val] {φ : Phi} (hro : ∀ g o, w.heap[g]? = some o → Val.ro g = some o) (hB : BulkOK bulk) : ∀ (g : Nat) (t : TypeId) (f : Nat) (cs : List Value) (x : DataW H × List MemPlace), okT P g t = true → DataW.trod enc P w base sp held f t cs = some x → bulk x.1 ≤ N →
    ∃ avs, vrels φ avs cs ∧ veqs avs avs = true ∧ Rdt P N g t avs
  | 0, _, _, _, _, hk, _, _ => by cases hk
  | g + 1, t, f, cs, x, hk, h, hb => by
    unfold okT at hk
    unfold Rdt
    split at hk
    · rename_i hu
      obtain ⟨b, rfl, rfl⟩ := DataW.trod_bool hu h
      exact ⟨[.bool b], vrels_cons rfl vrels_nil, by cases b <;> rfl, b, rfl⟩
    · rename_i k hu
      obtain ⟨n, rfl, rfl, hw⟩ := DataW.trod_int hu h
      exact ⟨[.int k n], vrels_cons rfl vrels_nil, by simp [veqs, veq_int], n, rfl, hw⟩
    · rename_i hu
      obtain ⟨s, rfl, rfl, hs⟩ := DataW.trod_string hu h
      refine ⟨[.str (bytes s)], vrels_cons ⟨s, rfl, rfl⟩ vrels_nil, by simp [veqs, veq_str], bytes s, rfl, bytes_lt' s, ?_⟩
      have h1 := hB.str s.data.toList
      have h2 : (bytes s).length = s.data.toList.length := by unfold bytes; simp
      dsimp only at hb
      omega
    · rename_i e hu
      simp only [Bool.and_eq_true, decide_eq_true_eq] at hk
      obtain ⟨hz, hk⟩ := hk
      rcases DataW.trod_slice hu h with ⟨rfl, rfl⟩ | ⟨a, len, cap, elems, rest, n, _, rfl, rfl, hbs, hl, hm, hlen, hel, hsp, hns⟩
      · exact ⟨[.nils], vrels_cons rfl vrels_nil, rfl, .nils, [], rfl, fun S => ⟨rfl, rfl, rfl, rfl, rfl, by simp⟩, Nat.zero_le _, by simp⟩
      · dsimp only at hb
        have hlN : len ≤ N := by
          have := hB.len (elems.map (·.1)) (rest.map (·.1))
          rw [List.length_map, hlen] at this
          omega
        have each : ∀ i, i < len → ∃ q : List Value × List AV, w.cells? base (a.add (i * P.cellsOf e)) (P.cellsOf e) = some q.1 ∧ vrels φ q.2 q.1 ∧ veqs q.2 q.2 = true ∧ Rdt P N g e q.2 := by
          intro i hi
          have h1 := hel i hi
          rw [List.getElem?_eq_getElem (by omega)] at h1
          obtain ⟨cs', h2, h3⟩ := Option.bind_eq_some_iff.1 h1
          obtain ⟨avs, h4, h5, h6⟩ := trod_rel hro hB g e n cs' _ hk h3 (Nat.le_trans (hB.sl _ _ _ (List.mem_map_of_mem (List.getElem_mem _))) hb)
          exact ⟨(cs', avs), h2, h4, h5, h6⟩
        obtain ⟨q, hq⟩ := choose_lt each
        have hql : ∀ i, i < len → (q i).1.length = P.cellsOf e := fun i hi => (World.cells?_some (hq i hi).1).2.1
        -- all cells, one behind the other
        have all : ∀ m, m ≤ len → ∃ vs : List Value, vs.length = m * P.cellsOf e ∧ (∀ i v, vs[i]? = some v → w.cell? (a.add i) = some v) ∧ vrels φ (List.flatten ((List.range m).map fun i => (q i).2)) vs ∧ veqs (List.flatten ((List.range m).map fun i => (q i).2)) (List.flatten ((List.range m).map fun i => (q i).2)) = true := by
          intro m
          induction m with
          | zero => intro _; exact ⟨[], by simp, by simp, vrels_nil, rfl⟩
          | succ m ih =>
            intro hm2
            obtain ⟨vs, g1, g2, g3, g4⟩ := ih (by omega)
            obtain ⟨c1, c2, c3, c4⟩ := hq m (by omega)
            obtain ⟨d1, d2, d3⟩ := World.cells?_some c1
            refine ⟨vs ++ (q m).1, by rw [List.length_append, g1, d2, Nat.add_mul, Nat.one_mul], fun i v hv => ?_, ?_, ?_⟩
            · by_cases hi : i < vs.length
              · rw [List.getElem?_append_left hi] at hv; exact g2 i v hv
              · rw [List.getElem?_append_right (by omega)] at hv
                have hi2 : i - vs.length < P.cellsOf e := by
                  have := (List.getElem?_eq_some_iff.1 hv).1; omega
                have h7 := d3 _ hi2
                rw [add_add, ← g1, hv, show vs.length + (i - vs.length) = i by omega] at h7
                exact h7
            · rw [List.range_succ, List.map_append, List.flatten_append]
              exact vrels_append g3 (by simpa using c2)
            · rw [List.range_succ, List.map_append, List.flatten_append]
              exact veqs_append g4 (by simpa using c3)
        obtain ⟨vs, g1, g2, g3, g4⟩ := all len (Nat.le_refl _)
        obtain ⟨av, k1, k2⟩ := arg_cellsN (φ := φ) hro hz hl g1 g2 g3 g4
        refine ⟨[av], vrels_cons k1 vrels_nil, ?_, av, (List.range len).map fun i => (q i).2, rfl, fun S => by simpa using k2 S, by simpa using hlN, ?_⟩
        · have := (k2 { h := .leaf, n := 0 }).self
          simp [veqs, this]
        · intro r hr
          obtain ⟨i, hi, rfl⟩ := List.mem_map.1 hr
          have hi := List.mem_range.1 hi
          exact ⟨by rw [vrels_length (hq i hi).2.1]; exact hql i hi, (hq i hi).2.2.2⟩
    · rename_i e hu
      simp only [Bool.and_eq_true, decide_eq_true_eq] at hk
      obtain ⟨hz, hk⟩ := hk
      rcases DataW.trod_pointer hu h with ⟨rfl, rfl⟩ | ⟨a, cs', y, n, _, rfl, rfl, hc, hy⟩
      · exact ⟨[.nilp], vrels_cons rfl vrels_nil, rfl, .inl rfl⟩
      · dsimp only at hb
        obtain ⟨avs, h4, h5, h6⟩ := trod_rel hro hB g e n cs' _ hk hy (Nat.le_trans (hB.ptr _) hb)
        obtain ⟨_, d2, d3⟩ := World.cells?_some hc
        have hne : cs' ≠ [] := by intro h; rw [h] at d2; simp at d2; omega
        obtain ⟨hs, c, tt, fz, hh, hfit, hlist⟩ := cells_in (a := a) hne (fun i v hv => by
          have := (List.getElem?_eq_some_iff.1 hv).1
          rw [d3 i (by omega), hv])
        have hl := vrels_length h4
        refine ⟨[.rptr avs 0], vrels_cons ?_ vrels_nil, by simp [veqs, veq, h5], .inr ⟨avs, rfl, by omega, h6⟩⟩
        simp only [vrel]
        refine ⟨a.block, a.off, c, tt, fz, ?_, hro _ _ hh, by omega, by rw [hl, hlist]; exact h4⟩
        rw [Nat.add_zero, ← hs]
    · rename_i fs hu
      simp only [Bool.and_eq_true, List.all_eq_true] at hk
      obtain ⟨ht, hk⟩ := hk
      obtain ⟨xs, n, _, rfl, hlen, hxs, hf⟩ := DataW.trod_struct hu h
      dsimp only at hb
      obtain ⟨avs, h4, h5, h6⟩ := fields_rel (φ := φ) (cs := cs) (R := fun f avs => Rdt P N g f.type avs) fs.toList 0 (P.cellsOf t) ht (Nat.zero_le _) (by omega) (by
        intro fd hfd
        obtain ⟨i, hi, rfl⟩ := List.getElem_of_mem hfd
        have hi' : i < fs.size := by simpa using hi
        have h1 := hf i fs[i] (by simp [hi'])
        rw [List.getElem?_eq_getElem (by omega)] at h1
        simp only [Array.getElem_toList]
        exact trod_rel hro hB g _ n _ _ (hk _ (by simp)) h1 (Nat.le_trans (hB.agg _ _ (List.mem_map_of_mem (List.getElem_mem _))) hb))
      rw [List.drop_zero, Nat.sub_zero, List.take_of_length_le (by omega)] at h4
      exact ⟨avs, h4, h5, by rw [vrels_length h4]; exact hlen, fun f hf => (h6 f hf).2⟩
    · cases hk
end
end GX
/- GX: arguments of any type made of numbers, strings, slices, structs, pointers, whatever their size. -/

namespace GX
open Go Go.Deep
section
variable {H : Type} {enc : TypeId × Value → H} {P : Program} {w : World} {base : Nat} {sp : Nat → Bool} {held : Bool}
/-- what came in, as cells that are only read -/
theorem trodF_rel [Val] {φ : Phi} (hro : ∀ g o, w.heap[g]? = some o → Val.ro g = some o) : ∀ (g : Nat) (t : TypeId) (f : Nat) (cs : List Value) (x : DataW H × List MemPlace), okT P g t = true → DataW.trod enc P w base sp held f t cs = some x →
    ∃ avs, vrels φ avs cs ∧ veqs avs avs = true ∧ Rdt P maxLen g t avs
  | 0, _, _, _, _, hk, _ => by cases hk
  | g + 1, t, f, cs, x, hk, h => by
    unfold okT at hk
    unfold Rdt
    split at hk
    · rename_i hu
      obtain ⟨b, rfl, rfl⟩ := DataW.trod_bool hu h
      exact ⟨[.bool b], vrels_cons rfl vrels_nil, by cases b <;> rfl, b, rfl⟩
    · rename_i k hu
      obtain ⟨n, rfl, rfl, hw⟩ := DataW.trod_int hu h
      exact ⟨[.int k n], vrels_cons rfl vrels_nil, by simp [veqs, veq_int], n, rfl, hw⟩
    · rename_i hu
      obtain ⟨s, rfl, rfl, hs⟩ := DataW.trod_string hu h
      refine ⟨[.str (bytes s)], vrels_cons ⟨s, rfl, rfl⟩ vrels_nil, by simp [veqs, veq_str], bytes s, rfl, bytes_lt' s, ?_⟩
      have h2 : (bytes s).length = s.size := by unfold bytes; simp
      omega
    · rename_i e hu
      simp only [Bool.and_eq_true, decide_eq_true_eq] at hk
      obtain ⟨hz, hk⟩ := hk
      rcases DataW.trod_slice hu h with ⟨rfl, rfl⟩ | ⟨a, len, cap, elems, rest, n, _, rfl, rfl, hbs, hl, hm, hlen, hel, hsp, hns⟩
      · exact ⟨[.nils], vrels_cons rfl vrels_nil, rfl, .nils, [], rfl, fun S => ⟨rfl, rfl, rfl, rfl, rfl, by simp⟩, Nat.zero_le _, by simp⟩
      · have hlN : len ≤ maxLen := Nat.le_trans hl hm
        have each : ∀ i, i < len → ∃ q : List Value × List AV, w.cells? base (a.add (i * P.cellsOf e)) (P.cellsOf e) = some q.1 ∧ vrels φ q.2 q.1 ∧ veqs q.2 q.2 = true ∧ Rdt P maxLen g e q.2 := by
          intro i hi
          have h1 := hel i hi
          rw [List.getElem?_eq_getElem (by omega)] at h1
          obtain ⟨cs', h2, h3⟩ := Option.bind_eq_some_iff.1 h1
          obtain ⟨avs, h4, h5, h6⟩ := trodF_rel hro g e n cs' _ hk h3
          exact ⟨(cs', avs), h2, h4, h5, h6⟩
        obtain ⟨q, hq⟩ := choose_lt each
        have hql : ∀ i, i < len → (q i).1.length = P.cellsOf e := fun i hi => (World.cells?_some (hq i hi).1).2.1
        -- all cells, one behind the other
        have all : ∀ m, m ≤ len → ∃ vs : List Value, vs.length = m * P.cellsOf e ∧ (∀ i v, vs[i]? = some v → w.cell? (a.add i) = some v) ∧ vrels φ (List.flatten ((List.range m).map fun i => (q i).2)) vs ∧ veqs (List.flatten ((List.range m).map fun i => (q i).2)) (List.flatten ((List.range m).map fun i => (q i).2)) = true := by
          intro m
          induction m with
          | zero => intro _; exact ⟨[], by simp, by simp, vrels_nil, rfl⟩
          | succ m ih =>
            intro hm2
            obtain ⟨vs, g1, g2, g3, g4⟩ := ih (by omega)
            obtain ⟨c1, c2, c3, c4⟩ := hq m (by omega)
            obtain ⟨d1, d2, d3⟩ := World.cells?_some c1
            refine ⟨vs ++ (q m).1, by rw [List.length_append, g1, d2, Nat.add_mul, Nat.one_mul], fun i v hv => ?_, ?_, ?_⟩
            · by_cases hi : i < vs.length
              · rw [List.getElem?_append_left hi] at hv; exact g2 i v hv
              · rw [List.getElem?_append_right (by omega)] at hv
                have hi2 : i - vs.length < P.cellsOf e := by
                  have := (List.getElem?_eq_some_iff.1 hv).1; omega
                have h7 := d3 _ hi2
                rw [add_add, ← g1, hv, show vs.length + (i - vs.length) = i by omega] at h7
                exact h7
            · rw [List.range_succ, List.map_append, List.flatten_append]
              exact vrels_append g3 (by simpa using c2)
            · rw [List.range_succ, List.map_append, List.flatten_append]
              exact veqs_append g4 (by simpa using c3)
        obtain ⟨vs, g1, g2, g3, g4⟩ := all len (Nat.le_refl _)
        obtain ⟨av, k1, k2⟩ := arg_cellsN (φ := φ) hro hz hl g1 g2 g3 g4
        refine ⟨[av], vrels_cons k1 vrels_nil, ?_, av, (List.range len).map fun i => (q i).2, rfl, fun S => by simpa using k2 S, by simpa using hlN, ?_⟩
        · have := (k2 { h := .leaf, n := 0 }).self
          simp [veqs, this]
        · intro r hr
          obtain ⟨i, hi, rfl⟩ := List.mem_map.1 hr
          have hi := List.mem_range.1 hi
          exact ⟨by rw [vrels_length (hq i hi).2.1]; exact hql i hi, (hq i hi).2.2.2⟩
    · rename_i e hu
      simp only [Bool.and_eq_true, decide_eq_true_eq] at hk
      obtain ⟨hz, hk⟩ := hk
      rcases DataW.trod_pointer hu h with ⟨rfl, rfl⟩ | ⟨a, cs', y, n, _, rfl, rfl, hc, hy⟩
      · exact ⟨[.nilp], vrels_cons rfl vrels_nil, rfl, .inl rfl⟩
      · obtain ⟨avs, h4, h5, h6⟩ := trodF_rel hro g e n cs' _ hk hy
        obtain ⟨_, d2, d3⟩ := World.cells?_some hc
        have hne : cs' ≠ [] := by intro h; rw [h] at d2; simp at d2; omega
        obtain ⟨hs, c, tt, fz, hh, hfit, hlist⟩ := cells_in (a := a) hne (fun i v hv => by
          have := (List.getElem?_eq_some_iff.1 hv).1
          rw [d3 i (by omega), hv])
        have hl := vrels_length h4
        refine ⟨[.rptr avs 0], vrels_cons ?_ vrels_nil, by simp [veqs, veq, h5], .inr ⟨avs, rfl, by omega, h6⟩⟩
        simp only [vrel]
        refine ⟨a.block, a.off, c, tt, fz, ?_, hro _ _ hh, by omega, by rw [hl, hlist]; exact h4⟩
        rw [Nat.add_zero, ← hs]
    · rename_i fs hu
      simp only [Bool.and_eq_true, List.all_eq_true] at hk
      obtain ⟨ht, hk⟩ := hk
      obtain ⟨xs, n, _, rfl, hlen, hxs, hf⟩ := DataW.trod_struct hu h
      obtain ⟨avs, h4, h5, h6⟩ := fields_rel (φ := φ) (cs := cs) (R := fun f avs => Rdt P maxLen g f.type avs) fs.toList 0 (P.cellsOf t) ht (Nat.zero_le _) (by omega) (by
        intro fd hfd
        obtain ⟨i, hi, rfl⟩ := List.getElem_of_mem hfd
        have hi' : i < fs.size := by simpa using hi
        have h1 := hf i fs[i] (by simp [hi'])
        rw [List.getElem?_eq_getElem (by omega)] at h1
        simp only [Array.getElem_toList]
        exact trodF_rel hro g _ n _ _ (hk _ (by simp)) h1)
      rw [List.drop_zero, Nat.sub_zero, List.take_of_length_le (by omega)] at h4
      exact ⟨avs, h4, h5, by rw [vrels_length h4]; exact hlen, fun f hf => (h6 f hf).2⟩
    · cases hk
end
end GX
/- Chapter 15: calls that come in. -/



namespace Go.Proofs.Ytjbpegggfacojaa
open GX Go
set_option maxRecDepth 100000
theorem u3 : Try.prog.underlying 3 = some (.int .i64) := by kernel_rfl
theorem u9 : Try.prog.underlying 9 = some .string := by kernel_rfl
theorem u37 : Try.prog.underlying 37 = some (.slice 41) := by kernel_rfl
theorem u41 : Try.prog.underlying 41 = some (.struct #[⟨"Kind", 3, 0, false, "", "", 0⟩, ⟨"N", 3, 1, false, "", "", 8⟩, ⟨"M", 3, 2, false, "", "", 16⟩, ⟨"Id", 3, 3, false, "", "", 24⟩, ⟨"Name", 9, 4, false, "", "", 32⟩, ⟨"Super", 9, 5, false, "", "", 48⟩]) := by kernel_rfl
theorem c3 : Try.prog.cellsOf 3 = 1 := by kernel_rfl
theorem c9 : Try.prog.cellsOf 9 = 1 := by kernel_rfl
theorem c41 : Try.prog.cellsOf 41 = 6 := by kernel_rfl
theorem rdt_int {N g t : Nat} {k : IntKind} {a : AV} (hu : Try.prog.underlying t = some (.int k)) (h : Rdt Try.prog N (g + 1) t [a]) : ∃ n, a = .int k n ∧ (Lit.int k n).wf = true := by
  unfold Rdt at h; rw [hu] at h
  obtain ⟨n, h1, h2⟩ := h
  exact ⟨n, List.head_eq_of_cons_eq h1, h2⟩
theorem rdt_str {N g : Nat} {a : AV} (h : Rdt Try.prog N (g + 1) 9 [a]) : ∃ s, a = .str s ∧ (∀ b ∈ s, b < 256) ∧ s.length ≤ N := by
  unfold Rdt at h; rw [u9] at h
  obtain ⟨n, h1, h2⟩ := h
  exact ⟨n, List.head_eq_of_cons_eq h1, h2⟩
theorem wf_i64 {n : Int} (h : (Lit.int .i64 n).wf = true) : -9223372036854775808 ≤ n ∧ n < 9223372036854775808 := by
  simp [Lit.wf, IntKind.min, IntKind.max, IntKind.signed, IntKind.bits] at h
  omega
theorem ask_of {N g : Nat} {r : List AV} (h : Rdt Try.prog N (g + 2) 41 r) : ∃ c : AskA, c.cells = r ∧ c.Good := by
  unfold Rdt at h; rw [u41] at h
  obtain ⟨hl, hf⟩ := h
  rw [c41] at hl
  match r, hl with
  | [a0, a1, a2, a3, a4, a5], _ =>
    simp only [List.mem_cons, forall_eq_or_imp, c3, c9, List.drop_zero, List.drop_succ_cons, List.take_succ_cons, List.take_zero] at hf
    obtain ⟨h0, h1, h2, h3, h4, h5, _⟩ := hf
    obtain ⟨n0, rfl, _⟩ := rdt_int u3 h0
    obtain ⟨n1, rfl, _⟩ := rdt_int u3 h1
    obtain ⟨n2, rfl, _⟩ := rdt_int u3 h2
    obtain ⟨n3, rfl, w3⟩ := rdt_int u3 h3
    obtain ⟨s4, rfl, _⟩ := rdt_str h4
    obtain ⟨s5, rfl, _⟩ := rdt_str h5
    exact ⟨⟨n0, n1, n2, n3, s4, s5⟩, rfl, ⟨wf_i64 w3⟩⟩
theorem asks_of {N g : Nat} : ∀ (rows : List (List AV)), (∀ r ∈ rows, r.length = Try.prog.cellsOf 41 ∧ Rdt Try.prog N (g + 2) 41 r) → ∃ cs : List AskA, List.flatten rows = cellsK cs ∧ cs.length = rows.length ∧ ∀ c ∈ cs, c.Good
  | [], _ => ⟨[], rfl, rfl, by simp⟩
  | r :: rows, h => by
    obtain ⟨cs, h1, h2, h3⟩ := asks_of rows (fun r hr => h r (List.mem_cons_of_mem _ hr))
    obtain ⟨c, h4, h5⟩ := ask_of (h r (List.mem_cons_self ..)).2
    refine ⟨c :: cs, by rw [List.flatten_cons, h1, ← h4]; rfl, by simp [h2], fun q hq => ?_⟩
    rcases List.mem_cons.1 hq with rfl | hq
    · exact h5
    · exact h3 q hq
theorem asks_arg {N g : Nat} {a : AV} (h : Rdt Try.prog N (g + 3) 37 [a]) : ∃ cs : List AskA, (∀ S, Rd S a 6 (cellsK cs) cs.length) ∧ ∀ c ∈ cs, c.Good := by
  unfold Rdt at h; rw [u37] at h
  obtain ⟨v, rows, h1, h2, h3, h4⟩ := h
  obtain ⟨cs, g1, g2, g3⟩ := asks_of rows h4
  cases List.head_eq_of_cons_eq h1
  exact ⟨cs, fun S => (by rw [c41] at h2; exact (h2 S).eq g1 g2.symm), g3⟩
end Go.Proofs.Ytjbpegggfacojaa
/- carafelaw15.LoaderSteady over the machine's runs. (NODRAWN) -/


namespace Go.Proofs.Ytjbpegggfacojaa
open GX
set_option maxHeartbeats 32000000
set_option maxRecDepth 100000
theorem all0 : All st0 [] := by
  have hh : ∀ (n : Nat) nm, hasS st0 ((n : Nat) : Int) nm = none := fun n nm => cfg0.has n nm
  have ho : ∀ (n : Nat) nm, offS st0 ((n : Nat) : Int) nm = none := fun n nm => by
    unfold offS st0
    rw [Int.toNat_natCast]
    match n with
    | 0 => rfl
    | n + 1 => rfl
  exact ⟨⟨⟨fun _ => 0, fun _ => 0, ⟨⟨fun i hi => (by cases hi), rfl, fun k v hv => (by cases hv), by decide⟩, fun n nm x hx => (by rw [hh] at hx; cases hx), fun q hq => (by cases hq)⟩⟩, fun n nm o h => (by rw [ho] at h; cases h)⟩, cfg0.par⟩
theorem off0 {m : Int} {nm : Nm} {o : Nm × Int} (h : offS st0 m nm = some o) : False := by
  unfold offS st0 at h
  match hm : m.toNat with
  | 0 => rw [hm] at h; cases h
  | n + 1 => rw [hm] at h; cases h
theorem child_off {st : LdS} {n m : Int} {nm : Nm} {o : Nm × Int} (h : offS (childS st n).2 m nm = some o) : offS st m nm = some o := by
  unfold childS at h
  by_cases h1 : isL st n
  · rw [if_pos h1] at h
    by_cases h2 : 16 ≤ st.ones.length
    · rw [if_pos h2] at h; exact h
    · rw [if_neg h2] at h
      unfold offS at h ⊢
      dsimp only at h
      by_cases hk : m.toNat < st.ones.length
      · rw [List.getElem?_append_left hk] at h; exact h
      · exfalso
        by_cases hk2 : m.toNat = st.ones.length
        · rw [hk2] at h; simp [alook] at h
        · rw [List.getElem?_eq_none (by simp; omega)] at h; cases h
  · rw [if_neg h1] at h; exact h
theorem child_len {st : LdS} {n : Int} : st.ones.length ≤ (childS st n).2.ones.length ∧ (childS st n).2.prs = st.prs := by
  unfold childS
  by_cases h1 : isL st n
  · rw [if_pos h1]
    by_cases h2 : 16 ≤ st.ones.length
    · rw [if_pos h2]; exact ⟨Nat.le_refl _, rfl⟩
    · rw [if_neg h2]; exact ⟨by simp, rfl⟩
  · rw [if_neg h1]; exact ⟨Nat.le_refl _, rfl⟩
theorem OfferS.offs {st st' : LdS} {n id : Int} {nm sup : Nm} {e : Int} (h : OfferS st n nm sup id e st') : st'.ones.length = st.ones.length ∧ st'.prs = st.prs ∧ ∀ (m : Int) nm' o, 0 ≤ m → offS st' m nm' = some o → offS st m nm' = some o ∨ (m, nm') = (n, nm) := by
  cases h with
  | arg h => exact ⟨rfl, rfl, fun m nm' o _ ho => .inl ho⟩
  | taken h o ho => exact ⟨rfl, rfl, fun m nm' o _ ho => .inl ho⟩
  | put h ho o hn =>
    refine ⟨by show (st.ones.set _ _).length = _; rw [List.length_set], rfl, fun m nm' o' hm ho' => ?_⟩
    have hj := (List.getElem?_eq_some_iff.1 hn).1
    unfold offS at ho'
    have ho' : (match (st.ones.set n.toNat { o with off := aput nm (sup, id) o.off })[m.toNat]? with | some o => alook nm' o.off | none => none) = some o' := ho'
    by_cases e : n.toNat = m.toNat
    · rw [← e, List.getElem?_set_self hj] at ho'
      dsimp only at ho'
      rw [alook_aput] at ho'
      by_cases e2 : nm' = nm
      · have := h.1.1
        exact .inr (by rw [e2, show m = n by omega])
      · rw [if_neg e2] at ho'
        refine .inl ?_
        unfold offS
        rw [← e, hn]; exact ho'
    · rw [List.getElem?_set_ne e] at ho'
      refine .inl ?_
      unfold offS
      cases hq : st.ones[m.toNat]? with
      | some q => rw [hq] at ho'; exact ho'
      | none => rw [hq] at ho'; cases ho'
theorem AgreeS.same {st st' : LdS} {a b : Int} {nm : Nm} {e : Int} (h : AgreeS st a b nm e st') : st'.ones = st.ones ∧ st'.prs.length ≤ st.prs.length + 2 ∧ (e = 0 → isL st a ∧ isL st b) := by
  cases h with
  | arg h => exact ⟨rfl, by omega, fun e => by cases e⟩
  | bound h st1 st2 rx ry vx vy h1 h2 hx hy hb =>
    have a1 := h1.ok
    have a2 := h2.ok
    exact ⟨a2.2.1.trans a1.2.1, by have := a1.2.2.1; have := a2.2.2.1; omega, fun _ => h⟩
  | ok h st1 st2 rx ry vx vy h1 h2 hx hy hb =>
    have a1 := h1.ok
    have a2 := h2.ok
    refine ⟨a2.2.1.trans a1.2.1, ?_, fun _ => h⟩
    show (st2.prs.set rx _).length ≤ _
    rw [List.length_set]
    have := a1.2.2.1; have := a2.2.2.1; omega
theorem own_blk {S : St} {v : AV} {el sz m : Nat} {cs : List AV} (h : Own S v el sz cs m) (hm : 0 < m) : ∃ b, v = .slice b 0 m (.op sz) ∧ S.h.get b = some (.cells el cs true) := by
  rcases h with ⟨_, _, h3⟩ | ⟨b, h1, h2, _⟩
  · omega
  · exact ⟨b, h1, h2⟩
theorem steady_runs {S : St} {av : AV} {ks : List AskA} (hok : Sok S) (hav : ∀ S, Rd S av 6 (cellsK ks) ks.length) (hgood : ∀ a ∈ ks, a.Good) (hn : S.n ≤ 1000) :
    Runs X1 7 [av] S fun r _ => r = .bool true := by
  refine Runs_fn (m := 175) (by kernel_rfl) Try.func7 rfl (by kernel_rfl) (by kernel_rfl) ?_
  repeat (
    first
      | refine W_seq ?_
      | refine WO_nil ?_
      | refine V_seq ?_
      | refine W_region ?_
      | refine WO_dst rfl rfl (by kernel_rfl) (by kernel_rfl) ?_
      | refine Ev_assign rfl ?_)
  refine Ev_call rfl rfl ((new_runs hok (by omega)).mono ?_)
  rintro _ T0 - ⟨p, y0, rfl, hL0, t0l, t0n, _⟩
  have h0 : SI T0 p y0 st0 .nils [] .nils [] [] 0 2000 := ⟨hL0, all0, .inl ⟨rfl, rfl, rfl⟩, .inl ⟨rfl, rfl, rfl⟩, fun c hc => (by cases hc), fun c hc => (by cases hc), fun c hc => (by cases hc), fun g hg => (by cases hg), fun q hq => (by cases hq), ⟨Nat.le_refl _, Nat.le_refl _⟩, ⟨[], Nat.le_refl _, fun m nm o _ ho => (off0 ho).elim⟩, Nat.zero_le _, by omega⟩
  repeat (
    first
      | refine W_seq ?_
      | refine WO_nil ?_
      | refine V_seq ?_
      | refine W_region ?_
      | refine W_skip ?_
      | refine W_block ?_
      | refine W_cond_f rfl ?_
      | refine WO_dst rfl rfl (by kernel_rfl) (by kernel_rfl) ?_
      | refine Ev_move rfl ?_
      | refine Ev_assign rfl ?_
      | refine Ev_ptr_eql rfl rfl rfl rfl ?_)
  refine W_inv (fun x : Nat × AV × AV => [(6, .int .i64 ((x.1 : Nat) : Int)), (5, x.2.2), (4, x.2.1), (3, .ptr p 0), (0, av)]) (fun x T => x.1 ≤ 60 ∧ ∃ y st had psl pset, SI T p y st x.2.1 had x.2.2 psl pset x.1 (2000 + 400000 * x.1)) (fun x => 61 - x.1) ?_ (0, .nils, .nils) ⟨Nat.zero_le _, y0, st0, [], [], [], h0⟩ ⟨rfl, rfl, rfl, rfl, rfl, trivial⟩
  rintro ⟨i, hv, pv⟩ T ⟨hi, y, st, had, psl, pset, hI⟩ back
  dsimp only at hi hI back
  repeat' (
    first
      | refine W_seq ?_
      | refine WO_nil ?_
      | refine V_seq ?_
      | refine W_region ?_
      | refine W_skip ?_
      | refine W_block ?_
      | refine W_exit ?_
      | refine V_block_x rfl ?_
      | refine V_seq_x ?_
      | refine V_loop_x ?_
      | refine W_cond_f rfl ?_
      | refine WO_dst rfl rfl (by kernel_rfl) (by kernel_rfl) ?_
      | refine WO_guard_t rfl rfl rfl rfl rfl (by kernel_rfl) (by kernel_rfl) ?_
      | refine WO_guard_f rfl rfl rfl rfl rfl rfl (by kernel_rfl) (by kernel_rfl) ?_
      | refine Ev_len rfl rfl rfl rfl rfl (hav T).len ?_
      | refine Ev_move rfl ?_
      | refine Ev_pick_t rfl rfl rfl ?_
      | refine Ev_pick_f rfl rfl rfl ?_
      | refine Ev_lssN rfl rfl ?_
      | (refine WO_guard_dt rfl rfl rfl rfl rfl (by kernel_rfl) (by kernel_rfl) (fun hg => ?_) (fun hg => ?_) <;> (try dsimp only at hg) <;> try (exfalso; first | omega | exact hg rfl))
      | (refine W_cond rfl (fun hc => ?_) (fun hc => ?_) <;> (try dsimp only at hc) <;> try (exfalso; first | omega | exact hc rfl)))
  · have hlt : i < ks.length := by assumption
    have hi60 : i < 60 := by assumption
    obtain ⟨a, hga⟩ : ∃ a, ks[i]? = some a := ⟨_, List.getElem?_eq_getElem hlt⟩
    have hag := hgood a (List.mem_of_getElem? hga)
    obtain ⟨fa1, fa2⟩ := flat_at (f := AskA.cells) (sz := 6) (fun _ => rfl) ks i a hga
    have hIn := hI.n
    refine Ev_indexAddr_rd (i := i) rfl rfl rfl rfl rfl (hav T) hlt ?_
    intro q hq
    repeat (
      refine WO_dst rfl rfl (by kernel_rfl) (by kernel_rfl) ?_)
    refine Ev_load_pt_agg (ds := a.cells) rfl rfl rfl hq fa2 fa1 (by simp [veqs, veq_int, veq_str]) ?_
    repeat (
      refine WO_dst rfl rfl (by kernel_rfl) (by kernel_rfl) ?_)
    refine Ev_alloc_ rfl hI.L.ok (by omega) ?_
    intro T1 n1 ok1 q1 f1
    repeat (
      refine WO_no rfl rfl ?_)
    refine Ev_store rfl rfl rfl rfl rfl q1 (by show 0 + 6 ≤ 6; decide) (by omega) ?_
    intro T2 n2 q2 f2
    have ok2 : Sok T2 := sok_upd ok1 (by omega) n2 q2 f2
    have f02 : ∀ c, c < T.n → T2.h.get c = T.h.get c := fun c hc => by rw [f2 c (by omega), f1 c hc]
    have q2 : T2.h.get T.n = some (.cells 41 a.cells false) := q2
    repeat (
      first
        | refine W_seq ?_
        | refine WO_nil ?_
        | refine V_seq ?_
        | refine W_region ?_
        | refine WO_dst rfl rfl (by kernel_rfl) (by kernel_rfl) ?_
        | refine Ev_load rfl rfl rfl q2 rfl (veq_int _ _) ?_
        | refine Ev_fieldAddr rfl rfl rfl rfl rfl rfl ?_)
    refine Ev_call rfl rfl ((five_runs (n := a.id) ok2 hag.id (by omega)).mono ?_)
    rintro _ T3 - ⟨⟨nm, hnm, rfl⟩, ok3, le3, n3, f3⟩
    have q3 : T3.h.get T.n = some (.cells 41 a.cells false) := by rw [f3 _ (by omega)]; exact q2
    have hI3 := hI.far (b' := 2000 + 400000 * i + 10) ok3 (fun c hc => by rw [f3 c (by omega), f02 c hc]) (by omega) (by omega)
    obtain ⟨y3, hy3⟩ : ∃ y3, y3 = { y with tg := fun c => if c < T.n then y.tg c else 5 } := ⟨_, rfl⟩
    rw [← hy3] at hI3
    have t3 : ∀ c, T.n ≤ c → y3.tg c = 5 := fun c hc => by rw [hy3]; exact if_neg (by omega)
    have hsm := hI3.small
    obtain ⟨hn1, hn2⟩ := five_name hnm
    obtain ⟨K, hKl, hK⟩ := hI3.off
    have hpr := hI3.prs
    repeat' (
      first
        | refine W_seq ?_
        | refine WO_nil ?_
        | refine V_seq ?_
        | refine W_region ?_
        | refine W_block ?_
        | refine WO_dst rfl rfl (by kernel_rfl) (by kernel_rfl) ?_
        | refine Ev_load rfl rfl rfl q3 rfl (veq_int _ _) ?_
        | refine Ev_assign rfl ?_
        | refine Ev_eql rfl rfl ?_
        | refine Ev_fieldAddr rfl rfl rfl rfl rfl rfl ?_)
    refine W_cut (fun l' U => ∃ hv' pv' y' st' had' psl' pset', SI U p y' st' hv' had' pv' psl' pset' (i + 1) (2000 + 400000 * i + 390000) ∧ sub [(0, av), (3, .ptr p 0), (4, hv'), (5, pv'), (6, .int .i64 ((i : Nat) : Int))] l') ?_ ?_
    · repeat' (
        first
          | refine W_seq ?_
          | refine WO_nil ?_
          | refine V_seq ?_
          | refine W_region ?_
          | refine W_skip ?_
          | refine WO_dst rfl rfl (by kernel_rfl) (by kernel_rfl) ?_
          | refine Ev_load rfl rfl rfl q3 rfl (veq_int _ _) ?_
          | refine Ev_move rfl ?_
          | refine Ev_assign rfl ?_
          | refine Ev_eql rfl rfl ?_
          | refine Ev_fieldAddr rfl rfl rfl rfl rfl rfl ?_
          | (refine W_cond rfl (fun hc => ?_) (fun hc => ?_) <;> (try dsimp only at hc) <;> try (exfalso; first | omega | exact hc rfl)))
      · refine Ev_call rfl rfl ((Child_runs (n := a.n) hI3.L hsm (by omega)).mono ?_)
        rintro _ T4 - ⟨rfl, y4, hL4, fo4⟩
        have g4 := fo4.n
        obtain ⟨hA4, hE4⟩ := child_keep (n := a.n) hI3.A
        repeat (
          refine WO_nil ?_)
        exact V_mid ⟨hv, pv, y4, _, had, psl, pset, hI3.call hL4 hA4 fo4 hE4 child_len.1 (fun _ h => h) (by omega) ⟨K, by omega, fun m nm' o hm ho => hK m nm' o hm (child_off ho)⟩ (by rw [child_len.2]; omega) (by omega), rfl, rfl, rfl, rfl, rfl, trivial⟩
      · refine Ev_call rfl rfl ((Offer_runs (n := a.n) (nm := nm) (sup := []) (id := a.id) hI3.L hsm (by omega) (by decide) (by omega)).mono ?_)
        rintro _ T4 - ⟨e4, st4, y4, rfl, ho4, hL4, fo4⟩
        have g4 := fo4.n
        obtain ⟨hA4, hE4⟩ := ho4.keep hI3.A
        obtain ⟨o1, o2, o3⟩ := ho4.offs
        repeat (
          refine WO_nil ?_)
        refine V_mid ⟨hv, pv, y4, st4, had, psl, pset, hI3.call hL4 hA4 fo4 hE4 (by omega) (fun _ h => h) (by omega) ⟨(a.n, nm) :: K, by simp; omega, fun m nm' o hm ho => ?_⟩ (by rw [o2]; omega) (by omega), rfl, rfl, rfl, rfl, rfl, trivial⟩
        rcases o3 m nm' o hm ho with hh | hh
        · exact List.mem_cons_of_mem _ (hK m nm' o hm hh)
        · rw [hh]; exact List.mem_cons_self ..
      · refine Ev_call rfl rfl ((Load_runs (nm := nm) (n := a.n) (K := K) hI3.L hI3.good hI3.A.par hK (by omega) (by omega)).mono ?_)
        rintro _ T4 - ⟨x, e4, st4, y4, rfl, hl4, hg4, hsk4, hpr4, hL4, fo4⟩
        have g4 := fo4.n
        have g4l := fo4.le
        obtain ⟨hA4, hE4, _, hz4⟩ := hl4.keep hI3.A
        have hI4 := hI3.call (j := i + 1) (b' := 2000 + 400000 * i + 380000) hL4 hA4 fo4 hE4 (by rw [hsk4.1]; exact Nat.le_refl _) (fun _ h => h) (by omega) ⟨K, by omega, fun m nm' o hm ho => hK m nm' o hm (by rw [← hsk4.offS]; exact ho)⟩ (by omega) (by omega)
        have q4 : T4.h.get T.n = some (.cells 41 a.cells false) := by rw [fo4.fo _ (by omega) (t3 _ (Nat.le_refl _))]; exact q3
        have hfew := hI4.few
        repeat' (
          first
            | refine W_seq ?_
            | refine WO_nil ?_
            | refine V_seq ?_
            | refine W_region ?_
            | refine W_skip ?_
            | refine WO_dst rfl rfl (by kernel_rfl) (by kernel_rfl) ?_
            | refine Ev_load rfl rfl rfl q4 rfl (veq_int _ _) ?_
            | refine Ev_move rfl ?_
            | refine Ev_assign rfl ?_
            | refine Ev_extract rfl rfl ?_
            | refine Ev_eql rfl rfl ?_
            | refine Ev_fieldAddr rfl rfl rfl rfl rfl rfl ?_
            | (refine W_cond rfl (fun hc => ?_) (fun hc => ?_) <;> (try dsimp only at hc) <;> try (exfalso; first | omega | exact hc rfl)))
        · have he : e4 = 0 := by assumption
          obtain ⟨hisL, hhas⟩ := hz4 he
          obtain ⟨jn, hjn⟩ : ∃ jn : Nat, a.n = (jn : Int) := ⟨a.n.toNat, by unfold isL at hisL; omega⟩
          rw [hjn] at hhas
          have hjl : jn < st4.ones.length := by unfold isL at hisL; rw [hsk4.1]; omega
          refine Ev_build (v := .agg [.int .i64 a.n, .int .i64 x.1, .str nm]) rfl rfl ?_
          repeat (
            refine WO_dst rfl rfl (by kernel_rfl) (by kernel_rfl) ?_)
          refine Ev_buildSlice rfl rfl rfl rfl rfl rfl hI4.L.ok (by omega) ?_
          intro T5 n5 ok5 q5 f5
          have hI5 := hI4.far (b' := 2000 + 400000 * i + 380001) ok5 f5 (by omega) (by omega)
          repeat (
            refine WO_dst rfl rfl (by kernel_rfl) (by kernel_rfl) ?_)
          refine Ev_append rfl rfl rfl rfl rfl rfl rfl rfl rfl rfl hI5.hl (Rd_lit (m := 1) q5 rfl rfl) rfl ok5 (by omega) (by dsimp only; omega) (by omega) ?_
          intro hv6 T6 le6 n6 ok6 ow6 f6 b6
          have b6' : ∀ c, blkOf hv6 = some c → (blkOf hv = some c ∧ c < T5.n) ∨ T5.n ≤ c := fun c hc => (b6 c hc).imp (fun e => ⟨e, hI5.hl.lt ok5 e⟩) id
          repeat (
            first
              | refine WO_nil ?_
              | refine WO_dst rfl rfl (by kernel_rfl) (by kernel_rfl) ?_
              | refine Ev_assign rfl ?_)
          refine V_mid ⟨hv6, pv, _, st4, had ++ [(jn, x.1, nm)], psl, pset, ⟨hI5.L.other ok6 (fun c hc ht => f6 c (fun e => ht (hI5.th c e)) hc), hI5.A, ?_, hI5.pl.keep (fun c hc => f6 c (fun e => hI5.dis c e hc) (hI5.pl.lt ok5 hc)), fun c hc => ?_, hI5.tp, fun c hc e => ?_, fun g hg => ?_, hI5.pg, ⟨by rw [List.length_append, List.length_singleton]; have := hI3.few; omega, hI5.few.2⟩, hI5.off, hI5.prs, by omega⟩, rfl, rfl, rfl, rfl, rfl, trivial⟩
          · have e : cellsG (had ++ [(jn, x.1, nm)]) = cellsG had ++ [.int .i64 a.n, .int .i64 x.1, .str nm] := by unfold cellsG; rw [List.flatMap_append, hjn]; rfl
            rw [e, List.length_append]
            exact ow6
          · rcases b6' c hc with ⟨g, _⟩ | g
            · exact hI5.th c g
            · exact if_neg (by omega)
          · have := hI5.pl.lt ok5 e
            rcases b6' c hc with ⟨g, _⟩ | g
            · exact hI5.dis c g e
            · omega
          · rcases List.mem_append.1 hg with hg | hg
            · exact hI5.hg g hg
            · rw [List.mem_singleton] at hg; subst hg
              exact ⟨hjl, x, hhas, rfl⟩
        · exact V_mid ⟨hv, pv, y4, st4, had, psl, pset, { hI4 with n := by have := hI4.n; omega }, rfl, rfl, rfl, rfl, rfl, trivial⟩
      · refine Ev_call rfl rfl ((Agree_runs (a := a.n) (b := a.m) (nm := nm) hI3.L hI3.good (by omega) (by omega)).mono ?_)
        rintro _ T4 - ⟨e4, st4, y4, rfl, hag4, hL4, fo4⟩
        have g4 := fo4.n
        have g4l := fo4.le
        obtain ⟨s1, s2, s3⟩ := hag4.same
        have q4 : T4.h.get T.n = some (.cells 41 a.cells false) := by rw [fo4.fo _ (by omega) (t3 _ (Nat.le_refl _))]; exact q3
        have hoff4 : ∃ K : List (Int × Nm), K.length ≤ i + 1 ∧ ∀ (m : Int) nm o, 0 ≤ m → offS st4 m nm = some o → (m, nm) ∈ K := ⟨K, by omega, fun m nm' o hm ho => hK m nm' o hm (by rw [← offS_ones s1]; exact ho)⟩
        by_cases hb : isL st a.n ∧ isL st a.m
        · obtain ⟨ja, hja⟩ : ∃ j : Nat, a.n = (j : Int) := ⟨a.n.toNat, by have := hb.1; unfold isL at this; omega⟩
          obtain ⟨jb, hjb⟩ : ∃ j : Nat, a.m = (j : Int) := ⟨a.m.toNat, by have := hb.2; unfold isL at this; omega⟩
          have hjal : ja < st4.ones.length := by have := hb.1; unfold isL at this; rw [s1]; omega
          have hjbl : jb < st4.ones.length := by have := hb.2; unfold isL at this; rw [s1]; omega
          rw [hja, hjb] at hag4
          obtain ⟨hA4, hE4⟩ := hag4.keep hI3.A
          have hI4 := hI3.call (j := i + 1) (b' := 2000 + 400000 * i + 380000) hL4 hA4 fo4 hE4 (by rw [s1]; exact Nat.le_refl _) (fun q hq => by split; exact List.mem_cons_of_mem _ hq; exact hq) (by omega) hoff4 (by omega) (by omega)
          have hfew := hI4.few
          repeat' (
            first
              | refine WO_nil ?_
              | refine V_seq ?_
              | refine W_region ?_
              | refine W_skip ?_
              | refine WO_dst rfl rfl (by kernel_rfl) (by kernel_rfl) ?_
              | refine Ev_load rfl rfl rfl q4 rfl (veq_int _ _) ?_
              | refine Ev_move rfl ?_
              | refine Ev_eql rfl rfl ?_
              | refine Ev_fieldAddr rfl rfl rfl rfl rfl rfl ?_
              | (refine W_cond rfl (fun hc => ?_) (fun hc => ?_) <;> (try dsimp only at hc) <;> try (exfalso; first | omega | exact hc rfl)))
          · have he : e4 = 0 := by assumption
            rw [if_pos he] at hI4
            refine Ev_build (v := .agg [.int .i64 0, .int .i64 a.n, .int .i64 a.m, .int .i64 0, .str nm, .str []]) rfl rfl ?_
            repeat (
              refine WO_dst rfl rfl (by kernel_rfl) (by kernel_rfl) ?_)
            refine Ev_buildSlice rfl rfl rfl rfl rfl rfl hI4.L.ok (by omega) ?_
            intro T5 n5 ok5 q5 f5
            have hI5 := hI4.far (b' := 2000 + 400000 * i + 380001) ok5 f5 (by omega) (by omega)
            repeat (
              refine WO_dst rfl rfl (by kernel_rfl) (by kernel_rfl) ?_)
            refine Ev_append rfl rfl rfl rfl rfl rfl rfl rfl rfl rfl hI5.pl (Rd_lit (m := 1) q5 rfl rfl) rfl ok5 (by omega) (by dsimp only; omega) (by omega) ?_
            intro pv6 T6 le6 n6 ok6 ow6 f6 b6
            have b6' : ∀ c, blkOf pv6 = some c → (blkOf pv = some c ∧ c < T5.n) ∨ T5.n ≤ c := fun c hc => (b6 c hc).imp (fun e => ⟨e, hI5.pl.lt ok5 e⟩) id
            repeat (
              first
                | refine WO_nil ?_
                | refine WO_dst rfl rfl (by kernel_rfl) (by kernel_rfl) ?_
                | refine Ev_assign rfl ?_)
            refine V_mid ⟨hv, pv6, _, st4, had, psl ++ [(ja, jb, nm)], _, ⟨hI5.L.other ok6 (fun c hc ht => f6 c (fun e => ht (hI5.tp c e)) hc), hI5.A, hI5.hl.keep (fun c hc => f6 c (fun e => hI5.dis c hc e) (hI5.hl.lt ok5 hc)), ?_, hI5.th, fun c hc => ?_, fun c hc e => ?_, hI5.hg, fun q hq => ?_, ⟨hI5.few.1, by rw [List.length_append, List.length_singleton]; have := hI3.few; omega⟩, hI5.off, hI5.prs, by omega⟩, rfl, rfl, rfl, rfl, rfl, trivial⟩
            · have e : cellsP (psl ++ [(ja, jb, nm)]) = cellsP psl ++ [.int .i64 0, .int .i64 a.n, .int .i64 a.m, .int .i64 0, .str nm, .str []] := by unfold cellsP; rw [List.flatMap_append, hja, hjb]; rfl
              rw [e, List.length_append]
              exact ow6
            · rcases b6' c hc with ⟨g, _⟩ | g
              · exact hI5.tp c g
              · exact if_neg (by omega)
            · have := hI5.hl.lt ok5 hc
              rcases b6' c e with ⟨g, _⟩ | g
              · exact hI5.dis c hc g
              · omega
            · rcases List.mem_append.1 hq with hq | hq
              · exact hI5.pg q hq
              · rw [List.mem_singleton] at hq; subst hq
                exact ⟨List.mem_cons_self .., hjal, hjbl⟩
          · exact V_mid ⟨hv, pv, y4, st4, had, psl, _, { hI4 with n := by have := hI4.n; omega }, rfl, rfl, rfl, rfl, rfl, trivial⟩
        · have he : e4 ≠ 0 := fun e => hb (s3 e)
          have hst : st4 = st := by
            cases hag4 with
            | arg h => rfl
            | bound h => exact absurd h hb
            | ok h => exact absurd h hb
          subst hst
          have hI4 := hI3.call (j := i + 1) (b' := 2000 + 400000 * i + 390000) hL4 hI3.A fo4 (fun _ _ _ h => h) (Nat.le_refl _) (fun _ h => h) (by omega) hoff4 (by omega) (by omega)
          repeat' (
            first
              | refine WO_nil ?_
              | refine V_seq ?_
              | refine W_skip ?_
              | refine WO_dst rfl rfl (by kernel_rfl) (by kernel_rfl) ?_
              | refine Ev_eql rfl rfl ?_
              | (refine W_cond rfl (fun hc => ?_) (fun hc => ?_) <;> (try dsimp only at hc) <;> try (exfalso; first | omega | exact hc rfl)))
          exact V_mid ⟨hv, pv, y4, _, had, psl, pset, hI4, rfl, rfl, rfl, rfl, rfl, trivial⟩
      · exact V_mid ⟨hv, pv, y3, st, had, psl, pset, hI3.call (k := 0) hI3.L hI3.A ⟨Nat.le_refl _, by omega, fun _ _ => rfl, fun _ _ _ => rfl⟩ (fun _ _ _ h => h) (Nat.le_refl _) (fun _ h => h) (by omega) ⟨K, by omega, hK⟩ (by omega) (by omega), rfl, rfl, rfl, rfl, rfl, trivial⟩
    · rintro l' U ⟨hv', pv', y', st', had', psl', pset', hU, hsub⟩
      have hfew := hU.few
      refine V_weak hsub ?_
      repeat (
        first
          | refine W_seq ?_
          | refine WO_nil ?_
          | refine V_seq ?_
          | refine W_region ?_
          | refine W_block ?_
          | refine V_block ?_
          | refine WO_dst rfl rfl (by kernel_rfl) (by kernel_rfl) ?_
          | refine Ev_assign rfl ?_)
      refine W_inv (fun k : Nat => [(12, .int .i64 ((k : Nat) : Int)), (0, av), (3, .ptr p 0), (4, hv'), (5, pv'), (6, .int .i64 ((i : Nat) : Int))]) (fun k V => k ≤ had'.length ∧ ∃ y2, SI V p y2 st' hv' had' pv' psl' pset' (i + 1) (2000 + 400000 * i + 390000 + k)) (fun k => had'.length - k) ?_ 0 ⟨Nat.zero_le _, y', hU⟩ ⟨rfl, rfl, rfl, rfl, rfl, rfl, trivial⟩
      rintro k V ⟨hk, y2, hV⟩ back2
      have hVn := hV.n
      repeat' (
        first
          | refine W_seq ?_
          | refine WO_nil ?_
          | refine V_seq ?_
          | refine W_region ?_
          | refine W_skip ?_
          | refine W_block ?_
          | refine W_exit ?_
          | refine V_block_x rfl ?_
          | refine V_seq_x ?_
          | refine V_loop_x ?_
          | refine WO_dst rfl rfl (by kernel_rfl) (by kernel_rfl) ?_
          | refine Ev_len rfl rfl rfl rfl rfl hV.hl.rd.len ?_
          | refine Ev_move rfl ?_
          | refine Ev_assign rfl ?_
          | refine Ev_lssN rfl rfl ?_
          | (refine W_cond rfl (fun hc => ?_) (fun hc => ?_) <;> (try dsimp only at hc) <;> try (exfalso; first | omega | exact hc rfl)))
      · have hkl : k < had'.length := by assumption
        obtain ⟨g, hgk⟩ : ∃ g, had'[k]? = some g := ⟨_, List.getElem?_eq_getElem hkl⟩
        obtain ⟨gl, x, gx, gid⟩ := hV.hg g (List.mem_of_getElem? hgk)
        obtain ⟨bh, hvh, hbh⟩ := own_blk hV.hl (by omega)
        have gc : ∀ j v, (gotC g)[j]? = some v → (cellsG had')[0 + k * 3 + j]? = some v := fun j v hj => by
          rw [Nat.zero_add]; exact flat_cell (f := gotC) (fun _ => rfl) hgk hj
        refine W_drawn (by kernel_rfl) ?_
        repeat (
          first
            | refine WO_dst rfl rfl (by kernel_rfl) (by kernel_rfl) ?_
            | refine Ev_move rfl ?_)
        refine Ev_indexAddr (i := k) (b := bh) (o := 0) (len := had'.length) (cap := .op 3) rfl (congrArg some hvh) rfl rfl rfl hkl ?_
        repeat (
          first
            | refine WO_dst rfl rfl (by kernel_rfl) (by kernel_rfl) ?_
            | refine Ev_fieldAddr rfl rfl rfl rfl rfl rfl ?_)
        refine Ev_load rfl rfl rfl hbh (gc 0 _ rfl) (veq_int _ _) ?_
        repeat (
          first
            | refine WO_dst rfl rfl (by kernel_rfl) (by kernel_rfl) ?_
            | refine Ev_move rfl ?_)
        refine Ev_indexAddr (i := k) (b := bh) (o := 0) (len := had'.length) (cap := .op 3) rfl (congrArg some hvh) rfl rfl rfl hkl ?_
        repeat (
          first
            | refine WO_dst rfl rfl (by kernel_rfl) (by kernel_rfl) ?_
            | refine Ev_fieldAddr rfl rfl rfl rfl rfl rfl ?_)
        refine Ev_load rfl rfl rfl hbh (gc 2 _ rfl) (veq_str _) ?_
        repeat (
          refine WO_dst rfl rfl (by kernel_rfl) (by kernel_rfl) ?_)
        refine Ev_call rfl rfl ((Loaded_runs (n := ((g.1 : Nat) : Int)) (nm := g.2.2) hV.L hV.small (by omega)).mono ?_)
        rintro _ V2 - ⟨rfl, y3', hL3, fo3⟩
        have g3 := fo3.n
        have hisL : isL st' ((g.1 : Nat) : Int) := by unfold isL; omega
        rw [if_pos hisL, gx]
        have hV2 := hV.call (j := i + 1) (b' := 2000 + 400000 * i + 390000 + (k + 1)) hL3 hV.A fo3 (fun _ _ _ h => h) (Nat.le_refl _) (fun _ h => h) (Nat.le_refl _) hV.off hV.prs (by omega)
        have hbh2 : V2.h.get bh = some (.cells 52 (cellsG had') true) := by rw [fo3.fo bh (hV.L.ok _ _ hbh) (hV.th bh (by rw [hvh]; rfl))]; exact hbh
        dsimp only [Option.getD, Option.isSome]
        rw [gid]
        repeat' (
          first
            | refine W_seq ?_
            | refine WO_nil ?_
            | refine V_seq ?_
            | refine W_region ?_
            | refine W_skip ?_
            | refine V_block ?_
            | refine WO_dst rfl rfl (by kernel_rfl) (by kernel_rfl) ?_
            | refine WO_guard_t rfl rfl rfl rfl rfl (by kernel_rfl) (by kernel_rfl) ?_
            | (refine Ev_indexAddr (i := k) (b := bh) (o := 0) (len := had'.length) (cap := .op 3) rfl (congrArg some hvh) rfl rfl rfl hkl ?_)
            | refine Ev_load rfl rfl rfl hbh2 (gc 1 _ rfl) (veq_int _ _) ?_
            | refine Ev_move rfl ?_
            | refine Ev_assign rfl ?_
            | refine Ev_extract rfl rfl ?_
            | refine Ev_pick_f rfl rfl rfl ?_
            | refine Ev_neq rfl rfl ?_
            | refine Ev_notb rfl ?_
            | refine Ev_fieldAddr rfl rfl rfl rfl rfl rfl ?_
            | refine Ev_addN rfl rfl (by simp only [lim]; omega) ?_
            | (refine W_cond rfl (fun hc => ?_) (fun hc => ?_) <;> (try dsimp only at hc) <;> try (exfalso; first | omega | exact hc rfl)))
        exact back2 (k + 1) V2 _ (by omega) ⟨by omega, y3', hV2⟩ ⟨rfl, rfl, rfl, rfl, rfl, rfl, trivial⟩
      have hkk : k = had'.length := by omega
      refine W_inv (fun m : Nat => [(15, .int .i64 ((m : Nat) : Int)), (0, av), (3, .ptr p 0), (4, hv'), (5, pv'), (6, .int .i64 ((i : Nat) : Int))]) (fun m W => m ≤ psl'.length ∧ ∃ y2, SI W p y2 st' hv' had' pv' psl' pset' (i + 1) (2000 + 400000 * i + 391000 + 2 * m)) (fun m => psl'.length - m) ?_ 0 ⟨Nat.zero_le _, y2, { hV with n := by omega }⟩ ⟨rfl, rfl, rfl, rfl, rfl, rfl, trivial⟩
      rintro m W ⟨hm, y5, hW⟩ back3
      have hWn := hW.n
      repeat' (
        first
          | refine W_seq ?_
          | refine WO_nil ?_
          | refine V_seq ?_
          | refine W_region ?_
          | refine W_skip ?_
          | refine W_block ?_
          | refine W_exit ?_
          | refine V_block ?_
          | refine V_block_x rfl ?_
          | refine V_seq_x ?_
          | refine V_loop_x ?_
          | refine WO_dst rfl rfl (by kernel_rfl) (by kernel_rfl) ?_
          | refine Ev_len rfl rfl rfl rfl rfl hW.pl.rd.len ?_
          | refine Ev_move rfl ?_
          | refine Ev_assign rfl ?_
          | refine Ev_lssN rfl rfl ?_
          | refine Ev_addN rfl rfl (by simp only [lim]; omega) ?_
          | (refine W_cond rfl (fun hc => ?_) (fun hc => ?_) <;> (try dsimp only at hc) <;> try (exfalso; first | omega | exact hc rfl)))
      · have hml : m < psl'.length := by assumption
        obtain ⟨r, hrk⟩ : ∃ r, psl'[m]? = some r := ⟨_, List.getElem?_eq_getElem hml⟩
        obtain ⟨r1, r2, r3⟩ := hW.pg r (List.mem_of_getElem? hrk)
        obtain ⟨bp, hvp, hbp⟩ := own_blk hW.pl (by omega)
        have pc : ∀ j v, (pacC r)[j]? = some v → (cellsP psl')[0 + m * 6 + j]? = some v := fun j v hj => by
          rw [Nat.zero_add]; exact flat_cell (f := pacC) (fun _ => rfl) hrk hj
        refine W_drawn (by kernel_rfl) ?_
        repeat (
          first
            | refine WO_dst rfl rfl (by kernel_rfl) (by kernel_rfl) ?_
            | refine Ev_move rfl ?_)
        refine Ev_indexAddr (i := m) (b := bp) (o := 0) (len := psl'.length) (cap := .op 6) rfl (congrArg some hvp) rfl rfl rfl hml ?_
        repeat (
          first
            | refine WO_dst rfl rfl (by kernel_rfl) (by kernel_rfl) ?_
            | refine Ev_fieldAddr rfl rfl rfl rfl rfl rfl ?_)
        refine Ev_load rfl rfl rfl hbp (pc 1 _ rfl) (veq_int _ _) ?_
        repeat (
          first
            | refine WO_dst rfl rfl (by kernel_rfl) (by kernel_rfl) ?_
            | refine Ev_move rfl ?_)
        refine Ev_indexAddr (i := m) (b := bp) (o := 0) (len := psl'.length) (cap := .op 6) rfl (congrArg some hvp) rfl rfl rfl hml ?_
        repeat (
          first
            | refine WO_dst rfl rfl (by kernel_rfl) (by kernel_rfl) ?_
            | refine Ev_fieldAddr rfl rfl rfl rfl rfl rfl ?_)
        refine Ev_load rfl rfl rfl hbp (pc 4 _ rfl) (veq_str _) ?_
        repeat (
          refine WO_dst rfl rfl (by kernel_rfl) (by kernel_rfl) ?_)
        refine Ev_call rfl rfl ((Loaded_runs (n := ((r.1 : Nat) : Int)) (nm := r.2.2) hW.L hW.small (by omega)).mono ?_)
        rintro _ W2 - ⟨rfl, y6, hL6, fo6⟩
        have g6 := fo6.n
        have hi1 : isL st' ((r.1 : Nat) : Int) := by unfold isL; omega
        have hi2 : isL st' ((r.2.1 : Nat) : Int) := by unfold isL; omega
        rw [if_pos hi1]
        have hW2 := hW.call (j := i + 1) (b' := 2000 + 400000 * i + 391000 + (2 * m + 1)) hL6 hW.A fo6 (fun _ _ _ h => h) (Nat.le_refl _) (fun _ h => h) (Nat.le_refl _) hW.off hW.prs (by omega)
        have hbp2 : W2.h.get bp = some (.cells 41 (cellsP psl') true) := by rw [fo6.fo bp (hW.L.ok _ _ hbp) (hW.tp bp (by rw [hvp]; rfl))]; exact hbp
        repeat (
          first
            | refine W_seq ?_
            | refine WO_nil ?_
            | refine V_seq ?_
            | refine WO_dst rfl rfl (by kernel_rfl) (by kernel_rfl) ?_
            | refine Ev_move rfl ?_
            | refine Ev_assign rfl ?_
            | refine Ev_extract rfl rfl ?_)
        refine W_drawn (by kernel_rfl) ?_
        repeat (
          first
            | refine WO_dst rfl rfl (by kernel_rfl) (by kernel_rfl) ?_
            | refine Ev_move rfl ?_)
        refine Ev_indexAddr (i := m) (b := bp) (o := 0) (len := psl'.length) (cap := .op 6) rfl (congrArg some hvp) rfl rfl rfl hml ?_
        repeat (
          first
            | refine WO_dst rfl rfl (by kernel_rfl) (by kernel_rfl) ?_
            | refine Ev_fieldAddr rfl rfl rfl rfl rfl rfl ?_)
        refine Ev_load rfl rfl rfl hbp2 (pc 2 _ rfl) (veq_int _ _) ?_
        repeat (
          first
            | refine WO_dst rfl rfl (by kernel_rfl) (by kernel_rfl) ?_
            | refine Ev_move rfl ?_)
        refine Ev_indexAddr (i := m) (b := bp) (o := 0) (len := psl'.length) (cap := .op 6) rfl (congrArg some hvp) rfl rfl rfl hml ?_
        repeat (
          first
            | refine WO_dst rfl rfl (by kernel_rfl) (by kernel_rfl) ?_
            | refine Ev_fieldAddr rfl rfl rfl rfl rfl rfl ?_)
        refine Ev_load rfl rfl rfl hbp2 (pc 4 _ rfl) (veq_str _) ?_
        repeat (
          refine WO_dst rfl rfl (by kernel_rfl) (by kernel_rfl) ?_)
        refine Ev_call rfl rfl ((Loaded_runs (n := ((r.2.1 : Nat) : Int)) (nm := r.2.2) hW2.L hW2.small (by omega)).mono ?_)
        rintro _ W3 - ⟨rfl, y7, hL7, fo7⟩
        have g7 := fo7.n
        rw [if_pos hi2]
        have hW3 := hW2.call (j := i + 1) (b' := 2000 + 400000 * i + 391000 + 2 * (m + 1)) hL7 hW2.A fo7 (fun _ _ _ h => h) (Nat.le_refl _) (fun _ h => h) (Nat.le_refl _) hW2.off hW2.prs (by omega)
        cases hx : hasS st' ((r.1 : Nat) : Int) r.2.2 with
        | none =>
          repeat (
            first
              | refine W_seq ?_
              | refine WO_nil ?_
              | refine V_seq ?_
              | refine W_region ?_
              | refine W_skip ?_
              | refine V_block ?_
              | refine W_cond_f rfl ?_
              | refine WO_dst rfl rfl (by kernel_rfl) (by kernel_rfl) ?_
              | refine WO_guard_f rfl rfl rfl rfl rfl rfl (by kernel_rfl) (by kernel_rfl) ?_
              | refine Ev_move rfl ?_
              | refine Ev_assign rfl ?_
              | refine Ev_extract rfl rfl ?_
              | refine Ev_pick_f rfl rfl rfl ?_
              | refine Ev_addN rfl rfl (by simp only [lim]; omega) ?_)
          exact back3 (m + 1) W3 _ (by omega) ⟨by omega, y7, hW3⟩ ⟨rfl, rfl, rfl, rfl, rfl, rfl, trivial⟩
        | some x1 =>
          cases hy : hasS st' ((r.2.1 : Nat) : Int) r.2.2 with
          | none =>
            repeat (
              first
                | refine W_seq ?_
                | refine WO_nil ?_
                | refine V_seq ?_
                | refine W_region ?_
                | refine W_skip ?_
                | refine V_block ?_
                | refine W_cond_f rfl ?_
                | refine WO_dst rfl rfl (by kernel_rfl) (by kernel_rfl) ?_
                | refine WO_guard_t rfl rfl rfl rfl rfl (by kernel_rfl) (by kernel_rfl) ?_
                | refine WO_guard_f rfl rfl rfl rfl rfl rfl (by kernel_rfl) (by kernel_rfl) ?_
                | refine Ev_move rfl ?_
                | refine Ev_assign rfl ?_
                | refine Ev_extract rfl rfl ?_
                | refine Ev_pick_t rfl rfl rfl ?_
                | refine Ev_pick_f rfl rfl rfl ?_
                | refine Ev_addN rfl rfl (by simp only [lim]; omega) ?_)
            exact back3 (m + 1) W3 _ (by omega) ⟨by omega, y7, hW3⟩ ⟨rfl, rfl, rfl, rfl, rfl, rfl, trivial⟩
          | some x2 =>
            have hxy := hW.A.inv.alike r1 hx hy
            dsimp only [Option.getD, Option.isSome]
            rw [hxy]
            repeat' (
              first
                | refine W_seq ?_
                | refine WO_nil ?_
                | refine V_seq ?_
                | refine W_region ?_
                | refine W_skip ?_
                | refine V_block ?_
                | refine WO_dst rfl rfl (by kernel_rfl) (by kernel_rfl) ?_
                | refine WO_guard_t rfl rfl rfl rfl rfl (by kernel_rfl) (by kernel_rfl) ?_
                | refine Ev_move rfl ?_
                | refine Ev_assign rfl ?_
                | refine Ev_extract rfl rfl ?_
                | refine Ev_pick_t rfl rfl rfl ?_
                | refine Ev_neq rfl rfl ?_
                | refine Ev_addN rfl rfl (by simp only [lim]; omega) ?_
                | (refine W_cond rfl (fun hc => ?_) (fun hc => ?_) <;> (try dsimp only at hc) <;> try (exfalso; first | omega | exact hc rfl)))
            exact back3 (m + 1) W3 _ (by omega) ⟨by omega, y7, hW3⟩ ⟨rfl, rfl, rfl, rfl, rfl, rfl, trivial⟩
      repeat (
        refine W_seq ?_)
      exact back (i + 1, hv', pv') W _ (by dsimp only; omega) ⟨by dsimp only; omega, y5, st', had', psl', pset', { hW with n := by have := hW.n; dsimp only; omega }⟩ ⟨rfl, rfl, rfl, rfl, rfl, trivial⟩
  · refine Ev_call rfl rfl (known_true ?_)
    repeat (
      first
        | refine WO_nil ?_
        | refine V_seq ?_
        | refine W_ret ?_
        | refine WO_dst rfl rfl (by kernel_rfl) (by kernel_rfl) ?_
        | refine Ev_assign rfl ?_)
    exact V_done rfl rfl rfl
  · refine Ev_call rfl rfl (known_true ?_)
    repeat (
      first
        | refine WO_nil ?_
        | refine V_seq ?_
        | refine W_ret ?_
        | refine WO_dst rfl rfl (by kernel_rfl) (by kernel_rfl) ?_
        | refine Ev_assign rfl ?_)
    exact V_done rfl rfl rfl
end Go.Proofs.Ytjbpegggfacojaa
