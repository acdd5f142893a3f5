/- What the row leans on, part 11: texts one behind the other. No condition. -/
import Derived.Test.YtjbpegggfacojaaMg10
import Derived.ChangeArms
import Derived.DataReads
import Derived.Deep.Slices
import Derived.KernelRfl
import Derived.Test.YtjbpegggfacojaaMg9
import Derived.Test.YtjbpegggfacojaaMg8
/- GX: arguments of any type that is made of numbers, strings, slices, structs and pointers: they are only read. -/




namespace GX
open Go Go.Deep
/-- a type whose values may come in -/
def okT (P : Program) : Nat → TypeId → Bool
  | 0, _ => false
  | g + 1, t => match P.underlying t with
    | some .bool => true
    | some (.int _) => true
    | some .string => true
    | some (.slice e) => decide (0 < P.cellsOf e) && okT P g e
    | some (.pointer e) => decide (0 < P.cellsOf e) && okT P g e
    | some (.struct fs) => tile fs.toList 0 (P.cellsOf t) && fs.toList.all fun f => okT P g f.type
    | _ => false
where
  /-- the fields lie one behind the other -/
  tile : List Field → Nat → Nat → Bool
  | [], o, n => decide (o = n)
  | f :: fs, o, n => decide (f.offset = o) && tile fs (o + P.cellsOf f.type) n
/-- cells of a type that came in, of at most so many parts and letters -/
def Rdt (P : Program) (N : Nat) : Nat → TypeId → List AV → Prop
  | 0, _, _ => False
  | g + 1, t, cs => match P.underlying t with
    | some .bool => ∃ b, cs = [.bool b]
    | some (.int k) => ∃ n, cs = [.int k n] ∧ (Lit.int k n).wf = true
    | some .string => ∃ s : List Nat, cs = [.str s] ∧ (∀ b ∈ s, b < 256) ∧ s.length ≤ N
    | some (.slice e) => ∃ v rows, cs = [v] ∧ (∀ S, Rd S v (P.cellsOf e) (List.flatten rows) rows.length) ∧ rows.length ≤ N ∧ ∀ r ∈ rows, r.length = P.cellsOf e ∧ Rdt P N g e r
    | some (.pointer e) => cs = [.nilp] ∨ ∃ cs', cs = [.rptr cs' 0] ∧ cs'.length = P.cellsOf e ∧ Rdt P N g e cs'
    | some (.struct fs) => cs.length = P.cellsOf t ∧ ∀ f ∈ fs.toList, Rdt P N g f.type ((cs.drop f.offset).take (P.cellsOf f.type))
    | _ => False
structure BulkOK {H : Type} (bulk : DataW H → Nat) : Prop where
  str : ∀ l, l.length ≤ bulk (.lit (.string l))
  ptr : ∀ d, bulk d ≤ bulk (.ptr d)
  len : ∀ l r, l.length ≤ bulk (.slice l r)
  sl : ∀ l r, ∀ d ∈ l, bulk d ≤ bulk (.slice l r)
  agg : ∀ l, ∀ d ∈ l, bulk d ≤ bulk (.agg l)
theorem veqs_append : ∀ {a b : List AV}, veqs a a = true → veqs b b = true → veqs (a ++ b) (a ++ b) = true
  | [], b, _, h => h
  | x :: a, b, h1, h2 => by
    simp only [veqs, Bool.and_eq_true, List.cons_append] at h1 ⊢
    exact ⟨h1.1, veqs_append h1.2 h2⟩
/-- cells that lie somewhere -/
theorem cells_in {w : World} {a : Addr} {vs : List Value} (h0 : vs ≠ []) (hcell : ∀ i v, vs[i]? = some v → w.cell? (a.add i) = some v) :
    a.spot = none ∧ ∃ c t fz, w.heap[a.block]? = some (.cells c t fz) ∧ a.off + vs.length ≤ c.size ∧ (c.toList.drop a.off).take vs.length = vs := by
  have hpos : 0 < vs.length := List.length_pos_iff.2 h0
  have hsp : a.spot = none ∧ ∃ c t fz, w.heap[a.block]? = some (.cells c t fz) := by
    have h := hcell 0 vs[0] (List.getElem?_eq_getElem hpos)
    unfold Addr.add World.cell? at h
    simp only [if_true] at h
    split at h
    · rename_i c t fz hh
      split at h
      · cases h
      · rename_i hs
        exact ⟨by simpa using hs, c, t, fz, hh⟩
    · cases h
  obtain ⟨hs, c, t, fz, hh⟩ := hsp
  have hget : ∀ i v, vs[i]? = some v → c[a.off + i]? = some v := by
    intro i v hi
    have h := hcell i v hi
    unfold World.cell? at h
    by_cases hi0 : i = 0
    · subst hi0
      simp only [Addr.add, if_true, hh, hs] at h
      simpa using h
    · simp only [Addr.add, if_neg hi0, hh] at h
      simpa using h
  have hfit : a.off + vs.length ≤ c.size := by
    have := (Array.getElem?_eq_some_iff.1 (hget (vs.length - 1) _ (List.getElem?_eq_getElem (by omega)))).1
    omega
  refine ⟨hs, c, t, fz, hh, hfit, ?_⟩
  apply List.ext_getElem?
  intro i
  rw [List.getElem?_take]
  split
  · rename_i hi
    rw [List.getElem?_eq_getElem hi, List.getElem?_drop]
    simpa using hget i _ (List.getElem?_eq_getElem hi)
  · rw [List.getElem?_eq_none (by omega)]
theorem arg_cellsN [Val] {φ : Phi} {w : World} (hro : ∀ g o, w.heap[g]? = some o → Val.ro g = some o) {a : Addr} {len cap sz : Nat} {cs : List AV} {vs : List Value} (hz : 0 < sz) (hl : len ≤ cap) (hv : vs.length = len * sz) (hcell : ∀ i v, vs[i]? = some v → w.cell? (a.add i) = some v) (hrel : vrels φ cs vs) (hself : veqs cs cs = true) :
    ∃ av, vrel φ av (.slice (some a) len cap) ∧ ∀ S, Rd S av sz cs len := by
  have hcl : cs.length = len * sz := by rw [vrels_length hrel, hv]
  by_cases h0 : vs = []
  · subst h0
    have hl0 : len = 0 := by
      rcases Nat.eq_zero_or_pos len with h | h
      · exact h
      · have := Nat.mul_pos h hz
        simp at hv; omega
    subst hl0
    cases List.eq_nil_of_length_eq_zero (by rw [hcl, Nat.zero_mul] : cs.length = 0)
    exact ⟨.emp, ⟨a, cap, rfl⟩, fun S => ⟨rfl, rfl, rfl, rfl, rfl, by simp⟩⟩
  · obtain ⟨hs, c, t, fz, hh, hfit, hlist⟩ := cells_in h0 hcell
    refine ⟨.rsl cs len sz, ?_, fun S => ⟨by simp [capW, hcl], by simp [veq, hself], rfl, rfl, ?_, hcl⟩⟩
    · simp only [vrel]
      refine ⟨a.block, a.off, cap, c, t, fz, ?_, hl, hcl, hro _ _ hh, by omega, by rw [hcl, ← hv, hlist]; exact hrel⟩
      rw [← hs]
    · unfold srcCells; dsimp only
      rw [nble, decide_eq_true (by omega)]
      simp only [nbeq, decide_true, Bool.true_and, cond_true]
      rw [List.take_of_length_le (by omega)]
theorem bytes_lt' (s : ByteArray) : ∀ b ∈ bytes s, b < 256 := by
  intro b hb
  unfold bytes at hb
  obtain ⟨c, _, rfl⟩ := List.mem_map.1 hb
  exact c.toNat_lt
section
variable {H : Type} {enc : TypeId × Value → H} {P : Program} {w : World} {base : Nat} {sp : Nat → Bool} {held : Bool} {bulk : DataW H → Nat} {N : Nat}
/-- the fields of a struct, one behind the other -/
theorem fields_rel [Val] {φ : Phi} {cs : List Value} {R : Field → List AV → Prop} : ∀ (fs : List Field) (o n : Nat), okT.tile P fs o n = true → o ≤ n → n ≤ cs.length →
    (∀ f ∈ fs, ∃ avs, vrels φ avs ((cs.drop f.offset).take (P.cellsOf f.type)) ∧ veqs avs avs = true ∧ R f avs) →
    ∃ avs, vrels φ avs ((cs.drop o).take (n - o)) ∧ veqs avs avs = true ∧ ∀ f ∈ fs, o ≤ f.offset ∧ R f ((avs.drop (f.offset - o)).take (P.cellsOf f.type))
  | [], o, n, ht, _, _, _ => by
    have : o = n := of_decide_eq_true ht
    subst this
    exact ⟨[], by rw [Nat.sub_self, List.take_zero]; exact vrels_nil, rfl, by simp⟩
  | f :: fs, o, n, ht, ho, hn, h => by
    unfold okT.tile at ht
    simp only [Bool.and_eq_true, decide_eq_true_eq] at ht
    obtain ⟨hfo, ht⟩ := ht
    have hle : o + P.cellsOf f.type ≤ n := by
      have key : ∀ (l : List Field) (a : Nat), okT.tile P l a n = true → a ≤ n := by
        intro l
        induction l with
        | nil => intro a h; exact Nat.le_of_eq (of_decide_eq_true h)
        | cons x l ih =>
          intro a h
          unfold okT.tile at h
          simp only [Bool.and_eq_true, decide_eq_true_eq] at h
          have := ih _ h.2; omega
      exact key _ _ ht
    obtain ⟨a1, r1, v1, p1⟩ := h f (List.mem_cons_self ..)
    obtain ⟨a2, r2, v2, p2⟩ := fields_rel fs (o + P.cellsOf f.type) n ht hle hn (fun g hg => h g (List.mem_cons_of_mem _ hg))
    have hl1 : a1.length = P.cellsOf f.type := by rw [vrels_length r1, List.length_take, List.length_drop]; omega
    refine ⟨a1 ++ a2, ?_, veqs_append v1 v2, fun g hg => ?_⟩
    · have e : (cs.drop o).take (n - o) = (cs.drop f.offset).take (P.cellsOf f.type) ++ (cs.drop (o + P.cellsOf f.type)).take (n - (o + P.cellsOf f.type)) := by
        rw [hfo, show n - o = P.cellsOf f.type + (n - (o + P.cellsOf f.type)) by omega, List.take_add, List.drop_drop]
      rw [e]; exact vrels_append r1 r2
    · rcases List.mem_cons.1 hg with rfl | hg
      · rw [hfo, Nat.sub_self, List.drop_zero, List.take_append_of_le_length (by omega), List.take_of_length_le (by omega)]
        exact ⟨Nat.le_refl _, p1⟩
      · obtain ⟨q1, q2⟩ := p2 g hg
        refine ⟨by omega, ?_⟩
        rw [show g.offset - o = a1.length + (g.offset - (o + P.cellsOf f.type)) by omega, ← List.drop_drop, List.drop_append_of_le_length (Nat.le_refl _), List.drop_length, List.nil_append]
        exact q2
/-- what came in, as cells that are only read -/
theorem trod_rel [Val] {φ : Phi} (hro : ∀ g o, w.heap[g]? = some o → Val.ro g = some o) (hB : BulkOK bulk) : ∀ (g : Nat) (t : TypeId) (f : Nat) (cs : List Value) (x : DataW H × List MemPlace), okT P g t = true → DataW.trod enc P w base sp held f t cs = some x → bulk x.1 ≤ N →
    ∃ avs, vrels φ avs cs ∧ veqs avs avs = true ∧ Rdt P N g t avs
  | 0, _, _, _, _, hk, _, _ => by cases hk
  | g + 1, t, f, cs, x, hk, h, hb => by
    unfold okT at hk
    unfold Rdt
    split at hk
    · rename_i hu
      obtain ⟨b, rfl, rfl⟩ := DataW.trod_bool hu h
      exact ⟨[.bool b], vrels_cons rfl vrels_nil, by cases b <;> rfl, b, rfl⟩
    · rename_i k hu
      obtain ⟨n, rfl, rfl, hw⟩ := DataW.trod_int hu h
      exact ⟨[.int k n], vrels_cons rfl vrels_nil, by simp [veqs, veq_int], n, rfl, hw⟩
    · rename_i hu
      obtain ⟨s, rfl, rfl, hs⟩ := DataW.trod_string hu h
      refine ⟨[.str (bytes s)], vrels_cons ⟨s, rfl, rfl⟩ vrels_nil, by simp [veqs, veq_str], bytes s, rfl, bytes_lt' s, ?_⟩
      have h1 := hB.str s.data.toList
      have h2 : (bytes s).length = s.data.toList.length := by unfold bytes; simp
      dsimp only at hb
      omega
    · rename_i e hu
      simp only [Bool.and_eq_true, decide_eq_true_eq] at hk
      obtain ⟨hz, hk⟩ := hk
      rcases DataW.trod_slice hu h with ⟨rfl, rfl⟩ | ⟨a, len, cap, elems, rest, n, _, rfl, rfl, hbs, hl, hm, hlen, hel, hsp, hns⟩
      · exact ⟨[.nils], vrels_cons rfl vrels_nil, rfl, .nils, [], rfl, fun S => ⟨rfl, rfl, rfl, rfl, rfl, by simp⟩, Nat.zero_le _, by simp⟩
      · dsimp only at hb
        have hlN : len ≤ N := by
          have := hB.len (elems.map (·.1)) (rest.map (·.1))
          rw [List.length_map, hlen] at this
          omega
        have each : ∀ i, i < len → ∃ q : List Value × List AV, w.cells? base (a.add (i * P.cellsOf e)) (P.cellsOf e) = some q.1 ∧ vrels φ q.2 q.1 ∧ veqs q.2 q.2 = true ∧ Rdt P N g e q.2 := by
          intro i hi
          have h1 := hel i hi
          rw [List.getElem?_eq_getElem (by omega)] at h1
          obtain ⟨cs', h2, h3⟩ := Option.bind_eq_some_iff.1 h1
          obtain ⟨avs, h4, h5, h6⟩ := trod_rel hro hB g e n cs' _ hk h3 (Nat.le_trans (hB.sl _ _ _ (List.mem_map_of_mem (List.getElem_mem _))) hb)
          exact ⟨(cs', avs), h2, h4, h5, h6⟩
        obtain ⟨q, hq⟩ := choose_lt each
        have hql : ∀ i, i < len → (q i).1.length = P.cellsOf e := fun i hi => (World.cells?_some (hq i hi).1).2.1
        -- all cells, one behind the other
        have all : ∀ m, m ≤ len → ∃ vs : List Value, vs.length = m * P.cellsOf e ∧ (∀ i v, vs[i]? = some v → w.cell? (a.add i) = some v) ∧ vrels φ (List.flatten ((List.range m).map fun i => (q i).2)) vs ∧ veqs (List.flatten ((List.range m).map fun i => (q i).2)) (List.flatten ((List.range m).map fun i => (q i).2)) = true := by
          intro m
          induction m with
          | zero => intro _; exact ⟨[], by simp, by simp, vrels_nil, rfl⟩
          | succ m ih =>
            intro hm2
            obtain ⟨vs, g1, g2, g3, g4⟩ := ih (by omega)
            obtain ⟨c1, c2, c3, c4⟩ := hq m (by omega)
            obtain ⟨d1, d2, d3⟩ := World.cells?_some c1
            refine ⟨vs ++ (q m).1, by rw [List.length_append, g1, d2, Nat.add_mul, Nat.one_mul], fun i v hv => ?_, ?_, ?_⟩
            · by_cases hi : i < vs.length
              · rw [List.getElem?_append_left hi] at hv; exact g2 i v hv
              · rw [List.getElem?_append_right (by omega)] at hv
                have hi2 : i - vs.length < P.cellsOf e := by
                  have := (List.getElem?_eq_some_iff.1 hv).1; omega
                have h7 := d3 _ hi2
                rw [add_add, ← g1, hv, show vs.length + (i - vs.length) = i by omega] at h7
                exact h7
            · rw [List.range_succ, List.map_append, List.flatten_append]
              exact vrels_append g3 (by simpa using c2)
            · rw [List.range_succ, List.map_append, List.flatten_append]
              exact veqs_append g4 (by simpa using c3)
        obtain ⟨vs, g1, g2, g3, g4⟩ := all len (Nat.le_refl _)
        obtain ⟨av, k1, k2⟩ := arg_cellsN (φ := φ) hro hz hl g1 g2 g3 g4
        refine ⟨[av], vrels_cons k1 vrels_nil, ?_, av, (List.range len).map fun i => (q i).2, rfl, fun S => by simpa using k2 S, by simpa using hlN, ?_⟩
        · have := (k2 { h := .leaf, n := 0 }).self
          simp [veqs, this]
        · intro r hr
          obtain ⟨i, hi, rfl⟩ := List.mem_map.1 hr
          have hi := List.mem_range.1 hi
          exact ⟨by rw [vrels_length (hq i hi).2.1]; exact hql i hi, (hq i hi).2.2.2⟩
    · rename_i e hu
      simp only [Bool.and_eq_true, decide_eq_true_eq] at hk
      obtain ⟨hz, hk⟩ := hk
      rcases DataW.trod_pointer hu h with ⟨rfl, rfl⟩ | ⟨a, cs', y, n, _, rfl, rfl, hc, hy⟩
      · exact ⟨[.nilp], vrels_cons rfl vrels_nil, rfl, .inl rfl⟩
      · dsimp only at hb
        obtain ⟨avs, h4, h5, h6⟩ := trod_rel hro hB g e n cs' _ hk hy (Nat.le_trans (hB.ptr _) hb)
        obtain ⟨_, d2, d3⟩ := World.cells?_some hc
        have hne : cs' ≠ [] := by intro h; rw [h] at d2; simp at d2; omega
        obtain ⟨hs, c, tt, fz, hh, hfit, hlist⟩ := cells_in (a := a) hne (fun i v hv => by
          have := (List.getElem?_eq_some_iff.1 hv).1
          rw [d3 i (by omega), hv])
        have hl := vrels_length h4
        refine ⟨[.rptr avs 0], vrels_cons ?_ vrels_nil, by simp [veqs, veq, h5], .inr ⟨avs, rfl, by omega, h6⟩⟩
        simp only [vrel]
        refine ⟨a.block, a.off, c, tt, fz, ?_, hro _ _ hh, by omega, by rw [hl, hlist]; exact h4⟩
        rw [Nat.add_zero, ← hs]
    · rename_i fs hu
      simp only [Bool.and_eq_true, List.all_eq_true] at hk
      obtain ⟨ht, hk⟩ := hk
      obtain ⟨xs, n, _, rfl, hlen, hxs, hf⟩ := DataW.trod_struct hu h
      dsimp only at hb
      obtain ⟨avs, h4, h5, h6⟩ := fields_rel (φ := φ) (cs := cs) (R := fun f avs => Rdt P N g f.type avs) fs.toList 0 (P.cellsOf t) ht (Nat.zero_le _) (by omega) (by
        intro fd hfd
        obtain ⟨i, hi, rfl⟩ := List.getElem_of_mem hfd
        have hi' : i < fs.size := by simpa using hi
        have h1 := hf i fs[i] (by simp [hi'])
        rw [List.getElem?_eq_getElem (by omega)] at h1
        simp only [Array.getElem_toList]
        exact trod_rel hro hB g _ n _ _ (hk _ (by simp)) h1 (Nat.le_trans (hB.agg _ _ (List.mem_map_of_mem (List.getElem_mem _))) hb))
      rw [List.drop_zero, Nat.sub_zero, List.take_of_length_le (by omega)] at h4
      exact ⟨avs, h4, h5, by rw [vrels_length h4]; exact hlen, fun f hf => (h6 f hf).2⟩
    · cases hk
end
end GX
/- GX: arguments of any type made of numbers, strings, slices, structs, pointers, whatever their size. -/

namespace GX
open Go Go.Deep
section
variable {H : Type} {enc : TypeId × Value → H} {P : Program} {w : World} {base : Nat} {sp : Nat → Bool} {held : Bool}
/-- what came in, as cells that are only read -/
theorem trodF_rel [Val] {φ : Phi} (hro : ∀ g o, w.heap[g]? = some o → Val.ro g = some o) : ∀ (g : Nat) (t : TypeId) (f : Nat) (cs : List Value) (x : DataW H × List MemPlace), okT P g t = true → DataW.trod enc P w base sp held f t cs = some x →
    ∃ avs, vrels φ avs cs ∧ veqs avs avs = true ∧ Rdt P maxLen g t avs
  | 0, _, _, _, _, hk, _ => by cases hk
  | g + 1, t, f, cs, x, hk, h => by
    unfold okT at hk
    unfold Rdt
    split at hk
    · rename_i hu
      obtain ⟨b, rfl, rfl⟩ := DataW.trod_bool hu h
      exact ⟨[.bool b], vrels_cons rfl vrels_nil, by cases b <;> rfl, b, rfl⟩
    · rename_i k hu
      obtain ⟨n, rfl, rfl, hw⟩ := DataW.trod_int hu h
      exact ⟨[.int k n], vrels_cons rfl vrels_nil, by simp [veqs, veq_int], n, rfl, hw⟩
    · rename_i hu
      obtain ⟨s, rfl, rfl, hs⟩ := DataW.trod_string hu h
      refine ⟨[.str (bytes s)], vrels_cons ⟨s, rfl, rfl⟩ vrels_nil, by simp [veqs, veq_str], bytes s, rfl, bytes_lt' s, ?_⟩
      have h2 : (bytes s).length = s.size := by unfold bytes; simp
      omega
    · rename_i e hu
      simp only [Bool.and_eq_true, decide_eq_true_eq] at hk
      obtain ⟨hz, hk⟩ := hk
      rcases DataW.trod_slice hu h with ⟨rfl, rfl⟩ | ⟨a, len, cap, elems, rest, n, _, rfl, rfl, hbs, hl, hm, hlen, hel, hsp, hns⟩
      · exact ⟨[.nils], vrels_cons rfl vrels_nil, rfl, .nils, [], rfl, fun S => ⟨rfl, rfl, rfl, rfl, rfl, by simp⟩, Nat.zero_le _, by simp⟩
      · have hlN : len ≤ maxLen := Nat.le_trans hl hm
        have each : ∀ i, i < len → ∃ q : List Value × List AV, w.cells? base (a.add (i * P.cellsOf e)) (P.cellsOf e) = some q.1 ∧ vrels φ q.2 q.1 ∧ veqs q.2 q.2 = true ∧ Rdt P maxLen g e q.2 := by
          intro i hi
          have h1 := hel i hi
          rw [List.getElem?_eq_getElem (by omega)] at h1
          obtain ⟨cs', h2, h3⟩ := Option.bind_eq_some_iff.1 h1
          obtain ⟨avs, h4, h5, h6⟩ := trodF_rel hro g e n cs' _ hk h3
          exact ⟨(cs', avs), h2, h4, h5, h6⟩
        obtain ⟨q, hq⟩ := choose_lt each
        have hql : ∀ i, i < len → (q i).1.length = P.cellsOf e := fun i hi => (World.cells?_some (hq i hi).1).2.1
        -- all cells, one behind the other
        have all : ∀ m, m ≤ len → ∃ vs : List Value, vs.length = m * P.cellsOf e ∧ (∀ i v, vs[i]? = some v → w.cell? (a.add i) = some v) ∧ vrels φ (List.flatten ((List.range m).map fun i => (q i).2)) vs ∧ veqs (List.flatten ((List.range m).map fun i => (q i).2)) (List.flatten ((List.range m).map fun i => (q i).2)) = true := by
          intro m
          induction m with
          | zero => intro _; exact ⟨[], by simp, by simp, vrels_nil, rfl⟩
          | succ m ih =>
            intro hm2
            obtain ⟨vs, g1, g2, g3, g4⟩ := ih (by omega)
            obtain ⟨c1, c2, c3, c4⟩ := hq m (by omega)
            obtain ⟨d1, d2, d3⟩ := World.cells?_some c1
            refine ⟨vs ++ (q m).1, by rw [List.length_append, g1, d2, Nat.add_mul, Nat.one_mul], fun i v hv => ?_, ?_, ?_⟩
            · by_cases hi : i < vs.length
              · rw [List.getElem?_append_left hi] at hv; exact g2 i v hv
              · rw [List.getElem?_append_right (by omega)] at hv
                have hi2 : i - vs.length < P.cellsOf e := by
                  have := (List.getElem?_eq_some_iff.1 hv).1; omega
                have h7 := d3 _ hi2
                rw [add_add, ← g1, hv, show vs.length + (i - vs.length) = i by omega] at h7
                exact h7
            · rw [List.range_succ, List.map_append, List.flatten_append]
              exact vrels_append g3 (by simpa using c2)
            · rw [List.range_succ, List.map_append, List.flatten_append]
              exact veqs_append g4 (by simpa using c3)
        obtain ⟨vs, g1, g2, g3, g4⟩ := all len (Nat.le_refl _)
        obtain ⟨av, k1, k2⟩ := arg_cellsN (φ := φ) hro hz hl g1 g2 g3 g4
        refine ⟨[av], vrels_cons k1 vrels_nil, ?_, av, (List.range len).map fun i => (q i).2, rfl, fun S => by simpa using k2 S, by simpa using hlN, ?_⟩
        · have := (k2 { h := .leaf, n := 0 }).self
          simp [veqs, this]
        · intro r hr
          obtain ⟨i, hi, rfl⟩ := List.mem_map.1 hr
          have hi := List.mem_range.1 hi
          exact ⟨by rw [vrels_length (hq i hi).2.1]; exact hql i hi, (hq i hi).2.2.2⟩
    · rename_i e hu
      simp only [Bool.and_eq_true, decide_eq_true_eq] at hk
      obtain ⟨hz, hk⟩ := hk
      rcases DataW.trod_pointer hu h with ⟨rfl, rfl⟩ | ⟨a, cs', y, n, _, rfl, rfl, hc, hy⟩
      · exact ⟨[.nilp], vrels_cons rfl vrels_nil, rfl, .inl rfl⟩
      · obtain ⟨avs, h4, h5, h6⟩ := trodF_rel hro g e n cs' _ hk hy
        obtain ⟨_, d2, d3⟩ := World.cells?_some hc
        have hne : cs' ≠ [] := by intro h; rw [h] at d2; simp at d2; omega
        obtain ⟨hs, c, tt, fz, hh, hfit, hlist⟩ := cells_in (a := a) hne (fun i v hv => by
          have := (List.getElem?_eq_some_iff.1 hv).1
          rw [d3 i (by omega), hv])
        have hl := vrels_length h4
        refine ⟨[.rptr avs 0], vrels_cons ?_ vrels_nil, by simp [veqs, veq, h5], .inr ⟨avs, rfl, by omega, h6⟩⟩
        simp only [vrel]
        refine ⟨a.block, a.off, c, tt, fz, ?_, hro _ _ hh, by omega, by rw [hl, hlist]; exact h4⟩
        rw [Nat.add_zero, ← hs]
    · rename_i fs hu
      simp only [Bool.and_eq_true, List.all_eq_true] at hk
      obtain ⟨ht, hk⟩ := hk
      obtain ⟨xs, n, _, rfl, hlen, hxs, hf⟩ := DataW.trod_struct hu h
      obtain ⟨avs, h4, h5, h6⟩ := fields_rel (φ := φ) (cs := cs) (R := fun f avs => Rdt P maxLen g f.type avs) fs.toList 0 (P.cellsOf t) ht (Nat.zero_le _) (by omega) (by
        intro fd hfd
        obtain ⟨i, hi, rfl⟩ := List.getElem_of_mem hfd
        have hi' : i < fs.size := by simpa using hi
        have h1 := hf i fs[i] (by simp [hi'])
        rw [List.getElem?_eq_getElem (by omega)] at h1
        simp only [Array.getElem_toList]
        exact trodF_rel hro g _ n _ _ (hk _ (by simp)) h1)
      rw [List.drop_zero, Nat.sub_zero, List.take_of_length_le (by omega)] at h4
      exact ⟨avs, h4, h5, by rw [vrels_length h4]; exact hlen, fun f hf => (h6 f hf).2⟩
    · cases hk
end
end GX
/- Chapter 15: calls that come in. -/



namespace Go.Proofs.Ytjbpegggfacojaa
open GX Go
set_option maxRecDepth 100000
theorem u3 : Try.prog.underlying 3 = some (.int .i64) := by kernel_rfl
theorem u9 : Try.prog.underlying 9 = some .string := by kernel_rfl
theorem u37 : Try.prog.underlying 37 = some (.slice 41) := by kernel_rfl
theorem u41 : Try.prog.underlying 41 = some (.struct #[⟨"Kind", 3, 0, false, "", "", 0⟩, ⟨"N", 3, 1, false, "", "", 8⟩, ⟨"M", 3, 2, false, "", "", 16⟩, ⟨"Id", 3, 3, false, "", "", 24⟩, ⟨"Name", 9, 4, false, "", "", 32⟩, ⟨"Super", 9, 5, false, "", "", 48⟩]) := by kernel_rfl
theorem c3 : Try.prog.cellsOf 3 = 1 := by kernel_rfl
theorem c9 : Try.prog.cellsOf 9 = 1 := by kernel_rfl
theorem c41 : Try.prog.cellsOf 41 = 6 := by kernel_rfl
theorem rdt_int {N g t : Nat} {k : IntKind} {a : AV} (hu : Try.prog.underlying t = some (.int k)) (h : Rdt Try.prog N (g + 1) t [a]) : ∃ n, a = .int k n ∧ (Lit.int k n).wf = true := by
  unfold Rdt at h; rw [hu] at h
  obtain ⟨n, h1, h2⟩ := h
  exact ⟨n, List.head_eq_of_cons_eq h1, h2⟩
theorem rdt_str {N g : Nat} {a : AV} (h : Rdt Try.prog N (g + 1) 9 [a]) : ∃ s, a = .str s ∧ (∀ b ∈ s, b < 256) ∧ s.length ≤ N := by
  unfold Rdt at h; rw [u9] at h
  obtain ⟨n, h1, h2⟩ := h
  exact ⟨n, List.head_eq_of_cons_eq h1, h2⟩
theorem wf_i64 {n : Int} (h : (Lit.int .i64 n).wf = true) : -9223372036854775808 ≤ n ∧ n < 9223372036854775808 := by
  simp [Lit.wf, IntKind.min, IntKind.max, IntKind.signed, IntKind.bits] at h
  omega
theorem ask_of {N g : Nat} {r : List AV} (h : Rdt Try.prog N (g + 2) 41 r) : ∃ c : AskA, c.cells = r ∧ c.Good := by
  unfold Rdt at h; rw [u41] at h
  obtain ⟨hl, hf⟩ := h
  rw [c41] at hl
  match r, hl with
  | [a0, a1, a2, a3, a4, a5], _ =>
    simp only [List.mem_cons, forall_eq_or_imp, c3, c9, List.drop_zero, List.drop_succ_cons, List.take_succ_cons, List.take_zero] at hf
    obtain ⟨h0, h1, h2, h3, h4, h5, _⟩ := hf
    obtain ⟨n0, rfl, _⟩ := rdt_int u3 h0
    obtain ⟨n1, rfl, _⟩ := rdt_int u3 h1
    obtain ⟨n2, rfl, _⟩ := rdt_int u3 h2
    obtain ⟨n3, rfl, w3⟩ := rdt_int u3 h3
    obtain ⟨s4, rfl, _⟩ := rdt_str h4
    obtain ⟨s5, rfl, _⟩ := rdt_str h5
    exact ⟨⟨n0, n1, n2, n3, s4, s5⟩, rfl, ⟨wf_i64 w3⟩⟩
theorem asks_of {N g : Nat} : ∀ (rows : List (List AV)), (∀ r ∈ rows, r.length = Try.prog.cellsOf 41 ∧ Rdt Try.prog N (g + 2) 41 r) → ∃ cs : List AskA, List.flatten rows = cellsK cs ∧ cs.length = rows.length ∧ ∀ c ∈ cs, c.Good
  | [], _ => ⟨[], rfl, rfl, by simp⟩
  | r :: rows, h => by
    obtain ⟨cs, h1, h2, h3⟩ := asks_of rows (fun r hr => h r (List.mem_cons_of_mem _ hr))
    obtain ⟨c, h4, h5⟩ := ask_of (h r (List.mem_cons_self ..)).2
    refine ⟨c :: cs, by rw [List.flatten_cons, h1, ← h4]; rfl, by simp [h2], fun q hq => ?_⟩
    rcases List.mem_cons.1 hq with rfl | hq
    · exact h5
    · exact h3 q hq
theorem asks_arg {N g : Nat} {a : AV} (h : Rdt Try.prog N (g + 3) 37 [a]) : ∃ cs : List AskA, (∀ S, Rd S a 6 (cellsK cs) cs.length) ∧ ∀ c ∈ cs, c.Good := by
  unfold Rdt at h; rw [u37] at h
  obtain ⟨v, rows, h1, h2, h3, h4⟩ := h
  obtain ⟨cs, g1, g2, g3⟩ := asks_of rows h4
  cases List.head_eq_of_cons_eq h1
  exact ⟨cs, fun S => (by rw [c41] at h2; exact (h2 S).eq g1 g2.symm), g3⟩
end Go.Proofs.Ytjbpegggfacojaa
/- caraferef15: what the document's loaders hold in memory; is, find, has, Loaded. (NODRAWN) -/



namespace Go.Proofs.Ytjbpegggfacojaa
open GX
set_option maxHeartbeats 16000000
set_option maxRecDepth 100000
/-- a slice of its own, or a literal that is full -/
def Lt (S : St) (v : AV) (el sz : Nat) (cs : List AV) (m : Nat) : Prop :=
  Own S v el sz cs m ∨ ∃ b, v = .slice b 0 m (.ex m) ∧ S.h.get b = some (.cells el cs false) ∧ cs.length = m * sz
theorem Lt.rd {S : St} {v : AV} {el sz m : Nat} {cs : List AV} (h : Lt S v el sz cs m) : Rd S v sz cs m := by
  rcases h with h | ⟨b, rfl, h2, h3⟩
  · exact h.rd
  · exact Rd_lit h2 h3 (by show Nat.ble m m = true; rw [nble]; simp)
theorem Lt.keep {S S' : St} {v : AV} {el sz m : Nat} {cs : List AV} (h : Lt S v el sz cs m) (hk : ∀ b, blkOf v = some b → S'.h.get b = S.h.get b) : Lt S' v el sz cs m := by
  rcases h with h | ⟨b, rfl, h2, h3⟩
  · exact .inl (h.keep hk)
  · exact .inr ⟨b, rfl, by rw [hk b rfl]; exact h2, h3⟩
theorem Lt.lt {S : St} {v : AV} {el sz m : Nat} {cs : List AV} (h : Lt S v el sz cs m) (hok : Sok S) {b : Nat} (hb : blkOf v = some b) : b < S.n := h.rd.lt hok hb
/-- its block; and with other cells -/
theorem Lt.cell {S : St} {v : AV} {el sz m : Nat} {cs : List AV} (h : Lt S v el sz cs m) (hm : 0 < m) : ∃ b k sp, v = .slice b 0 m k ∧ S.h.get b = some (.cells el cs sp) ∧ cs.length = m * sz ∧ ∀ (U : St) cs', U.h.get b = some (.cells el cs' sp) → cs'.length = cs.length → Lt U v el sz cs' m := by
  rcases h with h | ⟨b, rfl, h2, h3⟩
  · rcases h with ⟨_, _, h3⟩ | ⟨b, rfl, h2, h3⟩
    · omega
    · exact ⟨b, _, _, rfl, h2, h3, fun U cs' hu hl => .inl (.inr ⟨b, rfl, hu, by omega⟩)⟩
  · exact ⟨b, _, _, rfl, h2, h3, fun U cs' hu hl => .inr ⟨b, rfl, hu, by omega⟩⟩
section
variable {X : X} {l : L} {S : St} {R : AV → St → Prop} {x y : Go.Operand} {t t' : Nat}
theorem Ev_append_lt {xs : Array Go.Operand} {ts : Array Go.TypeId} {tr : List Go.TypeId} {i i' ei : TI} {el m k : Nat} {vs vx : AV} {cs new : List AV} (hxs : xs.toList = [x, y]) (hts : ts.toList = t :: t' :: tr) (hi' : X.ti t' = some i') (hni : (match i'.desc with | .int _ => false | _ => true) = true)
    (hx : od l x = some vs) (hy : od l y = some vx) (hi : X.ti t = some i) (hd : i.desc = .slice el) (he' : X.ti el = some ei) (hz : (Nat.beq ei.size 0 || !(Nat.beq ei.zero.length ei.size)) = false)
    (hown : Lt S vs el ei.size cs m) (hnew : Rd S vx ei.size new k) (hk0 : 0 < k) (hone : new.all AV.one = true) (hok : Sok S) (hn : S.n < 1000000000) (hlim : (2 * (m + k) + 1000) * ei.bytes ≤ 140737488355328) (hlim2 : m + k ≤ 140737488355328)
    (hR : ∀ v' S', S.n ≤ S'.n → S'.n ≤ S.n + 1 → Sok S' → Own S' v' el ei.size (cs ++ new) (m + k) → (∀ c, blkOf vs ≠ some c → c < S.n → S'.h.get c = S.h.get c) → (∀ c, blkOf v' = some c → blkOf vs = some c ∨ S.n ≤ c) → R v' S') :
    Ev X l S (.call { callee := .builtin .append, args := xs, argTypes := ts }) R := by
  rcases hown with h | ⟨b, rfl, h2, h3⟩
  · exact Ev_append hxs hts hi' hni hx hy hi hd he' hz h hnew hone hok hn hlim hlim2 hR
  · refine Ev_append_ex hxs hts hi' hni hx hy hi hd he' hz (Lt.rd (.inr ⟨b, rfl, h2, h3⟩)) hnew hok hn hlim hlim2 ?_
    intro v' S' h4 h5 h6 _ h8 h9 h10
    exact hR v' S' h4 h5 h6 (h8.resolve_left (by omega)) (fun c _ hc => h9 c hc) (fun c hc => (h10 c hc).imp (fun e => by rw [e]; rfl) id)
end
abbrev offC (o : Nm × (Nm × Int)) : List AV := [.str o.1, .str o.2.1, .int .i64 o.2.2]
abbrev dnC (o : Nm × (Int × Int)) : List AV := [.str o.1, .int .i64 o.2.1, .int .i64 o.2.2]
abbrev pcC (q : Nat × Nat × Nm) : List AV := [.int .i64 ((q.1 : Nat) : Int), .int .i64 ((q.2.1 : Nat) : Int), .str q.2.2]
/-- where it lies; what each block is for -/
structure RLay where
  va : AV
  vo : AV
  vd : AV
  vp : AV
  os : List AV
  ds : List AV
  tg : Nat → Nat
structure Rs (S : St) (p : Nat) (y : RLay) (ones : List One) (ps : Ps) : Prop where
  ok : Sok S
  at_ : S.h.get p = some (.cells 81 [y.va, y.vo, y.vd, y.vp] false)
  a : Lt S y.va 3 1 (ones.map fun o => intV o.par) ones.length
  o : Lt S y.vo 87 1 y.os ones.length
  d : Lt S y.vd 101 1 y.ds ones.length
  pc : Own S y.vp 93 3 (ps.flatMap pcC) ps.length
  lo : y.os.length = ones.length
  ld : y.ds.length = ones.length
  off : ∀ (j : Nat) v o, y.os[j]? = some v → ones[j]? = some o → Own S v 84 3 (o.off.flatMap offC) o.off.length
  dn : ∀ (j : Nat) v o, y.ds[j]? = some v → ones[j]? = some o → Own S v 95 3 (o.ldd.flatMap dnC) o.ldd.length
  t0 : y.tg p = 0
  ta : ∀ c, blkOf y.va = some c → y.tg c = 1
  to : ∀ c, blkOf y.vo = some c → y.tg c = 2
  td : ∀ c, blkOf y.vd = some c → y.tg c = 3
  tp : ∀ c, blkOf y.vp = some c → y.tg c = 4
  tof : ∀ (j : Nat) v, y.os[j]? = some v → ∀ c, blkOf v = some c → y.tg c = 6 + 2 * j
  tdn : ∀ (j : Nat) v, y.ds[j]? = some v → ∀ c, blkOf v = some c → y.tg c = 7 + 2 * j
section
variable {S U : St} {p : Nat} {y : RLay} {ones : List One} {ps : Ps}
theorem Rs.lto (h : Rs S p y ones ps) {j : Nat} {v : AV} (hv : y.os[j]? = some v) {c : Nat} (hc : blkOf v = some c) : c < S.n := by
  have hj : j < ones.length := by rw [← h.lo]; exact (List.getElem?_eq_some_iff.1 hv).1
  exact (h.off j v _ hv (List.getElem?_eq_getElem hj)).lt h.ok hc
theorem Rs.ltd (h : Rs S p y ones ps) {j : Nat} {v : AV} (hv : y.ds[j]? = some v) {c : Nat} (hc : blkOf v = some c) : c < S.n := by
  have hj : j < ones.length := by rw [← h.ld]; exact (List.getElem?_eq_some_iff.1 hv).1
  exact (h.dn j v _ hv (List.getElem?_eq_getElem hj)).lt h.ok hc
theorem Rs.getO (h : Rs S p y ones ps) {j : Nat} (hj : j < ones.length) : ∃ v, y.os[j]? = some v ∧ Own S v 84 3 (ones[j].off.flatMap offC) ones[j].off.length := by
  have hj2 : j < y.os.length := by rw [h.lo]; exact hj
  exact ⟨y.os[j], List.getElem?_eq_getElem hj2, h.off j _ _ (List.getElem?_eq_getElem hj2) (List.getElem?_eq_getElem hj)⟩
theorem Rs.getD (h : Rs S p y ones ps) {j : Nat} (hj : j < ones.length) : ∃ v, y.ds[j]? = some v ∧ Own S v 95 3 (ones[j].ldd.flatMap dnC) ones[j].ldd.length := by
  have hj2 : j < y.ds.length := by rw [h.ld]; exact hj
  exact ⟨y.ds[j], List.getElem?_eq_getElem hj2, h.dn j _ _ (List.getElem?_eq_getElem hj2) (List.getElem?_eq_getElem hj)⟩
/-- what is known when the blocks of some kinds have turned -/
theorem Rs.others (h : Rs S p y ones ps) (D : Nat → Prop) (hf : ∀ c, c < S.n → ¬ D (y.tg c) → U.h.get c = S.h.get c) :
    (¬ D 0 → U.h.get p = some (.cells 81 [y.va, y.vo, y.vd, y.vp] false)) ∧ (¬ D 1 → Lt U y.va 3 1 (ones.map fun o => intV o.par) ones.length) ∧ (¬ D 2 → Lt U y.vo 87 1 y.os ones.length) ∧ (¬ D 3 → Lt U y.vd 101 1 y.ds ones.length) ∧ (¬ D 4 → Own U y.vp 93 3 (ps.flatMap pcC) ps.length) ∧
    (∀ (j : Nat) v o, y.os[j]? = some v → ones[j]? = some o → ¬ D (6 + 2 * j) → Own U v 84 3 (o.off.flatMap offC) o.off.length) ∧ (∀ (j : Nat) v o, y.ds[j]? = some v → ones[j]? = some o → ¬ D (7 + 2 * j) → Own U v 95 3 (o.ldd.flatMap dnC) o.ldd.length) := by
  refine ⟨fun hd => ?_, fun hd => ?_, fun hd => ?_, fun hd => ?_, fun hd => ?_, fun j v o hv ho hd => ?_, fun j v o hv ho hd => ?_⟩
  · rw [hf p (h.ok _ _ h.at_) (by rw [h.t0]; exact hd)]; exact h.at_
  · exact h.a.keep (fun c hc => hf c (h.a.lt h.ok hc) (by rw [h.ta c hc]; exact hd))
  · exact h.o.keep (fun c hc => hf c (h.o.lt h.ok hc) (by rw [h.to c hc]; exact hd))
  · exact h.d.keep (fun c hc => hf c (h.d.lt h.ok hc) (by rw [h.td c hc]; exact hd))
  · exact h.pc.keep (fun c hc => hf c (h.pc.lt h.ok hc) (by rw [h.tp c hc]; exact hd))
  · exact (h.off j v o hv ho).keep (fun c hc => hf c (h.lto hv hc) (by rw [h.tof j v hv c hc]; exact hd))
  · exact (h.dn j v o hv ho).keep (fun c hc => hf c (h.ltd hv hc) (by rw [h.tdn j v hv c hc]; exact hd))
/-- new blocks change nothing -/
theorem Rs.far (h : Rs S p y ones ps) (hok : Sok U) (hf : ∀ c, c < S.n → U.h.get c = S.h.get c) (tg' : Nat → Nat) (ht : ∀ c, c < S.n → tg' c = y.tg c) : Rs U p { y with tg := tg' } ones ps := by
  obtain ⟨a0, a1, a2, a3, a4, a5, a6⟩ := h.others (U := U) (fun _ => False) (fun c hc _ => hf c hc)
  exact ⟨hok, a0 id, a1 id, a2 id, a3 id, a4 id, h.lo, h.ld, fun j v o hv ho => a5 j v o hv ho id, fun j v o hv ho => a6 j v o hv ho id, (ht _ (h.ok _ _ h.at_)).trans h.t0, fun c hc => (ht c (h.a.lt h.ok hc)).trans (h.ta c hc), fun c hc => (ht c (h.o.lt h.ok hc)).trans (h.to c hc), fun c hc => (ht c (h.d.lt h.ok hc)).trans (h.td c hc), fun c hc => (ht c (h.pc.lt h.ok hc)).trans (h.tp c hc), fun j v hv c hc => (ht c (h.lto hv hc)).trans (h.tof j v hv c hc), fun j v hv c hc => (ht c (h.ltd hv hc)).trans (h.tdn j v hv c hc)⟩
/-- a block that is not the loaders' turns -/
theorem Rs.other (h : Rs S p y ones ps) (hok : Sok U) (hf : ∀ c, c < S.n → y.tg c ≠ 5 → U.h.get c = S.h.get c) : Rs U p y ones ps := by
  obtain ⟨a0, a1, a2, a3, a4, a5, a6⟩ := h.others (U := U) (fun t => t = 5) (fun c hc hd => hf c hc hd)
  exact ⟨hok, a0 (by decide), a1 (by decide), a2 (by decide), a3 (by decide), a4 (by decide), h.lo, h.ld, fun j v o hv ho => a5 j v o hv ho (by omega), fun j v o hv ho => a6 j v o hv ho (by omega), h.t0, h.ta, h.to, h.td, h.tp, h.tof, h.tdn⟩
/-- one offers one class more -/
theorem Rs.put_off (h : Rs S p y ones ps) (hok : Sok U) {j : Nat} {o : One} (ho : ones[j]? = some o) {v' : AV} {off' : List (Nm × (Nm × Int))} (tg' : Nat → Nat) (ht : ∀ c, c < S.n → tg' c = y.tg c) (hvo : Lt U y.vo 87 1 (y.os.set j v') ones.length) (hin : Own U v' 84 3 (off'.flatMap offC) off'.length) (hv : ∀ c, blkOf v' = some c → tg' c = 6 + 2 * j)
    (hf : ∀ c, c < S.n → y.tg c ≠ 2 → y.tg c ≠ 6 + 2 * j → U.h.get c = S.h.get c) : Rs U p { y with os := y.os.set j v', tg := tg' } (ones.set j { o with off := off' }) ps := by
  have hj := (List.getElem?_eq_some_iff.1 ho).1
  obtain ⟨a0, a1, a2, a3, a4, a5, a6⟩ := h.others (U := U) (fun t => t = 2 ∨ t = 6 + 2 * j) (fun c hc hd => hf c hc (fun e => hd (.inl e)) (fun e => hd (.inr e)))
  have hpar : (ones.set j { o with off := off' }).map (fun o => intV o.par) = ones.map fun o => intV o.par := by
    apply List.ext_getElem?
    intro i
    rw [List.getElem?_map, List.getElem?_map]
    by_cases e : j = i
    · subst e; rw [List.getElem?_set_self hj, ho]; rfl
    · rw [List.getElem?_set_ne e]
  refine ⟨hok, a0 (by omega), ?_, ?_, ?_, a4 (by omega), ?_, ?_, fun i v o' hv' ho' => ?_, fun i v o' hv' ho' => ?_, (ht _ (h.ok _ _ h.at_)).trans h.t0, fun c hc => (ht c (h.a.lt h.ok hc)).trans (h.ta c hc), fun c hc => (ht c (h.o.lt h.ok hc)).trans (h.to c hc), fun c hc => (ht c (h.d.lt h.ok hc)).trans (h.td c hc), fun c hc => (ht c (h.pc.lt h.ok hc)).trans (h.tp c hc), fun i v hv' c hc => ?_, fun i v hv c hc => (ht c (h.ltd hv hc)).trans (h.tdn i v hv c hc)⟩
  · rw [hpar, List.length_set]; exact a1 (by omega)
  · rw [List.length_set]; exact hvo
  · rw [List.length_set]; exact a3 (by omega)
  · dsimp only; rw [List.length_set, List.length_set]; exact h.lo
  · rw [List.length_set]; exact h.ld
  · have hv' : (y.os.set j v')[i]? = some v := hv'
    by_cases e : j = i
    · subst e
      rw [List.getElem?_set_self hj] at ho'; cases ho'
      rw [List.getElem?_set_self (by rw [h.lo]; exact hj)] at hv'; cases hv'
      exact hin
    · rw [List.getElem?_set_ne e] at ho' hv'
      exact a5 i v o' hv' ho' (by omega)
  · by_cases e : j = i
    · subst e
      rw [List.getElem?_set_self hj] at ho'; cases ho'
      exact a6 j v o hv' ho (by omega)
    · rw [List.getElem?_set_ne e] at ho'
      exact a6 i v o' hv' ho' (by omega)
  · have hv' : (y.os.set j v')[i]? = some v := hv'
    by_cases e : j = i
    · subst e
      rw [List.getElem?_set_self (by rw [h.lo]; exact hj)] at hv'; cases hv'
      exact hv c hc
    · rw [List.getElem?_set_ne e] at hv'
      exact (ht c (h.lto hv' hc)).trans (h.tof i v hv' c hc)
/-- one has loaded one class more -/
theorem Rs.put_dn (h : Rs S p y ones ps) (hok : Sok U) {j : Nat} {o : One} (ho : ones[j]? = some o) {v' : AV} {ldd' : List (Nm × (Int × Int))} (tg' : Nat → Nat) (ht : ∀ c, c < S.n → tg' c = y.tg c) (hvo : Lt U y.vd 101 1 (y.ds.set j v') ones.length) (hin : Own U v' 95 3 (ldd'.flatMap dnC) ldd'.length) (hv : ∀ c, blkOf v' = some c → tg' c = 7 + 2 * j)
    (hf : ∀ c, c < S.n → y.tg c ≠ 3 → y.tg c ≠ 7 + 2 * j → U.h.get c = S.h.get c) : Rs U p { y with ds := y.ds.set j v', tg := tg' } (ones.set j { o with ldd := ldd' }) ps := by
  have hj := (List.getElem?_eq_some_iff.1 ho).1
  obtain ⟨a0, a1, a2, a3, a4, a5, a6⟩ := h.others (U := U) (fun t => t = 3 ∨ t = 7 + 2 * j) (fun c hc hd => hf c hc (fun e => hd (.inl e)) (fun e => hd (.inr e)))
  have hpar : (ones.set j { o with ldd := ldd' }).map (fun o => intV o.par) = ones.map fun o => intV o.par := by
    apply List.ext_getElem?
    intro i
    rw [List.getElem?_map, List.getElem?_map]
    by_cases e : j = i
    · subst e; rw [List.getElem?_set_self hj, ho]; rfl
    · rw [List.getElem?_set_ne e]
  refine ⟨hok, a0 (by omega), ?_, ?_, ?_, a4 (by omega), ?_, ?_, fun i v o' hv' ho' => ?_, fun i v o' hv' ho' => ?_, (ht _ (h.ok _ _ h.at_)).trans h.t0, fun c hc => (ht c (h.a.lt h.ok hc)).trans (h.ta c hc), fun c hc => (ht c (h.o.lt h.ok hc)).trans (h.to c hc), fun c hc => (ht c (h.d.lt h.ok hc)).trans (h.td c hc), fun c hc => (ht c (h.pc.lt h.ok hc)).trans (h.tp c hc), fun i v hv c hc => (ht c (h.lto hv hc)).trans (h.tof i v hv c hc), fun i v hv' c hc => ?_⟩
  · rw [hpar, List.length_set]; exact a1 (by omega)
  · rw [List.length_set]; exact a2 (by omega)
  · rw [List.length_set]; exact hvo
  · rw [List.length_set]; exact h.lo
  · dsimp only; rw [List.length_set, List.length_set]; exact h.ld
  · by_cases e : j = i
    · subst e
      rw [List.getElem?_set_self hj] at ho'; cases ho'
      exact a5 j v o hv' ho (by omega)
    · rw [List.getElem?_set_ne e] at ho'
      exact a5 i v o' hv' ho' (by omega)
  · have hv' : (y.ds.set j v')[i]? = some v := hv'
    by_cases e : j = i
    · subst e
      rw [List.getElem?_set_self hj] at ho'; cases ho'
      rw [List.getElem?_set_self (by rw [h.ld]; exact hj)] at hv'; cases hv'
      exact hin
    · rw [List.getElem?_set_ne e] at ho' hv'
      exact a6 i v o' hv' ho' (by omega)
  · have hv' : (y.ds.set j v')[i]? = some v := hv'
    by_cases e : j = i
    · subst e
      rw [List.getElem?_set_self (by rw [h.ld]; exact hj)] at hv'; cases hv'
      exact hv c hc
    · rw [List.getElem?_set_ne e] at hv'
      exact (ht c (h.ltd hv' hc)).trans (h.tdn i v hv' c hc)
end
/-- what a call of the document's loaders leaves as it was -/
structure Ft (S U : St) (t t' : Nat → Nat) (k : Nat) : Prop where
  le : S.n ≤ U.n
  n : U.n ≤ S.n + k
  tg : ∀ c, c < S.n → t' c = t c
  fo : ∀ c, c < S.n → t c = 5 → U.h.get c = S.h.get c
def isN (ones : List One) (n : Int) : Prop := 0 ≤ n ∧ n < (ones.length : Int)
instance (ones : List One) (n : Int) : Decidable (isN ones n) := by unfold isN; infer_instance
theorem ris_runs {S : St} {p : Nat} {y : RLay} {ones : List One} {ps : Ps} {n : Int} (h : Rs S p y ones ps) : Runs X1 28 [.ptr p 0, .int .i64 n] S fun r U => r = .bool (decide (isN ones n)) ∧ U = S := by
  have hl := h.a.rd.len
  refine Runs_fn (m := 16) (by kernel_rfl) Try.func28 rfl (by kernel_rfl) (by kernel_rfl) ?_
  repeat' (
    first
      | refine W_seq ?_
      | refine WO_nil ?_
      | refine V_seq ?_
      | refine W_region ?_
      | refine W_ret ?_
      | refine WO_dst rfl rfl (by kernel_rfl) (by kernel_rfl) ?_
      | refine WO_guard_t rfl rfl rfl rfl rfl (by kernel_rfl) (by kernel_rfl) ?_
      | refine WO_guard_f rfl rfl rfl rfl rfl rfl (by kernel_rfl) (by kernel_rfl) ?_
      | refine Ev_load rfl rfl rfl h.at_ rfl h.a.rd.self ?_
      | refine Ev_len rfl rfl rfl rfl rfl hl ?_
      | refine Ev_move rfl ?_
      | refine Ev_assign rfl ?_
      | refine Ev_pick_t rfl rfl rfl ?_
      | refine Ev_pick_f rfl rfl rfl ?_
      | refine Ev_lss rfl rfl ?_
      | refine Ev_geq rfl rfl ?_
      | refine Ev_nilCheck rfl ?_
      | refine Ev_fieldAddr rfl rfl rfl rfl rfl rfl ?_
      | (refine WO_guard_dt rfl rfl rfl rfl rfl (by kernel_rfl) (by kernel_rfl) (fun hg => ?_) (fun hg => ?_) <;> (try dsimp only at hg) <;> try (exfalso; first | omega | exact hg rfl)))
  · refine V_done rfl rfl ⟨congrArg AV.bool (decide_eq_decide.2 ?_), rfl⟩
    unfold isN
    omega
  · refine V_done rfl rfl ⟨congrArg AV.bool (?_ : false = decide (isN ones n)), rfl⟩
    rw [decide_eq_false]
    unfold isN
    omega
/-- what find answers -/
def fofV (nm : Nm) (o : Option (Nm × Int)) : AV := match o with | some x => .agg (offC (nm, x)) | none => .agg [.str [], .str [], .int .i64 0]
def fdnV (nm : Nm) (o : Option (Int × Int)) : AV := match o with | some x => .agg (dnC (nm, x)) | none => .agg [.str [], .int .i64 0, .int .i64 0]
theorem loadAt_84 {H : Tr AB} {b : Nat} {a c : Nm} {i : Int} {sp : Bool} (h : H.get b = some (.cells 84 [.str a, .str c, .int .i64 i] sp)) : loadAt X1 H 84 b 0 = some (.agg [.str a, .str c, .int .i64 i]) := by
  have e : row H b 0 3 = some [.str a, .str c, .int .i64 i] := by unfold row; rw [h]; rfl
  show (match row H b 0 3 with | some cs => some (AV.agg cs) | none => none) = _
  rw [e]
theorem loadAt_95 {H : Tr AB} {b : Nat} {a : Nm} {c i : Int} {sp : Bool} (h : H.get b = some (.cells 95 [.str a, .int .i64 c, .int .i64 i] sp)) : loadAt X1 H 95 b 0 = some (.agg [.str a, .int .i64 c, .int .i64 i]) := by
  have e : row H b 0 3 = some [.str a, .int .i64 c, .int .i64 i] := by unfold row; rw [h]; rfl
  show (match row H b 0 3 with | some cs => some (AV.agg cs) | none => none) = _
  rw [e]
theorem alook_drop {α : Type} {nm : Nm} {l : List (Nm × α)} {i : Nat} {q : Nm × α} (hq : l[i]? = some q) : alook nm (l.drop i) = if nm = q.1 then some q.2 else alook nm (l.drop (i + 1)) := by
  obtain ⟨hi, e⟩ := List.getElem?_eq_some_iff.1 hq
  rw [List.drop_eq_getElem_cons hi, e]
  rfl
theorem find_runs {S : St} {p : Nat} {y : RLay} {ones : List One} {ps : Ps} {j : Nat} {nm : Nm} (h : Rs S p y ones ps) (hj : j < ones.length) (hl : ones[j].off.length ≤ 1000000) (hn : S.n + 2 ≤ 1000000000) :
    Runs X1 30 [.ptr p 0, .int .i64 ((j : Nat) : Int), .str nm] S fun r U => r = .tup [fofV nm (alook nm ones[j].off), .bool (alook nm ones[j].off).isSome] ∧ Sok U ∧ S.n ≤ U.n ∧ U.n ≤ S.n + 1 ∧ ∀ c, c < S.n → U.h.get c = S.h.get c := by
  refine Runs_fn (m := 45) (by kernel_rfl) Try.func30 rfl (by kernel_rfl) (by kernel_rfl) ?_
  repeat (
    first
      | refine W_seq ?_
      | refine W_region ?_
      | refine WO_dst rfl rfl (by kernel_rfl) (by kernel_rfl) ?_)
  refine Ev_alloc_ rfl h.ok (by omega) ?_
  intro S1 n1 ok1 q1 f1
  have h1 : Rs S1 p y ones ps := h.far ok1 f1 y.tg (fun _ _ => rfl)
  obtain ⟨v, hv, hin⟩ := h1.getO hj
  repeat (
    first
      | refine W_seq ?_
      | refine WO_nil ?_
      | refine V_seq ?_
      | refine W_region ?_
      | refine W_block ?_
      | refine WO_dst rfl rfl (by kernel_rfl) (by kernel_rfl) ?_
      | refine Ev_assign rfl ?_)
  refine W_inv (fun i : Nat => [(8, .int .i64 ((i : Nat) : Int)), (6, .ptr S.n 0), (2, .str nm), (1, .int .i64 ((j : Nat) : Int)), (0, .ptr p 0)]) (fun i T => T = S1 ∧ i ≤ ones[j].off.length ∧ alook nm (ones[j].off.drop i) = alook nm ones[j].off) (fun i => ones[j].off.length - i) ?_ 0 ⟨rfl, Nat.zero_le _, rfl⟩ ⟨rfl, rfl, rfl, rfl, rfl, trivial⟩
  rintro i T ⟨rfl, hi, hlk⟩ back
  repeat (
    first
      | refine W_seq ?_
      | refine W_region ?_
      | refine WO_dst rfl rfl (by kernel_rfl) (by kernel_rfl) ?_
      | refine Ev_load rfl rfl rfl h1.at_ rfl h1.o.rd.self ?_
      | refine Ev_move rfl ?_
      | refine Ev_nilCheck rfl ?_
      | refine Ev_fieldAddr rfl rfl rfl rfl rfl rfl ?_)
  refine Ev_indexAddr_rd (i := j) rfl rfl rfl rfl rfl h1.o.rd hj ?_
  intro q hq
  have hvj : y.os[j * 1]? = some v := by rw [Nat.mul_one]; exact hv
  repeat (
    refine WO_dst rfl rfl (by kernel_rfl) (by kernel_rfl) ?_)
  refine Ev_load_pt rfl rfl rfl hq hvj hin.rd.self ?_
  repeat' (
    first
      | refine W_seq ?_
      | refine WO_nil ?_
      | refine V_seq ?_
      | refine W_region ?_
      | refine W_skip ?_
      | refine W_block ?_
      | refine W_exit ?_
      | refine V_block_x rfl ?_
      | refine V_seq_x ?_
      | refine V_loop_x ?_
      | refine WO_dst rfl rfl (by kernel_rfl) (by kernel_rfl) ?_
      | refine Ev_len rfl rfl rfl rfl rfl hin.rd.len ?_
      | refine Ev_move rfl ?_
      | refine Ev_lssN rfl rfl ?_
      | refine Ev_nilCheck rfl ?_
      | refine Ev_fieldAddr rfl rfl rfl rfl rfl rfl ?_
      | (refine W_cond rfl (fun hc => ?_) (fun hc => ?_) <;> (try dsimp only at hc) <;> try (exfalso; first | omega | exact hc rfl)))
  · have hlt : i < ones[j].off.length := by assumption
    obtain ⟨o, ho⟩ : ∃ o, ones[j].off[i]? = some o := ⟨_, List.getElem?_eq_getElem hlt⟩
    have hdr := alook_drop (nm := nm) ho
    obtain ⟨fa1, fa2⟩ := flat_at (f := offC) (sz := 3) (fun _ => rfl) _ i o ho
    repeat (
      first
        | refine WO_dst rfl rfl (by kernel_rfl) (by kernel_rfl) ?_
        | refine Ev_load rfl rfl rfl h1.at_ rfl h1.o.rd.self ?_
        | refine Ev_move rfl ?_)
    refine Ev_indexAddr_rd (i := j) rfl rfl rfl rfl rfl h1.o.rd hj ?_
    intro q2 hq2
    repeat (
      refine WO_dst rfl rfl (by kernel_rfl) (by kernel_rfl) ?_)
    refine Ev_load_pt rfl rfl rfl hq2 hvj hin.rd.self ?_
    repeat (
      first
        | refine WO_dst rfl rfl (by kernel_rfl) (by kernel_rfl) ?_
        | refine Ev_move rfl ?_)
    refine Ev_indexAddr_rd (i := i) rfl rfl rfl rfl rfl hin.rd hlt ?_
    intro q3 hq3
    repeat (
      refine WO_dst rfl rfl (by kernel_rfl) (by kernel_rfl) ?_)
    refine Ev_fieldAddr_pt rfl rfl rfl rfl rfl rfl hq3 ?_
    intro q4 hq4
    repeat (
      refine WO_dst rfl rfl (by kernel_rfl) (by kernel_rfl) ?_)
    refine Ev_load_pt (v := .str o.1) rfl rfl rfl hq4 (flat_cell (f := offC) (sz := 3) (j := 0) (fun _ => rfl) ho rfl) (veq_str _) ?_
    repeat' (
      first
        | refine W_seq ?_
        | refine WO_nil ?_
        | refine V_seq ?_
        | refine W_region ?_
        | refine W_skip ?_
        | refine V_block ?_
        | refine WO_dst rfl rfl (by kernel_rfl) (by kernel_rfl) ?_
        | refine Ev_load rfl rfl rfl h1.at_ rfl h1.o.rd.self ?_
        | refine Ev_move rfl ?_
        | refine Ev_assign rfl ?_
        | refine Ev_seql rfl rfl ?_
        | refine Ev_nilCheck rfl ?_
        | refine Ev_fieldAddr rfl rfl rfl rfl rfl rfl ?_
        | refine Ev_addN rfl rfl (by simp only [lim]; omega) ?_
        | (refine W_cond rfl (fun hc => ?_) (fun hc => ?_) <;> (try dsimp only at hc) <;> try (exfalso; first | omega | exact hc rfl)))
    · have he : o.1 = nm := by assumption
      refine Ev_indexAddr_rd (i := j) rfl rfl rfl rfl rfl h1.o.rd hj ?_
      intro q5 hq5
      repeat (
        refine WO_dst rfl rfl (by kernel_rfl) (by kernel_rfl) ?_)
      refine Ev_load_pt rfl rfl rfl hq5 hvj hin.rd.self ?_
      repeat (
        first
          | refine WO_dst rfl rfl (by kernel_rfl) (by kernel_rfl) ?_
          | refine Ev_move rfl ?_)
      refine Ev_indexAddr_rd (i := i) rfl rfl rfl rfl rfl hin.rd hlt ?_
      intro q6 hq6
      repeat (
        refine WO_dst rfl rfl (by kernel_rfl) (by kernel_rfl) ?_)
      refine Ev_load_pt_agg (ds := offC o) rfl rfl rfl hq6 fa2 fa1 (by simp [veqs, veq_int, veq_str]) ?_
      repeat (
        refine WO_no rfl rfl ?_)
      refine Ev_store rfl rfl rfl rfl rfl q1 (by show 0 + 3 ≤ 3; decide) (by omega) ?_
      intro S2 n2 q2' f2
      have ok2 : Sok S2 := sok_upd ok1 (by omega) n2 q2' f2
      repeat (
        first
          | refine WO_nil ?_
          | refine V_seq ?_
          | refine W_ret ?_
          | refine V_ret ?_
          | refine WO_dst rfl rfl (by kernel_rfl) (by kernel_rfl) ?_
          | refine Ev_assign rfl ?_)
      refine V_done_ct rfl rfl (loadAt_84 (a := o.1) (c := o.2.1) (i := o.2.2) q2') rfl ?_
      rw [← hlk, hdr, if_pos he.symm, he]
      exact ⟨rfl, ok2, by omega, by omega, fun c hc => by rw [f2 c (by omega), f1 c hc]⟩
    · have hne : o.1 ≠ nm := by assumption
      refine back (i + 1) T _ (by omega) ⟨rfl, hlt, ?_⟩ ⟨rfl, rfl, rfl, rfl, rfl, trivial⟩
      rw [← hlk, hdr, if_neg (fun e => hne e.symm)]
  · have hlt : ¬ i < ones[j].off.length := by omega
    have hno : alook nm ones[j].off = none := by rw [← hlk, List.drop_eq_nil_of_le (by omega)]; rfl
    refine Ev_build (v := .agg [.str [], .str [], .int .i64 0]) rfl rfl ?_
    repeat (
      refine WO_no rfl rfl ?_)
    refine Ev_store rfl rfl rfl rfl rfl q1 (by show 0 + 3 ≤ 3; decide) (by omega) ?_
    intro S2 n2 q2' f2
    have ok2 : Sok S2 := sok_upd ok1 (by omega) n2 q2' f2
    repeat (
      first
        | refine WO_nil ?_
        | refine V_seq ?_
        | refine W_ret ?_
        | refine WO_dst rfl rfl (by kernel_rfl) (by kernel_rfl) ?_
        | refine Ev_assign rfl ?_)
    refine V_done_ct rfl rfl (loadAt_84 (a := []) (c := []) (i := 0) q2') rfl ?_
    rw [hno]
    exact ⟨rfl, ok2, by omega, by omega, fun c hc => by rw [f2 c (by omega), f1 c hc]⟩
/-- what one has loaded -/
def hasN (ones : List One) (n : Int) (nm : Nm) : Option (Int × Int) := if isN ones n then (match ones[n.toNat]? with | some o => alook nm o.ldd | none => none) else none
theorem has_runs {S : St} {p : Nat} {y : RLay} {ones : List One} {ps : Ps} {n : Int} {nm : Nm} (h : Rs S p y ones ps) (hl : ∀ o ∈ ones, o.ldd.length ≤ 1000000) (hn : S.n + 2 ≤ 1000000000) :
    Runs X1 34 [.ptr p 0, .int .i64 n, .str nm] S fun r U => r = .tup [fdnV nm (hasN ones n nm), .bool (hasN ones n nm).isSome] ∧ Sok U ∧ S.n ≤ U.n ∧ U.n ≤ S.n + 1 ∧ ∀ c, c < S.n → U.h.get c = S.h.get c := by
  refine Runs_fn (m := 50) (by kernel_rfl) Try.func34 rfl (by kernel_rfl) (by kernel_rfl) ?_
  repeat (
    first
      | refine W_seq ?_
      | refine W_region ?_
      | refine WO_dst rfl rfl (by kernel_rfl) (by kernel_rfl) ?_)
  refine Ev_alloc_ rfl h.ok (by omega) ?_
  intro S1 n1 ok1 q1 f1
  have h1 : Rs S1 p y ones ps := h.far ok1 f1 y.tg (fun _ _ => rfl)
  repeat (
    first
      | refine W_seq ?_
      | refine WO_nil ?_
      | refine V_seq ?_
      | refine W_region ?_
      | refine WO_dst rfl rfl (by kernel_rfl) (by kernel_rfl) ?_
      | refine Ev_move rfl ?_
      | refine Ev_assign rfl ?_)
  refine Ev_call rfl rfl ((ris_runs (n := n) h1).mono ?_)
  rintro _ U0 - ⟨rfl, hU⟩
  rw [hU]
  by_cases hi : isN ones n
  rotate_left
  · rw [decide_eq_false hi]
    have hno : hasN ones n nm = none := by unfold hasN; rw [if_neg hi]
    repeat (
      first
        | refine W_seq ?_
        | refine WO_nil ?_
        | refine V_seq ?_
        | refine W_region ?_
        | refine W_cond_t rfl ?_
        | refine WO_dst rfl rfl (by kernel_rfl) (by kernel_rfl) ?_
        | refine Ev_notb rfl ?_)
    refine Ev_build (v := .agg [.str [], .int .i64 0, .int .i64 0]) rfl rfl ?_
    repeat (
      refine WO_no rfl rfl ?_)
    refine Ev_store rfl rfl rfl rfl rfl q1 (by show 0 + 3 ≤ 3; decide) (by omega) ?_
    intro S2 n2 q2' f2
    have ok2 : Sok S2 := sok_upd ok1 (by omega) n2 q2' f2
    repeat (
      first
        | refine WO_nil ?_
        | refine V_seq ?_
        | refine W_ret ?_
        | refine V_ret ?_
        | refine WO_dst rfl rfl (by kernel_rfl) (by kernel_rfl) ?_
        | refine Ev_assign rfl ?_)
    refine V_done_ct rfl rfl (loadAt_95 (a := []) (c := 0) (i := 0) q2') rfl ?_
    rw [hno]
    exact ⟨rfl, ok2, by omega, by omega, fun c hc => by rw [f2 c (by omega), f1 c hc]⟩
  rw [decide_eq_true hi]
  obtain ⟨j, rfl⟩ : ∃ j : Nat, n = (j : Int) := ⟨n.toNat, by unfold isN at hi; omega⟩
  have hj : j < ones.length := by unfold isN at hi; omega
  have hh : hasN ones ((j : Nat) : Int) nm = alook nm ones[j].ldd := by unfold hasN; rw [if_pos hi, Int.toNat_natCast, List.getElem?_eq_getElem hj]
  rw [hh]
  have hll := hl _ (List.getElem_mem hj)
  obtain ⟨v, hv, hin⟩ := h1.getD hj
  repeat (
    first
      | refine W_seq ?_
      | refine WO_nil ?_
      | refine V_seq ?_
      | refine W_region ?_
      | refine W_skip ?_
      | refine W_block ?_
      | refine W_cond_f rfl ?_
      | refine WO_dst rfl rfl (by kernel_rfl) (by kernel_rfl) ?_
      | refine Ev_assign rfl ?_
      | refine Ev_notb rfl ?_)
  refine W_inv (fun i : Nat => [(8, .int .i64 ((i : Nat) : Int)), (6, .ptr S.n 0), (2, .str nm), (1, .int .i64 ((j : Nat) : Int)), (0, .ptr p 0)]) (fun i T => T = S1 ∧ i ≤ ones[j].ldd.length ∧ alook nm (ones[j].ldd.drop i) = alook nm ones[j].ldd) (fun i => ones[j].ldd.length - i) ?_ 0 ⟨rfl, Nat.zero_le _, rfl⟩ ⟨rfl, rfl, rfl, rfl, rfl, trivial⟩
  rintro i T ⟨rfl, hi, hlk⟩ back
  repeat (
    first
      | refine W_seq ?_
      | refine W_region ?_
      | refine WO_dst rfl rfl (by kernel_rfl) (by kernel_rfl) ?_
      | refine Ev_load rfl rfl rfl h1.at_ rfl h1.d.rd.self ?_
      | refine Ev_move rfl ?_
      | refine Ev_nilCheck rfl ?_
      | refine Ev_fieldAddr rfl rfl rfl rfl rfl rfl ?_)
  refine Ev_indexAddr_rd (i := j) rfl rfl rfl rfl rfl h1.d.rd hj ?_
  intro q hq
  have hvj : y.ds[j * 1]? = some v := by rw [Nat.mul_one]; exact hv
  repeat (
    refine WO_dst rfl rfl (by kernel_rfl) (by kernel_rfl) ?_)
  refine Ev_load_pt rfl rfl rfl hq hvj hin.rd.self ?_
  repeat' (
    first
      | refine W_seq ?_
      | refine WO_nil ?_
      | refine V_seq ?_
      | refine W_region ?_
      | refine W_skip ?_
      | refine W_block ?_
      | refine W_exit ?_
      | refine V_block_x rfl ?_
      | refine V_seq_x ?_
      | refine V_loop_x ?_
      | refine WO_dst rfl rfl (by kernel_rfl) (by kernel_rfl) ?_
      | refine Ev_len rfl rfl rfl rfl rfl hin.rd.len ?_
      | refine Ev_move rfl ?_
      | refine Ev_lssN rfl rfl ?_
      | refine Ev_nilCheck rfl ?_
      | refine Ev_fieldAddr rfl rfl rfl rfl rfl rfl ?_
      | (refine W_cond rfl (fun hc => ?_) (fun hc => ?_) <;> (try dsimp only at hc) <;> try (exfalso; first | omega | exact hc rfl)))
  · have hlt : i < ones[j].ldd.length := by assumption
    obtain ⟨o, ho⟩ : ∃ o, ones[j].ldd[i]? = some o := ⟨_, List.getElem?_eq_getElem hlt⟩
    have hdr := alook_drop (nm := nm) ho
    obtain ⟨fa1, fa2⟩ := flat_at (f := dnC) (sz := 3) (fun _ => rfl) _ i o ho
    repeat (
      first
        | refine WO_dst rfl rfl (by kernel_rfl) (by kernel_rfl) ?_
        | refine Ev_load rfl rfl rfl h1.at_ rfl h1.d.rd.self ?_
        | refine Ev_move rfl ?_)
    refine Ev_indexAddr_rd (i := j) rfl rfl rfl rfl rfl h1.d.rd hj ?_
    intro q2 hq2
    repeat (
      refine WO_dst rfl rfl (by kernel_rfl) (by kernel_rfl) ?_)
    refine Ev_load_pt rfl rfl rfl hq2 hvj hin.rd.self ?_
    repeat (
      first
        | refine WO_dst rfl rfl (by kernel_rfl) (by kernel_rfl) ?_
        | refine Ev_move rfl ?_)
    refine Ev_indexAddr_rd (i := i) rfl rfl rfl rfl rfl hin.rd hlt ?_
    intro q3 hq3
    repeat (
      refine WO_dst rfl rfl (by kernel_rfl) (by kernel_rfl) ?_)
    refine Ev_fieldAddr_pt rfl rfl rfl rfl rfl rfl hq3 ?_
    intro q4 hq4
    repeat (
      refine WO_dst rfl rfl (by kernel_rfl) (by kernel_rfl) ?_)
    refine Ev_load_pt (v := .str o.1) rfl rfl rfl hq4 (flat_cell (f := dnC) (sz := 3) (j := 0) (fun _ => rfl) ho rfl) (veq_str _) ?_
    repeat' (
      first
        | refine W_seq ?_
        | refine WO_nil ?_
        | refine V_seq ?_
        | refine W_region ?_
        | refine W_skip ?_
        | refine V_block ?_
        | refine WO_dst rfl rfl (by kernel_rfl) (by kernel_rfl) ?_
        | refine Ev_load rfl rfl rfl h1.at_ rfl h1.d.rd.self ?_
        | refine Ev_move rfl ?_
        | refine Ev_assign rfl ?_
        | refine Ev_seql rfl rfl ?_
        | refine Ev_nilCheck rfl ?_
        | refine Ev_fieldAddr rfl rfl rfl rfl rfl rfl ?_
        | refine Ev_addN rfl rfl (by simp only [lim]; omega) ?_
        | (refine W_cond rfl (fun hc => ?_) (fun hc => ?_) <;> (try dsimp only at hc) <;> try (exfalso; first | omega | exact hc rfl)))
    · have he : o.1 = nm := by assumption
      refine Ev_indexAddr_rd (i := j) rfl rfl rfl rfl rfl h1.d.rd hj ?_
      intro q5 hq5
      repeat (
        refine WO_dst rfl rfl (by kernel_rfl) (by kernel_rfl) ?_)
      refine Ev_load_pt rfl rfl rfl hq5 hvj hin.rd.self ?_
      repeat (
        first
          | refine WO_dst rfl rfl (by kernel_rfl) (by kernel_rfl) ?_
          | refine Ev_move rfl ?_)
      refine Ev_indexAddr_rd (i := i) rfl rfl rfl rfl rfl hin.rd hlt ?_
      intro q6 hq6
      repeat (
        refine WO_dst rfl rfl (by kernel_rfl) (by kernel_rfl) ?_)
      refine Ev_load_pt_agg (ds := dnC o) rfl rfl rfl hq6 fa2 fa1 (by simp [veqs, veq_int, veq_str]) ?_
      repeat (
        refine WO_no rfl rfl ?_)
      refine Ev_store rfl rfl rfl rfl rfl q1 (by show 0 + 3 ≤ 3; decide) (by omega) ?_
      intro S2 n2 q2' f2
      have ok2 : Sok S2 := sok_upd ok1 (by omega) n2 q2' f2
      repeat (
        first
          | refine WO_nil ?_
          | refine V_seq ?_
          | refine W_ret ?_
          | refine V_ret ?_
          | refine WO_dst rfl rfl (by kernel_rfl) (by kernel_rfl) ?_
          | refine Ev_assign rfl ?_)
      refine V_done_ct rfl rfl (loadAt_95 (a := o.1) (c := o.2.1) (i := o.2.2) q2') rfl ?_
      rw [← hlk, hdr, if_pos he.symm, he]
      exact ⟨rfl, ok2, by omega, by omega, fun c hc => by rw [f2 c (by omega), f1 c hc]⟩
    · have hne : o.1 ≠ nm := by assumption
      refine back (i + 1) T _ (by omega) ⟨rfl, hlt, ?_⟩ ⟨rfl, rfl, rfl, rfl, rfl, trivial⟩
      rw [← hlk, hdr, if_neg (fun e => hne e.symm)]
  · have hlt : ¬ i < ones[j].ldd.length := by omega
    have hno : alook nm ones[j].ldd = none := by rw [← hlk, List.drop_eq_nil_of_le (by omega)]; rfl
    refine Ev_build (v := .agg [.str [], .int .i64 0, .int .i64 0]) rfl rfl ?_
    repeat (
      refine WO_no rfl rfl ?_)
    refine Ev_store rfl rfl rfl rfl rfl q1 (by show 0 + 3 ≤ 3; decide) (by omega) ?_
    intro S2 n2 q2' f2
    have ok2 : Sok S2 := sok_upd ok1 (by omega) n2 q2' f2
    repeat (
      first
        | refine WO_nil ?_
        | refine V_seq ?_
        | refine W_ret ?_
        | refine WO_dst rfl rfl (by kernel_rfl) (by kernel_rfl) ?_
        | refine Ev_assign rfl ?_)
    refine V_done_ct rfl rfl (loadAt_95 (a := []) (c := 0) (i := 0) q2') rfl ?_
    rw [hno]
    exact ⟨rfl, ok2, by omega, by omega, fun c hc => by rw [f2 c (by omega), f1 c hc]⟩
/-- Loaded -/
theorem rLoaded_runs {S : St} {p : Nat} {y : RLay} {ones : List One} {ps : Ps} {n : Int} {nm : Nm} (h : Rs S p y ones ps) (hl : ∀ o ∈ ones, o.ldd.length ≤ 1000000) (hn : S.n + 4 ≤ 1000000000) :
    Runs X1 22 [.ptr p 0, .int .i64 n, .str nm] S fun r U => r = .tup [.int .i64 ((hasN ones n nm).getD (0, 0)).1, .bool (hasN ones n nm).isSome] ∧ Sok U ∧ S.n ≤ U.n ∧ U.n ≤ S.n + 2 ∧ ∀ c, c < S.n → U.h.get c = S.h.get c := by
  refine Runs_fn (m := 20) (by kernel_rfl) Try.func22 rfl (by kernel_rfl) (by kernel_rfl) ?_
  repeat (
    first
      | refine W_seq ?_
      | refine WO_nil ?_
      | refine V_seq ?_
      | refine W_region ?_
      | refine WO_dst rfl rfl (by kernel_rfl) (by kernel_rfl) ?_
      | refine Ev_move rfl ?_
      | refine Ev_assign rfl ?_)
  refine Ev_call rfl rfl ((has_runs (n := n) (nm := nm) h hl (by omega)).mono ?_)
  rintro _ S1 - ⟨rfl, ok1, le1, n1, f1⟩
  obtain ⟨a, c, i, hg, hc⟩ : ∃ a c i, fdnV nm (hasN ones n nm) = .agg [.str a, .int .i64 c, .int .i64 i] ∧ c = ((hasN ones n nm).getD (0, 0)).1 := by
    cases hasN ones n nm with
    | none => exact ⟨[], 0, 0, rfl, rfl⟩
    | some x => exact ⟨nm, x.1, x.2, rfl, rfl⟩
  rw [hg]
  repeat (
    first
      | refine WO_dst rfl rfl (by kernel_rfl) (by kernel_rfl) ?_
      | refine Ev_move rfl ?_
      | refine Ev_extract rfl rfl ?_)
  refine Ev_alloc_ rfl ok1 (by omega) ?_
  intro S2 n2 ok2 q2 f2
  repeat (
    refine WO_no rfl rfl ?_)
  refine Ev_store rfl rfl rfl rfl rfl q2 (by show 0 + 3 ≤ 3; decide) (by omega) ?_
  intro S3 n3 q3 f3
  have q3 : S3.h.get S1.n = some (.cells 95 [.str a, .int .i64 c, .int .i64 i] false) := q3
  have ok3 : Sok S3 := sok_upd ok2 (by omega) n3 q3 f3
  repeat (
    first
      | refine W_seq ?_
      | refine WO_nil ?_
      | refine V_seq ?_
      | refine W_region ?_
      | refine W_ret ?_
      | refine WO_dst rfl rfl (by kernel_rfl) (by kernel_rfl) ?_
      | refine Ev_load rfl rfl rfl q3 rfl (veq_int _ _) ?_
      | refine Ev_move rfl ?_
      | refine Ev_assign rfl ?_
      | refine Ev_fieldAddr rfl rfl rfl rfl rfl rfl ?_)
  refine V_done rfl rfl ?_
  rw [← hc]
  exact ⟨rfl, ok3, by omega, by omega, fun c hc => by rw [f3 c (by omega), f2 c (by omega), f1 c hc]⟩
end Go.Proofs.Ytjbpegggfacojaa
/- GX: reasoning about runs: make. -/

namespace GX
noncomputable section
open Go
section
variable {X : X} {l : L} {S : St} {R : AV → St → Prop} {x y : Operand} {t : Nat}
theorem Ev_makeSlice {m c el : Nat} {i ei : TI} (hx : od l x = some (.int .i64 ((m : Nat) : Int))) (hy : od l y = some (.int .i64 ((c : Nat) : Int))) (hi : X.ti t = some i) (hd : i.desc = .slice el) (he' : X.ti el = some ei) (hmc : m ≤ c) (hb : ei.bytes * c ≤ 1048576000000) (hc : c ≤ 1048576000000) (hz : (!(Nat.beq ei.size 0) && Nat.beq ei.zero.length ei.size) = true) (hok : Sok S) (hn : S.n < 1000000000)
    (hR : ∀ S', S'.n = S.n + 1 → Sok S' → S'.h.get S.n = some (.cells el (rep ei.zero c) false) → (∀ c, c < S.n → S'.h.get c = S.h.get c) → R (.slice S.n 0 m (.ex c)) S') : Ev X l S (.makeSlice t x y) R := by
  refine Ev_mk (fun e he => ⟨rfl, ?_⟩) hok hn hR
  unfold allocOp; dsimp only; rw [hi]; dsimp only; rw [hd]; dsimp only; rw [he']; dsimp only; rw [od_ok he hx, od_ok he hy]
  show (bif Nat.ble m c && Nat.ble (ei.bytes * c) 1048576000000 && Nat.ble c 1048576000000 && !(Nat.beq ei.size 0) && Nat.beq ei.zero.length ei.size then _ else none) = _
  rw [nble, nble, nble, decide_eq_true hmc, decide_eq_true hb, decide_eq_true hc, Bool.and_self, Bool.and_self, Bool.true_and, hz]; rfl
/-- a copy of a whole slice into a greater one -/
theorem Ev_copy {xs : Array Operand} {ts : Array TypeId} {tr : List TypeId} {i ei : TI} {el b o dl k ty : Nat} {q : Cap} {vx : AV} {new cs : List AV} {sp : Bool} (hxs : xs.toList = [x, y]) (hts : ts.toList = t :: tr) (hx : od l x = some (.slice b o dl q)) (hy : od l y = some vx) (hi : X.ti t = some i) (hd : i.desc = .slice el) (he' : X.ti el = some ei)
    (hnew : Rd S vx ei.size new k) (hone : new.all AV.one = true) (hk : k ≤ dl) (hb : S.h.get b = some (.cells ty cs sp)) (hle : o + new.length ≤ cs.length) (hn : b < 1000000000)
    (hR : ∀ S', S'.n = S.n → S'.h.get b = some (.cells ty (lput cs o new) sp) → (∀ c, c ≠ b → S'.h.get c = S.h.get c) → R (.int .i64 ((k : Nat) : Int)) S') : Ev X l S (.call { callee := .builtin .copy, args := xs, argTypes := ts }) R := by
  have hst : storeAt S b o new = some (S.put b (.cells ty (lput cs o new) sp)) := by
    unfold storeAt; rw [hb]; dsimp only; rw [nble, decide_eq_true hle, hone]; rfl
  refine Ev_loud (S' := S.put b (.cells ty (lput cs o new) sp)) (v := .int .i64 ((k : Nat) : Int)) (fun e he => ⟨rfl, ?_⟩) (Nat.le_refl _) (hR _ rfl ?_ ?_)
  · unfold loudOp; dsimp only; rw [hxs, hts]; dsimp only; rw [od_ok he hx, od_ok he hy]; dsimp only
    unfold acopy; rw [hi]; dsimp only; rw [hd]; dsimp only; rw [he']; dsimp only; rw [srcLen_of hnew.len]; dsimp only
    rw [nble, decide_eq_true hk]; simp only [cond_true]; rw [hnew.cells]; dsimp only; rw [hst]; rfl
  · rw [get_put hn, if_pos rfl]
  · intro c hc; rw [get_put hn, if_neg hc]
end
end
end GX
/- caraferef15: New, Child, line, group, id. (NODRAWN) -/



namespace Go.Proofs.Ytjbpegggfacojaa
open GX
set_option maxHeartbeats 16000000
set_option maxRecDepth 100000
theorem Lt.eq {S : St} {v : AV} {el sz m m' : Nat} {cs cs' : List AV} (h : Lt S v el sz cs m) (h1 : cs = cs') (h2 : m = m') : Lt S v el sz cs' m' := by subst h1; subst h2; exact h
theorem rnew_runs {S : St} (hok : Sok S) (hn : S.n + 20 ≤ 1000000000) :
    Runs X1 16 [] S fun r U => ∃ p y, r = .ptr p 0 ∧ Rs U p y [⟨-1, [], []⟩] [] ∧ S.n ≤ U.n ∧ U.n ≤ S.n + 8 ∧ ∀ c, c < S.n → U.h.get c = S.h.get c ∧ y.tg c = 5 := by
  refine Runs_fn (m := 6) (by kernel_rfl) Try.func16 rfl (by kernel_rfl) (by kernel_rfl) ?_
  repeat (
    first
      | refine W_seq ?_
      | refine WO_nil ?_
      | refine V_seq ?_
      | refine W_region ?_
      | refine WO_dst rfl rfl (by kernel_rfl) (by kernel_rfl) ?_
      | refine Ev_assign rfl ?_)
  refine W_drawn (by kernel_rfl) ?_
  repeat (
    refine WO_dst rfl rfl (by kernel_rfl) (by kernel_rfl) ?_)
  refine Ev_buildSlice rfl rfl rfl rfl rfl rfl hok (by omega) ?_
  intro S1 n1 ok1 q1 f1
  repeat (
    refine WO_dst rfl rfl (by kernel_rfl) (by kernel_rfl) ?_)
  refine Ev_makeSlice (m := 1) (c := 1) rfl rfl rfl rfl rfl (Nat.le_refl _) (by decide) (by decide) rfl ok1 (by omega) ?_
  intro S2 n2 ok2 q2 f2
  repeat (
    refine WO_dst rfl rfl (by kernel_rfl) (by kernel_rfl) ?_)
  refine Ev_makeSlice (m := 1) (c := 1) rfl rfl rfl rfl rfl (Nat.le_refl _) (by decide) (by decide) rfl ok2 (by omega) ?_
  intro S3 n3 ok3 q3 f3
  repeat (
    refine WO_dst rfl rfl (by kernel_rfl) (by kernel_rfl) ?_)
  refine Ev_build (v := .agg [.slice S.n 0 1 (.ex 1), .slice S1.n 0 1 (.ex 1), .slice S2.n 0 1 (.ex 1), .nils]) rfl rfl ?_
  repeat (
    refine WO_dst rfl rfl (by kernel_rfl) (by kernel_rfl) ?_)
  refine Ev_box rfl ok3 (by omega) ?_
  intro S4 n4 ok4 q4 f4
  repeat (
    first
      | refine WO_nil ?_
      | refine V_seq ?_
      | refine W_ret ?_
      | refine WO_dst rfl rfl (by kernel_rfl) (by kernel_rfl) ?_
      | refine Ev_assign rfl ?_)
  refine V_done rfl rfl ?_
  refine ⟨S3.n, ⟨.slice S.n 0 1 (.ex 1), .slice S1.n 0 1 (.ex 1), .slice S2.n 0 1 (.ex 1), .nils, [.nils], [.nils], fun c => if c = S.n then 1 else if c = S1.n then 2 else if c = S2.n then 3 else if c = S3.n then 0 else 5⟩, rfl, ?_, by omega, by omega, fun c hc => ⟨by rw [f4 c (by omega), f3 c (by omega), f2 c (by omega), f1 c hc], ?_⟩⟩
  · refine ⟨ok4, q4, .inr ⟨S.n, rfl, by rw [f4 _ (by omega), f3 _ (by omega), f2 _ (by omega)]; exact q1, rfl⟩, .inr ⟨S1.n, rfl, by rw [f4 _ (by omega), f3 _ (by omega)]; exact q2, rfl⟩, .inr ⟨S2.n, rfl, by rw [f4 _ (by omega)]; exact q3, rfl⟩, .inl ⟨rfl, rfl, rfl⟩, rfl, rfl, fun j v o hv ho => ?_, fun j v o hv ho => ?_, ?_, fun c hc => ?_, fun c hc => ?_, fun c hc => ?_, fun c hc => (by cases hc), fun j v hv c hc => ?_, fun j v hv c hc => ?_⟩
    · match j with
      | 0 => cases hv; cases ho; exact .inl ⟨rfl, rfl, rfl⟩
      | j + 1 => cases hv
    · match j with
      | 0 => cases hv; cases ho; exact .inl ⟨rfl, rfl, rfl⟩
      | j + 1 => cases hv
    · dsimp only; rw [if_neg (by omega), if_neg (by omega), if_neg (by omega), if_pos rfl]
    · cases hc; dsimp only; rw [if_pos rfl]
    · cases hc; dsimp only; rw [if_neg (by omega), if_pos rfl]
    · cases hc; dsimp only; rw [if_neg (by omega), if_neg (by omega), if_pos rfl]
    · match j with
      | 0 => cases hv; cases hc
      | j + 1 => cases hv
    · match j with
      | 0 => cases hv; cases hc
      | j + 1 => cases hv
  · dsimp only; rw [if_neg (by omega), if_neg (by omega), if_neg (by omega), if_neg (by omega)]
/-- Child -/
def childN (ones : List One) (n : Int) : (Int × Int) × List One :=
  if isN ones n then (if 16 ≤ ones.length then ((0, 4), ones) else ((((ones.length : Nat) : Int), 0), ones ++ [⟨n, [], []⟩])) else ((0, 1), ones)
theorem nils_lit {S : St} {q el : Nat} {sp : Bool} (h : S.h.get q = some (.cells el [.nils] sp)) : Rd S (.slice q 0 1 (.ex 1)) 1 [.nils] 1 := Rd_lit h rfl rfl
theorem rChild_runs {S : St} {p : Nat} {y : RLay} {ones : List One} {ps : Ps} {n : Int} (h : Rs S p y ones ps) (hs : ones.length ≤ 100) (hn : S.n + 20 ≤ 1000000000) :
    Runs X1 18 [.ptr p 0, .int .i64 n] S fun r U => r = .tup [.int .i64 (childN ones n).1.1, .int .i64 (childN ones n).1.2] ∧ ∃ y', Rs U p y' (childN ones n).2 ps ∧ Ft S U y.tg y'.tg 12 := by
  have hp := h.ok _ _ h.at_
  have hl := h.a.rd.len
  refine Runs_fn (m := 50) (by kernel_rfl) Try.func18 rfl (by kernel_rfl) (by kernel_rfl) ?_
  repeat (
    first
      | refine W_seq ?_
      | refine WO_nil ?_
      | refine V_seq ?_
      | refine W_region ?_
      | refine WO_dst rfl rfl (by kernel_rfl) (by kernel_rfl) ?_
      | refine Ev_move rfl ?_
      | refine Ev_assign rfl ?_)
  refine Ev_call rfl rfl ((ris_runs (n := n) h).mono ?_)
  rintro _ U0 - ⟨rfl, hU⟩
  rw [hU]
  by_cases hi : isN ones n
  rotate_left
  · rw [decide_eq_false hi]
    repeat (
      first
        | refine W_seq ?_
        | refine WO_nil ?_
        | refine V_seq ?_
        | refine W_region ?_
        | refine W_ret ?_
        | refine V_ret ?_
        | refine W_cond_t rfl ?_
        | refine WO_dst rfl rfl (by kernel_rfl) (by kernel_rfl) ?_
        | refine Ev_assign rfl ?_
        | refine Ev_notb rfl ?_)
    refine V_done rfl rfl ?_
    unfold childN
    rw [if_neg hi]
    exact ⟨rfl, y, h, ⟨Nat.le_refl _, by omega, fun _ _ => rfl, fun _ _ _ => rfl⟩⟩
  rw [decide_eq_true hi]
  repeat' (
    first
      | refine W_seq ?_
      | refine WO_nil ?_
      | refine V_seq ?_
      | refine W_region ?_
      | refine W_skip ?_
      | refine W_ret ?_
      | refine V_ret ?_
      | refine W_cond_f rfl ?_
      | refine WO_dst rfl rfl (by kernel_rfl) (by kernel_rfl) ?_
      | refine Ev_load rfl rfl rfl h.at_ rfl h.a.rd.self ?_
      | refine Ev_len rfl rfl rfl rfl rfl hl ?_
      | refine Ev_move rfl ?_
      | refine Ev_assign rfl ?_
      | refine Ev_geqN rfl rfl ?_
      | refine Ev_notb rfl ?_
      | refine Ev_nilCheck rfl ?_
      | refine Ev_fieldAddr rfl rfl rfl rfl rfl rfl ?_
      | (refine W_cond rfl (fun hc => ?_) (fun hc => ?_) <;> (try dsimp only at hc) <;> try (exfalso; first | omega | exact hc rfl)))
  · refine V_done rfl rfl ?_
    unfold childN
    rw [if_pos hi, if_pos (by omega)]
    exact ⟨rfl, y, h, ⟨Nat.le_refl _, by omega, fun _ _ => rfl, fun _ _ _ => rfl⟩⟩
  have hlt : ¬ 16 ≤ ones.length := by omega
  refine Ev_buildSlice rfl rfl rfl rfl rfl rfl h.ok (by omega) ?_
  intro S1 n1 ok1 q1 f1
  have a1 : Lt S1 y.va 3 1 (ones.map fun o => intV o.par) ones.length := h.a.keep (fun c hc => f1 c (h.a.lt h.ok hc))
  repeat (
    refine WO_dst rfl rfl (by kernel_rfl) (by kernel_rfl) ?_)
  refine Ev_append_lt rfl rfl rfl rfl rfl rfl rfl rfl rfl rfl a1 (Rd_lit (m := 1) q1 rfl rfl) (by decide) rfl ok1 (by omega) (by dsimp only; omega) (by omega) ?_
  intro va S2 le2 n2 ok2 ow2 f2 b2
  have ba : ∀ c, blkOf y.va = some c → c < S.n ∧ y.tg c = 1 := fun c hc => ⟨h.a.lt h.ok hc, h.ta c hc⟩
  have bo : ∀ c, blkOf y.vo = some c → c < S.n ∧ y.tg c = 2 := fun c hc => ⟨h.o.lt h.ok hc, h.to c hc⟩
  have bd : ∀ c, blkOf y.vd = some c → c < S.n ∧ y.tg c = 3 := fun c hc => ⟨h.d.lt h.ok hc, h.td c hc⟩
  have t0 := h.t0
  have at2 : S2.h.get p = some (.cells 81 [y.va, y.vo, y.vd, y.vp] false) := by
    rw [f2 p (fun e => by have := (ba p e).2; omega) (by omega), f1 p hp]; exact h.at_
  repeat (
    first
      | refine WO_dst rfl rfl (by kernel_rfl) (by kernel_rfl) ?_
      | refine WO_no rfl rfl ?_
      | refine Ev_nilCheck rfl ?_
      | refine Ev_fieldAddr rfl rfl rfl rfl rfl rfl ?_)
  refine Ev_store rfl rfl rfl (by rw [(own_cells1 ow2).1]; rfl) (by rw [(own_cells1 ow2).1]; exact (own_cells1 ow2).2) at2 (by rw [(own_cells1 ow2).1]; show 0 + 1 ≤ 4; omega) (by omega) ?_
  intro S3 n3 q3 f3
  have at3 : S3.h.get p = some (.cells 81 [va, y.vo, y.vd, y.vp] false) := q3.trans (congrArg (fun z => some (AB.cells 81 z false)) (by rw [(own_cells1 ow2).1]; rfl))
  have ok3 : Sok S3 := sok_upd ok2 (by omega) n3 at3 f3
  have f03 : ∀ c, c < S.n → c ≠ p → y.tg c ≠ 1 → S3.h.get c = S.h.get c := fun c h1 h2 h3 => by
    rw [f3 c h2, f2 c (fun e => h3 (ba c e).2) (by omega), f1 c h1]
  repeat (
    first
      | refine W_seq ?_
      | refine WO_nil ?_
      | refine V_seq ?_
      | refine W_region ?_
      | refine WO_dst rfl rfl (by kernel_rfl) (by kernel_rfl) ?_
      | refine Ev_load rfl rfl rfl at3 rfl h.o.rd.self ?_
      | refine Ev_move rfl ?_
      | refine Ev_nilCheck rfl ?_
      | refine Ev_fieldAddr rfl rfl rfl rfl rfl rfl ?_)
  refine Ev_buildSlice rfl rfl rfl rfl rfl rfl ok3 (by omega) ?_
  intro S4 n4 ok4 q4 f4
  have o4 : Lt S4 y.vo 87 1 y.os ones.length := h.o.keep (fun c hc => by rw [f4 c (by have := (bo c hc).1; omega), f03 c (bo c hc).1 (fun e => by rw [e] at hc; have := (bo p hc).2; omega) (by have := (bo c hc).2; omega)])
  repeat (
    refine WO_dst rfl rfl (by kernel_rfl) (by kernel_rfl) ?_)
  refine Ev_append_lt rfl rfl rfl rfl rfl rfl rfl rfl rfl rfl o4 (nils_lit q4) (by decide) rfl ok4 (by omega) (by dsimp only; omega) (by omega) ?_
  intro vo S5 le5 n5 ok5 ow5 f5 b5
  have at5 : S5.h.get p = some (.cells 81 [va, y.vo, y.vd, y.vp] false) := by
    rw [f5 p (fun e => by have := (bo p e).2; omega) (by omega), f4 p (by omega)]; exact at3
  repeat (
    first
      | refine WO_dst rfl rfl (by kernel_rfl) (by kernel_rfl) ?_
      | refine WO_no rfl rfl ?_
      | refine Ev_nilCheck rfl ?_
      | refine Ev_fieldAddr rfl rfl rfl rfl rfl rfl ?_)
  refine Ev_store rfl rfl rfl (by rw [(own_cells1 ow5).1]; rfl) (by rw [(own_cells1 ow5).1]; exact (own_cells1 ow5).2) at5 (by rw [(own_cells1 ow5).1]; show 1 + 1 ≤ 4; omega) (by omega) ?_
  intro S6 n6 q6 f6
  have at6 : S6.h.get p = some (.cells 81 [va, vo, y.vd, y.vp] false) := q6.trans (congrArg (fun z => some (AB.cells 81 z false)) (by rw [(own_cells1 ow5).1]; rfl))
  have ok6 : Sok S6 := sok_upd ok5 (by omega) n6 at6 f6
  have f06 : ∀ c, c < S.n → c ≠ p → y.tg c ≠ 1 → y.tg c ≠ 2 → S6.h.get c = S.h.get c := fun c h1 h2 h3 h4 => by
    rw [f6 c h2, f5 c (fun e => h4 (bo c e).2) (by omega), f4 c (by omega), f03 c h1 h2 h3]
  repeat (
    first
      | refine W_seq ?_
      | refine WO_nil ?_
      | refine V_seq ?_
      | refine W_region ?_
      | refine WO_dst rfl rfl (by kernel_rfl) (by kernel_rfl) ?_
      | refine Ev_load rfl rfl rfl at6 rfl h.d.rd.self ?_
      | refine Ev_move rfl ?_
      | refine Ev_nilCheck rfl ?_
      | refine Ev_fieldAddr rfl rfl rfl rfl rfl rfl ?_)
  refine Ev_buildSlice rfl rfl rfl rfl rfl rfl ok6 (by omega) ?_
  intro S7 n7 ok7 q7 f7
  have d7 : Lt S7 y.vd 101 1 y.ds ones.length := h.d.keep (fun c hc => by rw [f7 c (by have := (bd c hc).1; omega), f06 c (bd c hc).1 (fun e => by rw [e] at hc; have := (bd p hc).2; omega) (by have := (bd c hc).2; omega) (by have := (bd c hc).2; omega)])
  repeat (
    refine WO_dst rfl rfl (by kernel_rfl) (by kernel_rfl) ?_)
  refine Ev_append_lt rfl rfl rfl rfl rfl rfl rfl rfl rfl rfl d7 (nils_lit q7) (by decide) rfl ok7 (by omega) (by dsimp only; omega) (by omega) ?_
  intro vd S8 le8 n8 ok8 ow8 f8 b8
  have at8 : S8.h.get p = some (.cells 81 [va, vo, y.vd, y.vp] false) := by
    rw [f8 p (fun e => by have := (bd p e).2; omega) (by omega), f7 p (by omega)]; exact at6
  repeat (
    first
      | refine WO_dst rfl rfl (by kernel_rfl) (by kernel_rfl) ?_
      | refine WO_no rfl rfl ?_
      | refine Ev_nilCheck rfl ?_
      | refine Ev_fieldAddr rfl rfl rfl rfl rfl rfl ?_)
  refine Ev_store rfl rfl rfl (by rw [(own_cells1 ow8).1]; rfl) (by rw [(own_cells1 ow8).1]; exact (own_cells1 ow8).2) at8 (by rw [(own_cells1 ow8).1]; show 2 + 1 ≤ 4; omega) (by omega) ?_
  intro S9 n9 q9 f9
  have at9 : S9.h.get p = some (.cells 81 [va, vo, vd, y.vp] false) := q9.trans (congrArg (fun z => some (AB.cells 81 z false)) (by rw [(own_cells1 ow8).1]; rfl))
  have ok9 : Sok S9 := sok_upd ok8 (by omega) n9 at9 f9
  have f09 : ∀ c, c < S.n → c ≠ p → y.tg c ≠ 1 → y.tg c ≠ 2 → y.tg c ≠ 3 → S9.h.get c = S.h.get c := fun c h1 h2 h3 h4 h5 => by
    rw [f9 c h2, f8 c (fun e => h5 (bd c e).2) (by omega), f7 c (by omega), f06 c h1 h2 h3 h4]
  have bl2 : ∀ c, blkOf va = some c → (c < S.n ∧ y.tg c = 1) ∨ (S1.n ≤ c ∧ c < S2.n) := fun c hc => (b2 c hc).elim (fun e => .inl (ba c e)) (fun e => .inr ⟨e, ow2.lt ok2 hc⟩)
  have bl5 : ∀ c, blkOf vo = some c → (c < S.n ∧ y.tg c = 2) ∨ (S4.n ≤ c ∧ c < S5.n) := fun c hc => (b5 c hc).elim (fun e => .inl (bo c e)) (fun e => .inr ⟨e, ow5.lt ok5 hc⟩)
  have bl8 : ∀ c, blkOf vd = some c → (c < S.n ∧ y.tg c = 3) ∨ (S7.n ≤ c ∧ c < S8.n) := fun c hc => (b8 c hc).elim (fun e => .inl (bd c e)) (fun e => .inr ⟨e, ow8.lt ok8 hc⟩)
  have oa : Own S9 va 3 1 ((ones ++ [(⟨n, [], []⟩ : One)]).map fun o => intV o.par) (ones ++ [(⟨n, [], []⟩ : One)]).length := by
    rw [List.map_append, List.length_append]
    refine ow2.keep (fun c hc => ?_)
    have hcp : c ≠ p := fun e => by
      rcases bl2 c hc with ⟨_, g⟩ | g
      · rw [e] at g; omega
      · omega
    rw [f9 c hcp, f8 c (fun e => by have := bd c e; rcases bl2 c hc with g | g <;> omega) (by have := ow2.lt ok2 hc; omega), f7 c (by have := ow2.lt ok2 hc; omega), f6 c hcp, f5 c (fun e => by have := bo c e; rcases bl2 c hc with g | g <;> omega) (by have := ow2.lt ok2 hc; omega), f4 c (by have := ow2.lt ok2 hc; omega), f3 c hcp]
  have oo : Own S9 vo 87 1 (y.os ++ [.nils]) (ones ++ [(⟨n, [], []⟩ : One)]).length := by
    rw [List.length_append]
    refine ow5.keep (fun c hc => ?_)
    have hcp : c ≠ p := fun e => by
      rcases bl5 c hc with ⟨_, g⟩ | g
      · rw [e] at g; omega
      · omega
    rw [f9 c hcp, f8 c (fun e => by have := bd c e; rcases bl5 c hc with g | g <;> omega) (by have := ow5.lt ok5 hc; omega), f7 c (by have := ow5.lt ok5 hc; omega), f6 c hcp]
  have od9 : Own S9 vd 101 1 (y.ds ++ [.nils]) (ones ++ [(⟨n, [], []⟩ : One)]).length := by
    rw [List.length_append]
    refine ow8.keep (fun c hc => ?_)
    have hcp : c ≠ p := fun e => by
      rcases bl8 c hc with ⟨_, g⟩ | g
      · rw [e] at g; omega
      · omega
    rw [f9 c hcp]
  have hl9 : slen va = some (ones.length + 1) := by rw [oa.rd.len, List.length_append]; rfl
  have hvp : ∀ c, blkOf y.vp = some c → c < S.n ∧ y.tg c = 4 := fun c hc => ⟨h.pc.lt h.ok hc, h.tp c hc⟩
  have keepT : ∀ c, c < S.n → 4 ≤ y.tg c → S9.h.get c = S.h.get c := fun c h1 h2 => f09 c h1 (fun e => by rw [e] at h2; omega) (by omega) (by omega) (by omega)
  have hR9 : Rs S9 p ⟨va, vo, vd, y.vp, y.os ++ [.nils], y.ds ++ [.nils], fun c => if c < S.n then y.tg c else if c < S2.n then 1 else if c < S5.n then 2 else 3⟩ (ones ++ [⟨n, [], []⟩]) ps := by
    have hol : y.os.length = ones.length := h.lo
    have hdl : y.ds.length = ones.length := h.ld
    have sp : ∀ {α : Type} (l : List α) (a : α) (j : Nat) (b : α), (l ++ [a])[j]? = some b → (j < l.length ∧ l[j]? = some b) ∨ (j = l.length ∧ b = a) := fun l a j b hb => by
      by_cases hj : j < l.length
      · rw [List.getElem?_append_left hj] at hb; exact .inl ⟨hj, hb⟩
      · have := (List.getElem?_eq_some_iff.1 hb).1
        rw [List.length_append, List.length_singleton] at this
        have hj2 : j = l.length := by omega
        rw [hj2, List.getElem?_append_right (Nat.le_refl _), Nat.sub_self] at hb
        exact .inr ⟨hj2, (Option.some.inj hb).symm⟩
    refine ⟨ok9, at9, .inl oa, .inl oo, .inl od9, h.pc.keep (fun c hc => keepT c (hvp c hc).1 (by have := (hvp c hc).2; omega)), by simp [hol], by simp [hdl], fun j v o hv ho => ?_, fun j v o hv ho => ?_, ?_, fun c hc => ?_, fun c hc => ?_, fun c hc => ?_, fun c hc => ?_, fun j v hv c hc => ?_, fun j v hv c hc => ?_⟩
    · rcases sp _ _ _ _ hv with ⟨g1, g2⟩ | ⟨g1, rfl⟩
      · rcases sp _ _ _ _ ho with ⟨g3, g4⟩ | ⟨g3, _⟩
        · exact (h.off j v o g2 g4).keep (fun c hc => keepT c (h.lto g2 hc) (by have := h.tof j v g2 c hc; omega))
        · omega
      · rcases sp _ _ _ _ ho with ⟨g3, g4⟩ | ⟨g3, rfl⟩
        · omega
        · exact .inl ⟨rfl, rfl, rfl⟩
    · rcases sp _ _ _ _ hv with ⟨g1, g2⟩ | ⟨g1, rfl⟩
      · rcases sp _ _ _ _ ho with ⟨g3, g4⟩ | ⟨g3, _⟩
        · exact (h.dn j v o g2 g4).keep (fun c hc => keepT c (h.ltd g2 hc) (by have := h.tdn j v g2 c hc; omega))
        · omega
      · rcases sp _ _ _ _ ho with ⟨g3, g4⟩ | ⟨g3, rfl⟩
        · omega
        · exact .inl ⟨rfl, rfl, rfl⟩
    · dsimp only; rw [if_pos hp]; exact t0
    · dsimp only
      rcases bl2 c hc with ⟨g1, g2⟩ | ⟨g1, g2⟩
      · rw [if_pos g1]; exact g2
      · rw [if_neg (by omega), if_pos g2]
    · dsimp only
      rcases bl5 c hc with ⟨g1, g2⟩ | ⟨g1, g2⟩
      · rw [if_pos g1]; exact g2
      · rw [if_neg (by omega), if_neg (by omega), if_pos g2]
    · dsimp only
      rcases bl8 c hc with ⟨g1, g2⟩ | ⟨g1, g2⟩
      · rw [if_pos g1]; exact g2
      · rw [if_neg (by omega), if_neg (by omega), if_neg (by omega)]
    · dsimp only; rw [if_pos (hvp c hc).1]; exact (hvp c hc).2
    · rcases sp _ _ _ _ hv with ⟨g1, g2⟩ | ⟨g1, rfl⟩
      · dsimp only; rw [if_pos (h.lto g2 hc)]; exact h.tof j v g2 c hc
      · cases hc
    · rcases sp _ _ _ _ hv with ⟨g1, g2⟩ | ⟨g1, rfl⟩
      · dsimp only; rw [if_pos (h.ltd g2 hc)]; exact h.tdn j v g2 c hc
      · cases hc
  repeat (
    first
      | refine W_seq ?_
      | refine WO_nil ?_
      | refine V_seq ?_
      | refine W_region ?_
      | refine W_ret ?_
      | refine WO_dst rfl rfl (by kernel_rfl) (by kernel_rfl) ?_
      | refine Ev_load rfl rfl rfl at9 rfl oa.rd.self ?_
      | refine Ev_len rfl rfl rfl rfl rfl hl9 ?_
      | refine Ev_move rfl ?_
      | refine Ev_assign rfl ?_
      | refine Ev_nilCheck rfl ?_
      | refine Ev_fieldAddr rfl rfl rfl rfl rfl rfl ?_
      | refine Ev_subN rfl rfl (by simp only [lim]; omega) (by first | omega | (dsimp only; done) | (dsimp only; omega)) ?_)
  refine V_done rfl rfl ?_
  unfold childN
  rw [if_pos hi, if_neg hlt]
  refine ⟨?_, _, hR9, ⟨by omega, by omega, fun c hc => if_pos hc, fun c h1 h2 => keepT c h1 (by omega)⟩⟩
  rfl
/-- the loaders' own numbers alone -/
abbrev bare (ones : List One) : LdS := ⟨ones, [], [], []⟩
theorem line_neg {st : LdS} {n : Int} (h : n < 0) : lineS st n = [] := by unfold lineS; rw [up_neg h]; rfl
theorem line_snoc {st : LdS} (h : ParOK st) {n : Int} (h0 : 0 ≤ n) (hn : n < (st.ones.length : Int)) : lineS st n = lineS st (parS st n) ++ [n] := by
  unfold lineS; rw [up_cons h h0 hn, List.reverse_cons]
section
variable {X : X} {l : L} {S : St} {R : AV → St → Prop} {x y : Go.Operand} {t t' : Nat}
/-- something is appended to a literal -/
theorem Ev_append_lit {xs : Array Go.Operand} {ts : Array Go.TypeId} {tr : List Go.TypeId} {i i' ei : TI} {el m k b : Nat} {vx : AV} {old new : List AV} (hxs : xs.toList = [x, y]) (hts : ts.toList = t :: t' :: tr) (hi' : X.ti t' = some i') (hni : (match i'.desc with | .int _ => false | _ => true) = true)
    (hx : od l x = some (.slice b 0 m (.ex m))) (hy : od l y = some vx) (hi : X.ti t = some i) (hd : i.desc = .slice el) (he' : X.ti el = some ei) (hz : (Nat.beq ei.size 0 || !(Nat.beq ei.zero.length ei.size)) = false)
    (hold : S.h.get b = some (.cells el old false)) (holdl : old.length = m * ei.size) (hnew : Rd S vx ei.size new k) (hok : Sok S) (hn : S.n < 1000000000) (hlim : (2 * (m + k) + 1000) * ei.bytes ≤ 140737488355328) (hlim2 : m + k ≤ 140737488355328)
    (hR : ∀ v' S', S.n ≤ S'.n → S'.n ≤ S.n + 1 → Sok S' → Lt S' v' el ei.size (old ++ new) (m + k) → (∀ c, c < S.n → S'.h.get c = S.h.get c) → (∀ c, blkOf v' = some c → c = b ∨ S.n ≤ c) → R v' S') :
    Ev X l S (.call { callee := .builtin .append, args := xs, argTypes := ts }) R := by
  have hrd : Rd S (.slice b 0 m (.ex m)) ei.size old m := Lt.rd (.inr ⟨b, rfl, hold, holdl⟩)
  by_cases hk : k = 0
  · subst hk
    have hnil : new = [] := List.eq_nil_of_length_eq_zero (by rw [hnew.size]; omega)
    subst hnil
    have hbn : b < S.n := hok _ _ hold
    have hl := srcLen_of hnew.len
    have hsame : ∀ c, (S.put b (.cells el (lput old (0 + m * ei.size) []) false)).h.get c = S.h.get c := by
      intro c
      rw [get_put (by omega), lput_nil]
      split
      · rename_i h; rw [h, hold]
      · rfl
    refine Ev_loud (v := .slice b 0 (m + 0) (.ex m)) (S' := S.put b (.cells el (lput old (0 + m * ei.size) []) false)) (fun e he => ⟨rfl, ?_⟩) (Nat.le_refl _) (hR _ _ (Nat.le_refl _) (Nat.le_succ _) ?_ ?_ (fun c _ => hsame c) (fun c hc => by cases hc; exact .inl rfl))
    · unfold loudOp; dsimp only; rw [hxs, hts]; dsimp only; rw [hi']; dsimp only
      split
      · rename_i hdd; rw [hdd] at hni; cases hni
      · rw [od_ok he hx, od_ok he hy]
        dsimp only
        rw [app_eq hi hd he' hz hl hnew.cells]; unfold appBody; dsimp only
        rw [nble, decide_eq_true (by omega)]; simp only [cond_true]
        unfold storeAt; rw [hold]; dsimp only
        rw [nble, decide_eq_true (by simp [holdl])]; rfl
    · intro c x hc; rw [hsame] at hc; exact hok c x hc
    · rw [List.append_nil]
      exact .inr ⟨b, rfl, by rw [hsame]; exact hold, holdl⟩
  · exact Ev_append_ex hxs hts hi' hni hx hy hi hd he' hz hrd hnew hok hn hlim hlim2 (fun v' S' h1 h2 h3 _ h5 h6 h7 => hR v' S' h1 h2 h3 (.inl (h5.resolve_left hk)) h6 h7)
end
theorem rline_runs {S : St} {p : Nat} {y : RLay} {ones : List One} {ps : Ps} {n : Int} (h : Rs S p y ones ps) (hpar : ParOK (bare ones)) (h0 : 0 ≤ n) (hi : n < (ones.length : Int)) (hs : ones.length ≤ 100) (hn : S.n ≤ 900000000) :
    Runs X1 39 [.ptr p 0, .int .i64 n] S fun r U => Lt U r 3 1 ((lineS (bare ones) n).map intV) (lineS (bare ones) n).length ∧ Sok U ∧ S.n ≤ U.n ∧ U.n ≤ S.n + 300 ∧ (∀ c, c < S.n → U.h.get c = S.h.get c) ∧ ∀ c, blkOf r = some c → S.n ≤ c := by
  refine Runs_fn (m := 20) (by kernel_rfl) Try.func39 rfl (by kernel_rfl) (by kernel_rfl) ?_
  repeat (
    first
      | refine W_seq ?_
      | refine WO_nil ?_
      | refine V_seq ?_
      | refine W_region ?_
      | refine W_block ?_
      | refine WO_dst rfl rfl (by kernel_rfl) (by kernel_rfl) ?_
      | refine Ev_assign rfl ?_)
  refine W_inv (fun a : Int × List Int × AV => [(1, .int .i64 a.1), (5, a.2.2), (0, .ptr p 0)]) (fun a T => -1 ≤ a.1 ∧ a.1 < (ones.length : Int) ∧ lineS (bare ones) n = lineS (bare ones) a.1 ++ a.2.1 ∧ (Lt T a.2.2 3 1 (a.2.1.map intV) a.2.1.length) ∧ Sok T ∧ S.n ≤ T.n ∧ T.n + 2 * (a.1 + 1).toNat ≤ S.n + 2 * (n + 1).toNat ∧ (∀ c, c < S.n → T.h.get c = S.h.get c) ∧ (∀ c, blkOf a.2.2 = some c → S.n ≤ c) ∧ a.2.1.length + (a.1 + 1).toNat ≤ 100) (fun a => (a.1 + 1).toNat) ?_ (n, [], .nils) ⟨by dsimp only; omega, hi, by simp, (.inl (.inl ⟨rfl, rfl, rfl⟩)), h.ok, Nat.le_refl _, by dsimp only; omega, fun _ _ => rfl, fun c hc => (by cases hc), by dsimp only; simp; omega⟩ ⟨rfl, rfl, rfl, trivial⟩
  rintro ⟨m, acc, v⟩ T ⟨h1, h2, h3, h4, h5, h6, h7, h8, h9, h10⟩ back
  dsimp only at h1 h2 h3 h4 h7 h9 h10 back
  have hT : Rs T p y ones ps := h.far h5 h8 y.tg (fun _ _ => rfl)
  repeat' (
    first
      | refine W_seq ?_
      | refine WO_nil ?_
      | refine V_seq ?_
      | refine W_region ?_
      | refine W_skip ?_
      | refine W_block ?_
      | refine W_ret ?_
      | refine W_exit ?_
      | refine V_block_x rfl ?_
      | refine V_seq_x ?_
      | refine V_loop_x ?_
      | refine WO_dst rfl rfl (by kernel_rfl) (by kernel_rfl) ?_
      | refine Ev_move rfl ?_
      | refine Ev_assign rfl ?_
      | refine Ev_geq rfl rfl ?_
      | (refine W_cond rfl (fun hc => ?_) (fun hc => ?_) <;> (try dsimp only at hc) <;> try (exfalso; first | omega | exact hc rfl)))
  · have hm : 0 ≤ m := by omega
    refine Ev_buildSlice rfl rfl rfl rfl rfl rfl h5 (by omega) ?_
    intro T1 n1 ok1 q1 f1
    have h41 : Rd T1 v 1 (acc.map intV) acc.length := h4.rd.keep (fun c hc => f1 c (h4.lt h5 hc))
    repeat (
      first
        | refine WO_dst rfl rfl (by kernel_rfl) (by kernel_rfl) ?_
        | refine Ev_move rfl ?_)
    refine Ev_append_lit (old := [intV m]) (new := acc.map intV) (k := acc.length) rfl rfl rfl rfl rfl rfl rfl rfl rfl rfl q1 rfl h41 ok1 (by omega) (by dsimp only; omega) (by omega) ?_
    intro v2 T2 le2 n2 ok2 rd2 f2 b2
    obtain ⟨j, rfl⟩ : ∃ j : Nat, m = (j : Int) := ⟨m.toNat, by omega⟩
    have hj : j < ones.length := by omega
    have hT2 : Rs T2 p y ones ps := hT.far ok2 (fun c hc => by rw [f2 c (by omega), f1 c hc]) y.tg (fun _ _ => rfl)
    have hps := parS_lt hpar (n := ((j : Nat) : Int)) (by omega) h2
    have hpv : parS (bare ones) ((j : Nat) : Int) = ones[j].par := by unfold parS; rw [Int.toNat_natCast]; show (match ones[j]? with | some o => o.par | none => -1) = _; rw [List.getElem?_eq_getElem hj]
    repeat (
      first
        | refine WO_nil ?_
        | refine V_seq ?_
        | refine W_region ?_
        | refine WO_dst rfl rfl (by kernel_rfl) (by kernel_rfl) ?_
        | refine Ev_load rfl rfl rfl hT2.at_ rfl hT2.a.rd.self ?_
        | refine Ev_move rfl ?_
        | refine Ev_assign rfl ?_
        | refine Ev_nilCheck rfl ?_
        | refine Ev_fieldAddr rfl rfl rfl rfl rfl rfl ?_)
    refine Ev_indexAddr_rd (i := j) rfl rfl rfl rfl rfl hT2.a.rd hj ?_
    intro q hq
    repeat (
      refine WO_dst rfl rfl (by kernel_rfl) (by kernel_rfl) ?_)
    refine Ev_load_pt (v := intV ones[j].par) rfl rfl rfl hq (by rw [Nat.mul_one, List.getElem?_map, List.getElem?_eq_getElem hj]; rfl) (veq_int _ _) ?_
    repeat (
      first
        | refine WO_nil ?_
        | refine V_block ?_
        | refine WO_dst rfl rfl (by kernel_rfl) (by kernel_rfl) ?_
        | refine Ev_assign rfl ?_)
    refine back (ones[j].par, ((j : Nat) : Int) :: acc, v2) T2 _ (by dsimp only; omega) ⟨by dsimp only; omega, by dsimp only; omega, ?_, ?_, ok2, by omega, by dsimp only; omega, fun c hc => by rw [f2 c (by omega), f1 c (by omega), h8 c hc], fun c hc => ?_, by dsimp only; simp only [List.length_cons]; omega⟩ ⟨rfl, rfl, rfl, trivial⟩
    · dsimp only
      rw [h3, line_snoc hpar (by omega) h2, hpv, List.append_assoc]; rfl
    · dsimp only
      exact Lt.eq rd2 rfl (by simp; omega)
    · rcases b2 c hc with e | e
      · omega
      · omega
  · have hm : m < 0 := by omega
    refine V_done rfl rfl ?_
    rw [h3, line_neg hm, List.nil_append]
    exact ⟨h4, h5, h6, by omega, h8, h9⟩
/-- a list of bools -/
abbrev boolV : Bool → AV := fun b => .bool b
theorem bool_get {l : List Bool} {j : Nat} {x : Bool} (h : l[j]? = some x) : (l.map boolV)[j * 1]? = some (.bool x) := by
  rw [Nat.mul_one, List.getElem?_map, h]; rfl
theorem lput_setb : ∀ (l : List Bool) (j : Nat) (x : Bool), j < l.length → lput (l.map boolV) j [.bool x] = (l.set j x).map boolV
  | [], _, _, h => by simp at h
  | a :: l, 0, x, _ => by
    show AV.bool x :: lput (l.map boolV) 0 [] = _
    rw [lput_nil]; rfl
  | a :: l, j + 1, x, h => by
    show AV.bool a :: lput (l.map boolV) j [.bool x] = _
    rw [lput_setb l j x (by simpa using h)]; rfl
theorem count_set {l : List Bool} {j : Nat} (h : l[j]? = some false) : (l.set j true).count false + 1 = l.count false := by
  induction l generalizing j with
  | nil => cases h
  | cons a l ih =>
    cases j with
    | zero => cases h; rw [List.set_cons_zero, List.count_cons_self, List.count_cons_of_ne (by decide)]
    | succ j =>
      rw [List.set_cons_succ]
      have := ih (j := j) h
      rw [List.count_cons, List.count_cons]; omega
theorem veq_bool (b : Bool) : veq (.bool b) (.bool b) = true := by cases b <;> rfl
theorem rep_bool : ∀ n : Nat, rep [AV.bool false] n = (List.replicate n false).map boolV
  | 0 => rfl
  | n + 1 => by
    rw [List.replicate_succ, List.map_cons, ← rep_bool n]; rfl
theorem closed_conn {bs : List Bool} {ps : Ps} {nm : Nm} {a : Nat} (hc : ∀ q ∈ ps, q.2.2 = nm → bs[q.1]? = bs[q.2.1]?) (ha : bs[a]? = some true) {b : Nat} (h : Conn ps nm a b) : bs[b]? = some true := by
  induction h with
  | refl => exact ha
  | step x z _ hp ih =>
    rcases hp with hp | hp
    · rw [← hc _ hp rfl]; exact ih
    · rw [hc _ hp rfl]; exact ih
end Go.Proofs.Ytjbpegggfacojaa
/- caraferef15: group, id. (NODRAWN) -/


namespace Go.Proofs.Ytjbpegggfacojaa
open GX
set_option maxHeartbeats 16000000
set_option maxRecDepth 100000
section
variable {X : X} {l : L} {S : St} {R : AV → St → Prop} {t u : Nat} {x y : Go.Operand}
theorem Ev_bneq {a b : Bool} {i : TI} (hx : od l x = some (.bool a)) (hy : od l y = some (.bool b)) (hi : X.ti t = some i) (hd : i.desc = .bool) (hR : R (.bool (!(a == b))) S) : Ev X l S (.binOp .neq t x y u) R :=
  Ev_bin hx hy rfl (by unfold abin; dsimp only; unfold aeq; rw [hi]; dsimp only; rw [hd]) hR
end
theorem count_le {l : List Bool} (j : Nat) : (l.set j true).count false ≤ l.count false := by
  cases h : l[j]? with
  | none => rw [List.set_eq_of_length_le (by rw [List.getElem?_eq_none_iff] at h; exact h)]; exact Nat.le_refl _
  | some b =>
    cases b with
    | false => have := count_set h; omega
    | true =>
      have : l.set j true = l := by
        apply List.ext_getElem?
        intro i
        by_cases e : j = i
        · subst e; rw [List.getElem?_set_self (List.getElem?_eq_some_iff.1 h).1, h]
        · rw [List.getElem?_set_ne e]
      rw [this]; exact Nat.le_refl _
theorem rgroup_runs {S : St} {p : Nat} {y : RLay} {ones : List One} {ps : Ps} {j : Nat} {nm : Nm} (h : Rs S p y ones ps) (hj : j < ones.length) (hps : ∀ q ∈ ps, q.1 < ones.length ∧ q.2.1 < ones.length) (hs : ones.length ≤ 16) (hpl : ps.length ≤ 60) (hn : S.n ≤ 800000000) :
    Runs X1 33 [.ptr p 0, .int .i64 ((j : Nat) : Int), .str nm] S fun r U => ∃ bs : List Bool, bs.length = ones.length ∧ Rd U r 1 (bs.map boolV) bs.length ∧ (∀ i, bs[i]? = some true ↔ (i < ones.length ∧ Conn ps nm j i)) ∧ Sok U ∧ S.n ≤ U.n ∧ U.n ≤ S.n + 2000 ∧ (∀ c, c < S.n → U.h.get c = S.h.get c) := by
  have hl := h.a.rd.len
  refine Runs_fn (m := 63) (by kernel_rfl) Try.func33 rfl (by kernel_rfl) (by kernel_rfl) ?_
  repeat (
    first
      | refine W_seq ?_
      | refine WO_nil ?_
      | refine V_seq ?_
      | refine W_region ?_
      | refine WO_dst rfl rfl (by kernel_rfl) (by kernel_rfl) ?_
      | refine Ev_load rfl rfl rfl h.at_ rfl h.a.rd.self ?_
      | refine Ev_len rfl rfl rfl rfl rfl hl ?_
      | refine Ev_move rfl ?_
      | refine Ev_assign rfl ?_
      | refine Ev_nilCheck rfl ?_
      | refine Ev_fieldAddr rfl rfl rfl rfl rfl rfl ?_)
  refine Ev_makeSlice (m := ones.length) (c := ones.length) rfl rfl rfl rfl rfl (Nat.le_refl _) (by dsimp only; omega) (by omega) rfl h.ok (by omega) ?_
  intro S1 n1 ok1 q1 f1
  have q1 : S1.h.get S.n = some (.cells 4 ((List.replicate ones.length false).map boolV) false) := by rw [← rep_bool]; exact q1
  repeat (
    first
      | refine W_seq ?_
      | refine WO_nil ?_
      | refine V_seq ?_
      | refine W_region ?_
      | refine WO_dst rfl rfl (by kernel_rfl) (by kernel_rfl) ?_
      | refine WO_no rfl rfl ?_
      | refine Ev_move rfl ?_
      | refine Ev_assign rfl ?_
      | refine Ev_indexAddr rfl rfl rfl rfl rfl (by first | omega | (dsimp only; done) | (dsimp only; omega)) ?_)
  refine Ev_store rfl rfl rfl rfl rfl q1 (by show 0 + j * 1 + 1 ≤ _; rw [List.length_map, List.length_replicate]; omega) (by omega) ?_
  intro S2 n2 q2 f2
  have ok2 : Sok S2 := by
    intro c x hx
    by_cases hc : c = S.n
    · omega
    · rw [f2 c hc] at hx; rw [n2]; exact ok1 c x hx
  have q2 : S2.h.get S.n = some (.cells 4 (((List.replicate ones.length false).set j true).map boolV) false) := by
    have e := lput_setb (List.replicate ones.length false) j true (by simp; omega)
    rw [q2]; congr 2
    rw [← e, Nat.zero_add, Nat.mul_one]; rfl
  have hcnt : ((List.replicate ones.length false).set j true).count false ≤ ones.length := by
    have := count_le (l := List.replicate ones.length false) j
    rw [List.count_replicate_self] at this
    exact this
  repeat (
    first
      | refine W_seq ?_
      | refine WO_nil ?_
      | refine V_seq ?_
      | refine W_region ?_
      | refine W_block ?_
      | refine WO_dst rfl rfl (by kernel_rfl) (by kernel_rfl) ?_
      | refine Ev_assign rfl ?_)
  refine W_inv (fun a : List Bool × Bool × Nat => [(8, .bool a.2.1), (7, .slice S.n 0 ones.length (.ex ones.length)), (2, .str nm), (0, .ptr p 0)])
    (fun a T => a.1.length = ones.length ∧ T.h.get S.n = some (.cells 4 (a.1.map boolV) false) ∧ Sok T ∧ S.n < T.n ∧ T.n ≤ S.n + 1 + ps.length * a.2.2 ∧ a.2.2 + (2 * a.1.count false + (if a.2.1 = true then 1 else 0)) ≤ 2 * ones.length + 1 ∧ (∀ c, c < S.n → T.h.get c = S.h.get c) ∧ a.1[j]? = some true ∧ (∀ i, a.1[i]? = some true → Conn ps nm j i) ∧ (a.2.1 = false → ∀ q ∈ ps, q.2.2 = nm → a.1[q.1]? = a.1[q.2.1]?))
    (fun a => 2 * a.1.count false + (if a.2.1 = true then 1 else 0)) ?_ ((List.replicate ones.length false).set j true, true, 0)
    ⟨by simp, q2, ok2, by omega, by dsimp only; omega, by dsimp only; rw [if_pos rfl]; omega, fun c hc => by rw [f2 c (by omega), f1 c hc], ?_, fun i hi => ?_, fun e => (by cases e)⟩ ⟨rfl, rfl, rfl, rfl, trivial⟩
  rotate_left
  · dsimp only; rw [List.getElem?_set_self (by simp; omega)]
  · dsimp only at hi
    by_cases e : j = i
    · subst e; exact .refl
    · rw [List.getElem?_set_ne e, List.getElem?_replicate] at hi
      split at hi <;> cases hi
  rintro ⟨bs, more, r⟩ T ⟨g1, g2, g3, g4, g5, g6, g7, g8, g9, g10⟩ back
  dsimp only at g1 g2 g5 g6 g8 g9 g10 back
  have hr : ps.length * r ≤ 60 * 33 := Nat.mul_le_mul hpl (by omega)
  cases more with
  | false =>
    repeat (
      first
        | refine W_seq ?_
        | refine WO_nil ?_
        | refine V_seq ?_
        | refine W_region ?_
        | refine W_ret ?_
        | refine W_exit ?_
        | refine V_block_x rfl ?_
        | refine V_seq_x ?_
        | refine V_loop_x ?_
        | refine W_cond_f rfl ?_
        | refine WO_dst rfl rfl (by kernel_rfl) (by kernel_rfl) ?_
        | refine Ev_move rfl ?_
        | refine Ev_assign rfl ?_)
    refine V_done rfl rfl ?_
    have hrd : Rd T (.slice S.n 0 ones.length (.ex ones.length)) 1 (bs.map boolV) bs.length := by
      rw [g1]
      exact Rd_lit g2 (by rw [List.length_map, g1]; omega) (by show Nat.ble ones.length ones.length = true; rw [nble]; simp)
    refine ⟨bs, g1, hrd, fun i => ⟨fun hi => ⟨?_, g9 i hi⟩, fun hi => closed_conn (g10 rfl) g8 hi.2⟩, g3, by omega, by omega, g7⟩
    rw [← g1]; exact (List.getElem?_eq_some_iff.1 hi).1
  | true =>
    have hT : Rs T p y ones ps := h.far g3 g7 y.tg (fun _ _ => rfl)
    have hpl2 := hT.pc.rd.len
    repeat (
      first
        | refine W_seq ?_
        | refine WO_nil ?_
        | refine V_seq ?_
        | refine W_region ?_
        | refine W_skip ?_
        | refine W_block ?_
        | refine W_cond_t rfl ?_
        | refine WO_dst rfl rfl (by kernel_rfl) (by kernel_rfl) ?_
        | refine Ev_move rfl ?_
        | refine Ev_assign rfl ?_)
    refine W_inv (fun a : Nat × List Bool × Bool => [(9, .int .i64 ((a.1 : Nat) : Int)), (8, .bool a.2.2), (7, .slice S.n 0 ones.length (.ex ones.length)), (2, .str nm), (0, .ptr p 0)])
      (fun a U => a.1 ≤ ps.length ∧ a.2.1.length = ones.length ∧ U.h.get S.n = some (.cells 4 (a.2.1.map boolV) false) ∧ Sok U ∧ T.n ≤ U.n ∧ U.n ≤ T.n + a.1 ∧ (∀ c, c < S.n → U.h.get c = S.h.get c) ∧ a.2.1[j]? = some true ∧ (∀ i, a.2.1[i]? = some true → Conn ps nm j i) ∧ a.2.1.count false ≤ bs.count false ∧ (a.2.2 = true → a.2.1.count false < bs.count false) ∧ (a.2.2 = false → a.2.1 = bs ∧ ∀ i, i < a.1 → ∀ q, ps[i]? = some q → q.2.2 = nm → bs[q.1]? = bs[q.2.1]?))
      (fun a => ps.length - a.1) ?_ (0, bs, false) ⟨Nat.zero_le _, g1, g2, g3, Nat.le_refl _, by dsimp only; omega, g7, g8, g9, Nat.le_refl _, fun e => (by cases e), fun _ => ⟨rfl, fun i hi => by dsimp only at hi; omega⟩⟩ ⟨rfl, rfl, rfl, rfl, rfl, trivial⟩
    rintro ⟨k, cs, m⟩ U ⟨k1, k2, k3, k4, k5, k6, k7, k8, k9, k10, k11, k12⟩ back2
    dsimp only at k1 k2 k3 k6 k8 k9 k10 k11 k12 back2
    have hU : Rs U p y ones ps := h.far k4 k7 y.tg (fun _ _ => rfl)
    repeat' (
      first
        | refine W_seq ?_
        | refine WO_nil ?_
        | refine V_seq ?_
        | refine W_region ?_
        | refine W_skip ?_
        | refine W_block ?_
        | refine W_exit ?_
        | refine V_block ?_
        | refine V_block_x rfl ?_
        | refine V_seq_x ?_
        | refine V_loop_x ?_
        | refine WO_dst rfl rfl (by kernel_rfl) (by kernel_rfl) ?_
        | refine Ev_load rfl rfl rfl hU.at_ rfl hU.pc.rd.self ?_
        | refine Ev_len rfl rfl rfl rfl rfl hpl2 ?_
        | refine Ev_move rfl ?_
        | refine Ev_lssN rfl rfl ?_
        | refine Ev_nilCheck rfl ?_
        | refine Ev_fieldAddr rfl rfl rfl rfl rfl rfl ?_
        | (refine W_cond rfl (fun hc => ?_) (fun hc => ?_) <;> (try dsimp only at hc) <;> try (exfalso; first | omega | exact hc rfl)))
    · have hlt : k < ps.length := by assumption
      obtain ⟨q, hq⟩ : ∃ q, ps[k]? = some q := ⟨_, List.getElem?_eq_getElem hlt⟩
      have hqm := List.mem_of_getElem? hq
      obtain ⟨b1, b2⟩ := hps q hqm
      obtain ⟨fa1, fa2⟩ := flat_at (f := pcC) (sz := 3) (fun _ => rfl) ps k q hq
      refine Ev_indexAddr_rd (i := k) rfl rfl rfl rfl rfl hU.pc.rd hlt ?_
      intro a1 ha1
      repeat (
        refine WO_dst rfl rfl (by kernel_rfl) (by kernel_rfl) ?_)
      refine Ev_load_pt_agg (ds := pcC q) rfl rfl rfl ha1 fa2 fa1 (by simp [veqs, veq_int, veq_str]) ?_
      repeat (
        refine WO_dst rfl rfl (by kernel_rfl) (by kernel_rfl) ?_)
      refine Ev_alloc_ rfl k4 (by omega) ?_
      intro U1 un1 uok1 uq1 uf1
      repeat (
        refine WO_no rfl rfl ?_)
      refine Ev_store rfl rfl rfl rfl rfl uq1 (by show 0 + 3 ≤ 3; decide) (by omega) ?_
      intro U2 un2 uq2 uf2
      have uok2 : Sok U2 := sok_upd uok1 (by omega) un2 uq2 uf2
      have uq2 : U2.h.get U.n = some (.cells 93 (pcC q) false) := uq2
      have u3 : U2.h.get S.n = some (.cells 4 (cs.map boolV) false) := by rw [uf2 _ (by omega), uf1 _ (by omega)]; exact k3
      have u7 : ∀ c, c < S.n → U2.h.get c = S.h.get c := fun c hc => by rw [uf2 c (by omega), uf1 c (by omega), k7 c hc]
      obtain ⟨xa, hxa⟩ : ∃ x, cs[q.1]? = some x := ⟨_, List.getElem?_eq_getElem (by omega)⟩
      obtain ⟨xb, hxb⟩ : ∃ x, cs[q.2.1]? = some x := ⟨_, List.getElem?_eq_getElem (by omega)⟩
      repeat (
        first
          | refine W_seq ?_
          | refine WO_nil ?_
          | refine V_seq ?_)
      refine W_drawn (by kernel_rfl) ?_
      have hga : (cs.map boolV)[0 + q.1 * 1]? = some (.bool xa) := by rw [Nat.zero_add]; exact bool_get hxa
      have hgb : (cs.map boolV)[0 + q.2.1 * 1]? = some (.bool xb) := by rw [Nat.zero_add]; exact bool_get hxb
      repeat (
        first
          | refine WO_dst rfl rfl (by kernel_rfl) (by kernel_rfl) ?_
          | refine Ev_load rfl rfl rfl uq2 rfl (veq_str _) ?_
          | refine Ev_move rfl ?_
          | refine Ev_seql rfl rfl ?_
          | refine Ev_fieldAddr rfl rfl rfl rfl rfl rfl ?_)
      by_cases hnm : q.2.2 = nm
      · rw [decide_eq_true hnm]
        repeat (
          first
            | refine WO_dst rfl rfl (by kernel_rfl) (by kernel_rfl) ?_
            | refine WO_guard_t rfl rfl rfl rfl rfl (by kernel_rfl) (by kernel_rfl) ?_
            | refine Ev_load rfl rfl rfl uq2 rfl (veq_int _ _) ?_
            | refine Ev_move rfl ?_
            | refine Ev_fieldAddr rfl rfl rfl rfl rfl rfl ?_
            | refine Ev_indexAddr rfl rfl rfl rfl rfl (by first | omega | (dsimp only; done) | (dsimp only; omega)) ?_)
        refine Ev_load rfl rfl rfl u3 hga (veq_bool _) ?_
        repeat (
          first
            | refine WO_dst rfl rfl (by kernel_rfl) (by kernel_rfl) ?_
            | refine WO_guard_t rfl rfl rfl rfl rfl (by kernel_rfl) (by kernel_rfl) ?_
            | refine Ev_load rfl rfl rfl uq2 rfl (veq_int _ _) ?_
            | refine Ev_move rfl ?_
            | refine Ev_fieldAddr rfl rfl rfl rfl rfl rfl ?_
            | refine Ev_indexAddr rfl rfl rfl rfl rfl (by first | omega | (dsimp only; done) | (dsimp only; omega)) ?_)
        refine Ev_load rfl rfl rfl u3 hgb (veq_bool _) ?_
        repeat (
          first
            | refine WO_dst rfl rfl (by kernel_rfl) (by kernel_rfl) ?_
            | refine WO_guard_t rfl rfl rfl rfl rfl (by kernel_rfl) (by kernel_rfl) ?_)
        refine Ev_bneq rfl rfl rfl rfl ?_
        by_cases hx : xa = xb
        · rw [show (!(xa == xb)) = false by rw [hx]; simp]
          repeat (
            first
              | refine WO_nil ?_
              | refine V_seq ?_
              | refine W_region ?_
              | refine W_skip ?_
              | refine V_block ?_
              | refine W_cond_f rfl ?_
              | refine WO_dst rfl rfl (by kernel_rfl) (by kernel_rfl) ?_
              | refine Ev_move rfl ?_
              | refine Ev_assign rfl ?_
              | refine Ev_pick_t rfl rfl rfl ?_
              | refine Ev_addN rfl rfl (by simp only [lim]; omega) ?_)
          refine back2 (k + 1, cs, m) U2 _ (by dsimp only; omega) ⟨by dsimp only; omega, k2, u3, uok2, by omega, by dsimp only; omega, u7, k8, k9, k10, k11, fun e => ⟨(k12 e).1, fun i hi q' hq' hn' => ?_⟩⟩ ⟨rfl, rfl, rfl, rfl, rfl, trivial⟩
          dsimp only at hi
          by_cases hik : i = k
          · subst hik
            rw [hq] at hq'; cases hq'
            rw [← (k12 e).1, hxa, hxb, hx]
          · exact (k12 e).2 i (by omega) q' hq' hn'
        · rw [show (!(xa == xb)) = true by simp [hx]]
          repeat (
            first
              | refine W_seq ?_
              | refine WO_nil ?_
              | refine V_seq ?_
              | refine W_region ?_
              | refine W_cond_t rfl ?_
              | refine WO_dst rfl rfl (by kernel_rfl) (by kernel_rfl) ?_
              | refine WO_no rfl rfl ?_
              | refine Ev_load rfl rfl rfl uq2 rfl (veq_int _ _) ?_
              | refine Ev_move rfl ?_
              | refine Ev_pick_t rfl rfl rfl ?_
              | refine Ev_fieldAddr rfl rfl rfl rfl rfl rfl ?_
              | refine Ev_indexAddr rfl rfl rfl rfl rfl (by first | omega | (dsimp only; done) | (dsimp only; omega)) ?_)
          refine Ev_store rfl rfl rfl rfl rfl u3 (by show 0 + q.1 * 1 + 1 ≤ _; rw [List.length_map]; omega) (by omega) ?_
          intro U3 un3 uq3 uf3
          have uq3 : U3.h.get S.n = some (.cells 4 ((cs.set q.1 true).map boolV) false) := by
            have e := lput_setb cs q.1 true (by omega)
            rw [uq3]; congr 2
            rw [← e, Nat.zero_add, Nat.mul_one]; rfl
          have uok3 : Sok U3 := sok_upd uok2 (by omega) un3 uq3 uf3
          have uq2' : U3.h.get U.n = some (.cells 93 (pcC q) false) := by rw [uf3 _ (by omega)]; exact uq2
          repeat (
            first
              | refine W_seq ?_
              | refine WO_nil ?_
              | refine V_seq ?_
              | refine W_region ?_
              | refine WO_dst rfl rfl (by kernel_rfl) (by kernel_rfl) ?_
              | refine WO_no rfl rfl ?_
              | refine Ev_load rfl rfl rfl uq2' rfl (veq_int _ _) ?_
              | refine Ev_move rfl ?_
              | refine Ev_fieldAddr rfl rfl rfl rfl rfl rfl ?_
              | refine Ev_indexAddr rfl rfl rfl rfl rfl (by first | omega | (dsimp only; done) | (dsimp only; omega)) ?_)
          refine Ev_store rfl rfl rfl rfl rfl uq3 (by show 0 + q.2.1 * 1 + 1 ≤ _; rw [List.length_map, List.length_set]; omega) (by omega) ?_
          intro U4 un4 uq4 uf4
          have uq4 : U4.h.get S.n = some (.cells 4 (((cs.set q.1 true).set q.2.1 true).map boolV) false) := by
            have e := lput_setb (cs.set q.1 true) q.2.1 true (by rw [List.length_set]; omega)
            rw [uq4]; congr 2
            rw [← e, Nat.zero_add, Nat.mul_one]; rfl
          have uok4 : Sok U4 := sok_upd uok3 (by omega) un4 uq4 uf4
          have hcc : ((cs.set q.1 true).set q.2.1 true).count false < cs.count false := by
            have c1 := count_le (l := cs.set q.1 true) q.2.1
            cases xa with
            | false => have := count_set hxa; omega
            | true =>
              cases xb with
              | true => exact absurd rfl hx
              | false =>
                have hxb' : (cs.set q.1 true)[q.2.1]? = some false := by rw [List.getElem?_set_ne (fun e => by rw [e, hxb] at hxa; cases hxa)]; exact hxb
                have := count_set hxb'
                have := count_le (l := cs) q.1
                omega
          have hmem : (q.1, q.2.1, nm) ∈ ps := by rw [← hnm]; exact hqm
          have hca : Conn ps nm j q.1 ∧ Conn ps nm j q.2.1 := by
            cases xa with
            | true => have := k9 _ hxa; exact ⟨this, this.trans (Conn.one (.inl hmem))⟩
            | false =>
              cases xb with
              | true => have := k9 _ hxb; exact ⟨this.trans (Conn.one (.inr hmem)), this⟩
              | false => exact absurd rfl hx
          repeat (
            first
              | refine WO_nil ?_
              | refine V_seq ?_
              | refine W_region ?_
              | refine V_block ?_
              | refine WO_dst rfl rfl (by kernel_rfl) (by kernel_rfl) ?_
              | refine Ev_move rfl ?_
              | refine Ev_assign rfl ?_
              | refine Ev_addN rfl rfl (by simp only [lim]; omega) ?_)
          refine back2 (k + 1, (cs.set q.1 true).set q.2.1 true, true) U4 _ (by dsimp only; omega) ⟨by dsimp only; omega, by simp [k2], uq4, uok4, by omega, by dsimp only; omega, fun c hc => by rw [uf4 c (by omega), uf3 c (by omega), u7 c hc], ?_, fun i hi => ?_, by dsimp only; omega, fun _ => by dsimp only; omega, fun e => (by cases e)⟩ ⟨rfl, rfl, rfl, rfl, rfl, trivial⟩
          · dsimp only
            by_cases e1 : q.2.1 = j
            · rw [← e1, List.getElem?_set_self (by rw [List.length_set]; omega)]
            · rw [List.getElem?_set_ne e1]
              by_cases e2 : q.1 = j
              · rw [← e2, List.getElem?_set_self (by omega)]
              · rw [List.getElem?_set_ne e2]; exact k8
          · dsimp only at hi
            by_cases e1 : q.2.1 = i
            · rw [← e1]; exact hca.2
            · rw [List.getElem?_set_ne e1] at hi
              by_cases e2 : q.1 = i
              · rw [← e2]; exact hca.1
              · rw [List.getElem?_set_ne e2] at hi
                exact k9 i hi
      · rw [decide_eq_false hnm]
        repeat (
          first
            | refine WO_nil ?_
            | refine V_seq ?_
            | refine W_region ?_
            | refine W_skip ?_
            | refine V_block ?_
            | refine W_cond_f rfl ?_
            | refine WO_dst rfl rfl (by kernel_rfl) (by kernel_rfl) ?_
            | refine WO_guard_f rfl rfl rfl rfl rfl rfl (by kernel_rfl) (by kernel_rfl) ?_
            | refine Ev_move rfl ?_
            | refine Ev_assign rfl ?_
            | refine Ev_pick_f rfl rfl rfl ?_
            | refine Ev_addN rfl rfl (by simp only [lim]; omega) ?_)
        refine back2 (k + 1, cs, m) U2 _ (by dsimp only; omega) ⟨by dsimp only; omega, k2, u3, uok2, by omega, by dsimp only; omega, u7, k8, k9, k10, k11, fun e => ⟨(k12 e).1, fun i hi q' hq' hn' => ?_⟩⟩ ⟨rfl, rfl, rfl, rfl, rfl, trivial⟩
        dsimp only at hi
        by_cases hik : i = k
        · subst hik
          rw [hq] at hq'; cases hq'
          exact absurd hn' hnm
        · exact (k12 e).2 i (by omega) q' hq' hn'
    · have hk : k = ps.length := by omega
      refine back (cs, m, r + 1) U _ ?_ ⟨k2, k3, k4, by omega, ?_, ?_, k7, k8, k9, fun e q hq hn' => ?_⟩ ⟨rfl, rfl, rfl, rfl, trivial⟩
      · dsimp only
        rw [if_pos rfl]
        cases m with
        | true => have := k11 rfl; rw [if_pos rfl]; omega
        | false => rw [if_neg (by decide)]; omega
      · dsimp only
        rw [Nat.mul_succ]; omega
      · dsimp only
        rw [if_pos rfl] at g6
        cases m with
        | true => have := k11 rfl; rw [if_pos rfl]; omega
        | false => rw [if_neg (by decide)]; omega
      · dsimp only at e ⊢
        obtain ⟨e1, e2⟩ := k12 e
        obtain ⟨i, hi⟩ := List.mem_iff_getElem?.1 hq
        rw [e1]
        exact e2 i (by rw [hk]; exact (List.getElem?_eq_some_iff.1 hi).1) q hi hn'
/-- id -/
theorem rid_runs {S : St} {p : Nat} {y : RLay} {ones : List One} {ps : Ps} {bs : List Bool} {v : AV} {nm : Nm} (h : Rs S p y ones ps) (hv : Rd S v 1 (bs.map boolV) bs.length) (hbl : bs.length = ones.length) (hs : ones.length ≤ 100) (hl : ∀ o ∈ ones, o.ldd.length ≤ 1000000) (hn : S.n ≤ 900000000) :
    Runs X1 32 [.ptr p 0, v, .str nm] S fun r U => ∃ w, r = .int .i64 w ∧ ((w = -1 ∧ ∀ i : Nat, bs[i]? = some true → hasN ones ((i : Nat) : Int) nm = none) ∨ ∃ (i : Nat) (x : Int × Int), bs[i]? = some true ∧ hasN ones ((i : Nat) : Int) nm = some x ∧ w = x.1) ∧ Sok U ∧ S.n ≤ U.n ∧ U.n ≤ S.n + 400 ∧ (∀ c, c < S.n → U.h.get c = S.h.get c) := by
  refine Runs_fn (m := 32) (by kernel_rfl) Try.func32 rfl (by kernel_rfl) (by kernel_rfl) ?_
  repeat (
    first
      | refine W_seq ?_
      | refine WO_nil ?_
      | refine V_seq ?_
      | refine W_region ?_
      | refine W_block ?_
      | refine WO_dst rfl rfl (by kernel_rfl) (by kernel_rfl) ?_
      | refine Ev_assign rfl ?_)
  refine W_inv (fun i : Nat => [(7, .int .i64 ((i : Nat) : Int)), (2, .str nm), (1, v), (0, .ptr p 0)]) (fun i T => i ≤ bs.length ∧ Sok T ∧ S.n ≤ T.n ∧ T.n ≤ S.n + 3 * i ∧ (∀ c, c < S.n → T.h.get c = S.h.get c) ∧ ∀ k : Nat, k < i → bs[k]? = some true → hasN ones ((k : Nat) : Int) nm = none) (fun i => bs.length - i) ?_ 0 ⟨Nat.zero_le _, h.ok, Nat.le_refl _, by omega, fun _ _ => rfl, fun k hk => by omega⟩ ⟨rfl, rfl, rfl, rfl, trivial⟩
  rintro i T ⟨g1, g2, g3, g4, g5, g6⟩ back
  have hT : Rs T p y ones ps := h.far g2 g5 y.tg (fun _ _ => rfl)
  have hvT : Rd T v 1 (bs.map boolV) bs.length := hv.keep (fun c hc => g5 c (hv.lt h.ok hc))
  repeat' (
    first
      | refine W_seq ?_
      | refine WO_nil ?_
      | refine V_seq ?_
      | refine W_region ?_
      | refine W_skip ?_
      | refine W_block ?_
      | refine W_ret ?_
      | refine W_exit ?_
      | refine V_block_x rfl ?_
      | refine V_seq_x ?_
      | refine V_loop_x ?_
      | refine WO_dst rfl rfl (by kernel_rfl) (by kernel_rfl) ?_
      | refine Ev_len rfl rfl rfl rfl rfl hvT.len ?_
      | refine Ev_move rfl ?_
      | refine Ev_assign rfl ?_
      | refine Ev_lssN rfl rfl ?_
      | (refine W_cond rfl (fun hc => ?_) (fun hc => ?_) <;> (try dsimp only at hc) <;> try (exfalso; first | omega | exact hc rfl)))
  · have hlt : i < bs.length := by assumption
    refine Ev_call rfl rfl ((has_runs (n := ((i : Nat) : Int)) (nm := nm) hT hl (by omega)).mono ?_)
    rintro _ S1 - ⟨rfl, ok1, le1, n1, f1⟩
    obtain ⟨a, c, w, hg, hc⟩ : ∃ a c w, fdnV nm (hasN ones ((i : Nat) : Int) nm) = .agg [.str a, .int .i64 c, .int .i64 w] ∧ c = ((hasN ones ((i : Nat) : Int) nm).getD (0, 0)).1 := by
      cases hasN ones ((i : Nat) : Int) nm with
      | none => exact ⟨[], 0, 0, rfl, rfl⟩
      | some x => exact ⟨nm, x.1, x.2, rfl, rfl⟩
    rw [hg]
    repeat (
      first
        | refine WO_dst rfl rfl (by kernel_rfl) (by kernel_rfl) ?_
        | refine Ev_move rfl ?_
        | refine Ev_extract rfl rfl ?_)
    refine Ev_alloc_ rfl ok1 (by omega) ?_
    intro S2 n2 ok2 q2 f2
    repeat (
      refine WO_no rfl rfl ?_)
    refine Ev_store rfl rfl rfl rfl rfl q2 (by show 0 + 3 ≤ 3; decide) (by omega) ?_
    intro S3 n3 q3 f3
    have q3 : S3.h.get S1.n = some (.cells 95 [.str a, .int .i64 c, .int .i64 w] false) := q3
    have ok3 : Sok S3 := sok_upd ok2 (by omega) n3 q3 f3
    have f03 : ∀ c, c < S.n → S3.h.get c = S.h.get c := fun c hc => by rw [f3 c (by omega), f2 c (by omega), f1 c (by omega), g5 c hc]
    have hv3 : Rd S3 v 1 (bs.map boolV) bs.length := hv.keep (fun c hc => f03 c (hv.lt h.ok hc))
    obtain ⟨b, hb⟩ : ∃ b, bs[i]? = some b := ⟨_, List.getElem?_eq_getElem hlt⟩
    repeat (
      first
        | refine W_seq ?_
        | refine WO_nil ?_
        | refine V_seq ?_
        | refine W_region ?_
        | refine WO_dst rfl rfl (by kernel_rfl) (by kernel_rfl) ?_
        | refine Ev_move rfl ?_
        | refine Ev_assign rfl ?_)
    refine Ev_indexAddr_rd (i := i) rfl rfl rfl rfl rfl hv3 hlt ?_
    intro q hq
    repeat (
      refine WO_dst rfl rfl (by kernel_rfl) (by kernel_rfl) ?_)
    refine Ev_load_pt rfl rfl rfl hq (bool_get hb) (veq_bool _) ?_
    cases b with
    | true =>
      repeat (
        first
          | refine WO_nil ?_
          | refine V_seq ?_
          | refine WO_dst rfl rfl (by kernel_rfl) (by kernel_rfl) ?_
          | refine WO_guard_t rfl rfl rfl rfl rfl (by kernel_rfl) (by kernel_rfl) ?_
          | refine Ev_move rfl ?_
          | refine Ev_pick_t rfl rfl rfl ?_)
      cases hh : hasN ones ((i : Nat) : Int) nm with
      | some x =>
        repeat (
          first
            | refine W_seq ?_
            | refine WO_nil ?_
            | refine V_seq ?_
            | refine W_region ?_
            | refine W_ret ?_
            | refine V_ret ?_
            | refine W_cond_t rfl ?_
            | refine WO_dst rfl rfl (by kernel_rfl) (by kernel_rfl) ?_
            | refine Ev_load rfl rfl rfl q3 rfl (veq_int _ _) ?_
            | refine Ev_assign rfl ?_
            | refine Ev_fieldAddr rfl rfl rfl rfl rfl rfl ?_)
        refine V_done rfl rfl ?_
        refine ⟨c, rfl, .inr ⟨i, x, hb, hh, ?_⟩, ok3, by omega, by omega, f03⟩
        rw [hc, hh]; rfl
      | none =>
        repeat (
          first
            | refine WO_nil ?_
            | refine V_seq ?_
            | refine W_region ?_
            | refine W_skip ?_
            | refine V_block ?_
            | refine W_cond_f rfl ?_
            | refine WO_dst rfl rfl (by kernel_rfl) (by kernel_rfl) ?_
            | refine Ev_move rfl ?_
            | refine Ev_assign rfl ?_
            | refine Ev_addN rfl rfl (by simp only [lim]; omega) ?_)
        refine back (i + 1) S3 _ (by omega) ⟨hlt, ok3, by omega, by omega, f03, fun k hk hbk => ?_⟩ ⟨rfl, rfl, rfl, rfl, trivial⟩
        by_cases hki : k = i
        · rw [hki]; exact hh
        · exact g6 k (by omega) hbk
    | false =>
      repeat (
        first
          | refine WO_nil ?_
          | refine V_seq ?_
          | refine W_region ?_
          | refine W_skip ?_
          | refine V_block ?_
          | refine W_cond_f rfl ?_
          | refine WO_dst rfl rfl (by kernel_rfl) (by kernel_rfl) ?_
          | refine WO_guard_f rfl rfl rfl rfl rfl rfl (by kernel_rfl) (by kernel_rfl) ?_
          | refine Ev_move rfl ?_
          | refine Ev_assign rfl ?_
          | refine Ev_pick_f rfl rfl rfl ?_
          | refine Ev_addN rfl rfl (by simp only [lim]; omega) ?_)
      refine back (i + 1) S3 _ (by omega) ⟨hlt, ok3, by omega, by omega, f03, fun k hk hbk => ?_⟩ ⟨rfl, rfl, rfl, rfl, trivial⟩
      by_cases hki : k = i
      · rw [hki, hb] at hbk; cases hbk
      · exact g6 k (by omega) hbk
  · have hi : i = bs.length := by omega
    refine V_done rfl rfl ?_
    exact ⟨-1, rfl, .inl ⟨rfl, fun k hk => g6 k (by rw [hi]; exact (List.getElem?_eq_some_iff.1 hk).1) hk⟩, g2, by omega, by omega, g5⟩
theorem hasN_bare {ones : List One} {i : Nat} {nm : Nm} : hasN ones ((i : Nat) : Int) nm = hasS (bare ones) ((i : Nat) : Int) nm := by
  unfold hasN hasS
  rw [Int.toNat_natCast]
  by_cases h : isN ones ((i : Nat) : Int)
  · rw [if_pos h]; rfl
  · rw [if_neg h]
    have : ones.length ≤ i := by unfold isN at h; omega
    show none = match ones[i]? with | some o => alook nm o.ldd | none => none
    rw [List.getElem?_eq_none this]
theorem gidO_of {ones : List One} {ps : Ps} {nm : Nm} {j : Nat} {bs : List Bool} (hb : ∀ i, bs[i]? = some true ↔ (i < ones.length ∧ Conn ps nm j i)) {w : Int} (h : (w = -1 ∧ ∀ i : Nat, bs[i]? = some true → hasN ones ((i : Nat) : Int) nm = none) ∨ ∃ (i : Nat) (x : Int × Int), bs[i]? = some true ∧ hasN ones ((i : Nat) : Int) nm = some x ∧ w = x.1) : GidO (bare ones) ps nm j w := by
  rcases h with ⟨e, h⟩ | ⟨i, x, h1, h2, h3⟩
  · exact .inl ⟨e, fun b hb' hc => by rw [← hasN_bare]; exact h b ((hb b).2 ⟨hb', hc⟩)⟩
  · exact .inr ⟨i, x, ((hb i).1 h1).2, by rw [← hasN_bare]; exact h2, h3⟩
end Go.Proofs.Ytjbpegggfacojaa
/- GX: reasoning about runs: W_drawnF where the last operations may write to the told blocks. -/


namespace GX
noncomputable section
open Go
def WZ (X : X) (n : Nat) (all : List Oper) (z : Nat) (D : List Fct) (os : List Oper) (i : Nat) (ks : List Kt) (Q : Ex → Env → St → Prop) (l : L) (S : St) : Prop :=
  ∀ e, Ag l e → ∃ f e' S', RunZ X (exec X f) n all z D os i e S e' S' ∧ QK X n ks Q .nor e' S'
section
variable {X : X} {n : Nat} {ks : List Kt} {Q : Ex → Env → St → Prop} {l : L} {S : St} {z : Nat} {D : List Fct} {all os : List Oper} {o : Oper} {i : Nat}
theorem W_drawnZ (z : Nat) (D : List Fct) {id : Nat} {ops : Array Oper} (hD : ∀ f ∈ D, f.src = none ∧ f.id < S.n ∧ S.h.get f.id = some f.x) (hs : seqB X n ops.toList = true) (h : WZ X n ops.toList z D ops.toList 0 ks Q l S) : W X n (.region id ops true) ks Q l S := by
  unfold W
  intro e he
  obtain ⟨f, e1, S1, h1, h2⟩ := h e he
  exact ⟨f + 1, .nor, e1, S1, by show step X (exec X f) n (.region id ops true) e S = _; unfold step; exact drawn_Z hD hs h1, h2⟩
theorem WZ_nil (h : V X n .nor ks Q l S) : WZ X n all z D [] i ks Q l S := by
  unfold V at h
  exact fun e he => ⟨0, e, S, ⟨rfl, rfl⟩, h e he⟩
theorem WZ_pa {d : Nat} (hg : o.guard = none) (hd : o.dst = some d) (hn : Nat.blt d n = true) (hn' : Nat.blt n 1000001 = true) (hsk : isPA (sk X o.op) = true)
    (h : Ev X l S o.op fun v S' => WZ X n all z D os (i + 1) ks Q ((d, v) :: l) S') : WZ X n all z D (o :: os) i ks Q l S := by
  intro e he
  unfold Ev at h
  obtain ⟨f, v, S1, h1, h2, h3⟩ := h e he
  rw [nblt, decide_eq_true_eq] at hn hn'
  obtain ⟨g, e2, S2, h4, h5⟩ := h3 _ (he.put hn' hn)
  have hck := sk_ok h1
  refine ⟨max f g, e2, S2, .inl ⟨wanted_none hg, v, S1, e.put d v, [], oper_le (exec_le (Nat.le_max_left f g)) h1, ?_, h2, fun hc => ?_, fun hc _ => ?_, fun f hf => (by cases hf), by rw [List.append_nil]; exact RunZ_le (exec_le (Nat.le_max_right f g)) h4⟩, h5⟩
  · rw [hd]; unfold setDst; dsimp only; rw [nblt, decide_eq_true hn]; rfl
  · rcases hck with hq | hq
    · rw [hq] at hc; cases hc
    · rw [hq] at hc; rw [hc] at hsk; cases hsk
  · rcases hck with hq | hq
    · rw [hq] at hc; cases hc
    · rw [hq] at hc
      exfalso
      cases hs : sk X o.op <;> rw [hs] at hc hsk <;> first | (cases hc; done) | (cases hsk; done)
/-- an operation that makes a block, which is told -/
theorem WZ_al {d : Nat} (hg : o.guard = none) (hd : o.dst = some d) (hn : Nat.blt d n = true) (hn' : Nat.blt n 1000001 = true) (hcl : ∀ e, Ag l e → cls X e o.op = .alloc)
    (h : Ev X l S o.op fun v S' => ∃ x, S'.h.get S.n = some x ∧ S.n < S'.n ∧ WZ X n all z (D ++ [⟨S.n, x, some i⟩]) os (i + 1) ks Q ((d, v) :: l) S') : WZ X n all z D (o :: os) i ks Q l S := by
  intro e he
  unfold Ev at h
  obtain ⟨f, v, S1, h1, h2, x, hx, hlt, h3⟩ := h e he
  rw [nblt, decide_eq_true_eq] at hn hn'
  obtain ⟨g, e2, S2, h4, h5⟩ := h3 _ (he.put hn' hn)
  have hc0 := hcl e he
  refine ⟨max f g, e2, S2, .inl ⟨wanted_none hg, v, S1, e.put d v, [⟨S.n, x, some i⟩], oper_le (exec_le (Nat.le_max_left f g)) h1, ?_, h2, fun hc => (by rw [hc0] at hc; cases hc), fun hc _ => (by rw [hc0] at hc; cases hc), fun f hf => ?_, RunZ_le (exec_le (Nat.le_max_right f g)) h4⟩, h5⟩
  · rw [hd]; unfold setDst; dsimp only; rw [nblt, decide_eq_true hn]; rfl
  · rw [List.mem_singleton] at hf; subst hf
    exact ⟨rfl, hlt, hx, .inr ⟨hc0, rfl⟩⟩
/-- a read that is ordered with all loud operations -/
theorem WZ_rs {d : Nat} (hg : o.guard = none) (hd : o.dst = some d) (hn : Nat.blt d n = true) (hn' : Nat.blt n 1000001 = true) (hsk : isLC (sk X o.op) = false) (hst : rdStat (masks all []) (all.map (fun o => sk X o.op)) i = true)
    (h : Ev X l S o.op fun v S' => WZ X n all z D os (i + 1) ks Q ((d, v) :: l) S') : WZ X n all z D (o :: os) i ks Q l S := by
  intro e he
  unfold Ev at h
  obtain ⟨f, v, S1, h1, h2, h3⟩ := h e he
  rw [nblt, decide_eq_true_eq] at hn hn'
  obtain ⟨g, e2, S2, h4, h5⟩ := h3 _ (he.put hn' hn)
  have hck := sk_ok h1
  refine ⟨max f g, e2, S2, .inl ⟨wanted_none hg, v, S1, e.put d v, [], oper_le (exec_le (Nat.le_max_left f g)) h1, ?_, h2, fun _ => .inl hst, fun hc _ => ?_, fun f hf => (by cases hf), by rw [List.append_nil]; exact RunZ_le (exec_le (Nat.le_max_right f g)) h4⟩, h5⟩
  · rw [hd]; unfold setDst; dsimp only; rw [nblt, decide_eq_true hn]; rfl
  · rcases hck with hq | hq
    · rw [hq] at hc; cases hc
    · rw [hq, hsk] at hc; cases hc
/-- a read that looks at told blocks alone -/
theorem WZ_rf {d : Nat} {v : AV} (hzb : ZB all z i = true) (hg : o.guard = none) (hd : o.dst = some d) (hn : Nat.blt d n = true) (hn' : Nat.blt n 1000001 = true) (hS : ∀ f ∈ D, S.h.get f.id = some f.x)
    (hfp : ∀ e, Ag l e → cls X e o.op = .read ∧ FPD X D (masks all []) i e o.op v) (hvv : veq v v = true) (h : WZ X n all z D os (i + 1) ks Q ((d, v) :: l) S) : WZ X n all z D (o :: os) i ks Q l S := by
  intro e he
  obtain ⟨hc, hf⟩ := hfp e he
  rw [nblt, decide_eq_true_eq] at hn hn'
  obtain ⟨g, e2, S2, h4, h5⟩ := h _ (he.put hn' hn)
  refine ⟨g, e2, S2, .inl ⟨wanted_none hg, v, S, e.put d v, [], ?_, ?_, by rw [hc]; exact hvv, fun _ => .inr ⟨hzb, hf⟩, fun hl _ => (by rw [hc] at hl; cases hl), fun f hf => (by cases hf), by rw [List.append_nil]; exact h4⟩, h5⟩
  · unfold oper; rw [hc]; dsimp only; rw [hf S.h (fun f h1 _ => hS f h1)]
  · rw [hd]; unfold setDst; dsimp only; rw [nblt, decide_eq_true hn]; rfl
/-- a loud operation, or a call, that leaves the told blocks alone, and may tell more -/
theorem WZ_ld {d : Nat} (hg : o.guard = none) (hd : o.dst = some d) (hn : Nat.blt d n = true) (hn' : Nat.blt n 1000001 = true) (hcl : ∀ e, Ag l e → isLC (cls X e o.op) = true)
    (h : Ev X l S o.op fun v S' => (Nat.blt i z = true → ∀ f ∈ D, S'.h.get f.id = some f.x) ∧ ∃ N : List Fct, (∀ f ∈ N, f.src = some i ∧ f.id < S'.n ∧ S'.h.get f.id = some f.x) ∧ WZ X n all z (D ++ N) os (i + 1) ks Q ((d, v) :: l) S') : WZ X n all z D (o :: os) i ks Q l S := by
  intro e he
  unfold Ev at h
  obtain ⟨f, v, S1, h1, h2, hB, N, hN, h3⟩ := h e he
  rw [nblt, decide_eq_true_eq] at hn hn'
  obtain ⟨g, e2, S2, h4, h5⟩ := h3 _ (he.put hn' hn)
  have hc0 := hcl e he
  refine ⟨max f g, e2, S2, .inl ⟨wanted_none hg, v, S1, e.put d v, N, oper_le (exec_le (Nat.le_max_left f g)) h1, ?_, h2, fun hc => ?_, fun _ hz => hB (by rw [nblt]; exact decide_eq_true hz), fun f hf => ⟨(hN f hf).1, (hN f hf).2.1, (hN f hf).2.2, .inl hc0⟩, RunZ_le (exec_le (Nat.le_max_right f g)) h4⟩, h5⟩
  · rw [hd]; unfold setDst; dsimp only; rw [nblt, decide_eq_true hn]; rfl
  · rw [hc] at hc0; cases hc0
theorem WZ_ld0 (hg : o.guard = none) (hd : o.dst = none) (hcl : ∀ e, Ag l e → isLC (cls X e o.op) = true)
    (h : Ev X l S o.op fun _ S' => (Nat.blt i z = true → ∀ f ∈ D, S'.h.get f.id = some f.x) ∧ ∃ N : List Fct, (∀ f ∈ N, f.src = some i ∧ f.id < S'.n ∧ S'.h.get f.id = some f.x) ∧ WZ X n all z (D ++ N) os (i + 1) ks Q l S') : WZ X n all z D (o :: os) i ks Q l S := by
  intro e he
  unfold Ev at h
  obtain ⟨f, v, S1, h1, h2, hB, N, hN, h3⟩ := h e he
  obtain ⟨g, e2, S2, h4, h5⟩ := h3 _ he
  have hc0 := hcl e he
  refine ⟨max f g, e2, S2, .inl ⟨wanted_none hg, v, S1, e, N, oper_le (exec_le (Nat.le_max_left f g)) h1, ?_, h2, fun hc => ?_, fun _ hz => hB (by rw [nblt]; exact decide_eq_true hz), fun f hf => ⟨(hN f hf).1, (hN f hf).2.1, (hN f hf).2.2, .inl hc0⟩, RunZ_le (exec_le (Nat.le_max_right f g)) h4⟩, h5⟩
  · rw [hd]; rfl
  · rw [hc] at hc0; cases hc0
theorem WZ_guard {j d0 : Nat} {want : Bool} {p : Oper} {c : Bool} {d : Nat} (hg : o.guard = some (j, want)) (hp : all[j]? = some p) (hd0 : p.dst = some d0) (hl : lk l d0 = some (.bool c)) (hd : o.dst = some d) (hn : Nat.blt d n = true) (hn' : Nat.blt n 1000001 = true)
    (h1 : c = want → WZ X n all z D ({ o with guard := none } :: os) i ks Q ((d0, .bool want) :: l) S) (h2 : c = (!want) → WZ X n all z D os (i + 1) ks Q ((d, .tup []) :: (d0, .bool (!want)) :: l) S) : WZ X n all z D (o :: os) i ks Q l S := by
  intro e he
  rw [nblt, decide_eq_true_eq] at hn hn'
  have hat : e.at d0 = .bool c := he d0 _ hl
  have hag : ∀ b, c = b → Ag ((d0, .bool b) :: l) e := by
    intro b hb t v ht
    unfold lk at ht
    rw [nbeq, cond_dec] at ht
    by_cases hh : d0 = t
    · subst hh; rw [if_pos rfl] at ht; cases ht; rw [hat, hb]
    · rw [if_neg hh] at ht; exact he t v ht
  have hw : wanted all e o = (c == want) := by unfold wanted; rw [hg]; dsimp only; rw [hp]; dsimp only; rw [hd0]; dsimp only; rw [hat]
  by_cases hc : c = want
  · obtain ⟨f, e2, S2, h3, h4⟩ := h1 hc e (hag want hc)
    refine ⟨f, e2, S2, ?_, h4⟩
    have hw' : wanted all e o = true := by rw [hw, hc]; cases want <;> rfl
    unfold RunZ at h3 ⊢
    rcases h3 with ⟨_, h3⟩ | ⟨h3, _⟩
    · exact .inl ⟨hw', h3⟩
    · rw [wanted_none rfl] at h3; cases h3
  · have hc' : c = (!want) := by cases c <;> cases want <;> simp_all
    obtain ⟨f, e2, S2, h3, h4⟩ := h2 hc' _ ((hag _ hc').put hn' hn)
    refine ⟨f, e2, S2, ?_, h4⟩
    have hw' : wanted all e o = false := by rw [hw, hc']; cases want <;> rfl
    refine .inr ⟨hw', e.put d (.tup []), ?_, h3⟩
    rw [hd]; unfold setDst; dsimp only; rw [nblt, decide_eq_true hn]; rfl
theorem WZ_guard_dt {j d0 : Nat} {q : Oper} {p : Prop} [Decidable p] {d : Nat} (hg : o.guard = some (j, true)) (hp : all[j]? = some q) (hd0 : q.dst = some d0) (hl : lk l d0 = some (.bool (decide p))) (hd : o.dst = some d) (hn : Nat.blt d n = true) (hn' : Nat.blt n 1000001 = true)
    (h1 : p → WZ X n all z D ({ o with guard := none } :: os) i ks Q ((d0, .bool true) :: l) S) (h2 : ¬ p → WZ X n all z D os (i + 1) ks Q ((d, .tup []) :: (d0, .bool false) :: l) S) : WZ X n all z D (o :: os) i ks Q l S :=
  WZ_guard hg hp hd0 hl hd hn hn' (fun h => h1 (of_decide_eq_true h)) (fun h => h2 (of_decide_eq_false h))
theorem WZ_guard_df {j d0 : Nat} {q : Oper} {p : Prop} [Decidable p] {d : Nat} (hg : o.guard = some (j, false)) (hp : all[j]? = some q) (hd0 : q.dst = some d0) (hl : lk l d0 = some (.bool (decide p))) (hd : o.dst = some d) (hn : Nat.blt d n = true) (hn' : Nat.blt n 1000001 = true)
    (h1 : ¬ p → WZ X n all z D ({ o with guard := none } :: os) i ks Q ((d0, .bool false) :: l) S) (h2 : p → WZ X n all z D os (i + 1) ks Q ((d, .tup []) :: (d0, .bool true) :: l) S) : WZ X n all z D (o :: os) i ks Q l S :=
  WZ_guard hg hp hd0 hl hd hn hn' (fun h => h1 (of_decide_eq_false h)) (fun h => h2 (of_decide_eq_true h))
theorem WZ_guard_t {j d0 : Nat} {want : Bool} {p : Oper} {d : Nat} (hg : o.guard = some (j, want)) (hp : all[j]? = some p) (hd0 : p.dst = some d0) (hl : lk l d0 = some (.bool want)) (hd : o.dst = some d) (hn : Nat.blt d n = true) (hn' : Nat.blt n 1000001 = true)
    (h1 : WZ X n all z D ({ o with guard := none } :: os) i ks Q l S) : WZ X n all z D (o :: os) i ks Q l S := by
  refine WZ_guard hg hp hd0 hl hd hn hn' (fun _ => ?_) (fun h => ?_)
  · intro e he
    exact h1 e (fun t v ht => he t v (by
      unfold lk; rw [nbeq, cond_dec]
      by_cases hh : d0 = t
      · subst hh; rw [hl] at ht; cases ht; rw [if_pos rfl]
      · rw [if_neg hh]; exact ht))
  · cases want <;> cases h
theorem WZ_skip {d : Nat} (hd : o.dst = some d) (hn : Nat.blt d n = true) (hn' : Nat.blt n 1000001 = true) (hw : ∀ e, Ag l e → wanted all e o = false) (h2 : WZ X n all z D os (i + 1) ks Q ((d, .tup []) :: l) S) : WZ X n all z D (o :: os) i ks Q l S := by
  intro e he
  rw [nblt, decide_eq_true_eq] at hn hn'
  obtain ⟨f, e2, S2, h3, h4⟩ := h2 _ (he.put hn' hn)
  refine ⟨f, e2, S2, .inr ⟨hw e he, e.put d (.tup []), ?_, h3⟩, h4⟩
  rw [hd]; unfold setDst; dsimp only; rw [nblt, decide_eq_true hn]; rfl
theorem WZ_guard_f {j d0 : Nat} {want c : Bool} {p : Oper} {d : Nat} (hg : o.guard = some (j, want)) (hp : all[j]? = some p) (hd0 : p.dst = some d0) (hl : lk l d0 = some (.bool c)) (hc : (c == want) = false) (hd : o.dst = some d) (hn : Nat.blt d n = true) (hn' : Nat.blt n 1000001 = true)
    (h2 : WZ X n all z D os (i + 1) ks Q ((d, .tup []) :: l) S) : WZ X n all z D (o :: os) i ks Q l S :=
  WZ_skip hd hn hn' (fun e he => by unfold wanted; rw [hg]; dsimp only; rw [hp]; dsimp only; rw [hd0]; dsimp only; rw [he d0 _ hl]; exact hc) h2
theorem WZ_guard_x {j d0 : Nat} {want : Bool} {p : Oper} {d : Nat} (hg : o.guard = some (j, want)) (hp : all[j]? = some p) (hd0 : p.dst = some d0) (hl : lk l d0 = some (.tup [])) (hd : o.dst = some d) (hn : Nat.blt d n = true) (hn' : Nat.blt n 1000001 = true)
    (h2 : WZ X n all z D os (i + 1) ks Q ((d, .tup []) :: l) S) : WZ X n all z D (o :: os) i ks Q l S :=
  WZ_skip hd hn hn' (fun e he => by unfold wanted; rw [hg]; dsimp only; rw [hp]; dsimp only; rw [hd0]; dsimp only; rw [he d0 _ hl]) h2
end
end
end GX
/- caraferef15: Offer, Agree. (NODRAWN) -/



namespace Go.Proofs.Ytjbpegggfacojaa
open GX
set_option maxHeartbeats 32000000
set_option maxRecDepth 100000
theorem lput_one : ∀ (l : List AV) (j : Nat) (v : AV), j < l.length → lput l (0 + j * 1) [v] = l.set j v := fun l j v h => by
  rw [Nat.zero_add, Nat.mul_one, lput_cons _ _ _ _ h, lput_nil]
theorem aput_new {α : Type} {nm : Nm} (v : α) : ∀ {l : List (Nm × α)}, alook nm l = none → aput nm v l = l ++ [(nm, v)]
  | [], _ => rfl
  | p :: l, h => by
    unfold alook at h
    unfold aput
    by_cases e : nm = p.1
    · rw [if_pos e] at h; cases h
    · rw [if_neg e] at h
      rw [if_neg e, aput_new v h]; rfl
theorem pt_of {S : St} {b o ty : Nat} {cs : List AV} {sp : Bool} (h : S.h.get b = some (.cells ty cs sp)) : Pt S (.ptr b o) cs o :=
  .inl ⟨b, 0, ty, cs, sp, by rw [Nat.zero_add], h, by omega, fun i hi => by rw [Nat.zero_add]⟩
theorem isN_bare {ones : List One} {n : Int} : isL (bare ones) n ↔ isN ones n := Iff.rfl
theorem Ft.of {S U : St} {t : Nat → Nat} {k : Nat} (h1 : S.n ≤ U.n) (h2 : U.n ≤ S.n + k) (h3 : ∀ c, c < S.n → U.h.get c = S.h.get c) : Ft S U t t k := ⟨h1, h2, fun _ _ => rfl, fun c hc _ => h3 c hc⟩
theorem offS_bare {ones : List One} {j : Nat} (hj : j < ones.length) (nm : Nm) : offS (bare ones) ((j : Nat) : Int) nm = alook nm ones[j].off := by
  unfold offS; rw [Int.toNat_natCast]; show (match ones[j]? with | some o => alook nm o.off | none => none) = _; rw [List.getElem?_eq_getElem hj]
theorem Agr_runs {S : St} {p : Nat} {y : RLay} {ones : List One} {ps : Ps} {a b : Int} {nm : Nm} (h : Rs S p y ones ps) (hps : ∀ q ∈ ps, q.1 < ones.length ∧ q.2.1 < ones.length) (hs : ones.length ≤ 16) (hpl : ps.length ≤ 60) (hl : ∀ o ∈ ones, o.ldd.length ≤ 1000000) (hn : S.n ≤ 700000000) :
    Runs X1 21 [.ptr p 0, .int .i64 a, .int .i64 b, .str nm] S fun r U => ∃ e ps' y', r = .int .i64 e ∧ RAgree ps (bare ones) a b nm e ps' ∧ Rs U p y' ones ps' ∧ Ft S U y.tg y'.tg 10000 := by
  have hp := h.ok _ _ h.at_
  refine Runs_fn (m := 59) (by kernel_rfl) Try.func21 rfl (by kernel_rfl) (by kernel_rfl) ?_
  repeat (
    first
      | refine W_seq ?_
      | refine WO_nil ?_
      | refine V_seq ?_
      | refine W_region ?_
      | refine WO_dst rfl rfl (by kernel_rfl) (by kernel_rfl) ?_
      | refine Ev_move rfl ?_
      | refine Ev_assign rfl ?_)
  refine Ev_call rfl rfl ((ris_runs (n := a) h).mono ?_)
  rintro _ U0 - ⟨rfl, hU⟩
  rw [hU]
  by_cases hia : isN ones a
  rotate_left
  · rw [decide_eq_false hia]
    repeat (
      first
        | refine W_seq ?_
        | refine WO_nil ?_
        | refine V_seq ?_
        | refine W_region ?_
        | refine W_ret ?_
        | refine V_ret ?_
        | refine W_cond_t rfl ?_
        | refine WO_dst rfl rfl (by kernel_rfl) (by kernel_rfl) ?_
        | refine WO_guard_f rfl rfl rfl rfl rfl rfl (by kernel_rfl) (by kernel_rfl) ?_
        | refine Ev_move rfl ?_
        | refine Ev_assign rfl ?_
        | refine Ev_pick_t rfl rfl rfl ?_
        | refine Ev_notb rfl ?_)
    refine V_done rfl rfl ?_
    exact ⟨1, ps, y, rfl, .arg (fun hh => hia hh.1), h, .of (Nat.le_refl _) (by omega) (fun _ _ => rfl)⟩
  rw [decide_eq_true hia]
  repeat (
    first
      | refine WO_dst rfl rfl (by kernel_rfl) (by kernel_rfl) ?_
      | refine WO_guard_t rfl rfl rfl rfl rfl (by kernel_rfl) (by kernel_rfl) ?_
      | refine Ev_move rfl ?_
      | refine Ev_notb rfl ?_)
  refine Ev_call rfl rfl ((ris_runs (n := b) h).mono ?_)
  rintro _ U1 - ⟨rfl, hU1⟩
  rw [hU1]
  by_cases hib : isN ones b
  rotate_left
  · rw [decide_eq_false hib]
    repeat (
      first
        | refine W_seq ?_
        | refine WO_nil ?_
        | refine V_seq ?_
        | refine W_region ?_
        | refine W_ret ?_
        | refine V_ret ?_
        | refine W_cond_t rfl ?_
        | refine WO_dst rfl rfl (by kernel_rfl) (by kernel_rfl) ?_
        | refine WO_guard_t rfl rfl rfl rfl rfl (by kernel_rfl) (by kernel_rfl) ?_
        | refine Ev_assign rfl ?_
        | refine Ev_pick_f rfl rfl rfl ?_
        | refine Ev_notb rfl ?_)
    refine V_done rfl rfl ?_
    exact ⟨1, ps, y, rfl, .arg (fun hh => hib hh.2), h, .of (Nat.le_refl _) (by omega) (fun _ _ => rfl)⟩
  rw [decide_eq_true hib]
  obtain ⟨ja, rfl⟩ : ∃ j : Nat, a = (j : Int) := ⟨a.toNat, by unfold isN at hia; omega⟩
  obtain ⟨jb, rfl⟩ : ∃ j : Nat, b = (j : Int) := ⟨b.toNat, by unfold isN at hib; omega⟩
  have hja : ja < ones.length := by unfold isN at hia; omega
  have hjb : jb < ones.length := by unfold isN at hib; omega
  repeat (
    first
      | refine W_seq ?_
      | refine WO_nil ?_
      | refine V_seq ?_
      | refine W_region ?_
      | refine W_skip ?_
      | refine W_cond_f rfl ?_
      | refine WO_dst rfl rfl (by kernel_rfl) (by kernel_rfl) ?_
      | refine WO_guard_t rfl rfl rfl rfl rfl (by kernel_rfl) (by kernel_rfl) ?_
      | refine Ev_move rfl ?_
      | refine Ev_pick_f rfl rfl rfl ?_
      | refine Ev_notb rfl ?_)
  refine Ev_call rfl rfl ((rgroup_runs (j := ja) (nm := nm) h hja hps hs hpl (by omega)).mono ?_)
  rintro va S1 - ⟨ba, a1, a2, a3, a4, a5, a6, a7⟩
  have h1 : Rs S1 p y ones ps := h.far a4 a7 y.tg (fun _ _ => rfl)
  repeat (
    first
      | refine WO_dst rfl rfl (by kernel_rfl) (by kernel_rfl) ?_
      | refine Ev_move rfl ?_)
  refine Ev_call rfl rfl ((rid_runs (nm := nm) h1 a2 a1 (by omega) hl (by omega)).mono ?_)
  rintro _ S2 - ⟨w, rfl, b1, b2, b3, b4, b5⟩
  have g1 := gidO_of a3 b1
  have h2 : Rs S2 p y ones ps := h1.far b2 b5 y.tg (fun _ _ => rfl)
  repeat (
    first
      | refine W_seq ?_
      | refine WO_nil ?_
      | refine V_seq ?_
      | refine W_region ?_
      | refine WO_dst rfl rfl (by kernel_rfl) (by kernel_rfl) ?_
      | refine Ev_move rfl ?_
      | refine Ev_assign rfl ?_)
  refine Ev_call rfl rfl ((rgroup_runs (j := jb) (nm := nm) h2 hjb hps hs hpl (by omega)).mono ?_)
  rintro vb S3 - ⟨bb, c1, c2, c3, c4, c5, c6, c7⟩
  have h3 : Rs S3 p y ones ps := h2.far c4 c7 y.tg (fun _ _ => rfl)
  repeat (
    first
      | refine WO_dst rfl rfl (by kernel_rfl) (by kernel_rfl) ?_
      | refine Ev_move rfl ?_)
  refine Ev_call rfl rfl ((rid_runs (nm := nm) h3 c2 c1 (by omega) hl (by omega)).mono ?_)
  rintro _ S4 - ⟨w2, rfl, d1, d2, d3, d4, d5⟩
  have g2 := gidO_of c3 d1
  have f04 : ∀ c, c < S.n → S4.h.get c = S.h.get c := fun c hc => by rw [d5 c (by omega), c7 c (by omega), b5 c (by omega), a7 c hc]
  have h4 : Rs S4 p { y with tg := fun c => if c < S.n then y.tg c else 5 } ones ps := h.far d2 f04 _ (fun c hc => if_pos hc)
  repeat' (
    first
      | refine W_seq ?_
      | refine WO_nil ?_
      | refine V_seq ?_
      | refine W_region ?_
      | refine W_skip ?_
      | refine W_ret ?_
      | refine V_ret ?_
      | refine W_cond_f rfl ?_
      | refine WO_dst rfl rfl (by kernel_rfl) (by kernel_rfl) ?_
      | refine WO_guard_t rfl rfl rfl rfl rfl (by kernel_rfl) (by kernel_rfl) ?_
      | refine WO_guard_f rfl rfl rfl rfl rfl rfl (by kernel_rfl) (by kernel_rfl) ?_
      | refine Ev_move rfl ?_
      | refine Ev_assign rfl ?_
      | refine Ev_pick_t rfl rfl rfl ?_
      | refine Ev_pick_f rfl rfl rfl ?_
      | refine Ev_geq rfl rfl ?_
      | refine Ev_neq rfl rfl ?_
      | refine Ev_nilCheck rfl ?_
      | refine Ev_fieldAddr rfl rfl rfl rfl rfl rfl ?_
      | (refine WO_guard_dt rfl rfl rfl rfl rfl (by kernel_rfl) (by kernel_rfl) (fun hg => ?_) (fun hg => ?_) <;> (try dsimp only at hg) <;> try (exfalso; first | omega | exact hg rfl))
      | (refine W_cond rfl (fun hc => ?_) (fun hc => ?_) <;> (try dsimp only at hc) <;> try (exfalso; first | omega | exact hc rfl)))
  · refine V_done rfl rfl ?_
    exact ⟨25, ps, _, rfl, .bound ⟨hia, hib⟩ w w2 g1 g2 ⟨by assumption, by assumption, by assumption⟩, h4, ⟨by omega, by omega, fun c hc => if_pos hc, fun c hc _ => f04 c hc⟩⟩
  all_goals
    have hb : ¬ (0 ≤ w ∧ 0 ≤ w2 ∧ w ≠ w2) := by omega
    have hpvl : ∀ c, blkOf y.vp = some c → c < S.n ∧ y.tg c = 4 := fun c hc => ⟨h.pc.lt h.ok hc, h.tp c hc⟩
    have t0 := h.t0
    refine Ev_load rfl rfl rfl h4.at_ rfl h4.pc.rd.self ?_
    repeat (
      first
        | refine WO_dst rfl rfl (by kernel_rfl) (by kernel_rfl) ?_
        | refine Ev_move rfl ?_)
    refine Ev_build (v := .agg [.int .i64 ((ja : Nat) : Int), .int .i64 ((jb : Nat) : Int), .str nm]) rfl rfl ?_
    repeat (
      refine WO_dst rfl rfl (by kernel_rfl) (by kernel_rfl) ?_)
    refine Ev_buildSlice rfl rfl rfl rfl rfl rfl d2 (by omega) ?_
    intro S5 n5 ok5 q5 f5
    have p5 : Own S5 y.vp 93 3 (ps.flatMap pcC) ps.length := h4.pc.keep (fun c hc => f5 c (by have := (hpvl c hc).1; omega))
    repeat (
      refine WO_dst rfl rfl (by kernel_rfl) (by kernel_rfl) ?_)
    refine Ev_append (new := pcC (ja, jb, nm)) (k := 1) rfl rfl rfl rfl rfl rfl rfl rfl rfl rfl p5 (Rd_lit (m := 1) q5 rfl rfl) rfl ok5 (by omega) (by dsimp only; omega) (by omega) ?_
    intro vp S6 le6 n6 ok6 ow6 f6 b6
    have at6 : S6.h.get p = some (.cells 81 [y.va, y.vo, y.vd, y.vp] false) := by
      rw [f6 p (fun e => by have := (hpvl p e).2; omega) (by omega), f5 p (by omega)]; exact h4.at_
    repeat (
      first
        | refine WO_dst rfl rfl (by kernel_rfl) (by kernel_rfl) ?_
        | refine WO_no rfl rfl ?_
        | refine Ev_nilCheck rfl ?_
        | refine Ev_fieldAddr rfl rfl rfl rfl rfl rfl ?_)
    refine Ev_store rfl rfl rfl (by rw [(own_cells1 ow6).1]; rfl) (by rw [(own_cells1 ow6).1]; exact (own_cells1 ow6).2) at6 (by rw [(own_cells1 ow6).1]; show 3 + 1 ≤ 4; omega) (by omega) ?_
    intro S7 n7 q7 f7
    have at7 : S7.h.get p = some (.cells 81 [y.va, y.vo, y.vd, vp] false) := q7.trans (congrArg (fun z => some (AB.cells 81 z false)) (by rw [(own_cells1 ow6).1]; rfl))
    have ok7 : Sok S7 := sok_upd ok6 (by omega) n7 at7 f7
    have bl6 : ∀ c, blkOf vp = some c → (c < S.n ∧ y.tg c = 4) ∨ S5.n ≤ c := fun c hc => (b6 c hc).imp (hpvl c) id
    have keepT : ∀ c, c < S.n → y.tg c ≠ 0 → y.tg c ≠ 4 → S7.h.get c = S.h.get c := fun c h1 h2 h3 => by
      rw [f7 c (fun e => h2 (by rw [e]; exact t0)), f6 c (fun e => h3 (hpvl c e).2) (by omega), f5 c (by omega), f04 c h1]
    have hR : Rs S7 p { y with vp := vp, tg := fun c => if c < S.n then y.tg c else 4 } ones (ps ++ [(ja, jb, nm)]) := by
      obtain ⟨_, e1, e2, e3, _, e5, e6⟩ := h.others (U := S7) (fun t => t = 0 ∨ t = 4) (fun c hc hd => keepT c hc (fun e => hd (.inl e)) (fun e => hd (.inr e)))
      refine ⟨ok7, at7, e1 (by decide), e2 (by decide), e3 (by decide), ?_, h.lo, h.ld, fun j v o hv ho => e5 j v o hv ho (by omega), fun j v o hv ho => e6 j v o hv ho (by omega), (if_pos hp).trans t0, fun c hc => (if_pos (h.a.lt h.ok hc)).trans (h.ta c hc), fun c hc => (if_pos (h.o.lt h.ok hc)).trans (h.to c hc), fun c hc => (if_pos (h.d.lt h.ok hc)).trans (h.td c hc), fun c hc => ?_, fun j v hv c hc => (if_pos (h.lto hv hc)).trans (h.tof j v hv c hc), fun j v hv c hc => (if_pos (h.ltd hv hc)).trans (h.tdn j v hv c hc)⟩
      · rw [List.flatMap_append, List.length_append]
        refine (ow6.keep (fun c hc => f7 c (fun e => ?_))).eq (by simp) rfl
        rcases bl6 c hc with ⟨_, g⟩ | g
        · rw [e] at g; omega
        · omega
      · dsimp only
        rcases bl6 c hc with ⟨g1, g2⟩ | g
        · rw [if_pos g1]; exact g2
        · rw [if_neg (by omega)]
    repeat (
      first
        | refine W_seq ?_
        | refine WO_nil ?_
        | refine V_seq ?_
        | refine W_region ?_
        | refine W_ret ?_
        | refine WO_dst rfl rfl (by kernel_rfl) (by kernel_rfl) ?_
        | refine Ev_assign rfl ?_)
    refine V_done rfl rfl ?_
    exact ⟨0, _, _, rfl, .ok ⟨hia, hib⟩ w w2 g1 g2 hb, hR, ⟨by omega, by omega, fun c hc => if_pos hc, fun c h1 h2 => keepT c h1 (by omega) (by omega)⟩⟩
/-- Offer -/
theorem rOffer_runs {S : St} {p : Nat} {y : RLay} {ones : List One} {ps : Ps} {n id : Int} {nm sup : Nm} (h : Rs S p y ones ps) (hol : ∀ o ∈ ones, o.off.length ≤ 1000000) (hnm : nm.length < 9223372036854775808) (hsup : sup.length < 9223372036854775808) (hn : S.n + 10 ≤ 1000000000) :
    Runs X1 19 [.ptr p 0, .int .i64 n, .str nm, .str sup, .int .i64 id] S fun r U => ∃ e st' y', r = .int .i64 e ∧ OfferS (bare ones) n nm sup id e st' ∧ Rs U p y' st'.ones ps ∧ Ft S U y.tg y'.tg 8 := by
  have hp := h.ok _ _ h.at_
  refine Runs_fn (m := 62) (by kernel_rfl) Try.func19 rfl (by kernel_rfl) (by kernel_rfl) ?_
  repeat (
    first
      | refine W_seq ?_
      | refine WO_nil ?_
      | refine V_seq ?_
      | refine W_region ?_
      | refine WO_dst rfl rfl (by kernel_rfl) (by kernel_rfl) ?_
      | refine Ev_move rfl ?_
      | refine Ev_assign rfl ?_)
  refine Ev_call rfl rfl ((ris_runs (n := n) h).mono ?_)
  rintro _ U0 - ⟨rfl, hU⟩
  rw [hU]
  by_cases hi : isN ones n
  rotate_left
  · rw [decide_eq_false hi]
    repeat (
      first
        | refine W_seq ?_
        | refine WO_nil ?_
        | refine V_seq ?_
        | refine W_region ?_
        | refine W_ret ?_
        | refine V_ret ?_
        | refine W_cond_t rfl ?_
        | refine WO_dst rfl rfl (by kernel_rfl) (by kernel_rfl) ?_
        | refine WO_guard_f rfl rfl rfl rfl rfl rfl (by kernel_rfl) (by kernel_rfl) ?_
        | refine WO_guard_x rfl rfl rfl rfl rfl (by kernel_rfl) (by kernel_rfl) ?_
        | refine Ev_move rfl ?_
        | refine Ev_assign rfl ?_
        | refine Ev_pick_t rfl rfl rfl ?_
        | refine Ev_notb rfl ?_)
    refine V_done rfl rfl ?_
    exact ⟨1, bare ones, y, rfl, .arg (fun hh => hi hh.1), h, .of (Nat.le_refl _) (by omega) (fun _ _ => rfl)⟩
  rw [decide_eq_true hi]
  repeat (
    first
      | refine WO_dst rfl rfl (by kernel_rfl) (by kernel_rfl) ?_
      | refine WO_guard_t rfl rfl rfl rfl rfl (by kernel_rfl) (by kernel_rfl) ?_
      | refine Ev_move rfl ?_
      | refine Ev_notb rfl ?_)
  refine Ev_call rfl rfl ((rname_runs hnm).mono ?_)
  rintro _ U1 - ⟨hU1, rfl⟩
  rw [hU1]
  by_cases hnp : nameP nm
  rotate_left
  · rw [decide_eq_false hnp]
    repeat (
      first
        | refine W_seq ?_
        | refine WO_nil ?_
        | refine V_seq ?_
        | refine W_region ?_
        | refine W_ret ?_
        | refine V_ret ?_
        | refine W_cond_t rfl ?_
        | refine WO_dst rfl rfl (by kernel_rfl) (by kernel_rfl) ?_
        | refine WO_guard_t rfl rfl rfl rfl rfl (by kernel_rfl) (by kernel_rfl) ?_
        | refine WO_guard_f rfl rfl rfl rfl rfl rfl (by kernel_rfl) (by kernel_rfl) ?_
        | refine WO_guard_x rfl rfl rfl rfl rfl (by kernel_rfl) (by kernel_rfl) ?_
        | refine Ev_move rfl ?_
        | refine Ev_assign rfl ?_
        | refine Ev_pick_t rfl rfl rfl ?_
        | refine Ev_pick_f rfl rfl rfl ?_
        | refine Ev_notb rfl ?_)
    refine V_done rfl rfl ?_
    exact ⟨1, bare ones, y, rfl, .arg (fun hh => hnp hh.2.1), h, .of (Nat.le_refl _) (by omega) (fun _ _ => rfl)⟩
  rw [decide_eq_true hnp]
  repeat' (
    first
      | refine W_seq ?_
      | refine WO_nil ?_
      | refine V_seq ?_
      | refine W_region ?_
      | refine W_skip ?_
      | refine W_ret ?_
      | refine V_ret ?_
      | refine WO_dst rfl rfl (by kernel_rfl) (by kernel_rfl) ?_
      | refine WO_guard_t rfl rfl rfl rfl rfl (by kernel_rfl) (by kernel_rfl) ?_
      | refine WO_guard_f rfl rfl rfl rfl rfl rfl (by kernel_rfl) (by kernel_rfl) ?_
      | refine Ev_move rfl ?_
      | refine Ev_assign rfl ?_
      | refine Ev_pick_f rfl rfl rfl ?_
      | refine Ev_lss rfl rfl ?_
      | refine Ev_sneq rfl rfl ?_
      | refine Ev_notb rfl ?_
      | (refine WO_guard_dt rfl rfl rfl rfl rfl (by kernel_rfl) (by kernel_rfl) (fun hg => ?_) (fun hg => ?_) <;> (try dsimp only at hg) <;> try (exfalso; first | omega | exact hg rfl))
      | (refine W_cond rfl (fun hc => ?_) (fun hc => ?_) <;> (try dsimp only at hc) <;> try (exfalso; first | omega | exact hc rfl)))
  · have hs0 : sup ≠ [] := by assumption
    refine Ev_call rfl rfl ((rname_runs hsup).mono ?_)
    rintro _ U2 - ⟨hU2, rfl⟩
    rw [hU2]
    by_cases hsp : nameP sup
    · rw [decide_eq_true hsp]
      have hsup2 : sup = [] ∨ nameP sup := .inr hsp
      repeat' (
        first
          | refine W_seq ?_
          | refine WO_nil ?_
          | refine V_seq ?_
          | refine W_region ?_
          | refine W_skip ?_
          | refine W_ret ?_
          | refine V_ret ?_
          | refine WO_dst rfl rfl (by kernel_rfl) (by kernel_rfl) ?_
          | refine WO_guard_t rfl rfl rfl rfl rfl (by kernel_rfl) (by kernel_rfl) ?_
          | refine Ev_move rfl ?_
          | refine Ev_assign rfl ?_
          | refine Ev_pick_t rfl rfl rfl ?_
          | refine Ev_pick_f rfl rfl rfl ?_
          | refine Ev_lss rfl rfl ?_
          | refine Ev_notb rfl ?_
          | (refine W_cond rfl (fun hc => ?_) (fun hc => ?_) <;> (try dsimp only at hc) <;> try (exfalso; first | omega | exact hc rfl)))
      · have hid : id < 0 := by assumption
        refine V_done rfl rfl ?_
        exact ⟨1, bare ones, y, rfl, .arg (fun hh => by have := hh.2.2.2; omega), h, .of (Nat.le_refl _) (by omega) (fun _ _ => rfl)⟩
      have hid : 0 ≤ id := by omega
      obtain ⟨j, rfl⟩ : ∃ j : Nat, n = (j : Int) := ⟨n.toNat, by unfold isN at hi; omega⟩
      have hj : j < ones.length := by unfold isN at hi; omega
      have hall : isL (bare ones) ((j : Nat) : Int) ∧ nameP nm ∧ (sup = [] ∨ nameP sup) ∧ 0 ≤ id := ⟨hi, hnp, hsup2, hid⟩
      have hoS := offS_bare hj nm
      have hto : (((j : Nat) : Int)).toNat = j := Int.toNat_natCast j
      refine Ev_call rfl rfl ((find_runs (nm := nm) h hj (hol _ (List.getElem_mem hj)) (by omega)).mono ?_)
      rintro _ S1 - ⟨rfl, ok1, le1, n1, f1⟩
      obtain ⟨a, b, c, hg⟩ : ∃ a b c, fofV nm (alook nm ones[j].off) = .agg [.str a, .str b, .int .i64 c] := by
        cases alook nm ones[j].off with
        | none => exact ⟨_, _, _, rfl⟩
        | some x => exact ⟨_, _, _, rfl⟩
      rw [hg]
      repeat (
        first
          | refine WO_dst rfl rfl (by kernel_rfl) (by kernel_rfl) ?_
          | refine Ev_move rfl ?_
          | refine Ev_extract rfl rfl ?_)
      refine Ev_alloc_ rfl ok1 (by omega) ?_
      intro S2 n2 ok2 q2 f2
      repeat (
        refine WO_no rfl rfl ?_)
      refine Ev_store rfl rfl rfl rfl rfl q2 (by show 0 + 3 ≤ 3; decide) (by omega) ?_
      intro S3 n3 q3 f3
      have ok3 : Sok S3 := sok_upd ok2 (by omega) n3 q3 f3
      have f03 : ∀ c, c < S.n → S3.h.get c = S.h.get c := fun c hc => by rw [f3 c (by omega), f2 c (by omega), f1 c hc]
      have h3 : Rs S3 p y ones ps := h.far ok3 f03 y.tg (fun _ _ => rfl)
      cases hA : alook nm ones[j].off with
      | some o =>
        repeat (
          first
            | refine W_seq ?_
            | refine WO_nil ?_
            | refine V_seq ?_
            | refine W_region ?_
            | refine W_ret ?_
            | refine V_ret ?_
            | refine W_cond_t rfl ?_
            | refine WO_dst rfl rfl (by kernel_rfl) (by kernel_rfl) ?_
            | refine Ev_move rfl ?_
            | refine Ev_assign rfl ?_)
        refine V_done rfl rfl ?_
        exact ⟨23, bare ones, y, rfl, .taken hall o (by rw [hoS, hA]), h3, .of (by omega) (by omega) f03⟩
      | none =>
        obtain ⟨v, hv, hin⟩ := h3.getO hj
        obtain ⟨bo, ko, spo, hvo, hbo, hlo, hmk⟩ := h3.o.cell (by omega)
        have tbo : y.tg bo = 2 := h.to bo (by rw [hvo]; rfl)
        have bbo : bo < S.n := h.o.lt h.ok (by rw [hvo]; rfl)
        have t0 := h.t0
        have hcell : y.os[0 + j * 1]? = some v := by rw [Nat.zero_add, Nat.mul_one]; exact hv
        have hD : ∀ f ∈ [(⟨p, .cells 81 [y.va, y.vo, y.vd, y.vp] false, none⟩ : Fct), ⟨bo, .cells 87 y.os spo, none⟩], S3.h.get f.id = some f.x := by
          intro f hf
          rcases List.mem_cons.1 hf with rfl | hf
          · exact h3.at_
          · rw [List.mem_singleton] at hf; subst hf; exact hbo
        repeat (
          first
            | refine W_seq ?_
            | refine WO_nil ?_
            | refine V_seq ?_
            | refine W_region ?_
            | refine W_skip ?_
            | refine W_cond_f rfl ?_
            | refine WO_dst rfl rfl (by kernel_rfl) (by kernel_rfl) ?_
            | refine Ev_move rfl ?_
            | refine Ev_assign rfl ?_)
        refine W_drawnZ 19 [⟨p, .cells 81 [y.va, y.vo, y.vd, y.vp] false, none⟩, ⟨bo, .cells 87 y.os spo, none⟩] ?_ (by kernel_rfl) ?_
        · intro f hf
          rcases List.mem_cons.1 hf with rfl | hf
          · exact ⟨rfl, by dsimp only; omega, h3.at_⟩
          · rw [List.mem_singleton] at hf; subst hf; exact ⟨rfl, by dsimp only; omega, hbo⟩
        repeat (
          first
            | refine WZ_pa rfl rfl (by kernel_rfl) (by kernel_rfl) rfl ?_
            | refine Ev_move rfl ?_
            | refine Ev_nilCheck rfl ?_
            | refine Ev_fieldAddr rfl rfl rfl rfl rfl rfl ?_)
        refine WZ_rf (by kernel_rfl) rfl rfl (by kernel_rfl) (by kernel_rfl) hD (FPD_load rfl rfl rfl (pt_of h3.at_) rfl (fun b hb => by cases hb; exact ⟨_, List.mem_cons_self .., rfl, h3.at_, fun j hj => by cases hj⟩)) h3.o.rd.self ?_
        repeat (
          first
            | refine WZ_pa rfl rfl (by kernel_rfl) (by kernel_rfl) rfl ?_
            | refine Ev_move rfl ?_
            | refine Ev_nilCheck rfl ?_
            | refine Ev_fieldAddr rfl rfl rfl rfl rfl rfl ?_)
        refine WZ_rf (by kernel_rfl) rfl rfl (by kernel_rfl) (by kernel_rfl) hD (FPD_load rfl rfl rfl (pt_of h3.at_) rfl (fun b hb => by cases hb; exact ⟨_, List.mem_cons_self .., rfl, h3.at_, fun j hj => by cases hj⟩)) h3.o.rd.self ?_
        repeat (
          first
            | refine WZ_pa rfl rfl (by kernel_rfl) (by kernel_rfl) rfl ?_
            | refine Ev_move rfl ?_)
        refine Ev_indexAddr (i := j) (b := bo) (o := 0) (len := ones.length) (cap := ko) rfl (congrArg some hvo) rfl rfl rfl hj ?_
        repeat (
          refine W_seq ?_)
        refine WZ_rf (by kernel_rfl) rfl rfl (by kernel_rfl) (by kernel_rfl) hD (FPD_load (p := .ptr bo (0 + j * 1)) (v := v) rfl rfl rfl (pt_of hbo) hcell (fun b hb => by cases hb; exact ⟨_, List.mem_cons_of_mem _ (List.mem_cons_self ..), rfl, hbo, fun j hj => by cases hj⟩)) hin.rd.self ?_
        repeat (
          first
            | refine WZ_pa rfl rfl (by kernel_rfl) (by kernel_rfl) rfl ?_
            | refine Ev_move rfl ?_)
        refine Ev_build (v := .agg [.str nm, .str sup, .int .i64 id]) rfl rfl ?_
        repeat (
          refine WZ_pa rfl rfl (by kernel_rfl) (by kernel_rfl) rfl ?_)
        refine Ev_buildSlice rfl rfl rfl rfl rfl rfl ok3 (by omega) ?_
        intro S4 n4 ok4 q4 f4
        have in4 : Own S4 v 84 3 (ones[j].off.flatMap offC) ones[j].off.length := hin.keep (fun c hc => f4 c (hin.lt ok3 hc))
        have tin : ∀ c, blkOf v = some c → c < S.n ∧ y.tg c = 6 + 2 * j := fun c hc => ⟨h.lto hv hc, h.tof j v hv c hc⟩
        have hin4 := hol _ (List.getElem_mem hj)
        repeat (
          refine W_seq ?_)
        refine WZ_ld rfl rfl (by kernel_rfl) (by kernel_rfl) (fun _ _ => rfl) ?_
        refine Ev_append (new := offC (nm, (sup, id))) (k := 1) rfl rfl rfl rfl rfl rfl rfl rfl rfl rfl in4 (Rd_lit (m := 1) q4 rfl rfl) rfl ok4 (by omega) (by dsimp only; omega) (by omega) ?_
        intro v5 S5 le5 n5 ok5 ow5 f5 b5
        have at5 : S5.h.get p = some (.cells 81 [y.va, y.vo, y.vd, y.vp] false) := by
          rw [f5 p (fun e => by have := (tin p e).2; omega) (by omega), f4 p (by omega)]; exact h3.at_
        have bo5 : S5.h.get bo = some (.cells 87 y.os spo) := by
          rw [f5 bo (fun e => by have := (tin bo e).2; omega) (by omega), f4 bo (by omega)]; exact hbo
        refine ⟨fun _ f hf => ?_, [], by simp, ?_⟩
        · try rw [List.append_nil] at hf
          rcases List.mem_cons.1 hf with rfl | hf
          · exact at5
          · rw [List.mem_singleton] at hf; subst hf; exact bo5
        repeat (
          refine WZ_pa rfl rfl (by kernel_rfl) (by kernel_rfl) rfl ?_)
        refine Ev_indexAddr (i := j) (b := bo) (o := 0) (len := ones.length) (cap := ko) rfl (congrArg some hvo) rfl rfl rfl hj ?_
        repeat (
          refine W_seq ?_)
        refine WZ_ld0 rfl rfl (fun _ _ => rfl) ?_
        have hoo : y.os.length = ones.length := h.lo
        refine Ev_store rfl rfl rfl (by rw [(own_cells1 ow5).1]; rfl) (by rw [(own_cells1 ow5).1]; exact (own_cells1 ow5).2) bo5 (by rw [(own_cells1 ow5).1]; show 0 + j * 1 + 1 ≤ _; omega) (by omega) ?_
        intro S6 n6 q6 f6
        have ok6 : Sok S6 := sok_upd ok5 (by omega) n6 q6 f6
        have q6 : S6.h.get bo = some (.cells 87 (y.os.set j v5) spo) := by
          rw [q6, (own_cells1 ow5).1]
          show some (AB.cells 87 (lput y.os (0 + j * 1) [v5]) spo) = _
          rw [lput_one _ _ _ (by omega)]
        have bl5 : ∀ c, blkOf v5 = some c → (c < S.n ∧ y.tg c = 6 + 2 * j) ∨ S4.n ≤ c := fun c hc => (b5 c hc).imp (tin c) (fun e => e)
        have hcb : ∀ c, blkOf v5 = some c → c ≠ bo := fun c hc e => by
          rcases bl5 c hc with ⟨_, g⟩ | g
          · rw [e] at g; omega
          · omega
        have keepT : ∀ c, c < S.n → y.tg c ≠ 2 → y.tg c ≠ 6 + 2 * j → S6.h.get c = S.h.get c := fun c h1 h2 h4 => by
          rw [f6 c (fun e => h2 (by rw [e]; exact tbo)), f5 c (fun e => h4 (tin c e).2) (by omega), f4 c (by omega), f03 c h1]
        have hR := h.put_off (U := S6) ok6 (o := ones[j]) (List.getElem?_eq_getElem hj) (v' := v5) (off' := aput nm (sup, id) ones[j].off) (fun c => if c < S.n then y.tg c else 6 + 2 * j) (fun c hc => if_pos hc)
          (hmk S6 _ q6 (by rw [List.length_set])) (by rw [aput_new _ hA, List.flatMap_append, List.length_append]; exact (ow5.keep (fun c hc => f6 c (hcb c hc))).eq (by simp) rfl)
          (fun c hc => by
            rcases bl5 c hc with ⟨g1, g2⟩ | g
            · rw [if_pos g1]; exact g2
            · rw [if_neg (by omega)]) keepT
        refine ⟨fun h => absurd h (by decide), [], by simp, ?_⟩
        repeat (
          first
            | refine WZ_nil ?_
            | refine W_seq ?_
            | refine WO_nil ?_
            | refine V_seq ?_
            | refine W_region ?_
            | refine W_ret ?_
            | refine WO_dst rfl rfl (by kernel_rfl) (by kernel_rfl) ?_
            | refine Ev_assign rfl ?_)
        repeat (
          refine W_seq ?_)
        refine V_done rfl rfl ?_
        exact ⟨0, _, _, rfl, .put hall (by rw [hoS, hA]) ones[j] (by rw [hto]; exact List.getElem?_eq_getElem hj), by rw [hto]; exact hR, ⟨by omega, by omega, fun c hc => if_pos hc, fun c h1 h2 => keepT c h1 (by omega) (by omega)⟩⟩
    · rw [decide_eq_false hsp]
      repeat (
        first
          | refine W_seq ?_
          | refine WO_nil ?_
          | refine V_seq ?_
          | refine W_region ?_
          | refine W_ret ?_
          | refine V_ret ?_
          | refine W_cond_t rfl ?_
          | refine WO_dst rfl rfl (by kernel_rfl) (by kernel_rfl) ?_
          | refine WO_guard_t rfl rfl rfl rfl rfl (by kernel_rfl) (by kernel_rfl) ?_
          | refine WO_guard_f rfl rfl rfl rfl rfl rfl (by kernel_rfl) (by kernel_rfl) ?_
          | refine Ev_move rfl ?_
          | refine Ev_assign rfl ?_
          | refine Ev_pick_t rfl rfl rfl ?_
          | refine Ev_pick_f rfl rfl rfl ?_
          | refine Ev_notb rfl ?_)
      refine V_done rfl rfl ?_
      exact ⟨1, bare ones, y, rfl, .arg (fun hh => hh.2.2.1.elim hs0 hsp), h, .of (Nat.le_refl _) (by omega) (fun _ _ => rfl)⟩
  · have hid : id < 0 := by assumption
    refine V_done rfl rfl ?_
    exact ⟨1, bare ones, y, rfl, .arg (fun hh => by have := hh.2.2.2; omega), h, .of (Nat.le_refl _) (by omega) (fun _ _ => rfl)⟩
  · have hs0 : sup = [] := Classical.byContradiction (by assumption)
    have hid : 0 ≤ id := by omega
    have hsup2 : sup = [] ∨ nameP sup := .inl hs0
    obtain ⟨j, rfl⟩ : ∃ j : Nat, n = (j : Int) := ⟨n.toNat, by unfold isN at hi; omega⟩
    have hj : j < ones.length := by unfold isN at hi; omega
    have hall : isL (bare ones) ((j : Nat) : Int) ∧ nameP nm ∧ (sup = [] ∨ nameP sup) ∧ 0 ≤ id := ⟨hi, hnp, hsup2, hid⟩
    have hoS := offS_bare hj nm
    have hto : (((j : Nat) : Int)).toNat = j := Int.toNat_natCast j
    refine Ev_call rfl rfl ((find_runs (nm := nm) h hj (hol _ (List.getElem_mem hj)) (by omega)).mono ?_)
    rintro _ S1 - ⟨rfl, ok1, le1, n1, f1⟩
    obtain ⟨a, b, c, hg⟩ : ∃ a b c, fofV nm (alook nm ones[j].off) = .agg [.str a, .str b, .int .i64 c] := by
      cases alook nm ones[j].off with
      | none => exact ⟨_, _, _, rfl⟩
      | some x => exact ⟨_, _, _, rfl⟩
    rw [hg]
    repeat (
      first
        | refine WO_dst rfl rfl (by kernel_rfl) (by kernel_rfl) ?_
        | refine Ev_move rfl ?_
        | refine Ev_extract rfl rfl ?_)
    refine Ev_alloc_ rfl ok1 (by omega) ?_
    intro S2 n2 ok2 q2 f2
    repeat (
      refine WO_no rfl rfl ?_)
    refine Ev_store rfl rfl rfl rfl rfl q2 (by show 0 + 3 ≤ 3; decide) (by omega) ?_
    intro S3 n3 q3 f3
    have ok3 : Sok S3 := sok_upd ok2 (by omega) n3 q3 f3
    have f03 : ∀ c, c < S.n → S3.h.get c = S.h.get c := fun c hc => by rw [f3 c (by omega), f2 c (by omega), f1 c hc]
    have h3 : Rs S3 p y ones ps := h.far ok3 f03 y.tg (fun _ _ => rfl)
    cases hA : alook nm ones[j].off with
    | some o =>
      repeat (
        first
          | refine W_seq ?_
          | refine WO_nil ?_
          | refine V_seq ?_
          | refine W_region ?_
          | refine W_ret ?_
          | refine V_ret ?_
          | refine W_cond_t rfl ?_
          | refine WO_dst rfl rfl (by kernel_rfl) (by kernel_rfl) ?_
          | refine Ev_move rfl ?_
          | refine Ev_assign rfl ?_)
      refine V_done rfl rfl ?_
      exact ⟨23, bare ones, y, rfl, .taken hall o (by rw [hoS, hA]), h3, .of (by omega) (by omega) f03⟩
    | none =>
      obtain ⟨v, hv, hin⟩ := h3.getO hj
      obtain ⟨bo, ko, spo, hvo, hbo, hlo, hmk⟩ := h3.o.cell (by omega)
      have tbo : y.tg bo = 2 := h.to bo (by rw [hvo]; rfl)
      have bbo : bo < S.n := h.o.lt h.ok (by rw [hvo]; rfl)
      have t0 := h.t0
      have hcell : y.os[0 + j * 1]? = some v := by rw [Nat.zero_add, Nat.mul_one]; exact hv
      have hD : ∀ f ∈ [(⟨p, .cells 81 [y.va, y.vo, y.vd, y.vp] false, none⟩ : Fct), ⟨bo, .cells 87 y.os spo, none⟩], S3.h.get f.id = some f.x := by
        intro f hf
        rcases List.mem_cons.1 hf with rfl | hf
        · exact h3.at_
        · rw [List.mem_singleton] at hf; subst hf; exact hbo
      repeat (
        first
          | refine W_seq ?_
          | refine WO_nil ?_
          | refine V_seq ?_
          | refine W_region ?_
          | refine W_skip ?_
          | refine W_cond_f rfl ?_
          | refine WO_dst rfl rfl (by kernel_rfl) (by kernel_rfl) ?_
          | refine Ev_move rfl ?_
          | refine Ev_assign rfl ?_)
      refine W_drawnZ 19 [⟨p, .cells 81 [y.va, y.vo, y.vd, y.vp] false, none⟩, ⟨bo, .cells 87 y.os spo, none⟩] ?_ (by kernel_rfl) ?_
      · intro f hf
        rcases List.mem_cons.1 hf with rfl | hf
        · exact ⟨rfl, by dsimp only; omega, h3.at_⟩
        · rw [List.mem_singleton] at hf; subst hf; exact ⟨rfl, by dsimp only; omega, hbo⟩
      repeat (
        first
          | refine WZ_pa rfl rfl (by kernel_rfl) (by kernel_rfl) rfl ?_
          | refine Ev_move rfl ?_
          | refine Ev_nilCheck rfl ?_
          | refine Ev_fieldAddr rfl rfl rfl rfl rfl rfl ?_)
      refine WZ_rf (by kernel_rfl) rfl rfl (by kernel_rfl) (by kernel_rfl) hD (FPD_load rfl rfl rfl (pt_of h3.at_) rfl (fun b hb => by cases hb; exact ⟨_, List.mem_cons_self .., rfl, h3.at_, fun j hj => by cases hj⟩)) h3.o.rd.self ?_
      repeat (
        first
          | refine WZ_pa rfl rfl (by kernel_rfl) (by kernel_rfl) rfl ?_
          | refine Ev_move rfl ?_
          | refine Ev_nilCheck rfl ?_
          | refine Ev_fieldAddr rfl rfl rfl rfl rfl rfl ?_)
      refine WZ_rf (by kernel_rfl) rfl rfl (by kernel_rfl) (by kernel_rfl) hD (FPD_load rfl rfl rfl (pt_of h3.at_) rfl (fun b hb => by cases hb; exact ⟨_, List.mem_cons_self .., rfl, h3.at_, fun j hj => by cases hj⟩)) h3.o.rd.self ?_
      repeat (
        first
          | refine WZ_pa rfl rfl (by kernel_rfl) (by kernel_rfl) rfl ?_
          | refine Ev_move rfl ?_)
      refine Ev_indexAddr (i := j) (b := bo) (o := 0) (len := ones.length) (cap := ko) rfl (congrArg some hvo) rfl rfl rfl hj ?_
      repeat (
        refine W_seq ?_)
      refine WZ_rf (by kernel_rfl) rfl rfl (by kernel_rfl) (by kernel_rfl) hD (FPD_load (p := .ptr bo (0 + j * 1)) (v := v) rfl rfl rfl (pt_of hbo) hcell (fun b hb => by cases hb; exact ⟨_, List.mem_cons_of_mem _ (List.mem_cons_self ..), rfl, hbo, fun j hj => by cases hj⟩)) hin.rd.self ?_
      repeat (
        first
          | refine WZ_pa rfl rfl (by kernel_rfl) (by kernel_rfl) rfl ?_
          | refine Ev_move rfl ?_)
      refine Ev_build (v := .agg [.str nm, .str sup, .int .i64 id]) rfl rfl ?_
      repeat (
        refine WZ_pa rfl rfl (by kernel_rfl) (by kernel_rfl) rfl ?_)
      refine Ev_buildSlice rfl rfl rfl rfl rfl rfl ok3 (by omega) ?_
      intro S4 n4 ok4 q4 f4
      have in4 : Own S4 v 84 3 (ones[j].off.flatMap offC) ones[j].off.length := hin.keep (fun c hc => f4 c (hin.lt ok3 hc))
      have tin : ∀ c, blkOf v = some c → c < S.n ∧ y.tg c = 6 + 2 * j := fun c hc => ⟨h.lto hv hc, h.tof j v hv c hc⟩
      have hin4 := hol _ (List.getElem_mem hj)
      repeat (
        refine W_seq ?_)
      refine WZ_ld rfl rfl (by kernel_rfl) (by kernel_rfl) (fun _ _ => rfl) ?_
      refine Ev_append (new := offC (nm, (sup, id))) (k := 1) rfl rfl rfl rfl rfl rfl rfl rfl rfl rfl in4 (Rd_lit (m := 1) q4 rfl rfl) rfl ok4 (by omega) (by dsimp only; omega) (by omega) ?_
      intro v5 S5 le5 n5 ok5 ow5 f5 b5
      have at5 : S5.h.get p = some (.cells 81 [y.va, y.vo, y.vd, y.vp] false) := by
        rw [f5 p (fun e => by have := (tin p e).2; omega) (by omega), f4 p (by omega)]; exact h3.at_
      have bo5 : S5.h.get bo = some (.cells 87 y.os spo) := by
        rw [f5 bo (fun e => by have := (tin bo e).2; omega) (by omega), f4 bo (by omega)]; exact hbo
      refine ⟨fun _ f hf => ?_, [], by simp, ?_⟩
      · try rw [List.append_nil] at hf
        rcases List.mem_cons.1 hf with rfl | hf
        · exact at5
        · rw [List.mem_singleton] at hf; subst hf; exact bo5
      repeat (
        refine WZ_pa rfl rfl (by kernel_rfl) (by kernel_rfl) rfl ?_)
      refine Ev_indexAddr (i := j) (b := bo) (o := 0) (len := ones.length) (cap := ko) rfl (congrArg some hvo) rfl rfl rfl hj ?_
      repeat (
        refine W_seq ?_)
      refine WZ_ld0 rfl rfl (fun _ _ => rfl) ?_
      have hoo : y.os.length = ones.length := h.lo
      refine Ev_store rfl rfl rfl (by rw [(own_cells1 ow5).1]; rfl) (by rw [(own_cells1 ow5).1]; exact (own_cells1 ow5).2) bo5 (by rw [(own_cells1 ow5).1]; show 0 + j * 1 + 1 ≤ _; omega) (by omega) ?_
      intro S6 n6 q6 f6
      have ok6 : Sok S6 := sok_upd ok5 (by omega) n6 q6 f6
      have q6 : S6.h.get bo = some (.cells 87 (y.os.set j v5) spo) := by
        rw [q6, (own_cells1 ow5).1]
        show some (AB.cells 87 (lput y.os (0 + j * 1) [v5]) spo) = _
        rw [lput_one _ _ _ (by omega)]
      have bl5 : ∀ c, blkOf v5 = some c → (c < S.n ∧ y.tg c = 6 + 2 * j) ∨ S4.n ≤ c := fun c hc => (b5 c hc).imp (tin c) (fun e => e)
      have hcb : ∀ c, blkOf v5 = some c → c ≠ bo := fun c hc e => by
        rcases bl5 c hc with ⟨_, g⟩ | g
        · rw [e] at g; omega
        · omega
      have keepT : ∀ c, c < S.n → y.tg c ≠ 2 → y.tg c ≠ 6 + 2 * j → S6.h.get c = S.h.get c := fun c h1 h2 h4 => by
        rw [f6 c (fun e => h2 (by rw [e]; exact tbo)), f5 c (fun e => h4 (tin c e).2) (by omega), f4 c (by omega), f03 c h1]
      have hR := h.put_off (U := S6) ok6 (o := ones[j]) (List.getElem?_eq_getElem hj) (v' := v5) (off' := aput nm (sup, id) ones[j].off) (fun c => if c < S.n then y.tg c else 6 + 2 * j) (fun c hc => if_pos hc)
        (hmk S6 _ q6 (by rw [List.length_set])) (by rw [aput_new _ hA, List.flatMap_append, List.length_append]; exact (ow5.keep (fun c hc => f6 c (hcb c hc))).eq (by simp) rfl)
        (fun c hc => by
          rcases bl5 c hc with ⟨g1, g2⟩ | g
          · rw [if_pos g1]; exact g2
          · rw [if_neg (by omega)]) keepT
      refine ⟨fun h => absurd h (by decide), [], by simp, ?_⟩
      repeat (
        first
          | refine WZ_nil ?_
          | refine W_seq ?_
          | refine WO_nil ?_
          | refine V_seq ?_
          | refine W_region ?_
          | refine W_ret ?_
          | refine WO_dst rfl rfl (by kernel_rfl) (by kernel_rfl) ?_
          | refine Ev_assign rfl ?_)
      repeat (
        refine W_seq ?_)
      refine V_done rfl rfl ?_
      exact ⟨0, _, _, rfl, .put hall (by rw [hoS, hA]) ones[j] (by rw [hto]; exact List.getElem?_eq_getElem hj), by rw [hto]; exact hR, ⟨by omega, by omega, fun c hc => if_pos hc, fun c h1 h2 => keepT c h1 (by omega) (by omega)⟩⟩
end Go.Proofs.Ytjbpegggfacojaa
/- caraferef15: load. (NODRAWN) -/


namespace Go.Proofs.Ytjbpegggfacojaa
open GX
set_option maxHeartbeats 64000000
set_option maxRecDepth 100000
/-- blocks that a load may make -/
def costR (μ : Nat) : Nat := 50000 * (μ + 1)
theorem costR_s (ν : Nat) : costR (ν + 1) = costR ν + 50000 := Nat.mul_succ 50000 (ν + 1)
theorem costR_ge (ν : Nat) : 50000 ≤ costR ν := by
  have := Nat.mul_le_mul_left 50000 (show 1 ≤ ν + 1 from Nat.succ_le_succ (Nat.zero_le _))
  exact this
theorem costR_le {ν : Nat} (h : ν ≤ 60) : costR ν ≤ 3050000 := Nat.mul_le_mul_left 50000 (show ν + 1 ≤ 61 from Nat.succ_le_succ h)
abbrev bzC (k : Int × Nm) : List AV := [.int .i64 k.1, .int .i64 k.1, .str k.2]
/-- what load answers -/
structure RLoadR (S : St) (p : Nat) (y : RLay) (ones : List One) (ps : Ps) (j : Nat) (nm : Nm) (bz : List (Int × Nm)) (L μ : Nat) (r : AV) (U : St) : Prop where
  ex : ∃ x e ones' y', r = .tup [.int .i64 x.1, .int .i64 x.2, .int .i64 e] ∧ RLoad ps (bare ones) ((j : Nat) : Int) nm bz x e (bare ones') ∧ Sk (bare ones) (bare ones') ∧ (∀ o ∈ ones', o.ldd.length ≤ L + 20 * (μ + 1)) ∧ Rs U p y' ones' ps ∧ ∀ c, c < S.n → y'.tg c = y.tg c
  le : S.n ≤ U.n
  n : U.n ≤ S.n + costR μ
  fo : ∀ c, c < S.n → y.tg c = 5 → U.h.get c = S.h.get c
theorem sk_len {a b : List One} (h : Sk (bare a) (bare b)) : b.length = a.length := h.1
theorem sk_off {a b : List One} (h : Sk (bare a) (bare b)) (n : Nat) (ho : ∀ o ∈ a, o.off.length ≤ n) : ∀ o ∈ b, o.off.length ≤ n := fun o hob => by
  obtain ⟨i, hi⟩ := List.mem_iff_getElem?.1 hob
  have hil := (List.getElem?_eq_some_iff.1 hi).1
  have hia : i < a.length := by rw [← sk_len h]; exact hil
  obtain ⟨_, e⟩ := h.2 i a[i] o (List.getElem?_eq_getElem hia) hi
  rw [e]
  exact ho _ (List.getElem_mem hia)
theorem put_bare {ones : List One} {k : Nat} {o : One} : (bare ones).put k o = bare (ones.set k o) := rfl
theorem rload_runs : ∀ (μ : Nat) {S : St} {p : Nat} {y : RLay} {ones : List One} {ps : Ps} {j : Nat} {nm : Nm} {bz : List (Int × Nm)} {vb : AV} {K : List (Int × Nm)} {L : Nat}, Rs S p y ones ps → ParOK (bare ones) → j < ones.length → (∀ q ∈ ps, q.1 < ones.length ∧ q.2.1 < ones.length) → ones.length ≤ 16 → ps.length ≤ 60 → (∀ o ∈ ones, o.off.length ≤ 1000000) → (∀ o ∈ ones, o.ldd.length ≤ L) → L + 20 * (μ + 1) ≤ 1000000 →
    Rd S vb 3 (bz.flatMap bzC) bz.length → (∀ c, blkOf vb = some c → y.tg c = 5) → bz.length + μ ≤ 1000 → (∀ (m : Int) nm' o, 0 ≤ m → offS (bare ones) m nm' = some o → (m, nm') ∈ K) → K.countP (fun k => decide (k ∉ bz)) ≤ μ → S.n + costR μ ≤ 700000000 →
    Runs X1 31 [.ptr p 0, .int .i64 ((j : Nat) : Int), .str nm, vb] S (RLoadR S p y ones ps j nm bz L μ) := by
  intro μ
  induction μ using Nat.strongRecOn with
  | ind μ ih =>
  intro S p y ones ps j nm bz vb K L h hpar hj hps hs hpl hol hL hLm hvb htb hbzl hK hμ hn
  have hp := h.ok _ _ h.at_
  have hcg := costR_ge μ
  obtain ⟨tg0, htg0⟩ : ∃ tg0 : Nat → Nat, tg0 = fun c => if c < S.n then y.tg c else 5 := ⟨_, rfl⟩
  have tlo : ∀ c, c < S.n → tg0 c = y.tg c := fun c hc => by rw [htg0]; exact if_pos hc
  have thi : ∀ c, S.n ≤ c → tg0 c = 5 := fun c hc => by rw [htg0]; exact if_neg (by omega)
  have hl6 : ∀ o ∈ ones, o.ldd.length ≤ 1000000 := fun o ho => by have := hL o ho; omega
  have hvbn : ∀ c, blkOf vb = some c → c < S.n := fun c hc => hvb.lt h.ok hc
  have hnN : ∀ i : Nat, hasS (bare ones) ((i : Nat) : Int) nm = hasN ones ((i : Nat) : Int) nm := fun i => hasN_bare.symm
  refine Runs_fn (m := 213) (by kernel_rfl) Try.func31 rfl (by kernel_rfl) (by kernel_rfl) ?_
  repeat (
    first
      | refine W_seq ?_
      | refine WO_nil ?_
      | refine V_seq ?_
      | refine W_region ?_
      | refine WO_dst rfl rfl (by kernel_rfl) (by kernel_rfl) ?_
      | refine Ev_move rfl ?_
      | refine Ev_assign rfl ?_)
  refine Ev_call rfl rfl ((has_runs (n := ((j : Nat) : Int)) (nm := nm) h hl6 (by omega)).mono ?_)
  rintro _ S1 - ⟨rfl, ok1, le1, n1, f1⟩
  obtain ⟨a, c, w, hg, hc, hw⟩ : ∃ a c w, fdnV nm (hasN ones ((j : Nat) : Int) nm) = .agg [.str a, .int .i64 c, .int .i64 w] ∧ c = ((hasN ones ((j : Nat) : Int) nm).getD (0, 0)).1 ∧ w = ((hasN ones ((j : Nat) : Int) nm).getD (0, 0)).2 := by
    cases hasN ones ((j : Nat) : Int) nm with
    | none => exact ⟨[], 0, 0, rfl, rfl, rfl⟩
    | some x => exact ⟨nm, x.1, x.2, rfl, rfl, rfl⟩
  rw [hg]
  repeat (
    first
      | refine WO_dst rfl rfl (by kernel_rfl) (by kernel_rfl) ?_
      | refine Ev_move rfl ?_
      | refine Ev_extract rfl rfl ?_)
  refine Ev_alloc_ rfl ok1 (by omega) ?_
  intro S2 n2 ok2 q2 f2
  repeat (
    refine WO_no rfl rfl ?_)
  refine Ev_store rfl rfl rfl rfl rfl q2 (by show 0 + 3 ≤ 3; decide) (by omega) ?_
  intro S3 n3 q3 f3
  have q3 : S3.h.get S1.n = some (.cells 95 [.str a, .int .i64 c, .int .i64 w] false) := q3
  have ok3 : Sok S3 := sok_upd ok2 (by omega) n3 q3 f3
  have f03 : ∀ c, c < S.n → S3.h.get c = S.h.get c := fun c hc => by rw [f3 c (by omega), f2 c (by omega), f1 c hc]
  have h3 : Rs S3 p { y with tg := tg0 } ones ps := h.far ok3 f03 tg0 tlo
  cases hA : hasN ones ((j : Nat) : Int) nm with
  | some x =>
    rw [hA] at hc hw
    repeat (
      first
        | refine W_seq ?_
        | refine WO_nil ?_
        | refine V_seq ?_
        | refine W_region ?_
        | refine W_cond_t rfl ?_
        | refine WO_dst rfl rfl (by kernel_rfl) (by kernel_rfl) ?_
        | refine Ev_move rfl ?_
        | refine Ev_assign rfl ?_)
    refine W_drawn (by kernel_rfl) ?_
    repeat (
      first
        | refine WO_nil ?_
        | refine V_seq ?_
        | refine W_ret ?_
        | refine V_ret ?_
        | refine WO_dst rfl rfl (by kernel_rfl) (by kernel_rfl) ?_
        | refine Ev_load rfl rfl rfl q3 rfl (veq_int _ _) ?_
        | refine Ev_assign rfl ?_
        | refine Ev_fieldAddr rfl rfl rfl rfl rfl rfl ?_)
    refine V_done rfl rfl ?_
    refine ⟨⟨x, 0, ones, _, by rw [hc, hw]; rfl, .had _ _ _ _ x (by rw [hnN]; exact hA), .refl _, fun o ho => by have := hL o ho; omega, h3, tlo⟩, by omega, by omega, fun c hc _ => f03 c hc⟩
  | none =>
    clear hc hw
    have hno : hasS (bare ones) ((j : Nat) : Int) nm = none := by rw [hnN]; exact hA
    obtain ⟨LL, hLL⟩ : ∃ LL, LL = lineS (bare ones) ((j : Nat) : Int) := ⟨_, rfl⟩
    obtain ⟨hll, hlm2⟩ := line_lt hpar (n := ((j : Nat) : Int)) (by show ((j : Nat) : Int) < ((ones.length : Nat) : Int); omega)
    rw [← hLL] at hll hlm2
    replace hlm2 : ∀ x ∈ LL, 0 ≤ x ∧ x < ((ones.length : Nat) : Int) := hlm2
    replace hll : LL.length ≤ j + 1 := by omega
    repeat (
      first
        | refine W_seq ?_
        | refine WO_nil ?_
        | refine V_seq ?_
        | refine W_region ?_
        | refine W_skip ?_
        | refine W_cond_f rfl ?_
        | refine WO_dst rfl rfl (by kernel_rfl) (by kernel_rfl) ?_
        | refine Ev_move rfl ?_
        | refine Ev_assign rfl ?_)
    refine Ev_call rfl rfl ((rline_runs h3 hpar (n := ((j : Nat) : Int)) (by omega) (by omega) (by omega) (by omega)).mono ?_)
    rintro vl S4 - ⟨ow4, ok4, le4, n4, f4, b4⟩
    rw [← hLL] at ow4
    have f04 : ∀ c, c < S.n → S4.h.get c = S.h.get c := fun c hc => by rw [f4 c (by omega), f03 c hc]
    have h4 : Rs S4 p { y with tg := tg0 } ones ps := h.far ok4 f04 tg0 tlo
    have q4 : S4.h.get S1.n = some (.cells 95 [.str a, .int .i64 c, .int .i64 w] false) := by rw [f4 _ (by omega)]; exact q3
    have bl4 : ∀ c, blkOf vl = some c → S3.n ≤ c ∧ c < S4.n := fun c hc => ⟨b4 c hc, ow4.lt ok4 hc⟩
    repeat (
      first
        | refine W_seq ?_
        | refine WO_nil ?_
        | refine V_seq ?_
        | refine W_region ?_
        | refine WO_dst rfl rfl (by kernel_rfl) (by kernel_rfl) ?_
        | refine Ev_assign rfl ?_)
    refine W_cut (fun l' T => ∃ i : Nat, i ≤ LL.length ∧ Sok T ∧ S4.n ≤ T.n ∧ T.n ≤ S4.n + 100 ∧ (∀ c, c < S4.n → T.h.get c = S4.h.get c) ∧ ((i = LL.length ∧ fidx (knowsS (bare ones) nm) LL 0 = none) ∨ (i < LL.length ∧ fidx (knowsS (bare ones) nm) LL 0 = some i)) ∧ sub [(0, .ptr p 0), (1, .int .i64 ((j : Nat) : Int)), (2, .str nm), (3, vb), (11, .ptr S1.n 0), (13, vl), (14, .int .i64 ((i : Nat) : Int))] l') ?_ ?_
    · repeat (
        refine W_block ?_)
      refine W_inv (fun i : Nat => [(14, .int .i64 ((i : Nat) : Int)), (13, vl), (11, .ptr S1.n 0), (3, vb), (2, .str nm), (1, .int .i64 ((j : Nat) : Int)), (0, .ptr p 0)]) (fun i T => i ≤ LL.length ∧ Sok T ∧ S4.n ≤ T.n ∧ T.n ≤ S4.n + 6 * i ∧ (∀ c, c < S4.n → T.h.get c = S4.h.get c) ∧ fidx (knowsS (bare ones) nm) LL 0 = fidx (knowsS (bare ones) nm) (LL.drop i) i) (fun i => LL.length - i) ?_ 0 ⟨Nat.zero_le _, ok4, Nat.le_refl _, by omega, fun _ _ => rfl, rfl⟩ ⟨rfl, rfl, rfl, rfl, rfl, rfl, rfl, trivial⟩
      rintro i T ⟨g1, g2, g3, g4, g5, g6⟩ back
      have hT : Rs T p { y with tg := tg0 } ones ps := h4.far g2 g5 tg0 (fun _ _ => rfl)
      have vlT : Lt T vl 3 1 (LL.map intV) LL.length := ow4.keep (fun c hc => g5 c (bl4 c hc).2)
      repeat' (
        first
          | refine W_seq ?_
          | refine WO_nil ?_
          | refine V_seq ?_
          | refine W_region ?_
          | refine W_skip ?_
          | refine W_block ?_
          | refine W_exit ?_
          | refine V_block_x rfl ?_
          | refine V_seq_x ?_
          | refine V_loop_x ?_
          | refine WO_dst rfl rfl (by kernel_rfl) (by kernel_rfl) ?_
          | refine Ev_len rfl rfl rfl rfl rfl vlT.rd.len ?_
          | refine Ev_move rfl ?_
          | refine Ev_lssN rfl rfl ?_
          | (refine W_cond rfl (fun hc => ?_) (fun hc => ?_) <;> (try dsimp only at hc) <;> try (exfalso; first | omega | exact hc rfl)))
      · have hlt : i < LL.length := by assumption
        obtain ⟨hx0, hx1⟩ := hlm2 _ (List.getElem_mem hlt)
        obtain ⟨jb, hjb⟩ : ∃ jb : Nat, LL[i] = (jb : Int) := ⟨(LL[i]).toNat, by omega⟩
        have hgi : LL[i]? = some ((jb : Nat) : Int) := by rw [List.getElem?_eq_getElem hlt, hjb]
        have hjbl : jb < ones.length := by omega
        refine Ev_indexAddr_rd (i := i) rfl rfl rfl rfl rfl vlT.rd hlt ?_
        intro q hq
        repeat (
          refine WO_dst rfl rfl (by kernel_rfl) (by kernel_rfl) ?_)
        refine Ev_load_pt rfl rfl rfl hq (int_get hgi) (veq_int _ _) ?_
        repeat (
          first
            | refine WO_dst rfl rfl (by kernel_rfl) (by kernel_rfl) ?_
            | refine Ev_move rfl ?_)
        refine Ev_call rfl rfl ((has_runs (n := ((jb : Nat) : Int)) (nm := nm) hT hl6 (by omega)).mono ?_)
        rintro _ T1 - ⟨rfl, tok1, tle1, tn1, tf1⟩
        obtain ⟨a1, c1, w1, hg1⟩ : ∃ a c w, fdnV nm (hasN ones ((jb : Nat) : Int) nm) = .agg [.str a, .int .i64 c, .int .i64 w] := by
          cases hasN ones ((jb : Nat) : Int) nm with
          | none => exact ⟨[], 0, 0, rfl⟩
          | some x => exact ⟨nm, x.1, x.2, rfl⟩
        rw [hg1]
        repeat (
          first
            | refine WO_dst rfl rfl (by kernel_rfl) (by kernel_rfl) ?_
            | refine Ev_move rfl ?_
            | refine Ev_extract rfl rfl ?_)
        refine Ev_alloc_ rfl tok1 (by omega) ?_
        intro T2 tn2 tok2 tq2 tf2
        repeat (
          refine WO_no rfl rfl ?_)
        refine Ev_store rfl rfl rfl rfl rfl tq2 (by show 0 + 3 ≤ 3; decide) (by omega) ?_
        intro T3 tn3 tq3 tf3
        have tok3 : Sok T3 := sok_upd tok2 (by omega) tn3 tq3 tf3
        have tf03 : ∀ c, c < S4.n → T3.h.get c = S4.h.get c := fun c hc => by rw [tf3 c (by omega), tf2 c (by omega), tf1 c (by omega), g5 c hc]
        have hT3 : Rs T3 p { y with tg := tg0 } ones ps := h4.far tok3 tf03 tg0 (fun _ _ => rfl)
        have vl3 : Lt T3 vl 3 1 (LL.map intV) LL.length := ow4.keep (fun c hc => tf03 c (bl4 c hc).2)
        repeat (
          first
            | refine W_seq ?_
            | refine WO_nil ?_
            | refine V_seq ?_
            | refine W_region ?_
            | refine WO_dst rfl rfl (by kernel_rfl) (by kernel_rfl) ?_
            | refine Ev_move rfl ?_
            | refine Ev_assign rfl ?_)
        refine Ev_indexAddr_rd (i := i) rfl rfl rfl rfl rfl vl3.rd hlt ?_
        intro q' hq'
        repeat (
          refine WO_dst rfl rfl (by kernel_rfl) (by kernel_rfl) ?_)
        refine Ev_load_pt rfl rfl rfl hq' (int_get hgi) (veq_int _ _) ?_
        repeat (
          first
            | refine WO_dst rfl rfl (by kernel_rfl) (by kernel_rfl) ?_
            | refine Ev_move rfl ?_)
        refine Ev_call rfl rfl ((find_runs (nm := nm) hT3 hjbl (hol _ (List.getElem_mem hjbl)) (by omega)).mono ?_)
        rintro _ T4 - ⟨rfl, tok4, tle4, tn4, tf4⟩
        obtain ⟨a2, c2, w2, hg2⟩ : ∃ a b c, fofV nm (alook nm ones[jb].off) = .agg [.str a, .str b, .int .i64 c] := by
          cases alook nm ones[jb].off with
          | none => exact ⟨_, _, _, rfl⟩
          | some x => exact ⟨_, _, _, rfl⟩
        rw [hg2]
        repeat (
          first
            | refine WO_dst rfl rfl (by kernel_rfl) (by kernel_rfl) ?_
            | refine Ev_move rfl ?_
            | refine Ev_extract rfl rfl ?_)
        refine Ev_alloc_ rfl tok4 (by omega) ?_
        intro T5 tn5 tok5 tq5 tf5
        repeat (
          refine WO_no rfl rfl ?_)
        refine Ev_store rfl rfl rfl rfl rfl tq5 (by show 0 + 3 ≤ 3; decide) (by omega) ?_
        intro T6 tn6 tq6 tf6
        have tok6 : Sok T6 := sok_upd tok5 (by omega) tn6 tq6 tf6
        have tf06 : ∀ c, c < S4.n → T6.h.get c = S4.h.get c := fun c hc => by rw [tf6 c (by omega), tf5 c (by omega), tf4 c (by omega), tf03 c hc]
        have hkn : knowsS (bare ones) nm ((jb : Nat) : Int) = ((hasN ones ((jb : Nat) : Int) nm).isSome || (alook nm ones[jb].off).isSome) := by unfold knowsS; rw [hnN, offS_bare hjbl]
        have hfd : fidx (knowsS (bare ones) nm) (LL.drop i) i = if knowsS (bare ones) nm ((jb : Nat) : Int) = true then some i else fidx (knowsS (bare ones) nm) (LL.drop (i + 1)) (i + 1) := by
          rw [List.drop_eq_getElem_cons hlt, hjb]; rfl
        rw [hkn] at hfd
        rw [hfd] at g6
        cases hB : (hasN ones ((jb : Nat) : Int) nm).isSome with
        | true =>
          rw [hB] at g6
          repeat (
            first
              | refine W_seq ?_
              | refine WO_nil ?_
              | refine V_seq ?_
              | refine W_region ?_
              | refine W_exit ?_
              | refine V_block_x rfl ?_
              | refine V_block_y rfl ?_
              | refine V_seq_x ?_
              | refine V_loop_x ?_
              | refine W_cond_t rfl ?_
              | refine WO_dst rfl rfl (by kernel_rfl) (by kernel_rfl) ?_
              | refine WO_guard_f rfl rfl rfl rfl rfl rfl (by kernel_rfl) (by kernel_rfl) ?_
              | refine Ev_move rfl ?_
              | refine Ev_assign rfl ?_
              | refine Ev_pick_t rfl rfl rfl ?_)
          exact V_mid ⟨i, g1, tok6, by omega, by omega, tf06, .inr ⟨hlt, g6⟩, rfl, rfl, rfl, rfl, rfl, rfl, rfl, trivial⟩
        | false =>
          rw [hB] at g6
          cases hC : (alook nm ones[jb].off).isSome with
          | true =>
            rw [hC] at g6
            repeat (
              first
                | refine W_seq ?_
                | refine WO_nil ?_
                | refine V_seq ?_
                | refine W_region ?_
                | refine W_exit ?_
                | refine V_block_x rfl ?_
                | refine V_block_y rfl ?_
                | refine V_seq_x ?_
                | refine V_loop_x ?_
                | refine W_cond_t rfl ?_
                | refine WO_dst rfl rfl (by kernel_rfl) (by kernel_rfl) ?_
                | refine WO_guard_t rfl rfl rfl rfl rfl (by kernel_rfl) (by kernel_rfl) ?_
                | refine Ev_move rfl ?_
                | refine Ev_assign rfl ?_
                | refine Ev_pick_f rfl rfl rfl ?_)
            exact V_mid ⟨i, g1, tok6, by omega, by omega, tf06, .inr ⟨hlt, g6⟩, rfl, rfl, rfl, rfl, rfl, rfl, rfl, trivial⟩
          | false =>
            rw [hC] at g6
            repeat (
              first
                | refine W_seq ?_
                | refine WO_nil ?_
                | refine V_seq ?_
                | refine W_region ?_
                | refine W_skip ?_
                | refine V_block ?_
                | refine W_cond_f rfl ?_
                | refine WO_dst rfl rfl (by kernel_rfl) (by kernel_rfl) ?_
                | refine WO_guard_t rfl rfl rfl rfl rfl (by kernel_rfl) (by kernel_rfl) ?_
                | refine Ev_move rfl ?_
                | refine Ev_assign rfl ?_
                | refine Ev_pick_f rfl rfl rfl ?_
                | refine Ev_addN rfl rfl (by simp only [lim]; omega) ?_)
            exact back (i + 1) T6 _ (by omega) ⟨hlt, tok6, by omega, by omega, tf06, g6⟩ ⟨rfl, rfl, rfl, rfl, rfl, rfl, rfl, trivial⟩
      · have hi : i = LL.length := by omega
        refine V_mid ⟨i, g1, g2, g3, by omega, g5, .inl ⟨hi, ?_⟩, rfl, rfl, rfl, rfl, rfl, rfl, rfl, trivial⟩
        rw [g6, hi, List.drop_length]; rfl
    rintro l' T ⟨i, g1, g2, g3, g4, g5, g6, hsub⟩
    refine V_weak hsub ?_
    have hT : Rs T p { y with tg := tg0 } ones ps := h4.far g2 g5 tg0 (fun _ _ => rfl)
    have vlT : Lt T vl 3 1 (LL.map intV) LL.length := ow4.keep (fun c hc => g5 c (bl4 c hc).2)
    have qT : T.h.get S1.n = some (.cells 95 [.str a, .int .i64 c, .int .i64 w] false) := by rw [g5 _ (by omega)]; exact q4
    have f0T : ∀ c, c < S.n → T.h.get c = S.h.get c := fun c hc => by rw [g5 c (by omega), f04 c hc]
    rcases g6 with ⟨hi, hfx⟩ | ⟨hlt, hfx⟩
    · repeat' (
        first
          | refine W_seq ?_
          | refine WO_nil ?_
          | refine V_seq ?_
          | refine W_region ?_
          | refine W_ret ?_
          | refine V_ret ?_
          | refine WO_dst rfl rfl (by kernel_rfl) (by kernel_rfl) ?_
          | refine Ev_len rfl rfl rfl rfl rfl vlT.rd.len ?_
          | refine Ev_move rfl ?_
          | refine Ev_assign rfl ?_
          | refine Ev_eqlN rfl rfl ?_
          | (refine W_cond rfl (fun hc => ?_) (fun hc => ?_) <;> (try dsimp only at hc) <;> try (exfalso; first | omega | exact hc rfl)))
      · refine V_done rfl rfl ?_
        refine ⟨⟨(0, 0), 22, ones, _, rfl, .none _ _ _ _ hno (by rw [← hLL]; exact hfx), .refl _, fun o ho => by have := hL o ho; omega, hT, tlo⟩, by omega, by omega, fun c hc _ => f0T c hc⟩
    obtain ⟨hx0, hx1⟩ := hlm2 _ (List.getElem_mem hlt)
    obtain ⟨jb, hjb⟩ : ∃ jb : Nat, LL[i] = (jb : Int) := ⟨(LL[i]).toNat, by omega⟩
    have hgi : LL[i]? = some ((jb : Nat) : Int) := by rw [List.getElem?_eq_getElem hlt, hjb]
    have hjbl : jb < ones.length := by omega
    have hil : ((i : Nat) : Int) ≠ ((LL.length : Nat) : Int) := by omega
    have hfx' : fidx (knowsS (bare ones) nm) (lineS (bare ones) ((j : Nat) : Int)) 0 = some i := by rw [← hLL]; exact hfx
    have hgi' : (lineS (bare ones) ((j : Nat) : Int))[i]? = some ((jb : Nat) : Int) := by rw [← hLL]; exact hgi
    repeat' (
      first
        | refine W_seq ?_
        | refine WO_nil ?_
        | refine V_seq ?_
        | refine W_region ?_
        | refine W_skip ?_
        | refine WO_dst rfl rfl (by kernel_rfl) (by kernel_rfl) ?_
        | refine Ev_len rfl rfl rfl rfl rfl vlT.rd.len ?_
        | refine Ev_move rfl ?_
        | refine Ev_eqlN rfl rfl ?_
        | (refine W_cond rfl (fun hc => ?_) (fun hc => ?_) <;> (try dsimp only at hc) <;> try (exfalso; first | omega | exact hc rfl)))
    refine Ev_indexAddr_rd (i := i) rfl rfl rfl rfl rfl vlT.rd hlt ?_
    intro q hq
    repeat (
      refine WO_dst rfl rfl (by kernel_rfl) (by kernel_rfl) ?_)
    refine Ev_load_pt rfl rfl rfl hq (int_get hgi) (veq_int _ _) ?_
    repeat (
      first
        | refine W_seq ?_
        | refine WO_nil ?_
        | refine V_seq ?_
        | refine W_region ?_
        | refine WO_dst rfl rfl (by kernel_rfl) (by kernel_rfl) ?_
        | refine Ev_move rfl ?_
        | refine Ev_assign rfl ?_)
    refine Ev_call rfl rfl ((has_runs (n := ((jb : Nat) : Int)) (nm := nm) hT hl6 (by omega)).mono ?_)
    rintro _ T1 - ⟨rfl, tok1, tle1, tn1, tf1⟩
    obtain ⟨a1, c1, w1, hg1, hc1⟩ : ∃ a c w, fdnV nm (hasN ones ((jb : Nat) : Int) nm) = .agg [.str a, .int .i64 c, .int .i64 w] ∧ ∀ x, hasN ones ((jb : Nat) : Int) nm = some x → a = nm ∧ c = x.1 ∧ w = x.2 := by
      cases hasN ones ((jb : Nat) : Int) nm with
      | none => exact ⟨[], 0, 0, rfl, fun x hx => (by cases hx)⟩
      | some x => exact ⟨nm, x.1, x.2, rfl, fun z hz => (by cases hz; exact ⟨rfl, rfl, rfl⟩)⟩
    rw [hg1]
    have q1 : T1.h.get S1.n = some (.cells 95 [.str a, .int .i64 c, .int .i64 w] false) := by rw [tf1 _ (by omega)]; exact qT
    repeat (
      first
        | refine WO_dst rfl rfl (by kernel_rfl) (by kernel_rfl) ?_
        | refine WO_no rfl rfl ?_
        | refine Ev_move rfl ?_
        | refine Ev_extract rfl rfl ?_)
    refine Ev_store rfl rfl rfl rfl rfl q1 (by show 0 + 3 ≤ 3; decide) (by omega) ?_
    intro T2 tn2 tq2 tf2
    have tok2 : Sok T2 := sok_upd tok1 (by omega) tn2 tq2 tf2
    have tq2 : T2.h.get S1.n = some (.cells 95 [.str a1, .int .i64 c1, .int .i64 w1] false) := tq2
    have tf02 : ∀ c, c < S.n → T2.h.get c = S.h.get c := fun c hc => by rw [tf2 c (by omega), tf1 c (by omega), f0T c hc]
    have hT2 : Rs T2 p { y with tg := tg0 } ones ps := h.far tok2 tf02 tg0 tlo
    have vl2 : Lt T2 vl 3 1 (LL.map intV) LL.length := ow4.keep (fun c hc => by rw [tf2 c (by have := (bl4 c hc).1; omega), tf1 c (by have := (bl4 c hc).2; omega), g5 c (bl4 c hc).2])
    have vb2 : Rd T2 vb 3 (bz.flatMap bzC) bz.length := hvb.keep (fun c hc => tf02 c (hvbn c hc))
    repeat (
      first
        | refine W_seq ?_
        | refine WO_nil ?_
        | refine V_seq ?_
        | refine W_region ?_
        | refine WO_dst rfl rfl (by kernel_rfl) (by kernel_rfl) ?_
        | refine Ev_move rfl ?_
        | refine Ev_assign rfl ?_
        | refine Ev_notb rfl ?_)
    refine W_cut2 (fun l' U => ∃ (x : Int × Int) (ones1 : List One) (y1 : RLay), Rs U p y1 ones1 ps ∧ Sk (bare ones) (bare ones1) ∧ (∀ o ∈ ones1, o.ldd.length ≤ L + 20 * μ) ∧ T2.n ≤ U.n ∧ U.n + 45000 ≤ S.n + costR μ ∧ (∀ c, c < T2.n → y1.tg c = tg0 c) ∧ (∀ c, c < S.n → y.tg c = 5 → U.h.get c = S.h.get c) ∧ U.h.get S1.n = some (.cells 95 (dnC (nm, x)) false) ∧ (∀ c, blkOf vl = some c → U.h.get c = T2.h.get c) ∧
      sub [(0, .ptr p 0), (2, .str nm), (11, .ptr S1.n 0), (13, vl), (14, .int .i64 ((i : Nat) : Int))] l' ∧
      ∀ e st', RSets ps nm x (bare ones1) (LL.drop i) e st' → RLoad ps (bare ones) ((j : Nat) : Int) nm bz (if e = 0 then x else (0, 0)) e st') ?_ ?_
    · cases hB : hasN ones ((jb : Nat) : Int) nm with
      | some x =>
        obtain ⟨rfl, rfl, rfl⟩ := hc1 x hB
        repeat (
          first
            | refine W_skip ?_
            | refine W_cond_f rfl ?_)
        exact V_mid2 ⟨x, ones, _, hT2, .refl _, fun o ho => by have := hL o ho; omega, Nat.le_refl _, by omega, fun _ _ => rfl, fun c hc _ => tf02 c hc, tq2, fun _ _ => rfl, ⟨rfl, rfl, rfl, rfl, rfl, trivial⟩, fun e st' hs' => .done _ _ _ _ i _ x e st' hno hfx' hgi' (by rw [hnN]; exact hB) (by rw [← hLL]; exact hs')⟩
      | none =>
        have hx0' : hasS (bare ones) ((jb : Nat) : Int) nm = none := by rw [hnN]; exact hB
        obtain ⟨o, hoff⟩ : ∃ o, alook nm ones[jb].off = some o := by
          obtain ⟨_, x, hx, hpx⟩ := fidx_some hfx
          rw [Nat.sub_zero, hgi] at hx
          cases hx
          unfold knowsS at hpx
          rw [hx0', offS_bare hjbl] at hpx
          cases ho : alook nm ones[jb].off with
          | none => rw [ho] at hpx; cases hpx
          | some o => exact ⟨o, rfl⟩
        have hoS : offS (bare ones) ((jb : Nat) : Int) nm = some o := by rw [offS_bare hjbl]; exact hoff
        repeat (
          first
            | refine W_seq ?_
            | refine W_region ?_
            | refine W_cond_t rfl ?_
            | refine WO_dst rfl rfl (by kernel_rfl) (by kernel_rfl) ?_
            | refine Ev_move rfl ?_)
        refine Ev_call rfl rfl ((find_runs (nm := nm) hT2 hjbl (hol _ (List.getElem_mem hjbl)) (by omega)).mono ?_)
        rintro _ T3 - ⟨rfl, tok3, tle3, tn3, tf3⟩
        rw [hoff]
        repeat (
          first
            | refine WO_dst rfl rfl (by kernel_rfl) (by kernel_rfl) ?_
            | refine Ev_move rfl ?_
            | refine Ev_extract rfl rfl ?_)
        refine Ev_alloc_ rfl tok3 (by omega) ?_
        intro T4 tn4 tok4 tq4 tf4
        repeat (
          refine WO_no rfl rfl ?_)
        refine Ev_store (v := .agg (offC (nm, o))) rfl rfl rfl rfl rfl tq4 (by show 0 + 3 ≤ 3; decide) (by omega) ?_
        intro T5 tn5 tq5 tf5
        have tok5 : Sok T5 := sok_upd tok4 (by omega) tn5 tq5 tf5
        have tq5 : T5.h.get T3.n = some (.cells 84 (offC (nm, o)) false) := tq5
        have tf25 : ∀ c, c < T2.n → T5.h.get c = T2.h.get c := fun c hc => by rw [tf5 c (by omega), tf4 c (by omega), tf3 c hc]
        have hT5 : Rs T5 p { y with tg := tg0 } ones ps := hT2.far tok5 tf25 tg0 (fun _ _ => rfl)
        have vb5 : Rd T5 vb 3 (bz.flatMap bzC) bz.length := vb2.keep (fun c hc => tf25 c (by have := hvbn c hc; omega))
        have q5 : T5.h.get S1.n = some (.cells 95 [.str a1, .int .i64 c1, .int .i64 w1] false) := by rw [tf25 _ (by omega)]; exact tq2
        repeat (
          first
            | refine W_seq ?_
            | refine WO_nil ?_
            | refine V_seq ?_
            | refine W_region ?_
            | refine W_block ?_
            | refine WO_dst rfl rfl (by kernel_rfl) (by kernel_rfl) ?_
            | refine Ev_assign rfl ?_)
        refine W_inv (fun k : Nat => [(23, .int .i64 ((k : Nat) : Int)), (21, .ptr T3.n 0), (19, .int .i64 ((jb : Nat) : Int)), (14, .int .i64 ((i : Nat) : Int)), (13, vl), (11, .ptr S1.n 0), (3, vb), (2, .str nm), (0, .ptr p 0)]) (fun k U => U = T5 ∧ k ≤ bz.length ∧ ∀ i, i < k → bz[i]? ≠ some (((jb : Nat) : Int), nm)) (fun k => bz.length - k) ?_ 0 ⟨rfl, Nat.zero_le _, fun i hi => by omega⟩ ⟨rfl, rfl, rfl, rfl, rfl, rfl, rfl, rfl, rfl, trivial⟩
        rintro k U ⟨rfl, hk, hkb⟩ back
        repeat' (
          first
            | refine W_seq ?_
            | refine WO_nil ?_
            | refine V_seq ?_
            | refine W_region ?_
            | refine W_skip ?_
            | refine W_block ?_
            | refine W_exit ?_
            | refine V_block_x rfl ?_
            | refine V_seq_x ?_
            | refine V_loop_x ?_
            | refine WO_dst rfl rfl (by kernel_rfl) (by kernel_rfl) ?_
            | refine Ev_len rfl rfl rfl rfl rfl vb5.len ?_
            | refine Ev_move rfl ?_
            | refine Ev_lssN rfl rfl ?_
            | refine Ev_fieldAddr rfl rfl rfl rfl rfl rfl ?_
            | (refine W_cond rfl (fun hc => ?_) (fun hc => ?_) <;> (try dsimp only at hc) <;> try (exfalso; first | omega | exact hc rfl)))
        · have hklt : k < bz.length := by assumption
          obtain ⟨z, hz⟩ : ∃ z, bz[k]? = some z := ⟨_, List.getElem?_eq_getElem hklt⟩
          refine Ev_indexAddr_rd (i := k) rfl rfl rfl rfl rfl vb5 hklt ?_
          intro q2 hq2
          repeat (
            refine WO_dst rfl rfl (by kernel_rfl) (by kernel_rfl) ?_)
          refine Ev_fieldAddr_pt rfl rfl rfl rfl rfl rfl hq2 ?_
          intro q3 hq3
          repeat (
            refine WO_dst rfl rfl (by kernel_rfl) (by kernel_rfl) ?_)
          refine Ev_load_pt (v := .int .i64 z.1) rfl rfl rfl hq3 (flat_cell (f := bzC) (sz := 3) (j := 0) (fun _ => rfl) hz rfl) (veq_int _ _) ?_
          repeat' (
            first
              | refine WO_nil ?_
              | refine V_seq ?_
              | refine W_region ?_
              | refine W_skip ?_
              | refine V_block ?_
              | refine W_cond_f rfl ?_
              | refine WO_dst rfl rfl (by kernel_rfl) (by kernel_rfl) ?_
              | refine WO_guard_t rfl rfl rfl rfl rfl (by kernel_rfl) (by kernel_rfl) ?_
              | refine WO_guard_f rfl rfl rfl rfl rfl rfl (by kernel_rfl) (by kernel_rfl) ?_
              | refine Ev_move rfl ?_
              | refine Ev_assign rfl ?_
              | refine Ev_pick_f rfl rfl rfl ?_
              | refine Ev_eql rfl rfl ?_
              | refine Ev_addN rfl rfl (by simp only [lim]; omega) ?_
              | (refine WO_guard_dt rfl rfl rfl rfl rfl (by kernel_rfl) (by kernel_rfl) (fun hg => ?_) (fun hg => ?_) <;> (try dsimp only at hg) <;> try (exfalso; first | omega | exact hg rfl)))
          · have he1 : z.1 = ((jb : Nat) : Int) := by assumption
            refine Ev_indexAddr_rd (i := k) rfl rfl rfl rfl rfl vb5 hklt ?_
            intro q4 hq4
            repeat (
              first
                | refine WO_dst rfl rfl (by kernel_rfl) (by kernel_rfl) ?_
                | refine WO_guard_t rfl rfl rfl rfl rfl (by kernel_rfl) (by kernel_rfl) ?_)
            refine Ev_fieldAddr_pt rfl rfl rfl rfl rfl rfl hq4 ?_
            intro q6 hq6
            repeat (
              first
                | refine WO_dst rfl rfl (by kernel_rfl) (by kernel_rfl) ?_
                | refine WO_guard_t rfl rfl rfl rfl rfl (by kernel_rfl) (by kernel_rfl) ?_)
            refine Ev_load_pt (v := .str z.2) rfl rfl rfl hq6 (flat_cell (f := bzC) (sz := 3) (j := 2) (fun _ => rfl) hz rfl) (veq_str _) ?_
            repeat' (
              first
                | refine W_seq ?_
                | refine WO_nil ?_
                | refine V_seq ?_
                | refine W_region ?_
                | refine W_skip ?_
                | refine W_ret ?_
                | refine V_ret ?_
                | refine V_block ?_
                | refine WO_dst rfl rfl (by kernel_rfl) (by kernel_rfl) ?_
                | refine WO_guard_t rfl rfl rfl rfl rfl (by kernel_rfl) (by kernel_rfl) ?_
                | refine Ev_move rfl ?_
                | refine Ev_assign rfl ?_
                | refine Ev_pick_t rfl rfl rfl ?_
                | refine Ev_seql rfl rfl ?_
                | refine Ev_addN rfl rfl (by simp only [lim]; omega) ?_
                | (refine W_cond rfl (fun hc => ?_) (fun hc => ?_) <;> (try dsimp only at hc) <;> try (exfalso; first | omega | exact hc rfl)))
            · have he2 : z.2 = nm := by assumption
              refine V_ret2 (V_done rfl rfl ?_)
              have hmem : (((jb : Nat) : Int), nm) ∈ bz := by
                have : z = (((jb : Nat) : Int), nm) := by rw [← he1, ← he2]
                rw [← this]; exact List.mem_of_getElem? hz
              exact ⟨⟨(0, 0), 24, ones, _, rfl, .circ _ _ _ _ i _ hno hfx' hgi' hx0' hmem, .refl _, fun o ho => by have := hL o ho; omega, hT5, tlo⟩, by omega, by omega, fun c hc _ => by rw [tf25 c (by omega), tf02 c hc]⟩
            · have he2 : z.2 ≠ nm := by assumption
              refine back (k + 1) U _ (by omega) ⟨rfl, hklt, fun i' hi' e => ?_⟩ ⟨rfl, rfl, rfl, rfl, rfl, rfl, rfl, rfl, rfl, trivial⟩
              by_cases hik : i' = k
              · rw [hik, hz] at e; cases e; exact he2 rfl
              · exact hkb i' (by omega) e
          · have he1 : z.1 ≠ ((jb : Nat) : Int) := by assumption
            refine back (k + 1) U _ (by omega) ⟨rfl, hklt, fun i' hi' e => ?_⟩ ⟨rfl, rfl, rfl, rfl, rfl, rfl, rfl, rfl, rfl, trivial⟩
            by_cases hik : i' = k
            · rw [hik, hz] at e; cases e; exact he1 rfl
            · exact hkb i' (by omega) e
        · have hkl : k = bz.length := by omega
          have hnb : (((jb : Nat) : Int), nm) ∉ bz := fun hm => by
            obtain ⟨i', hi'⟩ := List.mem_iff_getElem?.1 hm
            exact hkb i' (by rw [hkl]; exact (List.getElem?_eq_some_iff.1 hi').1) hi'
          repeat (
            first
              | refine WO_nil ?_
              | refine V_seq ?_
              | refine WO_dst rfl rfl (by kernel_rfl) (by kernel_rfl) ?_
              | refine Ev_load rfl rfl rfl tq5 rfl (veq_str _) ?_
              | refine Ev_sneq rfl rfl ?_)
          refine W_cut2 (fun l' V => ∃ (ones1 : List One) (y1 : RLay), Rs V p y1 ones1 ps ∧ Sk (bare ones) (bare ones1) ∧ (∀ o ∈ ones1, o.ldd.length ≤ L + 20 * μ) ∧ U.n ≤ V.n ∧ V.n + 45100 ≤ S.n + costR μ ∧ (∀ c, c < U.n → y1.tg c = tg0 c) ∧ (∀ c, c < U.n → tg0 c = 5 → V.h.get c = U.h.get c) ∧
            sub [(0, .ptr p 0), (2, .str nm), (11, .ptr S1.n 0), (13, vl), (14, .int .i64 ((i : Nat) : Int)), (19, .int .i64 ((jb : Nat) : Int)), (21, .ptr T3.n 0)] l' ∧
            ∀ e st', RSets ps nm (o.2, ((jb : Nat) : Int)) (bare ones1) (LL.drop i) e st' → RLoad ps (bare ones) ((j : Nat) : Int) nm bz (if e = 0 then (o.2, ((jb : Nat) : Int)) else (0, 0)) e st') ?_ ?_
          · repeat' (
              first
                | refine W_seq ?_
                | refine W_skip ?_
                | (refine W_cond rfl (fun hc => ?_) (fun hc => ?_) <;> (try dsimp only at hc) <;> try (exfalso; first | omega | exact hc rfl)))
            · have hne : o.1 ≠ [] := by assumption
              have hkK := hK _ _ o (by omega) hoS
              have hcnt : K.countP (fun k => decide (k ∉ bz ++ [(((jb : Nat) : Int), nm)])) < K.countP (fun k => decide (k ∉ bz)) := by
                refine countP_lt (k := (((jb : Nat) : Int), nm)) (fun q _ hq => ?_) hkK (decide_eq_true hnb) (decide_eq_false (fun hh => hh (List.mem_append_right _ (List.mem_singleton.2 rfl))))
                have hq := of_decide_eq_true hq
                exact decide_eq_true (fun hh => hq (List.mem_append_left _ hh))
              obtain ⟨ν, hν⟩ : ∃ ν, μ = ν + 1 := ⟨μ - 1, by omega⟩
              have hcs : costR μ = costR ν + 50000 := by rw [hν]; exact costR_s ν
              have hD : ∀ f ∈ [(⟨T3.n, .cells 84 (offC (nm, o)) false, none⟩ : Fct)], U.h.get f.id = some f.x := by
                intro f hf; rw [List.mem_singleton] at hf; subst hf; exact tq5
              refine W_drawnZ 13 [⟨T3.n, .cells 84 (offC (nm, o)) false, none⟩] ?_ (by kernel_rfl) ?_
              · intro f hf; rw [List.mem_singleton] at hf; subst hf; exact ⟨rfl, by dsimp only; omega, tq5⟩
              repeat (
                first
                  | refine WZ_pa rfl rfl (by kernel_rfl) (by kernel_rfl) rfl ?_
                  | refine Ev_move rfl ?_
                  | refine Ev_fieldAddr rfl rfl rfl rfl rfl rfl ?_)
              refine WZ_rf (by kernel_rfl) rfl rfl (by kernel_rfl) (by kernel_rfl) hD (FPD_load (p := .ptr T3.n (0 + 1)) (v := .str o.1) rfl rfl rfl (pt_of tq5) rfl (fun b hb => by cases hb; exact ⟨_, List.mem_cons_self .., rfl, tq5, fun j hj => by cases hj⟩)) (veq_str _) ?_
              repeat (
                refine WZ_pa rfl rfl (by kernel_rfl) (by kernel_rfl) rfl ?_)
              refine Ev_buildSlice rfl rfl rfl rfl rfl rfl tok5 (by omega) ?_
              intro U1 un1 uok1 uq1 uf1
              have vb1 : Rd U1 vb 3 (bz.flatMap bzC) bz.length := vb5.keep (fun c hc => uf1 c (by have := hvbn c hc; omega))
              have one_bz : (bz.flatMap bzC).all AV.one = true := by
                rw [List.all_flatMap, List.all_eq_true]
                intro z _; rfl
              repeat (
                first
                  | refine WZ_pa rfl rfl (by kernel_rfl) (by kernel_rfl) rfl ?_
                  | refine Ev_move rfl ?_)
              refine WZ_ld rfl rfl (by kernel_rfl) (by kernel_rfl) (fun _ _ => rfl) ?_
              refine Ev_append_gz (el := 93) (cs := []) (m := 0) rfl rfl rfl rfl rfl rfl rfl rfl rfl rfl (.inr ⟨rfl, rfl, U.n, 0, rfl, Rd_lit (m := 0) uq1 rfl rfl⟩) vb1 one_bz uok1 (by omega) (by dsimp only; omega) (by omega) ?_
              intro v2 U2 ule2 un2 uok2 ugz2 uf2 ub2
              have f2a : ∀ c, c < U.n → U2.h.get c = U.h.get c := fun c hc => by rw [uf2 c (fun e => by cases e; omega) (by omega), uf1 c hc]
              have tq2' : U2.h.get T3.n = some (.cells 84 (offC (nm, o)) false) := by rw [f2a _ (by omega)]; exact tq5
              refine ⟨fun _ f hf => ?_, [], by simp, ?_⟩
              · try rw [List.append_nil] at hf
                rw [List.mem_singleton] at hf; subst hf; exact tq2'
              repeat (
                first
                  | refine WZ_pa rfl rfl (by kernel_rfl) (by kernel_rfl) rfl ?_
                  | refine Ev_move rfl ?_)
              refine Ev_build (v := .agg (bzC (((jb : Nat) : Int), nm))) rfl rfl ?_
              repeat (
                refine WZ_pa rfl rfl (by kernel_rfl) (by kernel_rfl) rfl ?_)
              refine Ev_buildSlice rfl rfl rfl rfl rfl rfl uok2 (by omega) ?_
              intro U3 un3 uok3 uq3 uf3
              have ugz3 := ugz2.keep (S' := U3) (fun c hc => uf3 c (ugz2.lt uok2 hc))
              repeat (
                refine W_seq ?_)
              refine WZ_ld rfl rfl (by kernel_rfl) (by kernel_rfl) (fun _ _ => rfl) ?_
              refine Ev_append_gz (new := bzC (((jb : Nat) : Int), nm)) (k := 1) rfl rfl rfl rfl rfl rfl rfl rfl rfl rfl ugz3 (Rd_lit (m := 1) uq3 rfl rfl) rfl uok3 (by omega) (by dsimp only; omega) (by omega) ?_
              intro v4 U4 ule4 un4 uok4 ugz4 uf4 ub4
              have b2 : ∀ c, blkOf v2 = some c → U.n ≤ c := fun c hc => by
                rcases ub2 c hc with e | e
                · cases e; exact Nat.le_refl _
                · omega
              have b4' : ∀ c, blkOf v4 = some c → U.n ≤ c := fun c hc => by
                rcases ub4 c hc with e | e
                · exact b2 c e
                · omega
              have f4a : ∀ c, c < U.n → U4.h.get c = U.h.get c := fun c hc => by rw [uf4 c (fun e => by have := b2 c e; omega) (by omega), uf3 c (by omega), f2a c hc]
              have tq4' : U4.h.get T3.n = some (.cells 84 (offC (nm, o)) false) := by rw [f4a _ (by omega)]; exact tq5
              refine ⟨fun _ f hf => ?_, [], by simp, ?_⟩
              · try rw [List.append_nil] at hf
                rw [List.mem_singleton] at hf; subst hf; exact tq4'
              have hU4 : Rs U4 p { y with tg := tg0 } ones ps := hT5.far uok4 f4a tg0 (fun _ _ => rfl)
              have rd4 : Rd U4 v4 3 ((bz ++ [(((jb : Nat) : Int), nm)]).flatMap bzC) (bz ++ [(((jb : Nat) : Int), nm)]).length := by
                refine ugz4.rd.eq ?_ ?_
                · rw [List.flatMap_append]; simp
                · simp
              refine WZ_ld rfl rfl (by kernel_rfl) (by kernel_rfl) (fun _ _ => rfl) ?_
              refine Ev_call rfl rfl ((ih ν (by omega) (K := K) (L := L) (bz := bz ++ [(((jb : Nat) : Int), nm)]) (vb := v4) (nm := o.1) hU4 hpar hjbl hps hs hpl hol hL (by omega) rd4 (fun c hc => thi c (by have := b4' c hc; omega)) (by rw [List.length_append, List.length_singleton]; omega) hK (by omega) (by omega)).mono ?_)
              rintro _ U5 - hR
              have r1 := hR.le
              have r2 := hR.n
              obtain ⟨x1, e1, ones1, y1, rfl, hlo, hsk, hll1, hRs1, htg1⟩ := hR.ex
              have htg1 : ∀ c, c < U4.n → y1.tg c = tg0 c := htg1
              have hfo1 : ∀ c, c < U4.n → tg0 c = 5 → U5.h.get c = U4.h.get c := fun c h1 h2 => hR.fo c h1 h2
              refine ⟨fun h => absurd h (by decide), [], by simp, ?_⟩
              repeat (
                first
                  | refine WZ_nil ?_
                  | refine WZ_pa rfl rfl (by kernel_rfl) (by kernel_rfl) rfl ?_
                  | refine W_seq ?_
                  | refine WO_nil ?_
                  | refine V_seq ?_
                  | refine W_region ?_
                  | refine WO_dst rfl rfl (by kernel_rfl) (by kernel_rfl) ?_
                  | refine Ev_move rfl ?_
                  | refine Ev_assign rfl ?_
                  | refine Ev_extract rfl rfl ?_
                  | refine Ev_neq rfl rfl ?_)
              repeat' (
                first
                  | refine W_seq ?_
                  | refine WO_nil ?_
                  | refine V_seq ?_
                  | refine W_region ?_
                  | refine W_skip ?_
                  | refine W_ret ?_
                  | refine WO_dst rfl rfl (by kernel_rfl) (by kernel_rfl) ?_
                  | refine Ev_move rfl ?_
                  | refine Ev_assign rfl ?_
                  | (refine W_cond rfl (fun hc => ?_) (fun hc => ?_) <;> (try dsimp only at hc) <;> try (exfalso; first | omega | exact hc rfl)))
              · have he1 : e1 ≠ 0 := by assumption
                refine V_ret2 (V_ret2 (V_done rfl rfl ?_))
                refine ⟨⟨(0, 0), e1, ones1, y1, rfl, .sup _ _ _ _ i _ o x1 e1 (bare ones1) hno hfx' hgi' hx0' hnb hoS hne hlo he1, hsk, fun o ho => by have := hll1 o ho; omega, hRs1, fun c hc => by rw [htg1 c (by omega)]; exact tlo c hc⟩, by omega, by omega, fun c hc h5 => ?_⟩
                rw [hfo1 c (by omega) (by rw [tlo c hc]; exact h5), f4a c (by omega), tf25 c (by omega), tf02 c hc]
              · have he1 : e1 = 0 := Classical.byContradiction (by assumption)
                subst he1
                refine V_mid2 ⟨ones1, y1, hRs1, hsk, fun o ho => by have := hll1 o ho; omega, by omega, by omega, fun c hc => htg1 c (by omega), fun c hc h5 => by rw [hfo1 c (by omega) h5, f4a c hc], ⟨rfl, rfl, rfl, rfl, rfl, rfl, rfl, trivial⟩, fun e st' hs' => .def1 _ _ _ _ i _ o x1 (bare ones1) e st' hno hfx' hgi' hx0' hnb hoS hne hlo (by rw [← hLL]; exact hs')⟩
            · have hne : o.1 = [] := Classical.byContradiction (by assumption)
              exact V_mid2 ⟨ones, _, hT5, .refl _, fun o ho => by have := hL o ho; omega, Nat.le_refl _, by omega, fun _ _ => rfl, fun _ _ _ => rfl, ⟨rfl, rfl, rfl, rfl, rfl, rfl, rfl, trivial⟩, fun e st' hs' => .def0 _ _ _ _ i _ o e st' hno hfx' hgi' hx0' hnb hoS hne (by rw [← hLL]; exact hs')⟩
          rintro l'' V ⟨ones1, y1, hV, hsk, hll1, vle, vn, vtg, vfo, hsub2, hcont⟩
          refine V_weak hsub2 ?_
          have vq : V.h.get T3.n = some (.cells 84 (offC (nm, o)) false) := by rw [vfo _ (by omega) (thi _ (by omega))]; exact tq5
          have vq1 : V.h.get S1.n = some (.cells 95 [.str a1, .int .i64 c1, .int .i64 w1] false) := by rw [vfo _ (by omega) (thi _ (by omega))]; exact q5
          repeat (
            first
              | refine V_seq ?_
              | refine W_region ?_
              | refine WO_dst rfl rfl (by kernel_rfl) (by kernel_rfl) ?_
              | refine Ev_load rfl rfl rfl vq rfl (veq_int _ _) ?_
              | refine Ev_move rfl ?_
              | refine Ev_fieldAddr rfl rfl rfl rfl rfl rfl ?_)
          refine Ev_build (v := .agg (dnC (nm, (o.2, ((jb : Nat) : Int))))) rfl rfl ?_
          repeat (
            refine WO_no rfl rfl ?_)
          refine Ev_store (v := .agg (dnC (nm, (o.2, ((jb : Nat) : Int))))) rfl rfl rfl rfl rfl vq1 (by show 0 + 3 ≤ 3; decide) (by omega) ?_
          intro V1 vn1 vq2 vf1
          have vq2 : V1.h.get S1.n = some (.cells 95 (dnC (nm, (o.2, ((jb : Nat) : Int)))) false) := vq2
          have vok1 : Sok V1 := sok_upd hV.ok (by omega) vn1 vq2 vf1
          have hV1 : Rs V1 p y1 ones1 ps := hV.other vok1 (fun c hc h5 => vf1 c (fun e => h5 (by rw [e, vtg _ (by omega)]; exact thi _ (by omega))))
          repeat (
            refine WO_nil ?_)
          refine V_mid2 ⟨(o.2, ((jb : Nat) : Int)), ones1, y1, hV1, hsk, hll1, by omega, by omega, fun c hc => vtg c (by omega), fun c hc h5 => ?_, vq2, fun c hc => ?_, ⟨rfl, rfl, rfl, rfl, rfl, trivial⟩, hcont⟩
          · rw [vf1 c (by omega), vfo c (by omega) (by rw [tlo c hc]; exact h5), tf25 c (by omega), tf02 c hc]
          · have := bl4 c hc
            rw [vf1 c (by omega), vfo c (by omega) (thi c (by omega)), tf25 c (by omega)]
    rintro l'' U ⟨x, ones1, y1, hU, hsk, hll1, ule, un, utg, ufo, uq, uvl, hsub2, hcont⟩
    refine V_weak hsub2 ?_
    have hl1 : ones1.length = ones.length := sk_len hsk
    have vlU : Lt U vl 3 1 (LL.map intV) LL.length := vl2.keep uvl
    obtain ⟨bl, kl, spl, hvl, hbl, hbll, _⟩ := vlU.cell (by omega)
    have z1 : S.n ≤ S1.n := by omega
    have z2 : S1.n < T2.n := by omega
    have z3 : T2.n ≤ S.n + 1000 := by omega
    have bl5 : ∀ c, blkOf vl = some c → S.n ≤ c ∧ c < T2.n := fun c hc => by have := bl4 c hc; omega
    have hblr := bl5 bl (by rw [hvl]; rfl)
    clear hbll bl4 b4 hg hg1 hc1 hx0 hx1 hjb hgi hil hfx hfx' hgi' n1 n2 n3 n4 le1 le4 tn1 tle1 tn2 g1 g3 g4 hK hμ hbzl hvb htb hvbn hl6 hnN hno hA hL hol hpar
    repeat (
      first
        | refine W_seq ?_
        | refine WO_nil ?_
        | refine V_seq ?_
        | refine W_region ?_
        | refine W_block ?_
        | refine WO_dst rfl rfl (by kernel_rfl) (by kernel_rfl) ?_
        | refine Ev_move rfl ?_
        | refine Ev_assign rfl ?_)
    refine W_inv (fun a : Nat × List One × RLay => [(27, .int .i64 ((a.1 : Nat) : Int)), (13, vl), (11, .ptr S1.n 0), (2, .str nm), (0, .ptr p 0)])
      (fun a V => i ≤ a.1 ∧ a.1 ≤ LL.length ∧ Rs V p a.2.2 a.2.1 ps ∧ Sk (bare ones) (bare a.2.1) ∧ (∀ o ∈ a.2.1, o.ldd.length ≤ L + 20 * μ + (a.1 - i)) ∧ U.n ≤ V.n ∧ V.n ≤ U.n + 2500 * (a.1 - i) ∧ (∀ c, c < U.n → a.2.2.tg c = y1.tg c) ∧ (∀ c, c < U.n → y1.tg c = 5 → V.h.get c = U.h.get c) ∧
        ∀ e st', RSets ps nm x (bare a.2.1) (LL.drop a.1) e st' → RLoad ps (bare ones) ((j : Nat) : Int) nm bz (if e = 0 then x else (0, 0)) e st')
      (fun a => LL.length - a.1) ?_ (i, ones1, y1) ⟨Nat.le_refl _, by dsimp only; omega, hU, hsk, fun o ho => by have := hll1 o ho; dsimp only; omega, Nat.le_refl _, by dsimp only; omega, fun _ _ => rfl, fun _ _ _ => rfl, hcont⟩ ⟨rfl, rfl, rfl, rfl, rfl, trivial⟩
    rintro ⟨k, onk, yk⟩ V ⟨k1, k2, k3, k4, k5, k6, k7, k8, k9, k10⟩ back
    dsimp only at k1 k2 k3 k4 k5 k7 k8 k10 back
    have hlk : onk.length = ones.length := sk_len k4
    have ty1 : ∀ c, S.n ≤ c → c < T2.n → y1.tg c = 5 := fun c h1 h2 => by rw [utg c h2]; exact thi c h1
    have vq : V.h.get S1.n = some (.cells 95 (dnC (nm, x)) false) := by rw [k9 _ (by omega) (ty1 _ (by omega) (by omega))]; exact uq
    have vbl : V.h.get bl = some (.cells 3 (LL.map intV) spl) := by rw [k9 _ (by omega) (ty1 _ (by omega) (by omega))]; exact hbl
    have vlV : Lt V vl 3 1 (LL.map intV) LL.length := vlU.keep (fun c hc => by
      have := bl5 c hc
      exact k9 c (by omega) (ty1 c (by omega) (by omega)))
    have klen : ∀ o ∈ onk, o.ldd.length ≤ 1000000 := fun o ho => by have := k5 o ho; omega
    have fin : ∀ c, c < S.n → y.tg c = 5 → V.h.get c = S.h.get c := fun c hc h5 => by
      rw [k9 c (by omega) (by rw [utg c (by omega), tlo c hc]; exact h5), ufo c hc h5]
    repeat' (
      first
        | refine W_seq ?_
        | refine WO_nil ?_
        | refine V_seq ?_
        | refine W_region ?_
        | refine W_skip ?_
        | refine W_block ?_
        | refine W_exit ?_
        | refine V_block_x rfl ?_
        | refine V_seq_x ?_
        | refine V_loop_x ?_
        | refine WO_dst rfl rfl (by kernel_rfl) (by kernel_rfl) ?_
        | refine Ev_len rfl rfl rfl rfl rfl vlV.rd.len ?_
        | refine Ev_move rfl ?_
        | refine Ev_lssN rfl rfl ?_
        | (refine W_cond rfl (fun hc => ?_) (fun hc => ?_) <;> (try dsimp only at hc) <;> try (exfalso; first | omega | exact hc rfl)))
    · have hklt : k < LL.length := by assumption
      obtain ⟨hk0, hk1⟩ := hlm2 _ (List.getElem_mem hklt)
      obtain ⟨jk, hjk⟩ : ∃ jk : Nat, LL[k] = (jk : Int) := ⟨(LL[k]).toNat, by omega⟩
      have hgk : LL[k]? = some ((jk : Nat) : Int) := by rw [List.getElem?_eq_getElem hklt, hjk]
      have hjkl : jk < onk.length := by omega
      have hdrop : LL.drop k = ((jk : Nat) : Int) :: LL.drop (k + 1) := by rw [List.drop_eq_getElem_cons hklt, hjk]
      rw [hdrop] at k10
      have hbk : hasS (bare onk) ((jk : Nat) : Int) nm = hasN onk ((jk : Nat) : Int) nm := hasN_bare.symm
      refine Ev_indexAddr_rd (i := k) rfl rfl rfl rfl rfl vlV.rd hklt ?_
      intro q hq
      repeat (
        refine WO_dst rfl rfl (by kernel_rfl) (by kernel_rfl) ?_)
      refine Ev_load_pt rfl rfl rfl hq (int_get hgk) (veq_int _ _) ?_
      repeat (
        first
          | refine WO_dst rfl rfl (by kernel_rfl) (by kernel_rfl) ?_
          | refine Ev_move rfl ?_)
      refine Ev_call rfl rfl ((has_runs (n := ((jk : Nat) : Int)) (nm := nm) k3 klen (by omega)).mono ?_)
      rintro _ V1 - ⟨rfl, vok1, vle1, vn1, vf1⟩
      obtain ⟨a2, c2, w2, hg2⟩ : ∃ a c w, fdnV nm (hasN onk ((jk : Nat) : Int) nm) = .agg [.str a, .int .i64 c, .int .i64 w] := by
        cases hasN onk ((jk : Nat) : Int) nm with
        | none => exact ⟨[], 0, 0, rfl⟩
        | some x => exact ⟨nm, x.1, x.2, rfl⟩
      rw [hg2]
      repeat (
        first
          | refine WO_dst rfl rfl (by kernel_rfl) (by kernel_rfl) ?_
          | refine Ev_move rfl ?_
          | refine Ev_extract rfl rfl ?_)
      refine Ev_alloc_ rfl vok1 (by omega) ?_
      intro V2 vn2 vok2 vq2 vf2
      repeat (
        refine WO_no rfl rfl ?_)
      refine Ev_store rfl rfl rfl rfl rfl vq2 (by show 0 + 3 ≤ 3; decide) (by omega) ?_
      intro V3 vn3 vq3 vf3
      have vok3 : Sok V3 := sok_upd vok2 (by omega) vn3 vq3 vf3
      have f3 : ∀ c, c < V.n → V3.h.get c = V.h.get c := fun c hc => by rw [vf3 c (by omega), vf2 c (by omega), vf1 c hc]
      obtain ⟨yt, hyt⟩ : ∃ yt : RLay, yt = { yk with tg := fun c => if c < V.n then yk.tg c else 5 } := ⟨_, rfl⟩
      have ytlo : ∀ c, c < V.n → yt.tg c = yk.tg c := fun c hc => by rw [hyt]; exact if_pos hc
      have yt5 : ∀ c, V.n ≤ c → yt.tg c = 5 := fun c hc => by rw [hyt]; exact if_neg (by omega)
      have hV3 : Rs V3 p yt onk ps := by rw [hyt]; exact k3.far vok3 f3 _ (fun c hc => if_pos hc)
      have hpk : ∀ q ∈ ps, q.1 < onk.length ∧ q.2.1 < onk.length := fun q hq => by rw [hlk]; exact hps q hq
      cases hH : hasN onk ((jk : Nat) : Int) nm with
      | some z =>
        repeat (
          first
            | refine W_seq ?_
            | refine WO_nil ?_
            | refine V_seq ?_
            | refine W_region ?_
            | refine W_exit ?_
            | refine V_block_x rfl ?_
            | refine V_seq_x ?_
            | refine W_cond_t rfl ?_
            | refine WO_dst rfl rfl (by kernel_rfl) (by kernel_rfl) ?_
            | refine Ev_move rfl ?_
            | refine Ev_assign rfl ?_
            | refine Ev_addN rfl rfl (by simp only [lim]; omega) ?_)
        refine back (k + 1, onk, yt) V3 _ (by dsimp only; omega) ⟨by dsimp only; omega, by dsimp only; omega, hV3, k4, fun o ho => by have := k5 o ho; dsimp only; omega, by omega, by dsimp only; omega, fun c hc => by rw [ytlo c (by omega)]; exact k8 c hc, fun c hc h5 => by rw [f3 c (by omega)]; exact k9 c hc h5, fun e st' hs' => k10 e st' (.next _ _ _ _ _ _ (.had z (by rw [hbk]; exact hH)) hs')⟩ ⟨rfl, rfl, rfl, rfl, rfl, trivial⟩
      | none =>
        have hno2 : hasS (bare onk) ((jk : Nat) : Int) nm = none := by rw [hbk]; exact hH
        have vl3 : Lt V3 vl 3 1 (LL.map intV) LL.length := vlV.keep (fun c hc => f3 c (by have := bl5 c hc; omega))
        repeat (
          first
            | refine W_seq ?_
            | refine WO_nil ?_
            | refine V_seq ?_
            | refine W_region ?_
            | refine W_skip ?_
            | refine W_cond_f rfl ?_
            | refine WO_dst rfl rfl (by kernel_rfl) (by kernel_rfl) ?_
            | refine Ev_move rfl ?_
            | refine Ev_assign rfl ?_)
        refine Ev_indexAddr_rd (i := k) rfl rfl rfl rfl rfl vl3.rd hklt ?_
        intro q4 hq4
        repeat (
          refine WO_dst rfl rfl (by kernel_rfl) (by kernel_rfl) ?_)
        refine Ev_load_pt rfl rfl rfl hq4 (int_get hgk) (veq_int _ _) ?_
        repeat (
          first
            | refine WO_dst rfl rfl (by kernel_rfl) (by kernel_rfl) ?_
            | refine Ev_move rfl ?_)
        refine Ev_call rfl rfl ((rgroup_runs (j := jk) (nm := nm) hV3 hjkl hpk (by omega) hpl (by omega)).mono ?_)
        rintro vg V4 - ⟨bs, e1, e2, e3, e4, e5, e6, e7⟩
        have hV4 : Rs V4 p yt onk ps := hV3.far e4 e7 yt.tg (fun _ _ => rfl)
        repeat (
          first
            | refine WO_dst rfl rfl (by kernel_rfl) (by kernel_rfl) ?_
            | refine Ev_move rfl ?_)
        refine Ev_call rfl rfl ((rid_runs (nm := nm) hV4 e2 e1 (by omega) klen (by omega)).mono ?_)
        rintro _ V5 - ⟨wd, rfl, d1, d2, d3, d4, d5⟩
        have hgid := gidO_of e3 d1
        clear d1
        have f5 : ∀ c, c < V.n → V5.h.get c = V.h.get c := fun c hc => by rw [d5 c (by omega), e7 c (by omega), f3 c hc]
        have hV5 : Rs V5 p yt onk ps := by rw [hyt]; exact k3.far d2 f5 _ (fun c hc => if_pos hc)
        have vq5 : V5.h.get S1.n = some (.cells 95 (dnC (nm, x)) false) := by rw [f5 _ (by omega)]; exact vq
        have vbl5 : V5.h.get bl = some (.cells 3 (LL.map intV) spl) := by rw [f5 _ (by omega)]; exact vbl
        repeat' (
          first
            | refine W_seq ?_
            | refine WO_nil ?_
            | refine V_seq ?_
            | refine W_region ?_
            | refine W_skip ?_
            | refine W_ret ?_
            | refine V_ret ?_
            | refine W_cond_f rfl ?_
            | refine WO_dst rfl rfl (by kernel_rfl) (by kernel_rfl) ?_
            | refine WO_guard_t rfl rfl rfl rfl rfl (by kernel_rfl) (by kernel_rfl) ?_
            | refine WO_guard_f rfl rfl rfl rfl rfl rfl (by kernel_rfl) (by kernel_rfl) ?_
            | refine Ev_load rfl rfl rfl vq5 rfl (veq_int _ _) ?_
            | refine Ev_move rfl ?_
            | refine Ev_assign rfl ?_
            | refine Ev_pick_t rfl rfl rfl ?_
            | refine Ev_pick_f rfl rfl rfl ?_
            | refine Ev_geq rfl rfl ?_
            | refine Ev_neq rfl rfl ?_
            | refine Ev_fieldAddr rfl rfl rfl rfl rfl rfl ?_
            | (refine WO_guard_dt rfl rfl rfl rfl rfl (by kernel_rfl) (by kernel_rfl) (fun hg => ?_) (fun hg => ?_) <;> (try dsimp only at hg) <;> try (exfalso; first | omega | exact hg rfl))
            | (refine W_cond rfl (fun hc => ?_) (fun hc => ?_) <;> (try dsimp only at hc) <;> try (exfalso; first | omega | exact hc rfl)))
        · have hb : 0 ≤ wd ∧ wd ≠ x.1 := ⟨by assumption, by assumption⟩
          refine V_done rfl rfl ?_
          exact ⟨⟨(0, 0), 25, onk, yt, rfl, (k10 25 (bare onk) (.stop _ _ _ _ _ (.bound wd hno2 hgid hb) (by decide))), k4, fun o ho => by have := k5 o ho; omega, hV5, fun c hc => by rw [ytlo c (by omega), k8 c (by omega), utg c (by omega)]; exact tlo c hc⟩, by omega, by omega, fun c hc h5 => by rw [f5 c (by omega)]; exact fin c hc h5⟩
        all_goals
          have hb : ¬ (0 ≤ wd ∧ wd ≠ x.1) := by omega
          obtain ⟨v, hv, hin⟩ := hV5.getD hjkl
          obtain ⟨bd, kd, spd, hvd, hbd, hdl, hmk⟩ := hV5.d.cell (by omega)
          have tbd : yt.tg bd = 3 := hV5.td bd (by rw [hvd]; rfl)
          have bbd : bd < V.n := k3.d.lt k3.ok (by rw [hyt] at hvd; rw [hvd]; rfl)
          have t0 := hV5.t0
          have hdo : yt.ds.length = onk.length := hV5.ld
          have bpV : p < V.n := k3.ok _ _ k3.at_
          have hcell : yt.ds[0 + jk * 1]? = some v := by rw [Nat.zero_add, Nat.mul_one]; exact hv
          have hcl : (LL.map intV)[0 + k * 1]? = some (intV ((jk : Nat) : Int)) := by rw [Nat.zero_add]; exact int_get hgk
          have hin4 := klen _ (List.getElem_mem hjkl)
          have tin : ∀ c, blkOf v = some c → c < V.n ∧ yt.tg c = 7 + 2 * jk := fun c hc => ⟨k3.ltd (j := jk) (by rw [hyt] at hv; exact hv) hc, hV5.tdn jk v hv c hc⟩
          have tS1 : yt.tg S1.n = 5 := by rw [ytlo _ (by omega), k8 _ (by omega)]; exact ty1 _ (by omega) (by omega)
          have tbl : yt.tg bl = 5 := by rw [ytlo _ (by omega), k8 _ (by omega)]; exact ty1 _ (by omega) (by omega)
          have hD : ∀ f ∈ [(⟨p, .cells 81 [yt.va, yt.vo, yt.vd, yt.vp] false, none⟩ : Fct), ⟨bd, .cells 101 yt.ds spd, none⟩, ⟨bl, .cells 3 (LL.map intV) spl, none⟩, ⟨S1.n, .cells 95 (dnC (nm, x)) false, none⟩], V5.h.get f.id = some f.x := by
            intro f hf
            rcases List.mem_cons.1 hf with rfl | hf
            · exact hV5.at_
            rcases List.mem_cons.1 hf with rfl | hf
            · exact hbd
            rcases List.mem_cons.1 hf with rfl | hf
            · exact vbl5
            rw [List.mem_singleton] at hf; subst hf; exact vq5
          refine W_drawnZ 22 [⟨p, .cells 81 [yt.va, yt.vo, yt.vd, yt.vp] false, none⟩, ⟨bd, .cells 101 yt.ds spd, none⟩, ⟨bl, .cells 3 (LL.map intV) spl, none⟩, ⟨S1.n, .cells 95 (dnC (nm, x)) false, none⟩] ?_ (by kernel_rfl) ?_
          · intro f hf
            refine ⟨?_, ?_, hD f hf⟩
            all_goals
              rcases List.mem_cons.1 hf with rfl | hf
              · first | rfl | (dsimp only; omega)
              rcases List.mem_cons.1 hf with rfl | hf
              · first | rfl | (dsimp only; omega)
              rcases List.mem_cons.1 hf with rfl | hf
              · first | rfl | (dsimp only; omega)
              rw [List.mem_singleton] at hf; subst hf; first | rfl | (dsimp only; omega)
          repeat (
            first
              | refine WZ_pa rfl rfl (by kernel_rfl) (by kernel_rfl) rfl ?_
              | refine Ev_move rfl ?_
              | refine Ev_nilCheck rfl ?_
              | refine Ev_fieldAddr rfl rfl rfl rfl rfl rfl ?_)
          refine WZ_rf (by kernel_rfl) rfl rfl (by kernel_rfl) (by kernel_rfl) hD (FPD_load rfl rfl rfl (pt_of hV5.at_) rfl (fun b hb => by cases hb; exact ⟨_, List.mem_cons_self .., rfl, hV5.at_, fun j hj => by cases hj⟩)) hV5.d.rd.self ?_
          repeat (
            first
              | refine WZ_pa rfl rfl (by kernel_rfl) (by kernel_rfl) rfl ?_
              | refine Ev_move rfl ?_)
          refine Ev_indexAddr (i := k) (b := bl) (o := 0) (len := LL.length) (cap := kl) rfl (congrArg some hvl) rfl rfl rfl hklt ?_
          repeat (
            refine W_seq ?_)
          refine WZ_rf (by kernel_rfl) rfl rfl (by kernel_rfl) (by kernel_rfl) hD (FPD_load (p := .ptr bl (0 + k * 1)) (v := .int .i64 ((jk : Nat) : Int)) rfl rfl rfl (pt_of vbl5) hcl (fun b hb => by cases hb; exact ⟨_, List.mem_cons_of_mem _ (List.mem_cons_of_mem _ (List.mem_cons_self ..)), rfl, vbl5, fun j hj => by cases hj⟩)) (veq_int _ _) ?_
          repeat (
            first
              | refine WZ_pa rfl rfl (by kernel_rfl) (by kernel_rfl) rfl ?_
              | refine Ev_move rfl ?_
              | refine Ev_nilCheck rfl ?_
              | refine Ev_fieldAddr rfl rfl rfl rfl rfl rfl ?_)
          refine WZ_rf (by kernel_rfl) rfl rfl (by kernel_rfl) (by kernel_rfl) hD (FPD_load rfl rfl rfl (pt_of hV5.at_) rfl (fun b hb => by cases hb; exact ⟨_, List.mem_cons_self .., rfl, hV5.at_, fun j hj => by cases hj⟩)) hV5.d.rd.self ?_
          repeat (
            first
              | refine WZ_pa rfl rfl (by kernel_rfl) (by kernel_rfl) rfl ?_
              | refine Ev_move rfl ?_)
          refine Ev_indexAddr (i := k) (b := bl) (o := 0) (len := LL.length) (cap := kl) rfl (congrArg some hvl) rfl rfl rfl hklt ?_
          repeat (
            refine W_seq ?_)
          refine WZ_rf (by kernel_rfl) rfl rfl (by kernel_rfl) (by kernel_rfl) hD (FPD_load (p := .ptr bl (0 + k * 1)) (v := .int .i64 ((jk : Nat) : Int)) rfl rfl rfl (pt_of vbl5) hcl (fun b hb => by cases hb; exact ⟨_, List.mem_cons_of_mem _ (List.mem_cons_of_mem _ (List.mem_cons_self ..)), rfl, vbl5, fun j hj => by cases hj⟩)) (veq_int _ _) ?_
          repeat (
            refine WZ_pa rfl rfl (by kernel_rfl) (by kernel_rfl) rfl ?_)
          refine Ev_indexAddr (i := jk) (b := bd) (o := 0) (len := onk.length) (cap := kd) rfl (congrArg some hvd) rfl rfl rfl hjkl ?_
          repeat (
            refine W_seq ?_)
          refine WZ_rf (by kernel_rfl) rfl rfl (by kernel_rfl) (by kernel_rfl) hD (FPD_load (p := .ptr bd (0 + jk * 1)) (v := v) rfl rfl rfl (pt_of hbd) hcell (fun b hb => by cases hb; exact ⟨_, List.mem_cons_of_mem _ (List.mem_cons_self ..), rfl, hbd, fun j hj => by cases hj⟩)) hin.rd.self ?_
          repeat (
            refine W_seq ?_)
          refine WZ_rf (by kernel_rfl) rfl rfl (by kernel_rfl) (by kernel_rfl) hD (FPD_loadA (p := .ptr S1.n 0) (ds := dnC (nm, x)) rfl rfl rfl (pt_of vq5) (by show 0 + 3 ≤ 3; decide) rfl (fun b hb => by cases hb; exact ⟨_, List.mem_cons_of_mem _ (List.mem_cons_of_mem _ (List.mem_cons_of_mem _ (List.mem_cons_self ..))), rfl, vq5, fun j hj => by cases hj⟩)) (by show veqs (dnC (nm, x)) (dnC (nm, x)) = true; simp [veqs, veq_int, veq_str]) ?_
          repeat (
            refine WZ_pa rfl rfl (by kernel_rfl) (by kernel_rfl) rfl ?_)
          refine Ev_buildSlice rfl rfl rfl rfl rfl rfl d2 (by omega) ?_
          intro V6 vn6 vok6 vq6 vf6
          have in6 : Own V6 v 95 3 (onk[jk].ldd.flatMap dnC) onk[jk].ldd.length := hin.keep (fun c hc => vf6 c (hin.lt d2 hc))
          repeat (
            refine W_seq ?_)
          refine WZ_ld rfl rfl (by kernel_rfl) (by kernel_rfl) (fun _ _ => rfl) ?_
          refine Ev_append (new := dnC (nm, x)) (k := 1) rfl rfl rfl rfl rfl rfl rfl rfl rfl rfl in6 (Rd_lit (m := 1) vq6 rfl rfl) rfl vok6 (by omega) (by dsimp only; omega) (by omega) ?_
          intro v7 V7 vle7 vn7 vok7 ow7 vf7 vb7
          have nin : ∀ c, c < V.n → yt.tg c ≠ 7 + 2 * jk → V7.h.get c = V5.h.get c := fun c hc h7 => by rw [vf7 c (fun e => h7 (tin c e).2) (by omega), vf6 c (by omega)]
          have at7 : V7.h.get p = some (.cells 81 [yt.va, yt.vo, yt.vd, yt.vp] false) := by rw [nin p bpV (by omega)]; exact hV5.at_
          have bd7 : V7.h.get bd = some (.cells 101 yt.ds spd) := by rw [nin bd bbd (by omega)]; exact hbd
          have bl7 : V7.h.get bl = some (.cells 3 (LL.map intV) spl) := by rw [nin bl (by omega) (by omega)]; exact vbl5
          have s17 : V7.h.get S1.n = some (.cells 95 (dnC (nm, x)) false) := by rw [nin S1.n (by omega) (by omega)]; exact vq5
          refine ⟨fun _ f hf => ?_, [], by simp, ?_⟩
          · try rw [List.append_nil] at hf
            rcases List.mem_cons.1 hf with rfl | hf
            · exact at7
            rcases List.mem_cons.1 hf with rfl | hf
            · exact bd7
            rcases List.mem_cons.1 hf with rfl | hf
            · exact bl7
            rw [List.mem_singleton] at hf; subst hf; exact s17
          repeat (
            refine WZ_pa rfl rfl (by kernel_rfl) (by kernel_rfl) rfl ?_)
          refine Ev_indexAddr (i := jk) (b := bd) (o := 0) (len := onk.length) (cap := kd) rfl (congrArg some hvd) rfl rfl rfl hjkl ?_
          repeat (
            refine W_seq ?_)
          refine WZ_ld0 rfl rfl (fun _ _ => rfl) ?_
          refine Ev_store rfl rfl rfl (by rw [(own_cells1 ow7).1]; rfl) (by rw [(own_cells1 ow7).1]; exact (own_cells1 ow7).2) bd7 (by rw [(own_cells1 ow7).1]; show 0 + jk * 1 + 1 ≤ _; omega) (by omega) ?_
          intro V8 vn8 vq8 vf8
          have vok8 : Sok V8 := sok_upd vok7 (by omega) vn8 vq8 vf8
          have vq8 : V8.h.get bd = some (.cells 101 (yt.ds.set jk v7) spd) := by
            rw [vq8, (own_cells1 ow7).1]
            show some (AB.cells 101 (lput yt.ds (0 + jk * 1) [v7]) spd) = _
            rw [lput_one _ _ _ (by omega)]
          have blk7 : ∀ c, blkOf v7 = some c → (c < V.n ∧ yt.tg c = 7 + 2 * jk) ∨ V6.n ≤ c := fun c hc => (vb7 c hc).imp (tin c) (fun e => e)
          have hcb : ∀ c, blkOf v7 = some c → c ≠ bd := fun c hc e => by
            rcases blk7 c hc with ⟨_, g⟩ | g
            · rw [e] at g; omega
            · omega
          have keepT : ∀ c, c < V5.n → yt.tg c ≠ 3 → yt.tg c ≠ 7 + 2 * jk → V8.h.get c = V5.h.get c := fun c h1 h2 h4 => by
            rw [vf8 c (fun e => h2 (by rw [e]; exact tbd)), vf7 c (fun e => h4 (tin c e).2) (by omega), vf6 c h1]
          have hal : alook nm onk[jk].ldd = none := by
            unfold hasN at hH
            rw [if_pos (show isN onk ((jk : Nat) : Int) by unfold isN; omega), Int.toNat_natCast, List.getElem?_eq_getElem hjkl] at hH
            exact hH
          have hR := hV5.put_dn (U := V8) vok8 (o := onk[jk]) (List.getElem?_eq_getElem hjkl) (v' := v7) (ldd' := aput nm x onk[jk].ldd) (fun c => if c < V5.n then yt.tg c else 7 + 2 * jk) (fun c hc => if_pos hc)
            (hmk V8 _ vq8 (by rw [List.length_set])) (by rw [aput_new _ hal, List.flatMap_append, List.length_append]; exact (ow7.keep (fun c hc => vf8 c (hcb c hc))).eq (by simp) rfl)
            (fun c hc => by
              rcases blk7 c hc with ⟨g1, g2⟩ | g
              · rw [if_pos (by omega)]; exact g2
              · rw [if_neg (by omega)]) keepT
          have hput : (bare onk).put jk { onk[jk] with ldd := aput nm x onk[jk].ldd } = bare (onk.set jk { onk[jk] with ldd := aput nm x onk[jk].ldd }) := rfl
          refine ⟨fun h => absurd h (by decide), [], by simp, ?_⟩
          repeat (
            first
              | refine WZ_nil ?_
              | refine WO_nil ?_
              | refine V_seq ?_
              | refine W_region ?_
              | refine V_block ?_
              | refine WO_dst rfl rfl (by kernel_rfl) (by kernel_rfl) ?_
              | refine Ev_move rfl ?_
              | refine Ev_assign rfl ?_
              | refine Ev_addN rfl rfl (by simp only [lim]; omega) ?_)
          repeat (
            refine W_seq ?_)
          refine back (k + 1, onk.set jk { onk[jk] with ldd := aput nm x onk[jk].ldd }, _) V8 _ (by dsimp only; omega) ⟨by dsimp only; omega, by dsimp only; omega, hR, ?_, fun o ho => ?_, by omega, by dsimp only; omega, fun c hc => ?_, fun c hc h5 => ?_, fun e st' hs' => k10 e st' (.next _ _ _ _ _ _ (.put wd onk[jk] hno2 hgid hb (List.getElem?_eq_getElem hjkl)) hs')⟩ ⟨rfl, rfl, rfl, rfl, rfl, trivial⟩
          · dsimp only
            rw [← hput]
            exact k4.trans (Sk.put (st := bare onk) (List.getElem?_eq_getElem hjkl))
          · dsimp only at ho ⊢
            rcases List.mem_or_eq_of_mem_set ho with ho | ho
            · have := k5 o ho; omega
            · rw [ho]
              have := k5 _ (List.getElem_mem hjkl)
              rw [aput_new _ hal]
              simp only [List.length_append, List.length_singleton]
              omega
          · dsimp only
            rw [if_pos (by omega), ytlo c (by omega)]; exact k8 c hc
          · have h6 : yt.tg c = 5 := by rw [ytlo c (by omega), k8 c hc]; exact h5
            rw [keepT c (by omega) (by omega) (by omega), f5 c (by omega)]
            exact k9 c hc h5
    · have hkl : k = LL.length := by omega
      have hnil := k10 0 (bare onk) (by rw [hkl, List.drop_length]; exact .nil _)
      rw [if_pos rfl] at hnil
      refine W_drawn (by kernel_rfl) ?_
      repeat (
        first
          | refine WO_nil ?_
          | refine V_seq ?_
          | refine W_ret ?_
          | refine WO_dst rfl rfl (by kernel_rfl) (by kernel_rfl) ?_
          | refine Ev_load rfl rfl rfl vq rfl (veq_int _ _) ?_
          | refine Ev_assign rfl ?_
          | refine Ev_fieldAddr rfl rfl rfl rfl rfl rfl ?_)
      refine V_done rfl rfl ?_
      exact ⟨⟨x, 0, onk, yk, rfl, hnil, k4, fun o ho => by have := k5 o ho; omega, k3, fun c hc => by rw [k8 c (by omega), utg c (by omega)]; exact tlo c hc⟩, by omega, by omega, fin⟩
/-- what Load answers -/
inductive RLoadS (ps : Ps) (ones : List One) (n : Int) (nm : Nm) : Int × Int → Int → List One → Prop where
  | arg (h : ¬ isN ones n) : RLoadS ps ones n nm (0, 0) 1 ones
  | ok (h : isN ones n) (x : Int × Int) (e : Int) (ones' : List One) (hl : RLoad ps (bare ones) n nm [] x e (bare ones')) : RLoadS ps ones n nm x e ones'
theorem rLoad_runs {S : St} {p : Nat} {y : RLay} {ones : List One} {ps : Ps} {n : Int} {nm : Nm} {K : List (Int × Nm)} {L : Nat} (h : Rs S p y ones ps) (hpar : ParOK (bare ones)) (hps : ∀ q ∈ ps, q.1 < ones.length ∧ q.2.1 < ones.length) (hs : ones.length ≤ 16) (hpl : ps.length ≤ 60) (hol : ∀ o ∈ ones, o.off.length ≤ 1000000) (hL : ∀ o ∈ ones, o.ldd.length ≤ L) (hLm : L + 20 * (K.length + 1) ≤ 1000000) (hKl : K.length ≤ 1000)
    (hK : ∀ (m : Int) nm' o, 0 ≤ m → offS (bare ones) m nm' = some o → (m, nm') ∈ K) (hn : S.n + costR K.length ≤ 700000000) :
    Runs X1 20 [.ptr p 0, .int .i64 n, .str nm] S fun r U => ∃ x e ones' y', r = .tup [.int .i64 x.1, .int .i64 x.2, .int .i64 e] ∧ RLoadS ps ones n nm x e ones' ∧ Sk (bare ones) (bare ones') ∧ (∀ o ∈ ones', o.ldd.length ≤ L + 20 * (K.length + 1)) ∧ Rs U p y' ones' ps ∧ Ft S U y.tg y'.tg (costR K.length) := by
  refine Runs_fn (m := 20) (by kernel_rfl) Try.func20 rfl (by kernel_rfl) (by kernel_rfl) ?_
  repeat (
    first
      | refine W_seq ?_
      | refine WO_nil ?_
      | refine V_seq ?_
      | refine W_region ?_
      | refine WO_dst rfl rfl (by kernel_rfl) (by kernel_rfl) ?_
      | refine Ev_move rfl ?_
      | refine Ev_assign rfl ?_)
  refine Ev_call rfl rfl ((ris_runs (n := n) h).mono ?_)
  rintro _ U0 - ⟨rfl, hU⟩
  rw [hU]
  by_cases hi : isN ones n
  · rw [decide_eq_true hi]
    obtain ⟨j, rfl⟩ : ∃ j : Nat, n = (j : Int) := ⟨n.toNat, by unfold isN at hi; omega⟩
    have hj : j < ones.length := by unfold isN at hi; omega
    repeat (
      first
        | refine W_seq ?_
        | refine WO_nil ?_
        | refine V_seq ?_
        | refine W_region ?_
        | refine W_skip ?_
        | refine W_cond_f rfl ?_
        | refine WO_dst rfl rfl (by kernel_rfl) (by kernel_rfl) ?_
        | refine Ev_move rfl ?_
        | refine Ev_notb rfl ?_)
    refine Ev_call rfl rfl ((rload_runs K.length (K := K) (L := L) (bz := []) (vb := .nils) (nm := nm) h hpar hj hps hs hpl hol hL hLm (Own.rd (S := S) (el := 93) (.inl ⟨rfl, rfl, rfl⟩)) (fun c hc => by cases hc) (by simp; omega) hK List.countP_le_length hn).mono ?_)
    rintro _ S2 - hR
    have r1 := hR.le
    have r2 := hR.n
    obtain ⟨x, e, ones', y', rfl, hlo, hsk, hll, hRs, htg⟩ := hR.ex
    repeat (
      first
        | refine WO_nil ?_
        | refine V_seq ?_
        | refine W_ret ?_
        | refine WO_dst rfl rfl (by kernel_rfl) (by kernel_rfl) ?_
        | refine Ev_assign rfl ?_
        | refine Ev_extract rfl rfl ?_)
    refine V_done rfl rfl ?_
    exact ⟨x, e, ones', y', rfl, .ok hi x e ones' hlo, hsk, hll, hRs, ⟨r1, r2, htg, hR.fo⟩⟩
  · rw [decide_eq_false hi]
    repeat (
      first
        | refine W_seq ?_
        | refine WO_nil ?_
        | refine V_seq ?_
        | refine W_region ?_
        | refine W_ret ?_
        | refine V_ret ?_
        | refine W_cond_t rfl ?_
        | refine WO_dst rfl rfl (by kernel_rfl) (by kernel_rfl) ?_
        | refine Ev_assign rfl ?_
        | refine Ev_notb rfl ?_)
    refine V_done rfl rfl ?_
    exact ⟨(0, 0), 1, ones, y, rfl, .arg hi, .refl _, fun o ho => by have := hL o ho; omega, h, .of (Nat.le_refl _) (by omega) (fun _ _ => rfl)⟩
end Go.Proofs.Ytjbpegggfacojaa
/- carafelaw15: name of any text; both loaders side by side; what each call keeps. (NODRAWN) -/


namespace Go.Proofs.Ytjbpegggfacojaa
open GX
set_option maxHeartbeats 16000000
set_option maxRecDepth 100000
section
variable {X : X} {l : L} {S : St} {R : AV → St → Prop} {t u : Nat} {x y : Go.Operand}
theorem Ev_remw {k : Go.IntKind} {a b : Int} (hx : od l x = some (.int k a)) (hy : od l y = some (.int k b)) (hb : ieq b 0 = false) (hR : R (.int k (a.tmod b)) S) : Ev X l S (.binOp .rem t x y u) R :=
  Ev_ibin hx hy ⟨by simp, by simp⟩ (by unfold ibin; dsimp only; rw [hb]; rfl) hR
end
theorem any_name {S : St} {s : Nm} {n : Int} (hok : Sok S) (hs : s.length < 9223372036854775808) (hr : -9223372036854775808 ≤ n ∧ n < 9223372036854775808) (hn : S.n + 2 ≤ 1000000000) :
    Runs X1 17 [.str s, .int .i64 n] S fun r U => (∃ nm : Nm, r = .str nm ∧ nm.length < 9223372036854775808) ∧ Sok U ∧ S.n ≤ U.n ∧ U.n ≤ S.n + 1 ∧ ∀ c, c < S.n → U.h.get c = S.h.get c := by
  have hf : ∀ m : Nat, ∃ nm : Nm, nm.length < 9223372036854775808 ∧ ([AV.str [65], .str [66], .str [67], .str [68], .str [69]])[0 + m % 5 * 1]? = some (.str nm) := fun m => by
    have h5 : m % 5 = 0 ∨ m % 5 = 1 ∨ m % 5 = 2 ∨ m % 5 = 3 ∨ m % 5 = 4 := by omega
    rcases h5 with e | e | e | e | e <;> rw [e]
    · exact ⟨[65], by decide, rfl⟩
    · exact ⟨[66], by decide, rfl⟩
    · exact ⟨[67], by decide, rfl⟩
    · exact ⟨[68], by decide, rfl⟩
    · exact ⟨[69], by decide, rfl⟩
  refine Runs_fn (m := 23) (by kernel_rfl) Try.func17 rfl (by kernel_rfl) (by kernel_rfl) ?_
  refine W_seq ?_
  refine W_region ?_
  repeat (first | refine WO_dst rfl rfl (by kernel_rfl) (by kernel_rfl) ?_ | refine Ev_assign rfl ?_)
  refine WO_nil ?_
  refine V_seq ?_
  refine W_seq ?_
  refine W_cut2 (fun l' U => U = S ∧ sub [(0, .str s), (1, .int .i64 n)] l') ?_ ?_
  · repeat' (
      first
        | refine W_seq ?_
        | refine WO_nil ?_
        | refine V_seq ?_
        | refine W_region ?_
        | refine W_skip ?_
        | refine W_ret ?_
        | refine W_cond_f rfl ?_
        | refine WO_dst rfl rfl (by kernel_rfl) (by kernel_rfl) ?_
        | refine WO_guard_t rfl rfl rfl rfl rfl (by kernel_rfl) (by kernel_rfl) ?_
        | refine WO_guard_f rfl rfl rfl rfl rfl rfl (by kernel_rfl) (by kernel_rfl) ?_
        | refine Ev_remw rfl rfl rfl ?_
        | refine Ev_move rfl ?_
        | refine Ev_assign rfl ?_
        | refine Ev_pick_t rfl rfl rfl ?_
        | refine Ev_pick_f rfl rfl rfl ?_
        | refine Ev_neq rfl rfl ?_
        | refine Ev_sneq rfl rfl ?_
        | (refine WO_guard_dt rfl rfl rfl rfl rfl (by kernel_rfl) (by kernel_rfl) (fun hg => ?_) (fun hg => ?_) <;> (try dsimp only at hg) <;> try (exfalso; first | omega | exact hg rfl))
        | (refine W_cond rfl (fun hc => ?_) (fun hc => ?_) <;> (try dsimp only at hc) <;> try (exfalso; first | omega | exact hc rfl)))
    all_goals first
      | exact V_mid2 ⟨rfl, rfl, rfl, trivial⟩
      | exact V_ret2 (V_done rfl rfl ⟨⟨s, rfl, hs⟩, hok, Nat.le_refl _, by omega, fun _ _ => rfl⟩)
  rintro l' U ⟨rfl, hsub⟩
  refine V_weak hsub ?_
  by_cases h0 : n < 0
  · obtain ⟨m, hm⟩ : ∃ m : Nat, -(n + 1) = (m : Int) := ⟨(-(n + 1)).toNat, by omega⟩
    repeat (
      first
        | refine W_seq ?_
        | refine WO_nil ?_
        | refine V_seq ?_
        | refine W_region ?_
        | refine WO_dst rfl rfl (by kernel_rfl) (by kernel_rfl) ?_
        | refine Ev_move rfl ?_
        | refine Ev_lss rfl rfl ?_)
    refine W_condb rfl (fun hc => ?_) (fun hc => absurd h0 (of_decide_eq_false hc))
    repeat (
      first
        | refine W_region ?_
        | refine WO_dst rfl rfl (by kernel_rfl) (by kernel_rfl) ?_
        | refine Ev_move rfl ?_
        | refine Ev_add rfl rfl (by simp only [inR]; omega) ?_)
    refine Ev_un (v := .int .i64 ((m : Nat) : Int)) rfl (by show some (AV.int .i64 (wrp .i64 (0 - (n + 1)))) = _; rw [wrp_in (by simp only [inR]; omega)]; congr 2; omega) ?_
    repeat (
      first
        | refine W_seq ?_
        | refine WO_nil ?_
        | refine V_seq ?_
        | refine W_region ?_
        | refine WO_dst rfl rfl (by kernel_rfl) (by kernel_rfl) ?_
        | refine Ev_assign rfl ?_)
    refine Ev_buildSlice rfl rfl rfl rfl rfl rfl hok (by omega) ?_
    intro S1 n1 ok1 q1 f1
    repeat (
      first
        | refine WO_dst rfl rfl (by kernel_rfl) (by kernel_rfl) ?_
        | refine Ev_move rfl ?_)
    refine Ev_remN (a := m) (b := 5) rfl rfl (by omega) ?_
    repeat (
      first
        | refine WO_dst rfl rfl (by kernel_rfl) (by kernel_rfl) ?_
        | refine Ev_indexAddr rfl rfl rfl rfl rfl (by first | omega | (dsimp only; done) | (dsimp only; omega)) ?_)
    obtain ⟨nm, h1, h2⟩ := hf m
    refine Ev_load rfl rfl rfl q1 h2 (veq_str _) ?_
    repeat (
      first
        | refine WO_nil ?_
        | refine V_seq ?_
        | refine W_ret ?_
        | refine WO_dst rfl rfl (by kernel_rfl) (by kernel_rfl) ?_
        | refine Ev_assign rfl ?_)
    exact V_done rfl rfl ⟨⟨nm, rfl, h1⟩, ok1, by omega, by omega, f1⟩
  · obtain ⟨m, rfl⟩ : ∃ m : Nat, n = (m : Int) := ⟨n.toNat, by omega⟩
    repeat' (
      first
        | refine W_seq ?_
        | refine WO_nil ?_
        | refine V_seq ?_
        | refine W_region ?_
        | refine W_skip ?_
        | refine W_cond_f rfl ?_
        | refine WO_dst rfl rfl (by kernel_rfl) (by kernel_rfl) ?_
        | refine Ev_move rfl ?_
        | refine Ev_lssN rfl rfl ?_)
    refine Ev_buildSlice rfl rfl rfl rfl rfl rfl hok (by omega) ?_
    intro S1 n1 ok1 q1 f1
    repeat (
      first
        | refine WO_dst rfl rfl (by kernel_rfl) (by kernel_rfl) ?_
        | refine Ev_move rfl ?_)
    refine Ev_remN (a := m) (b := 5) rfl rfl (by omega) ?_
    repeat (
      first
        | refine WO_dst rfl rfl (by kernel_rfl) (by kernel_rfl) ?_
        | refine Ev_indexAddr rfl rfl rfl rfl rfl (by first | omega | (dsimp only; done) | (dsimp only; omega)) ?_)
    obtain ⟨nm, h1, h2⟩ := hf m
    refine Ev_load rfl rfl rfl q1 h2 (veq_str _) ?_
    repeat (
      first
        | refine WO_nil ?_
        | refine V_seq ?_
        | refine W_ret ?_
        | refine WO_dst rfl rfl (by kernel_rfl) (by kernel_rfl) ?_
        | refine Ev_assign rfl ?_)
    exact V_done rfl rfl ⟨⟨nm, rfl, h1⟩, ok1, by omega, by omega, f1⟩
theorem Rs.keepT {S U : St} {p : Nat} {y : RLay} {ones : List One} {ps : Ps} (h : Rs S p y ones ps) (hok : Sok U) (hf : ∀ c, c < S.n → y.tg c ≠ 5 → U.h.get c = S.h.get c) (tg' : Nat → Nat) (ht : ∀ c, c < S.n → tg' c = y.tg c) : Rs U p { y with tg := tg' } ones ps := by
  obtain ⟨a0, a1, a2, a3, a4, a5, a6⟩ := h.others (U := U) (fun t => t = 5) (fun c hc hd => hf c hc hd)
  exact ⟨hok, a0 (by decide), a1 (by decide), a2 (by decide), a3 (by decide), a4 (by decide), h.lo, h.ld, fun j v o hv ho => a5 j v o hv ho (by omega), fun j v o hv ho => a6 j v o hv ho (by omega), (ht _ (h.ok _ _ h.at_)).trans h.t0, fun c hc => (ht c (h.a.lt h.ok hc)).trans (h.ta c hc), fun c hc => (ht c (h.o.lt h.ok hc)).trans (h.to c hc), fun c hc => (ht c (h.d.lt h.ok hc)).trans (h.td c hc), fun c hc => (ht c (h.pc.lt h.ok hc)).trans (h.tp c hc), fun j v hv c hc => (ht c (h.lto hv hc)).trans (h.tof j v hv c hc), fun j v hv c hc => (ht c (h.ltd hv hc)).trans (h.tdn j v hv c hc)⟩
theorem Ls.keepT {S U : St} {p : Nat} {y : Lay} {st : LdS} (h : Ls S p y st) (hok : Sok U) (hf : ∀ c, c < S.n → y.tg c ≠ 5 → U.h.get c = S.h.get c) (tg' : Nat → Nat) (ht : ∀ c, c < S.n → tg' c = y.tg c) : Ls U p { y with tg := tg' } st := by
  obtain ⟨a0, a1, a2, a3, a4, a5⟩ := h.others (U := U) (fun t => t = 5) (fun c hc hd => hf c hc hd)
  refine ⟨hok, a0 (by decide), a2 (by decide), a1 (by decide), a3 (by decide), a4 (by decide), h.len, fun j b o hb ho => ⟨(a5 j b o hb ho).1 (by omega), (a5 j b o hb ho).2.1 (by omega), (a5 j b o hb ho).2.2 (by omega)⟩, (ht _ (h.ok _ _ h.at_)).trans h.tp, (ht _ (h.keys.lt h.ok)).trans h.tk, fun c hc => (ht c (h.l.lt h.ok hc)).trans (h.tl c hc), fun c hc => (ht c (h.prs.lt h.ok hc)).trans (h.tpr c hc), fun c hc => (ht c (h.ids.lt h.ok hc)).trans (h.tid c hc), fun j b hb => ?_⟩
  have hj : j < st.ones.length := by rw [← h.len]; exact (List.getElem?_eq_some_iff.1 hb).1
  have h1 := h.one j b _ hb (List.getElem?_eq_getElem hj)
  obtain ⟨t1, t2, t3⟩ := h.tb j b hb
  exact ⟨(ht _ (h.ok _ _ h1.cell)).trans t1, (ht _ (h1.off.lt h.ok)).trans t2, (ht _ (h1.ldd.lt h.ok)).trans t3⟩
def Apt (n : Nat) (t u : Nat → Nat) : Prop := ∀ c, c < n → t c = 5 ∨ u c = 5
/-- a call of the program's loaders leaves the document's as they were -/
theorem joinL {T U : St} {p q : Nat} {y y' : Lay} {z : RLay} {st' : LdS} {ones : List One} {ps : Ps} {k : Nat} (hL : Ls U p y' st') (fo : Fo T U y y' k) (hR : Rs T q z ones ps) (ap : Apt T.n y.tg z.tg) : ∃ z', Rs U q z' ones ps ∧ Apt U.n y'.tg z'.tg ∧ ∀ c, c < T.n → z'.tg c = z.tg c := by
  refine ⟨{ z with tg := fun c => if c < T.n then z.tg c else 5 }, hR.keepT hL.ok (fun c hc h5 => fo.fo c hc ((ap c hc).resolve_right h5)) _ (fun c hc => if_pos hc), fun c hc => ?_, fun c hc => if_pos hc⟩
  dsimp only
  by_cases h : c < T.n
  · rw [if_pos h, fo.tg c h]; exact ap c h
  · rw [if_neg h]; exact .inr rfl
/-- a call of the document's loaders leaves the program's as they were -/
theorem joinR {T U : St} {p q : Nat} {y : Lay} {z z' : RLay} {st : LdS} {ones' : List One} {ps' : Ps} {k : Nat} (hR : Rs U q z' ones' ps') (fo : Ft T U z.tg z'.tg k) (hL : Ls T p y st) (ap : Apt T.n y.tg z.tg) : ∃ y', Ls U p y' st ∧ Apt U.n y'.tg z'.tg ∧ ∀ c, c < T.n → y'.tg c = y.tg c := by
  refine ⟨{ y with tg := fun c => if c < T.n then y.tg c else 5 }, hL.keepT hR.ok (fun c hc h5 => fo.fo c hc ((ap c hc).resolve_left h5)) _ (fun c hc => if_pos hc), fun c hc => ?_, fun c hc => if_pos hc⟩
  dsimp only
  by_cases h : c < T.n
  · rw [if_pos h, fo.tg c h]; exact ap c h
  · rw [if_neg h]; exact .inl rfl
/-- both at any time -/
structure PI (T : St) (p q : Nat) (y : Lay) (z : RLay) (st : LdS) (ps : Ps) (i b : Nat) : Prop where
  L : Ls T p y st
  R : Rs T q z st.ones ps
  A : All st ps
  B : Both st ps
  ap : Apt T.n y.tg z.tg
  psr : ∀ g ∈ ps, g.1 < st.ones.length ∧ g.2.1 < st.ones.length
  few : ps.length ≤ i
  s16 : st.ones.length ≤ 16
  off : ∃ K : List (Int × Nm), K.length ≤ i ∧ ∀ (m : Int) nm o, 0 ≤ m → offS st m nm = some o → (m, nm) ∈ K
  ol : ∀ o ∈ st.ones, o.off.length ≤ i
  ll : ∀ o ∈ st.ones, o.ldd.length ≤ 2000 * i
  prs : st.prs.length ≤ 13000 * i
  n : T.n ≤ b
theorem PI.small {T : St} {p q : Nat} {y : Lay} {z : RLay} {st : LdS} {ps : Ps} {i b : Nat} (h : PI T p q y z st ps i b) : st.ones.length ≤ 100 := by have := h.s16; omega
theorem PI.good {T : St} {p q : Nat} {y : Lay} {z : RLay} {st : LdS} {ps : Ps} {i b : Nat} (h : PI T p q y z st ps i b) : Good st := by
  obtain ⟨⟨rt, d, gk⟩, _⟩ := h.A.inv
  exact ⟨rt, d, gk.ok⟩
/-- numbers and keys are as they were -/
theorem Both.same {st st' : LdS} {ps : Ps} (h : Both st ps) (hk : st'.keys = st.keys) (hp : st'.prs = st.prs) (hi : st'.ids = st.ids) (hE : Ex st st') (hA : All st' ps) : Both st' ps := by
  obtain ⟨rt, d, k, q⟩ := h
  obtain ⟨⟨rt', d', k'⟩, _⟩ := hA.inv
  have ok : LdOK st rt' d' := ⟨by rw [← hp]; exact k'.ok.uf, k.ok.pi, k.ok.keys, k.ok.small⟩
  have q' := q.cong k.ok ok
  refine ⟨rt', d', k', fun a b nm nm' i j h1 h2 h3 => q'.cn a b nm nm' i j (by rw [← hk]; exact h1) (by rw [← hk]; exact h2) h3, fun a nm i v h1 h2 => ?_⟩
  rcases q'.id a nm i v (by rw [← hk]; exact h1) (by rw [← hi]; exact h2) with e | ⟨b, x, c1, c2, c3⟩
  · exact .inl e
  · exact .inr ⟨b, x, c1, hE b nm x c2, c3⟩
theorem child_law {st : LdS} {n : Int} : (childS st n).1 = (childN st.ones n).1 ∧ (childS st n).2.ones = (childN st.ones n).2 ∧ (childS st n).2.keys = st.keys ∧ (childS st n).2.prs = st.prs ∧ (childS st n).2.ids = st.ids := by
  unfold childS childN
  by_cases h : isL st n
  · rw [if_pos h, if_pos (show isN st.ones n from h)]
    by_cases h2 : 16 ≤ st.ones.length
    · rw [if_pos h2, if_pos h2]; exact ⟨rfl, rfl, rfl, rfl, rfl⟩
    · rw [if_neg h2, if_neg h2]; exact ⟨rfl, rfl, rfl, rfl, rfl⟩
  · rw [if_neg h, if_neg (show ¬ isN st.ones n from h)]; exact ⟨rfl, rfl, rfl, rfl, rfl⟩
theorem child_mem {ones : List One} {n : Int} {o : One} (h : o ∈ (childN ones n).2) : o ∈ ones ∨ (o.off = [] ∧ o.ldd = []) := by
  unfold childN at h
  split at h
  · split at h
    · exact .inl h
    · rcases List.mem_append.1 h with h | h
      · exact .inl h
      · rw [List.mem_singleton.1 h]; exact .inr ⟨rfl, rfl⟩
  · exact .inl h
theorem child_len2 {ones : List One} {n : Int} (h : ones.length ≤ 16) : (childN ones n).2.length ≤ 16 ∧ ones.length ≤ (childN ones n).2.length := by
  unfold childN
  split
  · split
    · exact ⟨h, Nat.le_refl _⟩
    · simp; omega
  · exact ⟨h, Nat.le_refl _⟩
theorem offer_law {st st' rs' : LdS} {n id : Int} {nm sup : Nm} {e f : Int} (h : OfferS st n nm sup id e st') (r : OfferS (bare st.ones) n nm sup id f rs') : e = f ∧ st'.ones = rs'.ones ∧ st'.keys = st.keys ∧ st'.prs = st.prs ∧ st'.ids = st.ids := by
  have hI : isL (bare st.ones) n ↔ isL st n := Iff.rfl
  have ho : ∀ m nm', offS (bare st.ones) m nm' = offS st m nm' := fun _ _ => rfl
  cases h with
  | arg h =>
    cases r with
    | arg => exact ⟨rfl, rfl, rfl, rfl, rfl⟩
    | taken g => exact absurd g h
    | put g => exact absurd g h
  | taken h o h1 =>
    cases r with
    | arg g => exact absurd h g
    | taken g => exact ⟨rfl, rfl, rfl, rfl, rfl⟩
    | put g h2 => rw [ho, h1] at h2; cases h2
  | put h h1 o h2 =>
    cases r with
    | arg g => exact absurd h g
    | taken g o2 h3 => rw [ho, h1] at h3; cases h3
    | put g h3 o2 h4 =>
      rw [show (bare st.ones).ones[n.toNat]? = st.ones[n.toNat]? from rfl, h2] at h4; cases h4
      exact ⟨rfl, rfl, rfl, rfl, rfl⟩
theorem rload_bad {ps : Ps} {st rs : LdS} {n : Int} {nm : Nm} {bz : List (Int × Nm)} {x : Int × Int} {e : Int} (h : RLoad ps st n nm bz x e rs) (he : e ≠ 0) : x = (0, 0) := by
  cases h with
  | had => exact absurd rfl he
  | none => rfl
  | done => rw [if_neg he]
  | circ => rfl
  | sup => rfl
  | def0 => rw [if_neg he]
  | def1 => rw [if_neg he]
theorem load_law {ps : Ps} {st st' : LdS} {n : Int} {nm : Nm} {x y : Int × Int} {e f : Int} {ones' : List One} (h : LoadS st n nm x e st') (r : RLoadS ps st.ones n nm y f ones') (g : All st ps) (q : Both st ps) : e = f ∧ x = y ∧ st'.ones = ones' ∧ Both st' ps := by
  have hz : ∀ k : Int × Nm, k ∈ ([] : List (Int × Nm)) ↔ 0 < (alook k ([] : List ((Int × Nm) × Int))).getD 0 := fun k => ⟨fun h => (by cases h), fun h => by exact absurd h (by show ¬ (0 : Int) < 0; decide)⟩
  have hz2 : ∀ (k : Int × Nm) (v : Int), alook k ([] : List ((Int × Nm) × Int)) = some v → 0 ≤ v := fun k v hv => by cases hv
  cases h with
  | arg h =>
    cases r with
    | arg g2 => exact ⟨rfl, rfl, rfl, q⟩
    | ok g2 => exact absurd (show isL st n from g2) h
  | bad h x0 _ _ lm hl he =>
    cases r with
    | arg g2 => exact absurd (show isN st.ones n from h) g2
    | ok g2 _ _ _ hr =>
      obtain ⟨a1, a2, a3, a4⟩ := rload_law hl hr rfl g.par g.inv q (by unfold isL at h; omega) (by unfold isL at h; omega) hz hz2
      exact ⟨a1, (rload_bad hr (by rw [← a1]; exact he)).symm, a3, a4⟩
  | good h _ _ lm hl =>
    cases r with
    | arg g2 => exact absurd (show isN st.ones n from h) g2
    | ok g2 _ _ _ hr =>
      obtain ⟨a1, a2, a3, a4⟩ := rload_law hl hr rfl g.par g.inv q (by unfold isL at h; omega) (by unfold isL at h; omega) hz hz2
      exact ⟨a1, a2 rfl, a3, a4⟩
end Go.Proofs.Ytjbpegggfacojaa
