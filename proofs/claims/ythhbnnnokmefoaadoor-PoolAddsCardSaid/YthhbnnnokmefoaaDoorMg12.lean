/- What the row leans on, part 12: texts one behind the other. No condition. -/
import Derived.Test.YthhbnnnokmefoaaDoorMg10
import Derived.ChangeArms
import Derived.DataReads
import Derived.Deep.Slices
import Derived.Test.YthhbnnnokmefoaaDoorMg11
import Derived.KernelRfl
/- GX: arguments of any type that is made of numbers, strings, slices, structs and pointers: they are only read. -/




namespace GX
open Go Go.Deep
/-- a type whose values may come in -/
def okT (P : Program) : Nat → TypeId → Bool
  | 0, _ => false
  | g + 1, t => match P.underlying t with
    | some .bool => true
    | some (.int _) => true
    | some .string => true
    | some (.slice e) => decide (0 < P.cellsOf e) && okT P g e
    | some (.pointer e) => decide (0 < P.cellsOf e) && okT P g e
    | some (.struct fs) => tile fs.toList 0 (P.cellsOf t) && fs.toList.all fun f => okT P g f.type
    | _ => false
where
  /-- the fields lie one behind the other -/
  tile : List Field → Nat → Nat → Bool
  | [], o, n => decide (o = n)
  | f :: fs, o, n => decide (f.offset = o) && tile fs (o + P.cellsOf f.type) n
/-- cells of a type that came in, of at most so many parts and letters -/
def Rdt (P : Program) (N : Nat) : Nat → TypeId → List AV → Prop
  | 0, _, _ => False
  | g + 1, t, cs => match P.underlying t with
    | some .bool => ∃ b, cs = [.bool b]
    | some (.int k) => ∃ n, cs = [.int k n] ∧ (Lit.int k n).wf = true
    | some .string => ∃ s : List Nat, cs = [.str s] ∧ (∀ b ∈ s, b < 256) ∧ s.length ≤ N
    | some (.slice e) => ∃ v rows, cs = [v] ∧ (∀ S, Rd S v (P.cellsOf e) (List.flatten rows) rows.length) ∧ rows.length ≤ N ∧ ∀ r ∈ rows, r.length = P.cellsOf e ∧ Rdt P N g e r
    | some (.pointer e) => cs = [.nilp] ∨ ∃ cs', cs = [.rptr cs' 0] ∧ cs'.length = P.cellsOf e ∧ Rdt P N g e cs'
    | some (.struct fs) => cs.length = P.cellsOf t ∧ ∀ f ∈ fs.toList, Rdt P N g f.type ((cs.drop f.offset).take (P.cellsOf f.type))
    | _ => False
structure BulkOK {H : Type} (bulk : DataW H → Nat) : Prop where
  str : ∀ l, l.length ≤ bulk (.lit (.string l))
  ptr : ∀ d, bulk d ≤ bulk (.ptr d)
  len : ∀ l r, l.length ≤ bulk (.slice l r)
  sl : ∀ l r, ∀ d ∈ l, bulk d ≤ bulk (.slice l r)
  agg : ∀ l, ∀ d ∈ l, bulk d ≤ bulk (.agg l)
theorem veqs_append : ∀ {a b : List AV}, veqs a a = true → veqs b b = true → veqs (a ++ b) (a ++ b) = true
  | [], b, _, h => h
  | x :: a, b, h1, h2 => by
    simp only [veqs, Bool.and_eq_true, List.cons_append] at h1 ⊢
    exact ⟨h1.1, veqs_append h1.2 h2⟩
/-- cells that lie somewhere -/
theorem cells_in {w : World} {a : Addr} {vs : List Value} (h0 : vs ≠ []) (hcell : ∀ i v, vs[i]? = some v → w.cell? (a.add i) = some v) :
    a.spot = none ∧ ∃ c t fz, w.heap[a.block]? = some (.cells c t fz) ∧ a.off + vs.length ≤ c.size ∧ (c.toList.drop a.off).take vs.length = vs := by
  have hpos : 0 < vs.length := List.length_pos_iff.2 h0
  have hsp : a.spot = none ∧ ∃ c t fz, w.heap[a.block]? = some (.cells c t fz) := by
    have h := hcell 0 vs[0] (List.getElem?_eq_getElem hpos)
    unfold Addr.add World.cell? at h
    simp only [if_true] at h
    split at h
    · rename_i c t fz hh
      split at h
      · cases h
      · rename_i hs
        exact ⟨by simpa using hs, c, t, fz, hh⟩
    · cases h
  obtain ⟨hs, c, t, fz, hh⟩ := hsp
  have hget : ∀ i v, vs[i]? = some v → c[a.off + i]? = some v := by
    intro i v hi
    have h := hcell i v hi
    unfold World.cell? at h
    by_cases hi0 : i = 0
    · subst hi0
      simp only [Addr.add, if_true, hh, hs] at h
      simpa using h
    · simp only [Addr.add, if_neg hi0, hh] at h
      simpa using h
  have hfit : a.off + vs.length ≤ c.size := by
    have := (Array.getElem?_eq_some_iff.1 (hget (vs.length - 1) _ (List.getElem?_eq_getElem (by omega)))).1
    omega
  refine ⟨hs, c, t, fz, hh, hfit, ?_⟩
  apply List.ext_getElem?
  intro i
  rw [List.getElem?_take]
  split
  · rename_i hi
    rw [List.getElem?_eq_getElem hi, List.getElem?_drop]
    simpa using hget i _ (List.getElem?_eq_getElem hi)
  · rw [List.getElem?_eq_none (by omega)]
theorem arg_cellsN [Val] {φ : Phi} {w : World} (hro : ∀ g o, w.heap[g]? = some o → Val.ro g = some o) {a : Addr} {len cap sz : Nat} {cs : List AV} {vs : List Value} (hz : 0 < sz) (hl : len ≤ cap) (hv : vs.length = len * sz) (hcell : ∀ i v, vs[i]? = some v → w.cell? (a.add i) = some v) (hrel : vrels φ cs vs) (hself : veqs cs cs = true) :
    ∃ av, vrel φ av (.slice (some a) len cap) ∧ ∀ S, Rd S av sz cs len := by
  have hcl : cs.length = len * sz := by rw [vrels_length hrel, hv]
  by_cases h0 : vs = []
  · subst h0
    have hl0 : len = 0 := by
      rcases Nat.eq_zero_or_pos len with h | h
      · exact h
      · have := Nat.mul_pos h hz
        simp at hv; omega
    subst hl0
    cases List.eq_nil_of_length_eq_zero (by rw [hcl, Nat.zero_mul] : cs.length = 0)
    exact ⟨.emp, ⟨a, cap, rfl⟩, fun S => ⟨rfl, rfl, rfl, rfl, rfl, by simp⟩⟩
  · obtain ⟨hs, c, t, fz, hh, hfit, hlist⟩ := cells_in h0 hcell
    refine ⟨.rsl cs len sz, ?_, fun S => ⟨by simp [capW, hcl], by simp [veq, hself], rfl, rfl, ?_, hcl⟩⟩
    · simp only [vrel]
      refine ⟨a.block, a.off, cap, c, t, fz, ?_, hl, hcl, hro _ _ hh, by omega, by rw [hcl, ← hv, hlist]; exact hrel⟩
      rw [← hs]
    · unfold srcCells; dsimp only
      rw [nble, decide_eq_true (by omega)]
      simp only [nbeq, decide_true, Bool.true_and, cond_true]
      rw [List.take_of_length_le (by omega)]
theorem bytes_lt' (s : ByteArray) : ∀ b ∈ bytes s, b < 256 := by
  intro b hb
  unfold bytes at hb
  obtain ⟨c, _, rfl⟩ := List.mem_map.1 hb
  exact c.toNat_lt
section
variable {H : Type} {enc : TypeId × Value → H} {P : Program} {w : World} {base : Nat} {sp : Nat → Bool} {held : Bool} {bulk : DataW H → Nat} {N : Nat}
/-- the fields of a struct, one behind the other -/
theorem fields_rel [Val] {φ : Phi} {cs : List Value} {R : Field → List AV → Prop} : ∀ (fs : List Field) (o n : Nat), okT.tile P fs o n = true → o ≤ n → n ≤ cs.length →
    (∀ f ∈ fs, ∃ avs, vrels φ avs ((cs.drop f.offset).take (P.cellsOf f.type)) ∧ veqs avs avs = true ∧ R f avs) →
    ∃ avs, vrels φ avs ((cs.drop o).take (n - o)) ∧ veqs avs avs = true ∧ ∀ f ∈ fs, o ≤ f.offset ∧ R f ((avs.drop (f.offset - o)).take (P.cellsOf f.type))
  | [], o, n, ht, _, _, _ => by
    have : o = n := of_decide_eq_true ht
    subst this
    exact ⟨[], by rw [Nat.sub_self, List.take_zero]; exact vrels_nil, rfl, by simp⟩
  | f :: fs, o, n, ht, ho, hn, h => by
    unfold okT.tile at ht
    simp only [Bool.and_eq_true, decide_eq_true_eq] at ht
    obtain ⟨hfo, ht⟩ := ht
    have hle : o + P.cellsOf f.type ≤ n := by
      have key : ∀ (l : List Field) (a : Nat), okT.tile P l a n = true → a ≤ n := by
        intro l
        induction l with
        | nil => intro a h; exact Nat.le_of_eq (of_decide_eq_true h)
        | cons x l ih =>
          intro a h
          unfold okT.tile at h
          simp only [Bool.and_eq_true, decide_eq_true_eq] at h
          have := ih _ h.2; omega
      exact key _ _ ht
    obtain ⟨a1, r1, v1, p1⟩ := h f (List.mem_cons_self ..)
    obtain ⟨a2, r2, v2, p2⟩ := fields_rel fs (o + P.cellsOf f.type) n ht hle hn (fun g hg => h g (List.mem_cons_of_mem _ hg))
    have hl1 : a1.length = P.cellsOf f.type := by rw [vrels_length r1, List.length_take, List.length_drop]; omega
    refine ⟨a1 ++ a2, ?_, veqs_append v1 v2, fun g hg => ?_⟩
    · have e : (cs.drop o).take (n - o) = (cs.drop f.offset).take (P.cellsOf f.type) ++ (cs.drop (o + P.cellsOf f.type)).take (n - (o + P.cellsOf f.type)) := by
        rw [hfo, show n - o = P.cellsOf f.type + (n - (o + P.cellsOf f.type)) by omega, List.take_add, List.drop_drop]
      rw [e]; exact vrels_append r1 r2
    · rcases List.mem_cons.1 hg with rfl | hg
      · rw [hfo, Nat.sub_self, List.drop_zero, List.take_append_of_le_length (by omega), List.take_of_length_le (by omega)]
        exact ⟨Nat.le_refl _, p1⟩
      · obtain ⟨q1, q2⟩ := p2 g hg
        refine ⟨by omega, ?_⟩
        rw [show g.offset - o = a1.length + (g.offset - (o + P.cellsOf f.type)) by omega, ← List.drop_drop, List.drop_append_of_le_length (Nat.le_refl _), List.drop_length, List.nil_append]
        exact q2
/-- what came in, as cells that are only read -/
theorem trod_rel [Val] {φ : Phi} (hro : ∀ g o, w.heap[g]? = some o → Val.ro g = some o) (hB : BulkOK bulk) : ∀ (g : Nat) (t : TypeId) (f : Nat) (cs : List Value) (x : DataW H × List MemPlace), okT P g t = true → DataW.trod enc P w base sp held f t cs = some x → bulk x.1 ≤ N →
    ∃ avs, vrels φ avs cs ∧ veqs avs avs = true ∧ Rdt P N g t avs
  | 0, _, _, _, _, hk, _, _ => by cases hk
  | g + 1, t, f, cs, x, hk, h, hb => by
    unfold okT at hk
    unfold Rdt
    split at hk
    · rename_i hu
      obtain ⟨b, rfl, rfl⟩ := DataW.trod_bool hu h
      exact ⟨[.bool b], vrels_cons rfl vrels_nil, by cases b <;> rfl, b, rfl⟩
    · rename_i k hu
      obtain ⟨n, rfl, rfl, hw⟩ := DataW.trod_int hu h
      exact ⟨[.int k n], vrels_cons rfl vrels_nil, by simp [veqs, veq_int], n, rfl, hw⟩
    · rename_i hu
      obtain ⟨s, rfl, rfl, hs⟩ := DataW.trod_string hu h
      refine ⟨[.str (bytes s)], vrels_cons ⟨s, rfl, rfl⟩ vrels_nil, by simp [veqs, veq_str], bytes s, rfl, bytes_lt' s, ?_⟩
      have h1 := hB.str s.data.toList
      have h2 : (bytes s).length = s.data.toList.length := by unfold bytes; simp
      dsimp only at hb
      omega
    · rename_i e hu
      simp only [Bool.and_eq_true, decide_eq_true_eq] at hk
      obtain ⟨hz, hk⟩ := hk
      rcases DataW.trod_slice hu h with ⟨rfl, rfl⟩ | ⟨a, len, cap, elems, rest, n, _, rfl, rfl, hbs, hl, hm, hlen, hel, hsp, hns⟩
      · exact ⟨[.nils], vrels_cons rfl vrels_nil, rfl, .nils, [], rfl, fun S => ⟨rfl, rfl, rfl, rfl, rfl, by simp⟩, Nat.zero_le _, by simp⟩
      · dsimp only at hb
        have hlN : len ≤ N := by
          have := hB.len (elems.map (·.1)) (rest.map (·.1))
          rw [List.length_map, hlen] at this
          omega
        have each : ∀ i, i < len → ∃ q : List Value × List AV, w.cells? base (a.add (i * P.cellsOf e)) (P.cellsOf e) = some q.1 ∧ vrels φ q.2 q.1 ∧ veqs q.2 q.2 = true ∧ Rdt P N g e q.2 := by
          intro i hi
          have h1 := hel i hi
          rw [List.getElem?_eq_getElem (by omega)] at h1
          obtain ⟨cs', h2, h3⟩ := Option.bind_eq_some_iff.1 h1
          obtain ⟨avs, h4, h5, h6⟩ := trod_rel hro hB g e n cs' _ hk h3 (Nat.le_trans (hB.sl _ _ _ (List.mem_map_of_mem (List.getElem_mem _))) hb)
          exact ⟨(cs', avs), h2, h4, h5, h6⟩
        obtain ⟨q, hq⟩ := choose_lt each
        have hql : ∀ i, i < len → (q i).1.length = P.cellsOf e := fun i hi => (World.cells?_some (hq i hi).1).2.1
        -- all cells, one behind the other
        have all : ∀ m, m ≤ len → ∃ vs : List Value, vs.length = m * P.cellsOf e ∧ (∀ i v, vs[i]? = some v → w.cell? (a.add i) = some v) ∧ vrels φ (List.flatten ((List.range m).map fun i => (q i).2)) vs ∧ veqs (List.flatten ((List.range m).map fun i => (q i).2)) (List.flatten ((List.range m).map fun i => (q i).2)) = true := by
          intro m
          induction m with
          | zero => intro _; exact ⟨[], by simp, by simp, vrels_nil, rfl⟩
          | succ m ih =>
            intro hm2
            obtain ⟨vs, g1, g2, g3, g4⟩ := ih (by omega)
            obtain ⟨c1, c2, c3, c4⟩ := hq m (by omega)
            obtain ⟨d1, d2, d3⟩ := World.cells?_some c1
            refine ⟨vs ++ (q m).1, by rw [List.length_append, g1, d2, Nat.add_mul, Nat.one_mul], fun i v hv => ?_, ?_, ?_⟩
            · by_cases hi : i < vs.length
              · rw [List.getElem?_append_left hi] at hv; exact g2 i v hv
              · rw [List.getElem?_append_right (by omega)] at hv
                have hi2 : i - vs.length < P.cellsOf e := by
                  have := (List.getElem?_eq_some_iff.1 hv).1; omega
                have h7 := d3 _ hi2
                rw [add_add, ← g1, hv, show vs.length + (i - vs.length) = i by omega] at h7
                exact h7
            · rw [List.range_succ, List.map_append, List.flatten_append]
              exact vrels_append g3 (by simpa using c2)
            · rw [List.range_succ, List.map_append, List.flatten_append]
              exact veqs_append g4 (by simpa using c3)
        obtain ⟨vs, g1, g2, g3, g4⟩ := all len (Nat.le_refl _)
        obtain ⟨av, k1, k2⟩ := arg_cellsN (φ := φ) hro hz hl g1 g2 g3 g4
        refine ⟨[av], vrels_cons k1 vrels_nil, ?_, av, (List.range len).map fun i => (q i).2, rfl, fun S => by simpa using k2 S, by simpa using hlN, ?_⟩
        · have := (k2 { h := .leaf, n := 0 }).self
          simp [veqs, this]
        · intro r hr
          obtain ⟨i, hi, rfl⟩ := List.mem_map.1 hr
          have hi := List.mem_range.1 hi
          exact ⟨by rw [vrels_length (hq i hi).2.1]; exact hql i hi, (hq i hi).2.2.2⟩
    · rename_i e hu
      simp only [Bool.and_eq_true, decide_eq_true_eq] at hk
      obtain ⟨hz, hk⟩ := hk
      rcases DataW.trod_pointer hu h with ⟨rfl, rfl⟩ | ⟨a, cs', y, n, _, rfl, rfl, hc, hy⟩
      · exact ⟨[.nilp], vrels_cons rfl vrels_nil, rfl, .inl rfl⟩
      · dsimp only at hb
        obtain ⟨avs, h4, h5, h6⟩ := trod_rel hro hB g e n cs' _ hk hy (Nat.le_trans (hB.ptr _) hb)
        obtain ⟨_, d2, d3⟩ := World.cells?_some hc
        have hne : cs' ≠ [] := by intro h; rw [h] at d2; simp at d2; omega
        obtain ⟨hs, c, tt, fz, hh, hfit, hlist⟩ := cells_in (a := a) hne (fun i v hv => by
          have := (List.getElem?_eq_some_iff.1 hv).1
          rw [d3 i (by omega), hv])
        have hl := vrels_length h4
        refine ⟨[.rptr avs 0], vrels_cons ?_ vrels_nil, by simp [veqs, veq, h5], .inr ⟨avs, rfl, by omega, h6⟩⟩
        simp only [vrel]
        refine ⟨a.block, a.off, c, tt, fz, ?_, hro _ _ hh, by omega, by rw [hl, hlist]; exact h4⟩
        rw [Nat.add_zero, ← hs]
    · rename_i fs hu
      simp only [Bool.and_eq_true, List.all_eq_true] at hk
      obtain ⟨ht, hk⟩ := hk
      obtain ⟨xs, n, _, rfl, hlen, hxs, hf⟩ := DataW.trod_struct hu h
      dsimp only at hb
      obtain ⟨avs, h4, h5, h6⟩ := fields_rel (φ := φ) (cs := cs) (R := fun f avs => Rdt P N g f.type avs) fs.toList 0 (P.cellsOf t) ht (Nat.zero_le _) (by omega) (by
        intro fd hfd
        obtain ⟨i, hi, rfl⟩ := List.getElem_of_mem hfd
        have hi' : i < fs.size := by simpa using hi
        have h1 := hf i fs[i] (by simp [hi'])
        rw [List.getElem?_eq_getElem (by omega)] at h1
        simp only [Array.getElem_toList]
        exact trod_rel hro hB g _ n _ _ (hk _ (by simp)) h1 (Nat.le_trans (hB.agg _ _ (List.mem_map_of_mem (List.getElem_mem _))) hb))
      rw [List.drop_zero, Nat.sub_zero, List.take_of_length_le (by omega)] at h4
      exact ⟨avs, h4, h5, by rw [vrels_length h4]; exact hlen, fun f hf => (h6 f hf).2⟩
    · cases hk
end
end GX
/- GX: arguments of any type made of numbers, strings, slices, structs, pointers, whatever their size. -/

namespace GX
open Go Go.Deep
section
variable {H : Type} {enc : TypeId × Value → H} {P : Program} {w : World} {base : Nat} {sp : Nat → Bool} {held : Bool}
/-- what came in, as cells that are only read -/
theorem trodF_rel [Val] {φ : Phi} (hro : ∀ g o, w.heap[g]? = some o → Val.ro g = some o) : ∀ (g : Nat) (t : TypeId) (f : Nat) (cs : List Value) (x : DataW H × List MemPlace), okT P g t = true → DataW.trod enc P w base sp held f t cs = some x →
    ∃ avs, vrels φ avs cs ∧ veqs avs avs = true ∧ Rdt P maxLen g t avs
  | 0, _, _, _, _, hk, _ => by cases hk
  | g + 1, t, f, cs, x, hk, h => by
    unfold okT at hk
    unfold Rdt
    split at hk
    · rename_i hu
      obtain ⟨b, rfl, rfl⟩ := DataW.trod_bool hu h
      exact ⟨[.bool b], vrels_cons rfl vrels_nil, by cases b <;> rfl, b, rfl⟩
    · rename_i k hu
      obtain ⟨n, rfl, rfl, hw⟩ := DataW.trod_int hu h
      exact ⟨[.int k n], vrels_cons rfl vrels_nil, by simp [veqs, veq_int], n, rfl, hw⟩
    · rename_i hu
      obtain ⟨s, rfl, rfl, hs⟩ := DataW.trod_string hu h
      refine ⟨[.str (bytes s)], vrels_cons ⟨s, rfl, rfl⟩ vrels_nil, by simp [veqs, veq_str], bytes s, rfl, bytes_lt' s, ?_⟩
      have h2 : (bytes s).length = s.size := by unfold bytes; simp
      omega
    · rename_i e hu
      simp only [Bool.and_eq_true, decide_eq_true_eq] at hk
      obtain ⟨hz, hk⟩ := hk
      rcases DataW.trod_slice hu h with ⟨rfl, rfl⟩ | ⟨a, len, cap, elems, rest, n, _, rfl, rfl, hbs, hl, hm, hlen, hel, hsp, hns⟩
      · exact ⟨[.nils], vrels_cons rfl vrels_nil, rfl, .nils, [], rfl, fun S => ⟨rfl, rfl, rfl, rfl, rfl, by simp⟩, Nat.zero_le _, by simp⟩
      · have hlN : len ≤ maxLen := Nat.le_trans hl hm
        have each : ∀ i, i < len → ∃ q : List Value × List AV, w.cells? base (a.add (i * P.cellsOf e)) (P.cellsOf e) = some q.1 ∧ vrels φ q.2 q.1 ∧ veqs q.2 q.2 = true ∧ Rdt P maxLen g e q.2 := by
          intro i hi
          have h1 := hel i hi
          rw [List.getElem?_eq_getElem (by omega)] at h1
          obtain ⟨cs', h2, h3⟩ := Option.bind_eq_some_iff.1 h1
          obtain ⟨avs, h4, h5, h6⟩ := trodF_rel hro g e n cs' _ hk h3
          exact ⟨(cs', avs), h2, h4, h5, h6⟩
        obtain ⟨q, hq⟩ := choose_lt each
        have hql : ∀ i, i < len → (q i).1.length = P.cellsOf e := fun i hi => (World.cells?_some (hq i hi).1).2.1
        -- all cells, one behind the other
        have all : ∀ m, m ≤ len → ∃ vs : List Value, vs.length = m * P.cellsOf e ∧ (∀ i v, vs[i]? = some v → w.cell? (a.add i) = some v) ∧ vrels φ (List.flatten ((List.range m).map fun i => (q i).2)) vs ∧ veqs (List.flatten ((List.range m).map fun i => (q i).2)) (List.flatten ((List.range m).map fun i => (q i).2)) = true := by
          intro m
          induction m with
          | zero => intro _; exact ⟨[], by simp, by simp, vrels_nil, rfl⟩
          | succ m ih =>
            intro hm2
            obtain ⟨vs, g1, g2, g3, g4⟩ := ih (by omega)
            obtain ⟨c1, c2, c3, c4⟩ := hq m (by omega)
            obtain ⟨d1, d2, d3⟩ := World.cells?_some c1
            refine ⟨vs ++ (q m).1, by rw [List.length_append, g1, d2, Nat.add_mul, Nat.one_mul], fun i v hv => ?_, ?_, ?_⟩
            · by_cases hi : i < vs.length
              · rw [List.getElem?_append_left hi] at hv; exact g2 i v hv
              · rw [List.getElem?_append_right (by omega)] at hv
                have hi2 : i - vs.length < P.cellsOf e := by
                  have := (List.getElem?_eq_some_iff.1 hv).1; omega
                have h7 := d3 _ hi2
                rw [add_add, ← g1, hv, show vs.length + (i - vs.length) = i by omega] at h7
                exact h7
            · rw [List.range_succ, List.map_append, List.flatten_append]
              exact vrels_append g3 (by simpa using c2)
            · rw [List.range_succ, List.map_append, List.flatten_append]
              exact veqs_append g4 (by simpa using c3)
        obtain ⟨vs, g1, g2, g3, g4⟩ := all len (Nat.le_refl _)
        obtain ⟨av, k1, k2⟩ := arg_cellsN (φ := φ) hro hz hl g1 g2 g3 g4
        refine ⟨[av], vrels_cons k1 vrels_nil, ?_, av, (List.range len).map fun i => (q i).2, rfl, fun S => by simpa using k2 S, by simpa using hlN, ?_⟩
        · have := (k2 { h := .leaf, n := 0 }).self
          simp [veqs, this]
        · intro r hr
          obtain ⟨i, hi, rfl⟩ := List.mem_map.1 hr
          have hi := List.mem_range.1 hi
          exact ⟨by rw [vrels_length (hq i hi).2.1]; exact hql i hi, (hq i hi).2.2.2⟩
    · rename_i e hu
      simp only [Bool.and_eq_true, decide_eq_true_eq] at hk
      obtain ⟨hz, hk⟩ := hk
      rcases DataW.trod_pointer hu h with ⟨rfl, rfl⟩ | ⟨a, cs', y, n, _, rfl, rfl, hc, hy⟩
      · exact ⟨[.nilp], vrels_cons rfl vrels_nil, rfl, .inl rfl⟩
      · obtain ⟨avs, h4, h5, h6⟩ := trodF_rel hro g e n cs' _ hk hy
        obtain ⟨_, d2, d3⟩ := World.cells?_some hc
        have hne : cs' ≠ [] := by intro h; rw [h] at d2; simp at d2; omega
        obtain ⟨hs, c, tt, fz, hh, hfit, hlist⟩ := cells_in (a := a) hne (fun i v hv => by
          have := (List.getElem?_eq_some_iff.1 hv).1
          rw [d3 i (by omega), hv])
        have hl := vrels_length h4
        refine ⟨[.rptr avs 0], vrels_cons ?_ vrels_nil, by simp [veqs, veq, h5], .inr ⟨avs, rfl, by omega, h6⟩⟩
        simp only [vrel]
        refine ⟨a.block, a.off, c, tt, fz, ?_, hro _ _ hh, by omega, by rw [hl, hlist]; exact h4⟩
        rw [Nat.add_zero, ← hs]
    · rename_i fs hu
      simp only [Bool.and_eq_true, List.all_eq_true] at hk
      obtain ⟨ht, hk⟩ := hk
      obtain ⟨xs, n, _, rfl, hlen, hxs, hf⟩ := DataW.trod_struct hu h
      obtain ⟨avs, h4, h5, h6⟩ := fields_rel (φ := φ) (cs := cs) (R := fun f avs => Rdt P maxLen g f.type avs) fs.toList 0 (P.cellsOf t) ht (Nat.zero_le _) (by omega) (by
        intro fd hfd
        obtain ⟨i, hi, rfl⟩ := List.getElem_of_mem hfd
        have hi' : i < fs.size := by simpa using hi
        have h1 := hf i fs[i] (by simp [hi'])
        rw [List.getElem?_eq_getElem (by omega)] at h1
        simp only [Array.getElem_toList]
        exact trodF_rel hro g _ n _ _ (hk _ (by simp)) h1)
      rw [List.drop_zero, Nat.sub_zero, List.take_of_length_le (by omega)] at h4
      exact ⟨avs, h4, h5, by rw [vrels_length h4]; exact hlen, fun f hf => (h6 f hf).2⟩
    · cases hk
end
end GX
/- Chapter 3: constants that come in. -/




namespace Go.Proofs.YthhbnnnokmefoaaDoor
open GX Go
set_option maxRecDepth 100000
theorem u3 : Tryd.prog.underlying 3 = some (.int .i64) := by kernel_rfl
theorem u21 : Tryd.prog.underlying 21 = some (.int .i32) := by kernel_rfl
theorem u9 : Tryd.prog.underlying 9 = some .string := by kernel_rfl
theorem u22 : Tryd.prog.underlying 22 = some (.slice 24) := by kernel_rfl
theorem u24 : Tryd.prog.underlying 24 = some (.struct #[⟨"Kind", 3, 0, false, "", "", 0⟩, ⟨"N", 21, 1, false, "", "", 8⟩, ⟨"Class", 9, 2, false, "", "", 16⟩, ⟨"Name", 9, 3, false, "", "", 32⟩, ⟨"Desc", 9, 4, false, "", "", 48⟩]) := by kernel_rfl
theorem c3 : Tryd.prog.cellsOf 3 = 1 := by kernel_rfl
theorem c21 : Tryd.prog.cellsOf 21 = 1 := by kernel_rfl
theorem c9 : Tryd.prog.cellsOf 9 = 1 := by kernel_rfl
theorem c24 : Tryd.prog.cellsOf 24 = 5 := by kernel_rfl
theorem rdt_int {N g t : Nat} {k : IntKind} {a : AV} (hu : Tryd.prog.underlying t = some (.int k)) (h : Rdt Tryd.prog N (g + 1) t [a]) : ∃ n, a = .int k n ∧ (Lit.int k n).wf = true := by
  unfold Rdt at h; rw [hu] at h
  obtain ⟨n, h1, h2⟩ := h
  exact ⟨n, List.head_eq_of_cons_eq h1, h2⟩
theorem rdt_str {N g : Nat} {a : AV} (h : Rdt Tryd.prog N (g + 1) 9 [a]) : ∃ s, a = .str s ∧ (∀ b ∈ s, b < 256) ∧ s.length ≤ N := by
  unfold Rdt at h; rw [u9] at h
  obtain ⟨n, h1, h2⟩ := h
  exact ⟨n, List.head_eq_of_cons_eq h1, h2⟩
theorem wf_i64 {n : Int} (h : (Lit.int .i64 n).wf = true) : -9223372036854775808 ≤ n ∧ n < 9223372036854775808 := by
  simp [Lit.wf, IntKind.min, IntKind.max, IntKind.signed, IntKind.bits] at h
  omega
theorem wf_i32 {n : Int} (h : (Lit.int .i32 n).wf = true) : -2147483648 ≤ n ∧ n < 2147483648 := by
  simp [Lit.wf, IntKind.min, IntKind.max, IntKind.signed, IntKind.bits] at h
  omega
theorem const_of {N g : Nat} {r : List AV} (hN : N < 9223372036854775808) (h : Rdt Tryd.prog N (g + 2) 24 r) : ∃ c : CnA, c.cells = r ∧ c.Good ∧ c.cl.length ≤ N ∧ c.nm.length ≤ N ∧ c.ds.length ≤ N := by
  unfold Rdt at h; rw [u24] at h
  obtain ⟨hl, hf⟩ := h
  rw [c24] at hl
  match r, hl with
  | [a0, a1, a2, a3, a4], _ =>
    simp only [List.mem_cons, forall_eq_or_imp, c3, c21, c9, List.drop_zero, List.drop_succ_cons, List.take_succ_cons, List.take_zero] at hf
    obtain ⟨h0, h1, h2, h3, h4, _⟩ := hf
    obtain ⟨n0, rfl, w0⟩ := rdt_int u3 h0
    obtain ⟨n1, rfl, w1⟩ := rdt_int u21 h1
    obtain ⟨s2, rfl, g2, k2⟩ := rdt_str h2
    obtain ⟨s3, rfl, g3, k3⟩ := rdt_str h3
    obtain ⟨s4, rfl, g4, k4⟩ := rdt_str h4
    exact ⟨⟨n0, n1, s2, s3, s4⟩, rfl, ⟨(wf_i64 w0).1, (wf_i64 w0).2, (wf_i32 w1).1, (wf_i32 w1).2, ⟨by dsimp only; omega, g2⟩, ⟨by dsimp only; omega, g3⟩, ⟨by dsimp only; omega, g4⟩⟩, k2, k3, k4⟩
theorem consts_of {N g : Nat} (hN : N < 9223372036854775808) : ∀ (rows : List (List AV)), (∀ r ∈ rows, r.length = Tryd.prog.cellsOf 24 ∧ Rdt Tryd.prog N (g + 2) 24 r) → ∃ cs : List CnA, List.flatten rows = cellsC cs ∧ cs.length = rows.length ∧ ∀ c ∈ cs, c.Good ∧ c.cl.length ≤ N ∧ c.nm.length ≤ N ∧ c.ds.length ≤ N
  | [], _ => ⟨[], rfl, rfl, by simp⟩
  | r :: rows, h => by
    obtain ⟨cs, h1, h2, h3⟩ := consts_of hN rows (fun r hr => h r (List.mem_cons_of_mem _ hr))
    obtain ⟨c, h4, h5⟩ := const_of hN (h r (List.mem_cons_self ..)).2
    refine ⟨c :: cs, by rw [List.flatten_cons, h1, ← h4]; rfl, by simp [h2], fun q hq => ?_⟩
    rcases List.mem_cons.1 hq with rfl | hq
    · exact h5
    · exact h3 q hq
theorem consts_arg {N g : Nat} {a : AV} (hN : N < 9223372036854775808) (h : Rdt Tryd.prog N (g + 3) 22 [a]) : ∃ cs : List CnA, (∀ S, Rd S a 5 (cellsC cs) cs.length) ∧ (∀ c ∈ cs, c.Good ∧ c.cl.length ≤ N ∧ c.nm.length ≤ N ∧ c.ds.length ≤ N) ∧ cs.length ≤ N := by
  unfold Rdt at h; rw [u22] at h
  obtain ⟨v, rows, h1, h2, h3, h4⟩ := h
  obtain ⟨cs, g1, g2, g3⟩ := consts_of hN rows h4
  cases List.head_eq_of_cons_eq h1
  exact ⟨cs, fun S => (by rw [c24] at h2; exact (h2 S).eq g1 g2.symm), g3, by omega⟩
end Go.Proofs.YthhbnnnokmefoaaDoor
/- pool.Add, pool.Get. -/


namespace Go.Proofs.YthhbnnnokmefoaaDoor
open GX
set_option maxHeartbeats 16000000
section
open Go
variable {X : _root_.GX.X} {n : Nat} {l : L} {S : St}
/-- a function's end, where its first result is a cell -/
theorem V_done_ct {x : Ex} {a t u b o : Nat} {v w : AV} {R : AV → St → Prop} (hx : (match x with | .exit _ => false | _ => true) = true) (ha : lk l a = some (.ptr b o)) (hl : loadAt X S.h t b o = some v) (hu : lk l u = some w) (h : R (.tup [v, w]) S) : V X n x [] (QF X [.cell a t, .tmp u] R) l S := by
  unfold V
  intro e he
  refine ⟨fun i hi => ?_, [v, w], ?_, h⟩
  · subst hi; cases hx
  · simp only [rets, he a _ ha, he u _ hu, hl]
theorem V_done_c {x : Ex} {a t b o : Nat} {v : AV} {R : AV → St → Prop} (hx : (match x with | .exit _ => false | _ => true) = true) (ha : lk l a = some (.ptr b o)) (hl : loadAt X S.h t b o = some v) (h : R (tupled [v]) S) : V X n x [] (QF X [.cell a t] R) l S := by
  unfold V
  intro e he
  refine ⟨fun i hi => ?_, [v], ?_, h⟩
  · subst hi; cases hx
  · simp only [rets, he a _ ha, hl]
end
theorem loadAt_c {H : Tr AB} {b : Nat} {c : CnA} {sp : Bool} (h : H.get b = some (.cells 24 c.cells sp)) : loadAt X1 H 24 b 0 = some (.agg c.cells) := by
  have e : row H b 0 5 = some c.cells := by unfold row; rw [h]; rfl
  show (match row H b 0 5 with | some cs => some (AV.agg cs) | none => none) = _
  rw [e]
theorem sok_upd {S S' : St} {p : Nat} {b : AB} (h : Sok S) (hp : p < S.n) (hn : S'.n = S.n) (_ : S'.h.get p = some b) (hf : ∀ c, c ≠ p → S'.h.get c = S.h.get c) : Sok S' := by
  intro c x hx
  by_cases hc : c = p
  · rw [hc, hn]; exact hp
  · rw [hf c hc] at hx; rw [hn]; exact h c x hx
def zeroC : CnA := ⟨0, 0, [], [], []⟩
/-- an entry of a kind, and why not -/
def getS (cs : List CnA) (n kind : Int) : CnA × Int := if n < 0 then (zeroC, 14) else match cs[n.toNat]? with | some d => if d.kind = kind then (d, 0) else (zeroC, 14) | none => (zeroC, 14)
theorem getS_hit {cs : List CnA} {m : Nat} (h : m < cs.length) (kind : Int) : getS cs (m : Int) kind = if (cs[m]).kind = kind then (cs[m], 0) else (zeroC, 14) := by
  unfold getS
  rw [if_neg (by omega), Int.toNat_natCast, List.getElem?_eq_getElem h]
theorem getS_miss {cs : List CnA} {m : Nat} (h : cs.length ≤ m) (kind : Int) : getS cs (m : Int) kind = (zeroC, 14) := by
  unfold getS
  rw [if_neg (by omega), Int.toNat_natCast, List.getElem?_eq_none h]
theorem getS_neg {cs : List CnA} {n : Int} (h : n < 0) (kind : Int) : getS cs n kind = (zeroC, 14) := by
  unfold getS; rw [if_pos h]
theorem get_runs {S : St} {v : AV} {cs : List CnA} {n kind : Int} (hok : Sok S) (hv : Cs S v cs) (_hb : cs.length ≤ 1000000000) (hn : S.n + 1 ≤ 1000000000) :
    Runs X1 15 [v, .int .i64 n, .int .i64 kind] S fun r S' => r = .tup [.agg (getS cs n kind).1.cells, .int .i64 (getS cs n kind).2] ∧ Fr S S' .nils 1 := by
  refine Runs_fn (m := 30) (by kernel_rfl) Tryd.func15 rfl (by kernel_rfl) (by kernel_rfl) ?_
  repeat (
    first
      | refine W_seq ?_
      | refine W_region ?_
      | refine WO_dst rfl rfl (by kernel_rfl) (by kernel_rfl) ?_)
  refine Ev_alloc_ rfl hok (by omega) ?_
  intro T hTn hTok hTq hTf
  have hF : Fr S T .nils 1 := ⟨by omega, by omega, hTok, fun c _ h => hTf c h⟩
  have hv1 := hv.keep (fun c h => hTf c (hv.lt hok h))
  have hq : T.h.get S.n = some (.cells 24 zeroC.cells false) := hTq
  by_cases hneg : n < 0
  · have e : getS cs n kind = (zeroC, 14) := getS_neg hneg kind
    repeat' (
      first
        | refine W_seq ?_
        | refine WO_nil ?_
        | refine V_seq ?_
        | refine W_region ?_
        | refine W_cond_t rfl ?_
        | refine WO_dst rfl rfl (by kernel_rfl) (by kernel_rfl) ?_
        | refine WO_guard_f rfl rfl rfl rfl rfl rfl (by kernel_rfl) (by kernel_rfl) ?_
        | refine Ev_move rfl ?_
        | refine Ev_assign rfl ?_
        | refine Ev_pick_t rfl rfl rfl ?_
        | refine Ev_lss rfl rfl ?_
        | (refine WO_guard_df rfl rfl rfl rfl rfl (by kernel_rfl) (by kernel_rfl) (fun hg => ?_) (fun hg => ?_) <;> (try dsimp only at hg) <;> try (exfalso; first | omega | exact hg rfl)))
    refine Ev_build (v := .agg zeroC.cells) rfl rfl ?_
    repeat (
      refine WO_no rfl rfl ?_)
    refine Ev_store rfl rfl rfl rfl (CnA.ones _) hq (by simp [CnA.cells, AV.cells]) (by omega) ?_
    intro T3 gn3 gq3 gf3
    repeat (
      first
        | refine WO_nil ?_
        | refine V_seq ?_
        | refine W_ret ?_
        | refine V_ret ?_
        | refine WO_dst rfl rfl (by kernel_rfl) (by kernel_rfl) ?_
        | refine Ev_assign rfl ?_)
    refine V_done_ct rfl rfl (loadAt_c (c := zeroC) gq3) rfl ?_
    rw [e]
    exact ⟨rfl, ⟨by omega, by omega, sok_upd hTok (by omega) gn3 gq3 gf3, fun c _ h => by rw [gf3 c (by omega), hTf c h]⟩⟩
  · obtain ⟨m, rfl⟩ : ∃ m : Nat, n = (m : Int) := ⟨n.toNat, by omega⟩
    repeat' (
      first
        | refine W_seq ?_
        | refine WO_nil ?_
        | refine V_seq ?_
        | refine W_region ?_
        | refine W_cond_t rfl ?_
        | refine WO_dst rfl rfl (by kernel_rfl) (by kernel_rfl) ?_
        | refine WO_guard_t rfl rfl rfl rfl rfl (by kernel_rfl) (by kernel_rfl) ?_
        | refine WO_guard_f rfl rfl rfl rfl rfl rfl (by kernel_rfl) (by kernel_rfl) ?_
        | refine Ev_len rfl rfl rfl rfl rfl hv1.len ?_
        | refine Ev_move rfl ?_
        | refine Ev_assign rfl ?_
        | refine Ev_pick_t rfl rfl rfl ?_
        | refine Ev_pick_f rfl rfl rfl ?_
        | refine Ev_lssN rfl rfl ?_
        | refine Ev_geqN rfl rfl ?_
        | (refine WO_guard_df rfl rfl rfl rfl rfl (by kernel_rfl) (by kernel_rfl) (fun hg => ?_) (fun hg => ?_) <;> (try dsimp only at hg) <;> try (exfalso; first | omega | exact hg rfl)))
    · have hlt : m < cs.length := by omega
      refine Ev_indexAddr_rd rfl rfl rfl rfl rfl hv1 hlt ?_
      intro q hq1
      repeat (
        first
          | refine WO_dst rfl rfl (by kernel_rfl) (by kernel_rfl) ?_
          | refine WO_guard_t rfl rfl rfl rfl rfl (by kernel_rfl) (by kernel_rfl) ?_)
      refine Ev_fieldAddr_pt rfl rfl rfl rfl rfl rfl hq1 ?_
      intro q2 hq2
      repeat (
        first
          | refine WO_dst rfl rfl (by kernel_rfl) (by kernel_rfl) ?_
          | refine WO_guard_t rfl rfl rfl rfl rfl (by kernel_rfl) (by kernel_rfl) ?_)
      refine Ev_load_pt rfl rfl rfl hq2 (cellsC_at hlt (by decide) rfl) (veq_int _ _) ?_
      repeat' (
        first
          | refine W_seq ?_
          | refine WO_nil ?_
          | refine V_seq ?_
          | refine W_region ?_
          | refine W_skip ?_
          | refine WO_dst rfl rfl (by kernel_rfl) (by kernel_rfl) ?_
          | refine WO_guard_t rfl rfl rfl rfl rfl (by kernel_rfl) (by kernel_rfl) ?_
          | refine Ev_move rfl ?_
          | refine Ev_pick_f rfl rfl rfl ?_
          | refine Ev_neq rfl rfl ?_
          | (refine W_cond rfl (fun hc => ?_) (fun hc => ?_) <;> (try dsimp only at hc) <;> try (exfalso; first | omega | exact hc rfl)))
      · have e : getS cs m kind = (zeroC, 14) := by rw [getS_hit hlt, if_neg hc]
        refine Ev_build (v := .agg zeroC.cells) rfl rfl ?_
        repeat (
          refine WO_no rfl rfl ?_)
        refine Ev_store rfl rfl rfl rfl (CnA.ones _) hq (by simp [CnA.cells, AV.cells]) (by omega) ?_
        intro T3 gn3 gq3 gf3
        repeat (
          first
            | refine WO_nil ?_
            | refine V_seq ?_
            | refine W_ret ?_
            | refine V_ret ?_
            | refine WO_dst rfl rfl (by kernel_rfl) (by kernel_rfl) ?_
            | refine Ev_assign rfl ?_)
        refine V_done_ct rfl rfl (loadAt_c (c := zeroC) gq3) rfl ?_
        rw [e]
        exact ⟨rfl, ⟨by omega, by omega, sok_upd hTok (by omega) gn3 gq3 gf3, fun c _ h => by rw [gf3 c (by omega), hTf c h]⟩⟩
      · have e : getS cs m kind = (cs[m], 0) := by rw [getS_hit hlt, if_pos (Classical.not_not.1 hc)]
        refine Ev_indexAddr_rd rfl rfl rfl rfl rfl hv1 hlt ?_
        intro q3 hq3
        repeat (
          refine WO_dst rfl rfl (by kernel_rfl) (by kernel_rfl) ?_)
        refine Ev_load_pt_agg rfl rfl rfl hq3 (by rw [cellsC_len]; dsimp only; omega) (cellsC_get cs m hlt) (CnA.veqs _) ?_
        repeat (
          refine WO_no rfl rfl ?_)
        refine Ev_store rfl rfl rfl rfl (CnA.ones _) hq (by simp [CnA.cells, AV.cells]) (by omega) ?_
        intro T3 gn3 gq3 gf3
        repeat (
          first
            | refine WO_nil ?_
            | refine V_seq ?_
            | refine W_ret ?_
            | refine WO_dst rfl rfl (by kernel_rfl) (by kernel_rfl) ?_
            | refine Ev_assign rfl ?_)
        refine V_done_ct rfl rfl (loadAt_c (c := cs[m]) gq3) rfl ?_
        rw [e]
        exact ⟨rfl, ⟨by omega, by omega, sok_upd hTok (by omega) gn3 gq3 gf3, fun c _ h => by rw [gf3 c (by omega), hTf c h]⟩⟩
    · have e : getS cs m kind = (zeroC, 14) := getS_miss (by omega) kind
      refine Ev_build (v := .agg zeroC.cells) rfl rfl ?_
      repeat (
        refine WO_no rfl rfl ?_)
      refine Ev_store rfl rfl rfl rfl (CnA.ones _) hq (by simp [CnA.cells, AV.cells]) (by omega) ?_
      intro T3 gn3 gq3 gf3
      repeat (
        first
          | refine WO_nil ?_
          | refine V_seq ?_
          | refine W_ret ?_
          | refine V_ret ?_
          | refine WO_dst rfl rfl (by kernel_rfl) (by kernel_rfl) ?_
          | refine Ev_assign rfl ?_)
      refine V_done_ct rfl rfl (loadAt_c (c := zeroC) gq3) rfl ?_
      rw [e]
      exact ⟨rfl, ⟨by omega, by omega, sok_upd hTok (by omega) gn3 gq3 gf3, fun c _ h => by rw [gf3 c (by omega), hTf c h]⟩⟩
/-- a pool with an entry, its number, and why not -/
def addS (cs : List CnA) (c : CnA) : List CnA × Int × Int :=
  if rightP c then (match cidx c cs with | some n => (cs, ((n : Nat) : Int), 0) | none => if 256 ≤ cs.length then ([], 0, 4) else (cs ++ [c], ((cs.length : Nat) : Int), 0)) else ([], 0, 14)
structure AddO (S : St) (cs : List CnA) (c : CnA) (k : Nat) (v : AV) (S' : St) : Prop where
  fr : Fr S S' .nils k
  val : ∃ r, v = .tup [r, .int .i64 (addS cs c).2.1, .int .i64 (addS cs c).2.2] ∧ Gz S' r 24 5 (cellsC (addS cs c).1) (addS cs c).1.length ∧ ∀ b, blkOf r = some b → S.n ≤ b
theorem add_runs {S : St} {v : AV} {cs : List CnA} {c : CnA} (hok : Sok S) (hv : Cs S v cs) (hc : c.Good) (hb : cs.length ≤ 100000000) (hn : S.n + 60 ≤ 1000000000) :
    Runs X1 17 [v, .agg c.cells] S (AddO S cs c 30) := by
  refine Runs_fn (m := 32) (by kernel_rfl) Tryd.func17 rfl (by kernel_rfl) (by kernel_rfl) ?_
  repeat (
    first
      | refine W_seq ?_
      | refine W_region ?_
      | refine WO_dst rfl rfl (by kernel_rfl) (by kernel_rfl) ?_)
  refine Ev_box rfl hok (by omega) ?_
  intro T hTn hTok hTq hTf
  have hF : Fr S T .nils 1 := ⟨by omega, by omega, hTok, fun c _ h => hTf c h⟩
  have hv1 := hv.keep (fun c h => hTf c (hv.lt hok h))
  have hq : T.h.get S.n = some (.cells 24 c.cells false) := hTq
  repeat (
    first
      | refine W_seq ?_
      | refine WO_nil ?_
      | refine V_seq ?_
      | refine W_region ?_
      | refine WO_dst rfl rfl (by kernel_rfl) (by kernel_rfl) ?_
      | refine Ev_assign rfl ?_)
  refine Ev_load_agg rfl rfl rfl hq (by simp [CnA.cells]) (show (c.cells.drop 0).take 5 = c.cells from rfl) (CnA.veqs c) ?_
  repeat (
    refine WO_dst rfl rfl (by kernel_rfl) (by kernel_rfl) ?_)
  refine Ev_call rfl rfl ((right_runs hTok hc (by omega)).mono ?_)
  rintro _ T1 - ⟨rfl, hF1⟩
  have gn1 := hF1.n
  have gl1 := hF1.le
  have hv2 := hv1.keep (fun c h => hF1.same c (by simp [blkOf]) (hv1.lt hTok h))
  have hq1 : T1.h.get S.n = some (.cells 24 c.cells false) := by rw [hF1.same S.n (by simp [blkOf]) (by omega)]; exact hq
  have hF01 : ∀ d, d < S.n → T1.h.get d = S.h.get d := fun d h => by rw [hF1.same d (by simp [blkOf]) (by omega), hTf d h]
  repeat' (
    first
      | refine W_seq ?_
      | refine WO_nil ?_
      | refine V_seq ?_
      | refine W_region ?_
      | refine W_skip ?_
      | refine W_ret ?_
      | refine V_ret ?_
      | refine WO_dst rfl rfl (by kernel_rfl) (by kernel_rfl) ?_
      | refine Ev_move rfl ?_
      | refine Ev_assign rfl ?_
      | refine Ev_not rfl ?_
      | (refine W_cond rfl (fun hc => ?_) (fun hc => ?_) <;> (try dsimp only at hc) <;> try (exfalso; first | omega | exact hc rfl)))
  · have e : addS cs c = ([], 0, 14) := by unfold addS; rw [if_neg (by assumption)]
    refine V_done rfl rfl ⟨⟨by omega, by omega, hF1.ok, fun d _ h => hF01 d h⟩, .nils, ?_, ?_, fun c hc => by cases hc⟩
    · rw [e]; rfl
    · rw [e]; exact .inl (.inl ⟨rfl, rfl, rfl⟩)
  · have hr : rightP c := by first | assumption | exact Classical.not_not.1 (by assumption)
    refine Ev_call rfl rfl ((cclone_runs hF1.ok hv2 (by omega) (by omega)).mono ?_)
    rintro w T2 - ⟨hF2, hz2, hb2⟩
    have gn2 := hF2.n
    have gl2 := hF2.le
    have hv3 := hv2.keep (fun c h => hF2.same c (by simp [blkOf]) (hv2.lt hF1.ok h))
    have hq2 : T2.h.get S.n = some (.cells 24 c.cells false) := by rw [hF2.same S.n (by simp [blkOf]) (by omega)]; exact hq1
    repeat (
      first
        | refine W_seq ?_
        | refine WO_nil ?_
        | refine V_seq ?_
        | refine W_region ?_
        | refine WO_dst rfl rfl (by kernel_rfl) (by kernel_rfl) ?_
        | refine Ev_move rfl ?_
        | refine Ev_assign rfl ?_)
    refine Ev_load_agg rfl rfl rfl hq2 (by simp [CnA.cells]) (show (c.cells.drop 0).take 5 = c.cells from rfl) (CnA.veqs c) ?_
    repeat (
      refine WO_dst rfl rfl (by kernel_rfl) (by kernel_rfl) ?_)
    refine Ev_call rfl rfl ((cindex_runs hF2.ok hz2.rd (by omega) (by omega)).mono ?_)
    rintro _ T3 - ⟨rfl, hF3⟩
    have gn3 := hF3.n
    have gl3 := hF3.le
    have hz3 := hz2.keep (fun c h => hF3.same c (by simp [blkOf]) (hz2.lt hF2.ok h))
    have hv4 := hv3.keep (fun c h => hF3.same c (by simp [blkOf]) (hv3.lt hF2.ok h))
    have hq3 : T3.h.get S.n = some (.cells 24 c.cells false) := by rw [hF3.same S.n (by simp [blkOf]) (by omega)]; exact hq2
    have hF03 : ∀ d, d < S.n → T3.h.get d = S.h.get d := fun d h => by rw [hF3.same d (by simp [blkOf]) (by omega), hF2.same d (by simp [blkOf]) (by omega), hF01 d h]
    have hbw : ∀ b, blkOf w = some b → S.n ≤ b := fun b h => by have := hb2 b h; omega
    cases hi : cidx c cs with
    | some m =>
      have e : addS cs c = (cs, ((m : Nat) : Int), 0) := by unfold addS; rw [if_pos hr, hi]
      have ei : cidxI c cs = ((m : Nat) : Int) := by unfold cidxI; rw [hi]
      rw [ei]
      repeat' (
        first
          | refine W_seq ?_
          | refine WO_nil ?_
          | refine V_seq ?_
          | refine W_region ?_
          | refine W_block ?_
          | refine W_ret ?_
          | refine V_ret ?_
          | refine W_cond_t rfl ?_
          | refine WO_dst rfl rfl (by kernel_rfl) (by kernel_rfl) ?_
          | refine Ev_move rfl ?_
          | refine Ev_assign rfl ?_
          | refine Ev_geqN rfl rfl ?_)
      refine V_done rfl rfl ⟨⟨by omega, by omega, hF3.ok, fun d _ h => hF03 d h⟩, w, ?_, ?_, hbw⟩
      · rw [e]; rfl
      · rw [e]; exact hz3
    | none =>
      have ei : cidxI c cs = -1 := by unfold cidxI; rw [hi]
      rw [ei]
      repeat' (
        first
          | refine W_seq ?_
          | refine WO_nil ?_
          | refine V_seq ?_
          | refine W_region ?_
          | refine W_block ?_
          | refine W_skip ?_
          | refine W_ret ?_
          | refine V_ret ?_
          | refine V_block ?_
          | refine W_cond_f rfl ?_
          | refine WO_dst rfl rfl (by kernel_rfl) (by kernel_rfl) ?_
          | refine Ev_len rfl rfl rfl rfl rfl hv4.len ?_
          | refine Ev_move rfl ?_
          | refine Ev_assign rfl ?_
          | refine Ev_geqN rfl rfl ?_
          | refine Ev_geq rfl rfl ?_
          | (refine W_cond rfl (fun hc => ?_) (fun hc => ?_) <;> (try dsimp only at hc) <;> try (exfalso; first | omega | exact hc rfl)))
      · have e : addS cs c = ([], 0, 4) := by unfold addS; rw [if_pos hr, hi]; dsimp only; rw [if_pos (by assumption)]
        refine V_done rfl rfl ⟨⟨by omega, by omega, hF3.ok, fun d _ h => hF03 d h⟩, .nils, ?_, ?_, fun c hc => by cases hc⟩
        · rw [e]; rfl
        · rw [e]; exact .inl (.inl ⟨rfl, rfl, rfl⟩)
      · have e : addS cs c = (cs ++ [c], ((cs.length : Nat) : Int), 0) := by unfold addS; rw [if_pos hr, hi]; dsimp only; rw [if_neg (by assumption)]
        refine Ev_load_agg rfl rfl rfl hq3 (by simp [CnA.cells]) (show (c.cells.drop 0).take 5 = c.cells from rfl) (CnA.veqs c) ?_
        repeat (
          refine WO_dst rfl rfl (by kernel_rfl) (by kernel_rfl) ?_)
        refine Ev_buildSlice rfl rfl rfl rfl rfl rfl hF3.ok (by omega) ?_
        intro T4 gn4 gok4 gq4 gf4
        have hz4 := hz3.keep (fun c h => gf4 c (hz3.lt hF3.ok h))
        have hv5 := hv4.keep (fun c h => gf4 c (hv4.lt hF3.ok h))
        have hrd : Rd T4 (.slice T3.n 0 1 (.ex 1)) 5 c.cells 1 := Rd_lit gq4 rfl rfl
        repeat (
          refine WO_dst rfl rfl (by kernel_rfl) (by kernel_rfl) ?_)
        refine Ev_append_gz rfl rfl rfl rfl rfl rfl rfl rfl rfl rfl hz4 hrd (CnA.ones c) gok4 (by omega) (by dsimp only; omega) (by omega) ?_
        intro w5 T5 gl5 gn5 gok5 hz5 gf5 gb5
        have hv6 := hv5.keep (fun c h => gf5 c (fun e2 => by have := hbw c e2; have := hv.lt hok h; omega) (hv5.lt gok4 h))
        repeat (
          first
            | refine WO_nil ?_
            | refine V_seq ?_
            | refine W_ret ?_
            | refine WO_dst rfl rfl (by kernel_rfl) (by kernel_rfl) ?_
            | refine Ev_len rfl rfl rfl rfl rfl hv6.len ?_
            | refine Ev_move rfl ?_
            | refine Ev_assign rfl ?_)
        refine V_done rfl rfl ⟨⟨by omega, by omega, gok5, fun d _ h => ?_⟩, w5, ?_, ?_, fun b hb => ?_⟩
        · rw [gf5 d (fun e2 => by have := hbw d e2; omega) (by omega), gf4 d (by omega), hF03 d h]
        · rw [e]; rfl
        · rw [e]
          refine hz5.eq ?_ (by simp)
          rw [cellsC_app]
          show cellsC cs ++ c.cells = cellsC cs ++ ([c].flatMap CnA.cells)
          simp
        · rcases gb5 b hb with h | h
          · exact hbw b h
          · omega
end Go.Proofs.YthhbnnnokmefoaaDoor
/- carafelaw3.PoolAdds. -/


namespace Go.Proofs.YthhbnnnokmefoaaDoor
open GX
set_option maxHeartbeats 16000000
theorem cellsC_take : ∀ (cs : List CnA) (i : Nat), (cellsC cs).take (i * 5) = cellsC (cs.take i)
  | [], i => by simp [cellsC]
  | c :: cs, 0 => by simp [cellsC]
  | c :: cs, i + 1 => by
    show (c.cells ++ cellsC cs).take ((i + 1) * 5) = c.cells ++ cellsC (cs.take i)
    rw [show (i + 1) * 5 = c.cells.length + i * 5 by simp [CnA.cells]; omega, List.take_length_add_append, cellsC_take cs i]
section
variable {X : X} {l : L} {S : St} {R : AV → St → Prop} {x y : Go.Operand} {t u : Nat}
theorem Ev_bneq {a b : Bool} {i : TI} (hx : od l x = some (.bool a)) (hy : od l y = some (.bool b)) (hi : X.ti t = some i) (hd : i.desc = .bool) (hR : R (.bool (!(a == b))) S) : Ev X l S (.binOp .neq t x y u) R :=
  Ev_bin hx hy rfl (by unfold abin; dsimp only; unfold aeq; rw [hi]; dsimp only; rw [hd]) hR
end
theorem rd_noblk {v : AV} {sz : Nat} {cs : List AV} {m : Nat} (h : ∀ S, Rd S v sz cs m) : blkOf v = none := by
  cases hb : blkOf v with
  | none => rfl
  | some b => exact absurd ((h { h := .leaf, n := 0 }).lt (by intro c x h; simp [Tr.get] at h) hb) (Nat.not_lt_zero _)
/-- what is kept behind some constants: the pool, and their numbers -/
def accS (l : List CnA) : Nat → List CnA × List Int
  | 0 => ([], [])
  | i + 1 => match l[i]? with
    | none => accS l i
    | some c => if rightP c then (match cidx c (accS l i).1 with | some n => ((accS l i).1, (accS l i).2 ++ [((n : Nat) : Int)]) | none => ((accS l i).1 ++ [c], (accS l i).2 ++ [(((accS l i).1.length : Nat) : Int)])) else ((accS l i).1, (accS l i).2 ++ [-1])
theorem accS_s {l : List CnA} {i : Nat} (h : i < l.length) : accS l (i + 1) = if rightP l[i] then (match cidx l[i] (accS l i).1 with | some n => ((accS l i).1, (accS l i).2 ++ [((n : Nat) : Int)]) | none => ((accS l i).1 ++ [l[i]], (accS l i).2 ++ [(((accS l i).1.length : Nat) : Int)])) else ((accS l i).1, (accS l i).2 ++ [-1]) := by
  show (match l[i]? with | none => accS l i | some c => _) = _
  rw [List.getElem?_eq_getElem h]
/-- where each constant is -/
def atOk (p : List CnA) (c : CnA) (n : Int) : Prop := (¬ rightP c ∧ n = -1) ∨ (rightP c ∧ ∃ m : Nat, n = (m : Int) ∧ cidx c p = some m)
theorem atOk_app {p q : List CnA} {c : CnA} {n : Int} (h : atOk p c n) : atOk (p ++ q) c n := by
  rcases h with h | ⟨h, m, h1, h2⟩
  · exact .inl h
  · exact .inr ⟨h, m, h1, cidx_app h2⟩
theorem accS_ok {l : List CnA} : ∀ (i : Nat), i ≤ l.length → (accS l i).1.length ≤ i ∧ (accS l i).2.length = i ∧ ∀ (j : Nat) (c : CnA) (n : Int), l[j]? = some c → (accS l i).2[j]? = some n → atOk (accS l i).1 c n
  | 0, _ => ⟨Nat.le_refl _, rfl, fun j c n _ h => by simp [accS] at h⟩
  | i + 1, h => by
    obtain ⟨h1, h2, h3⟩ := accS_ok (l := l) i (by omega)
    have hi : i < l.length := by omega
    have key : ∀ (q : List CnA) (z : Int), atOk ((accS l i).1 ++ q) l[i] z → ∀ (j : Nat) (c : CnA) (n : Int), l[j]? = some c → ((accS l i).2 ++ [z])[j]? = some n → atOk ((accS l i).1 ++ q) c n := by
      intro q z hz j c n hj hn
      by_cases hlt : j < i
      · rw [List.getElem?_append_left (by omega)] at hn
        exact atOk_app (h3 j c n hj hn)
      · have : j = i := by
          have := (List.getElem?_eq_some_iff.1 hn).1
          simp at this; omega
        subst this
        have hjl : (accS l j).2.length ≤ j := by rw [h2]; exact Nat.le_refl _
        rw [List.getElem?_append_right hjl, h2] at hn
        simp at hn
        rw [List.getElem?_eq_getElem hi] at hj
        cases hj; rw [← hn]; exact hz
    rw [accS_s hi]
    by_cases hr : rightP l[i]
    · rw [if_pos hr]
      cases hc : cidx l[i] (accS l i).1 with
      | some m =>
        refine ⟨by dsimp only; omega, by simp; exact h2, ?_⟩
        have := key [] ((m : Nat) : Int) (by rw [List.append_nil]; exact .inr ⟨hr, m, rfl, hc⟩)
        simpa using this
      | none =>
        refine ⟨by simp; omega, by simp; exact h2, ?_⟩
        exact key [l[i]] _ (.inr ⟨hr, _, rfl, cidx_snoc hc⟩)
    · rw [if_neg hr]
      refine ⟨by dsimp only; omega, by simp; exact h2, ?_⟩
      have := key [] (-1) (by rw [List.append_nil]; exact .inl ⟨hr, rfl⟩)
      simpa using this
def intsV (l : List Int) : List AV := l.map (AV.int .i64)
theorem intsV_get {l : List Int} {i : Nat} {n : Int} (h : l[i]? = some n) : (intsV l)[i * 1]? = some (.int .i64 n) := by
  unfold intsV; rw [Nat.mul_one, List.getElem?_map, h]; rfl
theorem known_true {S : St} {R : AV → St → Prop} (h : R (.bool true) S) : Runs X1 23 [] S R := Runs_ext (g := extTrue) rfl rfl (Nat.le_refl _) h
theorem adds_runs {S : St} {lv : AV} {cs : List CnA} (hok : Sok S) (hlv : ∀ S, Rd S lv 5 (cellsC cs) cs.length) (hgood : ∀ c ∈ cs, c.Good) (hn : S.n ≤ 1000) :
    Runs X1 5 [lv] S fun r _ => r = .bool true := by
  have hno := rd_noblk hlv
  refine Runs_fn (m := 132) (by kernel_rfl) Tryd.func5 rfl (by kernel_rfl) (by kernel_rfl) ?_
  repeat (
    first
      | refine W_seq ?_
      | refine WO_nil ?_
      | refine V_seq ?_
      | refine W_region ?_
      | refine W_block ?_
      | refine WO_dst rfl rfl (by kernel_rfl) (by kernel_rfl) ?_
      | refine Ev_assign rfl ?_)
  refine W_inv (fun a : Nat × AV × AV => [(5, .int .i64 ((a.1 : Nat) : Int)), (3, a.2.1), (4, a.2.2), (0, lv)]) (fun a T => Sok T ∧ a.1 ≤ 60 ∧ a.1 ≤ cs.length ∧ Cs T a.2.1 (accS cs a.1).1 ∧ Own T a.2.2 3 1 (intsV (accS cs a.1).2) a.1 ∧ (∀ b, blkOf a.2.1 = some b → blkOf a.2.2 ≠ some b) ∧ T.n ≤ 200 * a.1 + 2000) (fun a => 61 - a.1) ?_ (0, .nils, .nils) ⟨hok, by simp, by simp, ⟨rfl, rfl, rfl, rfl, rfl, rfl⟩, .inl ⟨rfl, rfl, rfl⟩, fun b h => (by cases h), by dsimp only; omega⟩ ⟨rfl, rfl, rfl, rfl, trivial⟩
  rintro ⟨i, pv, tv⟩ T ⟨hokT, hi, hil, hp, ht, hpt, hTn⟩ back
  dsimp only at hi hil hp ht hpt hTn back
  obtain ⟨ha1, ha2, ha3⟩ := accS_ok i hil
  repeat' (
    first
      | refine W_seq ?_
      | refine WO_nil ?_
      | refine V_seq ?_
      | refine W_region ?_
      | refine W_block ?_
      | refine W_skip ?_
      | refine W_exit ?_
      | refine V_block_x rfl ?_
      | refine V_seq_x ?_
      | refine V_loop_x ?_
      | refine W_cond_f rfl ?_
      | refine WO_dst rfl rfl (by kernel_rfl) (by kernel_rfl) ?_
      | refine WO_guard_t rfl rfl rfl rfl rfl (by kernel_rfl) (by kernel_rfl) ?_
      | refine WO_guard_f rfl rfl rfl rfl rfl rfl (by kernel_rfl) (by kernel_rfl) ?_
      | refine Ev_len rfl rfl rfl rfl rfl (hlv T).len ?_
      | refine Ev_move rfl ?_
      | refine Ev_assign rfl ?_
      | refine Ev_pick_t rfl rfl rfl ?_
      | refine Ev_pick_f rfl rfl rfl ?_
      | refine Ev_lssN rfl rfl ?_
      | (refine WO_guard_dt rfl rfl rfl rfl rfl (by kernel_rfl) (by kernel_rfl) (fun hg => ?_) (fun hg => ?_) <;> (try dsimp only at hg) <;> try (exfalso; first | omega | exact hg rfl))
      | (refine W_cond rfl (fun hc => ?_) (fun hc => ?_) <;> (try dsimp only at hc) <;> try (exfalso; first | omega | exact hc rfl)))
  · have hlt : i < cs.length := by assumption
    obtain ⟨c, hc⟩ : ∃ c, c = cs[i] := ⟨_, rfl⟩
    have hcg : c.Good := hgood c (by rw [hc]; exact List.getElem_mem _)
    have hcell := cellsC_get cs i hlt
    rw [← hc] at hcell
    have hacc := accS_s hlt
    rw [← hc] at hacc
    repeat (
      first
        | refine WO_dst rfl rfl (by kernel_rfl) (by kernel_rfl) ?_
        | refine Ev_indexAddr_n rfl rfl rfl rfl rfl (hlv T) hno hlt ?_
        | refine Ev_load_pt_agg rfl rfl rfl (.inr rfl) (by rw [cellsC_len]; dsimp only; omega) hcell (CnA.veqs c) ?_)
    refine Ev_call rfl rfl ((add_runs hokT hp hcg (by omega) (by omega)).mono ?_)
    rintro _ T1 - ⟨hF1, q, rfl, hq, hbq⟩
    have gn1 := hF1.n
    have gl1 := hF1.le
    have hp1 := hp.keep (fun c h => hF1.same c (by simp [blkOf]) (hp.lt hokT h))
    have ht1 := ht.keep (fun c h => hF1.same c (by simp [blkOf]) (ht.lt hokT h))
    repeat (
      first
        | refine W_seq ?_
        | refine WO_nil ?_
        | refine V_seq ?_
        | refine W_region ?_
        | refine WO_dst rfl rfl (by kernel_rfl) (by kernel_rfl) ?_
        | refine Ev_indexAddr_n rfl rfl rfl rfl rfl (hlv T1) hno hlt ?_
        | refine Ev_load_pt_agg rfl rfl rfl (.inr rfl) (by rw [cellsC_len]; dsimp only; omega) hcell (CnA.veqs c) ?_
        | refine Ev_move rfl ?_
        | refine Ev_assign rfl ?_
        | refine Ev_extract rfl rfl ?_
        | refine Ev_eql rfl rfl ?_)
    refine Ev_call rfl rfl ((right_runs hF1.ok hcg (by omega)).mono ?_)
    rintro _ T2 - ⟨rfl, hF2⟩
    have gn2 := hF2.n
    have gl2 := hF2.le
    have hp2 := hp1.keep (fun c h => hF2.same c (by simp [blkOf]) (hp1.lt hF1.ok h))
    have ht2 := ht1.keep (fun c h => hF2.same c (by simp [blkOf]) (ht1.lt hF1.ok h))
    have hq2 := hq.rd.keep (fun c h => hF2.same c (by simp [blkOf]) (hq.lt hF1.ok h))
    by_cases hr : rightP c
    · rw [decide_eq_true hr]
      rw [if_pos hr] at hacc
      have hx : ∃ n : Int, accS cs (i + 1) = ((addS (accS cs i).1 c).1, (accS cs i).2 ++ [n]) ∧ (addS (accS cs i).1 c).2 = (n, 0) ∧ (addS (accS cs i).1 c).1.take (accS cs i).1.length = (accS cs i).1 ∧ (accS cs i).1.length ≤ (addS (accS cs i).1 c).1.length := by
        unfold addS
        rw [if_pos hr]
        cases hci : cidx c (accS cs i).1 with
        | some m => rw [hci] at hacc; exact ⟨_, hacc, rfl, List.take_length, Nat.le_refl _⟩
        | none =>
          rw [hci] at hacc
          dsimp only
          rw [if_neg (by omega)]
          exact ⟨_, hacc, rfl, by simp, by simp⟩
      obtain ⟨n, hx1, hx2, hx3, hx4⟩ := hx
      rw [hx2]
      obtain ⟨Q, hQ⟩ : ∃ Q, Q = (addS (accS cs i).1 c).1 := ⟨_, rfl⟩
      rw [← hQ] at hx1 hx3 hx4 hq2
      have hbq2 : ∀ b, blkOf q = some b → T.n ≤ b := hbq
      have hQl : Q.length ≤ i + 1 := by
        have := (accS_ok (i + 1) (show i + 1 ≤ cs.length by omega)).1
        rw [hx1] at this; exact this
      repeat' (
        refine WO_dst rfl rfl (by kernel_rfl) (by kernel_rfl) ?_)
      refine Ev_bneq rfl rfl rfl rfl ?_
      repeat' (
        first
          | refine W_seq ?_
          | refine WO_nil ?_
          | refine V_seq ?_
          | refine W_region ?_
          | refine W_skip ?_
          | refine W_cond_f rfl ?_
          | refine WO_dst rfl rfl (by kernel_rfl) (by kernel_rfl) ?_
          | refine WO_guard_t rfl rfl rfl rfl rfl (by kernel_rfl) (by kernel_rfl) ?_
          | refine Ev_len rfl rfl rfl rfl rfl hq2.len ?_
          | refine Ev_len rfl rfl rfl rfl rfl hp2.len ?_
          | refine Ev_move rfl ?_
          | refine Ev_lssN rfl rfl ?_
          | refine Ev_neqN rfl rfl ?_
          | (refine WO_guard_df rfl rfl rfl rfl rfl (by kernel_rfl) (by kernel_rfl) (fun hg => ?_) (fun hg => ?_) <;> (try dsimp only at hg) <;> try (exfalso; first | omega | exact hg rfl)))
      refine Ev_slice_hi rfl rfl rfl rfl rfl hq2 hx4 ?_
      intro q' hq' _
      have hq3 : Cs T2 q' (accS cs i).1 := hq'.eq (by show (cellsC Q).take ((accS cs i).1.length * 5) = _; rw [cellsC_take, hx3]) rfl
      repeat (
        first
          | refine WO_dst rfl rfl (by kernel_rfl) (by kernel_rfl) ?_
          | refine WO_guard_t rfl rfl rfl rfl rfl (by kernel_rfl) (by kernel_rfl) ?_
          | refine Ev_move rfl ?_)
      refine Ev_call rfl rfl ((csame_runs hq3 hp2 ⟨by omega, by omega⟩).mono ?_)
      rintro _ _ - ⟨rfl, rfl⟩
      rename_i T2
      rw [decide_eq_true rfl]
      repeat' (
        first
          | refine W_seq ?_
          | refine WO_nil ?_
          | refine V_seq ?_
          | refine W_region ?_
          | refine W_skip ?_
          | refine W_cond_f rfl ?_
          | refine WO_dst rfl rfl (by kernel_rfl) (by kernel_rfl) ?_
          | refine WO_guard_t rfl rfl rfl rfl rfl (by kernel_rfl) (by kernel_rfl) ?_
          | refine Ev_move rfl ?_
          | refine Ev_assign rfl ?_
          | refine Ev_pick_f rfl rfl rfl ?_
          | refine Ev_notb rfl ?_)
      refine Ev_buildSlice rfl rfl rfl rfl rfl rfl hF2.ok (by omega) ?_
      intro T3 gn3 gok3 gq3 gf3
      have ht3 := ht2.keep (fun c h => gf3 c (ht2.lt hF2.ok h))
      have hq4 := hq2.keep (fun c h => gf3 c (hq2.lt hF2.ok h))
      have hrd : Rd T3 (.slice T2.n 0 1 (.ex 1)) 1 [.int .i64 n] 1 := Rd_lit gq3 rfl rfl
      repeat (
        refine WO_dst rfl rfl (by kernel_rfl) (by kernel_rfl) ?_)
      refine Ev_append rfl rfl rfl rfl rfl rfl rfl rfl rfl rfl ht3 hrd (by simp [AV.one]) gok3 (by omega) (by dsimp only; omega) (by omega) ?_
      intro w5 T5 gl5 gn5 gok5 ht5 gf5 gb5
      have hqt : ∀ b, blkOf q = some b → blkOf tv ≠ some b := fun b h1 h2 => by
        have := hbq2 b h1
        have := ht.lt hokT h2
        omega
      have hq5 := hq4.keep (fun b h => gf5 b (hqt b h) (hq4.lt gok3 h))
      repeat (
        first
          | refine WO_nil ?_
          | refine V_seq ?_
          | refine W_region ?_
          | refine V_block ?_
          | refine WO_dst rfl rfl (by kernel_rfl) (by kernel_rfl) ?_
          | refine Ev_move rfl ?_
          | refine Ev_assign rfl ?_
          | refine Ev_addN rfl rfl (by simp only [lim]; omega) ?_)
      refine back (i + 1, q, w5) T5 _ (by dsimp only; omega) ⟨gok5, by dsimp only; omega, by dsimp only; omega, ?_, ?_, fun b h1 h2 => ?_, by dsimp only; omega⟩ ⟨rfl, rfl, rfl, rfl, trivial⟩
      · dsimp only; rw [hx1]; exact hq5
      · dsimp only; rw [hx1]
        exact ht5.eq (by unfold intsV; simp) rfl
      · rcases gb5 b h2 with h | h
        · exact hqt b h1 h
        · have := hq4.lt gok3 h1; omega
    · have e : addS (accS cs i).1 c = ([], 0, 14) := by unfold addS; rw [if_neg hr]
      rw [if_neg hr] at hacc
      rw [decide_eq_false hr, e]
      repeat' (
        refine WO_dst rfl rfl (by kernel_rfl) (by kernel_rfl) ?_)
      refine Ev_bneq rfl rfl rfl rfl ?_
      repeat' (
        first
          | refine W_seq ?_
          | refine WO_nil ?_
          | refine V_seq ?_
          | refine W_region ?_
          | refine W_skip ?_
          | refine W_cond_t rfl ?_
          | refine W_cond_f rfl ?_
          | refine WO_dst rfl rfl (by kernel_rfl) (by kernel_rfl) ?_
          | refine Ev_move rfl ?_
          | refine Ev_neqN rfl rfl ?_)
      refine Ev_buildSlice rfl rfl rfl rfl rfl rfl hF2.ok (by omega) ?_
      intro T3 gn3 gok3 gq3 gf3
      have ht3 := ht2.keep (fun c h => gf3 c (ht2.lt hF2.ok h))
      have hp3 := hp2.keep (fun c h => gf3 c (hp2.lt hF2.ok h))
      have hrd : Rd T3 (.slice T2.n 0 1 (.ex 1)) 1 [.int .i64 (-1)] 1 := Rd_lit gq3 rfl rfl
      repeat (
        refine WO_dst rfl rfl (by kernel_rfl) (by kernel_rfl) ?_)
      refine Ev_append rfl rfl rfl rfl rfl rfl rfl rfl rfl rfl ht3 hrd (by simp [AV.one]) gok3 (by omega) (by dsimp only; omega) (by omega) ?_
      intro w5 T5 gl5 gn5 gok5 ht5 gf5 gb5
      have hp5 := hp3.keep (fun b h => gf5 b (hpt b h) (hp3.lt gok3 h))
      repeat' (
        first
          | refine WO_nil ?_
          | refine V_seq ?_
          | refine W_region ?_
          | refine W_exit ?_
          | refine V_block_x rfl ?_
          | refine V_seq_x ?_
          | refine WO_dst rfl rfl (by kernel_rfl) (by kernel_rfl) ?_
          | refine Ev_move rfl ?_
          | refine Ev_assign rfl ?_
          | refine Ev_addN rfl rfl (by simp only [lim]; omega) ?_)
      refine back (i + 1, pv, w5) T5 _ (by dsimp only; omega) ⟨gok5, by dsimp only; omega, by dsimp only; omega, ?_, ?_, fun b h1 h2 => ?_, by dsimp only; omega⟩ ⟨rfl, rfl, rfl, rfl, trivial⟩
      · dsimp only; rw [hacc]; exact hp5
      · dsimp only; rw [hacc]
        exact ht5.eq (by unfold intsV; simp) rfl
      · rcases gb5 b h2 with h | h
        · exact hpt b h1 h
        · have := hp3.lt gok3 h1; omega
  all_goals
    have hm : i = cs.length ∨ i = 60 := by omega
    obtain ⟨P, hP⟩ : ∃ P, P = (accS cs i).1 := ⟨_, rfl⟩
    obtain ⟨A, hA⟩ : ∃ A, A = (accS cs i).2 := ⟨_, rfl⟩
    rw [← hP] at ha1 ha3 hp
    rw [← hA] at ha2 ha3 ht
    refine W_inv (fun j : Nat => [(9, .int .i64 ((j : Nat) : Int)), (3, pv), (4, tv), (0, lv)]) (fun j U => Sok U ∧ j ≤ i ∧ Cs U pv P ∧ Own U tv 3 1 (intsV A) i ∧ U.n ≤ 200 * j + 20000) (fun j => i - j) ?_ 0 ⟨hokT, by omega, hp, ht, by omega⟩ ⟨rfl, rfl, rfl, rfl, trivial⟩
    rintro j U ⟨hokU, hj, hpU, htU, hUn⟩ back2
    repeat' (
      first
        | refine W_seq ?_
        | refine WO_nil ?_
        | refine V_seq ?_
        | refine W_region ?_
        | refine W_block ?_
        | refine W_skip ?_
        | refine W_exit ?_
        | refine V_block_x rfl ?_
        | refine V_seq_x ?_
        | refine V_loop_x ?_
        | refine WO_dst rfl rfl (by kernel_rfl) (by kernel_rfl) ?_
        | refine Ev_len rfl rfl rfl rfl rfl htU.rd.len ?_
        | refine Ev_move rfl ?_
        | refine Ev_lssN rfl rfl ?_
        | (refine W_cond rfl (fun hc => ?_) (fun hc => ?_) <;> (try dsimp only at hc) <;> try (exfalso; first | omega | exact hc rfl)))
    · have hji : j < i := by assumption
      have hlt : j < cs.length := by omega
      obtain ⟨c, hc⟩ : ∃ c, c = cs[j] := ⟨_, rfl⟩
      have hcg : c.Good := hgood c (by rw [hc]; exact List.getElem_mem _)
      have hcell := cellsC_get cs j hlt
      rw [← hc] at hcell
      obtain ⟨n, hn2⟩ : ∃ n, A[j]? = some n := ⟨A[j]'(by omega), List.getElem?_eq_getElem (by omega)⟩
      have hat := ha3 j c n (by rw [hc]; exact List.getElem?_eq_getElem hlt) hn2
      refine Ev_indexAddr_rd rfl rfl rfl rfl rfl htU.rd hji ?_
      intro q1 hq1
      repeat (
        refine WO_dst rfl rfl (by kernel_rfl) (by kernel_rfl) ?_)
      refine Ev_load_pt rfl rfl rfl hq1 (intsV_get hn2) (veq_int _ _) ?_
      rcases hat with ⟨hr, rfl⟩ | ⟨hr, m, rfl, hci⟩
      · repeat' (
          first
            | refine WO_nil ?_
            | refine V_seq ?_
            | refine W_region ?_
            | refine W_exit ?_
            | refine V_block_x rfl ?_
            | refine V_seq_x ?_
            | refine W_cond_t rfl ?_
            | refine WO_dst rfl rfl (by kernel_rfl) (by kernel_rfl) ?_
            | refine Ev_move rfl ?_
            | refine Ev_assign rfl ?_
            | refine Ev_lss rfl rfl ?_
            | refine Ev_addN rfl rfl (by simp only [lim]; omega) ?_)
        exact back2 (j + 1) U _ (by omega) ⟨hokU, by omega, hpU, htU, by omega⟩ ⟨rfl, rfl, rfl, rfl, trivial⟩
      · repeat' (
          first
            | refine W_seq ?_
            | refine WO_nil ?_
            | refine V_seq ?_
            | refine W_drawn (by kernel_rfl) ?_
            | refine W_skip ?_
            | refine W_cond_f rfl ?_
            | refine WO_dst rfl rfl (by kernel_rfl) (by kernel_rfl) ?_
            | refine Ev_move rfl ?_
            | refine Ev_lssN rfl rfl ?_)
        refine Ev_indexAddr_rd rfl rfl rfl rfl rfl htU.rd hji ?_
        intro q2 hq2
        repeat (
          refine WO_dst rfl rfl (by kernel_rfl) (by kernel_rfl) ?_)
        refine Ev_load_pt rfl rfl rfl hq2 (intsV_get hn2) (veq_int _ _) ?_
        repeat (
          first
            | refine WO_dst rfl rfl (by kernel_rfl) (by kernel_rfl) ?_
            | refine Ev_indexAddr_n rfl rfl rfl rfl rfl (hlv U) hno hlt ?_
            | refine Ev_fieldAddr_n rfl rfl rfl rfl rfl rfl ?_
            | refine Ev_move rfl ?_)
        refine Ev_load_pt (v := .int .i64 c.kind) rfl rfl rfl (.inr rfl) (cellsC_at hlt (by decide) (by rw [← hc]; rfl)) (veq_int _ _) ?_
        repeat (
          refine WO_dst rfl rfl (by kernel_rfl) (by kernel_rfl) ?_)
        refine Ev_call rfl rfl ((get_runs hokU hpU (by omega) (by omega)).mono ?_)
        rintro _ U1 - ⟨rfl, hG1⟩
        have hPm := cidx_get hci
        obtain ⟨hml, hPm2⟩ := List.getElem?_eq_some_iff.1 hPm
        have hget : getS P ((m : Nat) : Int) c.kind = (c, 0) := by rw [getS_hit hml, hPm2, if_pos rfl]
        rw [hget]
        have un1 := hG1.n
        have ul1 := hG1.le
        have hp1 := hpU.keep (fun c h => hG1.same c (by simp [blkOf]) (hpU.lt hokU h))
        have ht1 := htU.keep (fun c h => hG1.same c (by simp [blkOf]) (htU.lt hokU h))
        repeat (
          first
            | refine WO_dst rfl rfl (by kernel_rfl) (by kernel_rfl) ?_
            | refine Ev_move rfl ?_
            | refine Ev_extract rfl rfl ?_)
        refine Ev_alloc_ rfl hG1.ok (by omega) ?_
        intro U2 un2 uok2 uq2 uf2
        repeat (
          refine WO_no rfl rfl ?_)
        refine Ev_store rfl rfl rfl rfl (CnA.ones c) uq2 (by simp [CnA.cells, AV.cells]) (by omega) ?_
        intro U3 un3 uq3 uf3
        have hG3 : Fr U1 U3 .nils 1 := ⟨by omega, by omega, sok_upd uok2 (by omega) un3 uq3 uf3, fun c _ h => by rw [uf3 c (by omega), uf2 c h]⟩
        have hp3 := hp1.keep (fun c h => hG3.same c (by simp [blkOf]) (hp1.lt hG1.ok h))
        have ht3 := ht1.keep (fun c h => hG3.same c (by simp [blkOf]) (ht1.lt hG1.ok h))
        have hb3 : U3.h.get U1.n = some (.cells 24 c.cells false) := uq3
        repeat (
          first
            | refine W_seq ?_
            | refine WO_nil ?_
            | refine V_seq ?_
            | refine W_region ?_
            | refine WO_dst rfl rfl (by kernel_rfl) (by kernel_rfl) ?_
            | refine Ev_indexAddr_n rfl rfl rfl rfl rfl (hlv U3) hno hlt ?_
            | refine Ev_load_pt_agg rfl rfl rfl (.inr rfl) (by rw [cellsC_len]; dsimp only; omega) hcell (CnA.veqs c) ?_
            | refine Ev_move rfl ?_
            | refine Ev_assign rfl ?_)
        refine Ev_call rfl rfl ((add_runs hG3.ok hp3 hcg (by omega) (by omega)).mono ?_)
        rintro _ U4 - ⟨hG4, w, rfl, hw, -⟩
        have hadd : addS P c = (P, ((m : Nat) : Int), 0) := by unfold addS; rw [if_pos hr, hci]
        rw [hadd] at hw ⊢
        have un4 := hG4.n
        have ul4 := hG4.le
        have hp4 := hp3.keep (fun c h => hG4.same c (by simp [blkOf]) (hp3.lt hG3.ok h))
        have ht4 := ht3.keep (fun c h => hG4.same c (by simp [blkOf]) (ht3.lt hG3.ok h))
        have hb4 : U4.h.get U1.n = some (.cells 24 c.cells false) := by rw [hG4.same U1.n (by simp [blkOf]) (by omega)]; exact hb3
        repeat' (
          first
            | refine W_seq ?_
            | refine WO_nil ?_
            | refine V_seq ?_
            | refine W_drawn (by kernel_rfl) ?_
            | refine WO_dst rfl rfl (by kernel_rfl) (by kernel_rfl) ?_
            | refine WO_guard_t rfl rfl rfl rfl rfl (by kernel_rfl) (by kernel_rfl) ?_
            | refine Ev_move rfl ?_
            | refine Ev_assign rfl ?_
            | refine Ev_extract rfl rfl ?_
            | refine Ev_neqN rfl rfl ?_)
        refine Ev_load_agg rfl rfl rfl hb4 (by simp [CnA.cells]) (show (c.cells.drop 0).take 5 = c.cells from rfl) (CnA.veqs c) ?_
        repeat' (
          first
            | refine WO_dst rfl rfl (by kernel_rfl) (by kernel_rfl) ?_
            | refine WO_guard_t rfl rfl rfl rfl rfl (by kernel_rfl) (by kernel_rfl) ?_
            | refine Ev_indexAddr_n rfl rfl rfl rfl rfl (hlv U4) hno hlt ?_
            | refine Ev_load_pt_agg rfl rfl rfl (.inr rfl) (by rw [cellsC_len]; dsimp only; omega) hcell (CnA.veqs c) ?_
            | refine Ev_cneq rfl rfl ?_
            | refine Ev_move rfl ?_
            | refine Ev_pick_f rfl rfl rfl ?_
            | refine Ev_neqN rfl rfl ?_
            | (refine WO_guard_df rfl rfl rfl rfl rfl (by kernel_rfl) (by kernel_rfl) (fun hg => ?_) (fun hg => ?_) <;> (try dsimp only at hg) <;> try (exfalso; first | omega | exact hg rfl)))
        refine Ev_indexAddr_rd rfl rfl rfl rfl rfl ht4.rd hji ?_
        intro q5 hq5
        repeat' (
          first
            | refine WO_dst rfl rfl (by kernel_rfl) (by kernel_rfl) ?_
            | refine WO_guard_t rfl rfl rfl rfl rfl (by kernel_rfl) (by kernel_rfl) ?_)
        refine Ev_load_pt rfl rfl rfl hq5 (intsV_get hn2) (veq_int _ _) ?_
        repeat' (
          first
            | refine WO_nil ?_
            | refine V_seq ?_
            | refine W_region ?_
            | refine W_skip ?_
            | refine V_block ?_
            | refine WO_dst rfl rfl (by kernel_rfl) (by kernel_rfl) ?_
            | refine WO_guard_t rfl rfl rfl rfl rfl (by kernel_rfl) (by kernel_rfl) ?_
            | refine Ev_len rfl rfl rfl rfl rfl hw.rd.len ?_
            | refine Ev_len rfl rfl rfl rfl rfl hp4.len ?_
            | refine Ev_move rfl ?_
            | refine Ev_assign rfl ?_
            | refine Ev_pick_f rfl rfl rfl ?_
            | refine Ev_neqN rfl rfl ?_
            | refine Ev_addN rfl rfl (by simp only [lim]; omega) ?_
            | (refine WO_guard_df rfl rfl rfl rfl rfl (by kernel_rfl) (by kernel_rfl) (fun hg => ?_) (fun hg => ?_) <;> (try dsimp only at hg) <;> try (exfalso; first | omega | exact hg rfl))
            | (refine W_cond rfl (fun hc => ?_) (fun hc => ?_) <;> (try dsimp only at hc) <;> try (exfalso; first | omega | exact hc rfl)))
        exact back2 (j + 1) U4 _ (by omega) ⟨hG4.ok, by omega, hp4, ht4, by omega⟩ ⟨rfl, rfl, rfl, rfl, trivial⟩
    · refine Ev_call rfl rfl (known_true ?_)
      repeat (
        first
          | refine WO_nil ?_
          | refine V_seq ?_
          | refine W_ret ?_
          | refine WO_dst rfl rfl (by kernel_rfl) (by kernel_rfl) ?_
          | refine Ev_assign rfl ?_)
      refine V_done rfl rfl ?_
      rfl
end Go.Proofs.YthhbnnnokmefoaaDoor
