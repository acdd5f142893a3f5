/- What the row leans on, part 12: texts one behind the other. No condition. -/
import Derived.Test.YthhbnnnokmefoaaDoorMg10
import Derived.ChangeArms
import Derived.DataReads
import Derived.Deep.Slices
import Derived.Test.YthhbnnnokmefoaaDoorMg11
import Derived.KernelRfl
/- GX: arguments of any type that is made of numbers, strings, slices, structs and pointers: they are only read. -/




namespace GX
open Go Go.Deep
/-- a type whose values may come in -/
def okT (P : Program) : Nat → TypeId → Bool
  | 0, _ => false
  | g + 1, t => match P.underlying t with
    | some .bool => true
    | some (.int _) => true
    | some .string => true
    | some (.slice e) => decide (0 < P.cellsOf e) && okT P g e
    | some (.pointer e) => decide (0 < P.cellsOf e) && okT P g e
    | some (.struct fs) => tile fs.toList 0 (P.cellsOf t) && fs.toList.all fun f => okT P g f.type
    | _ => false
where
  /-- the fields lie one behind the other -/
  tile : List Field → Nat → Nat → Bool
  | [], o, n => decide (o = n)
  | f :: fs, o, n => decide (f.offset = o) && tile fs (o + P.cellsOf f.type) n
/-- cells of a type that came in, of at most so many parts and letters -/
def Rdt (P : Program) (N : Nat) : Nat → TypeId → List AV → Prop
  | 0, _, _ => False
  | g + 1, t, cs => match P.underlying t with
    | some .bool => ∃ b, cs = [.bool b]
    | some (.int k) => ∃ n, cs = [.int k n] ∧ (Lit.int k n).wf = true
    | some .string => ∃ s : List Nat, cs = [.str s] ∧ (∀ b ∈ s, b < 256) ∧ s.length ≤ N
    | some (.slice e) => ∃ v rows, cs = [v] ∧ (∀ S, Rd S v (P.cellsOf e) (List.flatten rows) rows.length) ∧ rows.length ≤ N ∧ ∀ r ∈ rows, r.length = P.cellsOf e ∧ Rdt P N g e r
    | some (.pointer e) => cs = [.nilp] ∨ ∃ cs', cs = [.rptr cs' 0] ∧ cs'.length = P.cellsOf e ∧ Rdt P N g e cs'
    | some (.struct fs) => cs.length = P.cellsOf t ∧ ∀ f ∈ fs.toList, Rdt P N g f.type ((cs.drop f.offset).take (P.cellsOf f.type))
    | _ => False
structure BulkOK {H : Type} (bulk : DataW H → Nat) : Prop where
  str : ∀ l, l.length ≤ bulk (.lit (.string l))
  ptr : ∀ d, bulk d ≤ bulk (.ptr d)
  len : ∀ l r, l.length ≤ bulk (.slice l r)
  sl : ∀ l r, ∀ d ∈ l, bulk d ≤ bulk (.slice l r)
  agg : ∀ l, ∀ d ∈ l, bulk d ≤ bulk (.agg l)
theorem veqs_append : ∀ {a b : List AV}, veqs a a = true → veqs b b = true → veqs (a ++ b) (a ++ b) = true
  | [], b, _, h => h
  | x :: a, b, h1, h2 => by
    simp only [veqs, Bool.and_eq_true, List.cons_append] at h1 ⊢
    exact ⟨h1.1, veqs_append h1.2 h2⟩
/-- cells that lie somewhere -/
theorem cells_in {w : World} {a : Addr} {vs : List Value} (h0 : vs ≠ []) (hcell : ∀ i v, vs[i]? = some v → w.cell? (a.add i) = some v) :
    a.spot = none ∧ ∃ c t fz, w.heap[a.block]? = some (.cells c t fz) ∧ a.off + vs.length ≤ c.size ∧ (c.toList.drop a.off).take vs.length = vs := by
  have hpos : 0 < vs.length := List.length_pos_iff.2 h0
  have hsp : a.spot = none ∧ ∃ c t fz, w.heap[a.block]? = some (.cells c t fz) := by
    have h := hcell 0 vs[0] (List.getElem?_eq_getElem hpos)
    unfold Addr.add World.cell? at h
    simp only [if_true] at h
    split at h
    · rename_i c t fz hh
      split at h
      · cases h
      · rename_i hs
        exact ⟨by simpa using hs, c, t, fz, hh⟩
    · cases h
  obtain ⟨hs, c, t, fz, hh⟩ := hsp
  have hget : ∀ i v, vs[i]? = some v → c[a.off + i]? = some v := by
    intro i v hi
    have h := hcell i v hi
    unfold World.cell? at h
    by_cases hi0 : i = 0
    · subst hi0
      simp only [Addr.add, if_true, hh, hs] at h
      simpa using h
    · simp only [Addr.add, if_neg hi0, hh] at h
      simpa using h
  have hfit : a.off + vs.length ≤ c.size := by
    have := (Array.getElem?_eq_some_iff.1 (hget (vs.length - 1) _ (List.getElem?_eq_getElem (by omega)))).1
    omega
  refine ⟨hs, c, t, fz, hh, hfit, ?_⟩
  apply List.ext_getElem?
  intro i
  rw [List.getElem?_take]
  split
  · rename_i hi
    rw [List.getElem?_eq_getElem hi, List.getElem?_drop]
    simpa using hget i _ (List.getElem?_eq_getElem hi)
  · rw [List.getElem?_eq_none (by omega)]
theorem arg_cellsN [Val] {φ : Phi} {w : World} (hro : ∀ g o, w.heap[g]? = some o → Val.ro g = some o) {a : Addr} {len cap sz : Nat} {cs : List AV} {vs : List Value} (hz : 0 < sz) (hl : len ≤ cap) (hv : vs.length = len * sz) (hcell : ∀ i v, vs[i]? = some v → w.cell? (a.add i) = some v) (hrel : vrels φ cs vs) (hself : veqs cs cs = true) :
    ∃ av, vrel φ av (.slice (some a) len cap) ∧ ∀ S, Rd S av sz cs len := by
  have hcl : cs.length = len * sz := by rw [vrels_length hrel, hv]
  by_cases h0 : vs = []
  · subst h0
    have hl0 : len = 0 := by
      rcases Nat.eq_zero_or_pos len with h | h
      · exact h
      · have := Nat.mul_pos h hz
        simp at hv; omega
    subst hl0
    cases List.eq_nil_of_length_eq_zero (by rw [hcl, Nat.zero_mul] : cs.length = 0)
    exact ⟨.emp, ⟨a, cap, rfl⟩, fun S => ⟨rfl, rfl, rfl, rfl, rfl, by simp⟩⟩
  · obtain ⟨hs, c, t, fz, hh, hfit, hlist⟩ := cells_in h0 hcell
    refine ⟨.rsl cs len sz, ?_, fun S => ⟨by simp [capW, hcl], by simp [veq, hself], rfl, rfl, ?_, hcl⟩⟩
    · simp only [vrel]
      refine ⟨a.block, a.off, cap, c, t, fz, ?_, hl, hcl, hro _ _ hh, by omega, by rw [hcl, ← hv, hlist]; exact hrel⟩
      rw [← hs]
    · unfold srcCells; dsimp only
      rw [nble, decide_eq_true (by omega)]
      simp only [nbeq, decide_true, Bool.true_and, cond_true]
      rw [List.take_of_length_le (by omega)]
theorem bytes_lt' (s : ByteArray) : ∀ b ∈ bytes s, b < 256 := by
  intro b hb
  unfold bytes at hb
  obtain ⟨c, _, rfl⟩ := List.mem_map.1 hb
  exact c.toNat_lt
section
variable {H : Type} {enc : TypeId × Value → H} {P : Program} {w : World} {base : Nat} {sp : Nat → Bool} {held : Bool} {bulk : DataW H → Nat} {N : Nat}
/-- the fields of a struct, one behind the other -/
theorem fields_rel [Val] {φ : Phi} {cs : List Value} {R : Field → List AV → Prop} : ∀ (fs : List Field) (o n : Nat), okT.tile P fs o n = true → o ≤ n → n ≤ cs.length →
    (∀ f ∈ fs, ∃ avs, vrels φ avs ((cs.drop f.offset).take (P.cellsOf f.type)) ∧ veqs avs avs = true ∧ R f avs) →
    ∃ avs, vrels φ avs ((cs.drop o).take (n - o)) ∧ veqs avs avs = true ∧ ∀ f ∈ fs, o ≤ f.offset ∧ R f ((avs.drop (f.offset - o)).take (P.cellsOf f.type))
  | [], o, n, ht, _, _, _ => by
    have : o = n := of_decide_eq_true ht
    subst this
    exact ⟨[], by rw [Nat.sub_self, List.take_zero]; exact vrels_nil, rfl, by simp⟩
  | f :: fs, o, n, ht, ho, hn, h => by
    unfold okT.tile at ht
    simp only [Bool.and_eq_true, decide_eq_true_eq] at ht
    obtain ⟨hfo, ht⟩ := ht
    have hle : o + P.cellsOf f.type ≤ n := by
      have key : ∀ (l : List Field) (a : Nat), okT.tile P l a n = true → a ≤ n := by
        intro l
        induction l with
        | nil => intro a h; exact Nat.le_of_eq (of_decide_eq_true h)
        | cons x l ih =>
          intro a h
          unfold okT.tile at h
          simp only [Bool.and_eq_true, decide_eq_true_eq] at h
          have := ih _ h.2; omega
      exact key _ _ ht
    obtain ⟨a1, r1, v1, p1⟩ := h f (List.mem_cons_self ..)
    obtain ⟨a2, r2, v2, p2⟩ := fields_rel fs (o + P.cellsOf f.type) n ht hle hn (fun g hg => h g (List.mem_cons_of_mem _ hg))
    have hl1 : a1.length = P.cellsOf f.type := by rw [vrels_length r1, List.length_take, List.length_drop]; omega
    refine ⟨a1 ++ a2, ?_, veqs_append v1 v2, fun g hg => ?_⟩
    · have e : (cs.drop o).take (n - o) = (cs.drop f.offset).take (P.cellsOf f.type) ++ (cs.drop (o + P.cellsOf f.type)).take (n - (o + P.cellsOf f.type)) := by
        rw [hfo, show n - o = P.cellsOf f.type + (n - (o + P.cellsOf f.type)) by omega, List.take_add, List.drop_drop]
      rw [e]; exact vrels_append r1 r2
    · rcases List.mem_cons.1 hg with rfl | hg
      · rw [hfo, Nat.sub_self, List.drop_zero, List.take_append_of_le_length (by omega), List.take_of_length_le (by omega)]
        exact ⟨Nat.le_refl _, p1⟩
      · obtain ⟨q1, q2⟩ := p2 g hg
        refine ⟨by omega, ?_⟩
        rw [show g.offset - o = a1.length + (g.offset - (o + P.cellsOf f.type)) by omega, ← List.drop_drop, List.drop_append_of_le_length (Nat.le_refl _), List.drop_length, List.nil_append]
        exact q2
/-- what came in, as cells that are only read -/
theorem trod_rel [Val] {φ : Phi} (hro : ∀ g o, w.heap[g]? = some o → Val.ro g = some o) (hB : BulkOK bulk) : ∀ (g : Nat) (t : TypeId) (f : Nat) (cs : List Value) (x : DataW H × List MemPlace), okT P g t = true → DataW.trod enc P w base sp held f t cs = some x → bulk x.1 ≤ N →
    ∃ avs, vrels φ avs cs ∧ veqs avs avs = true ∧ Rdt P N g t avs
  | 0, _, _, _, _, hk, _, _ => by cases hk
  | g + 1, t, f, cs, x, hk, h, hb => by
    unfold okT at hk
    unfold Rdt
    split at hk
    · rename_i hu
      obtain ⟨b, rfl, rfl⟩ := DataW.trod_bool hu h
      exact ⟨[.bool b], vrels_cons rfl vrels_nil, by cases b <;> rfl, b, rfl⟩
    · rename_i k hu
      obtain ⟨n, rfl, rfl, hw⟩ := DataW.trod_int hu h
      exact ⟨[.int k n], vrels_cons rfl vrels_nil, by simp [veqs, veq_int], n, rfl, hw⟩
    · rename_i hu
      obtain ⟨s, rfl, rfl, hs⟩ := DataW.trod_string hu h
      refine ⟨[.str (bytes s)], vrels_cons ⟨s, rfl, rfl⟩ vrels_nil, by simp [veqs, veq_str], bytes s, rfl, bytes_lt' s, ?_⟩
      have h1 := hB.str s.data.toList
      have h2 : (bytes s).length = s.data.toList.length := by unfold bytes; simp
      dsimp only at hb
      omega
    · rename_i e hu
      simp only [Bool.and_eq_true, decide_eq_true_eq] at hk
      obtain ⟨hz, hk⟩ := hk
      rcases DataW.trod_slice hu h with ⟨rfl, rfl⟩ | ⟨a, len, cap, elems, rest, n, _, rfl, rfl, hbs, hl, hm, hlen, hel, hsp, hns⟩
      · exact ⟨[.nils], vrels_cons rfl vrels_nil, rfl, .nils, [], rfl, fun S => ⟨rfl, rfl, rfl, rfl, rfl, by simp⟩, Nat.zero_le _, by simp⟩
      · dsimp only at hb
        have hlN : len ≤ N := by
          have := hB.len (elems.map (·.1)) (rest.map (·.1))
          rw [List.length_map, hlen] at this
          omega
        have each : ∀ i, i < len → ∃ q : List Value × List AV, w.cells? base (a.add (i * P.cellsOf e)) (P.cellsOf e) = some q.1 ∧ vrels φ q.2 q.1 ∧ veqs q.2 q.2 = true ∧ Rdt P N g e q.2 := by
          intro i hi
          have h1 := hel i hi
          rw [List.getElem?_eq_getElem (by omega)] at h1
          obtain ⟨cs', h2, h3⟩ := Option.bind_eq_some_iff.1 h1
          obtain ⟨avs, h4, h5, h6⟩ := trod_rel hro hB g e n cs' _ hk h3 (Nat.le_trans (hB.sl _ _ _ (List.mem_map_of_mem (List.getElem_mem _))) hb)
          exact ⟨(cs', avs), h2, h4, h5, h6⟩
        obtain ⟨q, hq⟩ := choose_lt each
        have hql : ∀ i, i < len → (q i).1.length = P.cellsOf e := fun i hi => (World.cells?_some (hq i hi).1).2.1
        -- all cells, one behind the other
        have all : ∀ m, m ≤ len → ∃ vs : List Value, vs.length = m * P.cellsOf e ∧ (∀ i v, vs[i]? = some v → w.cell? (a.add i) = some v) ∧ vrels φ (List.flatten ((List.range m).map fun i => (q i).2)) vs ∧ veqs (List.flatten ((List.range m).map fun i => (q i).2)) (List.flatten ((List.range m).map fun i => (q i).2)) = true := by
          intro m
          induction m with
          | zero => intro _; exact ⟨[], by simp, by simp, vrels_nil, rfl⟩
          | succ m ih =>
            intro hm2
            obtain ⟨vs, g1, g2, g3, g4⟩ := ih (by omega)
            obtain ⟨c1, c2, c3, c4⟩ := hq m (by omega)
            obtain ⟨d1, d2, d3⟩ := World.cells?_some c1
            refine ⟨vs ++ (q m).1, by rw [List.length_append, g1, d2, Nat.add_mul, Nat.one_mul], fun i v hv => ?_, ?_, ?_⟩
            · by_cases hi : i < vs.length
              · rw [List.getElem?_append_left hi] at hv; exact g2 i v hv
              · rw [List.getElem?_append_right (by omega)] at hv
                have hi2 : i - vs.length < P.cellsOf e := by
                  have := (List.getElem?_eq_some_iff.1 hv).1; omega
                have h7 := d3 _ hi2
                rw [add_add, ← g1, hv, show vs.length + (i - vs.length) = i by omega] at h7
                exact h7
            · rw [List.range_succ, List.map_append, List.flatten_append]
              exact vrels_append g3 (by simpa using c2)
            · rw [List.range_succ, List.map_append, List.flatten_append]
              exact veqs_append g4 (by simpa using c3)
        obtain ⟨vs, g1, g2, g3, g4⟩ := all len (Nat.le_refl _)
        obtain ⟨av, k1, k2⟩ := arg_cellsN (φ := φ) hro hz hl g1 g2 g3 g4
        refine ⟨[av], vrels_cons k1 vrels_nil, ?_, av, (List.range len).map fun i => (q i).2, rfl, fun S => by simpa using k2 S, by simpa using hlN, ?_⟩
        · have := (k2 { h := .leaf, n := 0 }).self
          simp [veqs, this]
        · intro r hr
          obtain ⟨i, hi, rfl⟩ := List.mem_map.1 hr
          have hi := List.mem_range.1 hi
          exact ⟨by rw [vrels_length (hq i hi).2.1]; exact hql i hi, (hq i hi).2.2.2⟩
    · rename_i e hu
      simp only [Bool.and_eq_true, decide_eq_true_eq] at hk
      obtain ⟨hz, hk⟩ := hk
      rcases DataW.trod_pointer hu h with ⟨rfl, rfl⟩ | ⟨a, cs', y, n, _, rfl, rfl, hc, hy⟩
      · exact ⟨[.nilp], vrels_cons rfl vrels_nil, rfl, .inl rfl⟩
      · dsimp only at hb
        obtain ⟨avs, h4, h5, h6⟩ := trod_rel hro hB g e n cs' _ hk hy (Nat.le_trans (hB.ptr _) hb)
        obtain ⟨_, d2, d3⟩ := World.cells?_some hc
        have hne : cs' ≠ [] := by intro h; rw [h] at d2; simp at d2; omega
        obtain ⟨hs, c, tt, fz, hh, hfit, hlist⟩ := cells_in (a := a) hne (fun i v hv => by
          have := (List.getElem?_eq_some_iff.1 hv).1
          rw [d3 i (by omega), hv])
        have hl := vrels_length h4
        refine ⟨[.rptr avs 0], vrels_cons ?_ vrels_nil, by simp [veqs, veq, h5], .inr ⟨avs, rfl, by omega, h6⟩⟩
        simp only [vrel]
        refine ⟨a.block, a.off, c, tt, fz, ?_, hro _ _ hh, by omega, by rw [hl, hlist]; exact h4⟩
        rw [Nat.add_zero, ← hs]
    · rename_i fs hu
      simp only [Bool.and_eq_true, List.all_eq_true] at hk
      obtain ⟨ht, hk⟩ := hk
      obtain ⟨xs, n, _, rfl, hlen, hxs, hf⟩ := DataW.trod_struct hu h
      dsimp only at hb
      obtain ⟨avs, h4, h5, h6⟩ := fields_rel (φ := φ) (cs := cs) (R := fun f avs => Rdt P N g f.type avs) fs.toList 0 (P.cellsOf t) ht (Nat.zero_le _) (by omega) (by
        intro fd hfd
        obtain ⟨i, hi, rfl⟩ := List.getElem_of_mem hfd
        have hi' : i < fs.size := by simpa using hi
        have h1 := hf i fs[i] (by simp [hi'])
        rw [List.getElem?_eq_getElem (by omega)] at h1
        simp only [Array.getElem_toList]
        exact trod_rel hro hB g _ n _ _ (hk _ (by simp)) h1 (Nat.le_trans (hB.agg _ _ (List.mem_map_of_mem (List.getElem_mem _))) hb))
      rw [List.drop_zero, Nat.sub_zero, List.take_of_length_le (by omega)] at h4
      exact ⟨avs, h4, h5, by rw [vrels_length h4]; exact hlen, fun f hf => (h6 f hf).2⟩
    · cases hk
end
end GX
/- GX: arguments of any type made of numbers, strings, slices, structs, pointers, whatever their size. -/

namespace GX
open Go Go.Deep
section
variable {H : Type} {enc : TypeId × Value → H} {P : Program} {w : World} {base : Nat} {sp : Nat → Bool} {held : Bool}
/-- what came in, as cells that are only read -/
theorem trodF_rel [Val] {φ : Phi} (hro : ∀ g o, w.heap[g]? = some o → Val.ro g = some o) : ∀ (g : Nat) (t : TypeId) (f : Nat) (cs : List Value) (x : DataW H × List MemPlace), okT P g t = true → DataW.trod enc P w base sp held f t cs = some x →
    ∃ avs, vrels φ avs cs ∧ veqs avs avs = true ∧ Rdt P maxLen g t avs
  | 0, _, _, _, _, hk, _ => by cases hk
  | g + 1, t, f, cs, x, hk, h => by
    unfold okT at hk
    unfold Rdt
    split at hk
    · rename_i hu
      obtain ⟨b, rfl, rfl⟩ := DataW.trod_bool hu h
      exact ⟨[.bool b], vrels_cons rfl vrels_nil, by cases b <;> rfl, b, rfl⟩
    · rename_i k hu
      obtain ⟨n, rfl, rfl, hw⟩ := DataW.trod_int hu h
      exact ⟨[.int k n], vrels_cons rfl vrels_nil, by simp [veqs, veq_int], n, rfl, hw⟩
    · rename_i hu
      obtain ⟨s, rfl, rfl, hs⟩ := DataW.trod_string hu h
      refine ⟨[.str (bytes s)], vrels_cons ⟨s, rfl, rfl⟩ vrels_nil, by simp [veqs, veq_str], bytes s, rfl, bytes_lt' s, ?_⟩
      have h2 : (bytes s).length = s.size := by unfold bytes; simp
      omega
    · rename_i e hu
      simp only [Bool.and_eq_true, decide_eq_true_eq] at hk
      obtain ⟨hz, hk⟩ := hk
      rcases DataW.trod_slice hu h with ⟨rfl, rfl⟩ | ⟨a, len, cap, elems, rest, n, _, rfl, rfl, hbs, hl, hm, hlen, hel, hsp, hns⟩
      · exact ⟨[.nils], vrels_cons rfl vrels_nil, rfl, .nils, [], rfl, fun S => ⟨rfl, rfl, rfl, rfl, rfl, by simp⟩, Nat.zero_le _, by simp⟩
      · have hlN : len ≤ maxLen := Nat.le_trans hl hm
        have each : ∀ i, i < len → ∃ q : List Value × List AV, w.cells? base (a.add (i * P.cellsOf e)) (P.cellsOf e) = some q.1 ∧ vrels φ q.2 q.1 ∧ veqs q.2 q.2 = true ∧ Rdt P maxLen g e q.2 := by
          intro i hi
          have h1 := hel i hi
          rw [List.getElem?_eq_getElem (by omega)] at h1
          obtain ⟨cs', h2, h3⟩ := Option.bind_eq_some_iff.1 h1
          obtain ⟨avs, h4, h5, h6⟩ := trodF_rel hro g e n cs' _ hk h3
          exact ⟨(cs', avs), h2, h4, h5, h6⟩
        obtain ⟨q, hq⟩ := choose_lt each
        have hql : ∀ i, i < len → (q i).1.length = P.cellsOf e := fun i hi => (World.cells?_some (hq i hi).1).2.1
        -- all cells, one behind the other
        have all : ∀ m, m ≤ len → ∃ vs : List Value, vs.length = m * P.cellsOf e ∧ (∀ i v, vs[i]? = some v → w.cell? (a.add i) = some v) ∧ vrels φ (List.flatten ((List.range m).map fun i => (q i).2)) vs ∧ veqs (List.flatten ((List.range m).map fun i => (q i).2)) (List.flatten ((List.range m).map fun i => (q i).2)) = true := by
          intro m
          induction m with
          | zero => intro _; exact ⟨[], by simp, by simp, vrels_nil, rfl⟩
          | succ m ih =>
            intro hm2
            obtain ⟨vs, g1, g2, g3, g4⟩ := ih (by omega)
            obtain ⟨c1, c2, c3, c4⟩ := hq m (by omega)
            obtain ⟨d1, d2, d3⟩ := World.cells?_some c1
            refine ⟨vs ++ (q m).1, by rw [List.length_append, g1, d2, Nat.add_mul, Nat.one_mul], fun i v hv => ?_, ?_, ?_⟩
            · by_cases hi : i < vs.length
              · rw [List.getElem?_append_left hi] at hv; exact g2 i v hv
              · rw [List.getElem?_append_right (by omega)] at hv
                have hi2 : i - vs.length < P.cellsOf e := by
                  have := (List.getElem?_eq_some_iff.1 hv).1; omega
                have h7 := d3 _ hi2
                rw [add_add, ← g1, hv, show vs.length + (i - vs.length) = i by omega] at h7
                exact h7
            · rw [List.range_succ, List.map_append, List.flatten_append]
              exact vrels_append g3 (by simpa using c2)
            · rw [List.range_succ, List.map_append, List.flatten_append]
              exact veqs_append g4 (by simpa using c3)
        obtain ⟨vs, g1, g2, g3, g4⟩ := all len (Nat.le_refl _)
        obtain ⟨av, k1, k2⟩ := arg_cellsN (φ := φ) hro hz hl g1 g2 g3 g4
        refine ⟨[av], vrels_cons k1 vrels_nil, ?_, av, (List.range len).map fun i => (q i).2, rfl, fun S => by simpa using k2 S, by simpa using hlN, ?_⟩
        · have := (k2 { h := .leaf, n := 0 }).self
          simp [veqs, this]
        · intro r hr
          obtain ⟨i, hi, rfl⟩ := List.mem_map.1 hr
          have hi := List.mem_range.1 hi
          exact ⟨by rw [vrels_length (hq i hi).2.1]; exact hql i hi, (hq i hi).2.2.2⟩
    · rename_i e hu
      simp only [Bool.and_eq_true, decide_eq_true_eq] at hk
      obtain ⟨hz, hk⟩ := hk
      rcases DataW.trod_pointer hu h with ⟨rfl, rfl⟩ | ⟨a, cs', y, n, _, rfl, rfl, hc, hy⟩
      · exact ⟨[.nilp], vrels_cons rfl vrels_nil, rfl, .inl rfl⟩
      · obtain ⟨avs, h4, h5, h6⟩ := trodF_rel hro g e n cs' _ hk hy
        obtain ⟨_, d2, d3⟩ := World.cells?_some hc
        have hne : cs' ≠ [] := by intro h; rw [h] at d2; simp at d2; omega
        obtain ⟨hs, c, tt, fz, hh, hfit, hlist⟩ := cells_in (a := a) hne (fun i v hv => by
          have := (List.getElem?_eq_some_iff.1 hv).1
          rw [d3 i (by omega), hv])
        have hl := vrels_length h4
        refine ⟨[.rptr avs 0], vrels_cons ?_ vrels_nil, by simp [veqs, veq, h5], .inr ⟨avs, rfl, by omega, h6⟩⟩
        simp only [vrel]
        refine ⟨a.block, a.off, c, tt, fz, ?_, hro _ _ hh, by omega, by rw [hl, hlist]; exact h4⟩
        rw [Nat.add_zero, ← hs]
    · rename_i fs hu
      simp only [Bool.and_eq_true, List.all_eq_true] at hk
      obtain ⟨ht, hk⟩ := hk
      obtain ⟨xs, n, _, rfl, hlen, hxs, hf⟩ := DataW.trod_struct hu h
      obtain ⟨avs, h4, h5, h6⟩ := fields_rel (φ := φ) (cs := cs) (R := fun f avs => Rdt P maxLen g f.type avs) fs.toList 0 (P.cellsOf t) ht (Nat.zero_le _) (by omega) (by
        intro fd hfd
        obtain ⟨i, hi, rfl⟩ := List.getElem_of_mem hfd
        have hi' : i < fs.size := by simpa using hi
        have h1 := hf i fs[i] (by simp [hi'])
        rw [List.getElem?_eq_getElem (by omega)] at h1
        simp only [Array.getElem_toList]
        exact trodF_rel hro g _ n _ _ (hk _ (by simp)) h1)
      rw [List.drop_zero, Nat.sub_zero, List.take_of_length_le (by omega)] at h4
      exact ⟨avs, h4, h5, by rw [vrels_length h4]; exact hlen, fun f hf => (h6 f hf).2⟩
    · cases hk
end
end GX
/- Chapter 3: constants that come in. -/




namespace Go.Proofs.YthhbnnnokmefoaaDoor
open GX Go
set_option maxRecDepth 100000
theorem u3 : Tryd.prog.underlying 3 = some (.int .i64) := by kernel_rfl
theorem u21 : Tryd.prog.underlying 21 = some (.int .i32) := by kernel_rfl
theorem u9 : Tryd.prog.underlying 9 = some .string := by kernel_rfl
theorem u22 : Tryd.prog.underlying 22 = some (.slice 24) := by kernel_rfl
theorem u24 : Tryd.prog.underlying 24 = some (.struct #[⟨"Kind", 3, 0, false, "", "", 0⟩, ⟨"N", 21, 1, false, "", "", 8⟩, ⟨"Class", 9, 2, false, "", "", 16⟩, ⟨"Name", 9, 3, false, "", "", 32⟩, ⟨"Desc", 9, 4, false, "", "", 48⟩]) := by kernel_rfl
theorem c3 : Tryd.prog.cellsOf 3 = 1 := by kernel_rfl
theorem c21 : Tryd.prog.cellsOf 21 = 1 := by kernel_rfl
theorem c9 : Tryd.prog.cellsOf 9 = 1 := by kernel_rfl
theorem c24 : Tryd.prog.cellsOf 24 = 5 := by kernel_rfl
theorem rdt_int {N g t : Nat} {k : IntKind} {a : AV} (hu : Tryd.prog.underlying t = some (.int k)) (h : Rdt Tryd.prog N (g + 1) t [a]) : ∃ n, a = .int k n ∧ (Lit.int k n).wf = true := by
  unfold Rdt at h; rw [hu] at h
  obtain ⟨n, h1, h2⟩ := h
  exact ⟨n, List.head_eq_of_cons_eq h1, h2⟩
theorem rdt_str {N g : Nat} {a : AV} (h : Rdt Tryd.prog N (g + 1) 9 [a]) : ∃ s, a = .str s ∧ (∀ b ∈ s, b < 256) ∧ s.length ≤ N := by
  unfold Rdt at h; rw [u9] at h
  obtain ⟨n, h1, h2⟩ := h
  exact ⟨n, List.head_eq_of_cons_eq h1, h2⟩
theorem wf_i64 {n : Int} (h : (Lit.int .i64 n).wf = true) : -9223372036854775808 ≤ n ∧ n < 9223372036854775808 := by
  simp [Lit.wf, IntKind.min, IntKind.max, IntKind.signed, IntKind.bits] at h
  omega
theorem wf_i32 {n : Int} (h : (Lit.int .i32 n).wf = true) : -2147483648 ≤ n ∧ n < 2147483648 := by
  simp [Lit.wf, IntKind.min, IntKind.max, IntKind.signed, IntKind.bits] at h
  omega
theorem const_of {N g : Nat} {r : List AV} (hN : N < 9223372036854775808) (h : Rdt Tryd.prog N (g + 2) 24 r) : ∃ c : CnA, c.cells = r ∧ c.Good ∧ c.cl.length ≤ N ∧ c.nm.length ≤ N ∧ c.ds.length ≤ N := by
  unfold Rdt at h; rw [u24] at h
  obtain ⟨hl, hf⟩ := h
  rw [c24] at hl
  match r, hl with
  | [a0, a1, a2, a3, a4], _ =>
    simp only [List.mem_cons, forall_eq_or_imp, c3, c21, c9, List.drop_zero, List.drop_succ_cons, List.take_succ_cons, List.take_zero] at hf
    obtain ⟨h0, h1, h2, h3, h4, _⟩ := hf
    obtain ⟨n0, rfl, w0⟩ := rdt_int u3 h0
    obtain ⟨n1, rfl, w1⟩ := rdt_int u21 h1
    obtain ⟨s2, rfl, g2, k2⟩ := rdt_str h2
    obtain ⟨s3, rfl, g3, k3⟩ := rdt_str h3
    obtain ⟨s4, rfl, g4, k4⟩ := rdt_str h4
    exact ⟨⟨n0, n1, s2, s3, s4⟩, rfl, ⟨(wf_i64 w0).1, (wf_i64 w0).2, (wf_i32 w1).1, (wf_i32 w1).2, ⟨by dsimp only; omega, g2⟩, ⟨by dsimp only; omega, g3⟩, ⟨by dsimp only; omega, g4⟩⟩, k2, k3, k4⟩
theorem consts_of {N g : Nat} (hN : N < 9223372036854775808) : ∀ (rows : List (List AV)), (∀ r ∈ rows, r.length = Tryd.prog.cellsOf 24 ∧ Rdt Tryd.prog N (g + 2) 24 r) → ∃ cs : List CnA, List.flatten rows = cellsC cs ∧ cs.length = rows.length ∧ ∀ c ∈ cs, c.Good ∧ c.cl.length ≤ N ∧ c.nm.length ≤ N ∧ c.ds.length ≤ N
  | [], _ => ⟨[], rfl, rfl, by simp⟩
  | r :: rows, h => by
    obtain ⟨cs, h1, h2, h3⟩ := consts_of hN rows (fun r hr => h r (List.mem_cons_of_mem _ hr))
    obtain ⟨c, h4, h5⟩ := const_of hN (h r (List.mem_cons_self ..)).2
    refine ⟨c :: cs, by rw [List.flatten_cons, h1, ← h4]; rfl, by simp [h2], fun q hq => ?_⟩
    rcases List.mem_cons.1 hq with rfl | hq
    · exact h5
    · exact h3 q hq
theorem consts_arg {N g : Nat} {a : AV} (hN : N < 9223372036854775808) (h : Rdt Tryd.prog N (g + 3) 22 [a]) : ∃ cs : List CnA, (∀ S, Rd S a 5 (cellsC cs) cs.length) ∧ (∀ c ∈ cs, c.Good ∧ c.cl.length ≤ N ∧ c.nm.length ≤ N ∧ c.ds.length ≤ N) ∧ cs.length ≤ N := by
  unfold Rdt at h; rw [u22] at h
  obtain ⟨v, rows, h1, h2, h3, h4⟩ := h
  obtain ⟨cs, g1, g2, g3⟩ := consts_of hN rows h4
  cases List.head_eq_of_cons_eq h1
  exact ⟨cs, fun S => (by rw [c24] at h2; exact (h2 S).eq g1 g2.symm), g3, by omega⟩
end Go.Proofs.YthhbnnnokmefoaaDoor
/- Chapter 3: bytes that come in. -/



namespace Go.Proofs.YthhbnnnokmefoaaDoor
open GX Go
set_option maxRecDepth 100000
theorem u5 : Tryd.prog.underlying 5 = some (.int .u8) := by kernel_rfl
theorem u31 : Tryd.prog.underlying 31 = some (.slice 5) := by kernel_rfl
theorem c5 : Tryd.prog.cellsOf 5 = 1 := by kernel_rfl
theorem rows_bytes {N g : Nat} : ∀ (rows : List (List AV)), (∀ r ∈ rows, r.length = Tryd.prog.cellsOf 5 ∧ Rdt Tryd.prog N (g + 1) 5 r) → ∃ l, List.flatten rows = sbytes l ∧ l.length = rows.length ∧ ∀ b ∈ l, b < 256
  | [], _ => ⟨[], rfl, rfl, by simp⟩
  | r :: rows, h => by
    obtain ⟨l, h1, h2, h3⟩ := rows_bytes rows (fun r hr => h r (List.mem_cons_of_mem _ hr))
    obtain ⟨h4, h5⟩ := h r (List.mem_cons_self ..)
    rw [c5] at h4
    match r, h4 with
    | [a], _ =>
      obtain ⟨n, rfl, hw⟩ := rdt_int u5 h5
      have hn := wf_u8 hw
      refine ⟨n.toNat :: l, ?_, by simp [h2], fun b hb => ?_⟩
      · rw [List.flatten_cons, h1]
        show AV.int .u8 n :: sbytes l = AV.int .u8 ((n.toNat : Nat) : Int) :: sbytes l
        congr 2
        omega
      · rcases List.mem_cons.1 hb with rfl | hb
        · omega
        · exact h3 b hb
theorem rdt_bytes {N g : Nat} {a : AV} (h : Rdt Tryd.prog N (g + 2) 31 [a]) : ∃ l, (∀ S, Rd S a 1 (sbytes l) l.length) ∧ (∀ b ∈ l, b < 256) ∧ l.length ≤ N := by
  unfold Rdt at h; rw [u31] at h
  obtain ⟨v, rows, h1, h2, h3, h4⟩ := h
  obtain ⟨l, g1, g2, g3⟩ := rows_bytes rows h4
  cases List.head_eq_of_cons_eq h1
  exact ⟨l, fun S => (by rw [c5] at h2; exact (h2 S).eq g1 g2.symm), g3, by omega⟩
end Go.Proofs.YthhbnnnokmefoaaDoor
/- pool.Add, pool.Get. -/


namespace Go.Proofs.YthhbnnnokmefoaaDoor
open GX
set_option maxHeartbeats 16000000
section
open Go
variable {X : _root_.GX.X} {n : Nat} {l : L} {S : St}
/-- a function's end, where its first result is a cell -/
theorem V_done_ct {x : Ex} {a t u b o : Nat} {v w : AV} {R : AV → St → Prop} (hx : (match x with | .exit _ => false | _ => true) = true) (ha : lk l a = some (.ptr b o)) (hl : loadAt X S.h t b o = some v) (hu : lk l u = some w) (h : R (.tup [v, w]) S) : V X n x [] (QF X [.cell a t, .tmp u] R) l S := by
  unfold V
  intro e he
  refine ⟨fun i hi => ?_, [v, w], ?_, h⟩
  · subst hi; cases hx
  · simp only [rets, he a _ ha, he u _ hu, hl]
theorem V_done_c {x : Ex} {a t b o : Nat} {v : AV} {R : AV → St → Prop} (hx : (match x with | .exit _ => false | _ => true) = true) (ha : lk l a = some (.ptr b o)) (hl : loadAt X S.h t b o = some v) (h : R (tupled [v]) S) : V X n x [] (QF X [.cell a t] R) l S := by
  unfold V
  intro e he
  refine ⟨fun i hi => ?_, [v], ?_, h⟩
  · subst hi; cases hx
  · simp only [rets, he a _ ha, hl]
end
theorem loadAt_c {H : Tr AB} {b : Nat} {c : CnA} {sp : Bool} (h : H.get b = some (.cells 24 c.cells sp)) : loadAt X1 H 24 b 0 = some (.agg c.cells) := by
  have e : row H b 0 5 = some c.cells := by unfold row; rw [h]; rfl
  show (match row H b 0 5 with | some cs => some (AV.agg cs) | none => none) = _
  rw [e]
theorem sok_upd {S S' : St} {p : Nat} {b : AB} (h : Sok S) (hp : p < S.n) (hn : S'.n = S.n) (_ : S'.h.get p = some b) (hf : ∀ c, c ≠ p → S'.h.get c = S.h.get c) : Sok S' := by
  intro c x hx
  by_cases hc : c = p
  · rw [hc, hn]; exact hp
  · rw [hf c hc] at hx; rw [hn]; exact h c x hx
def zeroC : CnA := ⟨0, 0, [], [], []⟩
/-- an entry of a kind, and why not -/
def getS (cs : List CnA) (n kind : Int) : CnA × Int := if n < 0 then (zeroC, 14) else match cs[n.toNat]? with | some d => if d.kind = kind then (d, 0) else (zeroC, 14) | none => (zeroC, 14)
theorem getS_hit {cs : List CnA} {m : Nat} (h : m < cs.length) (kind : Int) : getS cs (m : Int) kind = if (cs[m]).kind = kind then (cs[m], 0) else (zeroC, 14) := by
  unfold getS
  rw [if_neg (by omega), Int.toNat_natCast, List.getElem?_eq_getElem h]
theorem getS_miss {cs : List CnA} {m : Nat} (h : cs.length ≤ m) (kind : Int) : getS cs (m : Int) kind = (zeroC, 14) := by
  unfold getS
  rw [if_neg (by omega), Int.toNat_natCast, List.getElem?_eq_none h]
theorem getS_neg {cs : List CnA} {n : Int} (h : n < 0) (kind : Int) : getS cs n kind = (zeroC, 14) := by
  unfold getS; rw [if_pos h]
theorem get_runs {S : St} {v : AV} {cs : List CnA} {n kind : Int} (hok : Sok S) (hv : Cs S v cs) (_hb : cs.length ≤ 1000000000) (hn : S.n + 1 ≤ 1000000000) :
    Runs X1 15 [v, .int .i64 n, .int .i64 kind] S fun r S' => r = .tup [.agg (getS cs n kind).1.cells, .int .i64 (getS cs n kind).2] ∧ Fr S S' .nils 1 := by
  refine Runs_fn (m := 30) (by kernel_rfl) Tryd.func15 rfl (by kernel_rfl) (by kernel_rfl) ?_
  repeat (
    first
      | refine W_seq ?_
      | refine W_region ?_
      | refine WO_dst rfl rfl (by kernel_rfl) (by kernel_rfl) ?_)
  refine Ev_alloc_ rfl hok (by omega) ?_
  intro T hTn hTok hTq hTf
  have hF : Fr S T .nils 1 := ⟨by omega, by omega, hTok, fun c _ h => hTf c h⟩
  have hv1 := hv.keep (fun c h => hTf c (hv.lt hok h))
  have hq : T.h.get S.n = some (.cells 24 zeroC.cells false) := hTq
  by_cases hneg : n < 0
  · have e : getS cs n kind = (zeroC, 14) := getS_neg hneg kind
    repeat' (
      first
        | refine W_seq ?_
        | refine WO_nil ?_
        | refine V_seq ?_
        | refine W_region ?_
        | refine W_cond_t rfl ?_
        | refine WO_dst rfl rfl (by kernel_rfl) (by kernel_rfl) ?_
        | refine WO_guard_f rfl rfl rfl rfl rfl rfl (by kernel_rfl) (by kernel_rfl) ?_
        | refine Ev_move rfl ?_
        | refine Ev_assign rfl ?_
        | refine Ev_pick_t rfl rfl rfl ?_
        | refine Ev_lss rfl rfl ?_
        | (refine WO_guard_df rfl rfl rfl rfl rfl (by kernel_rfl) (by kernel_rfl) (fun hg => ?_) (fun hg => ?_) <;> (try dsimp only at hg) <;> try (exfalso; first | omega | exact hg rfl)))
    refine Ev_build (v := .agg zeroC.cells) rfl rfl ?_
    repeat (
      refine WO_no rfl rfl ?_)
    refine Ev_store rfl rfl rfl rfl (CnA.ones _) hq (by simp [CnA.cells, AV.cells]) (by omega) ?_
    intro T3 gn3 gq3 gf3
    repeat (
      first
        | refine WO_nil ?_
        | refine V_seq ?_
        | refine W_ret ?_
        | refine V_ret ?_
        | refine WO_dst rfl rfl (by kernel_rfl) (by kernel_rfl) ?_
        | refine Ev_assign rfl ?_)
    refine V_done_ct rfl rfl (loadAt_c (c := zeroC) gq3) rfl ?_
    rw [e]
    exact ⟨rfl, ⟨by omega, by omega, sok_upd hTok (by omega) gn3 gq3 gf3, fun c _ h => by rw [gf3 c (by omega), hTf c h]⟩⟩
  · obtain ⟨m, rfl⟩ : ∃ m : Nat, n = (m : Int) := ⟨n.toNat, by omega⟩
    repeat' (
      first
        | refine W_seq ?_
        | refine WO_nil ?_
        | refine V_seq ?_
        | refine W_region ?_
        | refine W_cond_t rfl ?_
        | refine WO_dst rfl rfl (by kernel_rfl) (by kernel_rfl) ?_
        | refine WO_guard_t rfl rfl rfl rfl rfl (by kernel_rfl) (by kernel_rfl) ?_
        | refine WO_guard_f rfl rfl rfl rfl rfl rfl (by kernel_rfl) (by kernel_rfl) ?_
        | refine Ev_len rfl rfl rfl rfl rfl hv1.len ?_
        | refine Ev_move rfl ?_
        | refine Ev_assign rfl ?_
        | refine Ev_pick_t rfl rfl rfl ?_
        | refine Ev_pick_f rfl rfl rfl ?_
        | refine Ev_lssN rfl rfl ?_
        | refine Ev_geqN rfl rfl ?_
        | (refine WO_guard_df rfl rfl rfl rfl rfl (by kernel_rfl) (by kernel_rfl) (fun hg => ?_) (fun hg => ?_) <;> (try dsimp only at hg) <;> try (exfalso; first | omega | exact hg rfl)))
    · have hlt : m < cs.length := by omega
      refine Ev_indexAddr_rd rfl rfl rfl rfl rfl hv1 hlt ?_
      intro q hq1
      repeat (
        first
          | refine WO_dst rfl rfl (by kernel_rfl) (by kernel_rfl) ?_
          | refine WO_guard_t rfl rfl rfl rfl rfl (by kernel_rfl) (by kernel_rfl) ?_)
      refine Ev_fieldAddr_pt rfl rfl rfl rfl rfl rfl hq1 ?_
      intro q2 hq2
      repeat (
        first
          | refine WO_dst rfl rfl (by kernel_rfl) (by kernel_rfl) ?_
          | refine WO_guard_t rfl rfl rfl rfl rfl (by kernel_rfl) (by kernel_rfl) ?_)
      refine Ev_load_pt rfl rfl rfl hq2 (cellsC_at hlt (by decide) rfl) (veq_int _ _) ?_
      repeat' (
        first
          | refine W_seq ?_
          | refine WO_nil ?_
          | refine V_seq ?_
          | refine W_region ?_
          | refine W_skip ?_
          | refine WO_dst rfl rfl (by kernel_rfl) (by kernel_rfl) ?_
          | refine WO_guard_t rfl rfl rfl rfl rfl (by kernel_rfl) (by kernel_rfl) ?_
          | refine Ev_move rfl ?_
          | refine Ev_pick_f rfl rfl rfl ?_
          | refine Ev_neq rfl rfl ?_
          | (refine W_cond rfl (fun hc => ?_) (fun hc => ?_) <;> (try dsimp only at hc) <;> try (exfalso; first | omega | exact hc rfl)))
      · have e : getS cs m kind = (zeroC, 14) := by rw [getS_hit hlt, if_neg hc]
        refine Ev_build (v := .agg zeroC.cells) rfl rfl ?_
        repeat (
          refine WO_no rfl rfl ?_)
        refine Ev_store rfl rfl rfl rfl (CnA.ones _) hq (by simp [CnA.cells, AV.cells]) (by omega) ?_
        intro T3 gn3 gq3 gf3
        repeat (
          first
            | refine WO_nil ?_
            | refine V_seq ?_
            | refine W_ret ?_
            | refine V_ret ?_
            | refine WO_dst rfl rfl (by kernel_rfl) (by kernel_rfl) ?_
            | refine Ev_assign rfl ?_)
        refine V_done_ct rfl rfl (loadAt_c (c := zeroC) gq3) rfl ?_
        rw [e]
        exact ⟨rfl, ⟨by omega, by omega, sok_upd hTok (by omega) gn3 gq3 gf3, fun c _ h => by rw [gf3 c (by omega), hTf c h]⟩⟩
      · have e : getS cs m kind = (cs[m], 0) := by rw [getS_hit hlt, if_pos (Classical.not_not.1 hc)]
        refine Ev_indexAddr_rd rfl rfl rfl rfl rfl hv1 hlt ?_
        intro q3 hq3
        repeat (
          refine WO_dst rfl rfl (by kernel_rfl) (by kernel_rfl) ?_)
        refine Ev_load_pt_agg rfl rfl rfl hq3 (by rw [cellsC_len]; dsimp only; omega) (cellsC_get cs m hlt) (CnA.veqs _) ?_
        repeat (
          refine WO_no rfl rfl ?_)
        refine Ev_store rfl rfl rfl rfl (CnA.ones _) hq (by simp [CnA.cells, AV.cells]) (by omega) ?_
        intro T3 gn3 gq3 gf3
        repeat (
          first
            | refine WO_nil ?_
            | refine V_seq ?_
            | refine W_ret ?_
            | refine WO_dst rfl rfl (by kernel_rfl) (by kernel_rfl) ?_
            | refine Ev_assign rfl ?_)
        refine V_done_ct rfl rfl (loadAt_c (c := cs[m]) gq3) rfl ?_
        rw [e]
        exact ⟨rfl, ⟨by omega, by omega, sok_upd hTok (by omega) gn3 gq3 gf3, fun c _ h => by rw [gf3 c (by omega), hTf c h]⟩⟩
    · have e : getS cs m kind = (zeroC, 14) := getS_miss (by omega) kind
      refine Ev_build (v := .agg zeroC.cells) rfl rfl ?_
      repeat (
        refine WO_no rfl rfl ?_)
      refine Ev_store rfl rfl rfl rfl (CnA.ones _) hq (by simp [CnA.cells, AV.cells]) (by omega) ?_
      intro T3 gn3 gq3 gf3
      repeat (
        first
          | refine WO_nil ?_
          | refine V_seq ?_
          | refine W_ret ?_
          | refine V_ret ?_
          | refine WO_dst rfl rfl (by kernel_rfl) (by kernel_rfl) ?_
          | refine Ev_assign rfl ?_)
      refine V_done_ct rfl rfl (loadAt_c (c := zeroC) gq3) rfl ?_
      rw [e]
      exact ⟨rfl, ⟨by omega, by omega, sok_upd hTok (by omega) gn3 gq3 gf3, fun c _ h => by rw [gf3 c (by omega), hTf c h]⟩⟩
/-- a pool with an entry, its number, and why not -/
def addS (cs : List CnA) (c : CnA) : List CnA × Int × Int :=
  if rightP c then (match cidx c cs with | some n => (cs, ((n : Nat) : Int), 0) | none => if 256 ≤ cs.length then ([], 0, 4) else (cs ++ [c], ((cs.length : Nat) : Int), 0)) else ([], 0, 14)
structure AddO (S : St) (cs : List CnA) (c : CnA) (k : Nat) (v : AV) (S' : St) : Prop where
  fr : Fr S S' .nils k
  val : ∃ r, v = .tup [r, .int .i64 (addS cs c).2.1, .int .i64 (addS cs c).2.2] ∧ Gz S' r 24 5 (cellsC (addS cs c).1) (addS cs c).1.length ∧ ∀ b, blkOf r = some b → S.n ≤ b
theorem add_runs {S : St} {v : AV} {cs : List CnA} {c : CnA} (hok : Sok S) (hv : Cs S v cs) (hc : c.Good) (hb : cs.length ≤ 100000000) (hn : S.n + 60 ≤ 1000000000) :
    Runs X1 17 [v, .agg c.cells] S (AddO S cs c 30) := by
  refine Runs_fn (m := 32) (by kernel_rfl) Tryd.func17 rfl (by kernel_rfl) (by kernel_rfl) ?_
  repeat (
    first
      | refine W_seq ?_
      | refine W_region ?_
      | refine WO_dst rfl rfl (by kernel_rfl) (by kernel_rfl) ?_)
  refine Ev_box rfl hok (by omega) ?_
  intro T hTn hTok hTq hTf
  have hF : Fr S T .nils 1 := ⟨by omega, by omega, hTok, fun c _ h => hTf c h⟩
  have hv1 := hv.keep (fun c h => hTf c (hv.lt hok h))
  have hq : T.h.get S.n = some (.cells 24 c.cells false) := hTq
  repeat (
    first
      | refine W_seq ?_
      | refine WO_nil ?_
      | refine V_seq ?_
      | refine W_region ?_
      | refine WO_dst rfl rfl (by kernel_rfl) (by kernel_rfl) ?_
      | refine Ev_assign rfl ?_)
  refine Ev_load_agg rfl rfl rfl hq (by simp [CnA.cells]) (show (c.cells.drop 0).take 5 = c.cells from rfl) (CnA.veqs c) ?_
  repeat (
    refine WO_dst rfl rfl (by kernel_rfl) (by kernel_rfl) ?_)
  refine Ev_call rfl rfl ((right_runs hTok hc (by omega)).mono ?_)
  rintro _ T1 - ⟨rfl, hF1⟩
  have gn1 := hF1.n
  have gl1 := hF1.le
  have hv2 := hv1.keep (fun c h => hF1.same c (by simp [blkOf]) (hv1.lt hTok h))
  have hq1 : T1.h.get S.n = some (.cells 24 c.cells false) := by rw [hF1.same S.n (by simp [blkOf]) (by omega)]; exact hq
  have hF01 : ∀ d, d < S.n → T1.h.get d = S.h.get d := fun d h => by rw [hF1.same d (by simp [blkOf]) (by omega), hTf d h]
  repeat' (
    first
      | refine W_seq ?_
      | refine WO_nil ?_
      | refine V_seq ?_
      | refine W_region ?_
      | refine W_skip ?_
      | refine W_ret ?_
      | refine V_ret ?_
      | refine WO_dst rfl rfl (by kernel_rfl) (by kernel_rfl) ?_
      | refine Ev_move rfl ?_
      | refine Ev_assign rfl ?_
      | refine Ev_not rfl ?_
      | (refine W_cond rfl (fun hc => ?_) (fun hc => ?_) <;> (try dsimp only at hc) <;> try (exfalso; first | omega | exact hc rfl)))
  · have e : addS cs c = ([], 0, 14) := by unfold addS; rw [if_neg (by assumption)]
    refine V_done rfl rfl ⟨⟨by omega, by omega, hF1.ok, fun d _ h => hF01 d h⟩, .nils, ?_, ?_, fun c hc => by cases hc⟩
    · rw [e]; rfl
    · rw [e]; exact .inl (.inl ⟨rfl, rfl, rfl⟩)
  · have hr : rightP c := by first | assumption | exact Classical.not_not.1 (by assumption)
    refine Ev_call rfl rfl ((cclone_runs hF1.ok hv2 (by omega) (by omega)).mono ?_)
    rintro w T2 - ⟨hF2, hz2, hb2⟩
    have gn2 := hF2.n
    have gl2 := hF2.le
    have hv3 := hv2.keep (fun c h => hF2.same c (by simp [blkOf]) (hv2.lt hF1.ok h))
    have hq2 : T2.h.get S.n = some (.cells 24 c.cells false) := by rw [hF2.same S.n (by simp [blkOf]) (by omega)]; exact hq1
    repeat (
      first
        | refine W_seq ?_
        | refine WO_nil ?_
        | refine V_seq ?_
        | refine W_region ?_
        | refine WO_dst rfl rfl (by kernel_rfl) (by kernel_rfl) ?_
        | refine Ev_move rfl ?_
        | refine Ev_assign rfl ?_)
    refine Ev_load_agg rfl rfl rfl hq2 (by simp [CnA.cells]) (show (c.cells.drop 0).take 5 = c.cells from rfl) (CnA.veqs c) ?_
    repeat (
      refine WO_dst rfl rfl (by kernel_rfl) (by kernel_rfl) ?_)
    refine Ev_call rfl rfl ((cindex_runs hF2.ok hz2.rd (by omega) (by omega)).mono ?_)
    rintro _ T3 - ⟨rfl, hF3⟩
    have gn3 := hF3.n
    have gl3 := hF3.le
    have hz3 := hz2.keep (fun c h => hF3.same c (by simp [blkOf]) (hz2.lt hF2.ok h))
    have hv4 := hv3.keep (fun c h => hF3.same c (by simp [blkOf]) (hv3.lt hF2.ok h))
    have hq3 : T3.h.get S.n = some (.cells 24 c.cells false) := by rw [hF3.same S.n (by simp [blkOf]) (by omega)]; exact hq2
    have hF03 : ∀ d, d < S.n → T3.h.get d = S.h.get d := fun d h => by rw [hF3.same d (by simp [blkOf]) (by omega), hF2.same d (by simp [blkOf]) (by omega), hF01 d h]
    have hbw : ∀ b, blkOf w = some b → S.n ≤ b := fun b h => by have := hb2 b h; omega
    cases hi : cidx c cs with
    | some m =>
      have e : addS cs c = (cs, ((m : Nat) : Int), 0) := by unfold addS; rw [if_pos hr, hi]
      have ei : cidxI c cs = ((m : Nat) : Int) := by unfold cidxI; rw [hi]
      rw [ei]
      repeat' (
        first
          | refine W_seq ?_
          | refine WO_nil ?_
          | refine V_seq ?_
          | refine W_region ?_
          | refine W_block ?_
          | refine W_ret ?_
          | refine V_ret ?_
          | refine W_cond_t rfl ?_
          | refine WO_dst rfl rfl (by kernel_rfl) (by kernel_rfl) ?_
          | refine Ev_move rfl ?_
          | refine Ev_assign rfl ?_
          | refine Ev_geqN rfl rfl ?_)
      refine V_done rfl rfl ⟨⟨by omega, by omega, hF3.ok, fun d _ h => hF03 d h⟩, w, ?_, ?_, hbw⟩
      · rw [e]; rfl
      · rw [e]; exact hz3
    | none =>
      have ei : cidxI c cs = -1 := by unfold cidxI; rw [hi]
      rw [ei]
      repeat' (
        first
          | refine W_seq ?_
          | refine WO_nil ?_
          | refine V_seq ?_
          | refine W_region ?_
          | refine W_block ?_
          | refine W_skip ?_
          | refine W_ret ?_
          | refine V_ret ?_
          | refine V_block ?_
          | refine W_cond_f rfl ?_
          | refine WO_dst rfl rfl (by kernel_rfl) (by kernel_rfl) ?_
          | refine Ev_len rfl rfl rfl rfl rfl hv4.len ?_
          | refine Ev_move rfl ?_
          | refine Ev_assign rfl ?_
          | refine Ev_geqN rfl rfl ?_
          | refine Ev_geq rfl rfl ?_
          | (refine W_cond rfl (fun hc => ?_) (fun hc => ?_) <;> (try dsimp only at hc) <;> try (exfalso; first | omega | exact hc rfl)))
      · have e : addS cs c = ([], 0, 4) := by unfold addS; rw [if_pos hr, hi]; dsimp only; rw [if_pos (by assumption)]
        refine V_done rfl rfl ⟨⟨by omega, by omega, hF3.ok, fun d _ h => hF03 d h⟩, .nils, ?_, ?_, fun c hc => by cases hc⟩
        · rw [e]; rfl
        · rw [e]; exact .inl (.inl ⟨rfl, rfl, rfl⟩)
      · have e : addS cs c = (cs ++ [c], ((cs.length : Nat) : Int), 0) := by unfold addS; rw [if_pos hr, hi]; dsimp only; rw [if_neg (by assumption)]
        refine Ev_load_agg rfl rfl rfl hq3 (by simp [CnA.cells]) (show (c.cells.drop 0).take 5 = c.cells from rfl) (CnA.veqs c) ?_
        repeat (
          refine WO_dst rfl rfl (by kernel_rfl) (by kernel_rfl) ?_)
        refine Ev_buildSlice rfl rfl rfl rfl rfl rfl hF3.ok (by omega) ?_
        intro T4 gn4 gok4 gq4 gf4
        have hz4 := hz3.keep (fun c h => gf4 c (hz3.lt hF3.ok h))
        have hv5 := hv4.keep (fun c h => gf4 c (hv4.lt hF3.ok h))
        have hrd : Rd T4 (.slice T3.n 0 1 (.ex 1)) 5 c.cells 1 := Rd_lit gq4 rfl rfl
        repeat (
          refine WO_dst rfl rfl (by kernel_rfl) (by kernel_rfl) ?_)
        refine Ev_append_gz rfl rfl rfl rfl rfl rfl rfl rfl rfl rfl hz4 hrd (CnA.ones c) gok4 (by omega) (by dsimp only; omega) (by omega) ?_
        intro w5 T5 gl5 gn5 gok5 hz5 gf5 gb5
        have hv6 := hv5.keep (fun c h => gf5 c (fun e2 => by have := hbw c e2; have := hv.lt hok h; omega) (hv5.lt gok4 h))
        repeat (
          first
            | refine WO_nil ?_
            | refine V_seq ?_
            | refine W_ret ?_
            | refine WO_dst rfl rfl (by kernel_rfl) (by kernel_rfl) ?_
            | refine Ev_len rfl rfl rfl rfl rfl hv6.len ?_
            | refine Ev_move rfl ?_
            | refine Ev_assign rfl ?_)
        refine V_done rfl rfl ⟨⟨by omega, by omega, gok5, fun d _ h => ?_⟩, w5, ?_, ?_, fun b hb => ?_⟩
        · rw [gf5 d (fun e2 => by have := hbw d e2; omega) (by omega), gf4 d (by omega), hF03 d h]
        · rw [e]; rfl
        · rw [e]
          refine hz5.eq ?_ (by simp)
          rw [cellsC_app]
          show cellsC cs ++ c.cells = cellsC cs ++ ([c].flatMap CnA.cells)
          simp
        · rcases gb5 b hb with h | h
          · exact hbw b h
          · omega
end Go.Proofs.YthhbnnnokmefoaaDoor
/- pool.Write: is each constant right? -/


namespace Go.Proofs.YthhbnnnokmefoaaDoor
open GX
set_option maxHeartbeats 16000000
theorem wrong_runs {S : St} {c : CnA} (hok : Sok S) (hcg : c.Good) (hn : S.n + 60 ≤ 1000000000) : Runs X1 36 [.agg c.cells] S fun v S' => v = .bool (decide (¬ rightP c)) ∧ Fr S S' .nils 21 := by
  refine Runs_fn (m := 6) (by kernel_rfl) Tryd.func36 rfl (by kernel_rfl) (by kernel_rfl) ?_
  repeat (
    first
      | refine W_seq ?_
      | refine W_region ?_
      | refine WO_dst rfl rfl (by kernel_rfl) (by kernel_rfl) ?_)
  refine Ev_box rfl hok (by omega) ?_
  intro T hTn hTok hTq hTf
  have hq : T.h.get S.n = some (.cells 24 c.cells false) := hTq
  repeat (
    first
      | refine W_seq ?_
      | refine WO_nil ?_
      | refine V_seq ?_
      | refine W_region ?_
      | refine WO_dst rfl rfl (by kernel_rfl) (by kernel_rfl) ?_
      | refine Ev_assign rfl ?_)
  refine Ev_load_agg rfl rfl rfl hq (by simp [CnA.cells]) (show (c.cells.drop 0).take 5 = c.cells from rfl) (CnA.veqs c) ?_
  repeat (
    refine WO_dst rfl rfl (by kernel_rfl) (by kernel_rfl) ?_)
  refine Ev_call rfl rfl ((right_runs hTok hcg (by omega)).mono ?_)
  rintro _ T1 - ⟨rfl, hF1⟩
  have gn1 := hF1.n
  have gl1 := hF1.le
  repeat (
    first
      | refine WO_nil ?_
      | refine V_seq ?_
      | refine W_ret ?_
      | refine WO_dst rfl rfl (by kernel_rfl) (by kernel_rfl) ?_
      | refine Ev_assign rfl ?_
      | refine Ev_not rfl ?_)
  refine V_done rfl rfl ⟨rfl, ⟨by omega, by omega, hF1.ok, fun d _ h => by rw [hF1.same d (by simp [blkOf]) (by omega), hTf d h]⟩⟩
theorem wrongs_runs {S : St} {v : AV} {cs : List CnA} (hok : Sok S) (hv : Cs S v cs) (hgood : ∀ c ∈ cs, c.Good) (hl : cs.length ≤ 100000) (hn : S.n ≤ 900000000) :
    Runs X1 58 [v, .func (.func 36) [] []] S fun r S' => ∃ z : Int, r = .int .i64 z ∧ (0 ≤ z ↔ ¬ ∀ c ∈ cs, rightP c) ∧ Fr S S' .nils (30 * cs.length) := by
  refine Runs_fn (m := 19) (by kernel_rfl) Tryd.func58 rfl (by kernel_rfl) (by kernel_rfl) ?_
  repeat (
    first
      | refine W_seq ?_
      | refine WO_nil ?_
      | refine V_seq ?_
      | refine W_region ?_
      | refine W_block ?_
      | refine WO_dst rfl rfl (by kernel_rfl) (by kernel_rfl) ?_
      | refine Ev_len rfl rfl rfl rfl rfl hv.len ?_
      | refine Ev_move rfl ?_
      | refine Ev_assign rfl ?_)
  refine W_inv (fun i : Nat => [(8, .int .i64 ((i : Nat) : Int)), (7, .int .i64 ((cs.length : Nat) : Int)), (0, v), (1, .func (.func 36) [] [])]) (fun i T => Fr S T .nils (30 * i) ∧ i ≤ cs.length ∧ ∀ c ∈ cs.take i, rightP c) (fun i => cs.length - i) ?_ 0 ⟨⟨Nat.le_refl _, Nat.le_refl _, hok, fun _ _ _ => rfl⟩, Nat.zero_le _, by simp⟩ ⟨rfl, rfl, rfl, rfl, trivial⟩
  rintro i T ⟨hF, hi, hall⟩ back
  have gn := hF.n
  have gl := hF.le
  have hv1 := hv.keep (fun c h => hF.same c (by simp [blkOf]) (hv.lt hok h))
  repeat' (
    first
      | refine W_seq ?_
      | refine WO_nil ?_
      | refine V_seq ?_
      | refine W_region ?_
      | refine W_block ?_
      | refine W_skip ?_
      | refine W_ret ?_
      | refine W_exit ?_
      | refine V_block_x rfl ?_
      | refine V_seq_x ?_
      | refine V_loop_x ?_
      | refine WO_dst rfl rfl (by kernel_rfl) (by kernel_rfl) ?_
      | refine Ev_move rfl ?_
      | refine Ev_assign rfl ?_
      | refine Ev_lssN rfl rfl ?_
      | (refine W_cond rfl (fun hc => ?_) (fun hc => ?_) <;> (try dsimp only at hc) <;> try (exfalso; first | omega | exact hc rfl)))
  · have hlt : i < cs.length := by assumption
    have hcg : (cs[i]).Good := hgood _ (List.getElem_mem _)
    refine Ev_indexAddr_rd rfl rfl rfl rfl rfl hv1 hlt ?_
    intro q hq
    repeat (
      refine WO_dst rfl rfl (by kernel_rfl) (by kernel_rfl) ?_)
    refine Ev_load_pt_agg rfl rfl rfl hq (by rw [cellsC_len]; dsimp only; omega) (cellsC_get cs i hlt) (CnA.veqs _) ?_
    repeat (
      refine WO_dst rfl rfl (by kernel_rfl) (by kernel_rfl) ?_)
    refine Ev_call rfl rfl ((wrong_runs hF.ok hcg (by omega)).mono ?_)
    rintro _ T1 - ⟨rfl, hF1⟩
    have gn1 := hF1.n
    have gl1 := hF1.le
    have hF2 : Fr S T1 .nils (30 * (i + 1)) := ⟨by omega, by omega, hF1.ok, fun d _ h => by rw [hF1.same d (by simp [blkOf]) (by omega), hF.same d (by simp [blkOf]) h]⟩
    repeat' (
      first
        | refine W_seq ?_
        | refine WO_nil ?_
        | refine V_seq ?_
        | refine W_region ?_
        | refine W_skip ?_
        | refine W_ret ?_
        | refine V_ret ?_
        | refine V_block ?_
        | refine WO_dst rfl rfl (by kernel_rfl) (by kernel_rfl) ?_
        | refine Ev_move rfl ?_
        | refine Ev_assign rfl ?_
        | refine Ev_addN rfl rfl (by simp only [lim]; omega) ?_
        | (refine W_cond rfl (fun hc => ?_) (fun hc => ?_) <;> (try dsimp only at hc) <;> try (exfalso; first | omega | exact hc rfl)))
    · refine V_done rfl rfl ⟨_, rfl, ⟨fun _ h => ?_, fun _ => by omega⟩, ⟨hF2.le, by have := hF2.n; omega, hF2.ok, hF2.same⟩⟩
      exact (by assumption : ¬ rightP cs[i]) (h _ (List.getElem_mem _))
    · refine back (i + 1) T1 _ (by omega) ⟨hF2, by omega, fun d hd => ?_⟩ ⟨rfl, rfl, rfl, rfl, trivial⟩
      rw [List.take_succ_eq_append_getElem hlt] at hd
      rcases List.mem_append.1 hd with h | h
      · exact hall d h
      · rw [List.mem_singleton] at h; rw [h]; exact Classical.not_not.1 (by assumption)
  · refine V_done rfl rfl ⟨-1, rfl, ⟨fun h => by omega, fun h => absurd ?_ h⟩, ⟨by omega, by omega, hF.ok, hF.same⟩⟩
    have : cs.take i = cs := List.take_of_length_le (by omega)
    rw [this] at hall; exact hall
theorem contains_runs {S : St} {v : AV} {cs : List CnA} (hok : Sok S) (hv : Cs S v cs) (hgood : ∀ c ∈ cs, c.Good) (hl : cs.length ≤ 100000) (hn : S.n ≤ 900000000) :
    Runs X1 35 [v, .func (.func 36) [] []] S fun r S' => r = .bool (decide (¬ ∀ c ∈ cs, rightP c)) ∧ Fr S S' .nils (30 * cs.length) := by
  refine Runs_fn (m := 9) (by kernel_rfl) Tryd.func35 rfl (by kernel_rfl) (by kernel_rfl) ?_
  repeat (
    first
      | refine W_seq ?_
      | refine WO_nil ?_
      | refine V_seq ?_
      | refine W_region ?_
      | refine WO_dst rfl rfl (by kernel_rfl) (by kernel_rfl) ?_
      | refine Ev_move rfl ?_
      | refine Ev_assign rfl ?_)
  refine Ev_call rfl rfl ((wrongs_runs hok hv hgood hl hn).mono ?_)
  rintro _ T - ⟨z, rfl, hz, hF⟩
  repeat (
    first
      | refine WO_nil ?_
      | refine V_seq ?_
      | refine W_ret ?_
      | refine WO_dst rfl rfl (by kernel_rfl) (by kernel_rfl) ?_
      | refine Ev_assign rfl ?_
      | refine Ev_geq rfl rfl ?_)
  refine V_done rfl rfl ⟨?_, hF⟩
  show AV.bool (decide (0 ≤ z)) = _
  congr 1
  exact decide_eq_decide.2 hz
end Go.Proofs.YthhbnnnokmefoaaDoor
/- utf8.AppendRune, of runes that are valid. -/

namespace Go.Proofs.YthhbnnnokmefoaaDoor
open GX
set_option maxHeartbeats 4000000
def runeL (r : Nat) : List Nat :=
  if r ≤ 127 then [r] else if r ≤ 2047 then [192 + r / 64, 128 + r % 64] else if r ≤ 65535 then [224 + r / 4096, 128 + r / 64 % 64, 128 + r % 64]
  else [240 + r / 262144, 128 + r / 4096 % 64, 128 + r / 64 % 64, 128 + r % 64]
def okR (r : Nat) : Prop := r < 55296 ∨ 57343 < r ∧ r < 1114112
theorem encodeR_runeL {r : Nat} (h : okR r) : encodeR (r : Int) = runeL r := by
  unfold okR at h
  unfold encodeR runeL
  have hv : Utf8.valid (r : Int) = true := by unfold Utf8.valid; simp; omega
  rw [hv]
  simp only [if_true, Int.toNat_natCast, nblt, cond_dec]
  by_cases h1 : r ≤ 127
  · rw [if_pos (by omega), if_pos h1]
  · rw [if_neg (by omega), if_neg h1]
    by_cases h2 : r ≤ 2047
    · rw [if_pos (by omega), if_pos h2]
    · rw [if_neg (by omega), if_neg h2]
      by_cases h3 : r ≤ 65535
      · rw [if_pos (by omega), if_pos h3]
      · rw [if_neg (by omega), if_neg h3]
theorem runeL_len (r : Nat) : (runeL r).length ≤ 4 := by unfold runeL; (repeat' split) <;> simp
structure AppR (S : St) (v : AV) (l : List Nat) (v' : AV) (S' : St) : Prop where
  fr : Fr S S' v 2
  ow : Ow S' v' l
  bk : ∀ c, blkOf v' = some c → blkOf v = some c ∨ S.n ≤ c
theorem appN_runs {S : St} {v : AV} {l : List Nat} {r : Nat} (hv : Ow S v l) (hok : Sok S) (hn : S.n + 2 ≤ 1000000000) (hl : l.length ≤ 1000000000) (hr : okR r) (h128 : 127 < r) :
    Runs X1 90 [v, .int .i32 (r : Int)] S (AppR S v (l ++ runeL r)) := by
  unfold okR at hr
  have hr2 : r < 1114112 := by omega
  refine Runs_fn (m := 78) (by kernel_rfl) Tryd.func90 rfl (by kernel_rfl) (by kernel_rfl) ?_
  repeat' (
    first
      | refine W_seq ?_
      | refine WO_nil ?_
      | refine V_seq ?_
      | refine W_region ?_
      | refine W_block ?_
      | refine W_skip ?_
      | refine WO_dst rfl rfl (by kernel_rfl) (by kernel_rfl) ?_
      | refine WO_guard_t rfl rfl rfl rfl rfl (by kernel_rfl) (by kernel_rfl) ?_
      | refine Ev_move rfl ?_
      | refine Ev_assign rfl ?_
      | refine Ev_pick_t rfl rfl rfl ?_
      | refine Ev_lssN rfl rfl ?_
      | refine Ev_leqN rfl rfl ?_
      | refine Ev_gtrN rfl rfl ?_
      | refine Ev_shrN (m := 6) (q := 64) rfl rfl rfl rfl ?_
      | refine Ev_shrN (m := 12) (q := 4096) rfl rfl rfl rfl ?_
      | refine Ev_shrN (m := 18) (q := 262144) rfl rfl rfl rfl ?_
      | refine Ev_andN 6 64 rfl rfl rfl rfl (by simp only [lim]; omega) (by simp only [lim]; omega) ?_
      | refine Ev_orN 4 rfl rfl rfl (by first | omega | (dsimp only; done) | (dsimp only; omega)) (by first | omega | (dsimp only; done) | (dsimp only; omega)) (by simp only [lim]; omega) ?_
      | refine Ev_orN 5 rfl rfl rfl (by first | omega | (dsimp only; done) | (dsimp only; omega)) (by first | omega | (dsimp only; done) | (dsimp only; omega)) (by simp only [lim]; omega) ?_
      | refine Ev_orN 6 rfl rfl rfl (by first | omega | (dsimp only; done) | (dsimp only; omega)) (by first | omega | (dsimp only; done) | (dsimp only; omega)) (by simp only [lim]; omega) ?_
      | refine Ev_convN rfl rfl rfl rfl rfl (by simp only [lim]; omega) ?_
      | refine Ev_conv8 rfl rfl rfl rfl rfl ?_
      | (refine WO_guard_dt rfl rfl rfl rfl rfl (by kernel_rfl) (by kernel_rfl) (fun hg => ?_) (fun hg => ?_) <;> (try dsimp only at hg) <;> try (exfalso; first | omega | exact hg rfl))
      | (refine W_cond rfl (fun hc => ?_) (fun hc => ?_) <;> (try dsimp only at hc) <;> try (exfalso; first | omega | exact hc rfl)))
  all_goals
    refine Ev_buildSlice rfl rfl rfl rfl rfl rfl hok (by omega) ?_
    intro S1 hn1 hok1 hq1 hf1
    repeat (
      refine WO_dst rfl rfl (by kernel_rfl) (by kernel_rfl) ?_)
    refine Ev_append rfl rfl rfl rfl rfl rfl rfl rfl rfl rfl (hv.keep (fun b hb => hf1 b (hv.lt hok hb))) (Rd_lit hq1 rfl (by kernel_rfl)) rfl hok1 (by omega) (by dsimp only; omega) (by omega) ?_
    intro v2 S2 hle2 hn2 hok2 hown2 hf2 hb2
    repeat (
      first
        | refine WO_nil ?_
        | refine V_seq ?_
        | refine W_ret ?_
        | refine V_ret ?_
        | refine WO_dst rfl rfl (by kernel_rfl) (by kernel_rfl) ?_
        | refine Ev_assign rfl ?_)
    refine V_done rfl rfl ?_
    refine ⟨⟨by omega, by omega, hok2, fun c h1 h2 => by rw [hf2 c h1 (by omega), hf1 c h2]⟩, ?_, fun c hc => (hb2 c hc).imp id (fun h => by omega)⟩
    refine hown2.eq ?_ ?_
    · rw [sbytes_app]
      congr 1
      unfold runeL
      (repeat' split) <;> first | (exfalso; omega) | skip
      simp [sbytes, lput, rep, AV.cells]
      try omega
    · rw [List.length_append]
      unfold runeL
      (repeat' split) <;> first | (exfalso; omega) | rfl
theorem app_runs {S : St} {v : AV} {l : List Nat} {r : Nat} (hv : Ow S v l) (hok : Sok S) (hn : S.n + 2 ≤ 1000000000) (hl : l.length ≤ 1000000000) (hr : okR r) :
    Runs X1 84 [v, .int .i32 (r : Int)] S (AppR S v (l ++ runeL r)) := by
  have hr' := hr
  unfold okR at hr'
  refine Runs_fn (m := 16) (by kernel_rfl) Tryd.func84 rfl (by kernel_rfl) (by kernel_rfl) ?_
  repeat (
    first
      | refine W_seq ?_
      | refine WO_nil ?_
      | refine V_seq ?_
      | refine W_region ?_
      | refine WO_dst rfl rfl (by kernel_rfl) (by kernel_rfl) ?_
      | refine Ev_move rfl ?_
      | refine Ev_assign rfl ?_
      | refine Ev_leqN rfl rfl ?_
      | refine Ev_convN rfl rfl rfl rfl rfl (by simp only [lim]; omega) ?_)
  refine W_cond rfl (fun hc => ?_) (fun hc => ?_) <;> dsimp only at hc
  · repeat (
      first
        | refine W_seq ?_
        | refine W_region ?_
        | refine WO_dst rfl rfl (by kernel_rfl) (by kernel_rfl) ?_
        | refine Ev_move rfl ?_
        | refine Ev_convN rfl rfl rfl rfl rfl (by simp only [lim]; omega) ?_)
    refine Ev_buildSlice rfl rfl rfl rfl rfl rfl hok (by omega) ?_
    intro S1 hn1 hok1 hq1 hf1
    repeat (
      refine WO_dst rfl rfl (by kernel_rfl) (by kernel_rfl) ?_)
    refine Ev_append rfl rfl rfl rfl rfl rfl rfl rfl rfl rfl (hv.keep (fun b hb => hf1 b (hv.lt hok hb))) (Rd_lit hq1 rfl (by kernel_rfl)) rfl hok1 (by omega) (by dsimp only; omega) (by omega) ?_
    intro v2 S2 hle2 hn2 hok2 hown2 hf2 hb2
    repeat (
      first
        | refine WO_nil ?_
        | refine V_seq ?_
        | refine W_ret ?_
        | refine V_ret ?_
        | refine WO_dst rfl rfl (by kernel_rfl) (by kernel_rfl) ?_
        | refine Ev_assign rfl ?_)
    refine V_done rfl rfl ?_
    refine ⟨⟨by omega, by omega, hok2, fun c h1 h2 => by rw [hf2 c h1 (by omega), hf1 c h2]⟩, ?_, fun c hc => (hb2 c hc).imp id (fun h => by omega)⟩
    refine hown2.eq ?_ ?_
    · rw [sbytes_app]
      congr 1
      unfold runeL
      rw [if_pos hc]
      rfl
    · rw [List.length_append]
      unfold runeL
      rw [if_pos hc]
      rfl
  · repeat (
      first
        | refine W_seq ?_
        | refine V_seq ?_
        | refine W_region ?_
        | refine W_skip ?_
        | refine WO_dst rfl rfl (by kernel_rfl) (by kernel_rfl) ?_
        | refine Ev_move rfl ?_)
    refine Ev_call rfl rfl ((appN_runs hv hok hn hl hr (by omega)).mono ?_)
    rintro v2 S2 - hA
    repeat (
      first
        | refine WO_nil ?_
        | refine V_seq ?_
        | refine W_ret ?_
        | refine WO_dst rfl rfl (by kernel_rfl) (by kernel_rfl) ?_
        | refine Ev_assign rfl ?_)
    refine V_done rfl rfl ?_
    exact hA
end Go.Proofs.YthhbnnnokmefoaaDoor
/- mutf.one: the unit with which bytes begin. -/

namespace Go.Proofs.YthhbnnnokmefoaaDoor
open GX
set_option maxHeartbeats 4000000
/-- a slice of bytes that may be read -/
abbrev Br (S : St) (v : AV) (l : List Nat) : Prop := Rd S v 1 (sbytes l) l.length
theorem tail_runs {S : St} {v : AV} {l : List Nat} {q i : Nat} (hq : S.h.get q = some (.cells 31 [v] false)) (hv : Br S v l) (hb : ∀ c ∈ l, c < 256) (hi : i < l.length) :
    Runs X1 89 [.int .i64 (i : Int), .ptr q 0] S fun r S' => S' = S ∧ r = .tup [.int .i32 ((l.getD i 0 % 64 : Nat) : Int), .bool (decide (l.getD i 0 / 64 * 64 = 128))] := by
  have hx : (sbytes l)[i * 1]? = some (.int .u8 ((l.getD i 0 : Nat) : Int)) := by rw [Nat.mul_one, sbytes_get hi]
  have h8 : l.getD i 0 < 256 := getD_lt hb (by omega)
  generalize l.getD i 0 = c at *
  refine Runs_fn (m := 17) (by kernel_rfl) Tryd.func89 rfl (by kernel_rfl) (by kernel_rfl) ?_
  repeat (
    first
      | refine W_seq ?_
      | refine WO_nil ?_
      | refine V_seq ?_
      | refine W_region ?_
      | refine W_drawn (by kernel_rfl) ?_
      | refine WO_dst rfl rfl (by kernel_rfl) (by kernel_rfl) ?_
      | refine Ev_assign rfl ?_)
  refine Ev_load rfl rfl rfl hq rfl hv.self ?_
  repeat (
    first
      | refine WO_dst rfl rfl (by kernel_rfl) (by kernel_rfl) ?_
      | refine Ev_move rfl ?_)
  refine Ev_indexAddr_rd rfl rfl rfl rfl rfl hv hi ?_
  intro p hp
  repeat (
    refine WO_dst rfl rfl (by kernel_rfl) (by kernel_rfl) ?_)
  refine Ev_load_pt rfl rfl rfl hp hx (veq_int _ _) ?_
  repeat (
    first
      | refine WO_dst rfl rfl (by kernel_rfl) (by kernel_rfl) ?_
      | refine Ev_andN 6 64 rfl rfl rfl rfl (by simp only [lim]; omega) (by simp only [lim]; omega) ?_
      | refine Ev_convN rfl rfl rfl rfl rfl (by simp only [lim]; omega) ?_)
  refine Ev_load rfl rfl rfl hq rfl hv.self ?_
  repeat (
    first
      | refine WO_dst rfl rfl (by kernel_rfl) (by kernel_rfl) ?_
      | refine Ev_move rfl ?_)
  refine Ev_indexAddr_rd rfl rfl rfl rfl rfl hv hi ?_
  intro p2 hp2
  repeat (
    refine WO_dst rfl rfl (by kernel_rfl) (by kernel_rfl) ?_)
  refine Ev_load_pt rfl rfl rfl hp2 hx (veq_int _ _) ?_
  repeat (
    first
      | refine WO_nil ?_
      | refine V_seq ?_
      | refine W_ret ?_
      | refine WO_dst rfl rfl (by kernel_rfl) (by kernel_rfl) ?_
      | refine Ev_assign rfl ?_
      | refine Ev_eqlN rfl rfl ?_
      | refine Ev_and8 rfl rfl (by first | omega | (dsimp only; done) | (dsimp only; omega)) (by first | omega | (dsimp only; done) | (dsimp only; omega)) (land_192 (by first | omega | (dsimp only; done) | (dsimp only; omega))) (by first | omega | (dsimp only; done) | (dsimp only; omega)) ?_)
  refine V_done rfl rfl ?_
  exact ⟨rfl, rfl⟩
def oneL (l : List Nat) : Nat × Nat :=
  if 0 < l.length ∧ 0 < l.getD 0 0 ∧ l.getD 0 0 < 128 then (l.getD 0 0, 1)
  else if 1 < l.length ∧ l.getD 0 0 / 32 * 32 = 192 then
    (if l.getD 1 0 / 64 * 64 = 128 ∧ (128 ≤ l.getD 0 0 % 32 * 64 + l.getD 1 0 % 64 ∨ l.getD 0 0 % 32 * 64 + l.getD 1 0 % 64 = 0) then (l.getD 0 0 % 32 * 64 + l.getD 1 0 % 64, 2) else (0, 0))
  else if 2 < l.length ∧ l.getD 0 0 / 16 * 16 = 224 then
    (if l.getD 1 0 / 64 * 64 = 128 ∧ l.getD 2 0 / 64 * 64 = 128 ∧ 2048 ≤ l.getD 0 0 % 16 * 4096 + l.getD 1 0 % 64 * 64 + l.getD 2 0 % 64 then (l.getD 0 0 % 16 * 4096 + l.getD 1 0 % 64 * 64 + l.getD 2 0 % 64, 3) else (0, 0))
  else (0, 0)
structure OneR (S : St) (l : List Nat) (r : AV) (S' : St) : Prop where
  n : S'.n = S.n + 1
  ok : Sok S'
  fr : ∀ c, c < S.n → S'.h.get c = S.h.get c
  out : r = .tup [.int .i32 (((oneL l).1 : Nat) : Int), .int .i64 (((oneL l).2 : Nat) : Int)]
theorem one_runs {S : St} {v : AV} {l : List Nat} (hok : Sok S) (hn : S.n < 1000000000) (hv : Br S v l) (hb : ∀ c ∈ l, c < 256) (hl : l.length < 1000000000) : Runs X1 83 [v] S (OneR S l) := by
  refine Runs_fn (m := 109) (by kernel_rfl) Tryd.func83 rfl (by kernel_rfl) (by kernel_rfl) ?_
  refine W_seq ?_
  refine W_region ?_
  refine WO_dst rfl rfl (by kernel_rfl) (by kernel_rfl) ?_
  refine Ev_box rfl hok hn ?_
  intro S1 hn1 hok1 hq1 hf1
  have hcl : v.cells = [v] := by have := hv.sl; cases v <;> first | rfl | cases this
  rw [hcl] at hq1
  have hv1 : Br S1 v l := hv.keep fun b hb => hf1 b (hv.lt hok hb)
  have hx : ∀ i, i < l.length → (sbytes l)[i * 1]? = some (.int .u8 ((l.getD i 0 : Nat) : Int)) := by
    intro i hi
    rw [Nat.mul_one, sbytes_get hi]
  have h8 : ∀ i, l.getD i 0 < 256 := fun i => getD_lt hb (by omega)
  have h80 := h8 0
  have h81 := h8 1
  have h82 := h8 2
  have ht : ∀ i, i < l.length → Runs X1 89 [.int .i64 (i : Int), .ptr S.n 0] S1 fun r S' => S' = S1 ∧ r = .tup [.int .i32 ((l.getD i 0 % 64 : Nat) : Int), .bool (decide (l.getD i 0 / 64 * 64 = 128))] := fun i hi => tail_runs hq1 hv1 hb hi
  repeat' (
    first
      | refine W_seq ?_
      | refine WO_nil ?_
      | refine V_seq ?_
      | refine W_region ?_
      | refine W_block ?_
      | refine W_skip ?_
      | refine W_ret ?_
      | refine V_ret ?_
      | refine V_block ?_
      | refine W_cond_t rfl ?_
      | refine W_cond_f rfl ?_
      | refine WO_dst rfl rfl (by kernel_rfl) (by kernel_rfl) ?_
      | refine WO_guard_t rfl rfl rfl rfl rfl (by kernel_rfl) (by kernel_rfl) ?_
      | refine WO_guard_f rfl rfl rfl rfl rfl rfl (by kernel_rfl) (by kernel_rfl) ?_
      | refine WO_guard_x rfl rfl rfl rfl rfl (by kernel_rfl) (by kernel_rfl) ?_
      | refine Ev_load rfl rfl rfl hq1 rfl hv1.self ?_
      | refine Ev_len rfl rfl rfl rfl rfl hv1.len ?_
      | (refine Ev_indexAddr_rd rfl rfl rfl rfl rfl hv1 (by first | omega | (dsimp only; omega)) ?_; intro p hp)
      | refine Ev_load_pt rfl rfl rfl hp (hx _ (by first | omega | (dsimp only; omega))) (veq_int _ _) ?_
      | (refine Ev_call rfl rfl ((ht _ (by first | omega | (dsimp only; omega))).mono ?_); rintro _ _ - ⟨rfl, rfl⟩)
      | refine Ev_move rfl ?_
      | refine Ev_assign rfl ?_
      | refine Ev_extract rfl rfl ?_
      | refine Ev_pick_t rfl rfl rfl ?_
      | refine Ev_pick_f rfl rfl rfl ?_
      | refine Ev_lssN rfl rfl ?_
      | refine Ev_gtrN rfl rfl ?_
      | refine Ev_geqN rfl rfl ?_
      | refine Ev_eqlN rfl rfl ?_
      | refine Ev_makeFunc rfl rfl ?_
      | refine Ev_shlN (m := 6) (q := 64) rfl rfl rfl rfl (by simp only [lim]; omega) ?_
      | refine Ev_shlN (m := 12) (q := 4096) rfl rfl rfl rfl (by simp only [lim]; omega) ?_
      | refine Ev_andN 4 16 rfl rfl rfl rfl (by simp only [lim]; omega) (by simp only [lim]; omega) ?_
      | refine Ev_andN 5 32 rfl rfl rfl rfl (by simp only [lim]; omega) (by simp only [lim]; omega) ?_
      | refine Ev_orN 6 rfl rfl rfl (by first | omega | (dsimp only; done) | (dsimp only; omega)) (by first | omega | (dsimp only; done) | (dsimp only; omega)) (by simp only [lim]; omega) ?_
      | refine Ev_orN 12 rfl rfl rfl (by first | omega | (dsimp only; done) | (dsimp only; omega)) (by first | omega | (dsimp only; done) | (dsimp only; omega)) (by simp only [lim]; omega) ?_
      | refine Ev_convN rfl rfl rfl rfl rfl (by simp only [lim]; omega) ?_
      | refine Ev_and8 rfl rfl (by first | omega | (dsimp only; done) | (dsimp only; omega)) (by first | omega | (dsimp only; done) | (dsimp only; omega)) (land_224 (by first | omega | (dsimp only; done) | (dsimp only; omega))) (by first | omega | (dsimp only; done) | (dsimp only; omega)) ?_
      | refine Ev_and8 rfl rfl (by first | omega | (dsimp only; done) | (dsimp only; omega)) (by first | omega | (dsimp only; done) | (dsimp only; omega)) (land_240 (by first | omega | (dsimp only; done) | (dsimp only; omega))) (by first | omega | (dsimp only; done) | (dsimp only; omega)) ?_
      | (refine WO_guard_dt rfl rfl rfl rfl rfl (by kernel_rfl) (by kernel_rfl) (fun hg => ?_) (fun hg => ?_) <;> (try dsimp only at hg) <;> try (exfalso; first | omega | exact hg rfl))
      | (refine WO_guard_df rfl rfl rfl rfl rfl (by kernel_rfl) (by kernel_rfl) (fun hg => ?_) (fun hg => ?_) <;> (try dsimp only at hg) <;> try (exfalso; first | omega | exact hg rfl))
      | (refine W_cond rfl (fun hc => ?_) (fun hc => ?_) <;> (try dsimp only at hc) <;> try (exfalso; first | omega | exact hc rfl)))
  all_goals
    refine V_done rfl rfl ?_
    refine ⟨hn1, hok1, hf1, ?_⟩
    unfold oneL
    (repeat' split) <;> first | rfl | (exfalso; omega)
end Go.Proofs.YthhbnnnokmefoaaDoor
/- mutf.Decode: what it answers. -/


namespace Go.Proofs.YthhbnnnokmefoaaDoor
open GX
set_option maxHeartbeats 4000000
theorem oneL_le (l : List Nat) : (oneL l).2 ≤ l.length := by
  unfold oneL; (repeat' split) <;> dsimp only <;> omega
theorem oneL_lt {l : List Nat} (h : ∀ c ∈ l, c < 256) : (oneL l).1 < 65536 := by
  have h0 : l.getD 0 0 < 256 := getD_lt h (by omega)
  unfold oneL; (repeat' split) <;> dsimp only <;> omega
def decS (l : List Nat) : Option (List Nat) :=
  if _h : l = [] then some []
  else if _h0 : (oneL l).2 = 0 ∨ (56320 ≤ (oneL l).1 ∧ (oneL l).1 ≤ 57343) then none
  else if 55296 ≤ (oneL l).1 ∧ (oneL l).1 < 56320 then
    if (oneL (l.drop (oneL l).2)).2 = 0 ∨ (oneL (l.drop (oneL l).2)).1 < 56320 ∨ 57343 < (oneL (l.drop (oneL l).2)).1 then none
    else (decS (l.drop ((oneL l).2 + (oneL (l.drop (oneL l).2)).2))).map (runeL (65536 + ((oneL l).1 - 55296) * 1024 + ((oneL (l.drop (oneL l).2)).1 - 56320)) ++ ·)
  else (decS (l.drop (oneL l).2)).map (runeL (oneL l).1 ++ ·)
termination_by l.length
decreasing_by
  all_goals
    have : 0 < l.length := List.length_pos_iff.2 _h
    simp only [List.length_drop]
    omega
theorem runeL_lt {r : Nat} (h : okR r) : ∀ c ∈ runeL r, c < 256 := by
  unfold okR at h
  unfold runeL
  (repeat' split) <;> intro c hc <;> simp at hc <;> omega
structure DecR (S : St) (l : List Nat) (r : AV) (S' : St) : Prop where
  fr : Fr S S' .nils (4 * l.length)
  out : r = .tup [.str ((decS l).getD []), .int .i64 (if (decS l).isSome = true then 0 else 12)]
structure DecI (S : St) (v : AV) (l : List Nat) (a : AV × AV × List Nat × List Nat) (T : St) : Prop where
  ok : Sok T
  br : Br T a.1 a.2.2.1
  ow : Ow T a.2.1 a.2.2.2
  eq : (decS a.2.2.1).map (a.2.2.2 ++ ·) = decS l
  len : a.2.2.2.length + 4 * a.2.2.1.length ≤ 4 * l.length
  le : S.n ≤ T.n
  n : T.n + 4 * a.2.2.1.length ≤ S.n + 4 * l.length
  fr : ∀ c, c < S.n → T.h.get c = S.h.get c
  b0 : ∀ c, blkOf a.1 = some c → blkOf v = some c
  bk : ∀ c, blkOf a.2.1 = some c → S.n ≤ c
  lt : ∀ c ∈ a.2.2.1, c < 256
  lt2 : ∀ c ∈ a.2.2.2, c < 256
theorem dec_runs {S : St} {v : AV} {l : List Nat} (hok : Sok S) (hv : Br S v l) (hb : ∀ c ∈ l, c < 256) (hl : l.length ≤ 100000000) (hn : S.n + 4 * l.length ≤ 1000000000 - 4) : Runs X1 71 [v] S (DecR S l) := by
  have hvlt : ∀ c, blkOf v = some c → c < S.n := fun c hc => hv.lt hok hc
  refine Runs_fn (m := 68) (by kernel_rfl) Tryd.func71 rfl (by kernel_rfl) (by kernel_rfl) ?_
  repeat (
    first
      | refine W_seq ?_
      | refine WO_nil ?_
      | refine V_seq ?_
      | refine W_region ?_
      | refine W_block ?_
      | refine WO_dst rfl rfl (by kernel_rfl) (by kernel_rfl) ?_
      | refine Ev_assign rfl ?_)
  refine W_inv (fun a : AV × AV × List Nat × List Nat => [(0, a.1), (4, a.2.1)]) (DecI S v l) (fun a => a.2.2.1.length) ?_ (v, .nils, l, []) ?_ ⟨rfl, rfl, trivial⟩
  · rintro ⟨v0, vo, rest, out⟩ T ⟨hokT, hbr, how, heq, hlen, hle, hnT, hfr, hb0, hbk, hlt, hlt2⟩ back
    dsimp only at hbr how heq hlen hnT hb0 hbk hlt hlt2 back
    repeat (
      first
        | refine W_seq ?_
        | refine WO_nil ?_
        | refine V_seq ?_
        | refine W_region ?_
        | refine WO_dst rfl rfl (by kernel_rfl) (by kernel_rfl) ?_
        | refine Ev_len rfl rfl rfl rfl rfl hbr.len ?_
        | refine Ev_move rfl ?_
        | refine Ev_gtrN rfl rfl ?_)
    refine W_cond rfl (fun hc => ?_) (fun hc => ?_) <;> dsimp only at hc
    · obtain ⟨r, k, hrk⟩ : ∃ r k, oneL rest = (r, k) := ⟨_, _, rfl⟩
      have hkl : k ≤ rest.length := by have := oneL_le rest; rw [hrk] at this; exact this
      have hr6 : r < 65536 := by have := oneL_lt hlt; rw [hrk] at this; exact this
      have hne : rest ≠ [] := by intro h; rw [h] at hc; simp at hc
      have hdec := decS.eq_1 rest
      rw [dif_neg hne, hrk] at hdec
      dsimp only at hdec
      repeat (
        first
          | refine W_seq ?_
          | refine V_seq ?_
          | refine W_region ?_
          | refine W_block ?_
          | refine W_skip ?_
          | refine WO_dst rfl rfl (by kernel_rfl) (by kernel_rfl) ?_
          | refine Ev_move rfl ?_)
      refine Ev_call rfl rfl ((one_runs hokT (by omega) hbr hlt (by omega)).mono ?_)
      rintro _ T1 - ⟨hn1, hok1, hf1, rfl⟩
      rw [hrk]
      dsimp only
      have hbr1 : Br T1 v0 rest := hbr.keep fun b h => hf1 b (hbr.lt hokT h)
      have how1 : Ow T1 vo out := how.keep fun b h => hf1 b (how.lt hokT h)
      have hfr1 : ∀ c, c < S.n → T1.h.get c = S.h.get c := fun c h => by rw [hf1 c (by omega)]; exact hfr c h
      repeat' (
        first
          | refine W_seq ?_
          | refine WO_nil ?_
          | refine V_seq ?_
          | refine W_region ?_
          | refine W_skip ?_
          | refine W_ret ?_
          | refine V_ret ?_
          | refine W_cond_t rfl ?_
          | refine W_cond_f rfl ?_
          | refine WO_dst rfl rfl (by kernel_rfl) (by kernel_rfl) ?_
          | refine WO_guard_t rfl rfl rfl rfl rfl (by kernel_rfl) (by kernel_rfl) ?_
          | refine WO_guard_f rfl rfl rfl rfl rfl rfl (by kernel_rfl) (by kernel_rfl) ?_
          | refine WO_guard_x rfl rfl rfl rfl rfl (by kernel_rfl) (by kernel_rfl) ?_
          | refine Ev_move rfl ?_
          | refine Ev_assign rfl ?_
          | refine Ev_extract rfl rfl ?_
          | refine Ev_pick_t rfl rfl rfl ?_
          | refine Ev_pick_f rfl rfl rfl ?_
          | refine Ev_lssN rfl rfl ?_
          | refine Ev_leqN rfl rfl ?_
          | refine Ev_geqN rfl rfl ?_
          | refine Ev_eqlN rfl rfl ?_
          | (refine WO_guard_dt rfl rfl rfl rfl rfl (by kernel_rfl) (by kernel_rfl) (fun hg => ?_) (fun hg => ?_) <;> (try dsimp only at hg) <;> try (exfalso; first | omega | exact hg rfl))
          | (refine WO_guard_df rfl rfl rfl rfl rfl (by kernel_rfl) (by kernel_rfl) (fun hg => ?_) (fun hg => ?_) <;> (try dsimp only at hg) <;> try (exfalso; first | omega | exact hg rfl))
          | (refine W_cond rfl (fun hc => ?_) (fun hc => ?_) <;> (try dsimp only at hc) <;> try (exfalso; first | omega | exact hc rfl)))
      · rw [dif_pos (by omega)] at hdec
        have hnone : decS l = none := by rw [← heq, hdec]; rfl
        refine V_done rfl rfl ?_
        exact ⟨⟨by omega, by omega, hok1, fun c _ h => hfr1 c h⟩, by rw [hnone]; rfl⟩
      · rw [dif_neg (by omega), if_neg (by omega)] at hdec
        have hokR : okR r := by unfold okR; omega
        refine Ev_call rfl rfl ((app_runs (by assumption) (by assumption) (by omega) (by omega) hokR).mono ?_)
        rintro vo2 T3 - ⟨hF3, how3, hbk3⟩
        have hle3 := hF3.le; have hn3 := hF3.n
        repeat (
          first
            | refine WO_nil ?_
            | refine V_seq ?_
            | refine W_region ?_
            | refine WO_dst rfl rfl (by kernel_rfl) (by kernel_rfl) ?_
            | refine Ev_move rfl ?_
            | refine Ev_assign rfl ?_)
        refine Ev_slice_lo rfl rfl rfl rfl rfl (hbr1.keep fun b h => hF3.same b (by intro h2; have := hbk b h2; have := hvlt b (hb0 b h); omega) (hbr1.lt hok1 h)) hkl ?_
        intro v3 hrd3 hb3
        repeat (
          first
            | refine WO_nil ?_
            | refine V_block ?_
            | refine WO_dst rfl rfl (by kernel_rfl) (by kernel_rfl) ?_
            | refine Ev_assign rfl ?_)
        refine back (v3, vo2, rest.drop (k), out ++ runeL (r)) T3 _ (by dsimp only; rw [List.length_drop]; omega) ⟨hF3.ok, ?_, how3, ?_, ?_, by omega, ?_, ?_, ?_, ?_, ?_, ?_⟩ ⟨rfl, rfl, trivial⟩
        · refine hrd3.eq ?_ ?_
          · dsimp only; unfold sbytes; rw [Nat.mul_one, List.map_drop]
          · rw [List.length_drop]
        · dsimp only; rw [← heq, hdec, Option.map_map]; congr 1; funext z; simp
        · dsimp only; rw [List.length_append, List.length_drop]; have := runeL_len (r); omega
        · dsimp only; rw [List.length_drop]; omega
        · intro c h; rw [hF3.same c (by intro h2; have := hbk c h2; omega) (by omega)]; exact hfr1 c h
        · intro c h; exact hb0 c (hb3 c h)
        · intro c h; rcases hbk3 c h with h | h
          · exact hbk c h
          · omega
        · intro c h; exact hlt c (List.mem_of_mem_drop h)
        · intro c h
          rcases List.mem_append.1 h with h | h
          · exact hlt2 c h
          · exact runeL_lt hokR c h
      · rw [dif_neg (by omega), if_pos (by omega)] at hdec
        refine Ev_slice_lo rfl rfl rfl rfl rfl hbr1 hkl ?_
        intro v2 hrd2 hb2
        have hbr2 : Br T1 v2 (rest.drop k) := hrd2.eq (by dsimp only; unfold sbytes; rw [Nat.mul_one, List.map_drop]) (by rw [List.length_drop])
        have hlt3 : ∀ c ∈ rest.drop k, c < 256 := fun c h => hlt c (List.mem_of_mem_drop h)
        obtain ⟨r2, k2, hrk2⟩ : ∃ r2 k2, oneL (rest.drop k) = (r2, k2) := ⟨_, _, rfl⟩
        have hkl2 : k2 ≤ rest.length - k := by have := oneL_le (rest.drop k); rw [hrk2, List.length_drop] at this; exact this
        rw [hrk2] at hdec
        dsimp only at hdec
        repeat (
          refine WO_dst rfl rfl (by kernel_rfl) (by kernel_rfl) ?_)
        refine Ev_call rfl rfl ((one_runs hok1 (by omega) hbr2 hlt3 (by rw [List.length_drop]; omega)).mono ?_)
        rintro _ T3 - ⟨hn3, hok3, hf3, rfl⟩
        rw [hrk2]
        dsimp only
        have hkl3 : k + k2 ≤ rest.length := by omega
        have hbr3 : Br T3 v0 rest := hbr1.keep fun b h => hf3 b (hbr1.lt hok1 h)
        have how3' : Ow T3 vo out := how1.keep fun b h => hf3 b (how1.lt hok1 h)
        have hfr3 : ∀ c, c < S.n → T3.h.get c = S.h.get c := fun c h => by rw [hf3 c (by omega)]; exact hfr1 c h
        repeat' (
          first
            | refine W_seq ?_
            | refine WO_nil ?_
            | refine V_seq ?_
            | refine W_region ?_
            | refine W_skip ?_
            | refine W_ret ?_
            | refine V_ret ?_
            | refine W_cond_t rfl ?_
            | refine WO_dst rfl rfl (by kernel_rfl) (by kernel_rfl) ?_
            | refine WO_guard_t rfl rfl rfl rfl rfl (by kernel_rfl) (by kernel_rfl) ?_
            | refine WO_guard_f rfl rfl rfl rfl rfl rfl (by kernel_rfl) (by kernel_rfl) ?_
            | refine Ev_move rfl ?_
            | refine Ev_assign rfl ?_
            | refine Ev_extract rfl rfl ?_
            | refine Ev_pick_t rfl rfl rfl ?_
            | refine Ev_pick_f rfl rfl rfl ?_
            | refine Ev_lssN rfl rfl ?_
            | refine Ev_gtrN rfl rfl ?_
            | refine Ev_eqlN rfl rfl ?_
            | refine Ev_addN rfl rfl (by simp only [lim]; omega) ?_
            | refine Ev_subN rfl rfl (by simp only [lim]; omega) (by first | omega | (dsimp only; done) | (dsimp only; omega)) ?_
            | refine Ev_shlN (m := 10) (q := 1024) rfl rfl rfl rfl (by simp only [lim]; omega) ?_
            | refine Ev_orN 10 rfl rfl rfl (by first | omega | (dsimp only; done) | (dsimp only; omega)) (by first | omega | (dsimp only; done) | (dsimp only; omega)) (by simp only [lim]; omega) ?_
            | (refine WO_guard_df rfl rfl rfl rfl rfl (by kernel_rfl) (by kernel_rfl) (fun hg => ?_) (fun hg => ?_) <;> (try dsimp only at hg) <;> try (exfalso; first | omega | exact hg rfl))
            | (refine W_cond rfl (fun hc => ?_) (fun hc => ?_) <;> (try dsimp only at hc) <;> try (exfalso; first | omega | exact hc rfl)))
        · rw [if_pos (by omega)] at hdec
          have hnone : decS l = none := by rw [← heq, hdec]; rfl
          refine V_done rfl rfl ?_
          exact ⟨⟨by omega, by omega, hok3, fun c _ h => hfr3 c h⟩, by rw [hnone]; rfl⟩
        · rw [if_neg (by omega)] at hdec
          have hokR : okR (65536 + (r - 55296) * 1024 + (r2 - 56320)) := by unfold okR; omega
          refine Ev_call rfl rfl ((app_runs (by assumption) (by assumption) (by omega) (by omega) hokR).mono ?_)
          rintro vo2 T3 - ⟨hF3, how3, hbk3⟩
          have hle3 := hF3.le; have hn3 := hF3.n
          repeat (
            first
              | refine WO_nil ?_
              | refine V_seq ?_
              | refine W_region ?_
              | refine WO_dst rfl rfl (by kernel_rfl) (by kernel_rfl) ?_
              | refine Ev_move rfl ?_
              | refine Ev_assign rfl ?_)
          refine Ev_slice_lo rfl rfl rfl rfl rfl (hbr3.keep fun b h => hF3.same b (by intro h2; have := hbk b h2; have := hvlt b (hb0 b h); omega) (hbr3.lt hok3 h)) hkl3 ?_
          intro v3 hrd3 hb3
          repeat (
            first
              | refine WO_nil ?_
              | refine V_block ?_
              | refine WO_dst rfl rfl (by kernel_rfl) (by kernel_rfl) ?_
              | refine Ev_assign rfl ?_)
          refine back (v3, vo2, rest.drop (k + k2), out ++ runeL (65536 + (r - 55296) * 1024 + (r2 - 56320))) T3 _ (by dsimp only; rw [List.length_drop]; omega) ⟨hF3.ok, ?_, how3, ?_, ?_, by omega, ?_, ?_, ?_, ?_, ?_, ?_⟩ ⟨rfl, rfl, trivial⟩
          · refine hrd3.eq ?_ ?_
            · dsimp only; unfold sbytes; rw [Nat.mul_one, List.map_drop]
            · rw [List.length_drop]
          · dsimp only; rw [← heq, hdec, Option.map_map]; congr 1; funext z; simp
          · dsimp only; rw [List.length_append, List.length_drop]; have := runeL_len (65536 + (r - 55296) * 1024 + (r2 - 56320)); omega
          · dsimp only; rw [List.length_drop]; omega
          · intro c h; rw [hF3.same c (by intro h2; have := hbk c h2; omega) (by omega)]; exact hfr3 c h
          · intro c h; exact hb0 c (hb3 c h)
          · intro c h; rcases hbk3 c h with h | h
            · exact hbk c h
            · omega
          · intro c h; exact hlt c (List.mem_of_mem_drop h)
          · intro c h
            rcases List.mem_append.1 h with h | h
            · exact hlt2 c h
            · exact runeL_lt hokR c h
        · rw [if_pos (by omega)] at hdec
          have hnone : decS l = none := by rw [← heq, hdec]; rfl
          refine V_done rfl rfl ?_
          exact ⟨⟨by omega, by omega, hok3, fun c _ h => hfr3 c h⟩, by rw [hnone]; rfl⟩
        · rw [if_pos (by omega)] at hdec
          have hnone : decS l = none := by rw [← heq, hdec]; rfl
          refine V_done rfl rfl ?_
          exact ⟨⟨by omega, by omega, hok3, fun c _ h => hfr3 c h⟩, by rw [hnone]; rfl⟩
      · rw [dif_neg (by omega), if_neg (by omega)] at hdec
        have hokR : okR r := by unfold okR; omega
        refine Ev_call rfl rfl ((app_runs (by assumption) (by assumption) (by omega) (by omega) hokR).mono ?_)
        rintro vo2 T3 - ⟨hF3, how3, hbk3⟩
        have hle3 := hF3.le; have hn3 := hF3.n
        repeat (
          first
            | refine WO_nil ?_
            | refine V_seq ?_
            | refine W_region ?_
            | refine WO_dst rfl rfl (by kernel_rfl) (by kernel_rfl) ?_
            | refine Ev_move rfl ?_
            | refine Ev_assign rfl ?_)
        refine Ev_slice_lo rfl rfl rfl rfl rfl (hbr1.keep fun b h => hF3.same b (by intro h2; have := hbk b h2; have := hvlt b (hb0 b h); omega) (hbr1.lt hok1 h)) hkl ?_
        intro v3 hrd3 hb3
        repeat (
          first
            | refine WO_nil ?_
            | refine V_block ?_
            | refine WO_dst rfl rfl (by kernel_rfl) (by kernel_rfl) ?_
            | refine Ev_assign rfl ?_)
        refine back (v3, vo2, rest.drop (k), out ++ runeL (r)) T3 _ (by dsimp only; rw [List.length_drop]; omega) ⟨hF3.ok, ?_, how3, ?_, ?_, by omega, ?_, ?_, ?_, ?_, ?_, ?_⟩ ⟨rfl, rfl, trivial⟩
        · refine hrd3.eq ?_ ?_
          · dsimp only; unfold sbytes; rw [Nat.mul_one, List.map_drop]
          · rw [List.length_drop]
        · dsimp only; rw [← heq, hdec, Option.map_map]; congr 1; funext z; simp
        · dsimp only; rw [List.length_append, List.length_drop]; have := runeL_len (r); omega
        · dsimp only; rw [List.length_drop]; omega
        · intro c h; rw [hF3.same c (by intro h2; have := hbk c h2; omega) (by omega)]; exact hfr1 c h
        · intro c h; exact hb0 c (hb3 c h)
        · intro c h; rcases hbk3 c h with h | h
          · exact hbk c h
          · omega
        · intro c h; exact hlt c (List.mem_of_mem_drop h)
        · intro c h
          rcases List.mem_append.1 h with h | h
          · exact hlt2 c h
          · exact runeL_lt hokR c h
      · rw [dif_pos (by omega)] at hdec
        have hnone : decS l = none := by rw [← heq, hdec]; rfl
        refine V_done rfl rfl ?_
        exact ⟨⟨by omega, by omega, hok1, fun c _ h => hfr1 c h⟩, by rw [hnone]; rfl⟩
    · repeat (
        first
          | refine W_seq ?_
          | refine V_seq ?_
          | refine W_region ?_
          | refine W_exit ?_
          | refine V_block_x rfl ?_
          | refine V_seq_x ?_
          | refine V_loop_x ?_
          | refine WO_dst rfl rfl (by kernel_rfl) (by kernel_rfl) ?_
          | refine Ev_move rfl ?_)
      refine Ev_conv_to_str rfl rfl rfl rfl rfl rfl rfl how.rd (bytesOf_sbytes hlt2) ?_
      repeat (
        first
          | refine WO_nil ?_
          | refine V_seq ?_
          | refine W_ret ?_
          | refine WO_dst rfl rfl (by kernel_rfl) (by kernel_rfl) ?_
          | refine Ev_assign rfl ?_)
      refine V_done rfl rfl ?_
      have hnil : rest = [] := List.eq_nil_of_length_eq_zero (by omega)
      have hd : decS l = some out := by rw [← heq, hnil, decS]; simp
      exact ⟨⟨by omega, by omega, hokT, fun c _ h => hfr c h⟩, by rw [hd]; rfl⟩
  · refine ⟨hok, hv, .inl ⟨rfl, rfl, rfl⟩, ?_, by simp, Nat.le_refl _, by dsimp only; omega, fun _ _ => rfl, fun c h => h, fun c h => (by cases h), hb, by simp⟩
    dsimp only; cases decS l <;> simp
end Go.Proofs.YthhbnnnokmefoaaDoor
