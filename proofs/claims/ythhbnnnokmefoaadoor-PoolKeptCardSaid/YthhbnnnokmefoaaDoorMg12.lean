/- What the row leans on, part 12: texts one behind the other. No condition. -/
import Derived.Test.YthhbnnnokmefoaaDoorMg10
import Derived.ChangeArms
import Derived.DataReads
import Derived.Deep.Slices
import Derived.Test.YthhbnnnokmefoaaDoorMg11
import Derived.KernelRfl
import Derived.Test.YthhbnnnokmefoaaDoorMg6
/- GX: arguments of any type that is made of numbers, strings, slices, structs and pointers: they are only read. -/




namespace GX
open Go Go.Deep
/-- a type whose values may come in -/
def okT (P : Program) : Nat → TypeId → Bool
  | 0, _ => false
  | g + 1, t => match P.underlying t with
    | some .bool => true
    | some (.int _) => true
    | some .string => true
    | some (.slice e) => decide (0 < P.cellsOf e) && okT P g e
    | some (.pointer e) => decide (0 < P.cellsOf e) && okT P g e
    | some (.struct fs) => tile fs.toList 0 (P.cellsOf t) && fs.toList.all fun f => okT P g f.type
    | _ => false
where
  /-- the fields lie one behind the other -/
  tile : List Field → Nat → Nat → Bool
  | [], o, n => decide (o = n)
  | f :: fs, o, n => decide (f.offset = o) && tile fs (o + P.cellsOf f.type) n
/-- cells of a type that came in, of at most so many parts and letters -/
def Rdt (P : Program) (N : Nat) : Nat → TypeId → List AV → Prop
  | 0, _, _ => False
  | g + 1, t, cs => match P.underlying t with
    | some .bool => ∃ b, cs = [.bool b]
    | some (.int k) => ∃ n, cs = [.int k n] ∧ (Lit.int k n).wf = true
    | some .string => ∃ s : List Nat, cs = [.str s] ∧ (∀ b ∈ s, b < 256) ∧ s.length ≤ N
    | some (.slice e) => ∃ v rows, cs = [v] ∧ (∀ S, Rd S v (P.cellsOf e) (List.flatten rows) rows.length) ∧ rows.length ≤ N ∧ ∀ r ∈ rows, r.length = P.cellsOf e ∧ Rdt P N g e r
    | some (.pointer e) => cs = [.nilp] ∨ ∃ cs', cs = [.rptr cs' 0] ∧ cs'.length = P.cellsOf e ∧ Rdt P N g e cs'
    | some (.struct fs) => cs.length = P.cellsOf t ∧ ∀ f ∈ fs.toList, Rdt P N g f.type ((cs.drop f.offset).take (P.cellsOf f.type))
    | _ => False
structure BulkOK {H : Type} (bulk : DataW H → Nat) : Prop where
  str : ∀ l, l.length ≤ bulk (.lit (.string l))
  ptr : ∀ d, bulk d ≤ bulk (.ptr d)
  len : ∀ l r, l.length ≤ bulk (.slice l r)
  sl : ∀ l r, ∀ d ∈ l, bulk d ≤ bulk (.slice l r)
  agg : ∀ l, ∀ d ∈ l, bulk d ≤ bulk (.agg l)
theorem veqs_append : ∀ {a b : List AV}, veqs a a = true → veqs b b = true → veqs (a ++ b) (a ++ b) = true
  | [], b, _, h => h
  | x :: a, b, h1, h2 => by
    simp only [veqs, Bool.and_eq_true, List.cons_append] at h1 ⊢
    exact ⟨h1.1, veqs_append h1.2 h2⟩
/-- cells that lie somewhere -/
theorem cells_in {w : World} {a : Addr} {vs : List Value} (h0 : vs ≠ []) (hcell : ∀ i v, vs[i]? = some v → w.cell? (a.add i) = some v) :
    a.spot = none ∧ ∃ c t fz, w.heap[a.block]? = some (.cells c t fz) ∧ a.off + vs.length ≤ c.size ∧ (c.toList.drop a.off).take vs.length = vs := by
  have hpos : 0 < vs.length := List.length_pos_iff.2 h0
  have hsp : a.spot = none ∧ ∃ c t fz, w.heap[a.block]? = some (.cells c t fz) := by
    have h := hcell 0 vs[0] (List.getElem?_eq_getElem hpos)
    unfold Addr.add World.cell? at h
    simp only [if_true] at h
    split at h
    · rename_i c t fz hh
      split at h
      · cases h
      · rename_i hs
        exact ⟨by simpa using hs, c, t, fz, hh⟩
    · cases h
  obtain ⟨hs, c, t, fz, hh⟩ := hsp
  have hget : ∀ i v, vs[i]? = some v → c[a.off + i]? = some v := by
    intro i v hi
    have h := hcell i v hi
    unfold World.cell? at h
    by_cases hi0 : i = 0
    · subst hi0
      simp only [Addr.add, if_true, hh, hs] at h
      simpa using h
    · simp only [Addr.add, if_neg hi0, hh] at h
      simpa using h
  have hfit : a.off + vs.length ≤ c.size := by
    have := (Array.getElem?_eq_some_iff.1 (hget (vs.length - 1) _ (List.getElem?_eq_getElem (by omega)))).1
    omega
  refine ⟨hs, c, t, fz, hh, hfit, ?_⟩
  apply List.ext_getElem?
  intro i
  rw [List.getElem?_take]
  split
  · rename_i hi
    rw [List.getElem?_eq_getElem hi, List.getElem?_drop]
    simpa using hget i _ (List.getElem?_eq_getElem hi)
  · rw [List.getElem?_eq_none (by omega)]
theorem arg_cellsN [Val] {φ : Phi} {w : World} (hro : ∀ g o, w.heap[g]? = some o → Val.ro g = some o) {a : Addr} {len cap sz : Nat} {cs : List AV} {vs : List Value} (hz : 0 < sz) (hl : len ≤ cap) (hv : vs.length = len * sz) (hcell : ∀ i v, vs[i]? = some v → w.cell? (a.add i) = some v) (hrel : vrels φ cs vs) (hself : veqs cs cs = true) :
    ∃ av, vrel φ av (.slice (some a) len cap) ∧ ∀ S, Rd S av sz cs len := by
  have hcl : cs.length = len * sz := by rw [vrels_length hrel, hv]
  by_cases h0 : vs = []
  · subst h0
    have hl0 : len = 0 := by
      rcases Nat.eq_zero_or_pos len with h | h
      · exact h
      · have := Nat.mul_pos h hz
        simp at hv; omega
    subst hl0
    cases List.eq_nil_of_length_eq_zero (by rw [hcl, Nat.zero_mul] : cs.length = 0)
    exact ⟨.emp, ⟨a, cap, rfl⟩, fun S => ⟨rfl, rfl, rfl, rfl, rfl, by simp⟩⟩
  · obtain ⟨hs, c, t, fz, hh, hfit, hlist⟩ := cells_in h0 hcell
    refine ⟨.rsl cs len sz, ?_, fun S => ⟨by simp [capW, hcl], by simp [veq, hself], rfl, rfl, ?_, hcl⟩⟩
    · simp only [vrel]
      refine ⟨a.block, a.off, cap, c, t, fz, ?_, hl, hcl, hro _ _ hh, by omega, by rw [hcl, ← hv, hlist]; exact hrel⟩
      rw [← hs]
    · unfold srcCells; dsimp only
      rw [nble, decide_eq_true (by omega)]
      simp only [nbeq, decide_true, Bool.true_and, cond_true]
      rw [List.take_of_length_le (by omega)]
theorem bytes_lt' (s : ByteArray) : ∀ b ∈ bytes s, b < 256 := by
  intro b hb
  unfold bytes at hb
  obtain ⟨c, _, rfl⟩ := List.mem_map.1 hb
  exact c.toNat_lt
section
variable {H : Type} {enc : TypeId × Value → H} {P : Program} {w : World} {base : Nat} {sp : Nat → Bool} {held : Bool} {bulk : DataW H → Nat} {N : Nat}
/-- the fields of a struct, one behind the other -/
theorem fields_rel [Val] {φ : Phi} {cs : List Value} {R : Field → List AV → Prop} : ∀ (fs : List Field) (o n : Nat), okT.tile P fs o n = true → o ≤ n → n ≤ cs.length →
    (∀ f ∈ fs, ∃ avs, vrels φ avs ((cs.drop f.offset).take (P.cellsOf f.type)) ∧ veqs avs avs = true ∧ R f avs) →
    ∃ avs, vrels φ avs ((cs.drop o).take (n - o)) ∧ veqs avs avs = true ∧ ∀ f ∈ fs, o ≤ f.offset ∧ R f ((avs.drop (f.offset - o)).take (P.cellsOf f.type))
  | [], o, n, ht, _, _, _ => by
    have : o = n := of_decide_eq_true ht
    subst this
    exact ⟨[], by rw [Nat.sub_self, List.take_zero]; exact vrels_nil, rfl, by simp⟩
  | f :: fs, o, n, ht, ho, hn, h => by
    unfold okT.tile at ht
    simp only [Bool.and_eq_true, decide_eq_true_eq] at ht
    obtain ⟨hfo, ht⟩ := ht
    have hle : o + P.cellsOf f.type ≤ n := by
      have key : ∀ (l : List Field) (a : Nat), okT.tile P l a n = true → a ≤ n := by
        intro l
        induction l with
        | nil => intro a h; exact Nat.le_of_eq (of_decide_eq_true h)
        | cons x l ih =>
          intro a h
          unfold okT.tile at h
          simp only [Bool.and_eq_true, decide_eq_true_eq] at h
          have := ih _ h.2; omega
      exact key _ _ ht
    obtain ⟨a1, r1, v1, p1⟩ := h f (List.mem_cons_self ..)
    obtain ⟨a2, r2, v2, p2⟩ := fields_rel fs (o + P.cellsOf f.type) n ht hle hn (fun g hg => h g (List.mem_cons_of_mem _ hg))
    have hl1 : a1.length = P.cellsOf f.type := by rw [vrels_length r1, List.length_take, List.length_drop]; omega
    refine ⟨a1 ++ a2, ?_, veqs_append v1 v2, fun g hg => ?_⟩
    · have e : (cs.drop o).take (n - o) = (cs.drop f.offset).take (P.cellsOf f.type) ++ (cs.drop (o + P.cellsOf f.type)).take (n - (o + P.cellsOf f.type)) := by
        rw [hfo, show n - o = P.cellsOf f.type + (n - (o + P.cellsOf f.type)) by omega, List.take_add, List.drop_drop]
      rw [e]; exact vrels_append r1 r2
    · rcases List.mem_cons.1 hg with rfl | hg
      · rw [hfo, Nat.sub_self, List.drop_zero, List.take_append_of_le_length (by omega), List.take_of_length_le (by omega)]
        exact ⟨Nat.le_refl _, p1⟩
      · obtain ⟨q1, q2⟩ := p2 g hg
        refine ⟨by omega, ?_⟩
        rw [show g.offset - o = a1.length + (g.offset - (o + P.cellsOf f.type)) by omega, ← List.drop_drop, List.drop_append_of_le_length (Nat.le_refl _), List.drop_length, List.nil_append]
        exact q2
/-- what came in, as cells that are only read -/
theorem trod_rel [Val] {φ : Phi} (hro : ∀ g o, w.heap[g]? = some o → Val.ro g = some o) (hB : BulkOK bulk) : ∀ (g : Nat) (t : TypeId) (f : Nat) (cs : List Value) (x : DataW H × List MemPlace), okT P g t = true → DataW.trod enc P w base sp held f t cs = some x → bulk x.1 ≤ N →
    ∃ avs, vrels φ avs cs ∧ veqs avs avs = true ∧ Rdt P N g t avs
  | 0, _, _, _, _, hk, _, _ => by cases hk
  | g + 1, t, f, cs, x, hk, h, hb => by
    unfold okT at hk
    unfold Rdt
    split at hk
    · rename_i hu
      obtain ⟨b, rfl, rfl⟩ := DataW.trod_bool hu h
      exact ⟨[.bool b], vrels_cons rfl vrels_nil, by cases b <;> rfl, b, rfl⟩
    · rename_i k hu
      obtain ⟨n, rfl, rfl, hw⟩ := DataW.trod_int hu h
      exact ⟨[.int k n], vrels_cons rfl vrels_nil, by simp [veqs, veq_int], n, rfl, hw⟩
    · rename_i hu
      obtain ⟨s, rfl, rfl, hs⟩ := DataW.trod_string hu h
      refine ⟨[.str (bytes s)], vrels_cons ⟨s, rfl, rfl⟩ vrels_nil, by simp [veqs, veq_str], bytes s, rfl, bytes_lt' s, ?_⟩
      have h1 := hB.str s.data.toList
      have h2 : (bytes s).length = s.data.toList.length := by unfold bytes; simp
      dsimp only at hb
      omega
    · rename_i e hu
      simp only [Bool.and_eq_true, decide_eq_true_eq] at hk
      obtain ⟨hz, hk⟩ := hk
      rcases DataW.trod_slice hu h with ⟨rfl, rfl⟩ | ⟨a, len, cap, elems, rest, n, _, rfl, rfl, hbs, hl, hm, hlen, hel, hsp, hns⟩
      · exact ⟨[.nils], vrels_cons rfl vrels_nil, rfl, .nils, [], rfl, fun S => ⟨rfl, rfl, rfl, rfl, rfl, by simp⟩, Nat.zero_le _, by simp⟩
      · dsimp only at hb
        have hlN : len ≤ N := by
          have := hB.len (elems.map (·.1)) (rest.map (·.1))
          rw [List.length_map, hlen] at this
          omega
        have each : ∀ i, i < len → ∃ q : List Value × List AV, w.cells? base (a.add (i * P.cellsOf e)) (P.cellsOf e) = some q.1 ∧ vrels φ q.2 q.1 ∧ veqs q.2 q.2 = true ∧ Rdt P N g e q.2 := by
          intro i hi
          have h1 := hel i hi
          rw [List.getElem?_eq_getElem (by omega)] at h1
          obtain ⟨cs', h2, h3⟩ := Option.bind_eq_some_iff.1 h1
          obtain ⟨avs, h4, h5, h6⟩ := trod_rel hro hB g e n cs' _ hk h3 (Nat.le_trans (hB.sl _ _ _ (List.mem_map_of_mem (List.getElem_mem _))) hb)
          exact ⟨(cs', avs), h2, h4, h5, h6⟩
        obtain ⟨q, hq⟩ := choose_lt each
        have hql : ∀ i, i < len → (q i).1.length = P.cellsOf e := fun i hi => (World.cells?_some (hq i hi).1).2.1
        -- all cells, one behind the other
        have all : ∀ m, m ≤ len → ∃ vs : List Value, vs.length = m * P.cellsOf e ∧ (∀ i v, vs[i]? = some v → w.cell? (a.add i) = some v) ∧ vrels φ (List.flatten ((List.range m).map fun i => (q i).2)) vs ∧ veqs (List.flatten ((List.range m).map fun i => (q i).2)) (List.flatten ((List.range m).map fun i => (q i).2)) = true := by
          intro m
          induction m with
          | zero => intro _; exact ⟨[], by simp, by simp, vrels_nil, rfl⟩
          | succ m ih =>
            intro hm2
            obtain ⟨vs, g1, g2, g3, g4⟩ := ih (by omega)
            obtain ⟨c1, c2, c3, c4⟩ := hq m (by omega)
            obtain ⟨d1, d2, d3⟩ := World.cells?_some c1
            refine ⟨vs ++ (q m).1, by rw [List.length_append, g1, d2, Nat.add_mul, Nat.one_mul], fun i v hv => ?_, ?_, ?_⟩
            · by_cases hi : i < vs.length
              · rw [List.getElem?_append_left hi] at hv; exact g2 i v hv
              · rw [List.getElem?_append_right (by omega)] at hv
                have hi2 : i - vs.length < P.cellsOf e := by
                  have := (List.getElem?_eq_some_iff.1 hv).1; omega
                have h7 := d3 _ hi2
                rw [add_add, ← g1, hv, show vs.length + (i - vs.length) = i by omega] at h7
                exact h7
            · rw [List.range_succ, List.map_append, List.flatten_append]
              exact vrels_append g3 (by simpa using c2)
            · rw [List.range_succ, List.map_append, List.flatten_append]
              exact veqs_append g4 (by simpa using c3)
        obtain ⟨vs, g1, g2, g3, g4⟩ := all len (Nat.le_refl _)
        obtain ⟨av, k1, k2⟩ := arg_cellsN (φ := φ) hro hz hl g1 g2 g3 g4
        refine ⟨[av], vrels_cons k1 vrels_nil, ?_, av, (List.range len).map fun i => (q i).2, rfl, fun S => by simpa using k2 S, by simpa using hlN, ?_⟩
        · have := (k2 { h := .leaf, n := 0 }).self
          simp [veqs, this]
        · intro r hr
          obtain ⟨i, hi, rfl⟩ := List.mem_map.1 hr
          have hi := List.mem_range.1 hi
          exact ⟨by rw [vrels_length (hq i hi).2.1]; exact hql i hi, (hq i hi).2.2.2⟩
    · rename_i e hu
      simp only [Bool.and_eq_true, decide_eq_true_eq] at hk
      obtain ⟨hz, hk⟩ := hk
      rcases DataW.trod_pointer hu h with ⟨rfl, rfl⟩ | ⟨a, cs', y, n, _, rfl, rfl, hc, hy⟩
      · exact ⟨[.nilp], vrels_cons rfl vrels_nil, rfl, .inl rfl⟩
      · dsimp only at hb
        obtain ⟨avs, h4, h5, h6⟩ := trod_rel hro hB g e n cs' _ hk hy (Nat.le_trans (hB.ptr _) hb)
        obtain ⟨_, d2, d3⟩ := World.cells?_some hc
        have hne : cs' ≠ [] := by intro h; rw [h] at d2; simp at d2; omega
        obtain ⟨hs, c, tt, fz, hh, hfit, hlist⟩ := cells_in (a := a) hne (fun i v hv => by
          have := (List.getElem?_eq_some_iff.1 hv).1
          rw [d3 i (by omega), hv])
        have hl := vrels_length h4
        refine ⟨[.rptr avs 0], vrels_cons ?_ vrels_nil, by simp [veqs, veq, h5], .inr ⟨avs, rfl, by omega, h6⟩⟩
        simp only [vrel]
        refine ⟨a.block, a.off, c, tt, fz, ?_, hro _ _ hh, by omega, by rw [hl, hlist]; exact h4⟩
        rw [Nat.add_zero, ← hs]
    · rename_i fs hu
      simp only [Bool.and_eq_true, List.all_eq_true] at hk
      obtain ⟨ht, hk⟩ := hk
      obtain ⟨xs, n, _, rfl, hlen, hxs, hf⟩ := DataW.trod_struct hu h
      dsimp only at hb
      obtain ⟨avs, h4, h5, h6⟩ := fields_rel (φ := φ) (cs := cs) (R := fun f avs => Rdt P N g f.type avs) fs.toList 0 (P.cellsOf t) ht (Nat.zero_le _) (by omega) (by
        intro fd hfd
        obtain ⟨i, hi, rfl⟩ := List.getElem_of_mem hfd
        have hi' : i < fs.size := by simpa using hi
        have h1 := hf i fs[i] (by simp [hi'])
        rw [List.getElem?_eq_getElem (by omega)] at h1
        simp only [Array.getElem_toList]
        exact trod_rel hro hB g _ n _ _ (hk _ (by simp)) h1 (Nat.le_trans (hB.agg _ _ (List.mem_map_of_mem (List.getElem_mem _))) hb))
      rw [List.drop_zero, Nat.sub_zero, List.take_of_length_le (by omega)] at h4
      exact ⟨avs, h4, h5, by rw [vrels_length h4]; exact hlen, fun f hf => (h6 f hf).2⟩
    · cases hk
end
end GX
/- GX: arguments of any type made of numbers, strings, slices, structs, pointers, whatever their size. -/

namespace GX
open Go Go.Deep
section
variable {H : Type} {enc : TypeId × Value → H} {P : Program} {w : World} {base : Nat} {sp : Nat → Bool} {held : Bool}
/-- what came in, as cells that are only read -/
theorem trodF_rel [Val] {φ : Phi} (hro : ∀ g o, w.heap[g]? = some o → Val.ro g = some o) : ∀ (g : Nat) (t : TypeId) (f : Nat) (cs : List Value) (x : DataW H × List MemPlace), okT P g t = true → DataW.trod enc P w base sp held f t cs = some x →
    ∃ avs, vrels φ avs cs ∧ veqs avs avs = true ∧ Rdt P maxLen g t avs
  | 0, _, _, _, _, hk, _ => by cases hk
  | g + 1, t, f, cs, x, hk, h => by
    unfold okT at hk
    unfold Rdt
    split at hk
    · rename_i hu
      obtain ⟨b, rfl, rfl⟩ := DataW.trod_bool hu h
      exact ⟨[.bool b], vrels_cons rfl vrels_nil, by cases b <;> rfl, b, rfl⟩
    · rename_i k hu
      obtain ⟨n, rfl, rfl, hw⟩ := DataW.trod_int hu h
      exact ⟨[.int k n], vrels_cons rfl vrels_nil, by simp [veqs, veq_int], n, rfl, hw⟩
    · rename_i hu
      obtain ⟨s, rfl, rfl, hs⟩ := DataW.trod_string hu h
      refine ⟨[.str (bytes s)], vrels_cons ⟨s, rfl, rfl⟩ vrels_nil, by simp [veqs, veq_str], bytes s, rfl, bytes_lt' s, ?_⟩
      have h2 : (bytes s).length = s.size := by unfold bytes; simp
      omega
    · rename_i e hu
      simp only [Bool.and_eq_true, decide_eq_true_eq] at hk
      obtain ⟨hz, hk⟩ := hk
      rcases DataW.trod_slice hu h with ⟨rfl, rfl⟩ | ⟨a, len, cap, elems, rest, n, _, rfl, rfl, hbs, hl, hm, hlen, hel, hsp, hns⟩
      · exact ⟨[.nils], vrels_cons rfl vrels_nil, rfl, .nils, [], rfl, fun S => ⟨rfl, rfl, rfl, rfl, rfl, by simp⟩, Nat.zero_le _, by simp⟩
      · have hlN : len ≤ maxLen := Nat.le_trans hl hm
        have each : ∀ i, i < len → ∃ q : List Value × List AV, w.cells? base (a.add (i * P.cellsOf e)) (P.cellsOf e) = some q.1 ∧ vrels φ q.2 q.1 ∧ veqs q.2 q.2 = true ∧ Rdt P maxLen g e q.2 := by
          intro i hi
          have h1 := hel i hi
          rw [List.getElem?_eq_getElem (by omega)] at h1
          obtain ⟨cs', h2, h3⟩ := Option.bind_eq_some_iff.1 h1
          obtain ⟨avs, h4, h5, h6⟩ := trodF_rel hro g e n cs' _ hk h3
          exact ⟨(cs', avs), h2, h4, h5, h6⟩
        obtain ⟨q, hq⟩ := choose_lt each
        have hql : ∀ i, i < len → (q i).1.length = P.cellsOf e := fun i hi => (World.cells?_some (hq i hi).1).2.1
        -- all cells, one behind the other
        have all : ∀ m, m ≤ len → ∃ vs : List Value, vs.length = m * P.cellsOf e ∧ (∀ i v, vs[i]? = some v → w.cell? (a.add i) = some v) ∧ vrels φ (List.flatten ((List.range m).map fun i => (q i).2)) vs ∧ veqs (List.flatten ((List.range m).map fun i => (q i).2)) (List.flatten ((List.range m).map fun i => (q i).2)) = true := by
          intro m
          induction m with
          | zero => intro _; exact ⟨[], by simp, by simp, vrels_nil, rfl⟩
          | succ m ih =>
            intro hm2
            obtain ⟨vs, g1, g2, g3, g4⟩ := ih (by omega)
            obtain ⟨c1, c2, c3, c4⟩ := hq m (by omega)
            obtain ⟨d1, d2, d3⟩ := World.cells?_some c1
            refine ⟨vs ++ (q m).1, by rw [List.length_append, g1, d2, Nat.add_mul, Nat.one_mul], fun i v hv => ?_, ?_, ?_⟩
            · by_cases hi : i < vs.length
              · rw [List.getElem?_append_left hi] at hv; exact g2 i v hv
              · rw [List.getElem?_append_right (by omega)] at hv
                have hi2 : i - vs.length < P.cellsOf e := by
                  have := (List.getElem?_eq_some_iff.1 hv).1; omega
                have h7 := d3 _ hi2
                rw [add_add, ← g1, hv, show vs.length + (i - vs.length) = i by omega] at h7
                exact h7
            · rw [List.range_succ, List.map_append, List.flatten_append]
              exact vrels_append g3 (by simpa using c2)
            · rw [List.range_succ, List.map_append, List.flatten_append]
              exact veqs_append g4 (by simpa using c3)
        obtain ⟨vs, g1, g2, g3, g4⟩ := all len (Nat.le_refl _)
        obtain ⟨av, k1, k2⟩ := arg_cellsN (φ := φ) hro hz hl g1 g2 g3 g4
        refine ⟨[av], vrels_cons k1 vrels_nil, ?_, av, (List.range len).map fun i => (q i).2, rfl, fun S => by simpa using k2 S, by simpa using hlN, ?_⟩
        · have := (k2 { h := .leaf, n := 0 }).self
          simp [veqs, this]
        · intro r hr
          obtain ⟨i, hi, rfl⟩ := List.mem_map.1 hr
          have hi := List.mem_range.1 hi
          exact ⟨by rw [vrels_length (hq i hi).2.1]; exact hql i hi, (hq i hi).2.2.2⟩
    · rename_i e hu
      simp only [Bool.and_eq_true, decide_eq_true_eq] at hk
      obtain ⟨hz, hk⟩ := hk
      rcases DataW.trod_pointer hu h with ⟨rfl, rfl⟩ | ⟨a, cs', y, n, _, rfl, rfl, hc, hy⟩
      · exact ⟨[.nilp], vrels_cons rfl vrels_nil, rfl, .inl rfl⟩
      · obtain ⟨avs, h4, h5, h6⟩ := trodF_rel hro g e n cs' _ hk hy
        obtain ⟨_, d2, d3⟩ := World.cells?_some hc
        have hne : cs' ≠ [] := by intro h; rw [h] at d2; simp at d2; omega
        obtain ⟨hs, c, tt, fz, hh, hfit, hlist⟩ := cells_in (a := a) hne (fun i v hv => by
          have := (List.getElem?_eq_some_iff.1 hv).1
          rw [d3 i (by omega), hv])
        have hl := vrels_length h4
        refine ⟨[.rptr avs 0], vrels_cons ?_ vrels_nil, by simp [veqs, veq, h5], .inr ⟨avs, rfl, by omega, h6⟩⟩
        simp only [vrel]
        refine ⟨a.block, a.off, c, tt, fz, ?_, hro _ _ hh, by omega, by rw [hl, hlist]; exact h4⟩
        rw [Nat.add_zero, ← hs]
    · rename_i fs hu
      simp only [Bool.and_eq_true, List.all_eq_true] at hk
      obtain ⟨ht, hk⟩ := hk
      obtain ⟨xs, n, _, rfl, hlen, hxs, hf⟩ := DataW.trod_struct hu h
      obtain ⟨avs, h4, h5, h6⟩ := fields_rel (φ := φ) (cs := cs) (R := fun f avs => Rdt P maxLen g f.type avs) fs.toList 0 (P.cellsOf t) ht (Nat.zero_le _) (by omega) (by
        intro fd hfd
        obtain ⟨i, hi, rfl⟩ := List.getElem_of_mem hfd
        have hi' : i < fs.size := by simpa using hi
        have h1 := hf i fs[i] (by simp [hi'])
        rw [List.getElem?_eq_getElem (by omega)] at h1
        simp only [Array.getElem_toList]
        exact trodF_rel hro g _ n _ _ (hk _ (by simp)) h1)
      rw [List.drop_zero, Nat.sub_zero, List.take_of_length_le (by omega)] at h4
      exact ⟨avs, h4, h5, by rw [vrels_length h4]; exact hlen, fun f hf => (h6 f hf).2⟩
    · cases hk
end
end GX
/- Chapter 3: constants that come in. -/




namespace Go.Proofs.YthhbnnnokmefoaaDoor
open GX Go
set_option maxRecDepth 100000
theorem u3 : Tryd.prog.underlying 3 = some (.int .i64) := by kernel_rfl
theorem u21 : Tryd.prog.underlying 21 = some (.int .i32) := by kernel_rfl
theorem u9 : Tryd.prog.underlying 9 = some .string := by kernel_rfl
theorem u22 : Tryd.prog.underlying 22 = some (.slice 24) := by kernel_rfl
theorem u24 : Tryd.prog.underlying 24 = some (.struct #[⟨"Kind", 3, 0, false, "", "", 0⟩, ⟨"N", 21, 1, false, "", "", 8⟩, ⟨"Class", 9, 2, false, "", "", 16⟩, ⟨"Name", 9, 3, false, "", "", 32⟩, ⟨"Desc", 9, 4, false, "", "", 48⟩]) := by kernel_rfl
theorem c3 : Tryd.prog.cellsOf 3 = 1 := by kernel_rfl
theorem c21 : Tryd.prog.cellsOf 21 = 1 := by kernel_rfl
theorem c9 : Tryd.prog.cellsOf 9 = 1 := by kernel_rfl
theorem c24 : Tryd.prog.cellsOf 24 = 5 := by kernel_rfl
theorem rdt_int {N g t : Nat} {k : IntKind} {a : AV} (hu : Tryd.prog.underlying t = some (.int k)) (h : Rdt Tryd.prog N (g + 1) t [a]) : ∃ n, a = .int k n ∧ (Lit.int k n).wf = true := by
  unfold Rdt at h; rw [hu] at h
  obtain ⟨n, h1, h2⟩ := h
  exact ⟨n, List.head_eq_of_cons_eq h1, h2⟩
theorem rdt_str {N g : Nat} {a : AV} (h : Rdt Tryd.prog N (g + 1) 9 [a]) : ∃ s, a = .str s ∧ (∀ b ∈ s, b < 256) ∧ s.length ≤ N := by
  unfold Rdt at h; rw [u9] at h
  obtain ⟨n, h1, h2⟩ := h
  exact ⟨n, List.head_eq_of_cons_eq h1, h2⟩
theorem wf_i64 {n : Int} (h : (Lit.int .i64 n).wf = true) : -9223372036854775808 ≤ n ∧ n < 9223372036854775808 := by
  simp [Lit.wf, IntKind.min, IntKind.max, IntKind.signed, IntKind.bits] at h
  omega
theorem wf_i32 {n : Int} (h : (Lit.int .i32 n).wf = true) : -2147483648 ≤ n ∧ n < 2147483648 := by
  simp [Lit.wf, IntKind.min, IntKind.max, IntKind.signed, IntKind.bits] at h
  omega
theorem const_of {N g : Nat} {r : List AV} (hN : N < 9223372036854775808) (h : Rdt Tryd.prog N (g + 2) 24 r) : ∃ c : CnA, c.cells = r ∧ c.Good ∧ c.cl.length ≤ N ∧ c.nm.length ≤ N ∧ c.ds.length ≤ N := by
  unfold Rdt at h; rw [u24] at h
  obtain ⟨hl, hf⟩ := h
  rw [c24] at hl
  match r, hl with
  | [a0, a1, a2, a3, a4], _ =>
    simp only [List.mem_cons, forall_eq_or_imp, c3, c21, c9, List.drop_zero, List.drop_succ_cons, List.take_succ_cons, List.take_zero] at hf
    obtain ⟨h0, h1, h2, h3, h4, _⟩ := hf
    obtain ⟨n0, rfl, w0⟩ := rdt_int u3 h0
    obtain ⟨n1, rfl, w1⟩ := rdt_int u21 h1
    obtain ⟨s2, rfl, g2, k2⟩ := rdt_str h2
    obtain ⟨s3, rfl, g3, k3⟩ := rdt_str h3
    obtain ⟨s4, rfl, g4, k4⟩ := rdt_str h4
    exact ⟨⟨n0, n1, s2, s3, s4⟩, rfl, ⟨(wf_i64 w0).1, (wf_i64 w0).2, (wf_i32 w1).1, (wf_i32 w1).2, ⟨by dsimp only; omega, g2⟩, ⟨by dsimp only; omega, g3⟩, ⟨by dsimp only; omega, g4⟩⟩, k2, k3, k4⟩
theorem consts_of {N g : Nat} (hN : N < 9223372036854775808) : ∀ (rows : List (List AV)), (∀ r ∈ rows, r.length = Tryd.prog.cellsOf 24 ∧ Rdt Tryd.prog N (g + 2) 24 r) → ∃ cs : List CnA, List.flatten rows = cellsC cs ∧ cs.length = rows.length ∧ ∀ c ∈ cs, c.Good ∧ c.cl.length ≤ N ∧ c.nm.length ≤ N ∧ c.ds.length ≤ N
  | [], _ => ⟨[], rfl, rfl, by simp⟩
  | r :: rows, h => by
    obtain ⟨cs, h1, h2, h3⟩ := consts_of hN rows (fun r hr => h r (List.mem_cons_of_mem _ hr))
    obtain ⟨c, h4, h5⟩ := const_of hN (h r (List.mem_cons_self ..)).2
    refine ⟨c :: cs, by rw [List.flatten_cons, h1, ← h4]; rfl, by simp [h2], fun q hq => ?_⟩
    rcases List.mem_cons.1 hq with rfl | hq
    · exact h5
    · exact h3 q hq
theorem consts_arg {N g : Nat} {a : AV} (hN : N < 9223372036854775808) (h : Rdt Tryd.prog N (g + 3) 22 [a]) : ∃ cs : List CnA, (∀ S, Rd S a 5 (cellsC cs) cs.length) ∧ (∀ c ∈ cs, c.Good ∧ c.cl.length ≤ N ∧ c.nm.length ≤ N ∧ c.ds.length ≤ N) ∧ cs.length ≤ N := by
  unfold Rdt at h; rw [u22] at h
  obtain ⟨v, rows, h1, h2, h3, h4⟩ := h
  obtain ⟨cs, g1, g2, g3⟩ := consts_of hN rows h4
  cases List.head_eq_of_cons_eq h1
  exact ⟨cs, fun S => (by rw [c24] at h2; exact (h2 S).eq g1 g2.symm), g3, by omega⟩
end Go.Proofs.YthhbnnnokmefoaaDoor
/- pool.Add, pool.Get. -/


namespace Go.Proofs.YthhbnnnokmefoaaDoor
open GX
set_option maxHeartbeats 16000000
section
open Go
variable {X : _root_.GX.X} {n : Nat} {l : L} {S : St}
/-- a function's end, where its first result is a cell -/
theorem V_done_ct {x : Ex} {a t u b o : Nat} {v w : AV} {R : AV → St → Prop} (hx : (match x with | .exit _ => false | _ => true) = true) (ha : lk l a = some (.ptr b o)) (hl : loadAt X S.h t b o = some v) (hu : lk l u = some w) (h : R (.tup [v, w]) S) : V X n x [] (QF X [.cell a t, .tmp u] R) l S := by
  unfold V
  intro e he
  refine ⟨fun i hi => ?_, [v, w], ?_, h⟩
  · subst hi; cases hx
  · simp only [rets, he a _ ha, he u _ hu, hl]
theorem V_done_c {x : Ex} {a t b o : Nat} {v : AV} {R : AV → St → Prop} (hx : (match x with | .exit _ => false | _ => true) = true) (ha : lk l a = some (.ptr b o)) (hl : loadAt X S.h t b o = some v) (h : R (tupled [v]) S) : V X n x [] (QF X [.cell a t] R) l S := by
  unfold V
  intro e he
  refine ⟨fun i hi => ?_, [v], ?_, h⟩
  · subst hi; cases hx
  · simp only [rets, he a _ ha, hl]
end
theorem loadAt_c {H : Tr AB} {b : Nat} {c : CnA} {sp : Bool} (h : H.get b = some (.cells 24 c.cells sp)) : loadAt X1 H 24 b 0 = some (.agg c.cells) := by
  have e : row H b 0 5 = some c.cells := by unfold row; rw [h]; rfl
  show (match row H b 0 5 with | some cs => some (AV.agg cs) | none => none) = _
  rw [e]
theorem sok_upd {S S' : St} {p : Nat} {b : AB} (h : Sok S) (hp : p < S.n) (hn : S'.n = S.n) (_ : S'.h.get p = some b) (hf : ∀ c, c ≠ p → S'.h.get c = S.h.get c) : Sok S' := by
  intro c x hx
  by_cases hc : c = p
  · rw [hc, hn]; exact hp
  · rw [hf c hc] at hx; rw [hn]; exact h c x hx
def zeroC : CnA := ⟨0, 0, [], [], []⟩
/-- an entry of a kind, and why not -/
def getS (cs : List CnA) (n kind : Int) : CnA × Int := if n < 0 then (zeroC, 14) else match cs[n.toNat]? with | some d => if d.kind = kind then (d, 0) else (zeroC, 14) | none => (zeroC, 14)
theorem getS_hit {cs : List CnA} {m : Nat} (h : m < cs.length) (kind : Int) : getS cs (m : Int) kind = if (cs[m]).kind = kind then (cs[m], 0) else (zeroC, 14) := by
  unfold getS
  rw [if_neg (by omega), Int.toNat_natCast, List.getElem?_eq_getElem h]
theorem getS_miss {cs : List CnA} {m : Nat} (h : cs.length ≤ m) (kind : Int) : getS cs (m : Int) kind = (zeroC, 14) := by
  unfold getS
  rw [if_neg (by omega), Int.toNat_natCast, List.getElem?_eq_none h]
theorem getS_neg {cs : List CnA} {n : Int} (h : n < 0) (kind : Int) : getS cs n kind = (zeroC, 14) := by
  unfold getS; rw [if_pos h]
theorem get_runs {S : St} {v : AV} {cs : List CnA} {n kind : Int} (hok : Sok S) (hv : Cs S v cs) (_hb : cs.length ≤ 1000000000) (hn : S.n + 1 ≤ 1000000000) :
    Runs X1 15 [v, .int .i64 n, .int .i64 kind] S fun r S' => r = .tup [.agg (getS cs n kind).1.cells, .int .i64 (getS cs n kind).2] ∧ Fr S S' .nils 1 := by
  refine Runs_fn (m := 30) (by kernel_rfl) Tryd.func15 rfl (by kernel_rfl) (by kernel_rfl) ?_
  repeat (
    first
      | refine W_seq ?_
      | refine W_region ?_
      | refine WO_dst rfl rfl (by kernel_rfl) (by kernel_rfl) ?_)
  refine Ev_alloc_ rfl hok (by omega) ?_
  intro T hTn hTok hTq hTf
  have hF : Fr S T .nils 1 := ⟨by omega, by omega, hTok, fun c _ h => hTf c h⟩
  have hv1 := hv.keep (fun c h => hTf c (hv.lt hok h))
  have hq : T.h.get S.n = some (.cells 24 zeroC.cells false) := hTq
  by_cases hneg : n < 0
  · have e : getS cs n kind = (zeroC, 14) := getS_neg hneg kind
    repeat' (
      first
        | refine W_seq ?_
        | refine WO_nil ?_
        | refine V_seq ?_
        | refine W_region ?_
        | refine W_cond_t rfl ?_
        | refine WO_dst rfl rfl (by kernel_rfl) (by kernel_rfl) ?_
        | refine WO_guard_f rfl rfl rfl rfl rfl rfl (by kernel_rfl) (by kernel_rfl) ?_
        | refine Ev_move rfl ?_
        | refine Ev_assign rfl ?_
        | refine Ev_pick_t rfl rfl rfl ?_
        | refine Ev_lss rfl rfl ?_
        | (refine WO_guard_df rfl rfl rfl rfl rfl (by kernel_rfl) (by kernel_rfl) (fun hg => ?_) (fun hg => ?_) <;> (try dsimp only at hg) <;> try (exfalso; first | omega | exact hg rfl)))
    refine Ev_build (v := .agg zeroC.cells) rfl rfl ?_
    repeat (
      refine WO_no rfl rfl ?_)
    refine Ev_store rfl rfl rfl rfl (CnA.ones _) hq (by simp [CnA.cells, AV.cells]) (by omega) ?_
    intro T3 gn3 gq3 gf3
    repeat (
      first
        | refine WO_nil ?_
        | refine V_seq ?_
        | refine W_ret ?_
        | refine V_ret ?_
        | refine WO_dst rfl rfl (by kernel_rfl) (by kernel_rfl) ?_
        | refine Ev_assign rfl ?_)
    refine V_done_ct rfl rfl (loadAt_c (c := zeroC) gq3) rfl ?_
    rw [e]
    exact ⟨rfl, ⟨by omega, by omega, sok_upd hTok (by omega) gn3 gq3 gf3, fun c _ h => by rw [gf3 c (by omega), hTf c h]⟩⟩
  · obtain ⟨m, rfl⟩ : ∃ m : Nat, n = (m : Int) := ⟨n.toNat, by omega⟩
    repeat' (
      first
        | refine W_seq ?_
        | refine WO_nil ?_
        | refine V_seq ?_
        | refine W_region ?_
        | refine W_cond_t rfl ?_
        | refine WO_dst rfl rfl (by kernel_rfl) (by kernel_rfl) ?_
        | refine WO_guard_t rfl rfl rfl rfl rfl (by kernel_rfl) (by kernel_rfl) ?_
        | refine WO_guard_f rfl rfl rfl rfl rfl rfl (by kernel_rfl) (by kernel_rfl) ?_
        | refine Ev_len rfl rfl rfl rfl rfl hv1.len ?_
        | refine Ev_move rfl ?_
        | refine Ev_assign rfl ?_
        | refine Ev_pick_t rfl rfl rfl ?_
        | refine Ev_pick_f rfl rfl rfl ?_
        | refine Ev_lssN rfl rfl ?_
        | refine Ev_geqN rfl rfl ?_
        | (refine WO_guard_df rfl rfl rfl rfl rfl (by kernel_rfl) (by kernel_rfl) (fun hg => ?_) (fun hg => ?_) <;> (try dsimp only at hg) <;> try (exfalso; first | omega | exact hg rfl)))
    · have hlt : m < cs.length := by omega
      refine Ev_indexAddr_rd rfl rfl rfl rfl rfl hv1 hlt ?_
      intro q hq1
      repeat (
        first
          | refine WO_dst rfl rfl (by kernel_rfl) (by kernel_rfl) ?_
          | refine WO_guard_t rfl rfl rfl rfl rfl (by kernel_rfl) (by kernel_rfl) ?_)
      refine Ev_fieldAddr_pt rfl rfl rfl rfl rfl rfl hq1 ?_
      intro q2 hq2
      repeat (
        first
          | refine WO_dst rfl rfl (by kernel_rfl) (by kernel_rfl) ?_
          | refine WO_guard_t rfl rfl rfl rfl rfl (by kernel_rfl) (by kernel_rfl) ?_)
      refine Ev_load_pt rfl rfl rfl hq2 (cellsC_at hlt (by decide) rfl) (veq_int _ _) ?_
      repeat' (
        first
          | refine W_seq ?_
          | refine WO_nil ?_
          | refine V_seq ?_
          | refine W_region ?_
          | refine W_skip ?_
          | refine WO_dst rfl rfl (by kernel_rfl) (by kernel_rfl) ?_
          | refine WO_guard_t rfl rfl rfl rfl rfl (by kernel_rfl) (by kernel_rfl) ?_
          | refine Ev_move rfl ?_
          | refine Ev_pick_f rfl rfl rfl ?_
          | refine Ev_neq rfl rfl ?_
          | (refine W_cond rfl (fun hc => ?_) (fun hc => ?_) <;> (try dsimp only at hc) <;> try (exfalso; first | omega | exact hc rfl)))
      · have e : getS cs m kind = (zeroC, 14) := by rw [getS_hit hlt, if_neg hc]
        refine Ev_build (v := .agg zeroC.cells) rfl rfl ?_
        repeat (
          refine WO_no rfl rfl ?_)
        refine Ev_store rfl rfl rfl rfl (CnA.ones _) hq (by simp [CnA.cells, AV.cells]) (by omega) ?_
        intro T3 gn3 gq3 gf3
        repeat (
          first
            | refine WO_nil ?_
            | refine V_seq ?_
            | refine W_ret ?_
            | refine V_ret ?_
            | refine WO_dst rfl rfl (by kernel_rfl) (by kernel_rfl) ?_
            | refine Ev_assign rfl ?_)
        refine V_done_ct rfl rfl (loadAt_c (c := zeroC) gq3) rfl ?_
        rw [e]
        exact ⟨rfl, ⟨by omega, by omega, sok_upd hTok (by omega) gn3 gq3 gf3, fun c _ h => by rw [gf3 c (by omega), hTf c h]⟩⟩
      · have e : getS cs m kind = (cs[m], 0) := by rw [getS_hit hlt, if_pos (Classical.not_not.1 hc)]
        refine Ev_indexAddr_rd rfl rfl rfl rfl rfl hv1 hlt ?_
        intro q3 hq3
        repeat (
          refine WO_dst rfl rfl (by kernel_rfl) (by kernel_rfl) ?_)
        refine Ev_load_pt_agg rfl rfl rfl hq3 (by rw [cellsC_len]; dsimp only; omega) (cellsC_get cs m hlt) (CnA.veqs _) ?_
        repeat (
          refine WO_no rfl rfl ?_)
        refine Ev_store rfl rfl rfl rfl (CnA.ones _) hq (by simp [CnA.cells, AV.cells]) (by omega) ?_
        intro T3 gn3 gq3 gf3
        repeat (
          first
            | refine WO_nil ?_
            | refine V_seq ?_
            | refine W_ret ?_
            | refine WO_dst rfl rfl (by kernel_rfl) (by kernel_rfl) ?_
            | refine Ev_assign rfl ?_)
        refine V_done_ct rfl rfl (loadAt_c (c := cs[m]) gq3) rfl ?_
        rw [e]
        exact ⟨rfl, ⟨by omega, by omega, sok_upd hTok (by omega) gn3 gq3 gf3, fun c _ h => by rw [gf3 c (by omega), hTf c h]⟩⟩
    · have e : getS cs m kind = (zeroC, 14) := getS_miss (by omega) kind
      refine Ev_build (v := .agg zeroC.cells) rfl rfl ?_
      repeat (
        refine WO_no rfl rfl ?_)
      refine Ev_store rfl rfl rfl rfl (CnA.ones _) hq (by simp [CnA.cells, AV.cells]) (by omega) ?_
      intro T3 gn3 gq3 gf3
      repeat (
        first
          | refine WO_nil ?_
          | refine V_seq ?_
          | refine W_ret ?_
          | refine V_ret ?_
          | refine WO_dst rfl rfl (by kernel_rfl) (by kernel_rfl) ?_
          | refine Ev_assign rfl ?_)
      refine V_done_ct rfl rfl (loadAt_c (c := zeroC) gq3) rfl ?_
      rw [e]
      exact ⟨rfl, ⟨by omega, by omega, sok_upd hTok (by omega) gn3 gq3 gf3, fun c _ h => by rw [gf3 c (by omega), hTf c h]⟩⟩
/-- a pool with an entry, its number, and why not -/
def addS (cs : List CnA) (c : CnA) : List CnA × Int × Int :=
  if rightP c then (match cidx c cs with | some n => (cs, ((n : Nat) : Int), 0) | none => if 256 ≤ cs.length then ([], 0, 4) else (cs ++ [c], ((cs.length : Nat) : Int), 0)) else ([], 0, 14)
structure AddO (S : St) (cs : List CnA) (c : CnA) (k : Nat) (v : AV) (S' : St) : Prop where
  fr : Fr S S' .nils k
  val : ∃ r, v = .tup [r, .int .i64 (addS cs c).2.1, .int .i64 (addS cs c).2.2] ∧ Gz S' r 24 5 (cellsC (addS cs c).1) (addS cs c).1.length ∧ ∀ b, blkOf r = some b → S.n ≤ b
theorem add_runs {S : St} {v : AV} {cs : List CnA} {c : CnA} (hok : Sok S) (hv : Cs S v cs) (hc : c.Good) (hb : cs.length ≤ 100000000) (hn : S.n + 60 ≤ 1000000000) :
    Runs X1 17 [v, .agg c.cells] S (AddO S cs c 30) := by
  refine Runs_fn (m := 32) (by kernel_rfl) Tryd.func17 rfl (by kernel_rfl) (by kernel_rfl) ?_
  repeat (
    first
      | refine W_seq ?_
      | refine W_region ?_
      | refine WO_dst rfl rfl (by kernel_rfl) (by kernel_rfl) ?_)
  refine Ev_box rfl hok (by omega) ?_
  intro T hTn hTok hTq hTf
  have hF : Fr S T .nils 1 := ⟨by omega, by omega, hTok, fun c _ h => hTf c h⟩
  have hv1 := hv.keep (fun c h => hTf c (hv.lt hok h))
  have hq : T.h.get S.n = some (.cells 24 c.cells false) := hTq
  repeat (
    first
      | refine W_seq ?_
      | refine WO_nil ?_
      | refine V_seq ?_
      | refine W_region ?_
      | refine WO_dst rfl rfl (by kernel_rfl) (by kernel_rfl) ?_
      | refine Ev_assign rfl ?_)
  refine Ev_load_agg rfl rfl rfl hq (by simp [CnA.cells]) (show (c.cells.drop 0).take 5 = c.cells from rfl) (CnA.veqs c) ?_
  repeat (
    refine WO_dst rfl rfl (by kernel_rfl) (by kernel_rfl) ?_)
  refine Ev_call rfl rfl ((right_runs hTok hc (by omega)).mono ?_)
  rintro _ T1 - ⟨rfl, hF1⟩
  have gn1 := hF1.n
  have gl1 := hF1.le
  have hv2 := hv1.keep (fun c h => hF1.same c (by simp [blkOf]) (hv1.lt hTok h))
  have hq1 : T1.h.get S.n = some (.cells 24 c.cells false) := by rw [hF1.same S.n (by simp [blkOf]) (by omega)]; exact hq
  have hF01 : ∀ d, d < S.n → T1.h.get d = S.h.get d := fun d h => by rw [hF1.same d (by simp [blkOf]) (by omega), hTf d h]
  repeat' (
    first
      | refine W_seq ?_
      | refine WO_nil ?_
      | refine V_seq ?_
      | refine W_region ?_
      | refine W_skip ?_
      | refine W_ret ?_
      | refine V_ret ?_
      | refine WO_dst rfl rfl (by kernel_rfl) (by kernel_rfl) ?_
      | refine Ev_move rfl ?_
      | refine Ev_assign rfl ?_
      | refine Ev_not rfl ?_
      | (refine W_cond rfl (fun hc => ?_) (fun hc => ?_) <;> (try dsimp only at hc) <;> try (exfalso; first | omega | exact hc rfl)))
  · have e : addS cs c = ([], 0, 14) := by unfold addS; rw [if_neg (by assumption)]
    refine V_done rfl rfl ⟨⟨by omega, by omega, hF1.ok, fun d _ h => hF01 d h⟩, .nils, ?_, ?_, fun c hc => by cases hc⟩
    · rw [e]; rfl
    · rw [e]; exact .inl (.inl ⟨rfl, rfl, rfl⟩)
  · have hr : rightP c := by first | assumption | exact Classical.not_not.1 (by assumption)
    refine Ev_call rfl rfl ((cclone_runs hF1.ok hv2 (by omega) (by omega)).mono ?_)
    rintro w T2 - ⟨hF2, hz2, hb2⟩
    have gn2 := hF2.n
    have gl2 := hF2.le
    have hv3 := hv2.keep (fun c h => hF2.same c (by simp [blkOf]) (hv2.lt hF1.ok h))
    have hq2 : T2.h.get S.n = some (.cells 24 c.cells false) := by rw [hF2.same S.n (by simp [blkOf]) (by omega)]; exact hq1
    repeat (
      first
        | refine W_seq ?_
        | refine WO_nil ?_
        | refine V_seq ?_
        | refine W_region ?_
        | refine WO_dst rfl rfl (by kernel_rfl) (by kernel_rfl) ?_
        | refine Ev_move rfl ?_
        | refine Ev_assign rfl ?_)
    refine Ev_load_agg rfl rfl rfl hq2 (by simp [CnA.cells]) (show (c.cells.drop 0).take 5 = c.cells from rfl) (CnA.veqs c) ?_
    repeat (
      refine WO_dst rfl rfl (by kernel_rfl) (by kernel_rfl) ?_)
    refine Ev_call rfl rfl ((cindex_runs hF2.ok hz2.rd (by omega) (by omega)).mono ?_)
    rintro _ T3 - ⟨rfl, hF3⟩
    have gn3 := hF3.n
    have gl3 := hF3.le
    have hz3 := hz2.keep (fun c h => hF3.same c (by simp [blkOf]) (hz2.lt hF2.ok h))
    have hv4 := hv3.keep (fun c h => hF3.same c (by simp [blkOf]) (hv3.lt hF2.ok h))
    have hq3 : T3.h.get S.n = some (.cells 24 c.cells false) := by rw [hF3.same S.n (by simp [blkOf]) (by omega)]; exact hq2
    have hF03 : ∀ d, d < S.n → T3.h.get d = S.h.get d := fun d h => by rw [hF3.same d (by simp [blkOf]) (by omega), hF2.same d (by simp [blkOf]) (by omega), hF01 d h]
    have hbw : ∀ b, blkOf w = some b → S.n ≤ b := fun b h => by have := hb2 b h; omega
    cases hi : cidx c cs with
    | some m =>
      have e : addS cs c = (cs, ((m : Nat) : Int), 0) := by unfold addS; rw [if_pos hr, hi]
      have ei : cidxI c cs = ((m : Nat) : Int) := by unfold cidxI; rw [hi]
      rw [ei]
      repeat' (
        first
          | refine W_seq ?_
          | refine WO_nil ?_
          | refine V_seq ?_
          | refine W_region ?_
          | refine W_block ?_
          | refine W_ret ?_
          | refine V_ret ?_
          | refine W_cond_t rfl ?_
          | refine WO_dst rfl rfl (by kernel_rfl) (by kernel_rfl) ?_
          | refine Ev_move rfl ?_
          | refine Ev_assign rfl ?_
          | refine Ev_geqN rfl rfl ?_)
      refine V_done rfl rfl ⟨⟨by omega, by omega, hF3.ok, fun d _ h => hF03 d h⟩, w, ?_, ?_, hbw⟩
      · rw [e]; rfl
      · rw [e]; exact hz3
    | none =>
      have ei : cidxI c cs = -1 := by unfold cidxI; rw [hi]
      rw [ei]
      repeat' (
        first
          | refine W_seq ?_
          | refine WO_nil ?_
          | refine V_seq ?_
          | refine W_region ?_
          | refine W_block ?_
          | refine W_skip ?_
          | refine W_ret ?_
          | refine V_ret ?_
          | refine V_block ?_
          | refine W_cond_f rfl ?_
          | refine WO_dst rfl rfl (by kernel_rfl) (by kernel_rfl) ?_
          | refine Ev_len rfl rfl rfl rfl rfl hv4.len ?_
          | refine Ev_move rfl ?_
          | refine Ev_assign rfl ?_
          | refine Ev_geqN rfl rfl ?_
          | refine Ev_geq rfl rfl ?_
          | (refine W_cond rfl (fun hc => ?_) (fun hc => ?_) <;> (try dsimp only at hc) <;> try (exfalso; first | omega | exact hc rfl)))
      · have e : addS cs c = ([], 0, 4) := by unfold addS; rw [if_pos hr, hi]; dsimp only; rw [if_pos (by assumption)]
        refine V_done rfl rfl ⟨⟨by omega, by omega, hF3.ok, fun d _ h => hF03 d h⟩, .nils, ?_, ?_, fun c hc => by cases hc⟩
        · rw [e]; rfl
        · rw [e]; exact .inl (.inl ⟨rfl, rfl, rfl⟩)
      · have e : addS cs c = (cs ++ [c], ((cs.length : Nat) : Int), 0) := by unfold addS; rw [if_pos hr, hi]; dsimp only; rw [if_neg (by assumption)]
        refine Ev_load_agg rfl rfl rfl hq3 (by simp [CnA.cells]) (show (c.cells.drop 0).take 5 = c.cells from rfl) (CnA.veqs c) ?_
        repeat (
          refine WO_dst rfl rfl (by kernel_rfl) (by kernel_rfl) ?_)
        refine Ev_buildSlice rfl rfl rfl rfl rfl rfl hF3.ok (by omega) ?_
        intro T4 gn4 gok4 gq4 gf4
        have hz4 := hz3.keep (fun c h => gf4 c (hz3.lt hF3.ok h))
        have hv5 := hv4.keep (fun c h => gf4 c (hv4.lt hF3.ok h))
        have hrd : Rd T4 (.slice T3.n 0 1 (.ex 1)) 5 c.cells 1 := Rd_lit gq4 rfl rfl
        repeat (
          refine WO_dst rfl rfl (by kernel_rfl) (by kernel_rfl) ?_)
        refine Ev_append_gz rfl rfl rfl rfl rfl rfl rfl rfl rfl rfl hz4 hrd (CnA.ones c) gok4 (by omega) (by dsimp only; omega) (by omega) ?_
        intro w5 T5 gl5 gn5 gok5 hz5 gf5 gb5
        have hv6 := hv5.keep (fun c h => gf5 c (fun e2 => by have := hbw c e2; have := hv.lt hok h; omega) (hv5.lt gok4 h))
        repeat (
          first
            | refine WO_nil ?_
            | refine V_seq ?_
            | refine W_ret ?_
            | refine WO_dst rfl rfl (by kernel_rfl) (by kernel_rfl) ?_
            | refine Ev_len rfl rfl rfl rfl rfl hv6.len ?_
            | refine Ev_move rfl ?_
            | refine Ev_assign rfl ?_)
        refine V_done rfl rfl ⟨⟨by omega, by omega, gok5, fun d _ h => ?_⟩, w5, ?_, ?_, fun b hb => ?_⟩
        · rw [gf5 d (fun e2 => by have := hbw d e2; omega) (by omega), gf4 d (by omega), hF03 d h]
        · rw [e]; rfl
        · rw [e]
          refine hz5.eq ?_ (by simp)
          rw [cellsC_app]
          show cellsC cs ++ c.cells = cellsC cs ++ ([c].flatMap CnA.cells)
          simp
        · rcases gb5 b hb with h | h
          · exact hbw b h
          · omega
end Go.Proofs.YthhbnnnokmefoaaDoor
/- GX: rules over the model's own runs (not the machine's), for code in which a number that the run chooses (a slice's capacity) becomes known: a piece of code satisfies what comes of it, whatever was chosen. -/


namespace GX
noncomputable section
open Go
/-- the model stands where the machine would stand -/
structure At [Val] (φ : Phi) (n : Nat) (e : Env) (S : St) (a : Act) (w : World) : Prop where
  env : erel φ n e a.tmps
  def_ : a.defers = []
  wr : wrel φ S.h w
  fresh : ∀ id, S.n ≤ id → φ id = none
/-- what is behind a piece of code, in the model -/
def kwp (P : Program) : List Kt → (Exit → Act → World → Prop) → Exit → Act → World → Prop
  | [], R => R
  | .seq b :: ks, R => Exit.then (b.wp P (kwp P ks R)) (kwp P ks R)
  | .block id :: ks, R => Exit.inBlock id (kwp P ks R)
  | .loop b :: ks, R => Exit.then (lwp P b (kwp P ks R)) (kwp P ks R)
def Lk [Val] (φ : Phi) (n : Nat) (S : St) (w : World) (Q : Ex → Env → St → Prop) (R : Exit → Act → World → Prop) : Prop :=
  ∀ x e S' a w' φ', Q x e S' → At φ' n e S' a w' → Ext φ S.h S.n w φ' S'.h S'.n w' → R (toExit x) a w'
def SV [Val] (P : Program) (n : Nat) (x : Ex) (ks : List Kt) (Q : Ex → Env → St → Prop) (l : L) (S : St) : Prop :=
  ∀ e φ a w R, Ag l e → At φ n e S a w → Lk φ n S w Q R → kwp P ks R (toExit x) a w
def SW [Val] (P : Program) (n : Nat) (c : Code) (ks : List Kt) (Q : Ex → Env → St → Prop) (l : L) (S : St) : Prop :=
  ∀ e φ a w R, Ag l e → At φ n e S a w → Lk φ n S w Q R → cwp P c (kwp P ks R) a w
/-- the rest of a region's operations -/
def OsOK (all : List Oper) (e : Env) (i : Nat) : List Oper → Prop
  | [] => True
  | o :: tl => all.drop (i + 1) = tl ∧ ∃ o0, all[i]? = some o0 ∧ (o = o0 ∨ (o = { o0 with guard := none } ∧ wanted all e o0 = true))
def SWO [Val] (P : Program) (n : Nat) (all os : List Oper) (ks : List Kt) (Q : Ex → Env → St → Prop) (l : L) (S : St) : Prop :=
  ∀ e φ a w R i, Ag l e → At φ n e S a w → Lk φ n S w Q R → OsOK all e i os → wpOps P all.toArray (kwp P ks R) (List.range' i os.length) a w
theorem At.step [Val] {φ φ' : Phi} {n : Nat} {e e' : Env} {S S' : St} {a a' : Act} {w w' : World} (h : At φ n e S a w) (h1 : erel φ' n e' a'.tmps) (h2 : a'.defers = []) (h3 : wrel φ' S'.h w') (x : Ext φ S.h S.n w φ' S'.h S'.n w') : At φ' n e' S' a' w' :=
  ⟨h1, h2, h3, fun id hid => by
    rcases x.new id with g | ⟨_, g, _⟩
    · rw [g]; exact h.fresh id (Nat.le_trans x.le hid)
    · omega⟩
theorem At.fr [Val] {φ : Phi} {n m : Nat} {e : Env} {S : St} {a : Act} {w : World} (h : At φ n e S a w) : Fresh φ S.n m := fun id h1 _ => h.fresh id h1
theorem Lk.step [Val] {φ φ' : Phi} {n m : Nat} {S S' : St} {w w' : World} {Q : Ex → Env → St → Prop} {R : Exit → Act → World → Prop} (h : Lk φ n S w Q R) (x : Ext φ S.h S.n w φ' S'.h S'.n w') (fr : Fresh φ S.n m) (hm : S'.n ≤ m) : Lk φ' n S' w' Q R :=
  fun x2 e S2 a w2 φ2 hq ha hx => h x2 e S2 a w2 φ2 hq ha (x.trans hx (fun id h1 h2 => fr id h1 (by omega)))
section
variable [Val] {P : Program} {X : X} {n : Nat} {ks : List Kt} {Q : Ex → Env → St → Prop} {l : L} {S : St} {a b c : Code}
theorem SW_seq (h : SW P n a (.seq b :: ks) Q l S) : SW P n (.seq a b) ks Q l S := fun e φ A w R he hA hL => wp_seq (cwp_wp (h e φ A w R he hA hL))
theorem SW_block {id : Nat} (h : SW P n b (.block id :: ks) Q l S) : SW P n (.block id b) ks Q l S := fun e φ A w R he hA hL => wp_block (cwp_wp (h e φ A w R he hA hL))
theorem SW_loop (h : SW P n b (.loop b :: ks) Q l S) : SW P n (.loop b) ks Q l S := fun e φ A w R he hA hL => lwp_round (cwp_wp (h e φ A w R he hA hL))
theorem SW_skip (h : SV P n .nor ks Q l S) : SW P n .skip ks Q l S := fun e φ A w R he hA hL => wp_skip (h e φ A w R he hA hL)
theorem SW_label {i : Nat} (h : SV P n .nor ks Q l S) : SW P n (.label i) ks Q l S := fun e φ A w R he hA hL => wp_label (h e φ A w R he hA hL)
theorem SW_ret (h : SV P n .ret ks Q l S) : SW P n .ret ks Q l S := fun e φ A w R he hA hL => wp_ret (h e φ A w R he hA hL)
theorem SW_exit {i : Nat} (h : SV P n (.exit i) ks Q l S) : SW P n (.exit i) ks Q l S := fun e φ A w R he hA hL => wp_exit (h e φ A w R he hA hL)
theorem SW_cond_b {o : Operand} {t : Bool} (ho : od l o = some (.bool t)) (h : SW P n (if t then a else b) ks Q l S) : SW P n (.cond o a b) ks Q l S := by
  intro e φ A w R he hA hL
  have hc := opd_ok hA.env (od_ok he ho)
  simp only [vrel] at hc
  exact wp_cond hc (cwp_wp (h e φ A w R he hA hL))
theorem SW_cond_t {o : Operand} (ho : od l o = some (.bool true)) (h : SW P n a ks Q l S) : SW P n (.cond o a b) ks Q l S := SW_cond_b ho h
theorem SW_cond_f {o : Operand} (ho : od l o = some (.bool false)) (h : SW P n b ks Q l S) : SW P n (.cond o a b) ks Q l S := SW_cond_b ho h
theorem SW_cond {o : Operand} {p : Prop} [Decidable p] (ho : od l o = some (.bool (decide p))) (ht : p → SW P n a ks Q l S) (hf : ¬ p → SW P n b ks Q l S) : SW P n (.cond o a b) ks Q l S := by
  by_cases h : p
  · exact SW_cond_t (by rw [ho, decide_eq_true h]) (ht h)
  · exact SW_cond_f (by rw [ho, decide_eq_false h]) (hf h)
theorem SW_region {id : Nat} {ops : Array Oper} (h : SWO P n ops.toList ops.toList ks Q l S) : SW P n (.region id ops false) ks Q l S := by
  intro e φ A w R he hA hL
  refine wp_region ?_
  have hos : OsOK ops.toList e 0 ops.toList := by
    cases ho : ops.toList with
    | nil => trivial
    | cons o tl => exact ⟨rfl, o, rfl, .inl rfl⟩
  have := h e φ A w R 0 he hA hL hos
  rw [List.range_eq_range']
  simpa using this
theorem SWO_nil {all : List Oper} (h : SV P n .nor ks Q l S) : SWO P n all [] ks Q l S := fun e φ A w R _ he hA hL _ => h e φ A w R he hA hL
theorem SV_seq (h : SW P n b ks Q l S) : SV P n .nor (.seq b :: ks) Q l S := fun e φ A w R he hA hL => cwp_wp (h e φ A w R he hA hL)
theorem SV_seq_x {i : Nat} (h : SV P n (.exit i) ks Q l S) : SV P n (.exit i) (.seq b :: ks) Q l S := fun e φ A w R he hA hL => h e φ A w R he hA hL
theorem SV_ret {k : Kt} (h : SV P n .ret ks Q l S) : SV P n .ret (k :: ks) Q l S := by
  intro e φ A w R he hA hL
  cases k with
  | seq b => exact h e φ A w R he hA hL
  | block id => exact h e φ A w R he hA hL
  | loop b => exact h e φ A w R he hA hL
theorem SV_block {id : Nat} (h : SV P n .nor ks Q l S) : SV P n .nor (.block id :: ks) Q l S := fun e φ A w R he hA hL => h e φ A w R he hA hL
theorem SV_block_x {id i : Nat} (hi : Nat.beq i id = true) (h : SV P n .nor ks Q l S) : SV P n (.exit i) (.block id :: ks) Q l S := by
  intro e φ A w R he hA hL
  have := Nat.eq_of_beq_eq_true hi
  show Exit.inBlock id (kwp P ks R) (.exit i) A w
  simp only [Exit.inBlock, this, if_true]
  exact h e φ A w R he hA hL
theorem SV_block_y {id i : Nat} (hi : Nat.beq i id = false) (h : SV P n (.exit i) ks Q l S) : SV P n (.exit i) (.block id :: ks) Q l S := by
  intro e φ A w R he hA hL
  have : i ≠ id := fun e => by rw [e, Nat.beq_refl] at hi; cases hi
  show Exit.inBlock id (kwp P ks R) (.exit i) A w
  simp only [Exit.inBlock, this, if_false]
  exact h e φ A w R he hA hL
theorem SV_loop (h : SW P n (.loop b) ks Q l S) : SV P n .nor (.loop b :: ks) Q l S := fun e φ A w R he hA hL => h e φ A w R he hA hL
theorem SV_loop_x {i : Nat} (h : SV P n (.exit i) ks Q l S) : SV P n (.exit i) (.loop b :: ks) Q l S := fun e φ A w R he hA hL => h e φ A w R he hA hL
theorem SW_weak {l' : L} (hs : sub l l') (h : SW P n c ks Q l S) : SW P n c ks Q l' S := fun e φ A w R he hA hL => h e φ A w R (sub_ok hs he) hA hL
theorem SV_weak {x : Ex} {l' : L} (hs : sub l l') (h : SV P n x ks Q l S) : SV P n x ks Q l' S := fun e φ A w R he hA hL => h e φ A w R (sub_ok hs he) hA hL
/-- a loop, by what is kept -/
theorem SW_inv {α : Type} (lf : α → L) (I : α → St → Prop) (m : α → Nat) (stp : ∀ a S, I a S → (∀ a' S' l', m a' < m a → I a' S' → sub (lf a') l' → SV P n .nor (.loop b :: ks) Q l' S') → SW P n b (.loop b :: ks) Q (lf a) S)
    (a0 : α) (h0 : I a0 S) (hs : sub (lf a0) l) : SW P n (.loop b) ks Q l S := by
  have : ∀ k a S, m a = k → I a S → SW P n (.loop b) ks Q (lf a) S := by
    intro k
    induction k using Nat.strongRecOn with
    | ind k ih =>
      intro a S hk hI
      apply SW_loop
      apply stp a S hI
      intro a' S' l' hm hI' hs'
      exact SV_loop (SW_weak hs' (ih (m a') (by omega) a' S' rfl hI'))
  exact SW_weak hs (this _ a0 S rfl h0)
/-! operations -/
variable {all os : List Oper} {o : Oper}
theorem SWO_ev (hX : XOK P X) (hx : ∀ f g, X.ext f = some g → ExtOK P f g) (hg : o.guard = none) (h : Ev X l S o.op fun v S' => ∀ e e1, Ag l e → setDst n e o.dst v = some e1 → ∃ l', Ag l' e1 ∧ SWO P n all os ks Q l' S') (hd : ∀ e v, ∃ e1, setDst n e o.dst v = some e1) : SWO P n all (o :: os) ks Q l S := by
  intro e φ A w R i he hA hL hos
  obtain ⟨htl, o0, ho, hor⟩ := hos
  have hw0 : wanted all e o0 = true := by
    rcases hor with rfl | ⟨_, h2⟩
    · exact wanted_none hg
    · exact h2
  have hop0 : o.op = o0.op ∧ o.dst = o0.dst := by
    rcases hor with rfl | ⟨rfl, _⟩ <;> exact ⟨rfl, rfl⟩
  unfold Ev at h
  obtain ⟨f, v, S1, h1, _, h3⟩ := h e he
  obtain ⟨e1, hs⟩ := hd e v
  obtain ⟨l', he1, h4⟩ := h3 e e1 he hs
  rw [hop0.1] at h1
  rw [hop0.2] at hs
  have ho' : all.toArray[i]? = some o0 := by simpa using ho
  simp only [List.length_cons, List.range'_succ, wpOps, ho']
  have hwk := wanted_ok (ops := all.toArray) (o := o0) hA.env
  rw [← hwk]
  have hw0' : wanted all.toArray.toList e o0 = true := by simpa using hw0
  simp only [hw0', if_true]
  left
  refine oper_ok (a0 := A) hX hx (enter_ok hX (exec_sound hX hx f)) hA.env hA.wr hA.fr h1 ?_
  intro u w1 φ1 k1 k2 k3
  have hA1 : At φ1 n e1 S1 (A.put o0.dst u) w1 := hA.step ((hA.env.mono k3.sub).put k1 hs) (by
    have := hA.def_
    cases o0.dst <;> simpa [Act.put] using this) k2 k3
  refine h4 e1 φ1 _ w1 R (i + 1) he1 hA1 (hL.step k3 (hA.fr (m := S1.n)) (Nat.le_refl _)) ?_
  cases os with
  | nil => trivial
  | cons o2 tl =>
    have hget : all[i + 1]? = some o2 := by
      have := congrArg (·[0]?) htl
      simpa using this
    refine ⟨?_, o2, hget, .inl rfl⟩
    rw [show i + 1 + 1 = (i + 1) + 1 from rfl, ← List.drop_drop, htl]; rfl
theorem SWO_dst (hX : XOK P X) (hx : ∀ f g, X.ext f = some g → ExtOK P f g) {d : Nat} (hg : o.guard = none) (hd : o.dst = some d) (hn : Nat.blt d n = true) (hn' : Nat.blt n 1000001 = true) (h : Ev X l S o.op fun v S' => SWO P n all os ks Q ((d, v) :: l) S') : SWO P n all (o :: os) ks Q l S := by
  rw [nblt, decide_eq_true_eq] at hn hn'
  have hset : ∀ e v, setDst n e o.dst v = some (e.put d v) := fun e v => by rw [hd]; unfold setDst; dsimp only; rw [nblt, decide_eq_true hn]; rfl
  refine SWO_ev hX hx hg ?_ (fun e v => ⟨_, hset e v⟩)
  unfold Ev at h ⊢
  intro e he
  obtain ⟨f, v, S', h1, h2, h3⟩ := h e he
  refine ⟨f, v, S', h1, h2, fun e' e1 he' hs => ⟨_, ?_, h3⟩⟩
  rw [hset] at hs
  cases hs
  exact he'.put hn' hn
theorem SWO_no (hX : XOK P X) (hx : ∀ f g, X.ext f = some g → ExtOK P f g) (hg : o.guard = none) (hd : o.dst = none) (h : Ev X l S o.op fun _ S' => SWO P n all os ks Q l S') : SWO P n all (o :: os) ks Q l S := by
  have hset : ∀ e v, setDst n e o.dst v = some e := fun e v => by rw [hd]; rfl
  refine SWO_ev hX hx hg ?_ (fun e v => ⟨_, hset e v⟩)
  unfold Ev at h ⊢
  intro e he
  obtain ⟨f, v, S', h1, h2, h3⟩ := h e he
  refine ⟨f, v, S', h1, h2, fun e' e1 he' hs => ⟨l, ?_, h3⟩⟩
  rw [hset] at hs
  cases hs
  exact he'
/-- a guarded operation that is wanted -/
theorem SWO_guard_t {j d0 : Nat} {want : Bool} {p : Oper} {d : Nat} (hg : o.guard = some (j, want)) (hp : all[j]? = some p) (hd0 : p.dst = some d0) (hl : lk l d0 = some (.bool want)) (_hd : o.dst = some d) (_hn : Nat.blt d n = true) (_hn' : Nat.blt n 1000001 = true)
    (h1 : SWO P n all ({ o with guard := none } :: os) ks Q l S) : SWO P n all (o :: os) ks Q l S := by
  intro e φ A w R i he hA hL hos
  obtain ⟨htl, o0, ho, hor⟩ := hos
  have hat : e.at d0 = .bool want := he d0 _ hl
  rcases hor with rfl | ⟨rfl, _⟩
  · refine h1 e φ A w R i he hA hL ⟨htl, o, ho, .inr ⟨rfl, ?_⟩⟩
    unfold wanted; rw [hg]; dsimp only; rw [hp]; dsimp only; rw [hd0]; dsimp only; rw [hat]; cases want <;> rfl
  · cases hg
theorem SWO_skip {d : Nat} (hd : o.dst = some d) (hn : Nat.blt d n = true) (hn' : Nat.blt n 1000001 = true) (hg : o.guard ≠ none) (hw : ∀ e, Ag l e → wanted all e o = false) (h2 : SWO P n all os ks Q ((d, .tup []) :: l) S) : SWO P n all (o :: os) ks Q l S := by
  intro e φ A w R i he hA hL hos
  obtain ⟨htl, o0, ho, hor⟩ := hos
  rw [nblt, decide_eq_true_eq] at hn hn'
  rcases hor with rfl | ⟨rfl, _⟩
  · have ho' : all.toArray[i]? = some o := by simpa using ho
    simp only [List.length_cons, List.range'_succ, wpOps, ho']
    have hwk := wanted_ok (ops := all.toArray) (o := o) hA.env
    rw [← hwk]
    have hw0' : wanted all.toArray.toList e o = false := by simpa using hw e he
    simp only [hw0', Bool.false_eq_true, if_false]
    have hs : setDst n e o.dst (.tup []) = some (e.put d (.tup [])) := by rw [hd]; unfold setDst; dsimp only; rw [nblt, decide_eq_true hn]; rfl
    have he1 := hA.env.put (vrel_undef φ) hs
    refine h2 _ φ _ w R (i + 1) (he.put hn' hn) ⟨he1, ?_, hA.wr, hA.fresh⟩ hL ?_
    · have := hA.def_
      cases o.dst <;> simpa [Act.put] using this
    · cases os with
      | nil => trivial
      | cons o2 tl =>
        have hget : all[i + 1]? = some o2 := by
          have := congrArg (·[0]?) htl
          simpa using this
        refine ⟨?_, o2, hget, .inl rfl⟩
        rw [show i + 1 + 1 = (i + 1) + 1 from rfl, ← List.drop_drop, htl]; rfl
  · exact absurd rfl hg
theorem SWO_guard_f {j d0 : Nat} {want c : Bool} {p : Oper} {d : Nat} (hg : o.guard = some (j, want)) (hp : all[j]? = some p) (hd0 : p.dst = some d0) (hl : lk l d0 = some (.bool c)) (hc : (c == want) = false) (hd : o.dst = some d) (hn : Nat.blt d n = true) (hn' : Nat.blt n 1000001 = true)
    (h2 : SWO P n all os ks Q ((d, .tup []) :: l) S) : SWO P n all (o :: os) ks Q l S :=
  SWO_skip hd hn hn' (by rw [hg]; simp) (fun e he => by unfold wanted; rw [hg]; dsimp only; rw [hp]; dsimp only; rw [hd0]; dsimp only; rw [he d0 _ hl]; exact hc) h2
theorem SWO_guard_x {j d0 : Nat} {want : Bool} {p : Oper} {d : Nat} (hg : o.guard = some (j, want)) (hp : all[j]? = some p) (hd0 : p.dst = some d0) (hl : lk l d0 = some (.tup [])) (hd : o.dst = some d) (hn : Nat.blt d n = true) (hn' : Nat.blt n 1000001 = true)
    (h2 : SWO P n all os ks Q ((d, .tup []) :: l) S) : SWO P n all (o :: os) ks Q l S :=
  SWO_skip hd hn hn' (by rw [hg]; simp) (fun e he => by unfold wanted; rw [hg]; dsimp only; rw [hp]; dsimp only; rw [hd0]; dsimp only; rw [he d0 _ hl]) h2
/-- a piece of code by the machine's rules -/
theorem SW_of_W (hX : XOK P X) (hx : ∀ f g, X.ext f = some g → ExtOK P f g) (I : L → St → Prop) (h : W X n c [] (Mid I) l S) (hk : ∀ l' S', I l' S' → SV P n .nor ks Q l' S') : SW P n c ks Q l S := by
  intro e φ A w R he hA hL
  unfold W at h
  obtain ⟨f, x, e1, S1, h1, rfl, l', h2, h3⟩ := h e he
  refine exec_sound hX hx f n c e S .nor e1 S1 h1 φ A w _ hA.env hA.def_ hA.wr hA.fr ?_
  intro a' w' φ' k
  exact hk l' S1 h3 e1 φ' a' w' R h2 (hA.step k.env k.def_ k.wr k.ext) (hL.step k.ext (hA.fr (m := S1.n)) (Nat.le_refl _))
theorem SV_done {x : Ex} {rs : List ResultVar} {vs : List AV} {R : AV → St → Prop} (hx : (match x with | .exit _ => false | _ => true) = true) (hr : retL l rs = some vs) (h : R (tupled vs) S) : SV P n x [] (QF X rs R) l S := by
  intro e φ A w R' he hA hL
  refine hL x e S A w φ ⟨fun i hi => ?_, vs, retL_ok he hr, h⟩ hA (Ext.refl _ _ _ _)
  subst hi; cases hx
/-- flat values have their names -/
theorem flat_avs : ∀ {us : List Value}, flatR us → ∃ asx, vrels (fun _ => none) asx us
  | [], _ => ⟨[], rfl⟩
  | u :: us, h => by
    obtain ⟨a, ha⟩ := h u (List.mem_cons_self ..)
    obtain ⟨asx, has⟩ := flat_avs (us := us) (fun v hv => h v (List.mem_cons_of_mem _ hv))
    exact ⟨a :: asx, vrels_cons ha has⟩
/-- A SLICE'S CAPACITY BECOMES KNOWN: whatever it is. -/
theorem SV_cap {x : Ex} {d b o k sz el : Nat} {cs : List AV} {sp : Bool} (hl : lk l d = some (.slice b o k (.op sz))) (hb : S.h.get b = some (.cells el cs sp)) (hdn : Nat.blt d n = true) (hn' : Nat.blt n 1000001 = true)
    (h : ∀ cp extra S', k ≤ cp → cp < 9223372036854775808 → cs.length + extra.length = o + cp * sz → S'.n = S.n → S'.h.get b = some (.cells el (cs ++ extra) true) → (∀ y, y ≠ b → S'.h.get y = S.h.get y) → SV P n x ks Q ((d, .slice b o k (.ex cp)) :: l) S') : SV P n x ks Q l S := by
  intro e φ A w R he hA hL
  rw [nblt, decide_eq_true_eq] at hdn hn'
  have hv := hA.env.at_ d
  rw [he d _ hl] at hv
  simp only [vrel] at hv
  obtain ⟨L, cp, hL1, hval, hle, htot, hclim⟩ := hv
  obtain ⟨cc, fz, a1, a2, a3, a4, _, a6, a7⟩ := cells_sp hA.wr hb hL1
  obtain ⟨extra, hex⟩ := flat_avs a7
  have hxl := vrels_length hex
  have hsm := hA.wr.small b _ hb
  have hts : cc.toList.length = cc.size := Array.length_toList
  have hdl : (cc.toList.drop (L.base + cs.length)).length = cc.size - (L.base + cs.length) := by rw [List.length_drop, hts]
  have hlen : cs.length + extra.length = o + cp * sz := by omega
  have hget : ∀ m, (Tr.set 40 S.h b (.cells el (cs ++ extra) true)).get m = if m = b then some (.cells el (cs ++ extra) true) else S.h.get m := fun m => by rw [Tr.get_set 40 _ _ _ _ (by omega)]
  have hdom : ∀ m y, (Tr.set 40 S.h b (.cells el (cs ++ extra) true)).get m = some y → ∃ y0, S.h.get m = some y0 := fun m y hm => by
    rw [hget] at hm
    split at hm
    · rename_i e1; rw [e1]; exact ⟨_, hb⟩
    · exact ⟨_, hm⟩
  have hwr : wrel φ (Tr.set 40 S.h b (.cells el (cs ++ extra) true)) w := by
    refine ⟨fun id y hy => ?_, fun id id' y y' l1 l2 h1 h2 h3 h4 h5 => ?_, fun id y hy => ?_, fun g ob ho => ⟨(hA.wr.ro g ob ho).1, fun id y l1 hy hl1 => ?_⟩⟩
    · rw [hget] at hy
      split at hy
      · rename_i e1; subst e1
        cases hy
        refine ⟨L, _, hL1, a1, cc, fz, rfl, a2, a3, ?_, (fun h => by cases h), ?_, ?_⟩
        · rw [List.length_append]; omega
        · have e2 : (cc.toList.drop L.base).take (cs ++ extra).length = (cc.toList.drop L.base).take cs.length ++ cc.toList.drop (L.base + cs.length) := by
            rw [List.length_append, hxl, List.take_add, List.drop_drop, List.take_of_length_le (l := cc.toList.drop (L.base + cs.length)) (Nat.le_refl _)]
          rw [e2]
          exact vrels_append a6 (vrels_mono (fun _ _ h => by cases h) _ hex)
        · rw [List.drop_of_length_le (by rw [List.length_append]; omega)]
          exact flatR_nil
      · exact hA.wr.blk id y hy
    · obtain ⟨y1, g1⟩ := hdom _ _ h1
      obtain ⟨y2, g2⟩ := hdom _ _ h2
      exact hA.wr.inj id id' y1 y2 l1 l2 g1 g2 h3 h4 h5
    · obtain ⟨y1, g1⟩ := hdom _ _ hy
      exact hA.wr.small id y1 g1
    · obtain ⟨y1, g1⟩ := hdom _ _ hy
      exact (hA.wr.ro g ob ho).2 id y1 l1 g1 hl1
  have hat : ∀ t, (e.put d (.slice b o k (.ex cp))).at t = if t = d then .slice b o k (.ex cp) else e.at t := fun t => Env.at_put _ _ _ _ (by omega)
  have hA2 : At φ n (e.put d (.slice b o k (.ex cp))) { S with h := Tr.set 40 S.h b (.cells el (cs ++ extra) true) } A w := by
    refine ⟨⟨hA.env.size, hA.env.small, fun t => ?_⟩, hA.def_, hwr, hA.fresh⟩
    rw [hat]
    split
    · rename_i e1; subst e1
      exact ⟨L, cp, hL1, hval, rfl, hle⟩
    · exact hA.env.at_ t
  refine h cp extra { S with h := Tr.set 40 S.h b (.cells el (cs ++ extra) true) } hle hclim hlen rfl (by rw [hget, if_pos rfl]) (fun y hy => by rw [hget, if_neg hy]) _ φ A w R (he.put hn' hdn) hA2 ?_
  intro x2 e2 S2 a2 w2 φ2 hq hA3 hx3
  refine hL x2 e2 S2 a2 w2 φ2 hq hA3 ⟨hx3.le, hx3.sub, fun id => ?_, fun id y hy => ?_, hx3.size, fun g hg hno => hx3.frame g hg (fun id y l1 hy hl1 => ?_), hx3.os, hx3.tape, hx3.output⟩
  · rcases hx3.new id with g | ⟨g1, g2, g3⟩
    · exact .inl g
    · refine .inr ⟨g1, g2, fun l1 hl1 => ?_⟩
      rcases g3 l1 hl1 with g4 | ⟨id0, y, l0, k1, k2, k3⟩
      · exact .inl g4
      · obtain ⟨y0, k4⟩ := hdom _ _ k1
        exact .inr ⟨id0, y0, l0, k4, k2, k3⟩
  · rcases hx3.dom id y hy with ⟨y0, g⟩ | g
    · exact .inl (hdom _ _ g)
    · exact .inr g
  · obtain ⟨y0, k4⟩ := hdom _ _ hy
    exact hno id y0 l1 k4 hl1
/-- FROM THE CODE OF A FUNCTION TO A CALL OF IT: it returns true, and what was there is as it was. -/
theorem SW_true (hX : XOK P X) {f : Nat} {F : Func} {c : Code} {m : Nat} {args : List AV} {vs : Array Value} (hf : P.funcs[f]? = some F) (hb : F.body = some c) (hm : args.length + (F.ntmps - args.length) = m) (hm' : Nat.blt m 1000000 = true)
    (h : SW P m c [] (QF X F.results.toList fun v _ => v = .bool true) (argL args 0) { h := .leaf, n := 0 }) (hv : vrels φ0 args vs.toList) (w : World) (hro : ∀ g o, Val.ro g = some o → w.heap[g]? = some o) :
    Calls P f vs w fun e w' => e = .returned (.bool true) ∧ Go.RowKit.Below w.heap.size w w' := by
  have hm2 : m < 1000000 := by rw [nblt, decide_eq_true_eq] at hm'; exact hm'
  refine calls_of_wp hf hb (cwp_wp ?_)
  have henv := enter_env hv (m := F.ntmps) (by omega)
  rw [hm] at henv
  refine h (argEnv args 0 .leaf) φ0 _ w _ ?_ ⟨henv, rfl, wrel_empty w hro, fun _ _ => rfl⟩ ?_
  · intro t v ht
    obtain ⟨_, k2⟩ := lk_argL ht
    have hlt := (List.getElem?_eq_some_iff.1 k2).1
    rw [argEnv_at args 0 .leaf t (by omega), dif_pos ⟨by omega, hlt⟩]
    exact (List.getElem?_eq_some_iff.1 k2).2
  · intro x e S' a w' φ' hq hA hE
    obtain ⟨hne, us, hr, ht⟩ := hq
    obtain ⟨v, r1, r2⟩ := results_ok hX hA.env hA.wr hr
    have hvt : v = .bool true := by rw [ht] at r2; simpa only [vrel] using r2
    have hbel : Go.RowKit.Below w.heap.size w w' := ⟨hE.os, hE.tape, hE.output, hE.size, fun k hk => hE.frame k hk (by intro id b l e; cases e)⟩
    cases x with
    | exit id => exact absurd rfl (hne id)
    | nor => exact ⟨hA.def_, v, r1, by rw [hvt], hbel⟩
    | ret => exact ⟨hA.def_, v, r1, by rw [hvt], hbel⟩
end
end
attribute [irreducible] SW SV SWO
end GX
/- carafelaw3.mark as a function that makes no block; sums that wrap. -/



namespace Go.Proofs.YthhbnnnokmefoaaDoor
open GX
set_option maxHeartbeats 16000000
set_option maxRecDepth 100000
section
variable {X : X} {l : L} {S : St} {R : AV → St → Prop} {x y : Go.Operand} {t u : Nat} {k : Go.IntKind} {a b : Int}
theorem Ev_addw (hx : od l x = some (.int k a)) (hy : od l y = some (.int k b)) (hR : R (.int k (wrp k (a + b))) S) : Ev X l S (.binOp .add t x y u) R :=
  Ev_ibin hx hy ⟨by simp, by simp⟩ (by unfold ibin; rfl) hR
theorem Ev_subw (hx : od l x = some (.int k a)) (hy : od l y = some (.int k b)) (hR : R (.int k (wrp k (a - b))) S) : Ev X l S (.binOp .sub t x y u) R :=
  Ev_ibin hx hy ⟨by simp, by simp⟩ (by unfold ibin; rfl) hR
theorem Ev_mulw (hx : od l x = some (.int k a)) (hy : od l y = some (.int k b)) (hR : R (.int k (wrp k (a * b))) S) : Ev X l S (.binOp .mul t x y u) R :=
  Ev_ibin hx hy ⟨by simp, by simp⟩ (by unfold ibin; rfl) hR
end
def mkN (i j : Int) : Int := wrp .i32 (wrp .i64 (wrp .i64 (-1000 - wrp .i64 (i * 50)) - j))
def numC (n : Int) : CnA := ⟨3, n, [], [], []⟩
def mkC (i j : Int) : CnA := numC (mkN i j)
theorem numc_runs {S : St} {n : Int} (hok : Sok S) (hn : S.n + 1 ≤ 1000000000) :
    Runs X1 10 [.int .i32 n] S fun r S' => r = .agg (numC n).cells ∧ Fr S S' .nils 1 := by
  refine Runs_fn (m := 5) (by kernel_rfl) Tryd.func10 rfl (by kernel_rfl) (by kernel_rfl) ?_
  repeat (
    first
      | refine W_seq ?_
      | refine WO_nil ?_
      | refine V_seq ?_
      | refine W_region ?_
      | refine W_drawn (by kernel_rfl) ?_
      | refine W_block ?_
      | refine W_scope ?_
      | refine W_skip ?_
      | refine W_ret ?_
      | refine W_exit ?_
      | refine W_label ?_
      | refine V_ret ?_
      | refine V_block ?_
      | refine V_block_x rfl ?_
      | refine V_block_y rfl ?_
      | refine V_seq_x ?_
      | refine V_loop_x ?_
      | refine W_cond_t rfl ?_
      | refine W_cond_f rfl ?_
      | refine WO_dst rfl rfl (by kernel_rfl) (by kernel_rfl) ?_
      | refine WO_no rfl rfl ?_
      | refine WO_guard_t rfl rfl rfl rfl rfl (by kernel_rfl) (by kernel_rfl) ?_
      | refine WO_guard_f rfl rfl rfl rfl rfl rfl (by kernel_rfl) (by kernel_rfl) ?_
      | refine WO_guard_x rfl rfl rfl rfl rfl (by kernel_rfl) (by kernel_rfl) ?_
      | refine Ev_move rfl ?_
      | refine Ev_assign rfl ?_
      | refine Ev_extract rfl rfl ?_
      | refine Ev_pick_t rfl rfl rfl ?_
      | refine Ev_pick_f rfl rfl rfl ?_
      | refine Ev_lssN rfl rfl ?_
      | refine Ev_leqN rfl rfl ?_
      | refine Ev_gtrN rfl rfl ?_
      | refine Ev_geqN rfl rfl ?_
      | refine Ev_eqlN rfl rfl ?_
      | refine Ev_neqN rfl rfl ?_
      | refine Ev_lss rfl rfl ?_
      | refine Ev_leq rfl rfl ?_
      | refine Ev_gtr rfl rfl ?_
      | refine Ev_geq rfl rfl ?_
      | refine Ev_eql rfl rfl ?_
      | refine Ev_neq rfl rfl ?_
      | refine Ev_seql rfl rfl ?_
      | refine Ev_sneq rfl rfl ?_
      | refine Ev_not rfl ?_
      | refine Ev_notb rfl ?_
      | refine Ev_nilCheck rfl ?_
      | refine Ev_ptr_eql rfl rfl rfl rfl ?_
      | refine Ev_ptr_neq rfl rfl rfl rfl ?_
      | refine Ev_fieldAddr rfl rfl rfl rfl rfl rfl ?_
      | refine Ev_len_str rfl rfl rfl rfl rfl ?_
      | refine Ev_len rfl rfl rfl rfl rfl rfl ?_
      | refine Ev_min rfl rfl rfl ?_
      | refine Ev_max rfl rfl rfl ?_
      | refine Ev_indexAddr rfl rfl rfl rfl rfl (by first | omega | (dsimp only; done) | (dsimp only; omega)) ?_
      | refine Ev_makeFunc rfl rfl ?_
      | refine Ev_conv_str rfl rfl rfl rfl rfl ?_
      | refine Ev_addN rfl rfl (by simp only [lim]; omega) ?_
      | refine Ev_subN rfl rfl (by simp only [lim]; omega) (by first | omega | (dsimp only; done) | (dsimp only; omega)) ?_
      | refine Ev_mulN rfl rfl (by simp only [lim]; omega) ?_
      | refine Ev_add rfl rfl (by simp only [inR]; omega) ?_
      | refine Ev_sub rfl rfl (by simp only [inR]; omega) ?_
      | refine Ev_mul rfl rfl (by simp only [inR]; omega) ?_
      | refine Ev_shrN (m := 6) (q := 64) rfl rfl rfl rfl ?_
      | refine Ev_shrN (m := 12) (q := 4096) rfl rfl rfl rfl ?_
      | refine Ev_shrN (m := 10) (q := 1024) rfl rfl rfl rfl ?_
      | refine Ev_shrN (m := 8) (q := 256) rfl rfl rfl rfl ?_
      | refine Ev_shrN (m := 4) (q := 16) rfl rfl rfl rfl ?_
      | refine Ev_shrN (m := 5) (q := 32) rfl rfl rfl rfl ?_
      | refine Ev_shrN (m := 7) (q := 128) rfl rfl rfl rfl ?_
      | refine Ev_shrN (m := 3) (q := 8) rfl rfl rfl rfl ?_
      | refine Ev_shrN (m := 18) (q := 262144) rfl rfl rfl rfl ?_
      | refine Ev_shlN (m := 6) (q := 64) rfl rfl rfl rfl (by simp only [lim]; omega) ?_
      | refine Ev_shlN (m := 12) (q := 4096) rfl rfl rfl rfl (by simp only [lim]; omega) ?_
      | refine Ev_shlN (m := 10) (q := 1024) rfl rfl rfl rfl (by simp only [lim]; omega) ?_
      | refine Ev_shlN (m := 8) (q := 256) rfl rfl rfl rfl (by simp only [lim]; omega) ?_
      | refine Ev_andN 3 8 rfl rfl rfl rfl (by simp only [lim]; omega) (by simp only [lim]; omega) ?_
      | refine Ev_andN 4 16 rfl rfl rfl rfl (by simp only [lim]; omega) (by simp only [lim]; omega) ?_
      | refine Ev_andN 5 32 rfl rfl rfl rfl (by simp only [lim]; omega) (by simp only [lim]; omega) ?_
      | refine Ev_andN 6 64 rfl rfl rfl rfl (by simp only [lim]; omega) (by simp only [lim]; omega) ?_
      | refine Ev_andN 10 1024 rfl rfl rfl rfl (by simp only [lim]; omega) (by simp only [lim]; omega) ?_
      | refine Ev_orN 4 rfl rfl rfl (by first | omega | (dsimp only; done) | (dsimp only; omega)) (by first | omega | (dsimp only; done) | (dsimp only; omega)) (by simp only [lim]; omega) ?_
      | refine Ev_orN 5 rfl rfl rfl (by first | omega | (dsimp only; done) | (dsimp only; omega)) (by first | omega | (dsimp only; done) | (dsimp only; omega)) (by simp only [lim]; omega) ?_
      | refine Ev_orN 6 rfl rfl rfl (by first | omega | (dsimp only; done) | (dsimp only; omega)) (by first | omega | (dsimp only; done) | (dsimp only; omega)) (by simp only [lim]; omega) ?_
      | refine Ev_orN 10 rfl rfl rfl (by first | omega | (dsimp only; done) | (dsimp only; omega)) (by first | omega | (dsimp only; done) | (dsimp only; omega)) (by simp only [lim]; omega) ?_
      | refine Ev_orN 12 rfl rfl rfl (by first | omega | (dsimp only; done) | (dsimp only; omega)) (by first | omega | (dsimp only; done) | (dsimp only; omega)) (by simp only [lim]; omega) ?_
      | refine Ev_orN 16 rfl rfl rfl (by first | omega | (dsimp only; done) | (dsimp only; omega)) (by first | omega | (dsimp only; done) | (dsimp only; omega)) (by simp only [lim]; omega) ?_
      | refine Ev_convN rfl rfl rfl rfl rfl (by simp only [lim]; omega) ?_
      | refine Ev_and8 rfl rfl (by first | omega | (dsimp only; done) | (dsimp only; omega)) (by first | omega | (dsimp only; done) | (dsimp only; omega)) (land_192 (by first | omega | (dsimp only; done) | (dsimp only; omega))) (by first | omega | (dsimp only; done) | (dsimp only; omega)) ?_
      | refine Ev_and8 rfl rfl (by first | omega | (dsimp only; done) | (dsimp only; omega)) (by first | omega | (dsimp only; done) | (dsimp only; omega)) (land_224 (by first | omega | (dsimp only; done) | (dsimp only; omega))) (by first | omega | (dsimp only; done) | (dsimp only; omega)) ?_
      | refine Ev_and8 rfl rfl (by first | omega | (dsimp only; done) | (dsimp only; omega)) (by first | omega | (dsimp only; done) | (dsimp only; omega)) (land_240 (by first | omega | (dsimp only; done) | (dsimp only; omega))) (by first | omega | (dsimp only; done) | (dsimp only; omega)) ?_
      | refine Ev_shr rfl rfl rfl rfl ?_
      | refine Ev_conv rfl rfl rfl rfl rfl (by simp only [inR]; omega) ?_
      | refine Ev_conv8 rfl rfl rfl rfl rfl ?_)
  refine Ev_alloc_ rfl hok (by omega) ?_
  intro T hTn hTok hTq hTf
  have hq : T.h.get S.n = some (.cells 24 zeroC.cells false) := hTq
  repeat (
    first
      | refine W_seq ?_
      | refine WO_nil ?_
      | refine V_seq ?_
      | refine W_region ?_
      | refine W_drawn (by kernel_rfl) ?_
      | refine W_block ?_
      | refine W_scope ?_
      | refine W_skip ?_
      | refine W_ret ?_
      | refine W_exit ?_
      | refine W_label ?_
      | refine V_ret ?_
      | refine V_block ?_
      | refine V_block_x rfl ?_
      | refine V_block_y rfl ?_
      | refine V_seq_x ?_
      | refine V_loop_x ?_
      | refine W_cond_t rfl ?_
      | refine W_cond_f rfl ?_
      | refine WO_dst rfl rfl (by kernel_rfl) (by kernel_rfl) ?_
      | refine WO_no rfl rfl ?_
      | refine WO_guard_t rfl rfl rfl rfl rfl (by kernel_rfl) (by kernel_rfl) ?_
      | refine WO_guard_f rfl rfl rfl rfl rfl rfl (by kernel_rfl) (by kernel_rfl) ?_
      | refine WO_guard_x rfl rfl rfl rfl rfl (by kernel_rfl) (by kernel_rfl) ?_
      | refine Ev_move rfl ?_
      | refine Ev_assign rfl ?_
      | refine Ev_extract rfl rfl ?_
      | refine Ev_pick_t rfl rfl rfl ?_
      | refine Ev_pick_f rfl rfl rfl ?_
      | refine Ev_lssN rfl rfl ?_
      | refine Ev_leqN rfl rfl ?_
      | refine Ev_gtrN rfl rfl ?_
      | refine Ev_geqN rfl rfl ?_
      | refine Ev_eqlN rfl rfl ?_
      | refine Ev_neqN rfl rfl ?_
      | refine Ev_lss rfl rfl ?_
      | refine Ev_leq rfl rfl ?_
      | refine Ev_gtr rfl rfl ?_
      | refine Ev_geq rfl rfl ?_
      | refine Ev_eql rfl rfl ?_
      | refine Ev_neq rfl rfl ?_
      | refine Ev_seql rfl rfl ?_
      | refine Ev_sneq rfl rfl ?_
      | refine Ev_not rfl ?_
      | refine Ev_notb rfl ?_
      | refine Ev_nilCheck rfl ?_
      | refine Ev_ptr_eql rfl rfl rfl rfl ?_
      | refine Ev_ptr_neq rfl rfl rfl rfl ?_
      | refine Ev_fieldAddr rfl rfl rfl rfl rfl rfl ?_
      | refine Ev_len_str rfl rfl rfl rfl rfl ?_
      | refine Ev_len rfl rfl rfl rfl rfl rfl ?_
      | refine Ev_min rfl rfl rfl ?_
      | refine Ev_max rfl rfl rfl ?_
      | refine Ev_indexAddr rfl rfl rfl rfl rfl (by first | omega | (dsimp only; done) | (dsimp only; omega)) ?_
      | refine Ev_makeFunc rfl rfl ?_
      | refine Ev_conv_str rfl rfl rfl rfl rfl ?_
      | refine Ev_addN rfl rfl (by simp only [lim]; omega) ?_
      | refine Ev_subN rfl rfl (by simp only [lim]; omega) (by first | omega | (dsimp only; done) | (dsimp only; omega)) ?_
      | refine Ev_mulN rfl rfl (by simp only [lim]; omega) ?_
      | refine Ev_add rfl rfl (by simp only [inR]; omega) ?_
      | refine Ev_sub rfl rfl (by simp only [inR]; omega) ?_
      | refine Ev_mul rfl rfl (by simp only [inR]; omega) ?_
      | refine Ev_shrN (m := 6) (q := 64) rfl rfl rfl rfl ?_
      | refine Ev_shrN (m := 12) (q := 4096) rfl rfl rfl rfl ?_
      | refine Ev_shrN (m := 10) (q := 1024) rfl rfl rfl rfl ?_
      | refine Ev_shrN (m := 8) (q := 256) rfl rfl rfl rfl ?_
      | refine Ev_shrN (m := 4) (q := 16) rfl rfl rfl rfl ?_
      | refine Ev_shrN (m := 5) (q := 32) rfl rfl rfl rfl ?_
      | refine Ev_shrN (m := 7) (q := 128) rfl rfl rfl rfl ?_
      | refine Ev_shrN (m := 3) (q := 8) rfl rfl rfl rfl ?_
      | refine Ev_shrN (m := 18) (q := 262144) rfl rfl rfl rfl ?_
      | refine Ev_shlN (m := 6) (q := 64) rfl rfl rfl rfl (by simp only [lim]; omega) ?_
      | refine Ev_shlN (m := 12) (q := 4096) rfl rfl rfl rfl (by simp only [lim]; omega) ?_
      | refine Ev_shlN (m := 10) (q := 1024) rfl rfl rfl rfl (by simp only [lim]; omega) ?_
      | refine Ev_shlN (m := 8) (q := 256) rfl rfl rfl rfl (by simp only [lim]; omega) ?_
      | refine Ev_andN 3 8 rfl rfl rfl rfl (by simp only [lim]; omega) (by simp only [lim]; omega) ?_
      | refine Ev_andN 4 16 rfl rfl rfl rfl (by simp only [lim]; omega) (by simp only [lim]; omega) ?_
      | refine Ev_andN 5 32 rfl rfl rfl rfl (by simp only [lim]; omega) (by simp only [lim]; omega) ?_
      | refine Ev_andN 6 64 rfl rfl rfl rfl (by simp only [lim]; omega) (by simp only [lim]; omega) ?_
      | refine Ev_andN 10 1024 rfl rfl rfl rfl (by simp only [lim]; omega) (by simp only [lim]; omega) ?_
      | refine Ev_orN 4 rfl rfl rfl (by first | omega | (dsimp only; done) | (dsimp only; omega)) (by first | omega | (dsimp only; done) | (dsimp only; omega)) (by simp only [lim]; omega) ?_
      | refine Ev_orN 5 rfl rfl rfl (by first | omega | (dsimp only; done) | (dsimp only; omega)) (by first | omega | (dsimp only; done) | (dsimp only; omega)) (by simp only [lim]; omega) ?_
      | refine Ev_orN 6 rfl rfl rfl (by first | omega | (dsimp only; done) | (dsimp only; omega)) (by first | omega | (dsimp only; done) | (dsimp only; omega)) (by simp only [lim]; omega) ?_
      | refine Ev_orN 10 rfl rfl rfl (by first | omega | (dsimp only; done) | (dsimp only; omega)) (by first | omega | (dsimp only; done) | (dsimp only; omega)) (by simp only [lim]; omega) ?_
      | refine Ev_orN 12 rfl rfl rfl (by first | omega | (dsimp only; done) | (dsimp only; omega)) (by first | omega | (dsimp only; done) | (dsimp only; omega)) (by simp only [lim]; omega) ?_
      | refine Ev_orN 16 rfl rfl rfl (by first | omega | (dsimp only; done) | (dsimp only; omega)) (by first | omega | (dsimp only; done) | (dsimp only; omega)) (by simp only [lim]; omega) ?_
      | refine Ev_convN rfl rfl rfl rfl rfl (by simp only [lim]; omega) ?_
      | refine Ev_and8 rfl rfl (by first | omega | (dsimp only; done) | (dsimp only; omega)) (by first | omega | (dsimp only; done) | (dsimp only; omega)) (land_192 (by first | omega | (dsimp only; done) | (dsimp only; omega))) (by first | omega | (dsimp only; done) | (dsimp only; omega)) ?_
      | refine Ev_and8 rfl rfl (by first | omega | (dsimp only; done) | (dsimp only; omega)) (by first | omega | (dsimp only; done) | (dsimp only; omega)) (land_224 (by first | omega | (dsimp only; done) | (dsimp only; omega))) (by first | omega | (dsimp only; done) | (dsimp only; omega)) ?_
      | refine Ev_and8 rfl rfl (by first | omega | (dsimp only; done) | (dsimp only; omega)) (by first | omega | (dsimp only; done) | (dsimp only; omega)) (land_240 (by first | omega | (dsimp only; done) | (dsimp only; omega))) (by first | omega | (dsimp only; done) | (dsimp only; omega)) ?_
      | refine Ev_shr rfl rfl rfl rfl ?_
      | refine Ev_conv rfl rfl rfl rfl rfl (by simp only [inR]; omega) ?_
      | refine Ev_conv8 rfl rfl rfl rfl rfl ?_)
  refine Ev_build (v := .agg (numC n).cells) rfl rfl ?_
  repeat (
    first
      | refine W_seq ?_
      | refine WO_nil ?_
      | refine V_seq ?_
      | refine W_region ?_
      | refine W_drawn (by kernel_rfl) ?_
      | refine W_block ?_
      | refine W_scope ?_
      | refine W_skip ?_
      | refine W_ret ?_
      | refine W_exit ?_
      | refine W_label ?_
      | refine V_ret ?_
      | refine V_block ?_
      | refine V_block_x rfl ?_
      | refine V_block_y rfl ?_
      | refine V_seq_x ?_
      | refine V_loop_x ?_
      | refine W_cond_t rfl ?_
      | refine W_cond_f rfl ?_
      | refine WO_dst rfl rfl (by kernel_rfl) (by kernel_rfl) ?_
      | refine WO_no rfl rfl ?_
      | refine WO_guard_t rfl rfl rfl rfl rfl (by kernel_rfl) (by kernel_rfl) ?_
      | refine WO_guard_f rfl rfl rfl rfl rfl rfl (by kernel_rfl) (by kernel_rfl) ?_
      | refine WO_guard_x rfl rfl rfl rfl rfl (by kernel_rfl) (by kernel_rfl) ?_
      | refine Ev_move rfl ?_
      | refine Ev_assign rfl ?_
      | refine Ev_extract rfl rfl ?_
      | refine Ev_pick_t rfl rfl rfl ?_
      | refine Ev_pick_f rfl rfl rfl ?_
      | refine Ev_lssN rfl rfl ?_
      | refine Ev_leqN rfl rfl ?_
      | refine Ev_gtrN rfl rfl ?_
      | refine Ev_geqN rfl rfl ?_
      | refine Ev_eqlN rfl rfl ?_
      | refine Ev_neqN rfl rfl ?_
      | refine Ev_lss rfl rfl ?_
      | refine Ev_leq rfl rfl ?_
      | refine Ev_gtr rfl rfl ?_
      | refine Ev_geq rfl rfl ?_
      | refine Ev_eql rfl rfl ?_
      | refine Ev_neq rfl rfl ?_
      | refine Ev_seql rfl rfl ?_
      | refine Ev_sneq rfl rfl ?_
      | refine Ev_not rfl ?_
      | refine Ev_notb rfl ?_
      | refine Ev_nilCheck rfl ?_
      | refine Ev_ptr_eql rfl rfl rfl rfl ?_
      | refine Ev_ptr_neq rfl rfl rfl rfl ?_
      | refine Ev_fieldAddr rfl rfl rfl rfl rfl rfl ?_
      | refine Ev_len_str rfl rfl rfl rfl rfl ?_
      | refine Ev_len rfl rfl rfl rfl rfl rfl ?_
      | refine Ev_min rfl rfl rfl ?_
      | refine Ev_max rfl rfl rfl ?_
      | refine Ev_indexAddr rfl rfl rfl rfl rfl (by first | omega | (dsimp only; done) | (dsimp only; omega)) ?_
      | refine Ev_makeFunc rfl rfl ?_
      | refine Ev_conv_str rfl rfl rfl rfl rfl ?_
      | refine Ev_addN rfl rfl (by simp only [lim]; omega) ?_
      | refine Ev_subN rfl rfl (by simp only [lim]; omega) (by first | omega | (dsimp only; done) | (dsimp only; omega)) ?_
      | refine Ev_mulN rfl rfl (by simp only [lim]; omega) ?_
      | refine Ev_add rfl rfl (by simp only [inR]; omega) ?_
      | refine Ev_sub rfl rfl (by simp only [inR]; omega) ?_
      | refine Ev_mul rfl rfl (by simp only [inR]; omega) ?_
      | refine Ev_shrN (m := 6) (q := 64) rfl rfl rfl rfl ?_
      | refine Ev_shrN (m := 12) (q := 4096) rfl rfl rfl rfl ?_
      | refine Ev_shrN (m := 10) (q := 1024) rfl rfl rfl rfl ?_
      | refine Ev_shrN (m := 8) (q := 256) rfl rfl rfl rfl ?_
      | refine Ev_shrN (m := 4) (q := 16) rfl rfl rfl rfl ?_
      | refine Ev_shrN (m := 5) (q := 32) rfl rfl rfl rfl ?_
      | refine Ev_shrN (m := 7) (q := 128) rfl rfl rfl rfl ?_
      | refine Ev_shrN (m := 3) (q := 8) rfl rfl rfl rfl ?_
      | refine Ev_shrN (m := 18) (q := 262144) rfl rfl rfl rfl ?_
      | refine Ev_shlN (m := 6) (q := 64) rfl rfl rfl rfl (by simp only [lim]; omega) ?_
      | refine Ev_shlN (m := 12) (q := 4096) rfl rfl rfl rfl (by simp only [lim]; omega) ?_
      | refine Ev_shlN (m := 10) (q := 1024) rfl rfl rfl rfl (by simp only [lim]; omega) ?_
      | refine Ev_shlN (m := 8) (q := 256) rfl rfl rfl rfl (by simp only [lim]; omega) ?_
      | refine Ev_andN 3 8 rfl rfl rfl rfl (by simp only [lim]; omega) (by simp only [lim]; omega) ?_
      | refine Ev_andN 4 16 rfl rfl rfl rfl (by simp only [lim]; omega) (by simp only [lim]; omega) ?_
      | refine Ev_andN 5 32 rfl rfl rfl rfl (by simp only [lim]; omega) (by simp only [lim]; omega) ?_
      | refine Ev_andN 6 64 rfl rfl rfl rfl (by simp only [lim]; omega) (by simp only [lim]; omega) ?_
      | refine Ev_andN 10 1024 rfl rfl rfl rfl (by simp only [lim]; omega) (by simp only [lim]; omega) ?_
      | refine Ev_orN 4 rfl rfl rfl (by first | omega | (dsimp only; done) | (dsimp only; omega)) (by first | omega | (dsimp only; done) | (dsimp only; omega)) (by simp only [lim]; omega) ?_
      | refine Ev_orN 5 rfl rfl rfl (by first | omega | (dsimp only; done) | (dsimp only; omega)) (by first | omega | (dsimp only; done) | (dsimp only; omega)) (by simp only [lim]; omega) ?_
      | refine Ev_orN 6 rfl rfl rfl (by first | omega | (dsimp only; done) | (dsimp only; omega)) (by first | omega | (dsimp only; done) | (dsimp only; omega)) (by simp only [lim]; omega) ?_
      | refine Ev_orN 10 rfl rfl rfl (by first | omega | (dsimp only; done) | (dsimp only; omega)) (by first | omega | (dsimp only; done) | (dsimp only; omega)) (by simp only [lim]; omega) ?_
      | refine Ev_orN 12 rfl rfl rfl (by first | omega | (dsimp only; done) | (dsimp only; omega)) (by first | omega | (dsimp only; done) | (dsimp only; omega)) (by simp only [lim]; omega) ?_
      | refine Ev_orN 16 rfl rfl rfl (by first | omega | (dsimp only; done) | (dsimp only; omega)) (by first | omega | (dsimp only; done) | (dsimp only; omega)) (by simp only [lim]; omega) ?_
      | refine Ev_convN rfl rfl rfl rfl rfl (by simp only [lim]; omega) ?_
      | refine Ev_and8 rfl rfl (by first | omega | (dsimp only; done) | (dsimp only; omega)) (by first | omega | (dsimp only; done) | (dsimp only; omega)) (land_192 (by first | omega | (dsimp only; done) | (dsimp only; omega))) (by first | omega | (dsimp only; done) | (dsimp only; omega)) ?_
      | refine Ev_and8 rfl rfl (by first | omega | (dsimp only; done) | (dsimp only; omega)) (by first | omega | (dsimp only; done) | (dsimp only; omega)) (land_224 (by first | omega | (dsimp only; done) | (dsimp only; omega))) (by first | omega | (dsimp only; done) | (dsimp only; omega)) ?_
      | refine Ev_and8 rfl rfl (by first | omega | (dsimp only; done) | (dsimp only; omega)) (by first | omega | (dsimp only; done) | (dsimp only; omega)) (land_240 (by first | omega | (dsimp only; done) | (dsimp only; omega))) (by first | omega | (dsimp only; done) | (dsimp only; omega)) ?_
      | refine Ev_shr rfl rfl rfl rfl ?_
      | refine Ev_conv rfl rfl rfl rfl rfl (by simp only [inR]; omega) ?_
      | refine Ev_conv8 rfl rfl rfl rfl rfl ?_)
  refine Ev_store rfl rfl rfl rfl (CnA.ones _) hq (by simp [CnA.cells, AV.cells]) (by omega) ?_
  intro T3 gn3 gq3 gf3
  repeat (
    first
      | refine W_seq ?_
      | refine WO_nil ?_
      | refine V_seq ?_
      | refine W_region ?_
      | refine W_drawn (by kernel_rfl) ?_
      | refine W_block ?_
      | refine W_scope ?_
      | refine W_skip ?_
      | refine W_ret ?_
      | refine W_exit ?_
      | refine W_label ?_
      | refine V_ret ?_
      | refine V_block ?_
      | refine V_block_x rfl ?_
      | refine V_block_y rfl ?_
      | refine V_seq_x ?_
      | refine V_loop_x ?_
      | refine W_cond_t rfl ?_
      | refine W_cond_f rfl ?_
      | refine WO_dst rfl rfl (by kernel_rfl) (by kernel_rfl) ?_
      | refine WO_no rfl rfl ?_
      | refine WO_guard_t rfl rfl rfl rfl rfl (by kernel_rfl) (by kernel_rfl) ?_
      | refine WO_guard_f rfl rfl rfl rfl rfl rfl (by kernel_rfl) (by kernel_rfl) ?_
      | refine WO_guard_x rfl rfl rfl rfl rfl (by kernel_rfl) (by kernel_rfl) ?_
      | refine Ev_move rfl ?_
      | refine Ev_assign rfl ?_
      | refine Ev_extract rfl rfl ?_
      | refine Ev_pick_t rfl rfl rfl ?_
      | refine Ev_pick_f rfl rfl rfl ?_
      | refine Ev_lssN rfl rfl ?_
      | refine Ev_leqN rfl rfl ?_
      | refine Ev_gtrN rfl rfl ?_
      | refine Ev_geqN rfl rfl ?_
      | refine Ev_eqlN rfl rfl ?_
      | refine Ev_neqN rfl rfl ?_
      | refine Ev_lss rfl rfl ?_
      | refine Ev_leq rfl rfl ?_
      | refine Ev_gtr rfl rfl ?_
      | refine Ev_geq rfl rfl ?_
      | refine Ev_eql rfl rfl ?_
      | refine Ev_neq rfl rfl ?_
      | refine Ev_seql rfl rfl ?_
      | refine Ev_sneq rfl rfl ?_
      | refine Ev_not rfl ?_
      | refine Ev_notb rfl ?_
      | refine Ev_nilCheck rfl ?_
      | refine Ev_ptr_eql rfl rfl rfl rfl ?_
      | refine Ev_ptr_neq rfl rfl rfl rfl ?_
      | refine Ev_fieldAddr rfl rfl rfl rfl rfl rfl ?_
      | refine Ev_len_str rfl rfl rfl rfl rfl ?_
      | refine Ev_len rfl rfl rfl rfl rfl rfl ?_
      | refine Ev_min rfl rfl rfl ?_
      | refine Ev_max rfl rfl rfl ?_
      | refine Ev_indexAddr rfl rfl rfl rfl rfl (by first | omega | (dsimp only; done) | (dsimp only; omega)) ?_
      | refine Ev_makeFunc rfl rfl ?_
      | refine Ev_conv_str rfl rfl rfl rfl rfl ?_
      | refine Ev_addN rfl rfl (by simp only [lim]; omega) ?_
      | refine Ev_subN rfl rfl (by simp only [lim]; omega) (by first | omega | (dsimp only; done) | (dsimp only; omega)) ?_
      | refine Ev_mulN rfl rfl (by simp only [lim]; omega) ?_
      | refine Ev_add rfl rfl (by simp only [inR]; omega) ?_
      | refine Ev_sub rfl rfl (by simp only [inR]; omega) ?_
      | refine Ev_mul rfl rfl (by simp only [inR]; omega) ?_
      | refine Ev_shrN (m := 6) (q := 64) rfl rfl rfl rfl ?_
      | refine Ev_shrN (m := 12) (q := 4096) rfl rfl rfl rfl ?_
      | refine Ev_shrN (m := 10) (q := 1024) rfl rfl rfl rfl ?_
      | refine Ev_shrN (m := 8) (q := 256) rfl rfl rfl rfl ?_
      | refine Ev_shrN (m := 4) (q := 16) rfl rfl rfl rfl ?_
      | refine Ev_shrN (m := 5) (q := 32) rfl rfl rfl rfl ?_
      | refine Ev_shrN (m := 7) (q := 128) rfl rfl rfl rfl ?_
      | refine Ev_shrN (m := 3) (q := 8) rfl rfl rfl rfl ?_
      | refine Ev_shrN (m := 18) (q := 262144) rfl rfl rfl rfl ?_
      | refine Ev_shlN (m := 6) (q := 64) rfl rfl rfl rfl (by simp only [lim]; omega) ?_
      | refine Ev_shlN (m := 12) (q := 4096) rfl rfl rfl rfl (by simp only [lim]; omega) ?_
      | refine Ev_shlN (m := 10) (q := 1024) rfl rfl rfl rfl (by simp only [lim]; omega) ?_
      | refine Ev_shlN (m := 8) (q := 256) rfl rfl rfl rfl (by simp only [lim]; omega) ?_
      | refine Ev_andN 3 8 rfl rfl rfl rfl (by simp only [lim]; omega) (by simp only [lim]; omega) ?_
      | refine Ev_andN 4 16 rfl rfl rfl rfl (by simp only [lim]; omega) (by simp only [lim]; omega) ?_
      | refine Ev_andN 5 32 rfl rfl rfl rfl (by simp only [lim]; omega) (by simp only [lim]; omega) ?_
      | refine Ev_andN 6 64 rfl rfl rfl rfl (by simp only [lim]; omega) (by simp only [lim]; omega) ?_
      | refine Ev_andN 10 1024 rfl rfl rfl rfl (by simp only [lim]; omega) (by simp only [lim]; omega) ?_
      | refine Ev_orN 4 rfl rfl rfl (by first | omega | (dsimp only; done) | (dsimp only; omega)) (by first | omega | (dsimp only; done) | (dsimp only; omega)) (by simp only [lim]; omega) ?_
      | refine Ev_orN 5 rfl rfl rfl (by first | omega | (dsimp only; done) | (dsimp only; omega)) (by first | omega | (dsimp only; done) | (dsimp only; omega)) (by simp only [lim]; omega) ?_
      | refine Ev_orN 6 rfl rfl rfl (by first | omega | (dsimp only; done) | (dsimp only; omega)) (by first | omega | (dsimp only; done) | (dsimp only; omega)) (by simp only [lim]; omega) ?_
      | refine Ev_orN 10 rfl rfl rfl (by first | omega | (dsimp only; done) | (dsimp only; omega)) (by first | omega | (dsimp only; done) | (dsimp only; omega)) (by simp only [lim]; omega) ?_
      | refine Ev_orN 12 rfl rfl rfl (by first | omega | (dsimp only; done) | (dsimp only; omega)) (by first | omega | (dsimp only; done) | (dsimp only; omega)) (by simp only [lim]; omega) ?_
      | refine Ev_orN 16 rfl rfl rfl (by first | omega | (dsimp only; done) | (dsimp only; omega)) (by first | omega | (dsimp only; done) | (dsimp only; omega)) (by simp only [lim]; omega) ?_
      | refine Ev_convN rfl rfl rfl rfl rfl (by simp only [lim]; omega) ?_
      | refine Ev_and8 rfl rfl (by first | omega | (dsimp only; done) | (dsimp only; omega)) (by first | omega | (dsimp only; done) | (dsimp only; omega)) (land_192 (by first | omega | (dsimp only; done) | (dsimp only; omega))) (by first | omega | (dsimp only; done) | (dsimp only; omega)) ?_
      | refine Ev_and8 rfl rfl (by first | omega | (dsimp only; done) | (dsimp only; omega)) (by first | omega | (dsimp only; done) | (dsimp only; omega)) (land_224 (by first | omega | (dsimp only; done) | (dsimp only; omega))) (by first | omega | (dsimp only; done) | (dsimp only; omega)) ?_
      | refine Ev_and8 rfl rfl (by first | omega | (dsimp only; done) | (dsimp only; omega)) (by first | omega | (dsimp only; done) | (dsimp only; omega)) (land_240 (by first | omega | (dsimp only; done) | (dsimp only; omega))) (by first | omega | (dsimp only; done) | (dsimp only; omega)) ?_
      | refine Ev_shr rfl rfl rfl rfl ?_
      | refine Ev_conv rfl rfl rfl rfl rfl (by simp only [inR]; omega) ?_
      | refine Ev_conv8 rfl rfl rfl rfl rfl ?_)
  refine V_done_c rfl rfl (loadAt_c (c := numC n) gq3) ?_
  exact ⟨rfl, ⟨by omega, by omega, sok_upd hTok (by omega) gn3 gq3 gf3, fun c _ h => by rw [gf3 c (by omega), hTf c h]⟩⟩
theorem mark_runs {S : St} {i j : Int} (hok : Sok S) (hn : S.n + 10 ≤ 1000000000) :
    Runs X1 26 [.int .i64 i, .int .i64 j] S fun r _ => r = .agg (mkC i j).cells := by
  refine Runs_fn (m := 12) (by kernel_rfl) Tryd.func26 rfl (by kernel_rfl) (by kernel_rfl) ?_
  repeat (
    first
      | refine W_seq ?_
      | refine WO_nil ?_
      | refine V_seq ?_
      | refine W_region ?_
      | refine W_drawn (by kernel_rfl) ?_
      | refine W_block ?_
      | refine W_scope ?_
      | refine W_skip ?_
      | refine W_ret ?_
      | refine W_exit ?_
      | refine W_label ?_
      | refine V_ret ?_
      | refine V_block ?_
      | refine V_block_x rfl ?_
      | refine V_block_y rfl ?_
      | refine V_seq_x ?_
      | refine V_loop_x ?_
      | refine W_cond_t rfl ?_
      | refine W_cond_f rfl ?_
      | refine WO_dst rfl rfl (by kernel_rfl) (by kernel_rfl) ?_
      | refine WO_no rfl rfl ?_
      | refine WO_guard_t rfl rfl rfl rfl rfl (by kernel_rfl) (by kernel_rfl) ?_
      | refine WO_guard_f rfl rfl rfl rfl rfl rfl (by kernel_rfl) (by kernel_rfl) ?_
      | refine WO_guard_x rfl rfl rfl rfl rfl (by kernel_rfl) (by kernel_rfl) ?_
      | refine Ev_move rfl ?_
      | refine Ev_assign rfl ?_
      | refine Ev_extract rfl rfl ?_
      | refine Ev_pick_t rfl rfl rfl ?_
      | refine Ev_pick_f rfl rfl rfl ?_
      | refine Ev_lssN rfl rfl ?_
      | refine Ev_leqN rfl rfl ?_
      | refine Ev_gtrN rfl rfl ?_
      | refine Ev_geqN rfl rfl ?_
      | refine Ev_eqlN rfl rfl ?_
      | refine Ev_neqN rfl rfl ?_
      | refine Ev_lss rfl rfl ?_
      | refine Ev_leq rfl rfl ?_
      | refine Ev_gtr rfl rfl ?_
      | refine Ev_geq rfl rfl ?_
      | refine Ev_eql rfl rfl ?_
      | refine Ev_neq rfl rfl ?_
      | refine Ev_seql rfl rfl ?_
      | refine Ev_sneq rfl rfl ?_
      | refine Ev_not rfl ?_
      | refine Ev_notb rfl ?_
      | refine Ev_nilCheck rfl ?_
      | refine Ev_ptr_eql rfl rfl rfl rfl ?_
      | refine Ev_ptr_neq rfl rfl rfl rfl ?_
      | refine Ev_fieldAddr rfl rfl rfl rfl rfl rfl ?_
      | refine Ev_len_str rfl rfl rfl rfl rfl ?_
      | refine Ev_len rfl rfl rfl rfl rfl rfl ?_
      | refine Ev_min rfl rfl rfl ?_
      | refine Ev_max rfl rfl rfl ?_
      | refine Ev_indexAddr rfl rfl rfl rfl rfl (by first | omega | (dsimp only; done) | (dsimp only; omega)) ?_
      | refine Ev_makeFunc rfl rfl ?_
      | refine Ev_conv_str rfl rfl rfl rfl rfl ?_
      | refine Ev_addN rfl rfl (by simp only [lim]; omega) ?_
      | refine Ev_subN rfl rfl (by simp only [lim]; omega) (by first | omega | (dsimp only; done) | (dsimp only; omega)) ?_
      | refine Ev_mulN rfl rfl (by simp only [lim]; omega) ?_
      | refine Ev_add rfl rfl (by simp only [inR]; omega) ?_
      | refine Ev_sub rfl rfl (by simp only [inR]; omega) ?_
      | refine Ev_mul rfl rfl (by simp only [inR]; omega) ?_
      | refine Ev_shrN (m := 6) (q := 64) rfl rfl rfl rfl ?_
      | refine Ev_shrN (m := 12) (q := 4096) rfl rfl rfl rfl ?_
      | refine Ev_shrN (m := 10) (q := 1024) rfl rfl rfl rfl ?_
      | refine Ev_shrN (m := 8) (q := 256) rfl rfl rfl rfl ?_
      | refine Ev_shrN (m := 4) (q := 16) rfl rfl rfl rfl ?_
      | refine Ev_shrN (m := 5) (q := 32) rfl rfl rfl rfl ?_
      | refine Ev_shrN (m := 7) (q := 128) rfl rfl rfl rfl ?_
      | refine Ev_shrN (m := 3) (q := 8) rfl rfl rfl rfl ?_
      | refine Ev_shrN (m := 18) (q := 262144) rfl rfl rfl rfl ?_
      | refine Ev_shlN (m := 6) (q := 64) rfl rfl rfl rfl (by simp only [lim]; omega) ?_
      | refine Ev_shlN (m := 12) (q := 4096) rfl rfl rfl rfl (by simp only [lim]; omega) ?_
      | refine Ev_shlN (m := 10) (q := 1024) rfl rfl rfl rfl (by simp only [lim]; omega) ?_
      | refine Ev_shlN (m := 8) (q := 256) rfl rfl rfl rfl (by simp only [lim]; omega) ?_
      | refine Ev_andN 3 8 rfl rfl rfl rfl (by simp only [lim]; omega) (by simp only [lim]; omega) ?_
      | refine Ev_andN 4 16 rfl rfl rfl rfl (by simp only [lim]; omega) (by simp only [lim]; omega) ?_
      | refine Ev_andN 5 32 rfl rfl rfl rfl (by simp only [lim]; omega) (by simp only [lim]; omega) ?_
      | refine Ev_andN 6 64 rfl rfl rfl rfl (by simp only [lim]; omega) (by simp only [lim]; omega) ?_
      | refine Ev_andN 10 1024 rfl rfl rfl rfl (by simp only [lim]; omega) (by simp only [lim]; omega) ?_
      | refine Ev_orN 4 rfl rfl rfl (by first | omega | (dsimp only; done) | (dsimp only; omega)) (by first | omega | (dsimp only; done) | (dsimp only; omega)) (by simp only [lim]; omega) ?_
      | refine Ev_orN 5 rfl rfl rfl (by first | omega | (dsimp only; done) | (dsimp only; omega)) (by first | omega | (dsimp only; done) | (dsimp only; omega)) (by simp only [lim]; omega) ?_
      | refine Ev_orN 6 rfl rfl rfl (by first | omega | (dsimp only; done) | (dsimp only; omega)) (by first | omega | (dsimp only; done) | (dsimp only; omega)) (by simp only [lim]; omega) ?_
      | refine Ev_orN 10 rfl rfl rfl (by first | omega | (dsimp only; done) | (dsimp only; omega)) (by first | omega | (dsimp only; done) | (dsimp only; omega)) (by simp only [lim]; omega) ?_
      | refine Ev_orN 12 rfl rfl rfl (by first | omega | (dsimp only; done) | (dsimp only; omega)) (by first | omega | (dsimp only; done) | (dsimp only; omega)) (by simp only [lim]; omega) ?_
      | refine Ev_orN 16 rfl rfl rfl (by first | omega | (dsimp only; done) | (dsimp only; omega)) (by first | omega | (dsimp only; done) | (dsimp only; omega)) (by simp only [lim]; omega) ?_
      | refine Ev_convN rfl rfl rfl rfl rfl (by simp only [lim]; omega) ?_
      | refine Ev_and8 rfl rfl (by first | omega | (dsimp only; done) | (dsimp only; omega)) (by first | omega | (dsimp only; done) | (dsimp only; omega)) (land_192 (by first | omega | (dsimp only; done) | (dsimp only; omega))) (by first | omega | (dsimp only; done) | (dsimp only; omega)) ?_
      | refine Ev_and8 rfl rfl (by first | omega | (dsimp only; done) | (dsimp only; omega)) (by first | omega | (dsimp only; done) | (dsimp only; omega)) (land_224 (by first | omega | (dsimp only; done) | (dsimp only; omega))) (by first | omega | (dsimp only; done) | (dsimp only; omega)) ?_
      | refine Ev_and8 rfl rfl (by first | omega | (dsimp only; done) | (dsimp only; omega)) (by first | omega | (dsimp only; done) | (dsimp only; omega)) (land_240 (by first | omega | (dsimp only; done) | (dsimp only; omega))) (by first | omega | (dsimp only; done) | (dsimp only; omega)) ?_
      | refine Ev_shr rfl rfl rfl rfl ?_
      | refine Ev_conv rfl rfl rfl rfl rfl (by simp only [inR]; omega) ?_
      | refine Ev_conv8 rfl rfl rfl rfl rfl ?_)
  refine Ev_alloc_ rfl hok (by omega) ?_
  intro T hTn hTok hTq hTf
  have hq : T.h.get S.n = some (.cells 24 zeroC.cells false) := hTq
  repeat (first | refine WO_nil ?_ | refine V_seq ?_ | refine W_seq ?_ | refine W_region ?_ | refine WO_dst rfl rfl (by kernel_rfl) (by kernel_rfl) ?_ | refine Ev_move rfl ?_)
  refine Ev_mulw rfl rfl ?_
  repeat (first | refine WO_dst rfl rfl (by kernel_rfl) (by kernel_rfl) ?_ | refine Ev_move rfl ?_)
  refine Ev_subw rfl rfl ?_
  repeat (first | refine WO_dst rfl rfl (by kernel_rfl) (by kernel_rfl) ?_ | refine Ev_move rfl ?_)
  refine Ev_subw rfl rfl ?_
  repeat (first | refine WO_dst rfl rfl (by kernel_rfl) (by kernel_rfl) ?_ | refine Ev_move rfl ?_)
  refine Ev_convw rfl rfl rfl rfl rfl ?_
  repeat (
    first
      | refine W_seq ?_
      | refine WO_nil ?_
      | refine V_seq ?_
      | refine W_region ?_
      | refine W_drawn (by kernel_rfl) ?_
      | refine W_block ?_
      | refine W_scope ?_
      | refine W_skip ?_
      | refine W_ret ?_
      | refine W_exit ?_
      | refine W_label ?_
      | refine V_ret ?_
      | refine V_block ?_
      | refine V_block_x rfl ?_
      | refine V_block_y rfl ?_
      | refine V_seq_x ?_
      | refine V_loop_x ?_
      | refine W_cond_t rfl ?_
      | refine W_cond_f rfl ?_
      | refine WO_dst rfl rfl (by kernel_rfl) (by kernel_rfl) ?_
      | refine WO_no rfl rfl ?_
      | refine WO_guard_t rfl rfl rfl rfl rfl (by kernel_rfl) (by kernel_rfl) ?_
      | refine WO_guard_f rfl rfl rfl rfl rfl rfl (by kernel_rfl) (by kernel_rfl) ?_
      | refine WO_guard_x rfl rfl rfl rfl rfl (by kernel_rfl) (by kernel_rfl) ?_
      | refine Ev_move rfl ?_
      | refine Ev_assign rfl ?_
      | refine Ev_extract rfl rfl ?_
      | refine Ev_pick_t rfl rfl rfl ?_
      | refine Ev_pick_f rfl rfl rfl ?_
      | refine Ev_lssN rfl rfl ?_
      | refine Ev_leqN rfl rfl ?_
      | refine Ev_gtrN rfl rfl ?_
      | refine Ev_geqN rfl rfl ?_
      | refine Ev_eqlN rfl rfl ?_
      | refine Ev_neqN rfl rfl ?_
      | refine Ev_lss rfl rfl ?_
      | refine Ev_leq rfl rfl ?_
      | refine Ev_gtr rfl rfl ?_
      | refine Ev_geq rfl rfl ?_
      | refine Ev_eql rfl rfl ?_
      | refine Ev_neq rfl rfl ?_
      | refine Ev_seql rfl rfl ?_
      | refine Ev_sneq rfl rfl ?_
      | refine Ev_not rfl ?_
      | refine Ev_notb rfl ?_
      | refine Ev_nilCheck rfl ?_
      | refine Ev_ptr_eql rfl rfl rfl rfl ?_
      | refine Ev_ptr_neq rfl rfl rfl rfl ?_
      | refine Ev_fieldAddr rfl rfl rfl rfl rfl rfl ?_
      | refine Ev_len_str rfl rfl rfl rfl rfl ?_
      | refine Ev_len rfl rfl rfl rfl rfl rfl ?_
      | refine Ev_min rfl rfl rfl ?_
      | refine Ev_max rfl rfl rfl ?_
      | refine Ev_indexAddr rfl rfl rfl rfl rfl (by first | omega | (dsimp only; done) | (dsimp only; omega)) ?_
      | refine Ev_makeFunc rfl rfl ?_
      | refine Ev_conv_str rfl rfl rfl rfl rfl ?_
      | refine Ev_addN rfl rfl (by simp only [lim]; omega) ?_
      | refine Ev_subN rfl rfl (by simp only [lim]; omega) (by first | omega | (dsimp only; done) | (dsimp only; omega)) ?_
      | refine Ev_mulN rfl rfl (by simp only [lim]; omega) ?_
      | refine Ev_add rfl rfl (by simp only [inR]; omega) ?_
      | refine Ev_sub rfl rfl (by simp only [inR]; omega) ?_
      | refine Ev_mul rfl rfl (by simp only [inR]; omega) ?_
      | refine Ev_shrN (m := 6) (q := 64) rfl rfl rfl rfl ?_
      | refine Ev_shrN (m := 12) (q := 4096) rfl rfl rfl rfl ?_
      | refine Ev_shrN (m := 10) (q := 1024) rfl rfl rfl rfl ?_
      | refine Ev_shrN (m := 8) (q := 256) rfl rfl rfl rfl ?_
      | refine Ev_shrN (m := 4) (q := 16) rfl rfl rfl rfl ?_
      | refine Ev_shrN (m := 5) (q := 32) rfl rfl rfl rfl ?_
      | refine Ev_shrN (m := 7) (q := 128) rfl rfl rfl rfl ?_
      | refine Ev_shrN (m := 3) (q := 8) rfl rfl rfl rfl ?_
      | refine Ev_shrN (m := 18) (q := 262144) rfl rfl rfl rfl ?_
      | refine Ev_shlN (m := 6) (q := 64) rfl rfl rfl rfl (by simp only [lim]; omega) ?_
      | refine Ev_shlN (m := 12) (q := 4096) rfl rfl rfl rfl (by simp only [lim]; omega) ?_
      | refine Ev_shlN (m := 10) (q := 1024) rfl rfl rfl rfl (by simp only [lim]; omega) ?_
      | refine Ev_shlN (m := 8) (q := 256) rfl rfl rfl rfl (by simp only [lim]; omega) ?_
      | refine Ev_andN 3 8 rfl rfl rfl rfl (by simp only [lim]; omega) (by simp only [lim]; omega) ?_
      | refine Ev_andN 4 16 rfl rfl rfl rfl (by simp only [lim]; omega) (by simp only [lim]; omega) ?_
      | refine Ev_andN 5 32 rfl rfl rfl rfl (by simp only [lim]; omega) (by simp only [lim]; omega) ?_
      | refine Ev_andN 6 64 rfl rfl rfl rfl (by simp only [lim]; omega) (by simp only [lim]; omega) ?_
      | refine Ev_andN 10 1024 rfl rfl rfl rfl (by simp only [lim]; omega) (by simp only [lim]; omega) ?_
      | refine Ev_orN 4 rfl rfl rfl (by first | omega | (dsimp only; done) | (dsimp only; omega)) (by first | omega | (dsimp only; done) | (dsimp only; omega)) (by simp only [lim]; omega) ?_
      | refine Ev_orN 5 rfl rfl rfl (by first | omega | (dsimp only; done) | (dsimp only; omega)) (by first | omega | (dsimp only; done) | (dsimp only; omega)) (by simp only [lim]; omega) ?_
      | refine Ev_orN 6 rfl rfl rfl (by first | omega | (dsimp only; done) | (dsimp only; omega)) (by first | omega | (dsimp only; done) | (dsimp only; omega)) (by simp only [lim]; omega) ?_
      | refine Ev_orN 10 rfl rfl rfl (by first | omega | (dsimp only; done) | (dsimp only; omega)) (by first | omega | (dsimp only; done) | (dsimp only; omega)) (by simp only [lim]; omega) ?_
      | refine Ev_orN 12 rfl rfl rfl (by first | omega | (dsimp only; done) | (dsimp only; omega)) (by first | omega | (dsimp only; done) | (dsimp only; omega)) (by simp only [lim]; omega) ?_
      | refine Ev_orN 16 rfl rfl rfl (by first | omega | (dsimp only; done) | (dsimp only; omega)) (by first | omega | (dsimp only; done) | (dsimp only; omega)) (by simp only [lim]; omega) ?_
      | refine Ev_convN rfl rfl rfl rfl rfl (by simp only [lim]; omega) ?_
      | refine Ev_and8 rfl rfl (by first | omega | (dsimp only; done) | (dsimp only; omega)) (by first | omega | (dsimp only; done) | (dsimp only; omega)) (land_192 (by first | omega | (dsimp only; done) | (dsimp only; omega))) (by first | omega | (dsimp only; done) | (dsimp only; omega)) ?_
      | refine Ev_and8 rfl rfl (by first | omega | (dsimp only; done) | (dsimp only; omega)) (by first | omega | (dsimp only; done) | (dsimp only; omega)) (land_224 (by first | omega | (dsimp only; done) | (dsimp only; omega))) (by first | omega | (dsimp only; done) | (dsimp only; omega)) ?_
      | refine Ev_and8 rfl rfl (by first | omega | (dsimp only; done) | (dsimp only; omega)) (by first | omega | (dsimp only; done) | (dsimp only; omega)) (land_240 (by first | omega | (dsimp only; done) | (dsimp only; omega))) (by first | omega | (dsimp only; done) | (dsimp only; omega)) ?_
      | refine Ev_shr rfl rfl rfl rfl ?_
      | refine Ev_conv rfl rfl rfl rfl rfl (by simp only [inR]; omega) ?_
      | refine Ev_conv8 rfl rfl rfl rfl rfl ?_)
  refine Ev_call rfl rfl ((numc_runs hTok (by omega)).mono ?_)
  rintro _ T2 - ⟨rfl, hF2⟩
  have hq2 : T2.h.get S.n = some (.cells 24 zeroC.cells false) := by rw [hF2.same S.n (by simp [blkOf]) (by omega)]; exact hq
  repeat (
    first
      | refine W_seq ?_
      | refine WO_nil ?_
      | refine V_seq ?_
      | refine W_region ?_
      | refine W_drawn (by kernel_rfl) ?_
      | refine W_block ?_
      | refine W_scope ?_
      | refine W_skip ?_
      | refine W_ret ?_
      | refine W_exit ?_
      | refine W_label ?_
      | refine V_ret ?_
      | refine V_block ?_
      | refine V_block_x rfl ?_
      | refine V_block_y rfl ?_
      | refine V_seq_x ?_
      | refine V_loop_x ?_
      | refine W_cond_t rfl ?_
      | refine W_cond_f rfl ?_
      | refine WO_dst rfl rfl (by kernel_rfl) (by kernel_rfl) ?_
      | refine WO_no rfl rfl ?_
      | refine WO_guard_t rfl rfl rfl rfl rfl (by kernel_rfl) (by kernel_rfl) ?_
      | refine WO_guard_f rfl rfl rfl rfl rfl rfl (by kernel_rfl) (by kernel_rfl) ?_
      | refine WO_guard_x rfl rfl rfl rfl rfl (by kernel_rfl) (by kernel_rfl) ?_
      | refine Ev_move rfl ?_
      | refine Ev_assign rfl ?_
      | refine Ev_extract rfl rfl ?_
      | refine Ev_pick_t rfl rfl rfl ?_
      | refine Ev_pick_f rfl rfl rfl ?_
      | refine Ev_lssN rfl rfl ?_
      | refine Ev_leqN rfl rfl ?_
      | refine Ev_gtrN rfl rfl ?_
      | refine Ev_geqN rfl rfl ?_
      | refine Ev_eqlN rfl rfl ?_
      | refine Ev_neqN rfl rfl ?_
      | refine Ev_lss rfl rfl ?_
      | refine Ev_leq rfl rfl ?_
      | refine Ev_gtr rfl rfl ?_
      | refine Ev_geq rfl rfl ?_
      | refine Ev_eql rfl rfl ?_
      | refine Ev_neq rfl rfl ?_
      | refine Ev_seql rfl rfl ?_
      | refine Ev_sneq rfl rfl ?_
      | refine Ev_not rfl ?_
      | refine Ev_notb rfl ?_
      | refine Ev_nilCheck rfl ?_
      | refine Ev_ptr_eql rfl rfl rfl rfl ?_
      | refine Ev_ptr_neq rfl rfl rfl rfl ?_
      | refine Ev_fieldAddr rfl rfl rfl rfl rfl rfl ?_
      | refine Ev_len_str rfl rfl rfl rfl rfl ?_
      | refine Ev_len rfl rfl rfl rfl rfl rfl ?_
      | refine Ev_min rfl rfl rfl ?_
      | refine Ev_max rfl rfl rfl ?_
      | refine Ev_indexAddr rfl rfl rfl rfl rfl (by first | omega | (dsimp only; done) | (dsimp only; omega)) ?_
      | refine Ev_makeFunc rfl rfl ?_
      | refine Ev_conv_str rfl rfl rfl rfl rfl ?_
      | refine Ev_addN rfl rfl (by simp only [lim]; omega) ?_
      | refine Ev_subN rfl rfl (by simp only [lim]; omega) (by first | omega | (dsimp only; done) | (dsimp only; omega)) ?_
      | refine Ev_mulN rfl rfl (by simp only [lim]; omega) ?_
      | refine Ev_add rfl rfl (by simp only [inR]; omega) ?_
      | refine Ev_sub rfl rfl (by simp only [inR]; omega) ?_
      | refine Ev_mul rfl rfl (by simp only [inR]; omega) ?_
      | refine Ev_shrN (m := 6) (q := 64) rfl rfl rfl rfl ?_
      | refine Ev_shrN (m := 12) (q := 4096) rfl rfl rfl rfl ?_
      | refine Ev_shrN (m := 10) (q := 1024) rfl rfl rfl rfl ?_
      | refine Ev_shrN (m := 8) (q := 256) rfl rfl rfl rfl ?_
      | refine Ev_shrN (m := 4) (q := 16) rfl rfl rfl rfl ?_
      | refine Ev_shrN (m := 5) (q := 32) rfl rfl rfl rfl ?_
      | refine Ev_shrN (m := 7) (q := 128) rfl rfl rfl rfl ?_
      | refine Ev_shrN (m := 3) (q := 8) rfl rfl rfl rfl ?_
      | refine Ev_shrN (m := 18) (q := 262144) rfl rfl rfl rfl ?_
      | refine Ev_shlN (m := 6) (q := 64) rfl rfl rfl rfl (by simp only [lim]; omega) ?_
      | refine Ev_shlN (m := 12) (q := 4096) rfl rfl rfl rfl (by simp only [lim]; omega) ?_
      | refine Ev_shlN (m := 10) (q := 1024) rfl rfl rfl rfl (by simp only [lim]; omega) ?_
      | refine Ev_shlN (m := 8) (q := 256) rfl rfl rfl rfl (by simp only [lim]; omega) ?_
      | refine Ev_andN 3 8 rfl rfl rfl rfl (by simp only [lim]; omega) (by simp only [lim]; omega) ?_
      | refine Ev_andN 4 16 rfl rfl rfl rfl (by simp only [lim]; omega) (by simp only [lim]; omega) ?_
      | refine Ev_andN 5 32 rfl rfl rfl rfl (by simp only [lim]; omega) (by simp only [lim]; omega) ?_
      | refine Ev_andN 6 64 rfl rfl rfl rfl (by simp only [lim]; omega) (by simp only [lim]; omega) ?_
      | refine Ev_andN 10 1024 rfl rfl rfl rfl (by simp only [lim]; omega) (by simp only [lim]; omega) ?_
      | refine Ev_orN 4 rfl rfl rfl (by first | omega | (dsimp only; done) | (dsimp only; omega)) (by first | omega | (dsimp only; done) | (dsimp only; omega)) (by simp only [lim]; omega) ?_
      | refine Ev_orN 5 rfl rfl rfl (by first | omega | (dsimp only; done) | (dsimp only; omega)) (by first | omega | (dsimp only; done) | (dsimp only; omega)) (by simp only [lim]; omega) ?_
      | refine Ev_orN 6 rfl rfl rfl (by first | omega | (dsimp only; done) | (dsimp only; omega)) (by first | omega | (dsimp only; done) | (dsimp only; omega)) (by simp only [lim]; omega) ?_
      | refine Ev_orN 10 rfl rfl rfl (by first | omega | (dsimp only; done) | (dsimp only; omega)) (by first | omega | (dsimp only; done) | (dsimp only; omega)) (by simp only [lim]; omega) ?_
      | refine Ev_orN 12 rfl rfl rfl (by first | omega | (dsimp only; done) | (dsimp only; omega)) (by first | omega | (dsimp only; done) | (dsimp only; omega)) (by simp only [lim]; omega) ?_
      | refine Ev_orN 16 rfl rfl rfl (by first | omega | (dsimp only; done) | (dsimp only; omega)) (by first | omega | (dsimp only; done) | (dsimp only; omega)) (by simp only [lim]; omega) ?_
      | refine Ev_convN rfl rfl rfl rfl rfl (by simp only [lim]; omega) ?_
      | refine Ev_and8 rfl rfl (by first | omega | (dsimp only; done) | (dsimp only; omega)) (by first | omega | (dsimp only; done) | (dsimp only; omega)) (land_192 (by first | omega | (dsimp only; done) | (dsimp only; omega))) (by first | omega | (dsimp only; done) | (dsimp only; omega)) ?_
      | refine Ev_and8 rfl rfl (by first | omega | (dsimp only; done) | (dsimp only; omega)) (by first | omega | (dsimp only; done) | (dsimp only; omega)) (land_224 (by first | omega | (dsimp only; done) | (dsimp only; omega))) (by first | omega | (dsimp only; done) | (dsimp only; omega)) ?_
      | refine Ev_and8 rfl rfl (by first | omega | (dsimp only; done) | (dsimp only; omega)) (by first | omega | (dsimp only; done) | (dsimp only; omega)) (land_240 (by first | omega | (dsimp only; done) | (dsimp only; omega))) (by first | omega | (dsimp only; done) | (dsimp only; omega)) ?_
      | refine Ev_shr rfl rfl rfl rfl ?_
      | refine Ev_conv rfl rfl rfl rfl rfl (by simp only [inR]; omega) ?_
      | refine Ev_conv8 rfl rfl rfl rfl rfl ?_)
  refine Ev_store rfl rfl rfl rfl (CnA.ones _) hq2 (by simp [CnA.cells, AV.cells]) (by omega) ?_
  intro T3 gn3 gq3 gf3
  repeat (
    first
      | refine W_seq ?_
      | refine WO_nil ?_
      | refine V_seq ?_
      | refine W_region ?_
      | refine W_drawn (by kernel_rfl) ?_
      | refine W_block ?_
      | refine W_scope ?_
      | refine W_skip ?_
      | refine W_ret ?_
      | refine W_exit ?_
      | refine W_label ?_
      | refine V_ret ?_
      | refine V_block ?_
      | refine V_block_x rfl ?_
      | refine V_block_y rfl ?_
      | refine V_seq_x ?_
      | refine V_loop_x ?_
      | refine W_cond_t rfl ?_
      | refine W_cond_f rfl ?_
      | refine WO_dst rfl rfl (by kernel_rfl) (by kernel_rfl) ?_
      | refine WO_no rfl rfl ?_
      | refine WO_guard_t rfl rfl rfl rfl rfl (by kernel_rfl) (by kernel_rfl) ?_
      | refine WO_guard_f rfl rfl rfl rfl rfl rfl (by kernel_rfl) (by kernel_rfl) ?_
      | refine WO_guard_x rfl rfl rfl rfl rfl (by kernel_rfl) (by kernel_rfl) ?_
      | refine Ev_move rfl ?_
      | refine Ev_assign rfl ?_
      | refine Ev_extract rfl rfl ?_
      | refine Ev_pick_t rfl rfl rfl ?_
      | refine Ev_pick_f rfl rfl rfl ?_
      | refine Ev_lssN rfl rfl ?_
      | refine Ev_leqN rfl rfl ?_
      | refine Ev_gtrN rfl rfl ?_
      | refine Ev_geqN rfl rfl ?_
      | refine Ev_eqlN rfl rfl ?_
      | refine Ev_neqN rfl rfl ?_
      | refine Ev_lss rfl rfl ?_
      | refine Ev_leq rfl rfl ?_
      | refine Ev_gtr rfl rfl ?_
      | refine Ev_geq rfl rfl ?_
      | refine Ev_eql rfl rfl ?_
      | refine Ev_neq rfl rfl ?_
      | refine Ev_seql rfl rfl ?_
      | refine Ev_sneq rfl rfl ?_
      | refine Ev_not rfl ?_
      | refine Ev_notb rfl ?_
      | refine Ev_nilCheck rfl ?_
      | refine Ev_ptr_eql rfl rfl rfl rfl ?_
      | refine Ev_ptr_neq rfl rfl rfl rfl ?_
      | refine Ev_fieldAddr rfl rfl rfl rfl rfl rfl ?_
      | refine Ev_len_str rfl rfl rfl rfl rfl ?_
      | refine Ev_len rfl rfl rfl rfl rfl rfl ?_
      | refine Ev_min rfl rfl rfl ?_
      | refine Ev_max rfl rfl rfl ?_
      | refine Ev_indexAddr rfl rfl rfl rfl rfl (by first | omega | (dsimp only; done) | (dsimp only; omega)) ?_
      | refine Ev_makeFunc rfl rfl ?_
      | refine Ev_conv_str rfl rfl rfl rfl rfl ?_
      | refine Ev_addN rfl rfl (by simp only [lim]; omega) ?_
      | refine Ev_subN rfl rfl (by simp only [lim]; omega) (by first | omega | (dsimp only; done) | (dsimp only; omega)) ?_
      | refine Ev_mulN rfl rfl (by simp only [lim]; omega) ?_
      | refine Ev_add rfl rfl (by simp only [inR]; omega) ?_
      | refine Ev_sub rfl rfl (by simp only [inR]; omega) ?_
      | refine Ev_mul rfl rfl (by simp only [inR]; omega) ?_
      | refine Ev_shrN (m := 6) (q := 64) rfl rfl rfl rfl ?_
      | refine Ev_shrN (m := 12) (q := 4096) rfl rfl rfl rfl ?_
      | refine Ev_shrN (m := 10) (q := 1024) rfl rfl rfl rfl ?_
      | refine Ev_shrN (m := 8) (q := 256) rfl rfl rfl rfl ?_
      | refine Ev_shrN (m := 4) (q := 16) rfl rfl rfl rfl ?_
      | refine Ev_shrN (m := 5) (q := 32) rfl rfl rfl rfl ?_
      | refine Ev_shrN (m := 7) (q := 128) rfl rfl rfl rfl ?_
      | refine Ev_shrN (m := 3) (q := 8) rfl rfl rfl rfl ?_
      | refine Ev_shrN (m := 18) (q := 262144) rfl rfl rfl rfl ?_
      | refine Ev_shlN (m := 6) (q := 64) rfl rfl rfl rfl (by simp only [lim]; omega) ?_
      | refine Ev_shlN (m := 12) (q := 4096) rfl rfl rfl rfl (by simp only [lim]; omega) ?_
      | refine Ev_shlN (m := 10) (q := 1024) rfl rfl rfl rfl (by simp only [lim]; omega) ?_
      | refine Ev_shlN (m := 8) (q := 256) rfl rfl rfl rfl (by simp only [lim]; omega) ?_
      | refine Ev_andN 3 8 rfl rfl rfl rfl (by simp only [lim]; omega) (by simp only [lim]; omega) ?_
      | refine Ev_andN 4 16 rfl rfl rfl rfl (by simp only [lim]; omega) (by simp only [lim]; omega) ?_
      | refine Ev_andN 5 32 rfl rfl rfl rfl (by simp only [lim]; omega) (by simp only [lim]; omega) ?_
      | refine Ev_andN 6 64 rfl rfl rfl rfl (by simp only [lim]; omega) (by simp only [lim]; omega) ?_
      | refine Ev_andN 10 1024 rfl rfl rfl rfl (by simp only [lim]; omega) (by simp only [lim]; omega) ?_
      | refine Ev_orN 4 rfl rfl rfl (by first | omega | (dsimp only; done) | (dsimp only; omega)) (by first | omega | (dsimp only; done) | (dsimp only; omega)) (by simp only [lim]; omega) ?_
      | refine Ev_orN 5 rfl rfl rfl (by first | omega | (dsimp only; done) | (dsimp only; omega)) (by first | omega | (dsimp only; done) | (dsimp only; omega)) (by simp only [lim]; omega) ?_
      | refine Ev_orN 6 rfl rfl rfl (by first | omega | (dsimp only; done) | (dsimp only; omega)) (by first | omega | (dsimp only; done) | (dsimp only; omega)) (by simp only [lim]; omega) ?_
      | refine Ev_orN 10 rfl rfl rfl (by first | omega | (dsimp only; done) | (dsimp only; omega)) (by first | omega | (dsimp only; done) | (dsimp only; omega)) (by simp only [lim]; omega) ?_
      | refine Ev_orN 12 rfl rfl rfl (by first | omega | (dsimp only; done) | (dsimp only; omega)) (by first | omega | (dsimp only; done) | (dsimp only; omega)) (by simp only [lim]; omega) ?_
      | refine Ev_orN 16 rfl rfl rfl (by first | omega | (dsimp only; done) | (dsimp only; omega)) (by first | omega | (dsimp only; done) | (dsimp only; omega)) (by simp only [lim]; omega) ?_
      | refine Ev_convN rfl rfl rfl rfl rfl (by simp only [lim]; omega) ?_
      | refine Ev_and8 rfl rfl (by first | omega | (dsimp only; done) | (dsimp only; omega)) (by first | omega | (dsimp only; done) | (dsimp only; omega)) (land_192 (by first | omega | (dsimp only; done) | (dsimp only; omega))) (by first | omega | (dsimp only; done) | (dsimp only; omega)) ?_
      | refine Ev_and8 rfl rfl (by first | omega | (dsimp only; done) | (dsimp only; omega)) (by first | omega | (dsimp only; done) | (dsimp only; omega)) (land_224 (by first | omega | (dsimp only; done) | (dsimp only; omega))) (by first | omega | (dsimp only; done) | (dsimp only; omega)) ?_
      | refine Ev_and8 rfl rfl (by first | omega | (dsimp only; done) | (dsimp only; omega)) (by first | omega | (dsimp only; done) | (dsimp only; omega)) (land_240 (by first | omega | (dsimp only; done) | (dsimp only; omega))) (by first | omega | (dsimp only; done) | (dsimp only; omega)) ?_
      | refine Ev_shr rfl rfl rfl rfl ?_
      | refine Ev_conv rfl rfl rfl rfl rfl (by simp only [inR]; omega) ?_
      | refine Ev_conv8 rfl rfl rfl rfl rfl ?_)
  refine V_done_c rfl rfl (loadAt_c (c := mkC i j) gq3) ?_
  rfl
/-- the machine in which a mark is made in one step -/
def extMark (args : List AV) (S : St) : Option (AV × St) := match args with
  | [.int .i64 i, .int .i64 j] => some (.agg (mkC i j).cells, S)
  | _ => none
noncomputable def ext2 (f : Nat) : Option (List AV → St → Option (AV × St)) := bif Nat.beq f 26 then some extMark else X1.ext f
noncomputable abbrev X2 : X := { X1 with ext := ext2 }
theorem extMark_ok [Val] (hx : ∀ f g, X1.ext f = some g → ExtOK Tryd.prog f g) : ExtOK Tryd.prog 26 extMark := by
  intro args S r S' h
  unfold extMark at h
  split at h
  · rename_i i j
    simp only [Option.some.injEq, Prod.mk.injEq] at h
    obtain ⟨rfl, rfl⟩ := h
    refine ⟨Nat.le_refl _, ?_⟩
    intro φ w vs hv hw _
    have hv0 : vrels φ0 [.int .i64 i, .int .i64 j] vs.toList := by
      simp only [vrels, vrel] at hv ⊢
      exact hv
    obtain ⟨fuel, v, S1, h1, _, rfl⟩ := (mark_runs (i := i) (j := j) (S := { h := .leaf, n := 0 }) (by intro c x h; simp [Tr.get] at h) (by show 0 + 10 ≤ _; omega)).elim
    have hs := call_sound xok1 hx h1 hv0 (wrel_empty w (fun g o ho => (hw.ro g o ho).1)) (fun _ _ _ => rfl)
    intro o a next Q hq
    refine hs o a next Q ?_
    rintro u w' ⟨φ', k1, k2, k3⟩
    have hbel : Go.RowKit.Below w.heap.size w w' := ⟨k3.os, k3.tape, k3.output, k3.size, fun k hk => k3.frame k hk (by intro id b l e; cases e)⟩
    obtain ⟨m1, m2⟩ := kept_below (n := S.n) hw hbel
    refine hq u w' ⟨φ, ?_, m1, m2⟩
    simp only [vrel, CnA.cells, vrels] at k1 ⊢
    exact k1
  · cases h
theorem xok2 [Val] : XOK Tryd.prog X2 := ⟨xok1.ti, xok1.fn, xok1.gor, xok1.mixed, xok1.eqs⟩
theorem ext2_ok [Val] (hx : ∀ f g, X1.ext f = some g → ExtOK Tryd.prog f g) : ∀ f g, X2.ext f = some g → ExtOK Tryd.prog f g := by
  intro f g h
  have h' : (bif Nat.beq f 26 then some extMark else X1.ext f) = some g := h
  rw [nbeq, cond_dec] at h'
  split at h'
  · rename_i e; subst e; cases h'; exact extMark_ok hx
  · exact hx f g h'
end Go.Proofs.YthhbnnnokmefoaaDoor
/- GX: reasoning about runs: loads of whole structs in a region that draws its order; two bools compared. -/

namespace GX
noncomputable section
open Go
section
variable {X : X} {l : L} {S : St} {R : AV → St → Prop} {t u : Nat} {x y : Operand} {D : List Fct} {i : Nat}
theorem load_eq_agg {e : Env} {H : Tr AB} {t : Nat} {x : Operand} {p : AV} {o : Nat} {i : TI} {cs ds : List AV} {m : Nat} (hx : opd e x = some p) (hi : X.ti t = some i) (hag : aggD i.desc = true) (hp : Pt { h := H, n := m } p cs o) (hle : o + i.size ≤ cs.length) (hv : (cs.drop o).take i.size = ds) : readOp X e H (.load t x) = some (.agg ds) := by
  unfold readOp; dsimp only; rw [hx]
  rcases hp with ⟨b, o0, ty, cs0, sp, rfl, h2, h3, h4⟩ | rfl
  · have hrow : row H b (o0 + o) i.size = some ds := by
      unfold row; rw [h2]; dsimp only; rw [nble, decide_eq_true (by omega)]; simp only [cond_true]; rw [drop_take_eq h4 hle, hv]
    dsimp only; unfold loadAt; rw [hi]; dsimp only
    split
    · rw [hrow]
    · rw [hrow]
    · rename_i h1 h2
      cases hd : i.desc with
      | struct f => exact absurd hd (h1 f)
      | array a b => exact absurd hd (h2 a b)
      | _ => rw [hd] at hag; cases hag
  · dsimp only; unfold loadR; rw [hi]; dsimp only
    split
    · rw [nble, decide_eq_true hle]; simp only [cond_true]; rw [hv]
    · rw [nble, decide_eq_true hle]; simp only [cond_true]; rw [hv]
    · rename_i h1 h2
      cases hd : i.desc with
      | struct f => exact absurd hd (h1 f)
      | array a b => exact absurd hd (h2 a b)
      | _ => rw [hd] at hag; cases hag
theorem FPD_loadA {t : Nat} {x : Operand} {p : AV} {o : Nat} {i' : TI} {cs ds : List AV} {ms : List Nat} (hx : od l x = some p) (hi : X.ti t = some i') (hag : aggD i'.desc = true) (hp : Pt S p cs o) (hle : o + i'.size ≤ cs.length) (hv : (cs.drop o).take i'.size = ds)
    (hb : ∀ b, blkOf p = some b → ∃ f ∈ D, f.id = b ∧ S.h.get b = some f.x ∧ ∀ j, f.src = some j → inM ms i j = true) :
    ∀ e, Ag l e → cls X e (.load t x) = .read ∧ FPD X D ms i e (.load t x) (.agg ds) := fun _ he =>
  ⟨rfl, fun H hH => load_eq_agg (m := S.n) (od_ok he hx) hi hag (hp.keep fun b h => by
    obtain ⟨f, h1, h2, h3, h4⟩ := hb b h
    show H.get b = _; rw [h3, ← h2]; exact hH f h1 h4) hle hv⟩
theorem FPD_loadA_n {o : Nat} {i' : TI} {cs ds : List AV} {ms : List Nat} (hx : od l x = some (.rptr cs o)) (hi : X.ti t = some i') (hag : aggD i'.desc = true) (hle : o + i'.size ≤ cs.length) (hv : (cs.drop o).take i'.size = ds) :
    ∀ e, Ag l e → cls X e (.load t x) = .read ∧ FPD X D ms i e (.load t x) (.agg ds) :=
  FPD_loadA (S := { h := .leaf, n := 0 }) hx hi hag (.inr rfl) hle hv (fun b hb => by cases hb)
theorem Ev_beql {a b : Bool} {i : TI} (hx : od l x = some (.bool a)) (hy : od l y = some (.bool b)) (hi : X.ti t = some i) (hd : i.desc = .bool) (hR : R (.bool (a == b)) S) : Ev X l S (.binOp .eql t x y u) R :=
  Ev_bin hx hy rfl (by unfold abin; dsimp only; unfold aeq; rw [hi]; dsimp only; rw [hd]) hR
end
end
end GX
/- GX: reasoning about runs: slices that are appended to, and whose beginning is let go. -/

namespace GX
noncomputable section
open Go
/-- a slice of its own, from somewhere in its block on -/
def OwA (S : St) (v : AV) (el sz : Nat) (cs : List AV) (m : Nat) : Prop :=
  (v = .nils ∧ cs = [] ∧ m = 0) ∨ ∃ b pre, v = .slice b pre.length m (.op sz) ∧ S.h.get b = some (.cells el (pre ++ cs) true) ∧ cs.length = m * sz
theorem OwA.keep {S S' : St} {v : AV} {el sz : Nat} {cs : List AV} {m : Nat} (h : OwA S v el sz cs m) (hk : ∀ b, blkOf v = some b → S'.h.get b = S.h.get b) : OwA S' v el sz cs m := by
  rcases h with h | ⟨b, pre, h1, h2, h3⟩
  · exact .inl h
  · exact .inr ⟨b, pre, h1, by rw [hk b (by rw [h1]; rfl)]; exact h2, h3⟩
theorem OwA.of {S : St} {v : AV} {el sz : Nat} {cs : List AV} {m : Nat} (h : Own S v el sz cs m) : OwA S v el sz cs m := by
  rcases h with h | ⟨b, h1, h2, h3⟩
  · exact .inl h
  · exact .inr ⟨b, [], h1, h2, h3⟩
theorem OwA.rd {S : St} {v : AV} {el sz : Nat} {cs : List AV} {m : Nat} (h : OwA S v el sz cs m) : Rd S v sz cs m := by
  rcases h with ⟨h1, h2, h3⟩ | ⟨b, pre, h1, h2, h3⟩
  · subst h1; subst h2; subst h3; exact ⟨rfl, rfl, rfl, rfl, rfl, by simp⟩
  · subst h1
    refine ⟨by simp [capW], veq_slice _ _ _ _, rfl, rfl, ?_, h3⟩
    unfold srcCells row; dsimp only; rw [h2]; dsimp only
    rw [nble, decide_eq_true (by rw [List.length_append]; omega)]
    simp only [cond_true, List.drop_left]
    rw [List.take_of_length_le (by omega)]
theorem OwA.lt {S : St} {v : AV} {el sz : Nat} {cs : List AV} {m : Nat} (h : OwA S v el sz cs m) (hok : Sok S) {b : Nat} (hb : blkOf v = some b) : b < S.n := h.rd.lt hok hb
section
variable {X : X} {l : L} {S : St} {R : AV → St → Prop} {x y : Operand} {t t' : Nat}
theorem Ev_append_a {xs : Array Operand} {ts : Array TypeId} {tr : List TypeId} {i i' ei : TI} {el m k : Nat} {vs vx : AV} {cs new : List AV} (hxs : xs.toList = [x, y]) (hts : ts.toList = t :: t' :: tr) (hi' : X.ti t' = some i') (hni : (match i'.desc with | .int _ => false | _ => true) = true)
    (hx : od l x = some vs) (hy : od l y = some vx) (hi : X.ti t = some i) (hd : i.desc = .slice el) (he' : X.ti el = some ei) (hz : (Nat.beq ei.size 0 || !(Nat.beq ei.zero.length ei.size)) = false)
    (hown : OwA S vs el ei.size cs m) (hk : k ≠ 0) (hnew : Rd S vx ei.size new k) (hone : new.all AV.one = true) (hok : Sok S) (hn : S.n < 1000000000) (hlim : (2 * (m + k) + 1000) * ei.bytes ≤ 140737488355328) (hlim2 : m + k ≤ 140737488355328)
    (hR : ∀ v' S', S'.n = S.n + 1 → Sok S' → OwA S' v' el ei.size (cs ++ new) (m + k) → (∀ c, blkOf vs ≠ some c → c < S.n → S'.h.get c = S.h.get c) → blkOf v' = some S.n → R v' S') :
    Ev X l S (.call { callee := .builtin .append, args := xs, argTypes := ts }) R := by
  have key : ∀ v' S', aappend X S t vs vx = some (v', S') → S.n ≤ S'.n → R v' S' → Ev X l S (.call { callee := .builtin .append, args := xs, argTypes := ts }) R := by
    intro v' S' ha hle hr
    refine Ev_loud (fun e he => ⟨rfl, ?_⟩) hle hr
    unfold loudOp; dsimp only; rw [hxs, hts]; dsimp only; rw [hi']; dsimp only
    split
    · rename_i hdd; rw [hdd] at hni; cases hni
    · rw [od_ok he hx, od_ok he hy]; exact ha
  have hz0 : ei.size ≠ 0 := by intro h; rw [h] at hz; simp [nbeq] at hz
  have hl := srcLen_of hnew.len
  have ha0 : aappend X S t vs vx = appBody S el ei.size ei.bytes k new vs := app_eq hi hd he' hz hl hnew.cells
  have hkb : Nat.beq k 0 = false := by rw [nbeq]; simp [hk]
  rcases hown with ⟨h1, h2, h3⟩ | ⟨b, pre, h1, h2, h3⟩
  · subst h1; subst h2; subst h3
    rw [Nat.zero_add] at hlim hlim2
    refine key (.slice S.n 0 k (.op ei.size)) (S.new (.cells el new true)) ?_ (Nat.le_succ _) (hR _ _ rfl ?_ (.inr ⟨S.n, [], by rw [Nat.zero_add]; rfl, ?_, ?_⟩) ?_ rfl)
    · rw [ha0]; unfold appBody; dsimp only; rw [hkb]; simp only [cond_false]; unfold grow
      rw [nblt, nble, nble, decide_eq_true hn, decide_eq_true hlim, decide_eq_true hlim2]; rfl
    · intro c x hc
      rw [get_new hn] at hc
      by_cases h : c = S.n
      · rw [h]; exact Nat.lt_succ_self _
      · rw [if_neg h] at hc; exact Nat.lt_succ_of_lt (hok c x hc)
    · rw [get_new hn, if_pos rfl]; rfl
    · simpa using hnew.size
    · intro c _ hc; rw [get_new hn, if_neg (by omega)]
  · subst h1
    have hbn : b < S.n := hok _ _ h2
    have hns : ¬ (pre.length + (m + k) * ei.size ≤ (pre ++ cs).length) := by
      rw [List.length_append, h3, Nat.add_mul]
      have : 0 < k * ei.size := Nat.mul_pos (by omega) (by omega)
      omega
    refine key (.slice S.n 0 (m + k) (.op ei.size)) { h := Tr.set 40 (S.h.del b) S.n (.cells el ((pre ++ cs).drop pre.length ++ new) true), n := S.n + 1 } ?_ (Nat.le_succ _) (hR _ _ rfl ?_ (.inr ⟨S.n, [], rfl, ?_, ?_⟩) ?_ rfl)
    · rw [ha0]; unfold appBody; dsimp only; rw [hkb]; simp only [cond_false]
      rw [nbeq, decide_eq_true rfl]; simp only [Bool.not_true, cond_false]
      rw [h2]; dsimp only
      rw [nble, decide_eq_false hns]; simp only [cond_false]
      rw [nblt, nble, nble, nbeq, nbeq, decide_eq_true hn, decide_eq_true hlim, decide_eq_true hlim2, decide_eq_true rfl, decide_eq_true (by rw [List.length_append]; omega : pre.length + m * ei.size = (pre ++ cs).length), hone]; rfl
    · intro c x hc
      dsimp only at hc
      rw [Tr.get_set 40 _ _ _ _ (by omega)] at hc
      by_cases h : c = S.n
      · rw [h]; exact Nat.lt_succ_self _
      · rw [if_neg h, Tr.get_del] at hc
        split at hc
        · cases hc
        · exact Nat.lt_succ_of_lt (hok c x hc)
    · dsimp only; rw [Tr.get_set 40 _ _ _ _ (by omega), if_pos rfl, List.drop_left]; rfl
    · rw [List.length_append, h3, hnew.size, Nat.add_mul]
    · intro c hcb hc
      dsimp only
      rw [Tr.get_set 40 _ _ _ _ (by omega), if_neg (by omega), Tr.get_del, if_neg (fun h => hcb (by rw [h]; rfl))]
theorem Ev_slice_a {k : IntKind} {i ei : TI} {el m lo : Nat} {v : AV} {cs : List AV} (hx : od l x = some v) (hy : od l y = some (.int k ((lo : Nat) : Int))) (hi0 : X.ti t = some i) (hd : i.desc = .slice el) (he' : X.ti el = some ei) (hown : OwA S v el ei.size cs m) (hlo : lo < m)
    (hR : ∀ v', OwA S v' el ei.size (cs.drop (lo * ei.size)) (m - lo) → blkOf v' = blkOf v → R v' S) : Ev X l S (.slice t x (some y) none none) R := by
  rcases hown with ⟨_, _, h3⟩ | ⟨b, pre, h1, h2, h3⟩
  · omega
  · subst h1
    have hle : lo * ei.size ≤ cs.length := by rw [h3]; exact Nat.mul_le_mul_right _ (by omega)
    have hpl : (pre ++ cs.take (lo * ei.size)).length = pre.length + lo * ei.size := by rw [List.length_append, List.length_take]; omega
    refine Ev_slice hx (by unfold odopt; dsimp only; rw [hy]) rfl rfl hi0 hd he' rfl (r := .slice b (pre.length + lo * ei.size) (m - lo) (.op ei.size)) ?_ (hR _ (.inr ⟨b, pre ++ cs.take (lo * ei.size), by rw [hpl], ?_, ?_⟩) rfl)
    · unfold aslice
      dsimp only
      rw [hi0]; dsimp only; rw [hd]; dsimp only; rw [he']; dsimp only
      have hb : bounds m m (some (.int k ((lo : Nat) : Int))) none = some (lo, m) := by
        unfold bounds
        dsimp only
        have : bound (.int k ((lo : Nat) : Int)) m = some lo := by
          show (bif Nat.ble lo m then some lo else none) = some lo
          rw [nble, decide_eq_true (by omega)]; rfl
        rw [this]
      rw [hb]
      dsimp only
      rw [nblt, nbeq, decide_eq_true hlo, decide_eq_true rfl]; rfl
    · rw [List.append_assoc, List.take_append_drop]; exact h2
    · rw [List.length_drop, h3, Nat.sub_mul]
end
end
end GX
/- carafebook.Book of constants: Stays, Apart, Keep, for lists whose capacity is known. (NODRAWN) -/




namespace Go.Proofs.YthhbnnnokmefoaaDoor
open GX
set_option maxHeartbeats 16000000
set_option maxRecDepth 100000
theorem aeq_raw2 (c d : CnA) : aeq X2 10 24 (.agg c.cells) (.agg d.cells) = (match ieq c.kind d.kind with | true => (match ieq c.n d.n with | true => (match seq c.cl d.cl with | true => (match seq c.nm d.nm with | true => (match seq c.ds d.ds with | true => some true | false => some false) | false => some false) | false => some false) | false => some false) | false => some false) := by kernel_rfl
theorem aeq_const2 (c d : CnA) : aeq X2 10 24 (.agg c.cells) (.agg d.cells) = some (decide (c = d)) := by
  rw [aeq_raw2, ieq_dec, ieq_dec, seq_eq, seq_eq, seq_eq]
  have e : c = d ↔ c.kind = d.kind ∧ c.n = d.n ∧ c.cl = d.cl ∧ c.nm = d.nm ∧ c.ds = d.ds := by
    cases c; cases d; simp
  by_cases h1 : c.kind = d.kind
  · rw [decide_eq_true h1]
    by_cases h2 : c.n = d.n
    · rw [decide_eq_true h2]
      by_cases h3 : c.cl = d.cl
      · rw [decide_eq_true h3]
        by_cases h4 : c.nm = d.nm
        · rw [decide_eq_true h4]
          by_cases h5 : c.ds = d.ds
          · rw [decide_eq_true h5, decide_eq_true (e.2 ⟨h1, h2, h3, h4, h5⟩)]
          · rw [decide_eq_false h5, decide_eq_false (fun h => h5 (e.1 h).2.2.2.2)]
        · rw [decide_eq_false h4, decide_eq_false (fun h => h4 (e.1 h).2.2.2.1)]
      · rw [decide_eq_false h3, decide_eq_false (fun h => h3 (e.1 h).2.2.1)]
    · rw [decide_eq_false h2, decide_eq_false (fun h => h2 (e.1 h).2.1)]
  · rw [decide_eq_false h1, decide_eq_false (fun h => h1 (e.1 h).1)]
theorem abin_eq2 (c d : CnA) : abin X2 .eql 24 (.agg c.cells) (.agg d.cells) = some (.bool (decide (c = d))) := by
  unfold abin; dsimp only; rw [aeq_const2]
theorem abin_ne2 (c d : CnA) : abin X2 .neq 24 (.agg c.cells) (.agg d.cells) = some (.bool (decide (c ≠ d))) := by
  unfold abin; dsimp only; rw [aeq_const2]; dsimp only; congr 2; by_cases h : c = d <;> simp [h]
section
variable {l : L} {S : St} {R : AV → St → Prop} {x y : Go.Operand} {u : Nat}
theorem Ev_ceql2 {c d : CnA} (hx : od l x = some (.agg c.cells)) (hy : od l y = some (.agg d.cells)) (hR : R (.bool (decide (c = d))) S) : Ev X2 l S (.binOp .eql 24 x y u) R :=
  Ev_bin hx hy rfl (abin_eq2 c d) hR
theorem Ev_cneq2 {c d : CnA} (hx : od l x = some (.agg c.cells)) (hy : od l y = some (.agg d.cells)) (hR : R (.bool (decide (c ≠ d))) S) : Ev X2 l S (.binOp .neq 24 x y u) R :=
  Ev_bin hx hy rfl (abin_ne2 c d) hR
end
/-- the same constants -/
theorem csame_runs2 {S : St} {v w : AV} {a b : List CnA} (hv : Cs S v a) (hw : Cs S w b) (hl : a.length ≤ 1000000000 ∧ b.length ≤ 1000000000) :
    Runs X2 21 [v, w] S fun r S' => r = .bool (decide (a = b)) ∧ S' = S := by
  refine Runs_fn (m := 26) (by kernel_rfl) Tryd.func21 rfl (by kernel_rfl) (by kernel_rfl) ?_
  repeat' (
    first
      | refine W_seq ?_
      | refine WO_nil ?_
      | refine V_seq ?_
      | refine W_region ?_
      | refine W_skip ?_
      | refine W_block ?_
      | refine W_ret ?_
      | refine V_ret ?_
      | refine WO_dst rfl rfl (by kernel_rfl) (by kernel_rfl) ?_
      | refine Ev_len rfl rfl rfl rfl rfl hv.len ?_
      | refine Ev_len rfl rfl rfl rfl rfl hw.len ?_
      | refine Ev_move rfl ?_
      | refine Ev_assign rfl ?_
      | refine Ev_neqN rfl rfl ?_
      | (refine W_cond rfl (fun hc => ?_) (fun hc => ?_) <;> (try dsimp only at hc) <;> try (exfalso; first | omega | exact hc rfl)))
  · refine V_done rfl rfl ⟨?_, rfl⟩
    rw [decide_eq_false (fun h => hc (by rw [h]))]; rfl
  · have hlen : a.length = b.length := Classical.not_not.1 hc
    refine W_inv (fun i : Nat => [(5, .int .i64 ((i : Nat) : Int)), (0, v), (1, w)]) (fun i T => T = S ∧ i ≤ a.length ∧ a.take i = b.take i) (fun i => a.length - i) ?_ 0 ⟨rfl, Nat.zero_le _, by simp⟩ ⟨rfl, rfl, rfl, trivial⟩
    rintro i T ⟨rfl, hi, heq⟩ back
    repeat' (
      first
        | refine W_seq ?_
        | refine WO_nil ?_
        | refine V_seq ?_
        | refine W_region ?_
        | refine W_skip ?_
        | refine W_block ?_
        | refine W_ret ?_
        | refine W_exit ?_
        | refine V_block_x rfl ?_
        | refine V_seq_x ?_
        | refine V_loop_x ?_
        | refine WO_dst rfl rfl (by kernel_rfl) (by kernel_rfl) ?_
        | refine Ev_len rfl rfl rfl rfl rfl hv.len ?_
        | refine Ev_move rfl ?_
        | refine Ev_assign rfl ?_
        | refine Ev_lssN rfl rfl ?_
        | (refine W_cond rfl (fun hc => ?_) (fun hc => ?_) <;> (try dsimp only at hc) <;> try (exfalso; first | omega | exact hc rfl)))
    · have hlt : i < a.length := hc
      have hlb : i < b.length := by omega
      refine W_drawn (by kernel_rfl) ?_
      repeat (
        first
          | refine WO_dst rfl rfl (by kernel_rfl) (by kernel_rfl) ?_
          | refine Ev_move rfl ?_)
      refine Ev_indexAddr_rd rfl rfl rfl rfl rfl hv hlt ?_
      intro q hq
      repeat (
        refine WO_dst rfl rfl (by kernel_rfl) (by kernel_rfl) ?_)
      refine Ev_load_pt_agg rfl rfl rfl hq (by rw [cellsC_len]; dsimp only; omega) (cellsC_get a i hlt) (CnA.veqs _) ?_
      repeat (
        first
          | refine WO_dst rfl rfl (by kernel_rfl) (by kernel_rfl) ?_
          | refine Ev_move rfl ?_)
      refine Ev_indexAddr_rd rfl rfl rfl rfl rfl hw hlb ?_
      intro q' hq'
      repeat (
        refine WO_dst rfl rfl (by kernel_rfl) (by kernel_rfl) ?_)
      refine Ev_load_pt_agg rfl rfl rfl hq' (by rw [cellsC_len]; dsimp only; omega) (cellsC_get b i hlb) (CnA.veqs _) ?_
      repeat (
        refine WO_dst rfl rfl (by kernel_rfl) (by kernel_rfl) ?_)
      refine Ev_cneq2 rfl rfl ?_
      repeat' (
        first
          | refine W_seq ?_
          | refine WO_nil ?_
          | refine V_seq ?_
          | refine W_region ?_
          | refine W_skip ?_
          | refine W_ret ?_
          | refine V_ret ?_
          | refine V_block ?_
          | refine WO_dst rfl rfl (by kernel_rfl) (by kernel_rfl) ?_
          | refine Ev_move rfl ?_
          | refine Ev_assign rfl ?_
          | refine Ev_addN rfl rfl (by simp only [lim]; omega) ?_
          | (refine W_cond rfl (fun hc => ?_) (fun hc => ?_) <;> (try dsimp only at hc) <;> try (exfalso; first | omega | exact hc rfl)))
      · refine V_done rfl rfl ⟨?_, rfl⟩
        rw [decide_eq_false]; rfl
        intro h
        subst h
        exact hc rfl
      · refine back (i + 1) _ _ (by omega) ⟨rfl, by omega, ?_⟩ ⟨rfl, rfl, rfl, trivial⟩
        rw [List.take_succ_eq_append_getElem hlt, List.take_succ_eq_append_getElem hlb, heq, Classical.not_not.1 hc]
    · refine V_done rfl rfl ⟨?_, rfl⟩
      have hi2 : i = a.length := by omega
      rw [decide_eq_true]; rfl
      rw [hi2, List.take_length, hlen, List.take_length] at heq
      exact heq
section
variable {X : X} {l : L} {S : St} {R : AV → St → Prop} {x : Go.Operand}
theorem Ev_cap_ex {xs : Array Go.Operand} {ts : Array Go.TypeId} {t : Nat} {tr : List Go.TypeId} {i : TI} {el b o n k : Nat} (hxs : xs.toList = [x]) (hts : ts.toList = t :: tr) (hi : X.ti t = some i) (hd : i.desc = .slice el) (hx : od l x = some (.slice b o n (.ex k))) (hR : R (.int .i64 ((k : Nat) : Int)) S) :
    Ev X l S (.call { callee := .builtin .cap, args := xs, argTypes := ts }) R :=
  Ev_pure (fun e he => ⟨by unfold cls; rfl, by unfold pureOp; dsimp only; rw [hxs, hts]; dsimp only; rw [hi]; dsimp only; rw [hd, od_ok he hx]; rfl⟩) hR
theorem Ev_slice_cap {t : Nat} {y : Go.Operand} {kk : Go.IntKind} {ti ei : TI} {el b n k : Nat} (hx : od l x = some (.slice b 0 n (.ex k))) (hy : od l y = some (.int kk ((k : Nat) : Int))) (hti : X.ti t = some ti) (hd : ti.desc = .slice el) (he' : X.ti el = some ei) (hR : R (.slice b 0 k (.ex k)) S) :
    Ev X l S (.slice t x none (some y) none) R := by
  refine Ev_slice hx rfl (by unfold odopt; dsimp only; rw [hy]) rfl hti hd he' rfl (r := .slice b 0 k (.ex k)) ?_ hR
  unfold aslice
  dsimp only
  rw [hti]; dsimp only; rw [hd]; dsimp only; rw [he']; dsimp only
  have hb : bounds n k none (some (.int kk ((k : Nat) : Int))) = some (0, k) := by
    unfold bounds
    dsimp only
    have : bound (.int kk ((k : Nat) : Int)) k = some k := by
      show (match nat? ((k : Nat) : Int) with | some m => _ | none => none) = some k
      show (bif Nat.ble k k then some k else none) = some k
      rw [nble, decide_eq_true (Nat.le_refl k)]; rfl
    rw [this]
  rw [hb]
  dsimp only
  have e : (bif Nat.beq k 0 then 0 else 0 + 0 * ei.size) = 0 := by cases Nat.beq k 0 <;> simp
  rw [e]; rfl
end
/-- a list that is kept: its capacity, what is in it, what is behind that, and a copy -/
structure It where
  v : AV
  c : Nat
  cs : List CnA
  extra : List AV
  w : AV
structure ItOK (T : St) (i : It) : Prop where
  kind : (∃ b, i.v = .slice b 0 i.cs.length (.ex i.c) ∧ T.h.get b = some (.cells 24 (cellsC i.cs ++ i.extra) true) ∧ i.cs.length * 5 + i.extra.length = i.c * 5) ∨ (i.cs = [] ∧ i.c = 0 ∧ (i.v = .nils ∨ ∃ b o, i.v = .slice b o 0 (.ex 0) ∧ Cs T i.v []))
  lim : i.c < 9223372036854775808
  wr : Cs T i.w i.cs
  small : i.cs.length ≤ 100000
theorem ItOK.rd {T : St} {i : It} (h : ItOK T i) : Cs T i.v i.cs := by
  rcases h.kind with ⟨b, h1, h2, h3⟩ | ⟨h1, h2, h3 | ⟨b, o, h3, h4⟩⟩
  · rw [h1]
    refine ⟨?_, veq_slice _ _ _ _, rfl, rfl, ?_, by rw [cellsC_len]; omega⟩
    · show Nat.ble i.cs.length i.c = true
      rw [nble]; exact decide_eq_true (by omega)
    · unfold srcCells row; dsimp only; rw [h2]; dsimp only
      rw [nble, decide_eq_true (by rw [List.length_append, cellsC_len]; omega)]
      simp only [cond_true, List.drop_zero]
      rw [List.take_append_of_le_length (by rw [cellsC_len]; omega), List.take_of_length_le (by rw [cellsC_len]; omega)]
  · rw [h1, h3]; exact ⟨rfl, rfl, rfl, rfl, rfl, rfl⟩
  · rw [h1]; exact h4
theorem ItOK.keep {T U : St} {i : It} (h : ItOK T i) (hv : ∀ b, blkOf i.v = some b → U.h.get b = T.h.get b) (hw : ∀ b, blkOf i.w = some b → U.h.get b = T.h.get b) : ItOK U i := by
  refine ⟨?_, h.lim, h.wr.keep hw, h.small⟩
  rcases h.kind with ⟨b, h1, h2, h3⟩ | ⟨h1, h2, h3 | ⟨b, o, h3, h4⟩⟩
  · exact .inl ⟨b, h1, by rw [hv b (by rw [h1]; rfl)]; exact h2, h3⟩
  · exact .inr ⟨h1, h2, .inl h3⟩
  · exact .inr ⟨h1, h2, .inr ⟨b, o, h3, h4.keep hv⟩⟩
/-- a list's capacity -/
theorem ItOK.cap {T : St} {i : It} (h : ItOK T i) : (∃ b o, i.v = .slice b o i.cs.length (.ex i.c)) ∨ (i.v = .nils ∧ i.c = 0) := by
  rcases h.kind with ⟨b, h1, h2, h3⟩ | ⟨h1, h2, h3 | ⟨b, o, h3, h4⟩⟩
  · exact .inl ⟨b, 0, h1⟩
  · exact .inr ⟨h3, h2⟩
  · exact .inl ⟨b, o, by rw [h1, h2]; exact h3⟩
section
variable {X : X} {l : L} {S : St} {R : AV → St → Prop} {x : Go.Operand}
theorem Ev_cap_it {xs : Array Go.Operand} {ts : Array Go.TypeId} {t : Nat} {tr : List Go.TypeId} {ti : TI} {el : Nat} {T : St} {i : It} (hxs : xs.toList = [x]) (hts : ts.toList = t :: tr) (hi : X.ti t = some ti) (hd : ti.desc = .slice el) (hx : od l x = some i.v) (hit : ItOK T i) (hR : R (.int .i64 ((i.c : Nat) : Int)) S) :
    Ev X l S (.call { callee := .builtin .cap, args := xs, argTypes := ts }) R := by
  rcases hit.cap with ⟨b, o, h⟩ | ⟨h, h2⟩
  · exact Ev_cap_ex hxs hts hi hd (by rw [hx, h]) hR
  · rw [h2] at hR
    rw [h] at hx
    exact Ev_pure (fun e he => ⟨by unfold cls; rfl, by unfold pureOp; dsimp only; rw [hxs, hts]; dsimp only; rw [hi]; dsimp only; rw [hd, od_ok he hx]; rfl⟩) hR
theorem Ev_slice_it {t : Nat} {y : Go.Operand} {kk : Go.IntKind} {ti ei : TI} {el : Nat} {T : St} {i : It} (hx : od l x = some i.v) (hy : od l y = some (.int kk ((i.c : Nat) : Int))) (hti : X.ti t = some ti) (hd : ti.desc = .slice el) (he' : X.ti el = some ei) (hit : ItOK T i)
    (hR : ∀ v, slen v = some i.c → (∀ b n, i.v = .slice b 0 n (.ex i.c) → v = .slice b 0 i.c (.ex i.c)) → R v S) :
    Ev X l S (.slice t x none (some y) none) R := by
  have hbd : ∀ n, bounds n i.c none (some (.int kk ((i.c : Nat) : Int))) = some (0, i.c) := by
    intro n
    unfold bounds
    dsimp only
    have : bound (.int kk ((i.c : Nat) : Int)) i.c = some i.c := by
      show (bif Nat.ble i.c i.c then some i.c else none) = some i.c
      rw [nble, decide_eq_true (Nat.le_refl i.c)]; rfl
    rw [this]
  rcases hit.cap with ⟨b, o, h⟩ | ⟨h, h2⟩ <;> rw [h] at hx
  · refine Ev_slice hx rfl (by unfold odopt; dsimp only; rw [hy]) rfl hti hd he' rfl (r := .slice b o i.c (.ex i.c)) ?_ (hR _ rfl fun b' n hb => ?_)
    · unfold aslice
      dsimp only
      rw [hti]; dsimp only; rw [hd]; dsimp only; rw [he']; dsimp only
      rw [hbd]
      dsimp only
      have e : (bif Nat.beq i.c 0 then o else o + 0 * ei.size) = o := by cases Nat.beq i.c 0 <;> simp
      rw [e]; rfl
    · rw [h] at hb; cases hb; rfl
  · refine Ev_slice hx rfl (by unfold odopt; dsimp only; rw [hy]) rfl hti hd he' rfl (r := .nils) ?_ (hR _ (by rw [h2]; rfl) fun b' n hb => by rw [h] at hb; cases hb)
    unfold aslice
    dsimp only
    have := hbd 0
    rw [h2] at this ⊢
    rw [this]
end
/-- a book with some lists -/
structure Bk (T : St) (p : Nat) (vl vw : AV) (h : Int) (is : List It) : Prop where
  ok : Sok T
  at_ : T.h.get p = some (.cells 50 [vl, vw, .int .i64 h, .bool false] false)
  lo : OwA T vl 22 1 (is.map It.v) is.length
  wo : OwA T vw 22 1 (is.map It.w) is.length
  it : ∀ i ∈ is, ItOK T i
  lp : blkOf vl ≠ some p
  wp : blkOf vw ≠ some p
  lw : ∀ c, blkOf vl = some c → blkOf vw ≠ some c
  ip : ∀ i ∈ is, ∀ c, blkOf i.v = some c ∨ blkOf i.w = some c → c ≠ p ∧ blkOf vl ≠ some c ∧ blkOf vw ≠ some c
  dis : ∀ (j k : Nat) (a b : It) (c : Nat), is[j]? = some a → is[k]? = some b → j ≠ k → blkOf a.v = some c → blkOf b.v ≠ some c
  few : is.length ≤ 1000
theorem Bk.l {T : St} {p : Nat} {vl vw : AV} {h : Int} {is : List It} (b : Bk T p vl vw h is) : Rd T vl 1 (is.map It.v) is.length := b.lo.rd
theorem Bk.w {T : St} {p : Nat} {vl vw : AV} {h : Int} {is : List It} (b : Bk T p vl vw h is) : Rd T vw 1 (is.map It.w) is.length := b.wo.rd
theorem map_get {α : Type} {f : α → AV} {l : List α} {i : Nat} (h : i < l.length) : (l.map f)[i * 1]? = some (f l[i]) := by
  rw [Nat.mul_one, List.getElem?_map, List.getElem?_eq_getElem h]; rfl
/-- only the book itself is written to, and not turned -/
theorem Bk.same {T U : St} {p : Nat} {vl vw : AV} {h : Int} {is : List It} (b : Bk T p vl vw h is) (hn : U.n = T.n) (hq : U.h.get p = some (.cells 50 [vl, vw, .int .i64 h, .bool false] false)) (hf : ∀ c, c ≠ p → U.h.get c = T.h.get c) : Bk U p vl vw h is :=
  ⟨sok_upd b.ok (b.ok _ _ b.at_) hn hq hf, hq, b.lo.keep (fun c hc => hf c (fun e => b.lp (by rw [hc, e]))), b.wo.keep (fun c hc => hf c (fun e => b.wp (by rw [hc, e]))),
    fun i hi => (b.it i hi).keep (fun c hc => hf c (b.ip i hi c (.inl hc)).1) (fun c hc => hf c (b.ip i hi c (.inr hc)).1), b.lp, b.wp, b.lw, b.ip, b.dis, b.few⟩
theorem stays_runs {S : St} {p : Nat} {vl vw : AV} {h : Int} {is : List It} (b : Bk S p vl vw h is) (hn : S.n ≤ 900000000) :
    Runs X2 51 [.ptr p 0] S fun r S' => r = .bool true ∧ Bk S' p vl vw h is ∧ S'.n = S.n ∧ ∀ c, c ≠ p → S'.h.get c = S.h.get c := by
  have hfew := b.few
  refine Runs_fn (m := 43) (by kernel_rfl) Tryd.func51 rfl (by kernel_rfl) (by kernel_rfl) ?_
  repeat (
    first
      | refine W_seq ?_
      | refine WO_nil ?_
      | refine V_seq ?_
      | refine W_region ?_
      | refine W_block ?_
      | refine WO_dst rfl rfl (by kernel_rfl) (by kernel_rfl) ?_
      | refine Ev_assign rfl ?_)
  refine W_inv (fun i : Nat => [(3, .int .i64 ((i : Nat) : Int)), (0, .ptr p 0)]) (fun i T => Bk T p vl vw h is ∧ i ≤ is.length ∧ T.n = S.n ∧ ∀ c, c ≠ p → T.h.get c = S.h.get c) (fun i => is.length - i) ?_ 0 ⟨b, Nat.zero_le _, rfl, fun _ _ => rfl⟩ ⟨rfl, rfl, trivial⟩
  rintro i T ⟨hb, hi, hTn, hTf⟩ back
  have hpn := hb.ok _ _ hb.at_
  repeat' (
    first
      | refine W_seq ?_
      | refine WO_nil ?_
      | refine V_seq ?_
      | refine W_region ?_
      | refine W_skip ?_
      | refine W_block ?_
      | refine W_ret ?_
      | refine W_exit ?_
      | refine V_block_x rfl ?_
      | refine V_seq_x ?_
      | refine V_loop_x ?_
      | refine WO_dst rfl rfl (by kernel_rfl) (by kernel_rfl) ?_
      | refine Ev_load rfl rfl rfl hb.at_ rfl hb.l.self ?_
      | refine Ev_len rfl rfl rfl rfl rfl hb.l.len ?_
      | refine Ev_load rfl rfl rfl hb.at_ rfl (show veq (.bool false) (.bool false) = true from rfl) ?_
      | refine Ev_move rfl ?_
      | refine Ev_assign rfl ?_
      | refine Ev_lssN rfl rfl ?_
      | refine Ev_notb rfl ?_
      | refine Ev_nilCheck rfl ?_
      | refine Ev_fieldAddr rfl rfl rfl rfl rfl rfl ?_
      | (refine W_cond rfl (fun hc => ?_) (fun hc => ?_) <;> (try dsimp only at hc) <;> try (exfalso; first | omega | exact hc rfl)))
  · have hlt : i < is.length := by assumption
    have hIt := hb.it _ (List.getElem_mem hlt)
    have hsm := hIt.small
    refine W_drawn (by kernel_rfl) ?_
    repeat' (
      first
        | refine WO_dst rfl rfl (by kernel_rfl) (by kernel_rfl) ?_
        | refine WO_guard_t rfl rfl rfl rfl rfl (by kernel_rfl) (by kernel_rfl) ?_
        | refine Ev_load rfl rfl rfl hb.at_ rfl hb.l.self ?_
        | refine Ev_load rfl rfl rfl hb.at_ rfl (show veq (.bool false) (.bool false) = true from rfl) ?_
        | refine Ev_move rfl ?_
        | refine Ev_nilCheck rfl ?_
        | refine Ev_fieldAddr rfl rfl rfl rfl rfl rfl ?_)
    refine Ev_indexAddr_rd rfl rfl rfl rfl rfl hb.l hlt ?_
    intro q hq
    repeat (
      first
        | refine WO_dst rfl rfl (by kernel_rfl) (by kernel_rfl) ?_
        | refine WO_guard_t rfl rfl rfl rfl rfl (by kernel_rfl) (by kernel_rfl) ?_)
    refine Ev_load_pt rfl rfl rfl hq (map_get hlt) hIt.rd.self ?_
    repeat (
      first
        | refine WO_dst rfl rfl (by kernel_rfl) (by kernel_rfl) ?_
        | refine WO_guard_t rfl rfl rfl rfl rfl (by kernel_rfl) (by kernel_rfl) ?_
        | refine Ev_load rfl rfl rfl hb.at_ rfl hb.w.self ?_
        | refine Ev_move rfl ?_
        | refine Ev_nilCheck rfl ?_
        | refine Ev_fieldAddr rfl rfl rfl rfl rfl rfl ?_)
    refine Ev_indexAddr_rd rfl rfl rfl rfl rfl hb.w hlt ?_
    intro q2 hq2
    repeat (
      first
        | refine WO_dst rfl rfl (by kernel_rfl) (by kernel_rfl) ?_
        | refine WO_guard_t rfl rfl rfl rfl rfl (by kernel_rfl) (by kernel_rfl) ?_)
    refine Ev_load_pt rfl rfl rfl hq2 (map_get hlt) hIt.wr.self ?_
    repeat (
      first
        | refine WO_dst rfl rfl (by kernel_rfl) (by kernel_rfl) ?_
        | refine WO_guard_t rfl rfl rfl rfl rfl (by kernel_rfl) (by kernel_rfl) ?_)
    refine Ev_call rfl rfl ((csame_runs2 hIt.rd hIt.wr ⟨by omega, by omega⟩).mono ?_)
    rintro _ T2 - ⟨rfl, hT2⟩
    rw [hT2, decide_eq_true rfl]
    repeat' (
      first
        | refine WO_dst rfl rfl (by kernel_rfl) (by kernel_rfl) ?_
        | refine WO_no rfl rfl ?_
        | refine WO_guard_t rfl rfl rfl rfl rfl (by kernel_rfl) (by kernel_rfl) ?_
        | refine Ev_pick_f rfl rfl rfl ?_
        | refine Ev_notb rfl ?_
        | refine Ev_nilCheck rfl ?_
        | refine Ev_fieldAddr rfl rfl rfl rfl rfl rfl ?_)
    refine Ev_store rfl rfl rfl rfl rfl hb.at_ (by simp [AV.cells]) (by omega) ?_
    intro U un uq uf
    repeat' (
      first
        | refine WO_nil ?_
        | refine V_seq ?_
        | refine W_region ?_
        | refine V_block ?_
        | refine WO_dst rfl rfl (by kernel_rfl) (by kernel_rfl) ?_
        | refine Ev_move rfl ?_
        | refine Ev_assign rfl ?_
        | refine Ev_addN rfl rfl (by simp only [lim]; omega) ?_)
    refine back (i + 1) U _ (by omega) ⟨hb.same un uq uf, by omega, by omega, fun c hc => by rw [uf c hc, hTf c hc]⟩ ?_
    exact ⟨rfl, rfl, trivial⟩
  · refine V_done rfl rfl ⟨rfl, hb, hTn, hTf⟩
theorem lput_pre {α : Type} : ∀ (a q x r : List α), x.length = q.length → lput (a ++ (q ++ r)) a.length x = a ++ (x ++ r)
  | [], [], [], r, _ => by rw [lput_nil]
  | [], y :: q, z :: x, r, h => by
    have := lput_pre [] q x r (by simpa using h)
    show z :: lput (q ++ r) 0 x = _
    simp only [List.nil_append, List.length_nil] at this
    rw [this]; rfl
  | [], [], _ :: _, r, h => by simp at h
  | [], _ :: _, [], r, h => by simp at h
  | b :: a, q, x, r, h => by
    show b :: lput (a ++ (q ++ r)) a.length x = _
    rw [lput_pre a q x r h]; rfl
theorem pt_of {S : St} {b o ty : Nat} {cs : List AV} {sp : Bool} (h : S.h.get b = some (.cells ty cs sp)) : Pt S (.ptr b o) cs o :=
  .inl ⟨b, 0, ty, cs, sp, by rw [Nat.zero_add], h, by omega, fun i _ => by rw [Nat.zero_add]⟩
/-- marks -/
def mkL (i c : Nat) : List CnA := (List.range c).map fun (j : Nat) => mkC (i : Int) ((j : Nat) : Int)
theorem mkL_len (i c : Nat) : (mkL i c).length = c := by simp [mkL]
theorem mkL_s (i c : Nat) : mkL i (c + 1) = mkL i c ++ [mkC (i : Int) (c : Int)] := by unfold mkL; rw [List.range_succ, List.map_append]; rfl
theorem mkL_get (i c j : Nat) (h : j < (mkL i c).length) : (mkL i c)[j] = mkC (i : Int) (j : Int) := by
  have h2 : (mkL i c)[j]? = some (mkC (i : Int) (j : Int)) := by
    unfold mkL
    rw [List.getElem?_map, List.getElem?_range (by rw [mkL_len] at h; exact h)]; rfl
  exact Option.some.inj ((List.getElem?_eq_getElem h).symm.trans h2)
theorem mark2 {S : St} {i j : Int} {R : AV → St → Prop} (h : R (.agg (mkC i j).cells) S) : Runs X2 26 [.int .i64 i, .int .i64 j] S R := Runs_ext (g := extMark) rfl rfl (Nat.le_refl _) h
/-- the lists ahead of one are full of marks, the others are as they were -/
structure Ap (T : St) (p : Nat) (vl vw : AV) (h : Int) (is : List It) (i : Nat) : Prop where
  ok : Sok T
  at_ : T.h.get p = some (.cells 50 [vl, vw, .int .i64 h, .bool false] false)
  l : Rd T vl 1 (is.map It.v) is.length
  done : ∀ j a b, is[j]? = some a → j < i → 0 < a.c → a.v = .slice b 0 a.cs.length (.ex a.c) → T.h.get b = some (.cells 24 (cellsC (mkL j a.c)) true)
  todo : ∀ j a b, is[j]? = some a → i ≤ j → 0 < a.c → a.v = .slice b 0 a.cs.length (.ex a.c) → T.h.get b = some (.cells 24 (cellsC a.cs ++ a.extra) true)
theorem ItOK.pos {T : St} {i : It} (h : ItOK T i) (hc : 0 < i.c) : ∃ b, i.v = .slice b 0 i.cs.length (.ex i.c) ∧ T.h.get b = some (.cells 24 (cellsC i.cs ++ i.extra) true) ∧ i.cs.length * 5 + i.extra.length = i.c * 5 := by
  rcases h.kind with h | ⟨_, h, _⟩
  · exact h
  · omega
theorem ItOK.at_ {T : St} {i : It} (h : ItOK T i) (hc : 0 < i.c) {b : Nat} (hb : i.v = .slice b 0 i.cs.length (.ex i.c)) : T.h.get b = some (.cells 24 (cellsC i.cs ++ i.extra) true) := by
  obtain ⟨b', h1, h2, _⟩ := h.pos hc
  rw [h1] at hb; cases hb; exact h2
theorem apart_runs {S : St} {p : Nat} {vl vw : AV} {h : Int} {is : List It} (b : Bk S p vl vw h is) (hn : S.n ≤ 900000000) :
    Runs X2 25 [.ptr p 0, .func (.func 26) [] []] S fun r _ => r = .bool true := by
  have hbl : ∀ a ∈ is, ∀ c, blkOf a.v = some c → c ≠ p ∧ blkOf vl ≠ some c := fun a ha c hc => ⟨(b.ip a ha c (.inl hc)).1, (b.ip a ha c (.inl hc)).2.1⟩
  have hfew := b.few
  refine Runs_fn (m := 101) (by kernel_rfl) Tryd.func25 rfl (by kernel_rfl) (by kernel_rfl) ?_
  repeat (
    first
      | refine W_seq ?_
      | refine WO_nil ?_
      | refine V_seq ?_
      | refine W_region ?_
      | refine WO_dst rfl rfl (by kernel_rfl) (by kernel_rfl) ?_
      | refine Ev_move rfl ?_
      | refine Ev_assign rfl ?_)
  refine Ev_call rfl rfl ((stays_runs b hn).mono ?_)
  rintro _ S1 - ⟨rfl, b1, sn1, sf1⟩
  repeat' (
    first
      | refine W_seq ?_
      | refine WO_nil ?_
      | refine V_seq ?_
      | refine W_region ?_
      | refine W_skip ?_
      | refine W_block ?_
      | refine W_cond_f rfl ?_
      | refine WO_dst rfl rfl (by kernel_rfl) (by kernel_rfl) ?_
      | refine Ev_assign rfl ?_
      | refine Ev_notb rfl ?_)
  refine W_inv (fun i : Nat => [(5, .int .i64 ((i : Nat) : Int)), (0, .ptr p 0), (1, .func (.func 26) [] [])]) (fun i T => Ap T p vl vw h is i ∧ i ≤ is.length ∧ T.n = S.n) (fun i => is.length - i) ?_ 0 ⟨⟨b1.ok, b1.at_, b1.l, fun j a _ _ h0 => absurd h0 (Nat.not_lt_zero _), fun j a b2 ha _ hc hv => (b1.it a (List.mem_of_getElem? ha)).at_ hc hv⟩, Nat.zero_le _, sn1⟩ ⟨rfl, rfl, rfl, trivial⟩
  rintro i T ⟨ha, hi, hTn⟩ back
  repeat' (
    first
      | refine W_seq ?_
      | refine WO_nil ?_
      | refine V_seq ?_
      | refine W_region ?_
      | refine W_skip ?_
      | refine W_block ?_
      | refine W_exit ?_
      | refine V_block_x rfl ?_
      | refine V_seq_x ?_
      | refine V_loop_x ?_
      | refine WO_dst rfl rfl (by kernel_rfl) (by kernel_rfl) ?_
      | refine Ev_load rfl rfl rfl ha.at_ rfl ha.l.self ?_
      | refine Ev_len rfl rfl rfl rfl rfl ha.l.len ?_
      | refine Ev_move rfl ?_
      | refine Ev_assign rfl ?_
      | refine Ev_lssN rfl rfl ?_
      | refine Ev_nilCheck rfl ?_
      | refine Ev_fieldAddr rfl rfl rfl rfl rfl rfl ?_
      | (refine W_cond rfl (fun hc => ?_) (fun hc => ?_) <;> (try dsimp only at hc) <;> try (exfalso; first | omega | exact hc rfl)))
  · have hlt : i < is.length := by assumption
    obtain ⟨a, hae⟩ : ∃ a, a = is[i] := ⟨_, rfl⟩
    have hmem : a ∈ is := by rw [hae]; exact List.getElem_mem _
    have hget : is[i]? = some a := by rw [hae]; exact List.getElem?_eq_getElem hlt
    have hio := b.it a hmem
    have hlim := hio.lim
    have hmg := map_get (f := It.v) hlt
    rw [← hae] at hmg
    refine W_drawn (by kernel_rfl) ?_
    repeat (
      first
        | refine WO_dst rfl rfl (by kernel_rfl) (by kernel_rfl) ?_
        | refine Ev_load rfl rfl rfl ha.at_ rfl ha.l.self ?_
        | refine Ev_move rfl ?_
        | refine Ev_nilCheck rfl ?_
        | refine Ev_fieldAddr rfl rfl rfl rfl rfl rfl ?_)
    refine Ev_indexAddr_rd rfl rfl rfl rfl rfl ha.l hlt ?_
    intro q hq
    repeat (
      refine WO_dst rfl rfl (by kernel_rfl) (by kernel_rfl) ?_)
    refine Ev_load_pt rfl rfl rfl hq hmg hio.rd.self ?_
    repeat (
      first
        | refine WO_dst rfl rfl (by kernel_rfl) (by kernel_rfl) ?_
        | refine Ev_load rfl rfl rfl ha.at_ rfl ha.l.self ?_
        | refine Ev_move rfl ?_
        | refine Ev_nilCheck rfl ?_
        | refine Ev_fieldAddr rfl rfl rfl rfl rfl rfl ?_)
    refine Ev_indexAddr_rd rfl rfl rfl rfl rfl ha.l hlt ?_
    intro q2 hq2
    repeat (
      refine WO_dst rfl rfl (by kernel_rfl) (by kernel_rfl) ?_)
    refine Ev_load_pt rfl rfl rfl hq2 hmg hio.rd.self ?_
    repeat (
      refine WO_dst rfl rfl (by kernel_rfl) (by kernel_rfl) ?_)
    refine Ev_cap_it rfl rfl rfl rfl rfl hio ?_
    repeat (
      refine WO_dst rfl rfl (by kernel_rfl) (by kernel_rfl) ?_)
    refine Ev_slice_it rfl rfl rfl rfl rfl hio ?_
    intro v5 hv5 hv5b
    rcases Nat.eq_zero_or_pos a.c with hc0 | hcp
    · rw [hc0] at hv5
      repeat' (
        first
          | refine W_seq ?_
          | refine WO_nil ?_
          | refine V_seq ?_
          | refine W_region ?_
          | refine W_block ?_
          | refine WO_dst rfl rfl (by kernel_rfl) (by kernel_rfl) ?_
          | refine Ev_assign rfl ?_)
      refine W_inv (fun _ : Unit => [(7, .int .i64 0), (6, v5), (5, .int .i64 ((i : Nat) : Int)), (0, .ptr p 0), (1, .func (.func 26) [] [])]) (fun _ U => U = T) (fun _ => 0) ?_ () rfl ⟨rfl, rfl, rfl, rfl, rfl, trivial⟩
      rintro _ U hUT back2
      rw [hUT]
      repeat' (
        first
          | refine W_seq ?_
          | refine WO_nil ?_
          | refine V_seq ?_
          | refine W_region ?_
          | refine W_exit ?_
          | refine V_block ?_
          | refine V_block_x rfl ?_
          | refine V_seq_x ?_
          | refine V_loop_x ?_
          | refine W_cond_f rfl ?_
          | refine WO_dst rfl rfl (by kernel_rfl) (by kernel_rfl) ?_
          | refine Ev_len rfl rfl rfl rfl rfl hv5 ?_
          | refine Ev_move rfl ?_
          | refine Ev_assign rfl ?_
          | refine Ev_lssN rfl rfl ?_
          | refine Ev_addN rfl rfl (by simp only [lim]; omega) ?_)
      refine back (i + 1) T _ (by omega) ⟨⟨ha.ok, ha.at_, ha.l, fun k c b2 hk hki hc hv => ?_, fun k c b2 hk hki hc hv => ha.todo k c b2 hk (by omega) hc hv⟩, by omega, by omega⟩ ⟨rfl, rfl, rfl, trivial⟩
      by_cases hke : k = i
      · subst hke; rw [hget] at hk; cases hk; omega
      · exact ha.done k c b2 hk (by omega) hc hv
    obtain ⟨ab, hav, _, hlen⟩ := hio.pos hcp
    have hve := hv5b ab _ hav
    rw [hve]
    have hblk := ha.todo i a ab hget (Nat.le_refl _) hcp hav
    have hbn : ab < T.n := ha.ok _ _ hblk
    repeat' (
      first
        | refine W_seq ?_
        | refine WO_nil ?_
        | refine V_seq ?_
        | refine W_region ?_
        | refine W_block ?_
        | refine WO_dst rfl rfl (by kernel_rfl) (by kernel_rfl) ?_
        | refine Ev_assign rfl ?_)
    refine W_inv (fun x : Nat × List AV => [(7, .int .i64 ((x.1 : Nat) : Int)), (6, .slice ab 0 a.c (.ex a.c)), (5, .int .i64 ((i : Nat) : Int)), (0, .ptr p 0), (1, .func (.func 26) [] [])]) (fun x U => U.n = T.n ∧ x.1 ≤ a.c ∧ U.h.get ab = some (.cells 24 (cellsC (mkL i x.1) ++ x.2) true) ∧ x.1 * 5 + x.2.length = a.c * 5 ∧ ∀ d, d ≠ ab → U.h.get d = T.h.get d) (fun x => a.c - x.1) ?_ (0, cellsC a.cs ++ a.extra) ⟨rfl, Nat.zero_le _, hblk, by rw [List.length_append, cellsC_len]; dsimp only; omega, fun _ _ => rfl⟩ ⟨rfl, rfl, rfl, rfl, rfl, trivial⟩
    rintro ⟨j, rest⟩ U ⟨hUn, hj, hUb, hUl, hUf⟩ back2
    dsimp only at hj hUb hUl back2
    repeat' (
      first
        | refine W_seq ?_
        | refine WO_nil ?_
        | refine V_seq ?_
        | refine W_region ?_
        | refine W_skip ?_
        | refine W_block ?_
        | refine W_exit ?_
        | refine V_block ?_
        | refine V_block_x rfl ?_
        | refine V_seq_x ?_
        | refine V_loop_x ?_
        | refine WO_dst rfl rfl (by kernel_rfl) (by kernel_rfl) ?_
        | refine Ev_move rfl ?_
        | refine Ev_assign rfl ?_
        | refine Ev_lssN rfl rfl ?_
        | refine Ev_len rfl rfl rfl rfl rfl rfl ?_
        | refine Ev_addN rfl rfl (by simp only [lim]; omega) ?_
        | (refine W_cond rfl (fun hc => ?_) (fun hc => ?_) <;> (try dsimp only at hc) <;> try (exfalso; first | omega | exact hc rfl)))
    · have hjl : j < a.c := by assumption
      refine Ev_call rfl rfl (mark2 ?_)
      repeat (
        first
          | refine WO_dst rfl rfl (by kernel_rfl) (by kernel_rfl) ?_
          | refine WO_no rfl rfl ?_
          | refine Ev_indexAddr rfl rfl rfl rfl rfl (by first | omega | (dsimp only; done) | (dsimp only; omega)) ?_)
      have hml : (cellsC (mkL i j)).length = j * 5 := by rw [cellsC_len, mkL_len]; omega
      refine Ev_store rfl rfl rfl rfl (CnA.ones _) hUb (by show 0 + j * 5 + 5 ≤ _; rw [List.length_append, hml]; omega) (by omega) ?_
      intro V vn vq vf
      repeat' (
        first
          | refine WO_nil ?_
          | refine V_seq ?_
          | refine W_region ?_
          | refine V_block ?_
          | refine WO_dst rfl rfl (by kernel_rfl) (by kernel_rfl) ?_
          | refine Ev_move rfl ?_
          | refine Ev_assign rfl ?_
          | refine Ev_addN rfl rfl (by simp only [lim]; omega) ?_)
      refine back2 (j + 1, rest.drop 5) V _ (by dsimp only; omega) ⟨by omega, by dsimp only; omega, ?_, by dsimp only; rw [List.length_drop]; omega, fun d hd => by rw [vf d hd, hUf d hd]⟩ ⟨rfl, rfl, rfl, rfl, rfl, trivial⟩
      dsimp only
      rw [vq]
      show some (AB.cells 24 (lput (cellsC (mkL i j) ++ rest) (0 + j * 5) (mkC (i : Int) (j : Int)).cells) true) = _
      have e : rest = rest.take 5 ++ rest.drop 5 := (List.take_append_drop 5 rest).symm
      rw [show 0 + j * 5 = (cellsC (mkL i j)).length by rw [hml]; omega]
      conv => lhs; rw [e]
      rw [lput_pre _ _ _ _ (by rw [List.length_take]; show 5 = _; omega), mkL_s, cellsC_app, List.append_assoc]
      simp [cellsC]
    · have hjc : j = a.c := by omega
      subst hjc
      have hr0 : rest = [] := List.eq_nil_of_length_eq_zero (by omega)
      subst hr0
      rw [List.append_nil] at hUb
      have hUok : Sok U := sok_upd ha.ok hbn hUn hUb hUf
      have habv : blkOf a.v = some ab := by rw [hav]; rfl
      refine back (i + 1) U _ (by omega) ⟨⟨hUok, ?_, ?_, fun k c b2 hk hki hc hv => ?_, fun k c b2 hk hki hc hv => ?_⟩, by omega, by omega⟩ ⟨rfl, rfl, rfl, trivial⟩
      · rw [hUf p (Ne.symm (hbl a hmem ab habv).1)]; exact ha.at_
      · exact ha.l.keep (fun c hc => hUf c (fun e => (hbl a hmem ab habv).2 (by rw [hc, e])))
      · by_cases hke : k = i
        · subst hke; rw [hget] at hk; cases hk; rw [hav] at hv; cases hv; exact hUb
        · rw [hUf b2 (fun e => b.dis k i c a b2 hk hget hke (by rw [hv]; rfl) (by rw [e]; exact habv))]; exact ha.done k c b2 hk (by omega) hc hv
      · rw [hUf b2 (fun e => b.dis k i c a b2 hk hget (by omega) (by rw [hv]; rfl) (by rw [e]; exact habv))]; exact ha.todo k c b2 hk (by omega) hc hv
  have hin : i = is.length := by omega
  repeat' (
    refine W_seq ?_)
  refine W_inv (fun i : Nat => [(8, .int .i64 ((i : Nat) : Int)), (0, .ptr p 0), (1, .func (.func 26) [] [])]) (fun i U => U = T ∧ i ≤ is.length) (fun i => is.length - i) ?_ 0 ⟨rfl, Nat.zero_le _⟩ ⟨rfl, rfl, rfl, trivial⟩
  rintro m U ⟨hUT, hm⟩ back3
  rw [hUT]
  repeat' (
    first
      | refine W_seq ?_
      | refine WO_nil ?_
      | refine V_seq ?_
      | refine W_region ?_
      | refine W_skip ?_
      | refine W_block ?_
      | refine W_exit ?_
      | refine V_block_x rfl ?_
      | refine V_seq_x ?_
      | refine V_loop_x ?_
      | refine WO_dst rfl rfl (by kernel_rfl) (by kernel_rfl) ?_
      | refine WO_no rfl rfl ?_
      | refine Ev_load rfl rfl rfl ha.at_ rfl ha.l.self ?_
      | refine Ev_len rfl rfl rfl rfl rfl ha.l.len ?_
      | refine Ev_move rfl ?_
      | refine Ev_lssN rfl rfl ?_
      | refine Ev_nilCheck rfl ?_
      | refine Ev_fieldAddr rfl rfl rfl rfl rfl rfl ?_
      | (refine W_cond rfl (fun hc => ?_) (fun hc => ?_) <;> (try dsimp only at hc) <;> try (exfalso; first | omega | exact hc rfl)))
  · have hlt : m < is.length := by assumption
    obtain ⟨a, hae⟩ : ∃ a, a = is[m] := ⟨_, rfl⟩
    have hmem : a ∈ is := by rw [hae]; exact List.getElem_mem _
    have hget : is[m]? = some a := by rw [hae]; exact List.getElem?_eq_getElem hlt
    have hio := b.it a hmem
    have hlim := hio.lim
    have hmg := map_get (f := It.v) hlt
    rw [← hae] at hmg
    refine W_drawn (by kernel_rfl) ?_
    repeat (
      first
        | refine WO_dst rfl rfl (by kernel_rfl) (by kernel_rfl) ?_
        | refine Ev_load rfl rfl rfl ha.at_ rfl ha.l.self ?_
        | refine Ev_move rfl ?_
        | refine Ev_nilCheck rfl ?_
        | refine Ev_fieldAddr rfl rfl rfl rfl rfl rfl ?_)
    refine Ev_indexAddr_rd rfl rfl rfl rfl rfl ha.l hlt ?_
    intro q hq
    repeat (
      refine WO_dst rfl rfl (by kernel_rfl) (by kernel_rfl) ?_)
    refine Ev_load_pt rfl rfl rfl hq hmg hio.rd.self ?_
    repeat (
      first
        | refine WO_dst rfl rfl (by kernel_rfl) (by kernel_rfl) ?_
        | refine Ev_load rfl rfl rfl ha.at_ rfl ha.l.self ?_
        | refine Ev_move rfl ?_
        | refine Ev_nilCheck rfl ?_
        | refine Ev_fieldAddr rfl rfl rfl rfl rfl rfl ?_)
    refine Ev_indexAddr_rd rfl rfl rfl rfl rfl ha.l hlt ?_
    intro q2 hq2
    repeat (
      refine WO_dst rfl rfl (by kernel_rfl) (by kernel_rfl) ?_)
    refine Ev_load_pt rfl rfl rfl hq2 hmg hio.rd.self ?_
    repeat (
      refine WO_dst rfl rfl (by kernel_rfl) (by kernel_rfl) ?_)
    refine Ev_cap_it rfl rfl rfl rfl rfl hio ?_
    repeat (
      refine WO_dst rfl rfl (by kernel_rfl) (by kernel_rfl) ?_)
    refine Ev_slice_it rfl rfl rfl rfl rfl hio ?_
    intro v9 hv9 hv9b
    rcases Nat.eq_zero_or_pos a.c with hc0 | hcp
    · rw [hc0] at hv9
      repeat' (
        first
          | refine W_seq ?_
          | refine WO_nil ?_
          | refine V_seq ?_
          | refine W_region ?_
          | refine W_block ?_
          | refine WO_dst rfl rfl (by kernel_rfl) (by kernel_rfl) ?_
          | refine Ev_assign rfl ?_)
      refine W_inv (fun _ : Unit => [(10, .int .i64 0), (9, v9), (8, .int .i64 ((m : Nat) : Int)), (0, .ptr p 0), (1, .func (.func 26) [] [])]) (fun _ U => U = T) (fun _ => 0) ?_ () rfl ⟨rfl, rfl, rfl, rfl, rfl, trivial⟩
      rintro _ U hUT2 back4
      rw [hUT2]
      repeat' (
        first
          | refine W_seq ?_
          | refine WO_nil ?_
          | refine V_seq ?_
          | refine W_region ?_
          | refine W_exit ?_
          | refine V_block ?_
          | refine V_block_x rfl ?_
          | refine V_seq_x ?_
          | refine V_loop_x ?_
          | refine W_cond_f rfl ?_
          | refine WO_dst rfl rfl (by kernel_rfl) (by kernel_rfl) ?_
          | refine Ev_len rfl rfl rfl rfl rfl hv9 ?_
          | refine Ev_move rfl ?_
          | refine Ev_assign rfl ?_
          | refine Ev_lssN rfl rfl ?_
          | refine Ev_addN rfl rfl (by simp only [lim]; omega) ?_)
      exact back3 (m + 1) T _ (by omega) ⟨rfl, by omega⟩ ⟨rfl, rfl, rfl, trivial⟩
    obtain ⟨ab, hav, _, hlen⟩ := hio.pos hcp
    have hve := hv9b ab _ hav
    rw [hve]
    have hblk := ha.done m a ab hget (by omega) hcp hav
    repeat' (
      first
        | refine W_seq ?_
        | refine WO_nil ?_
        | refine V_seq ?_
        | refine W_region ?_
        | refine W_block ?_
        | refine WO_dst rfl rfl (by kernel_rfl) (by kernel_rfl) ?_
        | refine Ev_assign rfl ?_)
    refine W_inv (fun j : Nat => [(10, .int .i64 ((j : Nat) : Int)), (9, .slice ab 0 a.c (.ex a.c)), (8, .int .i64 ((m : Nat) : Int)), (0, .ptr p 0), (1, .func (.func 26) [] [])]) (fun j U => U = T ∧ j ≤ a.c) (fun j => a.c - j) ?_ 0 ⟨rfl, Nat.zero_le _⟩ ⟨rfl, rfl, rfl, rfl, rfl, trivial⟩
    rintro j U ⟨hUT2, hj⟩ back4
    rw [hUT2]
    repeat' (
      first
        | refine W_seq ?_
        | refine WO_nil ?_
        | refine V_seq ?_
        | refine W_region ?_
        | refine W_skip ?_
        | refine W_block ?_
        | refine W_exit ?_
        | refine V_block ?_
        | refine V_block_x rfl ?_
        | refine V_seq_x ?_
        | refine V_loop_x ?_
        | refine WO_dst rfl rfl (by kernel_rfl) (by kernel_rfl) ?_
        | refine Ev_move rfl ?_
        | refine Ev_assign rfl ?_
        | refine Ev_lssN rfl rfl ?_
        | refine Ev_len rfl rfl rfl rfl rfl rfl ?_
        | refine Ev_addN rfl rfl (by simp only [lim]; omega) ?_
        | (refine W_cond rfl (fun hc => ?_) (fun hc => ?_) <;> (try dsimp only at hc) <;> try (exfalso; first | omega | exact hc rfl)))
    · have hjl : j < a.c := by assumption
      have hjl2 : j < (mkL m a.c).length := by rw [mkL_len]; exact hjl
      have hcg := cellsC_get (mkL m a.c) j hjl2
      rw [mkL_get] at hcg
      have hD : ∀ f ∈ [(⟨ab, .cells 24 (cellsC (mkL m a.c)) true, none⟩ : Fct)], T.h.get f.id = some f.x := by
        intro f hf; rw [List.mem_singleton] at hf; subst hf; exact hblk
      refine W_drawnF [⟨ab, .cells 24 (cellsC (mkL m a.c)) true, none⟩] ?_ (by kernel_rfl) ?_
      · intro f hf; rw [List.mem_singleton] at hf; subst hf; exact ⟨rfl, ha.ok _ _ hblk, hblk⟩
      repeat (
        first
          | refine WF_pa rfl rfl (by kernel_rfl) (by kernel_rfl) rfl ?_
          | refine Ev_move rfl ?_
          | refine Ev_indexAddr rfl rfl rfl rfl rfl (by first | omega | (dsimp only; done) | (dsimp only; omega)) ?_)
      refine WF_rf rfl rfl (by kernel_rfl) (by kernel_rfl) hD (FPD_loadA (p := .ptr ab (0 + j * 5)) (ds := (mkC (m : Int) (j : Int)).cells) rfl rfl rfl (pt_of hblk) (by show 0 + j * 5 + 5 ≤ _; rw [cellsC_len, mkL_len]; omega) (show ((cellsC (mkL m a.c)).drop (0 + j * 5)).take 5 = (mkC (m : Int) (j : Int)).cells by rw [Nat.zero_add]; exact hcg) (fun b hb => by cases hb; exact ⟨_, List.mem_cons_self .., rfl, hblk, fun j hj => by cases hj⟩)) (by unfold veq; exact CnA.veqs _) ?_
      repeat (
        first
          | refine WF_pa rfl rfl (by kernel_rfl) (by kernel_rfl) rfl ?_
          | refine Ev_move rfl ?_)
      refine WF_ld rfl rfl (by kernel_rfl) (by kernel_rfl) (fun _ _ => rfl) ?_
      refine Ev_call rfl rfl (mark2 ?_)
      refine ⟨hD, [], by simp, ?_⟩
      repeat (
        first
          | refine WF_nil ?_
          | refine WF_pa rfl rfl (by kernel_rfl) (by kernel_rfl) rfl ?_
          | refine V_seq ?_
          | refine Ev_cneq2 rfl rfl ?_)
      rw [decide_eq_false (fun h => h rfl)]
      repeat' (
        first
          | refine WO_nil ?_
          | refine V_seq ?_
          | refine W_region ?_
          | refine W_skip ?_
          | refine V_block ?_
          | refine W_cond_f rfl ?_
          | refine WO_dst rfl rfl (by kernel_rfl) (by kernel_rfl) ?_
          | refine Ev_move rfl ?_
          | refine Ev_assign rfl ?_
          | refine Ev_addN rfl rfl (by simp only [lim]; omega) ?_)
      exact back4 (j + 1) T _ (by omega) ⟨rfl, by omega⟩ ⟨rfl, rfl, rfl, rfl, rfl, trivial⟩
    · exact back3 (m + 1) T _ (by omega) ⟨rfl, by omega⟩ ⟨rfl, rfl, rfl, trivial⟩
  have hpn := ha.ok _ _ ha.at_
  refine Ev_store rfl rfl rfl rfl rfl ha.at_ (by simp [AV.cells]) (by omega) ?_
  intro U1 un1 uq1 uf1
  repeat (
    first
      | refine W_seq ?_
      | refine WO_nil ?_
      | refine V_seq ?_
      | refine W_region ?_
      | refine WO_dst rfl rfl (by kernel_rfl) (by kernel_rfl) ?_
      | refine WO_no rfl rfl ?_
      | refine Ev_move rfl ?_
      | refine Ev_nilCheck rfl ?_
      | refine Ev_fieldAddr rfl rfl rfl rfl rfl rfl ?_)
  refine Ev_store rfl rfl rfl rfl rfl uq1 (by simp [AV.cells, lput]) (by omega) ?_
  intro U2 un2 uq2 uf2
  repeat (
    first
      | refine W_seq ?_
      | refine WO_nil ?_
      | refine V_seq ?_
      | refine W_region ?_
      | refine WO_dst rfl rfl (by kernel_rfl) (by kernel_rfl) ?_
      | refine WO_no rfl rfl ?_
      | refine Ev_move rfl ?_
      | refine Ev_nilCheck rfl ?_
      | refine Ev_fieldAddr rfl rfl rfl rfl rfl rfl ?_)
  refine Ev_store rfl rfl rfl rfl rfl uq2 (by simp [AV.cells, lput]) (by omega) ?_
  intro U3 un3 uq3 uf3
  repeat (
    first
      | refine W_seq ?_
      | refine WO_nil ?_
      | refine V_seq ?_
      | refine W_region ?_
      | refine W_ret ?_
      | refine WO_dst rfl rfl (by kernel_rfl) (by kernel_rfl) ?_
      | refine Ev_assign rfl ?_)
  refine V_done rfl rfl ?_
  rfl
end Go.Proofs.YthhbnnnokmefoaaDoor
/- GX: a region that draws its order, where reads look at blocks that later loud operations leave alone until one behind which no such read can come. -/

namespace GX
open Go
/-- all operations from one on are behind this one -/
def ZB (ops : List Oper) (z i : Nat) : Bool := (List.range ops.length).all fun j => Nat.blt j z || inM (masks ops []) j i
/-- .. until an operation from which on the blocks are known no more: all from there on are behind each such read -/
def RunZ (X : X) (rec : Rec) (n : Nat) (all : List Oper) (z : Nat) : List Fct → List Oper → Nat → Env → St → Env → St → Prop
  | _, [], _, e, S, e', S' => e' = e ∧ S' = S
  | D, o :: os, i, e, S, e', S' =>
    (wanted all e o = true ∧ ∃ v S1 e1 N, oper X rec e S o.op = some (v, S1) ∧ setDst n e o.dst v = some e1 ∧ rdv (cls X e o.op) v = true ∧
      (cls X e o.op = .read → rdStat (masks all []) (all.map (fun o => sk X o.op)) i = true ∨ ZB all z i = true ∧ FPD X D (masks all []) i e o.op v) ∧
      (isLC (cls X e o.op) = true → i < z → ∀ f ∈ D, S1.h.get f.id = some f.x) ∧
      (∀ f ∈ N, f.src = some i ∧ f.id < S1.n ∧ S1.h.get f.id = some f.x ∧ (isLC (cls X e o.op) = true ∨ cls X e o.op = .alloc ∧ f.id = S.n)) ∧ RunZ X rec n all z (D ++ N) os (i + 1) e1 S1 e' S') ∨
    (wanted all e o = false ∧ ∃ e1, setDst n e o.dst (.tup []) = some e1 ∧ RunZ X rec n all z D os (i + 1) e1 S e' S')
theorem RunZ_le {X : X} {rec rec' : Rec} (hr : RecLe rec rec') {n : Nat} {all : List Oper} {z : Nat} : ∀ {D : List Fct} {os : List Oper} {i : Nat} {e : Env} {S : St} {e' S'}, RunZ X rec n all z D os i e S e' S' → RunZ X rec' n all z D os i e S e' S'
  | _, [], _, _, _, _, _, h => h
  | _, o :: os, i, e, S, e', S', h => by
    unfold RunZ at h ⊢
    rcases h with ⟨hw, v, S1, e1, N, h1, h2, h3, h4, h5, h6, h7⟩ | ⟨hw, e1, h1, h2⟩
    · exact .inl ⟨hw, v, S1, e1, N, oper_le hr h1, h2, h3, h4, h5, h6, RunZ_le hr h7⟩
    · exact .inr ⟨hw, e1, h1, RunZ_le hr h2⟩
theorem RunZ_n {X : X} {rec : Rec} {n : Nat} {all : List Oper} {z : Nat} : ∀ {D : List Fct} {os : List Oper} {i : Nat} {e : Env} {S : St} {e' S'}, RunZ X rec n all z D os i e S e' S' → S.n ≤ S'.n
  | _, [], _, _, _, _, _, h => by unfold RunZ at h; rw [h.2]; exact Nat.le_refl _
  | _, o :: os, i, e, S, e', S', h => by
    unfold RunZ at h
    rcases h with ⟨_, v, S1, e1, N, h1, _, _, _, _, _, h6⟩ | ⟨_, e1, _, h2⟩
    · exact Nat.le_trans (oper_n h1) (RunZ_n h6)
    · exact RunZ_n h2
/-- a fact, and what the plan has put down -/
def FZ (ms : List Nat) (z : Nat) (N0 : Nat) (h0 : Tr AB) (acc : List R) (f : Fct) : Prop :=
  (f.src = none ∧ f.id < N0 ∧ h0.get f.id = some f.x ∧ ∀ (k : Nat) (r : R) h' m, acc[k]? = some r → r.k = .ld h' m → k < z → h'.get f.id = some f.x) ∨
  ∃ j r, f.src = some j ∧ acc[j]? = some r ∧ ((r.k = .mk f.x ∧ r.n0 = f.id) ∨ (∃ h' m, r.k = .ld h' m ∧ h'.get f.id = some f.x ∧ f.id < m ∧ ∀ (k : Nat) (r : R) b, acc[k]? = some r → r.k = .mk b → k < j → inM ms j k = true)) ∧
    ∀ (k : Nat) (r : R) h' m, acc[k]? = some r → r.k = .ld h' m → j < k → k < z → h'.get f.id = some f.x
theorem FZ_snoc {ms : List Nat} {z : Nat} {N0 : Nat} {h0 : Tr AB} {acc : List R} {f : Fct} {r : R} (h : FZ ms z N0 h0 acc f) (hr : ∀ h' m, r.k = .ld h' m → acc.length < z → h'.get f.id = some f.x) : FZ ms z N0 h0 (acc ++ [r]) f := by
  have key : ∀ (k : Nat) (r' : R), (acc ++ [r])[k]? = some r' → acc[k]? = some r' ∨ (k = acc.length ∧ r' = r) := by
    intro k r' hk
    by_cases hlt : k < acc.length
    · rw [List.getElem?_append_left hlt] at hk; exact .inl hk
    · have h2 : k = acc.length := by
        have := (List.getElem?_eq_some_iff.1 hk).1
        simp at this; omega
      subst h2
      simp at hk; exact .inr ⟨rfl, hk.symm⟩
  rcases h with ⟨h1, h2, h3, h4⟩ | ⟨j, r0, h1, h2, h3, h4⟩
  · refine .inl ⟨h1, h2, h3, fun k r' h' m hk hl hz => ?_⟩
    rcases key k r' hk with hk | ⟨hkk, rfl⟩
    · exact h4 k r' h' m hk hl hz
    · exact hr h' m hl (hkk ▸ hz)
  · have hj : j < acc.length := (List.getElem?_eq_some_iff.1 h2).1
    refine .inr ⟨j, r0, h1, by rw [List.getElem?_append_left hj]; exact h2, ?_, ?_⟩
    · rcases h3 with h3 | ⟨h', m, a1, a2, a3, a4⟩
      · exact .inl h3
      · refine .inr ⟨h', m, a1, a2, a3, ?_⟩
        intro k r' b hk hb hlt
        rcases key k r' hk with hk | ⟨hk, _⟩
        · exact a4 k r' b hk hb hlt
        · omega
    · intro k r' h' m hk hl hlt hz
      rcases key k r' hk with hk | ⟨hkk, rfl⟩
      · exact h4 k r' h' m hk hl hlt hz
      · exact hr h' m hl (hkk ▸ hz)
theorem FZ_get {ms : List Nat} {z : Nat} {N0 i : Nat} {h0 : Tr AB} {recs : List R} {f : Fct} {pf : List Nat} (hz : ∀ j ∈ pf, j < z) (hbd : ∀ (k : Nat) (r : R) b, recs[k]? = some r → r.k = .mk b → N0 ≤ r.n0 ∧ r.n0 < 1000000000)
    (hmono : ∀ (q q' : Nat) (r r' : R), q < q' → recs[q]? = some r → recs[q']? = some r' → r.n1 ≤ r'.n0) (hpf : pf.Pairwise (· < ·)) (hld : ∀ j ∈ pf, ∃ r, recs[j]? = some r ∧ r.isL) (hlt : ∀ j k, inM ms j k = true → k < j)
    (h : FZ ms z N0 h0 recs f) (hu : ∀ j, f.src = some j → inM ms i j = true ∧ ((∃ r, recs[j]? = some r ∧ r.isL) → j ∈ pf)) : (gh ms pf (inM ms i) recs 0 (hOf recs h0 pf)).get f.id = some f.x := by
  have hbd' := fun k r b h1 h2 => (hbd k r b h1 h2).2
  rcases h with ⟨_, h2, h3, h4⟩ | ⟨j, r, h1, h2, h3, h4⟩
  · rw [gh_miss hbd' (fun k r b a1 a2 _ _ => by have := (hbd k r b a1 a2).1; omega)]
    refine hOf_has (a := 0) hpf (fun k hk => ?_) (.inl ⟨h3, fun _ _ => Nat.zero_le _⟩)
    obtain ⟨r, b1, h', m, b2⟩ := hld k hk
    exact ⟨r, h', m, b1, b2, fun _ => h4 k r h' m b1 b2 (hz k hk)⟩
  · obtain ⟨u1, u2⟩ := hu j h1
    rcases h3 with ⟨g1, g2⟩ | ⟨h', m, g1, g2, g3, g4⟩
    · by_cases hun : Unm ms pf j
      · rw [← g2]
        exact gh_hit hbd' hmono h2 g1 (by rw [Nat.zero_add]; exact u1) (by rw [Nat.zero_add]; exact hun)
      · have huni : ∀ (k : Nat) (r' : R) b, recs[k]? = some r' → r'.k = .mk b → r'.n0 = f.id → k = j := by
          intro k r' b a1 a2 a3
          rcases Nat.lt_trichotomy k j with hk | hk | hk
          · have := hmono k j r' r hk a1 h2
            simp [R.n1, a2] at this; omega
          · exact hk
          · have := hmono j k r r' hk h2 a1
            simp [R.n1, g1] at this; omega
        rw [gh_miss hbd' (fun k r' b a1 a2 _ a4 a5 => by
          have := huni k r' b a1 a2 a5; subst this
          rw [Nat.zero_add] at a4; exact hun a4)]
        have hex : ∃ q ∈ pf, j + 1 ≤ q := by
          refine Classical.byContradiction fun hne => hun fun q hq => ?_
          cases hqq : inM ms q j with
          | false => rfl
          | true => exact absurd ⟨q, hq, hlt q j hqq⟩ hne
        refine hOf_has (a := j + 1) hpf (fun k hk => ?_) (.inr hex)
        obtain ⟨r', b1, h', m, b2⟩ := hld k hk
        exact ⟨r', h', m, b1, b2, fun hl => h4 k r' h' m b1 b2 hl (hz k hk)⟩
    · have hjp := u2 ⟨r, h2, h', m, g1⟩
      rw [gh_miss hbd' (fun k r' b a1 a2 _ a4 a5 => by
        rcases Nat.lt_trichotomy k j with hk | hk | hk
        · have e1 := g4 k r' b a1 a2 hk
          rw [Nat.zero_add] at a4
          have e2 := a4 j hjp
          rw [e1] at e2; cases e2
        · subst hk; rw [h2] at a1; cases a1; rw [g1] at a2; cases a2
        · have := hmono j k r r' hk h2 a1
          simp [R.n1, g1] at this; omega)]
      refine hOf_has (a := j) hpf (fun k hk => ?_) (.inr ⟨j, hjp, Nat.le_refl _⟩)
      obtain ⟨r', b1, h'', m', b2⟩ := hld k hk
      refine ⟨r', h'', m', b1, b2, fun hl => ?_⟩
      rcases Nat.lt_or_ge j k with hk2 | hk2
      · exact h4 k r' h'' m' b1 b2 hk2 (hz k hk)
      · have : k = j := by omega
        subst this
        rw [h2] at b1; cases b1; rw [g1] at b2; cases b2; exact g2
section
variable {X : X} {rec : Rec} {n : Nat} {ops : List Oper} {e : Env} {h0 : Tr AB}
def RFZ (X : _root_.GX.X) (n : Nat) (ops : List Oper) (z : Nat) (N0 : Nat) (e : Env) (h0 : Tr AB) (recs : List R) (lds : List Nat) (i : Nat) (o : Oper) (r : R) : Prop :=
  r.k = .rd → ∃ l1 l2 ei, lds = l1 ++ l2 ∧ (∀ j ∈ l1, j < i) ∧ (∀ j ∈ l2, i < j) ∧ (∀ t ∈ looks ops o, lookT (masks ops []) ops (recs.take i) e i t = some (ei.at t)) ∧ (∀ t ∈ looks ops o, t < n) ∧
    sk X o.op = .read ∧ veq r.v r.v = true ∧ ((rdStat (masks ops []) (ops.map (fun o => sk X o.op)) i = true ∧ readOp X ei (gh (masks ops []) l1 (fun _ => true) (recs.take i) 0 (hOf (recs.take i) h0 l1)) o.op = some r.v) ∨ ∃ D, ZB ops z i = true ∧ FPD X D (masks ops []) i ei o.op r.v ∧ ∀ f ∈ D, FZ (masks ops []) z N0 h0 recs f)
theorem plan_seqZ {z N0 : Nat} (hn : n < 1000001) (hE : edgesOk ops 0 = true) (hD : dstsOk n ops = true) (hK : seqB1 ops (masks ops []) (ops.map (fun o => sk X o.op)) n ops 0 = true) :
    ∀ (D : List Fct) (os pre : List Oper) (acc : List R) (lds : List Nat) (S : St) (ei : Env) (e' : Env) (S' : St), ops = pre ++ os → acc.length = pre.length → putAll n pre acc e = some ei →
    (∀ (k : Nat) (r : R) b, acc[k]? = some r → r.k = .mk b → (ops.map (fun o => sk X o.op)).getD k .pure = .alloc ∧ N0 ≤ r.n0 ∧ r.n0 < 1000000000) →
    (∀ f ∈ D, FZ (masks ops []) z N0 h0 acc f) →
    (∀ (k : Nat) (r : R), acc[k]? = some r → r.isL → k ∈ lds) → (∀ (q q' : Nat) (r r' : R), q < q' → acc[q]? = some r → acc[q']? = some r' → r.n1 ≤ r'.n0) → (∀ (q : Nat) (r : R), acc[q]? = some r → r.n1 ≤ S.n) →
    N0 ≤ S.n →
    (∀ j ∈ lds, j < pre.length ∧ isLC ((ops.map (fun o => sk X o.op)).getD j .pure) = true ∧ ∃ r, acc[j]? = some r ∧ r.isL) →
    lds.Pairwise (· < ·) →
    S.h = gh (masks ops []) lds (fun _ => true) acc 0 (hOf acc h0 lds) →
    RunZ X rec n ops z D os pre.length ei S e' S' →
    ∃ tl l2, plan X rec n ops (masks ops []) e os pre.length acc lds (hOf acc h0 lds) S.n = some (acc ++ tl, lds ++ l2, S'.n) ∧
      (∀ j ∈ l2, pre.length ≤ j ∧ isLC ((ops.map (fun o => sk X o.op)).getD j .pure) = true) ∧ putAll n ops (acc ++ tl) e = some e' ∧
      S'.h = gh (masks ops []) (lds ++ l2) (fun _ => true) (acc ++ tl) 0 (hOf (acc ++ tl) h0 (lds ++ l2)) ∧ tl.length = os.length ∧ (lds ++ l2).Pairwise (· < ·) ∧ (∀ (k : Nat) (r : R) b, (acc ++ tl)[k]? = some r → r.k = .mk b → (ops.map (fun o => sk X o.op)).getD k .pure = .alloc ∧ N0 ≤ r.n0 ∧ r.n0 < 1000000000) ∧ (∀ f ∈ D, FZ (masks ops []) z N0 h0 (acc ++ tl) f) ∧ (∀ (k : Nat) (r : R), (acc ++ tl)[k]? = some r → r.isL → k ∈ lds ++ l2) ∧ (∀ (q q' : Nat) (r r' : R), q < q' → (acc ++ tl)[q]? = some r → (acc ++ tl)[q']? = some r' → r.n1 ≤ r'.n0) ∧ (∀ j ∈ lds ++ l2, ∃ r, (acc ++ tl)[j]? = some r ∧ r.isL) ∧
      ∀ (k : Nat) (o : Oper) (r : R), os[k]? = some o → tl[k]? = some r → RFZ X n ops z N0 e h0 (acc ++ tl) (lds ++ l2) (pre.length + k) o r
  | D, [], pre, acc, lds, S, ei, e', S', hp, hl, hput, hmk, hF, hal, hmo, _, _, hld, hpw, hh, h => by
    unfold RunZ at h
    obtain ⟨rfl, rfl⟩ := h
    refine ⟨[], [], ?_, fun j hj => by simp at hj, ?_, ?_, rfl, by simpa using hpw, by simpa using hmk, by simpa using hF, by simpa using hal, by simpa using hmo, fun j hj => by simpa using (hld j (by simpa using hj)).2.2, fun k o r hk => by simp at hk⟩
    · simp [plan]
    · simp only [List.append_nil] at hp ⊢; rw [hp]; exact hput
    · simpa using hh
  | D, o :: os, pre, acc, lds, S, ei, e', S', hp, hl, hput, hmk, hF, hal, hmo, hmn, hN, hld, hpw, hh, h => by
    have ho : ops[pre.length]? = some o := by rw [hp]; simp
    have hsk : (ops.map (fun o => sk X o.op)).getD pre.length .pure = sk X o.op := by
      rw [List.getD_eq_getElem?_getD, List.getElem?_map, ho]; rfl
    obtain ⟨hk1, hk2⟩ := seqB1_at hK pre.length o ho
    simp only [Nat.zero_add] at hk1 hk2
    rw [hsk] at hk2
    have hlk := looks_seq hn hE hD hp hl hput hk1
    obtain ⟨re, hre, hag⟩ := renv_good (es := ei) hn hlk
    have hoe : OE re ei o.op := OE_of hag
    have hp' : ops = (pre ++ [o]) ++ os := by rw [hp]; simp
    -- what goes on behind
    have fin : ∀ (r : R) (ldn : List Nat) (S1 : St) (e1 : Env) (N : List Fct), setDst n ei o.dst r.v = some e1 → (∀ b, r.k = .mk b → sk X o.op = .alloc ∧ N0 ≤ r.n0 ∧ r.n0 < 1000000000) → (∀ h' m, r.k = .ld h' m → pre.length < z → ∀ f ∈ D, h'.get f.id = some f.x) → (∀ f ∈ N, FZ (masks ops []) z N0 h0 (acc ++ [r]) f) → r.n0 = S.n → r.n1 = S1.n → S.n ≤ S1.n → N0 ≤ S1.n → (ldn = [] ∧ ¬ r.isL ∨ ldn = [pre.length] ∧ isLC (sk X o.op) = true ∧ r.isL) →
        S1.h = gh (masks ops []) (lds ++ ldn) (fun _ => true) (acc ++ [r]) 0 (hOf (acc ++ [r]) h0 (lds ++ ldn)) →
        (r.k = .rd → ldn = [] ∧ sk X o.op = .read ∧ veq r.v r.v = true ∧ ((rdStat (masks ops []) (ops.map (fun o => sk X o.op)) pre.length = true ∧ readOp X ei S.h o.op = some r.v) ∨ ZB ops z pre.length = true ∧ FPD X D (masks ops []) pre.length ei o.op r.v)) →
        RunZ X rec n ops z (D ++ N) os (pre.length + 1) e1 S1 e' S' →
        plan X rec n ops (masks ops []) e (o :: os) pre.length acc lds (hOf acc h0 lds) S.n = plan X rec n ops (masks ops []) e os (pre.length + 1) (acc ++ [r]) (lds ++ ldn) (hOf (acc ++ [r]) h0 (lds ++ ldn)) S1.n →
        ∃ tl l2, plan X rec n ops (masks ops []) e (o :: os) pre.length acc lds (hOf acc h0 lds) S.n = some (acc ++ tl, lds ++ l2, S'.n) ∧
          (∀ j ∈ l2, pre.length ≤ j ∧ isLC ((ops.map (fun o => sk X o.op)).getD j .pure) = true) ∧ putAll n ops (acc ++ tl) e = some e' ∧
          S'.h = gh (masks ops []) (lds ++ l2) (fun _ => true) (acc ++ tl) 0 (hOf (acc ++ tl) h0 (lds ++ l2)) ∧ tl.length = (o :: os).length ∧ (lds ++ l2).Pairwise (· < ·) ∧ (∀ (k : Nat) (r : R) b, (acc ++ tl)[k]? = some r → r.k = .mk b → (ops.map (fun o => sk X o.op)).getD k .pure = .alloc ∧ N0 ≤ r.n0 ∧ r.n0 < 1000000000) ∧ (∀ f ∈ D, FZ (masks ops []) z N0 h0 (acc ++ tl) f) ∧ (∀ (k : Nat) (r : R), (acc ++ tl)[k]? = some r → r.isL → k ∈ lds ++ l2) ∧ (∀ (q q' : Nat) (r r' : R), q < q' → (acc ++ tl)[q]? = some r → (acc ++ tl)[q']? = some r' → r.n1 ≤ r'.n0) ∧ (∀ j ∈ lds ++ l2, ∃ r, (acc ++ tl)[j]? = some r ∧ r.isL) ∧
          ∀ (k : Nat) (o' : Oper) (r : R), (o :: os)[k]? = some o' → tl[k]? = some r → RFZ X n ops z N0 e h0 (acc ++ tl) (lds ++ l2) (pre.length + k) o' r := by
      intro r ldn S1 e1 N hset hmk1 hlb1 hNf hr0 hr1 hnS1 hN1 hldn hh1 hrd hrun hplan
      have hlast : ∀ (k : Nat) (r' : R), (acc ++ [r])[k]? = some r' → acc[k]? = some r' ∨ (k = acc.length ∧ r' = r) := by
        intro k r' hk
        by_cases hlt : k < acc.length
        · rw [List.getElem?_append_left hlt] at hk; exact .inl hk
        · have h2 : k = acc.length := by
            have := (List.getElem?_eq_some_iff.1 hk).1
            simp at this; omega
          subst h2
          simp at hk; exact .inr ⟨rfl, hk.symm⟩
      obtain ⟨tl, l2, p1, p2, p3, p4, p5, ppw, pmk, pF, pal, pmo, pld, p6⟩ := plan_seqZ hn hE hD hK (D ++ N) os (pre ++ [o]) (acc ++ [r]) (lds ++ ldn) S1 e1 e' S' hp' (by simp [hl]) (putAll_snoc hput hset)
        (by
          intro k r' b hk hb
          by_cases hlt : k < acc.length
          · rw [List.getElem?_append_left hlt] at hk; exact hmk k r' b hk hb
          · have : k = acc.length := by
              have := (List.getElem?_eq_some_iff.1 hk).1
              simp at this; omega
            subst this
            simp at hk; subst hk
            rw [hl, hsk]; exact hmk1 b hb)
        (by
          intro f hf
          rcases List.mem_append.1 hf with hf | hf
          · exact FZ_snoc (hF f hf) (fun h' m hk hz => hlb1 h' m hk (hl ▸ hz) f hf)
          · exact hNf f hf)
        (by
          intro k r' hk hkl
          rcases hlast k r' hk with hk | ⟨rfl, rfl⟩
          · exact List.mem_append_left _ (hal k r' hk hkl)
          · rcases hldn with ⟨_, hq⟩ | ⟨hq, _⟩
            · exact absurd hkl hq
            · rw [hq, hl]; simp)
        (by
          intro q q' r1 r2 hlt h1 h2
          rcases hlast q' r2 h2 with h2 | ⟨rfl, rfl⟩
          · have hlt2 := (List.getElem?_eq_some_iff.1 h2).1
            rcases hlast q r1 h1 with h1 | ⟨rfl, rfl⟩
            · exact hmo q q' r1 r2 hlt h1 h2
            · omega
          · rcases hlast q r1 h1 with h1 | ⟨rfl, rfl⟩
            · rw [hr0]; exact hmn q r1 h1
            · omega)
        (by
          intro q r1 h1
          rcases hlast q r1 h1 with h1 | ⟨rfl, rfl⟩
          · have h2 := hmn q r1 h1
            have h3 : r.n0 ≤ r.n1 := by
              rw [hr1, hr0]; exact hnS1
            omega
          · omega)
        hN1
        (by
          intro j hj
          rw [List.mem_append] at hj
          rcases hj with hj | hj
          · obtain ⟨g1, g2, r', g3, g4⟩ := hld j hj; exact ⟨by simp; omega, g2, r', by rw [List.getElem?_append_left (List.getElem?_eq_some_iff.1 g3).1]; exact g3, g4⟩
          · rcases hldn with ⟨hq, _⟩ | ⟨hq, hq2, hq3⟩
            · rw [hq] at hj; simp at hj
            · rw [hq] at hj; simp at hj; subst hj; exact ⟨by simp, by rw [hsk]; exact hq2, r, by rw [← hl]; simp, hq3⟩)
        (by
          rw [List.pairwise_append]
          refine ⟨hpw, ?_, fun a ha b hb => ?_⟩
          · rcases hldn with ⟨hq, _⟩ | ⟨hq, _⟩ <;> rw [hq] <;> simp
          · rcases hldn with ⟨hq, _⟩ | ⟨hq, _⟩
            · rw [hq] at hb; simp at hb
            · rw [hq] at hb; simp at hb; subst hb; exact (hld a ha).1)
        hh1 (by rw [List.length_append, List.length_singleton]; exact hrun)
      rw [List.length_append, List.length_singleton] at p1
      refine ⟨r :: tl, ldn ++ l2, ?_, ?_, ?_, ?_, by simp [p5], by simpa using ppw, by simpa using pmk, fun f hf => by simpa using pF f (List.mem_append_left _ hf), by simpa using pal, by simpa using pmo, by simpa using pld, ?_⟩
      · rw [hplan, p1]; simp
      · intro j hj
        rw [List.mem_append] at hj
        rcases hj with hj | hj
        · rcases hldn with ⟨hq, _⟩ | ⟨hq, hq2, _⟩
          · rw [hq] at hj; simp at hj
          · rw [hq] at hj; simp at hj; subst hj; exact ⟨Nat.le_refl _, by rw [hsk]; exact hq2⟩
        · have h1 := (p2 j hj).1; simp only [List.length_append, List.length_singleton] at h1; exact ⟨by omega, (p2 j hj).2⟩
      · rw [← p3]; simp
      · rw [p4]; simp
      · intro k o' r' hk hr'
        cases k with
        | zero =>
          simp at hk hr'; subst hk; subst hr'
          intro hrk
          obtain ⟨q1, q2, q4, q3⟩ := hrd hrk
          subst q1
          refine ⟨lds, l2, ei, by simp, fun j hj => by have := (hld j hj).1; simpa using this, fun j hj => by have := (p2 j hj).1; simp only [List.length_append, List.length_singleton] at this; omega, ?_, fun t ht => (hlk t ht).1, q2, q4, q3.imp (fun q => ⟨by simpa using q.1, ?_⟩) (fun q => ⟨D, by simpa using q.1, by simpa using q.2, fun f hf => by simpa using pF f (List.mem_append_left _ hf)⟩)⟩
          · intro t ht
            have : (acc ++ r :: tl).take (pre.length + 0) = acc := by rw [Nat.add_zero, ← hl]; simp
            rw [this]
            exact (hlk t ht).2
          · have : (acc ++ r :: tl).take (pre.length + 0) = acc := by rw [Nat.add_zero, ← hl]; simp
            rw [this, ← hh]; exact q.2
        | succ k =>
          have := p6 k o' r' (by simpa using hk) (by simpa using hr')
          simp only [List.length_append, List.length_singleton, List.append_assoc, List.singleton_append] at this
          rw [show pre.length + (k + 1) = pre.length + 1 + k by omega]
          exact this
    have hwc : wanted ops re o = wanted ops ei o := wanted_congr hag
    have hldlt : ∀ j ∈ lds, j < (acc).length := fun j hj => by rw [hl]; exact (hld j hj).1
    have hOfs : ∀ r : R, hOf (acc ++ [r]) h0 lds = hOf acc h0 lds := fun r => hOf_append hldlt
    have hgs : ∀ r : R, (∀ b, r.k ≠ .mk b) → gh (masks ops []) lds (fun _ => true) (acc ++ [r]) 0 (hOf (acc ++ [r]) h0 lds) = S.h := by
      intro r hr
      rw [hOfs, gh_snoc, ← hh]
      unfold ghStep
      split
      · rename_i b hb; exact absurd hb (hr b)
      · rfl
    have hgc : (∀ (k : Nat), k < pre.length → (ops.map (fun o => sk X o.op)).getD k .pure = .alloc → inM (masks ops []) pre.length k = true) → gh (masks ops []) lds (inM (masks ops []) pre.length) acc 0 (hOf acc h0 lds) = S.h := by
      intro hq
      rw [hh]
      apply gh_congr
      intro k r b h1 h2
      have hkl : k < pre.length := by have := (List.getElem?_eq_some_iff.1 h1).1; omega
      simp only [Nat.zero_add]
      exact hq k hkl (hmk k r b h1 h2).1
    have hzlt : ZB ops z pre.length = true → pre.length < z := by
      intro hzb
      have hlo : pre.length < ops.length := (List.getElem?_eq_some_iff.1 ho).1
      have h1 := List.all_eq_true.1 hzb pre.length (by simpa using hlo)
      rw [Bool.or_eq_true] at h1
      rcases h1 with h1 | h1
      · rw [nblt, decide_eq_true_eq] at h1; exact h1
      · have := inM_lt hE _ _ h1; omega
    have hgB : pre.length < z → ∀ f ∈ D, (∀ j, f.src = some j → inM (masks ops []) pre.length j = true) → (gh (masks ops []) lds (inM (masks ops []) pre.length) acc 0 (hOf acc h0 lds)).get f.id = some f.x := by
      intro hzz f hf hu
      refine FZ_get (fun j hj => Nat.lt_trans (hld j hj).1 hzz) (fun k r b h1 h2 => (hmk k r b h1 h2).2) hmo hpw (fun j hj => (hld j hj).2.2) (fun j k => inM_lt hE j k) (hF f hf) (fun j hj => ⟨hu j hj, fun ⟨r, h1, h2⟩ => hal j r h1 h2⟩)
    unfold RunZ at h
    rcases h with ⟨hw, v, S1, e1, N, hop, he1, hb, hrdc, hlc, hNf, h⟩ | ⟨hw, e1, he1, h⟩
    case inr =>
      refine fin ⟨.tup [], S.n, .val⟩ [] S e1 [] he1 (fun b hb => by cases hb) (fun h' m hb => by cases hb) (fun f hf => by cases hf) rfl rfl (Nat.le_refl _) hN (.inl ⟨rfl, fun ⟨_, _, q⟩ => by cases q⟩) ?_ (fun hb => by cases hb) (by rw [List.append_nil]; exact h) ?_
      · rw [List.append_nil, hgs _ (fun b hb => by cases hb)]
      · conv => lhs; unfold plan
        rw [hre]; dsimp only; rw [hwc, hw]; simp only [cond_false, List.append_nil]
        rw [hOfs]
    case inl =>
      have hck := sk_ok hop
      have hclr : cls X re o.op = cls X ei o.op := cls_congr hoe
      have hN1 : N0 ≤ S1.n := Nat.le_trans hN (oper_n hop)
      have hloud : isLC (cls X ei o.op) = true →
        ∃ tl l2, plan X rec n ops (masks ops []) e (o :: os) pre.length acc lds (hOf acc h0 lds) S.n = some (acc ++ tl, lds ++ l2, S'.n) ∧
          (∀ j ∈ l2, pre.length ≤ j ∧ isLC ((ops.map (fun o => sk X o.op)).getD j .pure) = true) ∧ putAll n ops (acc ++ tl) e = some e' ∧
          S'.h = gh (masks ops []) (lds ++ l2) (fun _ => true) (acc ++ tl) 0 (hOf (acc ++ tl) h0 (lds ++ l2)) ∧ tl.length = (o :: os).length ∧ (lds ++ l2).Pairwise (· < ·) ∧ (∀ (k : Nat) (r : R) b, (acc ++ tl)[k]? = some r → r.k = .mk b → (ops.map (fun o => sk X o.op)).getD k .pure = .alloc ∧ N0 ≤ r.n0 ∧ r.n0 < 1000000000) ∧ (∀ f ∈ D, FZ (masks ops []) z N0 h0 (acc ++ tl) f) ∧ (∀ (k : Nat) (r : R), (acc ++ tl)[k]? = some r → r.isL → k ∈ lds ++ l2) ∧ (∀ (q q' : Nat) (r r' : R), q < q' → (acc ++ tl)[q]? = some r → (acc ++ tl)[q']? = some r' → r.n1 ≤ r'.n0) ∧ (∀ j ∈ lds ++ l2, ∃ r, (acc ++ tl)[j]? = some r ∧ r.isL) ∧
          ∀ (k : Nat) (o' : Oper) (r : R), (o :: os)[k]? = some o' → tl[k]? = some r → RFZ X n ops z N0 e h0 (acc ++ tl) (lds ++ l2) (pre.length + k) o' r := by
        intro hlc0
        have hs : cls X ei o.op = sk X o.op := by
          rcases hck with hq | hq
          · rw [hq] at hlc0; cases hlc0
          · exact hq
        have hlc1 := hlc hlc0
        rw [hs] at hlc0
        have hbef : bef (masks ops []) (ops.map (fun o => sk X o.op)) pre.length isAll = true := hk2 hlc0
        have hg := hgc (fun k hk hq => bef_at hbef hk (by rw [hq]; rfl))
        have hall : lds.all (fun j => inM (masks ops []) pre.length j) = true := by
          apply List.all_eq_true.2
          intro j hj
          obtain ⟨q1, q2, -⟩ := hld j hj
          exact bef_at hbef q1 (by cases hq : (ops.map (fun o => sk X o.op)).getD j .pure <;> rw [hq] at q2 <;> first | rfl | cases q2)
        have hop' : oper X rec re { h := gh (masks ops []) lds (inM (masks ops []) pre.length) acc 0 (hOf acc h0 lds), n := S.n } o.op = some (v, S1) := by
          rw [hg, oper_congr hoe]; exact hop
        refine fin ⟨v, S.n, .ld S1.h S1.n⟩ [pre.length] S1 e1 N he1 (fun b hb => by cases hb) (fun h' m hb => by cases hb; exact hlc1) (fun f hf => ?_) rfl rfl (oper_n hop) hN1 (.inr ⟨rfl, hlc0, _, _, rfl⟩) ?_ (fun hb => by cases hb) h ?_
        · obtain ⟨n1, n2, n3, _⟩ := hNf f hf
          refine .inr ⟨pre.length, ⟨v, S.n, .ld S1.h S1.n⟩, n1, by rw [← hl]; simp, .inr ⟨_, _, rfl, n3, n2, ?_⟩, ?_⟩
          · intro k r b hk hb hlt
            rw [List.getElem?_append_left (by omega)] at hk
            exact bef_at hbef hlt (by rw [(hmk k r b hk hb).1]; rfl)
          · intro k r h' m hk _ hlt _
            have := (List.getElem?_eq_some_iff.1 hk).1
            simp at this; omega
        · rw [gh_snoc]
          have : hOf (acc ++ [(⟨v, S.n, .ld S1.h S1.n⟩ : R)]) h0 (lds ++ [pre.length]) = S1.h := hOf_snoc (r := ⟨v, S.n, .ld S1.h S1.n⟩) (m := S1.n) (by rw [← hl]; simp) rfl
          rw [this, gh_had (fun q r b h1 h2 => by
            have hkl : q < pre.length := by have := (List.getElem?_eq_some_iff.1 h1).1; omega
            rw [Nat.zero_add]
            exact bef_at hbef hkl (by rw [(hmk q r b h1 h2).1]; rfl))]
          rfl
        · conv => lhs; unfold plan
          rw [hre]; dsimp only; rw [hwc, hw]; simp only [cond_true]
          have : hOf (acc ++ [(⟨v, S.n, .ld S1.h S1.n⟩ : R)]) h0 (lds ++ [pre.length]) = S1.h := hOf_snoc (r := ⟨v, S.n, .ld S1.h S1.n⟩) (m := S1.n) (by rw [← hl]; simp) rfl
          rw [hclr, hs]
          cases hskc : sk X o.op with
          | loud => dsimp only; rw [hall]; simp only [cond_true]; rw [hop']; dsimp only; rw [this]
          | call => dsimp only; rw [hall]; simp only [cond_true]; rw [hop']; dsimp only; rw [this]
          | _ => rw [hskc] at hlc0; cases hlc0
      cases hc : cls X ei o.op with
      | loud => exact hloud (by rw [hc]; rfl)
      | call => exact hloud (by rw [hc]; rfl)
      | pure =>
        unfold oper at hop
        rw [hc] at hop
        dsimp only at hop
        split at hop
        · cases hop
        · rename_i v' hv
          cases hop
          have hN0 : N = [] := by
            cases N with
            | nil => rfl
            | cons f N => exfalso; have := (hNf f (List.mem_cons_self ..)).2.2.2; rw [hc] at this; exact absurd this (by rintro (q | ⟨q, _⟩) <;> cases q)
          subst hN0
          refine fin ⟨v, S.n, .val⟩ [] S e1 [] he1 (fun b hb => by cases hb) (fun h' m hb => by cases hb) (fun f hf => by cases hf) rfl rfl (Nat.le_refl _) hN (.inl ⟨rfl, fun ⟨_, _, q⟩ => by cases q⟩) ?_ (fun hb => by cases hb) h ?_
          · rw [List.append_nil, hgs _ (fun b hb => by cases hb)]
          · conv => lhs; unfold plan
            rw [hre]; dsimp only; rw [hwc, hw]; simp only [cond_true, List.append_nil]
            rw [hclr, hc]; dsimp only; rw [pureOp_congr hoe, hv]; dsimp only; rw [hOfs]
      | read =>
        have hs : sk X o.op = .read := by
          rcases hck with hq | hq
          · rw [hq] at hc; cases hc
          · rw [← hq]; exact hc
        have hrdc' := hrdc hc
        unfold oper at hop
        rw [hc] at hop
        dsimp only at hop
        split at hop
        · cases hop
        · rename_i v' hv
          cases hop
          rw [hc] at hb
          have hrd2 : readOp X ei (gh (masks ops []) lds (inM (masks ops []) pre.length) acc 0 (hOf acc h0 lds)) o.op = some v := by
            rcases hrdc' with hst | hfp
            · have hst' := hst
              unfold rdStat at hst'
              rw [Bool.and_eq_true] at hst'
              rw [hgc (fun k hk hq => bef_at hst'.1 hk (by rw [hq]; rfl))]; exact hv
            · exact hfp.2 _ (hgB (hzlt hfp.1))
          have hN0 : N = [] := by
            cases N with
            | nil => rfl
            | cons f N => exfalso; have := (hNf f (List.mem_cons_self ..)).2.2.2; rw [hc] at this; exact absurd this (by rintro (q | ⟨q, _⟩) <;> cases q)
          subst hN0
          refine fin ⟨v, S.n, .rd⟩ [] S e1 [] he1 (fun b hb => by cases hb) (fun h' m hb => by cases hb) (fun f hf => by cases hf) rfl rfl (Nat.le_refl _) hN (.inl ⟨rfl, fun ⟨_, _, q⟩ => by cases q⟩) ?_ (fun _ => ⟨rfl, hs, hb, hrdc'.imp (fun q => ⟨q, hv⟩) (fun q => q)⟩) h ?_
          · rw [List.append_nil, hgs _ (fun b hb => by cases hb)]
          · conv => lhs; unfold plan
            rw [hre]; dsimp only; rw [hwc, hw]; simp only [cond_true, List.append_nil]
            rw [hclr, hc]; dsimp only; rw [readOp_congr hoe, hrd2]; dsimp only; rw [hOfs]
      | alloc =>
        have hs : sk X o.op = .alloc := by
          rcases hck with hq | hq
          · rw [hq] at hc; cases hc
          · rw [← hq]; exact hc
        unfold oper at hop
        rw [hc] at hop
        dsimp only at hop
        cases hlt : Nat.blt S.n 1000000000 with
        | false => rw [hlt] at hop; cases hop
        | true =>
          rw [hlt] at hop
          simp only [cond_true] at hop
          have hlt2 : S.n < 1000000000 := by rw [nblt, decide_eq_true_eq] at hlt; exact hlt
          split at hop
          · cases hop
          · rename_i b' v' hv
            cases hop
            refine fin ⟨v, S.n, .mk b'⟩ [] (S.new b') e1 N he1 (fun _ _ => ⟨hs, hN, hlt2⟩) (fun h' m hb => by cases hb) (fun f hf => ?_) rfl rfl (Nat.le_succ _) hN1 (.inl ⟨rfl, fun ⟨_, _, q⟩ => by cases q⟩) ?_ (fun hb => by cases hb) h ?_
            · obtain ⟨n1, _, n3, n4⟩ := hNf f hf
              rw [hc] at n4
              rcases n4 with q | ⟨_, q⟩
              · cases q
              have hx : f.x = b' := by
                have h5 : (S.new b').h.get S.n = some b' := by unfold St.new; dsimp only; rw [Tr.get_set 40 _ _ _ _ (by omega), if_pos rfl]
                rw [q, h5] at n3; cases n3; rfl
              refine .inr ⟨pre.length, ⟨v, S.n, .mk b'⟩, n1, by rw [← hl]; simp, .inl ⟨by rw [hx], q.symm⟩, ?_⟩
              intro k r h' m hk _ hlt _
              have := (List.getElem?_eq_some_iff.1 hk).1
              simp at this; omega
            · rw [List.append_nil, hOfs, gh_snoc, ← hh]
              unfold ghStep
              dsimp only
              have : lds.all (fun j => !inM (masks ops []) j (0 + acc.length)) = true := by
                apply List.all_eq_true.2
                intro j hj
                have h1 := (hld j hj).1
                cases hq : inM (masks ops []) j (0 + acc.length) with
                | false => rfl
                | true => have := inM_lt hE _ _ hq; omega
              rw [this]
              rfl
            · conv => lhs; unfold plan
              rw [hre]; dsimp only; rw [hwc, hw]; simp only [cond_true, List.append_nil]
              rw [hclr, hc]; dsimp only; rw [hlt]; simp only [cond_true]; rw [allocOp_congr hoe, hv]; dsimp only; rw [hOfs]
              rfl
/-- WHERE THE EDGES SAY ENOUGH but for reads that loud operations leave alone, a region that draws its order gives what the text's order gives. -/
theorem drawn_Z {z : Nat} {D : List Fct} {S : St} {e' : Env} {S' : St} (hD0 : ∀ f ∈ D, f.src = none ∧ f.id < S.n ∧ S.h.get f.id = some f.x) (hs : seqB X n ops = true) (h : RunZ X rec n ops z D ops 0 e S e' S') : drawn X rec n ops e S = .ok .nor e' S' := by
  unfold seqB at hs
  simp only [Bool.and_eq_true, nblt, decide_eq_true_eq] at hs
  obtain ⟨⟨⟨⟨hE, hD⟩, hN⟩, hn⟩, hK⟩ := hs
  have hle := RunZ_n h
  obtain ⟨tl, l2, p1, p2, p3, p4, p5, ppw, pmk, -, pal, pmo, pld, p6⟩ := plan_seqZ (h0 := S.h) (e := e) (N0 := S.n) hn hE hD hK D ops [] [] [] S e e' S' (by simp) rfl (by simp [putAll]) (fun k r b hk => by simp at hk) (fun f hf => .inl ⟨(hD0 f hf).1, (hD0 f hf).2.1, (hD0 f hf).2.2, fun k r h' m hk _ => by simp at hk⟩) (fun k r hk => by simp at hk) (fun q q' r r' _ hk => by simp at hk) (fun k r hk => by simp at hk) (Nat.le_refl _) (fun j hj => by simp at hj) List.Pairwise.nil (by simp [gh, hOf]) h
  simp only [List.nil_append, List.length_nil, hOf, Nat.zero_add] at p1 p2 p3 p4 p6 ppw pmk pal pmo pld
  unfold drawn
  dsimp only
  rw [hE, hD, hN]
  simp only [Bool.and_self, cond_true]
  rw [p1]
  dsimp only
  have hrd : rdsOk X n ops (masks ops []) tl e S.h l2 ops 0 = true := by
    apply rdsOk_of
    intro i o ho
    have hi : i < ops.length := (List.getElem?_eq_some_iff.1 ho).1
    have hr : tl[i]? = some (tl[i]'(by omega)) := List.getElem?_eq_getElem _
    rw [Nat.zero_add]
    refine ⟨_, hr, fun hk => ?_⟩
    obtain ⟨l1, l3, ei, q1, q2, q3, q4, q5, q6, q8, q9⟩ := p6 i o _ ho hr hk
    have hlt : ∀ j, inM (masks ops []) i j = true → j < (tl.take i).length := fun j hj => by
      have := inM_lt hE _ _ hj
      simp; omega
    have htl : tl = tl.take i ++ tl.drop i := (List.take_append_drop i tl).symm
    obtain ⟨re, r1, r2⟩ := renv_good (ms := masks ops []) (ops := ops) (acc := tl) (e := e) (es := ei) (n := n) (i := i) hn (ts := looks ops o) (fun t ht => ⟨q5 t ht, by
      rw [htl, lookT_append hlt]; exact q4 t ht⟩)
    refine ⟨re, r1, rdOk_of fun a b hab => ?_⟩
    have hoe : OE re ei o.op := OE_of r2
    have hski : (ops.map (fun o => sk X o.op)).getD i .pure = sk X o.op := by
      rw [List.getD_eq_getElem?_getD, List.getElem?_map, ho]; rfl
    rw [List.nil_append]
    unfold rdOk.rd1
    cases hc : (a.all (fun j => !inM (masks ops []) j i) && l2.all (fun j => !inM (masks ops []) i j || a.contains j)) with
    | false => rfl
    | true =>
      simp only [cond_true]
      simp only [Bool.and_eq_true] at hc
      obtain ⟨c1, c2⟩ := hc
      rcases q9 with ⟨hst, q7⟩ | ⟨D', hzb, hfp, hfi⟩
      case inr =>
        have hsub : ∀ j ∈ a, j ∈ l2 := fun j hj => by rw [hab]; exact List.mem_append_left _ hj
        have hg : ∀ f ∈ D', (∀ j, f.src = some j → inM (masks ops []) i j = true) → (gh (masks ops []) a (inM (masks ops []) i) tl 0 (hOf tl S.h a)).get f.id = some f.x := by
          intro f hf hu
          refine FZ_get (fun j hj => ?_) (fun k r b h1 h2 => (pmk k r b h1 h2).2) pmo ?_ (fun j hj => pld j (hsub j hj)) (fun j k => inM_lt hE j k) (hfi f hf) (fun j hj => ⟨hu j hj, fun ⟨r, h1, h2⟩ => ?_⟩)
          · have h1 := List.all_eq_true.1 c1 j hj
            obtain ⟨r, h2, _⟩ := pld j (hsub j hj)
            have h3 := (List.getElem?_eq_some_iff.1 h2).1
            have h4 := List.all_eq_true.1 hzb j (by simp only [List.mem_range]; omega)
            rw [Bool.or_eq_true] at h4
            rcases h4 with h4 | h4
            · rw [nblt, decide_eq_true_eq] at h4; exact h4
            · rw [h4] at h1; cases h1
          · rw [hab, List.pairwise_append] at ppw; exact ppw.1
          · have h3 := List.all_eq_true.1 c2 j (pal j r h1 h2)
            rw [hu j hj] at h3
            simpa using h3
        rw [readOp_congr hoe, hfp _ hg]
        exact q8
      unfold rdStat at hst
      rw [Bool.and_eq_true] at hst
      obtain ⟨hk2, hk3⟩ := hst
      have hal : a = l1 := by
        have hpre : a ++ b = l1 ++ l3 := by rw [← hab, q1]
        have hin1 : ∀ j ∈ l1, j ∈ a := by
          intro j hj
          have hj2 : j ∈ l2 := by rw [q1]; exact List.mem_append_left _ hj
          have h1 := List.all_eq_true.1 c2 j hj2
          have h2 : inM (masks ops []) i j = true := by
            apply bef_at hk2 (q2 j hj)
            have := (p2 j hj2).2
            cases hq : (ops.map (fun o => sk X o.op)).getD j .pure <;> rw [hq] at this <;> first | rfl | cases this
          rw [h2] at h1
          simpa using h1
        have hin3 : ∀ j ∈ l3, j ∉ a := by
          intro j hj hja
          have hj2 : j ∈ l2 := by rw [q1]; exact List.mem_append_right _ hj
          have h1 := List.all_eq_true.1 c1 j hja
          have hjl : j < ops.length := by
            have := (p2 j hj2).2
            rw [List.getD_eq_getElem?_getD] at this
            by_cases hlt : j < ops.length
            · exact hlt
            · rw [List.getElem?_eq_none (by simpa using hlt)] at this; cases this
          have hl := (p2 j hj2).2
          have h3 := List.all_eq_true.1 hk3 j (by simpa using hjl)
          rw [hl, nble, decide_eq_false (by have := q3 j hj; omega)] at h3
          have : inM (masks ops []) j i = true := by simpa using h3
          rw [this] at h1
          cases h1
        rcases List.append_eq_append_iff.1 hpre with ⟨m, hm1, hm2⟩ | ⟨m, hm1, hm2⟩
        · -- l1 = a ++ m
          cases m with
          | nil => simpa using hm1.symm
          | cons y m =>
            exfalso
            have hy : y ∈ a := hin1 y (by rw [hm1]; simp)
            rw [q1, hm1, List.append_assoc, List.pairwise_append] at ppw
            have := ppw.2.2 y hy y (by simp)
            omega
        · cases m with
          | nil => simpa using hm1
          | cons y m =>
            exfalso
            exact hin3 y (by rw [hm2]; simp) (by rw [hm1]; simp)
      subst hal
      have hh : gh (masks ops []) a (inM (masks ops []) i) tl 0 (hOf tl S.h a) = gh (masks ops []) a (fun _ => true) (tl.take i) 0 (hOf (tl.take i) S.h a) := by
        conv => lhs; rw [htl]
        rw [gh_append (fun q hq => by
          cases hm : inM (masks ops []) i q with
          | false => rfl
          | true => have := hlt q hm; omega)]
        rw [hOf_append (fun j hj => by have := q2 j hj; simp; omega)]
        apply gh_congr
        intro k r b h1 h2
        rw [Nat.zero_add]
        have hki : k < i := by have := (List.getElem?_eq_some_iff.1 h1).1; simp at this; omega
        apply bef_at hk2 hki
        have : (ops.map (fun o => sk X o.op)).getD k .pure = .alloc := by
          have hkr : tl[k]? = some r := by rw [htl, List.getElem?_append_left (List.getElem?_eq_some_iff.1 h1).1]; exact h1
          exact (pmk k r b hkr h2).1
        rw [this]; rfl
      rw [hh, readOp_congr hoe, q7]
      exact q8
  rw [hrd]
  simp only [cond_true]
  rw [p3]
  dsimp only
  rw [nble, decide_eq_true hle]
  simp only [cond_true]
  rw [← p4]
end
end GX
/- GX: reasoning about runs: W_drawnF where the last operations may write to the told blocks. -/


namespace GX
noncomputable section
open Go
def WZ (X : X) (n : Nat) (all : List Oper) (z : Nat) (D : List Fct) (os : List Oper) (i : Nat) (ks : List Kt) (Q : Ex → Env → St → Prop) (l : L) (S : St) : Prop :=
  ∀ e, Ag l e → ∃ f e' S', RunZ X (exec X f) n all z D os i e S e' S' ∧ QK X n ks Q .nor e' S'
section
variable {X : X} {n : Nat} {ks : List Kt} {Q : Ex → Env → St → Prop} {l : L} {S : St} {z : Nat} {D : List Fct} {all os : List Oper} {o : Oper} {i : Nat}
theorem W_drawnZ (z : Nat) (D : List Fct) {id : Nat} {ops : Array Oper} (hD : ∀ f ∈ D, f.src = none ∧ f.id < S.n ∧ S.h.get f.id = some f.x) (hs : seqB X n ops.toList = true) (h : WZ X n ops.toList z D ops.toList 0 ks Q l S) : W X n (.region id ops true) ks Q l S := by
  unfold W
  intro e he
  obtain ⟨f, e1, S1, h1, h2⟩ := h e he
  exact ⟨f + 1, .nor, e1, S1, by show step X (exec X f) n (.region id ops true) e S = _; unfold step; exact drawn_Z hD hs h1, h2⟩
theorem WZ_nil (h : V X n .nor ks Q l S) : WZ X n all z D [] i ks Q l S := by
  unfold V at h
  exact fun e he => ⟨0, e, S, ⟨rfl, rfl⟩, h e he⟩
theorem WZ_pa {d : Nat} (hg : o.guard = none) (hd : o.dst = some d) (hn : Nat.blt d n = true) (hn' : Nat.blt n 1000001 = true) (hsk : isPA (sk X o.op) = true)
    (h : Ev X l S o.op fun v S' => WZ X n all z D os (i + 1) ks Q ((d, v) :: l) S') : WZ X n all z D (o :: os) i ks Q l S := by
  intro e he
  unfold Ev at h
  obtain ⟨f, v, S1, h1, h2, h3⟩ := h e he
  rw [nblt, decide_eq_true_eq] at hn hn'
  obtain ⟨g, e2, S2, h4, h5⟩ := h3 _ (he.put hn' hn)
  have hck := sk_ok h1
  refine ⟨max f g, e2, S2, .inl ⟨wanted_none hg, v, S1, e.put d v, [], oper_le (exec_le (Nat.le_max_left f g)) h1, ?_, h2, fun hc => ?_, fun hc _ => ?_, fun f hf => (by cases hf), by rw [List.append_nil]; exact RunZ_le (exec_le (Nat.le_max_right f g)) h4⟩, h5⟩
  · rw [hd]; unfold setDst; dsimp only; rw [nblt, decide_eq_true hn]; rfl
  · rcases hck with hq | hq
    · rw [hq] at hc; cases hc
    · rw [hq] at hc; rw [hc] at hsk; cases hsk
  · rcases hck with hq | hq
    · rw [hq] at hc; cases hc
    · rw [hq] at hc
      exfalso
      cases hs : sk X o.op <;> rw [hs] at hc hsk <;> first | (cases hc; done) | (cases hsk; done)
/-- an operation that makes a block, which is told -/
theorem WZ_al {d : Nat} (hg : o.guard = none) (hd : o.dst = some d) (hn : Nat.blt d n = true) (hn' : Nat.blt n 1000001 = true) (hcl : ∀ e, Ag l e → cls X e o.op = .alloc)
    (h : Ev X l S o.op fun v S' => ∃ x, S'.h.get S.n = some x ∧ S.n < S'.n ∧ WZ X n all z (D ++ [⟨S.n, x, some i⟩]) os (i + 1) ks Q ((d, v) :: l) S') : WZ X n all z D (o :: os) i ks Q l S := by
  intro e he
  unfold Ev at h
  obtain ⟨f, v, S1, h1, h2, x, hx, hlt, h3⟩ := h e he
  rw [nblt, decide_eq_true_eq] at hn hn'
  obtain ⟨g, e2, S2, h4, h5⟩ := h3 _ (he.put hn' hn)
  have hc0 := hcl e he
  refine ⟨max f g, e2, S2, .inl ⟨wanted_none hg, v, S1, e.put d v, [⟨S.n, x, some i⟩], oper_le (exec_le (Nat.le_max_left f g)) h1, ?_, h2, fun hc => (by rw [hc0] at hc; cases hc), fun hc _ => (by rw [hc0] at hc; cases hc), fun f hf => ?_, RunZ_le (exec_le (Nat.le_max_right f g)) h4⟩, h5⟩
  · rw [hd]; unfold setDst; dsimp only; rw [nblt, decide_eq_true hn]; rfl
  · rw [List.mem_singleton] at hf; subst hf
    exact ⟨rfl, hlt, hx, .inr ⟨hc0, rfl⟩⟩
/-- a read that is ordered with all loud operations -/
theorem WZ_rs {d : Nat} (hg : o.guard = none) (hd : o.dst = some d) (hn : Nat.blt d n = true) (hn' : Nat.blt n 1000001 = true) (hsk : isLC (sk X o.op) = false) (hst : rdStat (masks all []) (all.map (fun o => sk X o.op)) i = true)
    (h : Ev X l S o.op fun v S' => WZ X n all z D os (i + 1) ks Q ((d, v) :: l) S') : WZ X n all z D (o :: os) i ks Q l S := by
  intro e he
  unfold Ev at h
  obtain ⟨f, v, S1, h1, h2, h3⟩ := h e he
  rw [nblt, decide_eq_true_eq] at hn hn'
  obtain ⟨g, e2, S2, h4, h5⟩ := h3 _ (he.put hn' hn)
  have hck := sk_ok h1
  refine ⟨max f g, e2, S2, .inl ⟨wanted_none hg, v, S1, e.put d v, [], oper_le (exec_le (Nat.le_max_left f g)) h1, ?_, h2, fun _ => .inl hst, fun hc _ => ?_, fun f hf => (by cases hf), by rw [List.append_nil]; exact RunZ_le (exec_le (Nat.le_max_right f g)) h4⟩, h5⟩
  · rw [hd]; unfold setDst; dsimp only; rw [nblt, decide_eq_true hn]; rfl
  · rcases hck with hq | hq
    · rw [hq] at hc; cases hc
    · rw [hq, hsk] at hc; cases hc
/-- a read that looks at told blocks alone -/
theorem WZ_rf {d : Nat} {v : AV} (hzb : ZB all z i = true) (hg : o.guard = none) (hd : o.dst = some d) (hn : Nat.blt d n = true) (hn' : Nat.blt n 1000001 = true) (hS : ∀ f ∈ D, S.h.get f.id = some f.x)
    (hfp : ∀ e, Ag l e → cls X e o.op = .read ∧ FPD X D (masks all []) i e o.op v) (hvv : veq v v = true) (h : WZ X n all z D os (i + 1) ks Q ((d, v) :: l) S) : WZ X n all z D (o :: os) i ks Q l S := by
  intro e he
  obtain ⟨hc, hf⟩ := hfp e he
  rw [nblt, decide_eq_true_eq] at hn hn'
  obtain ⟨g, e2, S2, h4, h5⟩ := h _ (he.put hn' hn)
  refine ⟨g, e2, S2, .inl ⟨wanted_none hg, v, S, e.put d v, [], ?_, ?_, by rw [hc]; exact hvv, fun _ => .inr ⟨hzb, hf⟩, fun hl _ => (by rw [hc] at hl; cases hl), fun f hf => (by cases hf), by rw [List.append_nil]; exact h4⟩, h5⟩
  · unfold oper; rw [hc]; dsimp only; rw [hf S.h (fun f h1 _ => hS f h1)]
  · rw [hd]; unfold setDst; dsimp only; rw [nblt, decide_eq_true hn]; rfl
/-- a loud operation, or a call, that leaves the told blocks alone, and may tell more -/
theorem WZ_ld {d : Nat} (hg : o.guard = none) (hd : o.dst = some d) (hn : Nat.blt d n = true) (hn' : Nat.blt n 1000001 = true) (hcl : ∀ e, Ag l e → isLC (cls X e o.op) = true)
    (h : Ev X l S o.op fun v S' => (Nat.blt i z = true → ∀ f ∈ D, S'.h.get f.id = some f.x) ∧ ∃ N : List Fct, (∀ f ∈ N, f.src = some i ∧ f.id < S'.n ∧ S'.h.get f.id = some f.x) ∧ WZ X n all z (D ++ N) os (i + 1) ks Q ((d, v) :: l) S') : WZ X n all z D (o :: os) i ks Q l S := by
  intro e he
  unfold Ev at h
  obtain ⟨f, v, S1, h1, h2, hB, N, hN, h3⟩ := h e he
  rw [nblt, decide_eq_true_eq] at hn hn'
  obtain ⟨g, e2, S2, h4, h5⟩ := h3 _ (he.put hn' hn)
  have hc0 := hcl e he
  refine ⟨max f g, e2, S2, .inl ⟨wanted_none hg, v, S1, e.put d v, N, oper_le (exec_le (Nat.le_max_left f g)) h1, ?_, h2, fun hc => ?_, fun _ hz => hB (by rw [nblt]; exact decide_eq_true hz), fun f hf => ⟨(hN f hf).1, (hN f hf).2.1, (hN f hf).2.2, .inl hc0⟩, RunZ_le (exec_le (Nat.le_max_right f g)) h4⟩, h5⟩
  · rw [hd]; unfold setDst; dsimp only; rw [nblt, decide_eq_true hn]; rfl
  · rw [hc] at hc0; cases hc0
theorem WZ_ld0 (hg : o.guard = none) (hd : o.dst = none) (hcl : ∀ e, Ag l e → isLC (cls X e o.op) = true)
    (h : Ev X l S o.op fun _ S' => (Nat.blt i z = true → ∀ f ∈ D, S'.h.get f.id = some f.x) ∧ ∃ N : List Fct, (∀ f ∈ N, f.src = some i ∧ f.id < S'.n ∧ S'.h.get f.id = some f.x) ∧ WZ X n all z (D ++ N) os (i + 1) ks Q l S') : WZ X n all z D (o :: os) i ks Q l S := by
  intro e he
  unfold Ev at h
  obtain ⟨f, v, S1, h1, h2, hB, N, hN, h3⟩ := h e he
  obtain ⟨g, e2, S2, h4, h5⟩ := h3 _ he
  have hc0 := hcl e he
  refine ⟨max f g, e2, S2, .inl ⟨wanted_none hg, v, S1, e, N, oper_le (exec_le (Nat.le_max_left f g)) h1, ?_, h2, fun hc => ?_, fun _ hz => hB (by rw [nblt]; exact decide_eq_true hz), fun f hf => ⟨(hN f hf).1, (hN f hf).2.1, (hN f hf).2.2, .inl hc0⟩, RunZ_le (exec_le (Nat.le_max_right f g)) h4⟩, h5⟩
  · rw [hd]; rfl
  · rw [hc] at hc0; cases hc0
theorem WZ_guard {j d0 : Nat} {want : Bool} {p : Oper} {c : Bool} {d : Nat} (hg : o.guard = some (j, want)) (hp : all[j]? = some p) (hd0 : p.dst = some d0) (hl : lk l d0 = some (.bool c)) (hd : o.dst = some d) (hn : Nat.blt d n = true) (hn' : Nat.blt n 1000001 = true)
    (h1 : c = want → WZ X n all z D ({ o with guard := none } :: os) i ks Q ((d0, .bool want) :: l) S) (h2 : c = (!want) → WZ X n all z D os (i + 1) ks Q ((d, .tup []) :: (d0, .bool (!want)) :: l) S) : WZ X n all z D (o :: os) i ks Q l S := by
  intro e he
  rw [nblt, decide_eq_true_eq] at hn hn'
  have hat : e.at d0 = .bool c := he d0 _ hl
  have hag : ∀ b, c = b → Ag ((d0, .bool b) :: l) e := by
    intro b hb t v ht
    unfold lk at ht
    rw [nbeq, cond_dec] at ht
    by_cases hh : d0 = t
    · subst hh; rw [if_pos rfl] at ht; cases ht; rw [hat, hb]
    · rw [if_neg hh] at ht; exact he t v ht
  have hw : wanted all e o = (c == want) := by unfold wanted; rw [hg]; dsimp only; rw [hp]; dsimp only; rw [hd0]; dsimp only; rw [hat]
  by_cases hc : c = want
  · obtain ⟨f, e2, S2, h3, h4⟩ := h1 hc e (hag want hc)
    refine ⟨f, e2, S2, ?_, h4⟩
    have hw' : wanted all e o = true := by rw [hw, hc]; cases want <;> rfl
    unfold RunZ at h3 ⊢
    rcases h3 with ⟨_, h3⟩ | ⟨h3, _⟩
    · exact .inl ⟨hw', h3⟩
    · rw [wanted_none rfl] at h3; cases h3
  · have hc' : c = (!want) := by cases c <;> cases want <;> simp_all
    obtain ⟨f, e2, S2, h3, h4⟩ := h2 hc' _ ((hag _ hc').put hn' hn)
    refine ⟨f, e2, S2, ?_, h4⟩
    have hw' : wanted all e o = false := by rw [hw, hc']; cases want <;> rfl
    refine .inr ⟨hw', e.put d (.tup []), ?_, h3⟩
    rw [hd]; unfold setDst; dsimp only; rw [nblt, decide_eq_true hn]; rfl
theorem WZ_guard_dt {j d0 : Nat} {q : Oper} {p : Prop} [Decidable p] {d : Nat} (hg : o.guard = some (j, true)) (hp : all[j]? = some q) (hd0 : q.dst = some d0) (hl : lk l d0 = some (.bool (decide p))) (hd : o.dst = some d) (hn : Nat.blt d n = true) (hn' : Nat.blt n 1000001 = true)
    (h1 : p → WZ X n all z D ({ o with guard := none } :: os) i ks Q ((d0, .bool true) :: l) S) (h2 : ¬ p → WZ X n all z D os (i + 1) ks Q ((d, .tup []) :: (d0, .bool false) :: l) S) : WZ X n all z D (o :: os) i ks Q l S :=
  WZ_guard hg hp hd0 hl hd hn hn' (fun h => h1 (of_decide_eq_true h)) (fun h => h2 (of_decide_eq_false h))
theorem WZ_guard_df {j d0 : Nat} {q : Oper} {p : Prop} [Decidable p] {d : Nat} (hg : o.guard = some (j, false)) (hp : all[j]? = some q) (hd0 : q.dst = some d0) (hl : lk l d0 = some (.bool (decide p))) (hd : o.dst = some d) (hn : Nat.blt d n = true) (hn' : Nat.blt n 1000001 = true)
    (h1 : ¬ p → WZ X n all z D ({ o with guard := none } :: os) i ks Q ((d0, .bool false) :: l) S) (h2 : p → WZ X n all z D os (i + 1) ks Q ((d, .tup []) :: (d0, .bool true) :: l) S) : WZ X n all z D (o :: os) i ks Q l S :=
  WZ_guard hg hp hd0 hl hd hn hn' (fun h => h1 (of_decide_eq_false h)) (fun h => h2 (of_decide_eq_true h))
theorem WZ_guard_t {j d0 : Nat} {want : Bool} {p : Oper} {d : Nat} (hg : o.guard = some (j, want)) (hp : all[j]? = some p) (hd0 : p.dst = some d0) (hl : lk l d0 = some (.bool want)) (hd : o.dst = some d) (hn : Nat.blt d n = true) (hn' : Nat.blt n 1000001 = true)
    (h1 : WZ X n all z D ({ o with guard := none } :: os) i ks Q l S) : WZ X n all z D (o :: os) i ks Q l S := by
  refine WZ_guard hg hp hd0 hl hd hn hn' (fun _ => ?_) (fun h => ?_)
  · intro e he
    exact h1 e (fun t v ht => he t v (by
      unfold lk; rw [nbeq, cond_dec]
      by_cases hh : d0 = t
      · subst hh; rw [hl] at ht; cases ht; rw [if_pos rfl]
      · rw [if_neg hh]; exact ht))
  · cases want <;> cases h
theorem WZ_skip {d : Nat} (hd : o.dst = some d) (hn : Nat.blt d n = true) (hn' : Nat.blt n 1000001 = true) (hw : ∀ e, Ag l e → wanted all e o = false) (h2 : WZ X n all z D os (i + 1) ks Q ((d, .tup []) :: l) S) : WZ X n all z D (o :: os) i ks Q l S := by
  intro e he
  rw [nblt, decide_eq_true_eq] at hn hn'
  obtain ⟨f, e2, S2, h3, h4⟩ := h2 _ (he.put hn' hn)
  refine ⟨f, e2, S2, .inr ⟨hw e he, e.put d (.tup []), ?_, h3⟩, h4⟩
  rw [hd]; unfold setDst; dsimp only; rw [nblt, decide_eq_true hn]; rfl
theorem WZ_guard_f {j d0 : Nat} {want c : Bool} {p : Oper} {d : Nat} (hg : o.guard = some (j, want)) (hp : all[j]? = some p) (hd0 : p.dst = some d0) (hl : lk l d0 = some (.bool c)) (hc : (c == want) = false) (hd : o.dst = some d) (hn : Nat.blt d n = true) (hn' : Nat.blt n 1000001 = true)
    (h2 : WZ X n all z D os (i + 1) ks Q ((d, .tup []) :: l) S) : WZ X n all z D (o :: os) i ks Q l S :=
  WZ_skip hd hn hn' (fun e he => by unfold wanted; rw [hg]; dsimp only; rw [hp]; dsimp only; rw [hd0]; dsimp only; rw [he d0 _ hl]; exact hc) h2
theorem WZ_guard_x {j d0 : Nat} {want : Bool} {p : Oper} {d : Nat} (hg : o.guard = some (j, want)) (hp : all[j]? = some p) (hd0 : p.dst = some d0) (hl : lk l d0 = some (.tup [])) (hd : o.dst = some d) (hn : Nat.blt d n = true) (hn' : Nat.blt n 1000001 = true)
    (h2 : WZ X n all z D os (i + 1) ks Q ((d, .tup []) :: l) S) : WZ X n all z D (o :: os) i ks Q l S :=
  WZ_skip hd hn hn' (fun e he => by unfold wanted; rw [hg]; dsimp only; rw [hp]; dsimp only; rw [hd0]; dsimp only; rw [he d0 _ hl]) h2
end
end
end GX
/- carafebook.Book.Keep of a list whose capacity is known. (NODRAWN) -/



namespace Go.Proofs.YthhbnnnokmefoaaDoor
open GX
set_option maxHeartbeats 16000000
set_option maxRecDepth 100000
/-- a book that has one list more than before, perhaps without the first ones -/
structure Kp (S T : St) (p : Nat) (vl vw : AV) (i : It) (is : List It) : Prop where
  ex : ∃ vl' vw' h' w k, Bk T p vl' vw' h' ((is ++ [{ i with w := w }]).drop k) ∧ k ≤ is.length ∧ (∀ c, blkOf vl' = some c → S.n ≤ c) ∧ (∀ c, blkOf vw' = some c → S.n ≤ c) ∧ (∀ c, blkOf w = some c → S.n ≤ c)
  le : S.n ≤ T.n
  n : T.n ≤ S.n + 10
  same : ∀ c, c < S.n → c ≠ p → blkOf vl ≠ some c → blkOf vw ≠ some c → T.h.get c = S.h.get c
theorem Bk.drop1 {T U : St} {p : Nat} {vl vw vl' vw' : AV} {h h' : Int} {is : List It} (b : Bk T p vl vw h is) (hUok : Sok U) (hat : U.h.get p = some (.cells 50 [vl', vw', .int .i64 h', .bool false] false)) (hlo : OwA U vl' 22 1 ((is.map It.v).drop 1) (is.length - 1)) (hwo : OwA U vw' 22 1 ((is.map It.w).drop 1) (is.length - 1)) (hl : blkOf vl' = blkOf vl) (hw : blkOf vw' = blkOf vw) (hf : ∀ c, c ≠ p → U.h.get c = T.h.get c) : Bk U p vl' vw' h' (is.drop 1) := by
  have hm : ∀ i ∈ is.drop 1, i ∈ is := fun i hi => List.mem_of_mem_drop hi
  refine ⟨hUok, hat, by rw [List.map_drop, List.length_drop]; exact hlo, by rw [List.map_drop, List.length_drop]; exact hwo, fun i hi => (b.it i (hm i hi)).keep (fun c hc => hf c (b.ip i (hm i hi) c (.inl hc)).1) (fun c hc => hf c (b.ip i (hm i hi) c (.inr hc)).1), by rw [hl]; exact b.lp, by rw [hw]; exact b.wp, by rw [hl, hw]; exact b.lw, fun i hi => by rw [hl, hw]; exact b.ip i (hm i hi), fun j k x y c hj hk hne hx => ?_, by rw [List.length_drop]; have := b.few; omega⟩
  rw [List.getElem?_drop] at hj hk
  exact b.dis _ _ x y c hj hk (by omega) hx
theorem ItOK.one {T : St} {i : It} (h : ItOK T i) : AV.one i.v = true := by
  rcases h.cap with ⟨b, o, h⟩ | ⟨h, _⟩ <;> rw [h] <;> rfl
theorem Bk.held {T U : St} {p : Nat} {vl vw : AV} {h h' : Int} {is : List It} (b : Bk T p vl vw h is) (hn : U.n = T.n) (hq : U.h.get p = some (.cells 50 [vl, vw, .int .i64 h', .bool false] false)) (hf : ∀ c, c ≠ p → U.h.get c = T.h.get c) : Bk U p vl vw h' is :=
  ⟨sok_upd b.ok (b.ok _ _ b.at_) hn hq hf, hq, b.lo.keep (fun c hc => hf c (fun e => b.lp (by rw [hc, e]))), b.wo.keep (fun c hc => hf c (fun e => b.wp (by rw [hc, e]))),
    fun i hi => (b.it i hi).keep (fun c hc => hf c (b.ip i hi c (.inl hc)).1) (fun c hc => hf c (b.ip i hi c (.inr hc)).1), b.lp, b.wp, b.lw, b.ip, b.dis, b.few⟩
theorem owa_cells1 {S : St} {v : AV} {el sz : Nat} {cs : List AV} {m : Nat} (h : OwA S v el sz cs m) : v.cells = [v] ∧ [v].all AV.one = true := by
  rcases h with ⟨h1, _⟩ | ⟨b, pre, h1, _⟩ <;> subst h1 <;> exact ⟨rfl, rfl⟩
theorem afill_one {v : AV} (h : AV.one v = true) : afill (fun i => some (i * 1, 1)) (rep [.nils] 1) [(0, v)] = some [v] := by
  cases v <;> first | rfl | cases h
theorem keep_runs {S : St} {p : Nat} {vl vw : AV} {h : Int} {is : List It} {i : It} (b : Bk S p vl vw h is) (hi : ItOK S { i with w := i.v }) (hb : ∀ c, blkOf i.v = some c → c ≠ p ∧ blkOf vl ≠ some c ∧ blkOf vw ≠ some c ∧ ∀ j ∈ is, blkOf j.v ≠ some c) (hlen : is.length ≤ 900) (hn : S.n ≤ 900000000) :
    Runs X2 24 [.ptr p 0, i.v] S fun _ T => Kp S T p vl vw i is := by
  have hird : Cs S i.v i.cs := hi.rd
  have hpn := b.ok _ _ b.at_
  have hsm := hi.small
  dsimp only at hsm
  refine Runs_fn (m := 112) (by kernel_rfl) Tryd.func24 rfl (by kernel_rfl) (by kernel_rfl) ?_
  repeat (
    first
      | refine W_seq ?_
      | refine W_region ?_
      | refine WO_dst rfl rfl (by kernel_rfl) (by kernel_rfl) ?_
      | refine Ev_load rfl rfl rfl b.at_ rfl b.l.self ?_
      | refine Ev_move rfl ?_
      | refine Ev_nilCheck rfl ?_
      | refine Ev_fieldAddr rfl rfl rfl rfl rfl rfl ?_)
  refine Ev_buildSlice rfl rfl rfl rfl rfl (afill_one hi.one) b.ok (by omega) ?_
  intro S1 n1 ok1 q1 f1
  have hlo1 : OwA S1 vl 22 1 (is.map It.v) is.length := b.lo.keep (fun c hc => f1 c (b.l.lt b.ok hc))
  have hone : [i.v].all AV.one = true := by simp [hi.one]
  have hnew1 : Rd S1 (.slice S.n 0 1 (.ex 1)) 1 [i.v] 1 := Rd_lit q1 rfl rfl
  repeat (
    refine WO_dst rfl rfl (by kernel_rfl) (by kernel_rfl) ?_)
  refine Ev_append_a rfl rfl rfl rfl rfl rfl rfl rfl rfl rfl hlo1 (by decide) hnew1 hone ok1 (by omega) (by dsimp only; omega) (by omega) ?_
  intro vl2 S2 n2 ok2 lo2 f2 hb2
  have hat2 : S2.h.get p = some (.cells 50 [vl, vw, .int .i64 h, .bool false] false) := by rw [f2 p b.lp (by omega), f1 p hpn]; exact b.at_
  repeat (
    first
      | refine WO_dst rfl rfl (by kernel_rfl) (by kernel_rfl) ?_
      | refine WO_no rfl rfl ?_
      | refine Ev_nilCheck rfl ?_
      | refine Ev_fieldAddr rfl rfl rfl rfl rfl rfl ?_)
  refine Ev_store rfl rfl rfl (by rw [(owa_cells1 lo2).1]; rfl) (by rw [(owa_cells1 lo2).1]; exact (owa_cells1 lo2).2) hat2 (by rw [(owa_cells1 lo2).1]; show 0 + 1 ≤ 4; omega) (by omega) ?_
  intro S3 n3 q3 f3
  have ok3 : Sok S3 := sok_upd ok2 (by omega) n3 q3 f3
  have e3 : lput [vl, vw, .int .i64 h, .bool false] 0 vl2.cells = [vl2, vw, .int .i64 h, .bool false] := by rw [(owa_cells1 lo2).1]; rfl
  have hat3 : S3.h.get p = some (.cells 50 [vl2, vw, .int .i64 h, .bool false] false) := q3.trans (congrArg (fun z => some (AB.cells 50 z false)) e3)
  have fr3 : ∀ c, c < S.n → c ≠ p → blkOf vl ≠ some c → S3.h.get c = S.h.get c := fun c h1 h2 h3 => by rw [f3 c h2, f2 c h3 (by omega), f1 c h1]
  have wo3 : OwA S3 vw 22 1 (is.map It.w) is.length := b.wo.keep (fun c hc => fr3 c (b.w.lt b.ok hc) (fun e => b.wp (by rw [hc, e])) (fun e => b.lw c e hc))
  have ird3 : Cs S3 i.v i.cs := hird.keep (fun c hc => fr3 c (hird.lt b.ok hc) (hb c hc).1 (hb c hc).2.1)
  have lo3 : OwA S3 vl2 22 1 (is.map It.v ++ [i.v]) (is.length + 1) := lo2.keep (fun c hc => f3 c (fun e => by rw [hb2] at hc; cases hc; omega))
  have hD : ∀ f ∈ [(⟨p, .cells 50 [vl2, vw, .int .i64 h, .bool false] false, none⟩ : Fct)], S3.h.get f.id = some f.x := by
    intro f hf; rw [List.mem_singleton] at hf; subst hf; exact hat3
  repeat (
    first
      | refine W_seq ?_
      | refine WO_nil ?_
      | refine V_seq ?_)
  refine W_drawnZ 11 [⟨p, .cells 50 [vl2, vw, .int .i64 h, .bool false] false, none⟩] ?_ (by kernel_rfl) ?_
  · intro f hf; rw [List.mem_singleton] at hf; subst hf; exact ⟨rfl, by dsimp only; omega, hat3⟩
  repeat (
    first
      | refine WZ_pa rfl rfl (by kernel_rfl) (by kernel_rfl) rfl ?_
      | refine Ev_move rfl ?_
      | refine Ev_nilCheck rfl ?_
      | refine Ev_fieldAddr rfl rfl rfl rfl rfl rfl ?_)
  refine WZ_rf (by kernel_rfl) rfl rfl (by kernel_rfl) (by kernel_rfl) hD (FPD_load rfl rfl rfl (pt_of hat3) rfl (fun b hb => by cases hb; exact ⟨_, List.mem_cons_self .., rfl, hat3, fun j hj => by cases hj⟩)) wo3.rd.self ?_
  repeat (
    first
      | refine WZ_pa rfl rfl (by kernel_rfl) (by kernel_rfl) rfl ?_
      | refine Ev_move rfl ?_)
  refine WZ_ld rfl rfl (by kernel_rfl) (by kernel_rfl) (fun _ _ => rfl) ?_
  refine Ev_append (cs := []) (m := 0) rfl rfl rfl rfl rfl rfl rfl rfl rfl rfl (.inl ⟨rfl, rfl, rfl⟩) ird3 (cellsC_one _) ok3 (by omega) (by dsimp only; omega) (by omega) ?_
  intro w4 S4 le4 n4 ok4 ow4 f4 b4
  have hat4 : S4.h.get p = some (.cells 50 [vl2, vw, .int .i64 h, .bool false] false) := by rw [f4 p (by simp [blkOf]) (by omega)]; exact hat3
  have hD4 : ∀ f ∈ [(⟨p, .cells 50 [vl2, vw, .int .i64 h, .bool false] false, none⟩ : Fct)], S4.h.get f.id = some f.x := by
    intro f hf; rw [List.mem_singleton] at hf; subst hf; exact hat4
  have hone4 : AV.one w4 = true := by rcases ow4 with ⟨e, _⟩ | ⟨_, e, _⟩ <;> rw [e] <;> rfl
  have hb4 : ∀ c, blkOf w4 = some c → S3.n ≤ c := fun c hc => (b4 c hc).resolve_left (by simp [blkOf])
  refine ⟨fun _ => hD4, [], by simp, ?_⟩
  refine WZ_pa rfl rfl (by kernel_rfl) (by kernel_rfl) rfl ?_
  refine Ev_buildSlice rfl rfl rfl rfl rfl (afill_one hone4) ok4 (by omega) ?_
  intro S5 n5 ok5 q5 f5
  have wo5 : OwA S5 vw 22 1 (is.map It.w) is.length := wo3.keep (fun c hc => by rw [f5 c (by have := wo3.lt ok3 hc; omega), f4 c (by simp [blkOf]) (wo3.lt ok3 hc)])
  have hone5 : [w4].all AV.one = true := by simp [hone4]
  have hnew5 : Rd S5 (.slice S4.n 0 1 (.ex 1)) 1 [w4] 1 := Rd_lit q5 rfl rfl
  refine WZ_ld rfl rfl (by kernel_rfl) (by kernel_rfl) (fun _ _ => rfl) ?_
  refine Ev_append_a rfl rfl rfl rfl rfl rfl rfl rfl rfl rfl wo5 (by decide) hnew5 hone5 ok5 (by omega) (by dsimp only; omega) (by omega) ?_
  intro vw2 S6 n6 ok6 wo6 f6 hb6
  have hat5 : S5.h.get p = some (.cells 50 [vl2, vw, .int .i64 h, .bool false] false) := by rw [f5 p (by omega)]; exact hat4
  have hat6 : S6.h.get p = some (.cells 50 [vl2, vw, .int .i64 h, .bool false] false) := by rw [f6 p b.wp (by omega)]; exact hat5
  refine ⟨fun _ => fun f hf => (by rw [List.append_nil, List.mem_singleton] at hf; subst hf; exact hat6), [], by simp, ?_⟩
  repeat (
    first
      | refine WZ_pa rfl rfl (by kernel_rfl) (by kernel_rfl) rfl ?_
      | refine Ev_nilCheck rfl ?_
      | refine Ev_fieldAddr rfl rfl rfl rfl rfl rfl ?_)
  refine WZ_ld0 rfl rfl (fun _ _ => rfl) ?_
  refine Ev_store rfl rfl rfl (by rw [(owa_cells1 wo6).1]; rfl) (by rw [(owa_cells1 wo6).1]; exact (owa_cells1 wo6).2) hat6 (by rw [(owa_cells1 wo6).1]; show 1 + 1 ≤ 4; omega) (by omega) ?_
  intro S7 n7 q7 f7
  refine ⟨fun h => absurd h (by decide), [], by simp, ?_⟩
  have ok7 : Sok S7 := sok_upd ok6 (by omega) n7 q7 f7
  have e7 : lput [vl2, vw, .int .i64 h, .bool false] 1 vw2.cells = [vl2, vw2, .int .i64 h, .bool false] := by rw [(owa_cells1 wo6).1]; rfl
  have hat7 : S7.h.get p = some (.cells 50 [vl2, vw2, .int .i64 h, .bool false] false) := q7.trans (congrArg (fun z => some (AB.cells 50 z false)) e7)
  have fr7 : ∀ c, c < S.n → c ≠ p → blkOf vl ≠ some c → blkOf vw ≠ some c → S7.h.get c = S.h.get c := fun c h1 h2 h3 h4 => by rw [f7 c h2, f6 c h4 (by omega), f5 c (by omega), f4 c (by simp [blkOf]) (by omega), fr3 c h1 h2 h3]
  have b7 : Bk S7 p vl2 vw2 h (is ++ [{ i with w := w4 }]) := by
    have hlt4 : ∀ c, blkOf w4 = some c → c < S4.n := fun c hc => ow4.rd.lt ok4 hc
    have hivlt : ∀ c, blkOf i.v = some c → c < S.n := fun c hc => hird.lt b.ok hc
    refine ⟨ok7, hat7, ?_, ?_, ?_, ?_, ?_, ?_, ?_, ?_, by simp; omega⟩
    · rw [List.map_append, List.length_append]
      exact lo3.keep (fun c hc => by rw [hb2] at hc; cases hc; rw [f7 _ (by omega), f6 _ (fun e => by have := b.w.lt b.ok e; omega) (by omega), f5 _ (by omega), f4 _ (by simp [blkOf]) (by omega)])
    · rw [List.map_append, List.length_append]
      exact wo6.keep (fun c hc => by rw [hb6] at hc; cases hc; rw [f7 _ (by omega)])
    · intro j hj
      rw [List.mem_append] at hj
      rcases hj with hj | hj
      · exact (b.it j hj).keep (fun c hc => fr7 c ((b.it j hj).rd.lt b.ok hc) (b.ip j hj c (.inl hc)).1 (b.ip j hj c (.inl hc)).2.1 (b.ip j hj c (.inl hc)).2.2) (fun c hc => fr7 c ((b.it j hj).wr.lt b.ok hc) (b.ip j hj c (.inr hc)).1 (b.ip j hj c (.inr hc)).2.1 (b.ip j hj c (.inr hc)).2.2)
      · rw [List.mem_singleton] at hj; subst hj
        have h7 := hi.keep (U := S7) (fun c hc => fr7 c (hivlt c hc) (hb c hc).1 (hb c hc).2.1 (hb c hc).2.2.1) (fun c hc => fr7 c (hivlt c hc) (hb c hc).1 (hb c hc).2.1 (hb c hc).2.2.1)
        refine ⟨h7.kind, h7.lim, ?_, h7.small⟩
        have hw4 : Cs S4 w4 i.cs := by have := ow4.rd; rw [List.nil_append, Nat.zero_add] at this; exact this
        exact hw4.keep (fun c hc => by have := hlt4 c hc; have := hb4 c hc; rw [f7 c (by omega), f6 c (fun e => by have := b.w.lt b.ok e; omega) (by omega), f5 c (by omega)])
    · rw [hb2]; intro e; cases e; omega
    · rw [hb6]; intro e; cases e; omega
    · intro c hc; rw [hb2] at hc; have hc2 := Option.some.inj hc; rw [hb6]; intro e; have e2 := Option.some.inj e; omega
    · intro j hj c hc
      rw [hb2, hb6]
      rw [List.mem_append] at hj
      rcases hj with hj | hj
      · have hlt : c < S.n := by
          rcases hc with hc | hc
          · exact (b.it j hj).rd.lt b.ok hc
          · exact (b.it j hj).wr.lt b.ok hc
        exact ⟨(b.ip j hj c hc).1, fun e => by cases e; omega, fun e => by cases e; omega⟩
      · rw [List.mem_singleton] at hj; subst hj
        rcases hc with hc | hc
        · have := hivlt c hc
          exact ⟨(hb c hc).1, fun e => by cases e; omega, fun e => by cases e; omega⟩
        · have := hlt4 c hc; have := hb4 c hc
          exact ⟨by omega, fun e => by cases e; omega, fun e => by cases e; omega⟩
    · intro j k x y c hj hk hne hx hy
      have key : ∀ (q : Nat) (z : It), (is ++ [{ i with w := w4 }])[q]? = some z → (is[q]? = some z ∧ q < is.length) ∨ (q = is.length ∧ z.v = i.v) := by
        intro q z hq
        by_cases hlt : q < is.length
        · rw [List.getElem?_append_left hlt] at hq; exact .inl ⟨hq, hlt⟩
        · have h2 := (List.getElem?_eq_some_iff.1 hq).1
          simp at h2
          have : q = is.length := by omega
          subst this
          simp at hq
          exact .inr ⟨rfl, by rw [← hq]⟩
      rcases key j x hj with ⟨h1, h2⟩ | ⟨h1, h2⟩ <;> rcases key k y hk with ⟨h3, h4⟩ | ⟨h3, h4⟩
      · exact b.dis j k x y c h1 h3 hne hx hy
      · rw [h4] at hy; exact (hb c hy).2.2.2 x (List.mem_of_getElem? h1) hx
      · rw [h2] at hx; exact (hb c hx).2.2.2 y (List.mem_of_getElem? h3) hy
      · omega
  have hi7 : ItOK S7 { i with w := w4 } := b7.it _ (by simp)
  repeat (
    first
      | refine WZ_nil ?_
      | refine W_seq ?_
      | refine V_seq ?_
      | refine W_region ?_
      | refine WO_dst rfl rfl (by kernel_rfl) (by kernel_rfl) ?_
      | refine Ev_load rfl rfl rfl b7.at_ rfl (veq_int _ _) ?_
      | refine Ev_cap_it (i := { i with w := w4 }) rfl rfl rfl rfl rfl hi7 ?_
      | refine Ev_move rfl ?_
      | refine Ev_nilCheck rfl ?_
      | refine Ev_fieldAddr rfl rfl rfl rfl rfl rfl ?_)
  refine Ev_addw rfl rfl ?_
  refine WO_dst rfl rfl (by kernel_rfl) (by kernel_rfl) ?_
  refine Ev_addw rfl rfl ?_
  repeat (
    first
      | refine WO_dst rfl rfl (by kernel_rfl) (by kernel_rfl) ?_
      | refine WO_no rfl rfl ?_
      | refine Ev_nilCheck rfl ?_
      | refine Ev_fieldAddr rfl rfl rfl rfl rfl rfl ?_)
  refine Ev_store rfl rfl rfl rfl rfl b7.at_ (by simp [AV.cells]) (by omega) ?_
  intro S8 n8 q8 f8
  have b8 := b7.held n8 q8 f8
  repeat (
    first
      | refine WO_nil ?_
      | refine V_seq ?_
      | refine W_block ?_)
  refine W_inv (fun _ : AV × AV × Int × List It => [(0, .ptr p 0), (1, i.v)]) (fun a T => Bk T p a.1 a.2.1 a.2.2.1 a.2.2.2 ∧ T.n = S8.n ∧ (∀ c, c ≠ p → T.h.get c = S8.h.get c) ∧ (∃ k, a.2.2.2 = (is ++ [{ i with w := w4 }]).drop k ∧ k ≤ is.length) ∧ blkOf a.1 = some S1.n ∧ blkOf a.2.1 = some S5.n) (fun a => a.2.2.2.length) ?_ (vl2, vw2, _, is ++ [{ i with w := w4 }]) ⟨b8, rfl, fun _ _ => rfl, ⟨0, rfl, Nat.zero_le _⟩, hb2, hb6⟩ ⟨rfl, rfl, trivial⟩
  rintro ⟨ul, uw, uh, us⟩ T ⟨hb', hTn, hTf, ⟨k, hk, hkl⟩, hbl, hbw⟩ back
  dsimp only at hb' hk hbl hbw back
  have hend : Kp S T p vl vw i is := by
    refine ⟨⟨ul, uw, uh, w4, k, by rw [← hk]; exact hb', hkl, fun c hc => by rw [hbl] at hc; cases hc; omega, fun c hc => by rw [hbw] at hc; cases hc; omega, fun c hc => by have := hb4 c hc; omega⟩, by omega, by omega, fun c h1 h2 h3 h4 => by rw [hTf c h2, f8 c h2, fr7 c h1 h2 h3 h4]⟩
  have hpn' := hb'.ok _ _ hb'.at_
  have hfew := hb'.few
  repeat' (
    first
      | refine W_seq ?_
      | refine WO_nil ?_
      | refine V_seq ?_
      | refine W_region ?_
      | refine W_skip ?_
      | refine W_block ?_
      | refine W_exit ?_
      | refine V_block_x rfl ?_
      | refine V_seq_x ?_
      | refine V_loop_x ?_
      | refine W_cond_t rfl ?_
      | refine W_cond_f rfl ?_
      | refine WO_dst rfl rfl (by kernel_rfl) (by kernel_rfl) ?_
      | refine WO_guard_t rfl rfl rfl rfl rfl (by kernel_rfl) (by kernel_rfl) ?_
      | refine WO_guard_f rfl rfl rfl rfl rfl rfl (by kernel_rfl) (by kernel_rfl) ?_
      | refine WO_guard_x rfl rfl rfl rfl rfl (by kernel_rfl) (by kernel_rfl) ?_
      | refine Ev_load rfl rfl rfl hb'.at_ rfl hb'.l.self ?_
      | refine Ev_load rfl rfl rfl hb'.at_ rfl (veq_int _ _) ?_
      | refine Ev_len rfl rfl rfl rfl rfl hb'.l.len ?_
      | refine Ev_move rfl ?_
      | refine Ev_pick_t rfl rfl rfl ?_
      | refine Ev_pick_f rfl rfl rfl ?_
      | refine Ev_gtrN rfl rfl ?_
      | refine Ev_gtr rfl rfl ?_
      | refine Ev_nilCheck rfl ?_
      | refine Ev_fieldAddr rfl rfl rfl rfl rfl rfl ?_
      | (refine WO_guard_dt rfl rfl rfl rfl rfl (by kernel_rfl) (by kernel_rfl) (fun hg => ?_) (fun hg => ?_) <;> (try dsimp only at hg) <;> try (exfalso; first | omega | exact hg rfl))
      | (refine WO_guard_df rfl rfl rfl rfl rfl (by kernel_rfl) (by kernel_rfl) (fun hg => ?_) (fun hg => ?_) <;> (try dsimp only at hg) <;> try (exfalso; first | omega | exact hg rfl))
      | (refine W_cond rfl (fun hc => ?_) (fun hc => ?_) <;> (try dsimp only at hc) <;> try (exfalso; first | omega | exact hc rfl)))
  · refine V_done rfl rfl ?_
    exact hend
  · have h1l : 1 < us.length := by assumption
    have hit0 := hb'.it _ (List.getElem_mem (show 0 < us.length by omega))
    have hs0 := hit0.small
    refine W_drawn (by kernel_rfl) ?_
    repeat' (
      first
        | refine WO_dst rfl rfl (by kernel_rfl) (by kernel_rfl) ?_
        | refine WO_guard_t rfl rfl rfl rfl rfl (by kernel_rfl) (by kernel_rfl) ?_
        | refine Ev_load rfl rfl rfl hb'.at_ rfl hb'.l.self ?_
        | refine Ev_load rfl rfl rfl hb'.at_ rfl (show veq (.bool false) (.bool false) = true from rfl) ?_
        | refine Ev_move rfl ?_
        | refine Ev_nilCheck rfl ?_
        | refine Ev_fieldAddr rfl rfl rfl rfl rfl rfl ?_)
    refine Ev_indexAddr_rd (i := 0) rfl rfl rfl rfl rfl hb'.l (by omega) ?_
    intro q hq
    repeat (
      first
        | refine WO_dst rfl rfl (by kernel_rfl) (by kernel_rfl) ?_
        | refine WO_guard_t rfl rfl rfl rfl rfl (by kernel_rfl) (by kernel_rfl) ?_)
    refine Ev_load_pt rfl rfl rfl hq (map_get (show 0 < us.length by omega)) hit0.rd.self ?_
    repeat (
      first
        | refine WO_dst rfl rfl (by kernel_rfl) (by kernel_rfl) ?_
        | refine WO_guard_t rfl rfl rfl rfl rfl (by kernel_rfl) (by kernel_rfl) ?_
        | refine Ev_load rfl rfl rfl hb'.at_ rfl hb'.w.self ?_
        | refine Ev_move rfl ?_
        | refine Ev_nilCheck rfl ?_
        | refine Ev_fieldAddr rfl rfl rfl rfl rfl rfl ?_)
    refine Ev_indexAddr_rd (i := 0) rfl rfl rfl rfl rfl hb'.w (by omega) ?_
    intro q2 hq2
    repeat (
      first
        | refine WO_dst rfl rfl (by kernel_rfl) (by kernel_rfl) ?_
        | refine WO_guard_t rfl rfl rfl rfl rfl (by kernel_rfl) (by kernel_rfl) ?_)
    refine Ev_load_pt rfl rfl rfl hq2 (map_get (show 0 < us.length by omega)) hit0.wr.self ?_
    repeat (
      first
        | refine WO_dst rfl rfl (by kernel_rfl) (by kernel_rfl) ?_
        | refine WO_guard_t rfl rfl rfl rfl rfl (by kernel_rfl) (by kernel_rfl) ?_)
    refine Ev_call rfl rfl ((csame_runs2 hit0.rd hit0.wr ⟨by omega, by omega⟩).mono ?_)
    rintro _ T2 - ⟨rfl, hT2⟩
    rw [hT2, decide_eq_true rfl]
    repeat' (
      first
        | refine WO_dst rfl rfl (by kernel_rfl) (by kernel_rfl) ?_
        | refine WO_no rfl rfl ?_
        | refine WO_guard_t rfl rfl rfl rfl rfl (by kernel_rfl) (by kernel_rfl) ?_
        | refine Ev_pick_f rfl rfl rfl ?_
        | refine Ev_notb rfl ?_
        | refine Ev_nilCheck rfl ?_
        | refine Ev_fieldAddr rfl rfl rfl rfl rfl rfl ?_)
    refine Ev_store rfl rfl rfl rfl rfl hb'.at_ (by simp [AV.cells]) (by omega) ?_
    intro U1 un1 uq1 uf1
    have c1 := hb'.held (h' := uh) un1 uq1 uf1
    repeat (
      first
        | refine W_seq ?_
        | refine WO_nil ?_
        | refine V_seq ?_)
    refine W_drawn (by kernel_rfl) ?_
    repeat (
      first
        | refine WO_dst rfl rfl (by kernel_rfl) (by kernel_rfl) ?_
        | refine Ev_load rfl rfl rfl c1.at_ rfl c1.l.self ?_
        | refine Ev_load rfl rfl rfl c1.at_ rfl (veq_int _ _) ?_
        | refine Ev_move rfl ?_
        | refine Ev_nilCheck rfl ?_
        | refine Ev_fieldAddr rfl rfl rfl rfl rfl rfl ?_)
    refine Ev_indexAddr_rd (i := 0) rfl rfl rfl rfl rfl c1.l (by omega) ?_
    intro q3 hq3
    repeat (
      refine WO_dst rfl rfl (by kernel_rfl) (by kernel_rfl) ?_)
    refine Ev_load_pt rfl rfl rfl hq3 (map_get (show 0 < us.length by omega)) hit0.rd.self ?_
    repeat (
      first
        | refine WO_dst rfl rfl (by kernel_rfl) (by kernel_rfl) ?_
        | refine Ev_cap_it (i := us[0]) rfl rfl rfl rfl rfl hit0 ?_)
    refine Ev_subw rfl rfl ?_
    refine WO_dst rfl rfl (by kernel_rfl) (by kernel_rfl) ?_
    refine Ev_subw rfl rfl ?_
    repeat (
      first
        | refine WO_dst rfl rfl (by kernel_rfl) (by kernel_rfl) ?_
        | refine WO_no rfl rfl ?_
        | refine Ev_nilCheck rfl ?_
        | refine Ev_fieldAddr rfl rfl rfl rfl rfl rfl ?_)
    refine Ev_store rfl rfl rfl rfl rfl c1.at_ (by simp [AV.cells]) (by omega) ?_
    intro U2 un2 uq2 uf2
    obtain ⟨h2, c2⟩ : ∃ h2, Bk U2 p ul uw h2 us := ⟨_, c1.held un2 uq2 uf2⟩
    repeat (
      first
        | refine W_seq ?_
        | refine WO_nil ?_
        | refine V_seq ?_
        | refine W_region ?_
        | refine WO_dst rfl rfl (by kernel_rfl) (by kernel_rfl) ?_
        | refine Ev_load rfl rfl rfl c2.at_ rfl c2.l.self ?_
        | refine Ev_move rfl ?_
        | refine Ev_nilCheck rfl ?_
        | refine Ev_fieldAddr rfl rfl rfl rfl rfl rfl ?_)
    refine Ev_slice_a (lo := 1) rfl rfl rfl rfl rfl c2.lo h1l ?_
    intro xl hxl hxlb
    repeat (
      first
        | refine WO_dst rfl rfl (by kernel_rfl) (by kernel_rfl) ?_
        | refine WO_no rfl rfl ?_
        | refine Ev_nilCheck rfl ?_
        | refine Ev_fieldAddr rfl rfl rfl rfl rfl rfl ?_)
    refine Ev_store rfl rfl rfl (by rw [(owa_cells1 hxl).1]; rfl) (by rw [(owa_cells1 hxl).1]; exact (owa_cells1 hxl).2) c2.at_ (by rw [(owa_cells1 hxl).1]; show 0 + 1 ≤ 4; omega) (by omega) ?_
    intro U3 un3 uq3 uf3
    have at3 : U3.h.get p = some (.cells 50 [xl, uw, .int .i64 h2, .bool false] false) := uq3.trans (congrArg (fun z => some (AB.cells 50 z false)) (by rw [(owa_cells1 hxl).1]; rfl))
    have wo3' : OwA U3 uw 22 1 (us.map It.w) us.length := c2.wo.keep (fun c hc => uf3 c (fun e => c2.wp (by rw [hc, e])))
    repeat (
      first
        | refine WO_nil ?_
        | refine V_seq ?_
        | refine W_region ?_
        | refine WO_dst rfl rfl (by kernel_rfl) (by kernel_rfl) ?_
        | refine Ev_load rfl rfl rfl at3 rfl wo3'.rd.self ?_
        | refine Ev_move rfl ?_
        | refine Ev_nilCheck rfl ?_
        | refine Ev_fieldAddr rfl rfl rfl rfl rfl rfl ?_)
    refine Ev_slice_a (lo := 1) rfl rfl rfl rfl rfl wo3' h1l ?_
    intro xw hxw hxwb
    repeat (
      first
        | refine WO_dst rfl rfl (by kernel_rfl) (by kernel_rfl) ?_
        | refine WO_no rfl rfl ?_
        | refine Ev_nilCheck rfl ?_
        | refine Ev_fieldAddr rfl rfl rfl rfl rfl rfl ?_)
    refine Ev_store rfl rfl rfl (by rw [(owa_cells1 hxw).1]; rfl) (by rw [(owa_cells1 hxw).1]; exact (owa_cells1 hxw).2) at3 (by rw [(owa_cells1 hxw).1]; show 1 + 1 ≤ 4; omega) (by omega) ?_
    intro U4 un4 uq4 uf4
    have at4 : U4.h.get p = some (.cells 50 [xl, xw, .int .i64 h2, .bool false] false) := uq4.trans (congrArg (fun z => some (AB.cells 50 z false)) (by rw [(owa_cells1 hxw).1]; rfl))
    have f24 : ∀ c, c ≠ p → U4.h.get c = U2.h.get c := fun c hc => by rw [uf4 c hc, uf3 c hc]
    have ok4' : Sok U4 := sok_upd (sok_upd c2.ok (by omega) un3 at3 uf3) (by omega) un4 at4 uf4
    have c4 : Bk U4 p xl xw h2 (us.drop 1) := c2.drop1 ok4' at4 (hxl.keep (fun c hc => f24 c (fun e => c2.lp (by rw [← hxlb, hc, e])))) (hxw.keep (fun c hc => uf4 c (fun e => c2.wp (by rw [← hxwb, hc, e])))) hxlb hxwb f24
    repeat (
      first
        | refine WO_nil ?_
        | refine V_block ?_)
    have hkk := congrArg List.length hk
    simp at hkk
    refine back (xl, xw, h2, us.drop 1) U4 _ (by dsimp only; rw [List.length_drop]; omega) ⟨c4, by omega, fun c hc => by rw [f24 c hc, uf2 c hc, uf1 c hc, hTf c hc], ⟨k + 1, by dsimp only; rw [hk, List.drop_drop], by omega⟩, hxlb.trans hbl, hxwb.trans hbw⟩ ⟨rfl, rfl, trivial⟩
  · refine V_done rfl rfl ?_
    exact hend
end Go.Proofs.YthhbnnnokmefoaaDoor
