/- What the row leans on, part 12: texts one behind the other. No condition. -/
import Derived.Test.YtnlfcoojlgdgaaaDoorMg9
import Derived.ChangeArms
import Derived.DataReads
import Derived.Deep.Slices
import Derived.Test.YtnlfcoojlgdgaaaDoorMg11
import Derived.KernelRfl
import Derived.Test.YtnlfcoojlgdgaaaDoorMg10
/- GX: arguments of any type that is made of numbers, strings, slices, structs and pointers: they are only read. -/




namespace GX
open Go Go.Deep
/-- a type whose values may come in -/
def okT (P : Program) : Nat → TypeId → Bool
  | 0, _ => false
  | g + 1, t => match P.underlying t with
    | some .bool => true
    | some (.int _) => true
    | some .string => true
    | some (.slice e) => decide (0 < P.cellsOf e) && okT P g e
    | some (.pointer e) => decide (0 < P.cellsOf e) && okT P g e
    | some (.struct fs) => tile fs.toList 0 (P.cellsOf t) && fs.toList.all fun f => okT P g f.type
    | _ => false
where
  /-- the fields lie one behind the other -/
  tile : List Field → Nat → Nat → Bool
  | [], o, n => decide (o = n)
  | f :: fs, o, n => decide (f.offset = o) && tile fs (o + P.cellsOf f.type) n
/-- cells of a type that came in, of at most so many parts and letters -/
def Rdt (P : Program) (N : Nat) : Nat → TypeId → List AV → Prop
  | 0, _, _ => False
  | g + 1, t, cs => match P.underlying t with
    | some .bool => ∃ b, cs = [.bool b]
    | some (.int k) => ∃ n, cs = [.int k n] ∧ (Lit.int k n).wf = true
    | some .string => ∃ s : List Nat, cs = [.str s] ∧ (∀ b ∈ s, b < 256) ∧ s.length ≤ N
    | some (.slice e) => ∃ v rows, cs = [v] ∧ (∀ S, Rd S v (P.cellsOf e) (List.flatten rows) rows.length) ∧ rows.length ≤ N ∧ ∀ r ∈ rows, r.length = P.cellsOf e ∧ Rdt P N g e r
    | some (.pointer e) => cs = [.nilp] ∨ ∃ cs', cs = [.rptr cs' 0] ∧ cs'.length = P.cellsOf e ∧ Rdt P N g e cs'
    | some (.struct fs) => cs.length = P.cellsOf t ∧ ∀ f ∈ fs.toList, Rdt P N g f.type ((cs.drop f.offset).take (P.cellsOf f.type))
    | _ => False
structure BulkOK {H : Type} (bulk : DataW H → Nat) : Prop where
  str : ∀ l, l.length ≤ bulk (.lit (.string l))
  ptr : ∀ d, bulk d ≤ bulk (.ptr d)
  len : ∀ l r, l.length ≤ bulk (.slice l r)
  sl : ∀ l r, ∀ d ∈ l, bulk d ≤ bulk (.slice l r)
  agg : ∀ l, ∀ d ∈ l, bulk d ≤ bulk (.agg l)
theorem veqs_append : ∀ {a b : List AV}, veqs a a = true → veqs b b = true → veqs (a ++ b) (a ++ b) = true
  | [], b, _, h => h
  | x :: a, b, h1, h2 => by
    simp only [veqs, Bool.and_eq_true, List.cons_append] at h1 ⊢
    exact ⟨h1.1, veqs_append h1.2 h2⟩
/-- cells that lie somewhere -/
theorem cells_in {w : World} {a : Addr} {vs : List Value} (h0 : vs ≠ []) (hcell : ∀ i v, vs[i]? = some v → w.cell? (a.add i) = some v) :
    a.spot = none ∧ ∃ c t fz, w.heap[a.block]? = some (.cells c t fz) ∧ a.off + vs.length ≤ c.size ∧ (c.toList.drop a.off).take vs.length = vs := by
  have hpos : 0 < vs.length := List.length_pos_iff.2 h0
  have hsp : a.spot = none ∧ ∃ c t fz, w.heap[a.block]? = some (.cells c t fz) := by
    have h := hcell 0 vs[0] (List.getElem?_eq_getElem hpos)
    unfold Addr.add World.cell? at h
    simp only [if_true] at h
    split at h
    · rename_i c t fz hh
      split at h
      · cases h
      · rename_i hs
        exact ⟨by simpa using hs, c, t, fz, hh⟩
    · cases h
  obtain ⟨hs, c, t, fz, hh⟩ := hsp
  have hget : ∀ i v, vs[i]? = some v → c[a.off + i]? = some v := by
    intro i v hi
    have h := hcell i v hi
    unfold World.cell? at h
    by_cases hi0 : i = 0
    · subst hi0
      simp only [Addr.add, if_true, hh, hs] at h
      simpa using h
    · simp only [Addr.add, if_neg hi0, hh] at h
      simpa using h
  have hfit : a.off + vs.length ≤ c.size := by
    have := (Array.getElem?_eq_some_iff.1 (hget (vs.length - 1) _ (List.getElem?_eq_getElem (by omega)))).1
    omega
  refine ⟨hs, c, t, fz, hh, hfit, ?_⟩
  apply List.ext_getElem?
  intro i
  rw [List.getElem?_take]
  split
  · rename_i hi
    rw [List.getElem?_eq_getElem hi, List.getElem?_drop]
    simpa using hget i _ (List.getElem?_eq_getElem hi)
  · rw [List.getElem?_eq_none (by omega)]
theorem arg_cellsN [Val] {φ : Phi} {w : World} (hro : ∀ g o, w.heap[g]? = some o → Val.ro g = some o) {a : Addr} {len cap sz : Nat} {cs : List AV} {vs : List Value} (hz : 0 < sz) (hl : len ≤ cap) (hv : vs.length = len * sz) (hcell : ∀ i v, vs[i]? = some v → w.cell? (a.add i) = some v) (hrel : vrels φ cs vs) (hself : veqs cs cs = true) :
    ∃ av, vrel φ av (.slice (some a) len cap) ∧ ∀ S, Rd S av sz cs len := by
  have hcl : cs.length = len * sz := by rw [vrels_length hrel, hv]
  by_cases h0 : vs = []
  · subst h0
    have hl0 : len = 0 := by
      rcases Nat.eq_zero_or_pos len with h | h
      · exact h
      · have := Nat.mul_pos h hz
        simp at hv; omega
    subst hl0
    cases List.eq_nil_of_length_eq_zero (by rw [hcl, Nat.zero_mul] : cs.length = 0)
    exact ⟨.emp, ⟨a, cap, rfl⟩, fun S => ⟨rfl, rfl, rfl, rfl, rfl, by simp⟩⟩
  · obtain ⟨hs, c, t, fz, hh, hfit, hlist⟩ := cells_in h0 hcell
    refine ⟨.rsl cs len sz, ?_, fun S => ⟨by simp [capW, hcl], by simp [veq, hself], rfl, rfl, ?_, hcl⟩⟩
    · simp only [vrel]
      refine ⟨a.block, a.off, cap, c, t, fz, ?_, hl, hcl, hro _ _ hh, by omega, by rw [hcl, ← hv, hlist]; exact hrel⟩
      rw [← hs]
    · unfold srcCells; dsimp only
      rw [nble, decide_eq_true (by omega)]
      simp only [nbeq, decide_true, Bool.true_and, cond_true]
      rw [List.take_of_length_le (by omega)]
theorem bytes_lt' (s : ByteArray) : ∀ b ∈ bytes s, b < 256 := by
  intro b hb
  unfold bytes at hb
  obtain ⟨c, _, rfl⟩ := List.mem_map.1 hb
  exact c.toNat_lt
section
variable {H : Type} {enc : TypeId × Value → H} {P : Program} {w : World} {base : Nat} {sp : Nat → Bool} {held : Bool} {bulk : DataW H → Nat} {N : Nat}
/-- the fields of a struct, one behind the other -/
theorem fields_rel [Val] {φ : Phi} {cs : List Value} {R : Field → List AV → Prop} : ∀ (fs : List Field) (o n : Nat), okT.tile P fs o n = true → o ≤ n → n ≤ cs.length →
    (∀ f ∈ fs, ∃ avs, vrels φ avs ((cs.drop f.offset).take (P.cellsOf f.type)) ∧ veqs avs avs = true ∧ R f avs) →
    ∃ avs, vrels φ avs ((cs.drop o).take (n - o)) ∧ veqs avs avs = true ∧ ∀ f ∈ fs, o ≤ f.offset ∧ R f ((avs.drop (f.offset - o)).take (P.cellsOf f.type))
  | [], o, n, ht, _, _, _ => by
    have : o = n := of_decide_eq_true ht
    subst this
    exact ⟨[], by rw [Nat.sub_self, List.take_zero]; exact vrels_nil, rfl, by simp⟩
  | f :: fs, o, n, ht, ho, hn, h => by
    unfold okT.tile at ht
    simp only [Bool.and_eq_true, decide_eq_true_eq] at ht
    obtain ⟨hfo, ht⟩ := ht
    have hle : o + P.cellsOf f.type ≤ n := by
      have key : ∀ (l : List Field) (a : Nat), okT.tile P l a n = true → a ≤ n := by
        intro l
        induction l with
        | nil => intro a h; exact Nat.le_of_eq (of_decide_eq_true h)
        | cons x l ih =>
          intro a h
          unfold okT.tile at h
          simp only [Bool.and_eq_true, decide_eq_true_eq] at h
          have := ih _ h.2; omega
      exact key _ _ ht
    obtain ⟨a1, r1, v1, p1⟩ := h f (List.mem_cons_self ..)
    obtain ⟨a2, r2, v2, p2⟩ := fields_rel fs (o + P.cellsOf f.type) n ht hle hn (fun g hg => h g (List.mem_cons_of_mem _ hg))
    have hl1 : a1.length = P.cellsOf f.type := by rw [vrels_length r1, List.length_take, List.length_drop]; omega
    refine ⟨a1 ++ a2, ?_, veqs_append v1 v2, fun g hg => ?_⟩
    · have e : (cs.drop o).take (n - o) = (cs.drop f.offset).take (P.cellsOf f.type) ++ (cs.drop (o + P.cellsOf f.type)).take (n - (o + P.cellsOf f.type)) := by
        rw [hfo, show n - o = P.cellsOf f.type + (n - (o + P.cellsOf f.type)) by omega, List.take_add, List.drop_drop]
      rw [e]; exact vrels_append r1 r2
    · rcases List.mem_cons.1 hg with rfl | hg
      · rw [hfo, Nat.sub_self, List.drop_zero, List.take_append_of_le_length (by omega), List.take_of_length_le (by omega)]
        exact ⟨Nat.le_refl _, p1⟩
      · obtain ⟨q1, q2⟩ := p2 g hg
        refine ⟨by omega, ?_⟩
        rw [show g.offset - o = a1.length + (g.offset - (o + P.cellsOf f.type)) by omega, ← List.drop_drop, List.drop_append_of_le_length (Nat.le_refl _), List.drop_length, List.nil_append]
        exact q2
/-- what came in, as cells that are only read -/
theorem trod_rel [Val] {φ : Phi} (hro : ∀ g o, w.heap[g]? = some o → Val.ro g = some o) (hB : BulkOK bulk) : ∀ (g : Nat) (t : TypeId) (f : Nat) (cs : List Value) (x : DataW H × List MemPlace), okT P g t = true → DataW.trod enc P w base sp held f t cs = some x → bulk x.1 ≤ N →
    ∃ avs, vrels φ avs cs ∧ veqs avs avs = true ∧ Rdt P N g t avs
  | 0, _, _, _, _, hk, _, _ => by cases hk
  | g + 1, t, f, cs, x, hk, h, hb => by
    unfold okT at hk
    unfold Rdt
    split at hk
    · rename_i hu
      obtain ⟨b, rfl, rfl⟩ := DataW.trod_bool hu h
      exact ⟨[.bool b], vrels_cons rfl vrels_nil, by cases b <;> rfl, b, rfl⟩
    · rename_i k hu
      obtain ⟨n, rfl, rfl, hw⟩ := DataW.trod_int hu h
      exact ⟨[.int k n], vrels_cons rfl vrels_nil, by simp [veqs, veq_int], n, rfl, hw⟩
    · rename_i hu
      obtain ⟨s, rfl, rfl, hs⟩ := DataW.trod_string hu h
      refine ⟨[.str (bytes s)], vrels_cons ⟨s, rfl, rfl⟩ vrels_nil, by simp [veqs, veq_str], bytes s, rfl, bytes_lt' s, ?_⟩
      have h1 := hB.str s.data.toList
      have h2 : (bytes s).length = s.data.toList.length := by unfold bytes; simp
      dsimp only at hb
      omega
    · rename_i e hu
      simp only [Bool.and_eq_true, decide_eq_true_eq] at hk
      obtain ⟨hz, hk⟩ := hk
      rcases DataW.trod_slice hu h with ⟨rfl, rfl⟩ | ⟨a, len, cap, elems, rest, n, _, rfl, rfl, hbs, hl, hm, hlen, hel, hsp, hns⟩
      · exact ⟨[.nils], vrels_cons rfl vrels_nil, rfl, .nils, [], rfl, fun S => ⟨rfl, rfl, rfl, rfl, rfl, by simp⟩, Nat.zero_le _, by simp⟩
      · dsimp only at hb
        have hlN : len ≤ N := by
          have := hB.len (elems.map (·.1)) (rest.map (·.1))
          rw [List.length_map, hlen] at this
          omega
        have each : ∀ i, i < len → ∃ q : List Value × List AV, w.cells? base (a.add (i * P.cellsOf e)) (P.cellsOf e) = some q.1 ∧ vrels φ q.2 q.1 ∧ veqs q.2 q.2 = true ∧ Rdt P N g e q.2 := by
          intro i hi
          have h1 := hel i hi
          rw [List.getElem?_eq_getElem (by omega)] at h1
          obtain ⟨cs', h2, h3⟩ := Option.bind_eq_some_iff.1 h1
          obtain ⟨avs, h4, h5, h6⟩ := trod_rel hro hB g e n cs' _ hk h3 (Nat.le_trans (hB.sl _ _ _ (List.mem_map_of_mem (List.getElem_mem _))) hb)
          exact ⟨(cs', avs), h2, h4, h5, h6⟩
        obtain ⟨q, hq⟩ := choose_lt each
        have hql : ∀ i, i < len → (q i).1.length = P.cellsOf e := fun i hi => (World.cells?_some (hq i hi).1).2.1
        -- all cells, one behind the other
        have all : ∀ m, m ≤ len → ∃ vs : List Value, vs.length = m * P.cellsOf e ∧ (∀ i v, vs[i]? = some v → w.cell? (a.add i) = some v) ∧ vrels φ (List.flatten ((List.range m).map fun i => (q i).2)) vs ∧ veqs (List.flatten ((List.range m).map fun i => (q i).2)) (List.flatten ((List.range m).map fun i => (q i).2)) = true := by
          intro m
          induction m with
          | zero => intro _; exact ⟨[], by simp, by simp, vrels_nil, rfl⟩
          | succ m ih =>
            intro hm2
            obtain ⟨vs, g1, g2, g3, g4⟩ := ih (by omega)
            obtain ⟨c1, c2, c3, c4⟩ := hq m (by omega)
            obtain ⟨d1, d2, d3⟩ := World.cells?_some c1
            refine ⟨vs ++ (q m).1, by rw [List.length_append, g1, d2, Nat.add_mul, Nat.one_mul], fun i v hv => ?_, ?_, ?_⟩
            · by_cases hi : i < vs.length
              · rw [List.getElem?_append_left hi] at hv; exact g2 i v hv
              · rw [List.getElem?_append_right (by omega)] at hv
                have hi2 : i - vs.length < P.cellsOf e := by
                  have := (List.getElem?_eq_some_iff.1 hv).1; omega
                have h7 := d3 _ hi2
                rw [add_add, ← g1, hv, show vs.length + (i - vs.length) = i by omega] at h7
                exact h7
            · rw [List.range_succ, List.map_append, List.flatten_append]
              exact vrels_append g3 (by simpa using c2)
            · rw [List.range_succ, List.map_append, List.flatten_append]
              exact veqs_append g4 (by simpa using c3)
        obtain ⟨vs, g1, g2, g3, g4⟩ := all len (Nat.le_refl _)
        obtain ⟨av, k1, k2⟩ := arg_cellsN (φ := φ) hro hz hl g1 g2 g3 g4
        refine ⟨[av], vrels_cons k1 vrels_nil, ?_, av, (List.range len).map fun i => (q i).2, rfl, fun S => by simpa using k2 S, by simpa using hlN, ?_⟩
        · have := (k2 { h := .leaf, n := 0 }).self
          simp [veqs, this]
        · intro r hr
          obtain ⟨i, hi, rfl⟩ := List.mem_map.1 hr
          have hi := List.mem_range.1 hi
          exact ⟨by rw [vrels_length (hq i hi).2.1]; exact hql i hi, (hq i hi).2.2.2⟩
    · rename_i e hu
      simp only [Bool.and_eq_true, decide_eq_true_eq] at hk
      obtain ⟨hz, hk⟩ := hk
      rcases DataW.trod_pointer hu h with ⟨rfl, rfl⟩ | ⟨a, cs', y, n, _, rfl, rfl, hc, hy⟩
      · exact ⟨[.nilp], vrels_cons rfl vrels_nil, rfl, .inl rfl⟩
      · dsimp only at hb
        obtain ⟨avs, h4, h5, h6⟩ := trod_rel hro hB g e n cs' _ hk hy (Nat.le_trans (hB.ptr _) hb)
        obtain ⟨_, d2, d3⟩ := World.cells?_some hc
        have hne : cs' ≠ [] := by intro h; rw [h] at d2; simp at d2; omega
        obtain ⟨hs, c, tt, fz, hh, hfit, hlist⟩ := cells_in (a := a) hne (fun i v hv => by
          have := (List.getElem?_eq_some_iff.1 hv).1
          rw [d3 i (by omega), hv])
        have hl := vrels_length h4
        refine ⟨[.rptr avs 0], vrels_cons ?_ vrels_nil, by simp [veqs, veq, h5], .inr ⟨avs, rfl, by omega, h6⟩⟩
        simp only [vrel]
        refine ⟨a.block, a.off, c, tt, fz, ?_, hro _ _ hh, by omega, by rw [hl, hlist]; exact h4⟩
        rw [Nat.add_zero, ← hs]
    · rename_i fs hu
      simp only [Bool.and_eq_true, List.all_eq_true] at hk
      obtain ⟨ht, hk⟩ := hk
      obtain ⟨xs, n, _, rfl, hlen, hxs, hf⟩ := DataW.trod_struct hu h
      dsimp only at hb
      obtain ⟨avs, h4, h5, h6⟩ := fields_rel (φ := φ) (cs := cs) (R := fun f avs => Rdt P N g f.type avs) fs.toList 0 (P.cellsOf t) ht (Nat.zero_le _) (by omega) (by
        intro fd hfd
        obtain ⟨i, hi, rfl⟩ := List.getElem_of_mem hfd
        have hi' : i < fs.size := by simpa using hi
        have h1 := hf i fs[i] (by simp [hi'])
        rw [List.getElem?_eq_getElem (by omega)] at h1
        simp only [Array.getElem_toList]
        exact trod_rel hro hB g _ n _ _ (hk _ (by simp)) h1 (Nat.le_trans (hB.agg _ _ (List.mem_map_of_mem (List.getElem_mem _))) hb))
      rw [List.drop_zero, Nat.sub_zero, List.take_of_length_le (by omega)] at h4
      exact ⟨avs, h4, h5, by rw [vrels_length h4]; exact hlen, fun f hf => (h6 f hf).2⟩
    · cases hk
end
end GX
/- Chapter 1: pieces that come in. -/




namespace Go.Proofs.YtnlfcoojlgdgaaaDoor
open GX Go
theorem u2 : Tryd.prog.underlying 2 = some (.int .i64) := by kernel_rfl
theorem u3 : Tryd.prog.underlying 3 = some (.int .i64) := by kernel_rfl
theorem u5 : Tryd.prog.underlying 5 = some (.int .u8) := by kernel_rfl
theorem u9 : Tryd.prog.underlying 9 = some .string := by kernel_rfl
theorem u22 : Tryd.prog.underlying 22 = some (.slice 5) := by kernel_rfl
theorem u36 : Tryd.prog.underlying 36 = some (.slice 40) := by kernel_rfl
theorem u40 : Tryd.prog.underlying 40 = some (.struct #[⟨"Kind", 3, 0, false, "", "", 0⟩, ⟨"Bytes", 3, 1, false, "", "", 8⟩, ⟨"N", 2, 2, false, "", "", 16⟩, ⟨"Text", 9, 3, false, "", "", 24⟩, ⟨"Raw", 22, 4, false, "", "", 40⟩]) := by kernel_rfl
theorem c2 : Tryd.prog.cellsOf 2 = 1 := by kernel_rfl
theorem c3 : Tryd.prog.cellsOf 3 = 1 := by kernel_rfl
theorem c5 : Tryd.prog.cellsOf 5 = 1 := by kernel_rfl
theorem c9 : Tryd.prog.cellsOf 9 = 1 := by kernel_rfl
theorem c22 : Tryd.prog.cellsOf 22 = 1 := by kernel_rfl
theorem c40 : Tryd.prog.cellsOf 40 = 5 := by kernel_rfl
theorem rdt_int {N g t : Nat} {k : IntKind} {a : AV} (hu : Tryd.prog.underlying t = some (.int k)) (h : Rdt Tryd.prog N (g + 1) t [a]) : ∃ n, a = .int k n ∧ (Lit.int k n).wf = true := by
  unfold Rdt at h; rw [hu] at h
  obtain ⟨n, h1, h2⟩ := h
  exact ⟨n, List.head_eq_of_cons_eq h1, h2⟩
theorem rdt_str {N g : Nat} {a : AV} (h : Rdt Tryd.prog N (g + 1) 9 [a]) : ∃ s, a = .str s ∧ (∀ b ∈ s, b < 256) ∧ s.length ≤ N := by
  unfold Rdt at h; rw [u9] at h
  obtain ⟨n, h1, h2⟩ := h
  exact ⟨n, List.head_eq_of_cons_eq h1, h2⟩
theorem rows_bytes {N g : Nat} : ∀ (rows : List (List AV)), (∀ r ∈ rows, r.length = Tryd.prog.cellsOf 5 ∧ Rdt Tryd.prog N (g + 1) 5 r) → ∃ l, List.flatten rows = sbytes l ∧ l.length = rows.length ∧ ∀ b ∈ l, b < 256
  | [], _ => ⟨[], rfl, rfl, by simp⟩
  | r :: rows, h => by
    obtain ⟨l, h1, h2, h3⟩ := rows_bytes rows (fun r hr => h r (List.mem_cons_of_mem _ hr))
    obtain ⟨h4, h5⟩ := h r (List.mem_cons_self ..)
    rw [c5] at h4
    match r, h4 with
    | [a], _ =>
      obtain ⟨n, rfl, hw⟩ := rdt_int u5 h5
      have hn := wf_u8 hw
      refine ⟨n.toNat :: l, ?_, by simp [h2], fun b hb => ?_⟩
      · rw [List.flatten_cons, h1]
        show AV.int .u8 n :: sbytes l = AV.int .u8 ((n.toNat : Nat) : Int) :: sbytes l
        congr 2
        omega
      · rcases List.mem_cons.1 hb with rfl | hb
        · omega
        · exact h3 b hb
theorem rdt_bytes {N g : Nat} {a : AV} (h : Rdt Tryd.prog N (g + 2) 22 [a]) : ∃ l, (∀ S, Rd S a 1 (sbytes l) l.length) ∧ (∀ b ∈ l, b < 256) ∧ l.length ≤ N := by
  unfold Rdt at h; rw [u22] at h
  obtain ⟨v, rows, h1, h2, h3, h4⟩ := h
  obtain ⟨l, g1, g2, g3⟩ := rows_bytes rows h4
  cases List.head_eq_of_cons_eq h1
  exact ⟨l, fun S => (by rw [c5] at h2; exact (h2 S).eq g1 g2.symm), g3, by omega⟩
theorem part_of {g : Nat} {r : List AV} (h : Rdt Tryd.prog 1048576 (g + 3) 40 r) : ∃ p : PartA, p.cells = r ∧ p.Good := by
  unfold Rdt at h; rw [u40] at h
  obtain ⟨hl, hf⟩ := h
  rw [c40] at hl
  match r, hl with
  | [a0, a1, a2, a3, a4], _ =>
    simp only [List.mem_cons, forall_eq_or_imp, c2, c3, c9, c22, List.drop_zero, List.drop_succ_cons, List.take_succ_cons, List.take_zero] at hf
    obtain ⟨h0, h1, h2, h3, h4, _⟩ := hf
    obtain ⟨n0, rfl, _⟩ := rdt_int u3 h0
    obtain ⟨n1, rfl, _⟩ := rdt_int u3 h1
    obtain ⟨n2, rfl, _⟩ := rdt_int u2 h2
    obtain ⟨s, rfl, hs1, hs2⟩ := rdt_str h3
    obtain ⟨l, hl1, hl2, hl3⟩ := rdt_bytes h4
    exact ⟨⟨n0, n1, n2, s, a4, l⟩, rfl, ⟨hs1, hs2, hl3, hl2, hl1⟩⟩
theorem parts_of {g : Nat} : ∀ (rows : List (List AV)), (∀ r ∈ rows, r.length = Tryd.prog.cellsOf 40 ∧ Rdt Tryd.prog 1048576 (g + 3) 40 r) → ∃ ps : List PartA, List.flatten rows = ps.flatMap PartA.cells ∧ ps.length = rows.length ∧ ∀ p ∈ ps, p.Good
  | [], _ => ⟨[], rfl, rfl, by simp⟩
  | r :: rows, h => by
    obtain ⟨ps, h1, h2, h3⟩ := parts_of rows (fun r hr => h r (List.mem_cons_of_mem _ hr))
    obtain ⟨p, h4, h5⟩ := part_of (h r (List.mem_cons_self ..)).2
    refine ⟨p :: ps, by rw [List.flatten_cons, h1, List.flatMap_cons, h4], by simp [h2], fun q hq => ?_⟩
    rcases List.mem_cons.1 hq with rfl | hq
    · exact h5
    · exact h3 q hq
theorem parts_arg {g : Nat} {a : AV} (h : Rdt Tryd.prog 1048576 (g + 4) 36 [a]) : ∃ ps : List PartA, (∀ S, Rd S a 5 (ps.flatMap PartA.cells) ps.length) ∧ (∀ p ∈ ps, p.Good) ∧ ps.length ≤ 1048576 := by
  unfold Rdt at h; rw [u36] at h
  obtain ⟨v, rows, h1, h2, h3, h4⟩ := h
  obtain ⟨ps, g1, g2, g3⟩ := parts_of rows h4
  cases List.head_eq_of_cons_eq h1
  exact ⟨ps, fun S => (by rw [c40] at h2; exact (h2 S).eq g1 g2.symm), g3, by omega⟩
end Go.Proofs.YtnlfcoojlgdgaaaDoor
/- Chapter 1: pieces that come in, their numbers within bounds. -/


namespace Go.Proofs.YtnlfcoojlgdgaaaDoor
open GX Go
theorem wf_i64b {n : Int} (h : (Lit.int .i64 n).wf = true) : -9223372036854775808 ≤ n ∧ n < 9223372036854775808 := by
  simp [Lit.wf, IntKind.min, IntKind.max, IntKind.signed, IntKind.bits] at h
  omega
theorem part_of3 {g : Nat} {r : List AV} (h : Rdt Tryd.prog 1048576 (g + 3) 40 r) : ∃ p : PartA, p.cells = r ∧ p.Good ∧ -9223372036854775808 ≤ p.n ∧ p.n < 9223372036854775808 := by
  unfold Rdt at h; rw [u40] at h
  obtain ⟨hl, hf⟩ := h
  rw [c40] at hl
  match r, hl with
  | [a0, a1, a2, a3, a4], _ =>
    simp only [List.mem_cons, forall_eq_or_imp, c2, c3, c9, c22, List.drop_zero, List.drop_succ_cons, List.take_succ_cons, List.take_zero] at hf
    obtain ⟨h0, h1, h2, h3, h4, _⟩ := hf
    obtain ⟨n0, rfl, _⟩ := rdt_int u3 h0
    obtain ⟨n1, rfl, _⟩ := rdt_int u3 h1
    obtain ⟨n2, rfl, hw2⟩ := rdt_int u2 h2
    obtain ⟨s, rfl, hs1, hs2⟩ := rdt_str h3
    obtain ⟨l, hl1, hl2, hl3⟩ := rdt_bytes h4
    exact ⟨⟨n0, n1, n2, s, a4, l⟩, rfl, ⟨hs1, hs2, hl3, hl2, hl1⟩, (wf_i64b hw2).1, (wf_i64b hw2).2⟩
theorem parts_of3 {g : Nat} : ∀ (rows : List (List AV)), (∀ r ∈ rows, r.length = Tryd.prog.cellsOf 40 ∧ Rdt Tryd.prog 1048576 (g + 3) 40 r) → ∃ ps : List PartA, List.flatten rows = ps.flatMap PartA.cells ∧ ps.length = rows.length ∧ ∀ p ∈ ps, p.Good ∧ -9223372036854775808 ≤ p.n ∧ p.n < 9223372036854775808
  | [], _ => ⟨[], rfl, rfl, by simp⟩
  | r :: rows, h => by
    obtain ⟨ps, h1, h2, h3⟩ := parts_of3 rows (fun r hr => h r (List.mem_cons_of_mem _ hr))
    obtain ⟨p, h4, h5⟩ := part_of3 (h r (List.mem_cons_self ..)).2
    refine ⟨p :: ps, by rw [List.flatten_cons, h1, List.flatMap_cons, h4], by simp [h2], fun q hq => ?_⟩
    rcases List.mem_cons.1 hq with rfl | hq
    · exact h5
    · exact h3 q hq
theorem parts_arg3 {g : Nat} {a : AV} (h : Rdt Tryd.prog 1048576 (g + 4) 36 [a]) : ∃ ps : List PartA, (∀ S, Rd S a 5 (ps.flatMap PartA.cells) ps.length) ∧ (∀ p ∈ ps, p.Good ∧ -9223372036854775808 ≤ p.n ∧ p.n < 9223372036854775808) ∧ ps.length ≤ 1048576 := by
  unfold Rdt at h; rw [u36] at h
  obtain ⟨v, rows, h1, h2, h3, h4⟩ := h
  obtain ⟨ps, g1, g2, g3⟩ := parts_of3 rows h4
  cases List.head_eq_of_cons_eq h1
  exact ⟨ps, fun S => (by rw [c40] at h2; exact (h2 S).eq g1 g2.symm), g3, by omega⟩
end Go.Proofs.YtnlfcoojlgdgaaaDoor
/- mutf.Reader: what its functions do. -/

namespace Go.Proofs.YtnlfcoojlgdgaaaDoor
open GX
set_option maxHeartbeats 8000000
section
variable {X : X} {l : L} {S : St} {R : AV → St → Prop} {x y : Operand}
open Go
/-- a store of one cell -/
theorem Ev_store1 {t b o : Nat} {i : TI} {ty : Nat} {cs : List AV} {sp : Bool} {v : AV} (hx : od l x = some (.ptr b o)) (hy : od l y = some v) (hc : v.cells = [v]) (h1 : v.one = true) (hi : X.ti t = some i) (hz : Nat.beq 1 i.size = true) (hb : S.h.get b = some (.cells ty cs sp)) (hle : o + 1 ≤ cs.length) (hn : b < 1000000000)
    (hR : ∀ S', S'.n = S.n → S'.h.get b = some (.cells ty (lput cs o [v]) sp) → (∀ c, c ≠ b → S'.h.get c = S.h.get c) → R (.tup []) S') : Ev X l S (.store t x y) R := by
  refine Ev_store hx hy hi (by rw [hc]; exact hz) (by rw [hc]; simp [h1]) hb (by rw [hc]; exact hle) hn ?_
  rw [hc]; exact hR
end
structure RdS where
  pos : Nat
  err : Int
  at_ : Int
/-- a reader -/
structure Rr (S : St) (p : Nat) (vb : AV) (b : List Nat) (r : RdS) : Prop where
  cell : S.h.get p = some (.cells 84 [vb, .int .i64 ((r.pos : Nat) : Int), .int .i64 r.err, .int .i64 r.at_] false)
  rd : Rd S vb 1 (sbytes b) b.length
  ne : blkOf vb ≠ some p
  le : r.pos ≤ b.length
/-- only one block is written to -/
structure FrP (S S' : St) (p : Nat) : Prop where
  n : S'.n = S.n
  ok : Sok S'
  same : ∀ c, c ≠ p → S'.h.get c = S.h.get c
theorem FrP.refl {S : St} {p : Nat} (h : Sok S) : FrP S S p := ⟨rfl, h, fun _ _ => rfl⟩
theorem FrP.trans {S T U : St} {p : Nat} (a : FrP S T p) (b : FrP T U p) : FrP S U p := ⟨b.n.trans a.n, b.ok, fun c h => (b.same c h).trans (a.same c h)⟩
def RdS.refuse (r : RdS) (c a : Int) : RdS := if r.err = 0 ∧ c ≠ 0 then { r with err := c, at_ := a } else r
theorem refuse_runs {S : St} {p : Nat} {vb : AV} {b : List Nat} {r : RdS} {c a : Int} (hok : Sok S) (h : Rr S p vb b r) (hn : S.n ≤ 1000000000) :
    Runs X1 55 [.ptr p 0, .int .i64 c, .int .i64 a] S fun _ S' => Rr S' p vb b (r.refuse c a) ∧ FrP S S' p := by
  have hp : p < S.n := hok _ _ h.cell
  refine Runs_fn (m := 23) (by kernel_rfl) Tryd.func55 rfl (by kernel_rfl) (by kernel_rfl) ?_
  repeat' (
    first
      | refine W_seq ?_
      | refine WO_nil ?_
      | refine V_seq ?_
      | refine W_region ?_
      | refine W_skip ?_
      | refine W_cond_f rfl ?_
      | refine WO_dst rfl rfl (by kernel_rfl) (by kernel_rfl) ?_
      | refine WO_no rfl rfl ?_
      | refine WO_guard_t rfl rfl rfl rfl rfl (by kernel_rfl) (by kernel_rfl) ?_
      | refine WO_guard_f rfl rfl rfl rfl rfl rfl (by kernel_rfl) (by kernel_rfl) ?_
      | refine Ev_load rfl rfl rfl h.cell rfl (veq_int _ _) ?_
      | refine Ev_move rfl ?_
      | refine Ev_pick_t rfl rfl rfl ?_
      | refine Ev_pick_f rfl rfl rfl ?_
      | refine Ev_eql rfl rfl ?_
      | refine Ev_neq rfl rfl ?_
      | refine Ev_nilCheck rfl ?_
      | refine Ev_fieldAddr rfl rfl rfl rfl rfl rfl ?_
      | (refine WO_guard_dt rfl rfl rfl rfl rfl (by kernel_rfl) (by kernel_rfl) (fun hg => ?_) (fun hg => ?_) <;> (try dsimp only at hg) <;> try (exfalso; first | omega | exact hg rfl))
      | (refine W_cond rfl (fun hc => ?_) (fun hc => ?_) <;> (try dsimp only at hc) <;> try (exfalso; first | omega | exact hc rfl)))
  · refine Ev_store1 rfl rfl rfl rfl rfl rfl h.cell (by simp) (by omega) ?_
    intro S1 hn1 hq1 hf1
    repeat (
      first
        | refine WO_dst rfl rfl (by kernel_rfl) (by kernel_rfl) ?_
        | refine WO_no rfl rfl ?_
        | refine Ev_nilCheck rfl ?_
        | refine Ev_fieldAddr rfl rfl rfl rfl rfl rfl ?_)
    refine Ev_store1 rfl rfl rfl rfl rfl rfl hq1 (by simp [lput]) (by omega) ?_
    intro S2 hn2 hq2 hf2
    repeat (
      refine WO_nil ?_)
    refine V_done rfl rfl ?_
    have hok1 := Sok.upd hok hp hn1 hq1 hf1
    have hr : r.refuse c a = { r with err := c, at_ := a } := by unfold RdS.refuse; rw [if_pos ⟨hg, hc⟩]
    refine ⟨⟨by rw [hr]; exact hq2, h.rd.keep (fun d hd => ?_), h.ne, by rw [hr]; exact h.le⟩, ⟨by omega, Sok.upd hok1 (by omega) hn2 hq2 hf2, fun d hd => by rw [hf2 d hd, hf1 d hd]⟩⟩
    have hdp : d ≠ p := fun e => h.ne (by rw [hd, e])
    rw [hf2 d hdp, hf1 d hdp]
  all_goals
    refine V_done rfl rfl ?_
    have hr : r.refuse c a = r := by unfold RdS.refuse; rw [if_neg (by first | exact fun e => hc e.2 | exact fun e => hg e.1 | (intro e; simp_all))]
    rw [hr]; exact ⟨h, FrP.refl hok⟩
/-- what is taken, and the reader behind it -/
def RdS.take (r : RdS) (b : List Nat) (n : Nat) : List Nat × RdS :=
  if r.err ≠ 0 then ([], r) else if b.length - r.pos < n then ([], r.refuse 10 (b.length : Int)) else ((b.drop r.pos).take n, { r with pos := r.pos + n })
theorem take_runs {S : St} {p : Nat} {vb : AV} {b : List Nat} {r : RdS} {n : Nat} (hok : Sok S) (h : Rr S p vb b r) (hn : S.n ≤ 1000000000) (hb : b.length ≤ 1000000000) (hm : n < 9223372036854775808) :
    Runs X1 53 [.ptr p 0, .int .i64 ((n : Nat) : Int)] S fun v S' => Rr S' p vb b (r.take b n).2 ∧ FrP S S' p ∧ Rd S' v 1 (sbytes (r.take b n).1) (r.take b n).1.length ∧ ∀ c, blkOf v = some c → blkOf vb = some c := by
  have hp : p < S.n := hok _ _ h.cell
  have hle := h.le
  refine Runs_fn (m := 54) (by kernel_rfl) Tryd.func53 rfl (by kernel_rfl) (by kernel_rfl) ?_
  repeat' (
    first
      | refine W_seq ?_
      | refine WO_nil ?_
      | refine V_seq ?_
      | refine W_region ?_
      | refine W_drawn (by kernel_rfl) ?_
      | refine W_skip ?_
      | refine W_ret ?_
      | refine V_ret ?_
      | refine WO_dst rfl rfl (by kernel_rfl) (by kernel_rfl) ?_
      | refine Ev_load rfl rfl rfl h.cell rfl (veq_int _ _) ?_
      | refine Ev_load rfl rfl rfl h.cell rfl h.rd.self ?_
      | refine Ev_len rfl rfl rfl rfl rfl h.rd.len ?_
      | refine Ev_move rfl ?_
      | refine Ev_assign rfl ?_
      | refine Ev_gtrN rfl rfl ?_
      | refine Ev_neq rfl rfl ?_
      | refine Ev_nilCheck rfl ?_
      | refine Ev_fieldAddr rfl rfl rfl rfl rfl rfl ?_
      | refine Ev_addN rfl rfl (by simp only [lim]; omega) ?_
      | refine Ev_subN rfl rfl (by simp only [lim]; omega) (by first | omega | (dsimp only; done) | (dsimp only; omega)) ?_
      | (refine W_cond rfl (fun hc => ?_) (fun hc => ?_) <;> (try dsimp only at hc) <;> try (exfalso; first | omega | exact hc rfl)))
  · refine V_done rfl rfl ?_
    have e : r.take b n = ([], r) := by unfold RdS.take; rw [if_pos hc]
    rw [e]
    exact ⟨h, FrP.refl hok, ⟨rfl, rfl, rfl, rfl, rfl, rfl⟩, fun c hc => by cases hc⟩
  · refine Ev_call rfl rfl ((refuse_runs hok h hn).mono ?_)
    rintro _ S1 - ⟨h1, hF1⟩
    repeat (
      first
        | refine W_seq ?_
        | refine WO_nil ?_
        | refine V_seq ?_
        | refine W_region ?_
        | refine W_ret ?_
        | refine V_ret ?_
        | refine WO_dst rfl rfl (by kernel_rfl) (by kernel_rfl) ?_
        | refine Ev_assign rfl ?_)
    refine V_done rfl rfl ?_
    rename_i hc0 _
    have e : r.take b n = ([], r.refuse 10 (b.length : Int)) := by unfold RdS.take; rw [if_neg hc0, if_pos hc]
    rw [e]
    exact ⟨h1, hF1, ⟨rfl, rfl, rfl, rfl, rfl, rfl⟩, fun c hc => by cases hc⟩
  · rename_i hc0
    refine Ev_slice_lh rfl rfl rfl rfl rfl rfl h.rd (by omega) (by omega) ?_
    intro v' hv' hbv
    have e : r.take b n = ((b.drop r.pos).take n, { r with pos := r.pos + n }) := by unfold RdS.take; rw [if_neg hc0, if_neg hc]
    have hv2 : Rd S v' 1 (sbytes ((b.drop r.pos).take n)) ((b.drop r.pos).take n).length := by
      refine hv'.eq ?_ (by simp only [List.length_take, List.length_drop]; omega)
      unfold sbytes
      simp only [Nat.mul_one, List.map_take, List.map_drop, List.drop_take]
      congr 1
      omega
    repeat (
      first
        | refine W_seq ?_
        | refine WO_nil ?_
        | refine V_seq ?_
        | refine W_region ?_
        | refine WO_dst rfl rfl (by kernel_rfl) (by kernel_rfl) ?_
        | refine WO_no rfl rfl ?_
        | refine Ev_load rfl rfl rfl h.cell rfl (veq_int _ _) ?_
        | refine Ev_move rfl ?_
        | refine Ev_assign rfl ?_
        | refine Ev_nilCheck rfl ?_
        | refine Ev_fieldAddr rfl rfl rfl rfl rfl rfl ?_
        | refine Ev_addN rfl rfl (by simp only [lim]; omega) ?_)
    refine Ev_store1 rfl rfl rfl rfl rfl rfl h.cell (by simp) (by omega) ?_
    intro S1 hn1 hq1 hf1
    repeat (
      first
        | refine W_seq ?_
        | refine WO_nil ?_
        | refine V_seq ?_
        | refine W_region ?_
        | refine W_ret ?_
        | refine WO_dst rfl rfl (by kernel_rfl) (by kernel_rfl) ?_
        | refine Ev_move rfl ?_
        | refine Ev_assign rfl ?_)
    refine V_done rfl rfl ?_
    rw [e]
    have hk : ∀ d, blkOf vb = some d → S1.h.get d = S.h.get d := fun d hd => hf1 d (fun e2 => h.ne (by rw [hd, e2]))
    exact ⟨⟨hq1, h.rd.keep hk, h.ne, by dsimp only; omega⟩, ⟨hn1, Sok.upd hok hp hn1 hq1 hf1, hf1⟩, hv2.keep (fun d hd => hk d (hbv d hd)), hbv⟩
end Go.Proofs.YtnlfcoojlgdgaaaDoor
/- mutf.Reader.Number and the like. -/

namespace Go.Proofs.YtnlfcoojlgdgaaaDoor
open GX
set_option maxHeartbeats 8000000
/-- the number that bytes stand for -/
def numOf (l : List Nat) : Nat := l.foldl (fun a x => a * 256 + x) 0
theorem numOf_snoc (l : List Nat) (x : Nat) : numOf (l ++ [x]) = numOf l * 256 + x := by unfold numOf; rw [List.foldl_append]; rfl
theorem numOf_take {l : List Nat} {i : Nat} (h : i < l.length) : numOf (l.take (i + 1)) = numOf (l.take i) * 256 + l.getD i 0 := by
  rw [List.take_add_one, List.getElem?_eq_getElem h]
  rw [show (some l[i]).toList = [l[i]] from rfl, numOf_snoc]
  congr 1
  rw [List.getD_eq_getElem?_getD, List.getElem?_eq_getElem h]; rfl
theorem numOf_lt : ∀ (n : Nat) (l : List Nat), l.length = n → (∀ b ∈ l, b < 256) → numOf l < 256 ^ n := by
  intro n
  induction n with
  | zero => intro l hl _; cases List.eq_nil_of_length_eq_zero hl; decide
  | succ n ih =>
    intro l hl hb
    have hne : l ≠ [] := by intro h; rw [h] at hl; cases hl
    have e := List.dropLast_concat_getLast hne
    have h1 := ih l.dropLast (by rw [List.length_dropLast]; omega) (fun b h => hb b (List.dropLast_subset l h))
    have h2 := hb _ (List.getLast_mem hne)
    rw [← e, numOf_snoc, Nat.pow_succ]
    omega
def numV (l : List Nat) : Int := wrp .i64 ((numOf l : Nat) : Int)
theorem take_len (r : RdS) (b : List Nat) (n : Nat) : (r.take b n).1.length ≤ n := by unfold RdS.take; split; simp; split; simp; simp [List.length_take]; omega
theorem take_lt {r : RdS} {b : List Nat} {n : Nat} (h : ∀ x ∈ b, x < 256) : ∀ x ∈ (r.take b n).1, x < 256 := by
  unfold RdS.take
  split
  · simp
  · split
    · simp
    · exact fun x hx => h x (List.mem_of_mem_drop (List.mem_of_mem_take hx))
theorem rnum_runs {S : St} {p : Nat} {vb : AV} {b : List Nat} {r : RdS} {n : Int} (hok : Sok S) (h : Rr S p vb b r) (hn : S.n ≤ 1000000000) (hb : b.length ≤ 1000000000) (hlt : ∀ x ∈ b, x < 256) :
    Runs X1 29 [.ptr p 0, .int .i64 n] S fun v S' => v = .int .i64 (numV (r.take b (sizeN n)).1) ∧ Rr S' p vb b (r.take b (sizeN n)).2 ∧ FrP S S' p := by
  have hsz := sizeN_le n
  refine Runs_fn (m := 25) (by kernel_rfl) Tryd.func29 rfl (by kernel_rfl) (by kernel_rfl) ?_
  repeat (
    first
      | refine W_seq ?_
      | refine WO_nil ?_
      | refine V_seq ?_
      | refine W_region ?_
      | refine WO_dst rfl rfl (by kernel_rfl) (by kernel_rfl) ?_
      | refine Ev_move rfl ?_
      | refine Ev_assign rfl ?_)
  refine Ev_call rfl rfl ((size_runs n S).mono ?_)
  rintro _ _ - ⟨rfl, rfl⟩
  repeat (
    refine WO_dst rfl rfl (by kernel_rfl) (by kernel_rfl) ?_)
  refine Ev_call rfl rfl ((take_runs hok h hn hb (by omega)).mono ?_)
  rintro v S1 - ⟨h1, hF1, hv, hbv⟩
  obtain ⟨t, ht⟩ : ∃ t, t = (r.take b (sizeN n)).1 := ⟨_, rfl⟩
  rw [← ht] at hv ⊢
  have htl : t.length ≤ sizeN n := by rw [ht]; exact take_len _ _ _
  have htb : ∀ x ∈ t, x < 256 := by rw [ht]; exact take_lt hlt
  repeat (
    first
      | refine WO_nil ?_
      | refine V_seq ?_
      | refine W_block ?_
      | refine WO_dst rfl rfl (by kernel_rfl) (by kernel_rfl) ?_
      | refine Ev_len rfl rfl rfl rfl rfl hv.len ?_
      | refine Ev_move rfl ?_)
  refine W_inv (fun i : Nat => [(13, .int .i64 ((i : Nat) : Int)), (12, .int .i64 ((t.length : Nat) : Int)), (11, v), (5, .int .u64 ((numOf (t.take i) : Nat) : Int))]) (fun i T => T = S1 ∧ i ≤ t.length) (fun i => t.length - i) ?_ 0 ⟨rfl, Nat.zero_le _⟩ ⟨rfl, rfl, rfl, rfl, trivial⟩
  rintro i T ⟨rfl, hi⟩ back
  have hacc := numOf_lt i (t.take i) (by rw [List.length_take]; omega) (fun x hx => htb x (List.mem_of_mem_take hx))
  have h7 : i < t.length → numOf (t.take i) < 72057594037927936 := fun h => Nat.lt_of_lt_of_le hacc (Nat.pow_le_pow_right (n := 256) (by omega) (show i ≤ 7 by omega))
  have hx : i < t.length → t.getD i 0 < 256 := fun h => by
    rw [List.getD_eq_getElem?_getD, List.getElem?_eq_getElem h]
    exact htb _ (List.getElem_mem h)
  have hsn := fun h => numOf_take (l := t) (i := i) h
  repeat' (
    first
      | refine W_seq ?_
      | refine WO_nil ?_
      | refine V_seq ?_
      | refine W_region ?_
      | refine W_block ?_
      | refine W_skip ?_
      | refine W_exit ?_
      | refine V_block ?_
      | refine V_block_x rfl ?_
      | refine V_seq_x ?_
      | refine V_loop_x ?_
      | refine WO_dst rfl rfl (by kernel_rfl) (by kernel_rfl) ?_
      | (refine Ev_indexAddr_rd rfl rfl rfl rfl rfl hv (by first | omega | (dsimp only; omega)) ?_; intro q hq)
      | refine Ev_load_pt rfl rfl rfl hq (by dsimp only; rw [Nat.mul_one]; exact sbytes_get (by first | omega | (dsimp only; omega))) (veq_int _ _) ?_
      | refine Ev_orN 8 rfl rfl rfl (by first | omega | (dsimp only; omega)) (by first | omega | (dsimp only; omega)) (by simp only [lim]; omega) ?_
      | refine Ev_move rfl ?_
      | refine Ev_assign rfl ?_
      | refine Ev_lssN rfl rfl ?_
      | refine Ev_addN rfl rfl (by simp only [lim]; omega) ?_
      | refine Ev_shlN (m := 8) (q := 256) rfl rfl rfl rfl (by simp only [lim]; omega) ?_
      | refine Ev_convN rfl rfl rfl rfl rfl (by simp only [lim]; omega) ?_
      | (refine W_cond rfl (fun hc => ?_) (fun hc => ?_) <;> (try dsimp only at hc) <;> try (exfalso; first | omega | exact hc rfl)))
  · refine back (i + 1) T _ (by omega) ⟨rfl, by omega⟩ ⟨rfl, rfl, rfl, ?_, trivial⟩
    show some (AV.int .u64 ((numOf (List.take i t) * 256 + t.getD i 0 : Nat) : Int)) = some (AV.int .u64 ((numOf (List.take (i + 1) t) : Nat) : Int))
    rw [hsn (by omega)]
  all_goals
    have hi2 : i = t.length := by omega
    subst hi2
    repeat (
      first
        | refine WO_nil ?_
        | refine V_seq ?_
        | refine W_ret ?_
        | refine WO_dst rfl rfl (by kernel_rfl) (by kernel_rfl) ?_
        | refine Ev_convw (k' := .i64) rfl rfl rfl rfl rfl ?_
        | refine Ev_assign rfl ?_)
    refine V_done rfl rfl ?_
    refine ⟨?_, h1, hF1⟩
    show AV.int .i64 (wrp .i64 ((numOf (t.take t.length) : Nat) : Int)) = AV.int .i64 (numV t)
    rw [List.take_length]; rfl
theorem rbytes_runs {S : St} {p : Nat} {vb : AV} {b : List Nat} {r : RdS} {n : Int} (hok : Sok S) (h : Rr S p vb b r) (hn : S.n + 2 ≤ 1000000000) (hb : b.length ≤ 1000000000) (hm : n < 9223372036854775808) :
    Runs X1 25 [.ptr p 0, .int .i64 n] S fun v S' => ∃ r' l, (l, r') = r.take b n.toNat ∧ Rr S' p vb b r' ∧ (S.n ≤ S'.n ∧ S'.n ≤ S.n + 2 ∧ Sok S' ∧ ∀ c, c ≠ p → c < S.n → S'.h.get c = S.h.get c) ∧ Rd S' v 1 (sbytes l) l.length ∧ ∀ c, blkOf v = some c → S.n ≤ c := by
  have hp : p < S.n := hok _ _ h.cell
  refine Runs_fn (m := 10) (by kernel_rfl) Tryd.func25 rfl (by kernel_rfl) (by kernel_rfl) ?_
  repeat (
    first
      | refine W_seq ?_
      | refine WO_nil ?_
      | refine V_seq ?_
      | refine W_region ?_
      | refine WO_dst rfl rfl (by kernel_rfl) (by kernel_rfl) ?_
      | refine Ev_move rfl ?_
      | refine Ev_assign rfl ?_
      | refine Ev_max rfl rfl rfl ?_)
  rw [show max n 0 = ((n.toNat : Nat) : Int) by omega]
  refine Ev_call rfl rfl ((take_runs hok h (by omega) hb (by omega)).mono ?_)
  rintro v S1 - ⟨h1, hF1, hv, hbv⟩
  obtain ⟨l, r', e⟩ : ∃ l r', r.take b n.toNat = (l, r') := ⟨_, _, rfl⟩
  rw [e] at h1 hv
  dsimp only at h1 hv
  have hll : l.length ≤ b.length := by
    have : l = (r.take b n.toNat).1 := by rw [e]
    rw [this]; unfold RdS.take; split; simp; split; simp; simp [List.length_take]; omega
  have gn := hF1.n
  repeat (
    refine WO_dst rfl rfl (by kernel_rfl) (by kernel_rfl) ?_)
  refine Ev_call rfl rfl ((clone_runs hF1.ok hv (by omega) (by omega)).mono ?_)
  rintro v2 S2 - ⟨hF2, hz, hb2⟩
  have gn2 := hF2.n
  have gl2 := hF2.le
  repeat (
    first
      | refine WO_nil ?_
      | refine V_seq ?_
      | refine W_ret ?_
      | refine WO_dst rfl rfl (by kernel_rfl) (by kernel_rfl) ?_
      | refine Ev_assign rfl ?_)
  refine V_done rfl rfl ?_
  have hok1 := hF1.ok
  refine ⟨r', l, e.symm, ⟨?_, h1.rd.keep (fun c hc => hF2.same c (by simp [blkOf]) (h1.rd.lt hok1 hc)), h1.ne, h1.le⟩, ⟨by omega, by omega, hF2.ok, fun c h3 h4 => ?_⟩, hz.rd, fun c hc => by have := hb2 c hc; omega⟩
  · rw [hF2.same p (by simp [blkOf]) (by omega)]; exact h1.cell
  · rw [hF2.same c (by simp [blkOf]) (by omega), hF1.same c h3]
end Go.Proofs.YtnlfcoojlgdgaaaDoor
/- mutf.Reader's other functions. -/


namespace Go.Proofs.YtnlfcoojlgdgaaaDoor
open GX
set_option maxHeartbeats 8000000
theorem fail_runs {S : St} {p : Nat} {vb : AV} {b : List Nat} {r : RdS} {c : Int} (hok : Sok S) (h : Rr S p vb b r) (hn : S.n ≤ 1000000000) :
    Runs X1 34 [.ptr p 0, .int .i64 c] S fun _ S' => Rr S' p vb b (r.refuse c (r.pos : Int)) ∧ FrP S S' p := by
  refine Runs_fn (m := 11) (by kernel_rfl) Tryd.func34 rfl (by kernel_rfl) (by kernel_rfl) ?_
  repeat (
    first
      | refine W_region ?_
      | refine WO_dst rfl rfl (by kernel_rfl) (by kernel_rfl) ?_
      | refine Ev_load rfl rfl rfl h.cell rfl (veq_int _ _) ?_
      | refine Ev_move rfl ?_
      | refine Ev_nilCheck rfl ?_
      | refine Ev_fieldAddr rfl rfl rfl rfl rfl rfl ?_)
  refine Ev_call rfl rfl ((refuse_runs hok h hn).mono ?_)
  rintro _ S1 - ⟨h1, hF1⟩
  repeat (
    refine WO_nil ?_)
  refine V_done rfl rfl ?_
  exact ⟨h1, hF1⟩
/-- what the end says -/
def RdS.endOf (r : RdS) (b : List Nat) : Int × Int := if r.err ≠ 0 then (r.err, r.at_) else if r.pos < b.length then (11, (r.pos : Int)) else (0, 0)
theorem end_runs {S : St} {p : Nat} {vb : AV} {b : List Nat} {r : RdS} (h : Rr S p vb b r) :
    Runs X1 36 [.ptr p 0] S fun v S' => S' = S ∧ v = .tup [.int .i64 (r.endOf b).1, .int .i64 (r.endOf b).2] := by
  refine Runs_fn (m := 33) (by kernel_rfl) Tryd.func36 rfl (by kernel_rfl) (by kernel_rfl) ?_
  repeat' (
    first
      | refine W_seq ?_
      | refine WO_nil ?_
      | refine V_seq ?_
      | refine W_region ?_
      | refine W_drawn (by kernel_rfl) ?_
      | refine W_block ?_
      | refine W_skip ?_
      | refine W_ret ?_
      | refine V_ret ?_
      | refine V_block ?_
      | refine WO_dst rfl rfl (by kernel_rfl) (by kernel_rfl) ?_
      | refine Ev_load rfl rfl rfl h.cell rfl (veq_int _ _) ?_
      | refine Ev_load rfl rfl rfl h.cell rfl h.rd.self ?_
      | refine Ev_len rfl rfl rfl rfl rfl h.rd.len ?_
      | refine Ev_move rfl ?_
      | refine Ev_assign rfl ?_
      | refine Ev_lssN rfl rfl ?_
      | refine Ev_neq rfl rfl ?_
      | refine Ev_nilCheck rfl ?_
      | refine Ev_fieldAddr rfl rfl rfl rfl rfl rfl ?_
      | (refine W_cond rfl (fun hc => ?_) (fun hc => ?_) <;> (try dsimp only at hc) <;> try (exfalso; first | omega | exact hc rfl)))
  · refine V_done rfl rfl ?_
    refine ⟨rfl, ?_⟩
    unfold RdS.endOf; rw [if_pos (by assumption)]; rfl
  · refine V_done rfl rfl ?_
    refine ⟨rfl, ?_⟩
    unfold RdS.endOf; rw [if_neg (by assumption), if_pos (by assumption)]; rfl
  · refine V_done rfl rfl ?_
    refine ⟨rfl, ?_⟩
    unfold RdS.endOf; rw [if_neg (by assumption), if_neg (by assumption)]; rfl
def RdS.left (r : RdS) (b : List Nat) : Nat := if r.err ≠ 0 then 0 else b.length - r.pos
theorem left_runs {S : St} {p : Nat} {vb : AV} {b : List Nat} {r : RdS} (hb : b.length ≤ 1000000000) (h : Rr S p vb b r) :
    Runs X1 38 [.ptr p 0] S fun v S' => S' = S ∧ v = .int .i64 ((r.left b : Nat) : Int) := by
  have hle := h.le
  refine Runs_fn (m := 18) (by kernel_rfl) Tryd.func38 rfl (by kernel_rfl) (by kernel_rfl) ?_
  repeat' (
    first
      | refine W_seq ?_
      | refine WO_nil ?_
      | refine V_seq ?_
      | refine W_region ?_
      | refine W_drawn (by kernel_rfl) ?_
      | refine W_skip ?_
      | refine W_ret ?_
      | refine V_ret ?_
      | refine WO_dst rfl rfl (by kernel_rfl) (by kernel_rfl) ?_
      | refine Ev_load rfl rfl rfl h.cell rfl (veq_int _ _) ?_
      | refine Ev_load rfl rfl rfl h.cell rfl h.rd.self ?_
      | refine Ev_len rfl rfl rfl rfl rfl h.rd.len ?_
      | refine Ev_move rfl ?_
      | refine Ev_assign rfl ?_
      | refine Ev_neq rfl rfl ?_
      | refine Ev_nilCheck rfl ?_
      | refine Ev_fieldAddr rfl rfl rfl rfl rfl rfl ?_
      | refine Ev_subN rfl rfl (by simp only [lim]; omega) (by first | omega | (dsimp only; done) | (dsimp only; omega)) ?_
      | (refine W_cond rfl (fun hc => ?_) (fun hc => ?_) <;> (try dsimp only at hc) <;> try (exfalso; first | omega | exact hc rfl)))
  · refine V_done rfl rfl ?_
    refine ⟨rfl, ?_⟩
    unfold RdS.left; rw [if_pos (by assumption)]; rfl
  · refine V_done rfl rfl ?_
    refine ⟨rfl, ?_⟩
    unfold RdS.left; rw [if_neg (by assumption)]; rfl
end Go.Proofs.YtnlfcoojlgdgaaaDoor
/- mutf.Reader.Text, NewReader. -/

namespace Go.Proofs.YtnlfcoojlgdgaaaDoor
open GX
set_option maxHeartbeats 8000000
/-- one block is written to, others are made -/
structure FrQ (S S' : St) (p k : Nat) : Prop where
  le : S.n ≤ S'.n
  n : S'.n ≤ S.n + k
  ok : Sok S'
  same : ∀ c, c ≠ p → c < S.n → S'.h.get c = S.h.get c
theorem FrP.q {S S' : St} {p : Nat} (a : FrP S S' p) : FrQ S S' p 0 := ⟨Nat.le_of_eq a.n.symm, Nat.le_of_eq a.n, a.ok, fun c h _ => a.same c h⟩
theorem Fr.q {S S' : St} {p k : Nat} (a : Fr S S' .nils k) : FrQ S S' p k := ⟨a.le, a.n, a.ok, fun c _ h => a.same c (by simp [blkOf]) h⟩
theorem FrQ.trans {S T U : St} {p k k' : Nat} (a : FrQ S T p k) (b : FrQ T U p k') : FrQ S U p (k + k') := by
  refine ⟨Nat.le_trans a.le b.le, by have := a.n; have := b.n; omega, b.ok, fun c h1 h2 => ?_⟩
  have := a.le
  rw [b.same c h1 (by omega), a.same c h1 h2]
theorem Rr.fr {S S' : St} {p : Nat} {vb : AV} {b : List Nat} {r : RdS} {k : Nat} (h : Rr S p vb b r) (hok : Sok S) (a : Fr S S' .nils k) : Rr S' p vb b r :=
  ⟨by rw [a.same p (by simp [blkOf]) (hok _ _ h.cell)]; exact h.cell, h.rd.keep (fun c hc => a.same c (by simp [blkOf]) (h.rd.lt hok hc)), h.ne, h.le⟩
theorem numV_small {l : List Nat} (h : numOf l < 65536) : numV l = ((numOf l : Nat) : Int) := by
  unfold numV
  exact wrp_in (by simp only [inR]; omega)
noncomputable def RdS.text (r : RdS) (b : List Nat) : List Nat × RdS :=
  let x := r.take b 2
  let r2 := if 256 < numOf x.1 then x.2.refuse 3 (x.2.pos : Int) else x.2
  let y := r2.take b (numOf x.1)
  ((decS y.1).getD [], y.2.refuse (if (decS y.1).isSome = true then 0 else 12) (y.2.pos : Int))
theorem rdtext_runs {S : St} {p : Nat} {vb : AV} {b : List Nat} {r : RdS} (hok : Sok S) (h : Rr S p vb b r) (hb : b.length ≤ 1000000000) (hn : S.n ≤ 900000000) (hlt : ∀ x ∈ b, x < 256) :
    Runs X1 31 [.ptr p 0] S fun v S' => v = .str (r.text b).1 ∧ Rr S' p vb b (r.text b).2 ∧ FrQ S S' p 300000 := by
  refine Runs_fn (m := 31) (by kernel_rfl) Tryd.func31 rfl (by kernel_rfl) (by kernel_rfl) ?_
  repeat (
    first
      | refine W_seq ?_
      | refine WO_nil ?_
      | refine V_seq ?_
      | refine W_region ?_
      | refine WO_dst rfl rfl (by kernel_rfl) (by kernel_rfl) ?_
      | refine Ev_move rfl ?_
      | refine Ev_assign rfl ?_)
  refine Ev_call rfl rfl ((rnum_runs hok h (by omega) (by omega) hlt).mono ?_)
  rintro _ S1 - ⟨rfl, h1, hF1⟩
  rw [size2] at h1 ⊢
  have hx2 := take_len r b 2
  have hxb := take_lt (r := r) (n := 2) hlt
  have hnl := numOf_lt _ _ rfl hxb
  have hpw : 256 ^ (r.take b 2).1.length ≤ 65536 := Nat.pow_le_pow_right (n := 256) (by omega) hx2
  rw [numV_small (by omega)]
  obtain ⟨m, hm⟩ : ∃ m, m = numOf (r.take b 2).1 := ⟨_, rfl⟩
  obtain ⟨r1, hr1⟩ : ∃ r1, r1 = (r.take b 2).2 := ⟨_, rfl⟩
  rw [← hm] at hnl ⊢
  rw [← hr1] at h1
  have hn1 := hF1.n
  repeat' (
    first
      | refine W_seq ?_
      | refine WO_nil ?_
      | refine V_seq ?_
      | refine W_region ?_
      | refine W_skip ?_
      | refine WO_dst rfl rfl (by kernel_rfl) (by kernel_rfl) ?_
      | refine Ev_load rfl rfl rfl h1.cell rfl (veq_int _ _) ?_
      | refine Ev_move rfl ?_
      | refine Ev_assign rfl ?_
      | refine Ev_gtrN rfl rfl ?_
      | refine Ev_nilCheck rfl ?_
      | refine Ev_fieldAddr rfl rfl rfl rfl rfl rfl ?_
      | (refine W_cond rfl (fun hc => ?_) (fun hc => ?_) <;> (try dsimp only at hc) <;> try (exfalso; first | omega | exact hc rfl)))
  · refine Ev_call rfl rfl ((refuse_runs hF1.ok h1 (by omega)).mono ?_)
    rintro _ S2 - ⟨h2, hF2⟩
    have hn2 := hF2.n
    repeat (
      first
        | refine W_seq ?_
        | refine WO_nil ?_
        | refine V_seq ?_
        | refine W_region ?_
        | refine WO_dst rfl rfl (by kernel_rfl) (by kernel_rfl) ?_
        | refine Ev_move rfl ?_)
    refine Ev_call rfl rfl ((take_runs hF2.ok h2 (by omega) (by omega) (by omega)).mono ?_)
    rintro v S3 - ⟨h3, hF3, hv3, -⟩
    obtain ⟨u, hu⟩ : ∃ u, u = (RdS.take (r1.refuse 3 (r1.pos : Int)) b m).1 := ⟨_, rfl⟩
    obtain ⟨r3, hr3⟩ : ∃ r3, r3 = (RdS.take (r1.refuse 3 (r1.pos : Int)) b m).2 := ⟨_, rfl⟩
    rw [← hu] at hv3
    rw [← hr3] at h3
    have hul : u.length ≤ 65536 := by have := take_len (r1.refuse 3 (r1.pos : Int)) b m; rw [← hu] at this; omega
    have hub : ∀ x ∈ u, x < 256 := by rw [hu]; exact take_lt hlt
    have hn3 := hF3.n
    repeat (
      refine WO_dst rfl rfl (by kernel_rfl) (by kernel_rfl) ?_)
    refine Ev_call rfl rfl ((dec_runs hF3.ok hv3 hub (by omega) (by omega)).mono ?_)
    rintro _ S4 - ⟨hF4, rfl⟩
    have h4 := h3.fr hF3.ok hF4
    have hn4 := hF4.n
    repeat (
      first
        | refine W_seq ?_
        | refine WO_nil ?_
        | refine V_seq ?_
        | refine W_region ?_
        | refine WO_dst rfl rfl (by kernel_rfl) (by kernel_rfl) ?_
        | refine Ev_load rfl rfl rfl h4.cell rfl (veq_int _ _) ?_
        | refine Ev_move rfl ?_
        | refine Ev_assign rfl ?_
        | refine Ev_extract rfl rfl ?_
        | refine Ev_nilCheck rfl ?_
        | refine Ev_fieldAddr rfl rfl rfl rfl rfl rfl ?_)
    refine Ev_call rfl rfl ((refuse_runs hF4.ok h4 (by omega)).mono ?_)
    rintro _ S5 - ⟨h5, hF5⟩
    repeat (
      first
        | refine W_seq ?_
        | refine WO_nil ?_
        | refine V_seq ?_
        | refine W_region ?_
        | refine W_ret ?_
        | refine WO_dst rfl rfl (by kernel_rfl) (by kernel_rfl) ?_
        | refine Ev_move rfl ?_
        | refine Ev_assign rfl ?_)
    refine V_done rfl rfl ?_
    have e : r.text b = ((decS u).getD [], r3.refuse (if (decS u).isSome = true then 0 else 12) (r3.pos : Int)) := by
      unfold RdS.text; dsimp only; rw [← hm, ← hr1, if_pos hc, ← hu, ← hr3]
    rw [e]
    have hq := (((hF1.trans hF2).trans hF3).q.trans hF4.q).trans hF5.q
    exact ⟨rfl, h5, ⟨hq.le, by have := hq.n; omega, hq.ok, hq.same⟩⟩
  · skip
    refine Ev_call rfl rfl ((take_runs hF1.ok h1 (by omega) (by omega) (by omega)).mono ?_)
    rintro v S3 - ⟨h3, hF3, hv3, -⟩
    obtain ⟨u, hu⟩ : ∃ u, u = (RdS.take r1 b m).1 := ⟨_, rfl⟩
    obtain ⟨r3, hr3⟩ : ∃ r3, r3 = (RdS.take r1 b m).2 := ⟨_, rfl⟩
    rw [← hu] at hv3
    rw [← hr3] at h3
    have hul : u.length ≤ 65536 := by have := take_len r1 b m; rw [← hu] at this; omega
    have hub : ∀ x ∈ u, x < 256 := by rw [hu]; exact take_lt hlt
    have hn3 := hF3.n
    repeat (
      refine WO_dst rfl rfl (by kernel_rfl) (by kernel_rfl) ?_)
    refine Ev_call rfl rfl ((dec_runs hF3.ok hv3 hub (by omega) (by omega)).mono ?_)
    rintro _ S4 - ⟨hF4, rfl⟩
    have h4 := h3.fr hF3.ok hF4
    have hn4 := hF4.n
    repeat (
      first
        | refine W_seq ?_
        | refine WO_nil ?_
        | refine V_seq ?_
        | refine W_region ?_
        | refine WO_dst rfl rfl (by kernel_rfl) (by kernel_rfl) ?_
        | refine Ev_load rfl rfl rfl h4.cell rfl (veq_int _ _) ?_
        | refine Ev_move rfl ?_
        | refine Ev_assign rfl ?_
        | refine Ev_extract rfl rfl ?_
        | refine Ev_nilCheck rfl ?_
        | refine Ev_fieldAddr rfl rfl rfl rfl rfl rfl ?_)
    refine Ev_call rfl rfl ((refuse_runs hF4.ok h4 (by omega)).mono ?_)
    rintro _ S5 - ⟨h5, hF5⟩
    repeat (
      first
        | refine W_seq ?_
        | refine WO_nil ?_
        | refine V_seq ?_
        | refine W_region ?_
        | refine W_ret ?_
        | refine WO_dst rfl rfl (by kernel_rfl) (by kernel_rfl) ?_
        | refine Ev_move rfl ?_
        | refine Ev_assign rfl ?_)
    refine V_done rfl rfl ?_
    have e : r.text b = ((decS u).getD [], r3.refuse (if (decS u).isSome = true then 0 else 12) (r3.pos : Int)) := by
      unfold RdS.text; dsimp only; rw [← hm, ← hr1, if_neg hc, ← hu, ← hr3]
    rw [e]
    have hq := ((hF1.trans hF3).q.trans hF4.q).trans hF5.q
    exact ⟨rfl, h5, ⟨hq.le, by have := hq.n; omega, hq.ok, hq.same⟩⟩
end Go.Proofs.YtnlfcoojlgdgaaaDoor
/- caraferef1.unit: a number that begins at a place. -/

namespace Go.Proofs.YtnlfcoojlgdgaaaDoor
open GX
set_option maxHeartbeats 8000000
def uL (l : List Nat) : Nat × Nat :=
  if 0 < l.getD 0 0 ∧ l.getD 0 0 < 128 then (l.getD 0 0, 1)
  else if l.getD 0 0 / 32 = 6 then
    (if 2 ≤ l.length ∧ l.getD 1 0 / 64 = 2 then (l.getD 0 0 % 32 * 64 + l.getD 1 0 % 64, 2) else (0, 0))
  else if l.getD 0 0 / 16 = 14 then
    (if 3 ≤ l.length ∧ l.getD 1 0 / 64 = 2 ∧ l.getD 2 0 / 64 = 2 then ((l.getD 0 0 % 16 * 64 + l.getD 1 0 % 64) * 64 + l.getD 2 0 % 64, 3) else (0, 0))
  else (0, 0)
theorem getD_drop {l : List Nat} {k i : Nat} : (l.drop k).getD i 0 = l.getD (k + i) 0 := by
  rw [List.getD_eq_getElem?_getD, List.getD_eq_getElem?_getD, List.getElem?_drop]
theorem runit_runs {S : St} {v : AV} {l : List Nat} {k : Nat} (hv : Br S v l) (hb : ∀ c ∈ l, c < 256) (hk : k < l.length) (hl : l.length ≤ 1000000000) :
    Runs X1 48 [v, .int .i64 (k : Int)] S fun r S' => S' = S ∧ r = .tup [.int .i64 (((uL (l.drop k)).1 : Nat) : Int), .int .i64 (((uL (l.drop k)).2 : Nat) : Int)] := by
  have hx : ∀ i, i < l.length → (sbytes l)[i * 1]? = some (.int .u8 ((l.getD i 0 : Nat) : Int)) := by
    intro i hi
    rw [Nat.mul_one, sbytes_get hi]
  have h0 : (l.drop k).getD 0 0 = l.getD k 0 := getD_drop
  have h1 : (l.drop k).getD 1 0 = l.getD (k + 1) 0 := getD_drop
  have h2 : (l.drop k).getD 2 0 = l.getD (k + 2) 0 := getD_drop
  have hdl : (l.drop k).length = l.length - k := List.length_drop ..
  have g0 : l.getD k 0 < 256 := getD_lt hb (by omega)
  have g1 : l.getD (k + 1) 0 < 256 := getD_lt hb (by omega)
  have g2 : l.getD (k + 2) 0 < 256 := getD_lt hb (by omega)
  refine Runs_fn (m := 67) (by kernel_rfl) Tryd.func48 rfl (by kernel_rfl) (by kernel_rfl) ?_
  repeat' (
    first
      | refine W_seq ?_
      | refine WO_nil ?_
      | refine V_seq ?_
      | refine W_region ?_
      | refine W_drawn (by kernel_rfl) ?_
      | refine W_block ?_
      | refine W_scope ?_
      | refine W_skip ?_
      | refine W_ret ?_
      | refine W_exit ?_
      | refine W_label ?_
      | refine V_ret ?_
      | refine V_block ?_
      | refine V_block_x rfl ?_
      | refine V_block_y rfl ?_
      | refine V_seq_x ?_
      | refine V_loop_x ?_
      | refine W_cond_t rfl ?_
      | refine W_cond_f rfl ?_
      | refine WO_dst rfl rfl (by kernel_rfl) (by kernel_rfl) ?_
      | refine WO_no rfl rfl ?_
      | refine WO_guard_t rfl rfl rfl rfl rfl (by kernel_rfl) (by kernel_rfl) ?_
      | refine WO_guard_f rfl rfl rfl rfl rfl rfl (by kernel_rfl) (by kernel_rfl) ?_
      | refine WO_guard_x rfl rfl rfl rfl rfl (by kernel_rfl) (by kernel_rfl) ?_
      | refine Ev_len rfl rfl rfl rfl rfl hv.len ?_
      | (refine Ev_indexAddr_rd rfl rfl rfl rfl rfl hv (by first | omega | (dsimp only; omega)) ?_; intro p hp)
      | refine Ev_load_pt rfl rfl rfl hp (hx _ (by first | omega | (dsimp only; omega))) (veq_int _ _) ?_
      | refine W_loop ?_
      | refine V_loop ?_
      | refine Ev_move rfl ?_
      | refine Ev_assign rfl ?_
      | refine Ev_extract rfl rfl ?_
      | refine Ev_pick_t rfl rfl rfl ?_
      | refine Ev_pick_f rfl rfl rfl ?_
      | refine Ev_lssN rfl rfl ?_
      | refine Ev_leqN rfl rfl ?_
      | refine Ev_gtrN rfl rfl ?_
      | refine Ev_geqN rfl rfl ?_
      | refine Ev_eqlN rfl rfl ?_
      | refine Ev_neqN rfl rfl ?_
      | refine Ev_lss rfl rfl ?_
      | refine Ev_leq rfl rfl ?_
      | refine Ev_gtr rfl rfl ?_
      | refine Ev_geq rfl rfl ?_
      | refine Ev_eql rfl rfl ?_
      | refine Ev_neq rfl rfl ?_
      | refine Ev_seql rfl rfl ?_
      | refine Ev_sneq rfl rfl ?_
      | refine Ev_not rfl ?_
      | refine Ev_notb rfl ?_
      | refine Ev_nilCheck rfl ?_
      | refine Ev_ptr_eql rfl rfl rfl rfl ?_
      | refine Ev_ptr_neq rfl rfl rfl rfl ?_
      | refine Ev_fieldAddr rfl rfl rfl rfl rfl rfl ?_
      | refine Ev_len_str rfl rfl rfl rfl rfl ?_
      | refine Ev_len rfl rfl rfl rfl rfl rfl ?_
      | refine Ev_min rfl rfl rfl ?_
      | refine Ev_max rfl rfl rfl ?_
      | refine Ev_indexAddr rfl rfl rfl rfl rfl (by first | omega | (dsimp only; done) | (dsimp only; omega)) ?_
      | refine Ev_makeFunc rfl rfl ?_
      | refine Ev_conv_str rfl rfl rfl rfl rfl ?_
      | refine Ev_addN rfl rfl (by simp only [lim]; omega) ?_
      | refine Ev_subN rfl rfl (by simp only [lim]; omega) (by first | omega | (dsimp only; done) | (dsimp only; omega)) ?_
      | refine Ev_mulN rfl rfl (by simp only [lim]; omega) ?_
      | refine Ev_add rfl rfl (by simp only [inR]; omega) ?_
      | refine Ev_sub rfl rfl (by simp only [inR]; omega) ?_
      | refine Ev_mul rfl rfl (by simp only [inR]; omega) ?_
      | refine Ev_shrN (m := 6) (q := 64) rfl rfl rfl rfl ?_
      | refine Ev_shrN (m := 12) (q := 4096) rfl rfl rfl rfl ?_
      | refine Ev_shrN (m := 10) (q := 1024) rfl rfl rfl rfl ?_
      | refine Ev_shrN (m := 8) (q := 256) rfl rfl rfl rfl ?_
      | refine Ev_shrN (m := 4) (q := 16) rfl rfl rfl rfl ?_
      | refine Ev_shrN (m := 5) (q := 32) rfl rfl rfl rfl ?_
      | refine Ev_shrN (m := 7) (q := 128) rfl rfl rfl rfl ?_
      | refine Ev_shrN (m := 3) (q := 8) rfl rfl rfl rfl ?_
      | refine Ev_shrN (m := 18) (q := 262144) rfl rfl rfl rfl ?_
      | refine Ev_shlN (m := 6) (q := 64) rfl rfl rfl rfl (by simp only [lim]; omega) ?_
      | refine Ev_shlN (m := 12) (q := 4096) rfl rfl rfl rfl (by simp only [lim]; omega) ?_
      | refine Ev_shlN (m := 10) (q := 1024) rfl rfl rfl rfl (by simp only [lim]; omega) ?_
      | refine Ev_shlN (m := 8) (q := 256) rfl rfl rfl rfl (by simp only [lim]; omega) ?_
      | refine Ev_andN 3 8 rfl rfl rfl rfl (by simp only [lim]; omega) (by simp only [lim]; omega) ?_
      | refine Ev_andN 4 16 rfl rfl rfl rfl (by simp only [lim]; omega) (by simp only [lim]; omega) ?_
      | refine Ev_andN 5 32 rfl rfl rfl rfl (by simp only [lim]; omega) (by simp only [lim]; omega) ?_
      | refine Ev_andN 6 64 rfl rfl rfl rfl (by simp only [lim]; omega) (by simp only [lim]; omega) ?_
      | refine Ev_andN 10 1024 rfl rfl rfl rfl (by simp only [lim]; omega) (by simp only [lim]; omega) ?_
      | refine Ev_orN 4 rfl rfl rfl (by first | omega | (dsimp only; done) | (dsimp only; omega)) (by first | omega | (dsimp only; done) | (dsimp only; omega)) (by simp only [lim]; omega) ?_
      | refine Ev_orN 5 rfl rfl rfl (by first | omega | (dsimp only; done) | (dsimp only; omega)) (by first | omega | (dsimp only; done) | (dsimp only; omega)) (by simp only [lim]; omega) ?_
      | refine Ev_orN 6 rfl rfl rfl (by first | omega | (dsimp only; done) | (dsimp only; omega)) (by first | omega | (dsimp only; done) | (dsimp only; omega)) (by simp only [lim]; omega) ?_
      | refine Ev_orN 10 rfl rfl rfl (by first | omega | (dsimp only; done) | (dsimp only; omega)) (by first | omega | (dsimp only; done) | (dsimp only; omega)) (by simp only [lim]; omega) ?_
      | refine Ev_orN 12 rfl rfl rfl (by first | omega | (dsimp only; done) | (dsimp only; omega)) (by first | omega | (dsimp only; done) | (dsimp only; omega)) (by simp only [lim]; omega) ?_
      | refine Ev_orN 16 rfl rfl rfl (by first | omega | (dsimp only; done) | (dsimp only; omega)) (by first | omega | (dsimp only; done) | (dsimp only; omega)) (by simp only [lim]; omega) ?_
      | refine Ev_convN rfl rfl rfl rfl rfl (by simp only [lim]; omega) ?_
      | refine Ev_and8 rfl rfl (by first | omega | (dsimp only; done) | (dsimp only; omega)) (by first | omega | (dsimp only; done) | (dsimp only; omega)) (land_192 (by first | omega | (dsimp only; done) | (dsimp only; omega))) (by first | omega | (dsimp only; done) | (dsimp only; omega)) ?_
      | refine Ev_and8 rfl rfl (by first | omega | (dsimp only; done) | (dsimp only; omega)) (by first | omega | (dsimp only; done) | (dsimp only; omega)) (land_224 (by first | omega | (dsimp only; done) | (dsimp only; omega))) (by first | omega | (dsimp only; done) | (dsimp only; omega)) ?_
      | refine Ev_and8 rfl rfl (by first | omega | (dsimp only; done) | (dsimp only; omega)) (by first | omega | (dsimp only; done) | (dsimp only; omega)) (land_240 (by first | omega | (dsimp only; done) | (dsimp only; omega))) (by first | omega | (dsimp only; done) | (dsimp only; omega)) ?_
      | refine Ev_shr rfl rfl rfl rfl ?_
      | refine Ev_conv rfl rfl rfl rfl rfl (by simp only [inR]; omega) ?_
      | refine Ev_conv8 rfl rfl rfl rfl rfl ?_
      | (refine WO_guard_dt rfl rfl rfl rfl rfl (by kernel_rfl) (by kernel_rfl) (fun hg => ?_) (fun hg => ?_) <;> (try dsimp only at hg) <;> try (exfalso; first | omega | exact hg rfl))
      | (refine WO_guard_df rfl rfl rfl rfl rfl (by kernel_rfl) (by kernel_rfl) (fun hg => ?_) (fun hg => ?_) <;> (try dsimp only at hg) <;> try (exfalso; first | omega | exact hg rfl))
      | (refine W_cond rfl (fun hc => ?_) (fun hc => ?_) <;> (try dsimp only at hc) <;> try (exfalso; first | omega | exact hc rfl)))
  all_goals
    refine V_done rfl rfl ?_
    refine ⟨rfl, ?_⟩
    try simp only [show k + (1 + 1) = k + 2 from rfl] at *
    unfold uL
    rw [h0, h1, h2, hdl]
    (repeat' split) <;> first | rfl | (exfalso; omega)
end Go.Proofs.YtnlfcoojlgdgaaaDoor
/- caraferef1.Decode: what it answers. -/


namespace Go.Proofs.YtnlfcoojlgdgaaaDoor
open GX
set_option maxHeartbeats 8000000
theorem uL_le {l : List Nat} (h : l ≠ []) : (uL l).2 ≤ l.length := by
  have : 0 < l.length := List.length_pos_iff.2 h
  unfold uL; (repeat' split) <;> dsimp only <;> omega
theorem uL_lt {l : List Nat} (h : ∀ c ∈ l, c < 256) : (uL l).1 < 65536 := by
  have h0 : l.getD 0 0 < 256 := getD_lt h (by omega)
  unfold uL; (repeat' split) <;> dsimp only <;> omega
def rl (l : List Nat) (h : Option Nat) : Option (List Nat) :=
  if _h : l = [] then (if h.isSome = true then none else some [])
  else if _h0 : (uL l).2 = 0 then none
  else if 56320 ≤ (uL l).1 ∧ (uL l).1 < 57344 ∧ h.isSome = true then (rl (l.drop (uL l).2) none).map (runeL (65536 + (h.getD 0 - 55296) * 1024 + ((uL l).1 - 56320)) ++ ·)
  else if h.isSome = true ∨ (56320 ≤ (uL l).1 ∧ (uL l).1 < 57344) then none
  else if 55296 ≤ (uL l).1 ∧ (uL l).1 < 56320 then rl (l.drop (uL l).2) (some (uL l).1)
  else (rl (l.drop (uL l).2) none).map (runeL (uL l).1 ++ ·)
termination_by l.length
decreasing_by
  all_goals
    have : 0 < l.length := List.length_pos_iff.2 _h
    simp only [List.length_drop]
    omega
theorem u_unit {r : Nat} (h : r < 65536) (t : List Nat) : uL (unitL r ++ t) = (r, (unitL r).length) := by
  unfold unitL
  split
  · rename_i h1
    show uL (r :: t) = _
    unfold uL
    rw [if_pos (by simp; omega)]; rfl
  · split
    · rename_i h1 h2
      show uL ((192 + r / 64) :: (128 + r % 64) :: t) = _
      unfold uL
      rw [if_neg (by simp; omega), if_pos (by simp; omega), if_pos (by simp; omega)]
      simp; omega
    · show uL ((224 + r / 4096) :: (128 + r / 64 % 64) :: (128 + r % 64) :: t) = _
      unfold uL
      rw [if_neg (by simp; omega), if_neg (by simp; omega), if_pos (by simp; omega), if_pos (by simp; omega)]
      simp; omega
theorem rl_enc1 {c : Nat} (h : okR c) (t : List Nat) : rl (enc1 c ++ t) none = (rl t none).map (runeL c ++ ·) := by
  unfold okR at h
  unfold enc1
  by_cases hc : 65535 < c
  · obtain ⟨A, hA⟩ : ∃ A, A = 55296 + (c - 65536) / 1024 := ⟨_, rfl⟩
    obtain ⟨B, hB⟩ : ∃ B, B = 56320 + (c - 65536) % 1024 := ⟨_, rfl⟩
    have he : 65536 + (A - 55296) * 1024 + (B - 56320) = c := by omega
    have l1 : (unitL A).length = 3 := by unfold unitL; rw [if_neg (by omega), if_neg (by omega)]; rfl
    have l2 : (unitL B).length = 3 := by unfold unitL; rw [if_neg (by omega), if_neg (by omega)]; rfl
    have o1 := u_unit (r := A) (by omega) (unitL B ++ t)
    have o2 := u_unit (r := B) (by omega) t
    rw [if_pos hc, ← hA, ← hB, List.append_assoc, rl, dif_neg (by simp [unitL_ne]), o1]
    dsimp only
    rw [dif_neg (by omega), if_neg (by simp), if_neg (by simp; omega), if_pos (by omega), List.drop_left, rl, dif_neg (by simp [unitL_ne]), o2]
    dsimp only
    rw [dif_neg (by omega), if_pos ⟨by omega, by omega, rfl⟩, List.drop_left]
    simp only [Option.getD_some]
    rw [he]
  · have o1 := u_unit (r := c) (by omega) t
    rw [if_neg hc, rl, dif_neg (by simp [unitL_ne]), o1]
    dsimp only
    have : 0 < (unitL c).length := List.length_pos_iff.2 (unitL_ne c)
    rw [dif_neg (by omega), if_neg (by simp), if_neg (by simp; omega), if_neg (by omega), List.drop_left]
theorem rl_encs {cs : List Nat} (h : ∀ c ∈ cs, okR c) : rl (cs.flatMap enc1) none = some (txt cs) := by
  induction cs with
  | nil => rw [List.flatMap_nil, rl]; rfl
  | cons c cs ih =>
    show rl (enc1 c ++ cs.flatMap enc1) none = _
    rw [rl_enc1 (h c (by simp)), ih fun d hd => h d (by simp [hd])]; rfl
theorem norm_of {z : List Nat} (hb : ∀ b ∈ z, b < 256) (h : vS z = true) : normS z = z := norm_of_valid _ (Nat.le_refl _) hb h
/-- the reference decodes what mutf decodes -/
theorem ref_dec {l : List Nat} (hb : ∀ b ∈ l, b < 256) {z : List Nat} (hz : rl l none = some z) (hzb : ∀ b ∈ z, b < 256) : decS l = if vS z = true ∧ encS z = l then some z else none := by
  split
  · rename_i h
    obtain ⟨h1, h2⟩ := h
    have := dec_norm z
    rw [norm_of hzb h1, h2] at this
    exact this
  · rename_i h
    cases hd : decS l with
    | none => rfl
    | some u =>
      exfalso
      obtain ⟨cs, k1, k2, k3⟩ := dec_back _ (Nat.le_refl _) hb hd
      have := rl_encs k1
      rw [← k3, hz] at this
      cases this
      obtain ⟨e1, e2, _⟩ := dec_then hb hd
      subst k2
      exact h ⟨e1, e2⟩
theorem ref_none {l : List Nat} (hb : ∀ b ∈ l, b < 256) (hz : rl l none = none) : decS l = none := by
  cases hd : decS l with
  | none => rfl
  | some u =>
    exfalso
    obtain ⟨cs, k1, k2, k3⟩ := dec_back _ (Nat.le_refl _) hb hd
    have := rl_encs k1
    rw [← k3, hz] at this
    cases this
structure RDecR (S : St) (l : List Nat) (r : AV) (S' : St) : Prop where
  fr : Fr S S' .nils (16 * l.length + 2)
  out : r = .tup [.str ((decS l).getD []), .int .i64 (if (decS l).isSome = true then 0 else 12)]
def hI : Option Nat → Int
  | none => -1
  | some m => (m : Int)
structure RDecI (S : St) (l : List Nat) (a : Nat × Option Nat × List Nat) (T : St) : Prop where
  same : T = S
  le : a.1 ≤ l.length
  eq : (rl (l.drop a.1) a.2.1).map (a.2.2 ++ ·) = rl l none
  hi : ∀ m, a.2.1 = some m → 55296 ≤ m ∧ m < 56320
  len : a.2.2.length ≤ 4 * a.1
  lt : ∀ c ∈ a.2.2, c < 256
theorem rdec_runs {S : St} {v : AV} {l : List Nat} (hok : Sok S) (hv : Br S v l) (hb : ∀ c ∈ l, c < 256) (hl : l.length ≤ 10000000) (hn : S.n ≤ 100000000) : Runs X1 14 [v] S (RDecR S l) := by
  refine Runs_fn (m := 88) (by kernel_rfl) Tryd.func14 rfl (by kernel_rfl) (by kernel_rfl) ?_
  repeat (
    first
      | refine W_seq ?_
      | refine WO_nil ?_
      | refine V_seq ?_
      | refine W_region ?_
      | refine W_drawn (by kernel_rfl) ?_
      | refine W_block ?_
      | refine W_scope ?_
      | refine W_skip ?_
      | refine W_ret ?_
      | refine W_exit ?_
      | refine W_label ?_
      | refine V_ret ?_
      | refine V_block ?_
      | refine V_block_x rfl ?_
      | refine V_block_y rfl ?_
      | refine V_seq_x ?_
      | refine V_loop_x ?_
      | refine W_cond_t rfl ?_
      | refine W_cond_f rfl ?_
      | refine WO_dst rfl rfl (by kernel_rfl) (by kernel_rfl) ?_
      | refine WO_no rfl rfl ?_
      | refine WO_guard_t rfl rfl rfl rfl rfl (by kernel_rfl) (by kernel_rfl) ?_
      | refine WO_guard_f rfl rfl rfl rfl rfl rfl (by kernel_rfl) (by kernel_rfl) ?_
      | refine WO_guard_x rfl rfl rfl rfl rfl (by kernel_rfl) (by kernel_rfl) ?_
      | refine Ev_move rfl ?_
      | refine Ev_assign rfl ?_
      | refine Ev_extract rfl rfl ?_
      | refine Ev_pick_t rfl rfl rfl ?_
      | refine Ev_pick_f rfl rfl rfl ?_
      | refine Ev_lssN rfl rfl ?_
      | refine Ev_leqN rfl rfl ?_
      | refine Ev_gtrN rfl rfl ?_
      | refine Ev_geqN rfl rfl ?_
      | refine Ev_eqlN rfl rfl ?_
      | refine Ev_neqN rfl rfl ?_
      | refine Ev_lss rfl rfl ?_
      | refine Ev_leq rfl rfl ?_
      | refine Ev_gtr rfl rfl ?_
      | refine Ev_geq rfl rfl ?_
      | refine Ev_eql rfl rfl ?_
      | refine Ev_neq rfl rfl ?_
      | refine Ev_seql rfl rfl ?_
      | refine Ev_sneq rfl rfl ?_
      | refine Ev_not rfl ?_
      | refine Ev_notb rfl ?_
      | refine Ev_nilCheck rfl ?_
      | refine Ev_ptr_eql rfl rfl rfl rfl ?_
      | refine Ev_ptr_neq rfl rfl rfl rfl ?_
      | refine Ev_fieldAddr rfl rfl rfl rfl rfl rfl ?_
      | refine Ev_len_str rfl rfl rfl rfl rfl ?_
      | refine Ev_len rfl rfl rfl rfl rfl rfl ?_
      | refine Ev_min rfl rfl rfl ?_
      | refine Ev_max rfl rfl rfl ?_
      | refine Ev_indexAddr rfl rfl rfl rfl rfl (by first | omega | (dsimp only; done) | (dsimp only; omega)) ?_
      | refine Ev_makeFunc rfl rfl ?_
      | refine Ev_conv_str rfl rfl rfl rfl rfl ?_
      | refine Ev_addN rfl rfl (by simp only [lim]; omega) ?_
      | refine Ev_subN rfl rfl (by simp only [lim]; omega) (by first | omega | (dsimp only; done) | (dsimp only; omega)) ?_
      | refine Ev_mulN rfl rfl (by simp only [lim]; omega) ?_
      | refine Ev_add rfl rfl (by simp only [inR]; omega) ?_
      | refine Ev_sub rfl rfl (by simp only [inR]; omega) ?_
      | refine Ev_mul rfl rfl (by simp only [inR]; omega) ?_
      | refine Ev_shrN (m := 6) (q := 64) rfl rfl rfl rfl ?_
      | refine Ev_shrN (m := 12) (q := 4096) rfl rfl rfl rfl ?_
      | refine Ev_shrN (m := 10) (q := 1024) rfl rfl rfl rfl ?_
      | refine Ev_shrN (m := 8) (q := 256) rfl rfl rfl rfl ?_
      | refine Ev_shrN (m := 4) (q := 16) rfl rfl rfl rfl ?_
      | refine Ev_shrN (m := 5) (q := 32) rfl rfl rfl rfl ?_
      | refine Ev_shrN (m := 7) (q := 128) rfl rfl rfl rfl ?_
      | refine Ev_shrN (m := 3) (q := 8) rfl rfl rfl rfl ?_
      | refine Ev_shrN (m := 18) (q := 262144) rfl rfl rfl rfl ?_
      | refine Ev_shlN (m := 6) (q := 64) rfl rfl rfl rfl (by simp only [lim]; omega) ?_
      | refine Ev_shlN (m := 12) (q := 4096) rfl rfl rfl rfl (by simp only [lim]; omega) ?_
      | refine Ev_shlN (m := 10) (q := 1024) rfl rfl rfl rfl (by simp only [lim]; omega) ?_
      | refine Ev_shlN (m := 8) (q := 256) rfl rfl rfl rfl (by simp only [lim]; omega) ?_
      | refine Ev_andN 3 8 rfl rfl rfl rfl (by simp only [lim]; omega) (by simp only [lim]; omega) ?_
      | refine Ev_andN 4 16 rfl rfl rfl rfl (by simp only [lim]; omega) (by simp only [lim]; omega) ?_
      | refine Ev_andN 5 32 rfl rfl rfl rfl (by simp only [lim]; omega) (by simp only [lim]; omega) ?_
      | refine Ev_andN 6 64 rfl rfl rfl rfl (by simp only [lim]; omega) (by simp only [lim]; omega) ?_
      | refine Ev_andN 10 1024 rfl rfl rfl rfl (by simp only [lim]; omega) (by simp only [lim]; omega) ?_
      | refine Ev_orN 4 rfl rfl rfl (by first | omega | (dsimp only; done) | (dsimp only; omega)) (by first | omega | (dsimp only; done) | (dsimp only; omega)) (by simp only [lim]; omega) ?_
      | refine Ev_orN 5 rfl rfl rfl (by first | omega | (dsimp only; done) | (dsimp only; omega)) (by first | omega | (dsimp only; done) | (dsimp only; omega)) (by simp only [lim]; omega) ?_
      | refine Ev_orN 6 rfl rfl rfl (by first | omega | (dsimp only; done) | (dsimp only; omega)) (by first | omega | (dsimp only; done) | (dsimp only; omega)) (by simp only [lim]; omega) ?_
      | refine Ev_orN 10 rfl rfl rfl (by first | omega | (dsimp only; done) | (dsimp only; omega)) (by first | omega | (dsimp only; done) | (dsimp only; omega)) (by simp only [lim]; omega) ?_
      | refine Ev_orN 12 rfl rfl rfl (by first | omega | (dsimp only; done) | (dsimp only; omega)) (by first | omega | (dsimp only; done) | (dsimp only; omega)) (by simp only [lim]; omega) ?_
      | refine Ev_orN 16 rfl rfl rfl (by first | omega | (dsimp only; done) | (dsimp only; omega)) (by first | omega | (dsimp only; done) | (dsimp only; omega)) (by simp only [lim]; omega) ?_
      | refine Ev_convN rfl rfl rfl rfl rfl (by simp only [lim]; omega) ?_
      | refine Ev_and8 rfl rfl (by first | omega | (dsimp only; done) | (dsimp only; omega)) (by first | omega | (dsimp only; done) | (dsimp only; omega)) (land_192 (by first | omega | (dsimp only; done) | (dsimp only; omega))) (by first | omega | (dsimp only; done) | (dsimp only; omega)) ?_
      | refine Ev_and8 rfl rfl (by first | omega | (dsimp only; done) | (dsimp only; omega)) (by first | omega | (dsimp only; done) | (dsimp only; omega)) (land_224 (by first | omega | (dsimp only; done) | (dsimp only; omega))) (by first | omega | (dsimp only; done) | (dsimp only; omega)) ?_
      | refine Ev_and8 rfl rfl (by first | omega | (dsimp only; done) | (dsimp only; omega)) (by first | omega | (dsimp only; done) | (dsimp only; omega)) (land_240 (by first | omega | (dsimp only; done) | (dsimp only; omega))) (by first | omega | (dsimp only; done) | (dsimp only; omega)) ?_
      | refine Ev_shr rfl rfl rfl rfl ?_
      | refine Ev_conv rfl rfl rfl rfl rfl (by simp only [inR]; omega) ?_
      | refine Ev_conv8 rfl rfl rfl rfl rfl ?_)
  refine W_inv (fun a : Nat × Option Nat × List Nat => [(6, .int .i64 ((a.1 : Nat) : Int)), (0, v), (4, .str a.2.2), (5, .int .i64 (hI a.2.1))]) (RDecI S l) (fun a => l.length - a.1) ?_ (0, none, []) ?_ ⟨rfl, rfl, rfl, rfl, trivial⟩
  · rintro ⟨k, h, acc⟩ T ⟨rfl, hle, heq, hhi, hlen, hlt⟩ back
    dsimp only at hle heq hhi hlen back
    have back' : ∀ (k2 : Nat) (h2 : Option Nat) (acc2 : List Nat) (l' : L), k < k2 → RDecI T l (k2, h2, acc2) T → sub [(6, .int .i64 ((k2 : Nat) : Int)), (0, v), (4, .str acc2), (5, .int .i64 (hI h2))] l' → _ := fun k2 h2 acc2 l' hk hI0 hs => back (k2, h2, acc2) T l' (by have := hI0.le; dsimp only at *; omega) hI0 hs
    by_cases hk : k < l.length
    · obtain ⟨n, w, hnw⟩ : ∃ n w, uL (l.drop k) = (n, w) := ⟨_, _, rfl⟩
      have hne : l.drop k ≠ [] := by intro h; rw [List.drop_eq_nil_iff] at h; omega
      have hbd : ∀ c ∈ l.drop k, c < 256 := fun c h => hb c (List.mem_of_mem_drop h)
      have hw : w ≤ l.length - k := by have := uL_le hne; rw [hnw, List.length_drop] at this; exact this
      have hn6 : n < 65536 := by have := uL_lt hbd; rw [hnw] at this; exact this
      have hrl := rl.eq_1 (l.drop k) h
      rw [dif_neg hne, hnw] at hrl
      dsimp only at hrl
      cases h with
      | none =>
        show W X1 88 _ _ _ [(6, .int .i64 ((k : Nat) : Int)), (0, v), (4, .str acc), (5, .int .i64 (-1))] T
        repeat' (
          first
            | refine W_seq ?_
            | refine WO_nil ?_
            | refine V_seq ?_
            | refine W_region ?_
            | refine W_drawn (by kernel_rfl) ?_
            | refine W_block ?_
            | refine W_scope ?_
            | refine W_skip ?_
            | refine W_ret ?_
            | refine W_exit ?_
            | refine W_label ?_
            | refine V_ret ?_
            | refine V_block ?_
            | refine V_block_x rfl ?_
            | refine V_block_y rfl ?_
            | refine V_seq_x ?_
            | refine V_loop_x ?_
            | refine W_cond_t rfl ?_
            | refine W_cond_f rfl ?_
            | refine WO_dst rfl rfl (by kernel_rfl) (by kernel_rfl) ?_
            | refine WO_no rfl rfl ?_
            | refine WO_guard_t rfl rfl rfl rfl rfl (by kernel_rfl) (by kernel_rfl) ?_
            | refine WO_guard_f rfl rfl rfl rfl rfl rfl (by kernel_rfl) (by kernel_rfl) ?_
            | refine WO_guard_x rfl rfl rfl rfl rfl (by kernel_rfl) (by kernel_rfl) ?_
            | refine Ev_len rfl rfl rfl rfl rfl hv.len ?_
            | (refine Ev_call rfl rfl ((runit_runs hv hb hk (by omega)).mono ?_); rintro _ _ - ⟨rfl, rfl⟩; rw [hnw]; dsimp only)
            | refine Ev_move rfl ?_
            | refine Ev_assign rfl ?_
            | refine Ev_extract rfl rfl ?_
            | refine Ev_pick_t rfl rfl rfl ?_
            | refine Ev_pick_f rfl rfl rfl ?_
            | refine Ev_lssN rfl rfl ?_
            | refine Ev_leqN rfl rfl ?_
            | refine Ev_gtrN rfl rfl ?_
            | refine Ev_geqN rfl rfl ?_
            | refine Ev_eqlN rfl rfl ?_
            | refine Ev_neqN rfl rfl ?_
            | refine Ev_lss rfl rfl ?_
            | refine Ev_leq rfl rfl ?_
            | refine Ev_gtr rfl rfl ?_
            | refine Ev_geq rfl rfl ?_
            | refine Ev_eql rfl rfl ?_
            | refine Ev_neq rfl rfl ?_
            | refine Ev_seql rfl rfl ?_
            | refine Ev_sneq rfl rfl ?_
            | refine Ev_not rfl ?_
            | refine Ev_notb rfl ?_
            | refine Ev_nilCheck rfl ?_
            | refine Ev_ptr_eql rfl rfl rfl rfl ?_
            | refine Ev_ptr_neq rfl rfl rfl rfl ?_
            | refine Ev_fieldAddr rfl rfl rfl rfl rfl rfl ?_
            | refine Ev_len_str rfl rfl rfl rfl rfl ?_
            | refine Ev_len rfl rfl rfl rfl rfl rfl ?_
            | refine Ev_min rfl rfl rfl ?_
            | refine Ev_max rfl rfl rfl ?_
            | refine Ev_indexAddr rfl rfl rfl rfl rfl (by first | omega | (dsimp only; done) | (dsimp only; omega)) ?_
            | refine Ev_makeFunc rfl rfl ?_
            | refine Ev_conv_str rfl rfl rfl rfl rfl ?_
            | refine Ev_addN rfl rfl (by simp only [lim]; omega) ?_
            | refine Ev_subN rfl rfl (by simp only [lim]; omega) (by first | omega | (dsimp only; done) | (dsimp only; omega)) ?_
            | refine Ev_mulN rfl rfl (by simp only [lim]; omega) ?_
            | refine Ev_add rfl rfl (by simp only [inR]; omega) ?_
            | refine Ev_sub rfl rfl (by simp only [inR]; omega) ?_
            | refine Ev_mul rfl rfl (by simp only [inR]; omega) ?_
            | refine Ev_shrN (m := 6) (q := 64) rfl rfl rfl rfl ?_
            | refine Ev_shrN (m := 12) (q := 4096) rfl rfl rfl rfl ?_
            | refine Ev_shrN (m := 10) (q := 1024) rfl rfl rfl rfl ?_
            | refine Ev_shrN (m := 8) (q := 256) rfl rfl rfl rfl ?_
            | refine Ev_shrN (m := 4) (q := 16) rfl rfl rfl rfl ?_
            | refine Ev_shrN (m := 5) (q := 32) rfl rfl rfl rfl ?_
            | refine Ev_shrN (m := 7) (q := 128) rfl rfl rfl rfl ?_
            | refine Ev_shrN (m := 3) (q := 8) rfl rfl rfl rfl ?_
            | refine Ev_shrN (m := 18) (q := 262144) rfl rfl rfl rfl ?_
            | refine Ev_shlN (m := 6) (q := 64) rfl rfl rfl rfl (by simp only [lim]; omega) ?_
            | refine Ev_shlN (m := 12) (q := 4096) rfl rfl rfl rfl (by simp only [lim]; omega) ?_
            | refine Ev_shlN (m := 10) (q := 1024) rfl rfl rfl rfl (by simp only [lim]; omega) ?_
            | refine Ev_shlN (m := 8) (q := 256) rfl rfl rfl rfl (by simp only [lim]; omega) ?_
            | refine Ev_andN 3 8 rfl rfl rfl rfl (by simp only [lim]; omega) (by simp only [lim]; omega) ?_
            | refine Ev_andN 4 16 rfl rfl rfl rfl (by simp only [lim]; omega) (by simp only [lim]; omega) ?_
            | refine Ev_andN 5 32 rfl rfl rfl rfl (by simp only [lim]; omega) (by simp only [lim]; omega) ?_
            | refine Ev_andN 6 64 rfl rfl rfl rfl (by simp only [lim]; omega) (by simp only [lim]; omega) ?_
            | refine Ev_andN 10 1024 rfl rfl rfl rfl (by simp only [lim]; omega) (by simp only [lim]; omega) ?_
            | refine Ev_orN 4 rfl rfl rfl (by first | omega | (dsimp only; done) | (dsimp only; omega)) (by first | omega | (dsimp only; done) | (dsimp only; omega)) (by simp only [lim]; omega) ?_
            | refine Ev_orN 5 rfl rfl rfl (by first | omega | (dsimp only; done) | (dsimp only; omega)) (by first | omega | (dsimp only; done) | (dsimp only; omega)) (by simp only [lim]; omega) ?_
            | refine Ev_orN 6 rfl rfl rfl (by first | omega | (dsimp only; done) | (dsimp only; omega)) (by first | omega | (dsimp only; done) | (dsimp only; omega)) (by simp only [lim]; omega) ?_
            | refine Ev_orN 10 rfl rfl rfl (by first | omega | (dsimp only; done) | (dsimp only; omega)) (by first | omega | (dsimp only; done) | (dsimp only; omega)) (by simp only [lim]; omega) ?_
            | refine Ev_orN 12 rfl rfl rfl (by first | omega | (dsimp only; done) | (dsimp only; omega)) (by first | omega | (dsimp only; done) | (dsimp only; omega)) (by simp only [lim]; omega) ?_
            | refine Ev_orN 16 rfl rfl rfl (by first | omega | (dsimp only; done) | (dsimp only; omega)) (by first | omega | (dsimp only; done) | (dsimp only; omega)) (by simp only [lim]; omega) ?_
            | refine Ev_convN rfl rfl rfl rfl rfl (by simp only [lim]; omega) ?_
            | refine Ev_and8 rfl rfl (by first | omega | (dsimp only; done) | (dsimp only; omega)) (by first | omega | (dsimp only; done) | (dsimp only; omega)) (land_192 (by first | omega | (dsimp only; done) | (dsimp only; omega))) (by first | omega | (dsimp only; done) | (dsimp only; omega)) ?_
            | refine Ev_and8 rfl rfl (by first | omega | (dsimp only; done) | (dsimp only; omega)) (by first | omega | (dsimp only; done) | (dsimp only; omega)) (land_224 (by first | omega | (dsimp only; done) | (dsimp only; omega))) (by first | omega | (dsimp only; done) | (dsimp only; omega)) ?_
            | refine Ev_and8 rfl rfl (by first | omega | (dsimp only; done) | (dsimp only; omega)) (by first | omega | (dsimp only; done) | (dsimp only; omega)) (land_240 (by first | omega | (dsimp only; done) | (dsimp only; omega))) (by first | omega | (dsimp only; done) | (dsimp only; omega)) ?_
            | refine Ev_shr rfl rfl rfl rfl ?_
            | refine Ev_conv rfl rfl rfl rfl rfl (by simp only [inR]; omega) ?_
            | refine Ev_conv8 rfl rfl rfl rfl rfl ?_
            | (refine WO_guard_dt rfl rfl rfl rfl rfl (by kernel_rfl) (by kernel_rfl) (fun hg => ?_) (fun hg => ?_) <;> (try dsimp only at hg) <;> try (exfalso; first | omega | exact hg rfl))
            | (refine WO_guard_df rfl rfl rfl rfl rfl (by kernel_rfl) (by kernel_rfl) (fun hg => ?_) (fun hg => ?_) <;> (try dsimp only at hg) <;> try (exfalso; first | omega | exact hg rfl))
            | (refine W_cond rfl (fun hc => ?_) (fun hc => ?_) <;> (try dsimp only at hc) <;> try (exfalso; first | omega | exact hc rfl)))
        · rw [dif_pos (by omega)] at hrl
          have hnone : rl l none = none := by rw [← heq, hrl]; rfl
          have hd := ref_none hb hnone
          refine V_done rfl rfl ?_
          exact ⟨⟨by omega, by omega, hok, fun _ _ _ => rfl⟩, by rw [hd]; rfl⟩
        · rw [dif_neg (by omega), if_neg (by simp), if_pos (.inr ⟨by omega, by omega⟩)] at hrl
          have hnone : rl l none = none := by rw [← heq, hrl]; rfl
          have hd := ref_none hb hnone
          refine V_done rfl rfl ?_
          exact ⟨⟨by omega, by omega, hok, fun _ _ _ => rfl⟩, by rw [hd]; rfl⟩
        · rw [dif_neg (by omega), if_neg (by simp), if_neg (by simp; omega), if_neg (by omega)] at hrl
          have hokR : okR (n) := by unfold okR; omega
          refine Ev_conv_rune rfl rfl rfl rfl rfl ?_
          rw [encodeR_runeL hokR]
          repeat (
            first
              | refine W_seq ?_
              | refine WO_nil ?_
              | refine V_seq ?_
              | refine W_region ?_
              | refine W_drawn (by kernel_rfl) ?_
              | refine W_block ?_
              | refine W_scope ?_
              | refine W_skip ?_
              | refine W_ret ?_
              | refine W_exit ?_
              | refine W_label ?_
              | refine V_ret ?_
              | refine V_block ?_
              | refine V_block_x rfl ?_
              | refine V_block_y rfl ?_
              | refine V_seq_x ?_
              | refine V_loop_x ?_
              | refine W_cond_t rfl ?_
              | refine W_cond_f rfl ?_
              | refine WO_dst rfl rfl (by kernel_rfl) (by kernel_rfl) ?_
              | refine WO_no rfl rfl ?_
              | refine WO_guard_t rfl rfl rfl rfl rfl (by kernel_rfl) (by kernel_rfl) ?_
              | refine WO_guard_f rfl rfl rfl rfl rfl rfl (by kernel_rfl) (by kernel_rfl) ?_
              | refine WO_guard_x rfl rfl rfl rfl rfl (by kernel_rfl) (by kernel_rfl) ?_
              | refine Ev_move rfl ?_
              | refine Ev_assign rfl ?_
              | refine Ev_extract rfl rfl ?_
              | refine Ev_pick_t rfl rfl rfl ?_
              | refine Ev_pick_f rfl rfl rfl ?_
              | refine Ev_lssN rfl rfl ?_
              | refine Ev_leqN rfl rfl ?_
              | refine Ev_gtrN rfl rfl ?_
              | refine Ev_geqN rfl rfl ?_
              | refine Ev_eqlN rfl rfl ?_
              | refine Ev_neqN rfl rfl ?_
              | refine Ev_lss rfl rfl ?_
              | refine Ev_leq rfl rfl ?_
              | refine Ev_gtr rfl rfl ?_
              | refine Ev_geq rfl rfl ?_
              | refine Ev_eql rfl rfl ?_
              | refine Ev_neq rfl rfl ?_
              | refine Ev_seql rfl rfl ?_
              | refine Ev_sneq rfl rfl ?_
              | refine Ev_not rfl ?_
              | refine Ev_notb rfl ?_
              | refine Ev_nilCheck rfl ?_
              | refine Ev_ptr_eql rfl rfl rfl rfl ?_
              | refine Ev_ptr_neq rfl rfl rfl rfl ?_
              | refine Ev_fieldAddr rfl rfl rfl rfl rfl rfl ?_
              | refine Ev_len_str rfl rfl rfl rfl rfl ?_
              | refine Ev_len rfl rfl rfl rfl rfl rfl ?_
              | refine Ev_min rfl rfl rfl ?_
              | refine Ev_max rfl rfl rfl ?_
              | refine Ev_indexAddr rfl rfl rfl rfl rfl (by first | omega | (dsimp only; done) | (dsimp only; omega)) ?_
              | refine Ev_makeFunc rfl rfl ?_
              | refine Ev_conv_str rfl rfl rfl rfl rfl ?_
              | refine Ev_addN rfl rfl (by simp only [lim]; omega) ?_
              | refine Ev_subN rfl rfl (by simp only [lim]; omega) (by first | omega | (dsimp only; done) | (dsimp only; omega)) ?_
              | refine Ev_mulN rfl rfl (by simp only [lim]; omega) ?_
              | refine Ev_add rfl rfl (by simp only [inR]; omega) ?_
              | refine Ev_sub rfl rfl (by simp only [inR]; omega) ?_
              | refine Ev_mul rfl rfl (by simp only [inR]; omega) ?_
              | refine Ev_shrN (m := 6) (q := 64) rfl rfl rfl rfl ?_
              | refine Ev_shrN (m := 12) (q := 4096) rfl rfl rfl rfl ?_
              | refine Ev_shrN (m := 10) (q := 1024) rfl rfl rfl rfl ?_
              | refine Ev_shrN (m := 8) (q := 256) rfl rfl rfl rfl ?_
              | refine Ev_shrN (m := 4) (q := 16) rfl rfl rfl rfl ?_
              | refine Ev_shrN (m := 5) (q := 32) rfl rfl rfl rfl ?_
              | refine Ev_shrN (m := 7) (q := 128) rfl rfl rfl rfl ?_
              | refine Ev_shrN (m := 3) (q := 8) rfl rfl rfl rfl ?_
              | refine Ev_shrN (m := 18) (q := 262144) rfl rfl rfl rfl ?_
              | refine Ev_shlN (m := 6) (q := 64) rfl rfl rfl rfl (by simp only [lim]; omega) ?_
              | refine Ev_shlN (m := 12) (q := 4096) rfl rfl rfl rfl (by simp only [lim]; omega) ?_
              | refine Ev_shlN (m := 10) (q := 1024) rfl rfl rfl rfl (by simp only [lim]; omega) ?_
              | refine Ev_shlN (m := 8) (q := 256) rfl rfl rfl rfl (by simp only [lim]; omega) ?_
              | refine Ev_andN 3 8 rfl rfl rfl rfl (by simp only [lim]; omega) (by simp only [lim]; omega) ?_
              | refine Ev_andN 4 16 rfl rfl rfl rfl (by simp only [lim]; omega) (by simp only [lim]; omega) ?_
              | refine Ev_andN 5 32 rfl rfl rfl rfl (by simp only [lim]; omega) (by simp only [lim]; omega) ?_
              | refine Ev_andN 6 64 rfl rfl rfl rfl (by simp only [lim]; omega) (by simp only [lim]; omega) ?_
              | refine Ev_andN 10 1024 rfl rfl rfl rfl (by simp only [lim]; omega) (by simp only [lim]; omega) ?_
              | refine Ev_orN 4 rfl rfl rfl (by first | omega | (dsimp only; done) | (dsimp only; omega)) (by first | omega | (dsimp only; done) | (dsimp only; omega)) (by simp only [lim]; omega) ?_
              | refine Ev_orN 5 rfl rfl rfl (by first | omega | (dsimp only; done) | (dsimp only; omega)) (by first | omega | (dsimp only; done) | (dsimp only; omega)) (by simp only [lim]; omega) ?_
              | refine Ev_orN 6 rfl rfl rfl (by first | omega | (dsimp only; done) | (dsimp only; omega)) (by first | omega | (dsimp only; done) | (dsimp only; omega)) (by simp only [lim]; omega) ?_
              | refine Ev_orN 10 rfl rfl rfl (by first | omega | (dsimp only; done) | (dsimp only; omega)) (by first | omega | (dsimp only; done) | (dsimp only; omega)) (by simp only [lim]; omega) ?_
              | refine Ev_orN 12 rfl rfl rfl (by first | omega | (dsimp only; done) | (dsimp only; omega)) (by first | omega | (dsimp only; done) | (dsimp only; omega)) (by simp only [lim]; omega) ?_
              | refine Ev_orN 16 rfl rfl rfl (by first | omega | (dsimp only; done) | (dsimp only; omega)) (by first | omega | (dsimp only; done) | (dsimp only; omega)) (by simp only [lim]; omega) ?_
              | refine Ev_convN rfl rfl rfl rfl rfl (by simp only [lim]; omega) ?_
              | refine Ev_and8 rfl rfl (by first | omega | (dsimp only; done) | (dsimp only; omega)) (by first | omega | (dsimp only; done) | (dsimp only; omega)) (land_192 (by first | omega | (dsimp only; done) | (dsimp only; omega))) (by first | omega | (dsimp only; done) | (dsimp only; omega)) ?_
              | refine Ev_and8 rfl rfl (by first | omega | (dsimp only; done) | (dsimp only; omega)) (by first | omega | (dsimp only; done) | (dsimp only; omega)) (land_224 (by first | omega | (dsimp only; done) | (dsimp only; omega))) (by first | omega | (dsimp only; done) | (dsimp only; omega)) ?_
              | refine Ev_and8 rfl rfl (by first | omega | (dsimp only; done) | (dsimp only; omega)) (by first | omega | (dsimp only; done) | (dsimp only; omega)) (land_240 (by first | omega | (dsimp only; done) | (dsimp only; omega))) (by first | omega | (dsimp only; done) | (dsimp only; omega)) ?_
              | refine Ev_shr rfl rfl rfl rfl ?_
              | refine Ev_conv rfl rfl rfl rfl rfl (by simp only [inR]; omega) ?_
              | refine Ev_conv8 rfl rfl rfl rfl rfl ?_)
          refine Ev_sadd rfl rfl (by have := runeL_len (n); omega) ?_
          repeat (
            first
              | refine W_seq ?_
              | refine WO_nil ?_
              | refine V_seq ?_
              | refine W_region ?_
              | refine W_drawn (by kernel_rfl) ?_
              | refine W_block ?_
              | refine W_scope ?_
              | refine W_skip ?_
              | refine W_ret ?_
              | refine W_exit ?_
              | refine W_label ?_
              | refine V_ret ?_
              | refine V_block ?_
              | refine V_block_x rfl ?_
              | refine V_block_y rfl ?_
              | refine V_seq_x ?_
              | refine V_loop_x ?_
              | refine W_cond_t rfl ?_
              | refine W_cond_f rfl ?_
              | refine WO_dst rfl rfl (by kernel_rfl) (by kernel_rfl) ?_
              | refine WO_no rfl rfl ?_
              | refine WO_guard_t rfl rfl rfl rfl rfl (by kernel_rfl) (by kernel_rfl) ?_
              | refine WO_guard_f rfl rfl rfl rfl rfl rfl (by kernel_rfl) (by kernel_rfl) ?_
              | refine WO_guard_x rfl rfl rfl rfl rfl (by kernel_rfl) (by kernel_rfl) ?_
              | refine Ev_move rfl ?_
              | refine Ev_assign rfl ?_
              | refine Ev_extract rfl rfl ?_
              | refine Ev_pick_t rfl rfl rfl ?_
              | refine Ev_pick_f rfl rfl rfl ?_
              | refine Ev_lssN rfl rfl ?_
              | refine Ev_leqN rfl rfl ?_
              | refine Ev_gtrN rfl rfl ?_
              | refine Ev_geqN rfl rfl ?_
              | refine Ev_eqlN rfl rfl ?_
              | refine Ev_neqN rfl rfl ?_
              | refine Ev_lss rfl rfl ?_
              | refine Ev_leq rfl rfl ?_
              | refine Ev_gtr rfl rfl ?_
              | refine Ev_geq rfl rfl ?_
              | refine Ev_eql rfl rfl ?_
              | refine Ev_neq rfl rfl ?_
              | refine Ev_seql rfl rfl ?_
              | refine Ev_sneq rfl rfl ?_
              | refine Ev_not rfl ?_
              | refine Ev_notb rfl ?_
              | refine Ev_nilCheck rfl ?_
              | refine Ev_ptr_eql rfl rfl rfl rfl ?_
              | refine Ev_ptr_neq rfl rfl rfl rfl ?_
              | refine Ev_fieldAddr rfl rfl rfl rfl rfl rfl ?_
              | refine Ev_len_str rfl rfl rfl rfl rfl ?_
              | refine Ev_len rfl rfl rfl rfl rfl rfl ?_
              | refine Ev_min rfl rfl rfl ?_
              | refine Ev_max rfl rfl rfl ?_
              | refine Ev_indexAddr rfl rfl rfl rfl rfl (by first | omega | (dsimp only; done) | (dsimp only; omega)) ?_
              | refine Ev_makeFunc rfl rfl ?_
              | refine Ev_conv_str rfl rfl rfl rfl rfl ?_
              | refine Ev_addN rfl rfl (by simp only [lim]; omega) ?_
              | refine Ev_subN rfl rfl (by simp only [lim]; omega) (by first | omega | (dsimp only; done) | (dsimp only; omega)) ?_
              | refine Ev_mulN rfl rfl (by simp only [lim]; omega) ?_
              | refine Ev_add rfl rfl (by simp only [inR]; omega) ?_
              | refine Ev_sub rfl rfl (by simp only [inR]; omega) ?_
              | refine Ev_mul rfl rfl (by simp only [inR]; omega) ?_
              | refine Ev_shrN (m := 6) (q := 64) rfl rfl rfl rfl ?_
              | refine Ev_shrN (m := 12) (q := 4096) rfl rfl rfl rfl ?_
              | refine Ev_shrN (m := 10) (q := 1024) rfl rfl rfl rfl ?_
              | refine Ev_shrN (m := 8) (q := 256) rfl rfl rfl rfl ?_
              | refine Ev_shrN (m := 4) (q := 16) rfl rfl rfl rfl ?_
              | refine Ev_shrN (m := 5) (q := 32) rfl rfl rfl rfl ?_
              | refine Ev_shrN (m := 7) (q := 128) rfl rfl rfl rfl ?_
              | refine Ev_shrN (m := 3) (q := 8) rfl rfl rfl rfl ?_
              | refine Ev_shrN (m := 18) (q := 262144) rfl rfl rfl rfl ?_
              | refine Ev_shlN (m := 6) (q := 64) rfl rfl rfl rfl (by simp only [lim]; omega) ?_
              | refine Ev_shlN (m := 12) (q := 4096) rfl rfl rfl rfl (by simp only [lim]; omega) ?_
              | refine Ev_shlN (m := 10) (q := 1024) rfl rfl rfl rfl (by simp only [lim]; omega) ?_
              | refine Ev_shlN (m := 8) (q := 256) rfl rfl rfl rfl (by simp only [lim]; omega) ?_
              | refine Ev_andN 3 8 rfl rfl rfl rfl (by simp only [lim]; omega) (by simp only [lim]; omega) ?_
              | refine Ev_andN 4 16 rfl rfl rfl rfl (by simp only [lim]; omega) (by simp only [lim]; omega) ?_
              | refine Ev_andN 5 32 rfl rfl rfl rfl (by simp only [lim]; omega) (by simp only [lim]; omega) ?_
              | refine Ev_andN 6 64 rfl rfl rfl rfl (by simp only [lim]; omega) (by simp only [lim]; omega) ?_
              | refine Ev_andN 10 1024 rfl rfl rfl rfl (by simp only [lim]; omega) (by simp only [lim]; omega) ?_
              | refine Ev_orN 4 rfl rfl rfl (by first | omega | (dsimp only; done) | (dsimp only; omega)) (by first | omega | (dsimp only; done) | (dsimp only; omega)) (by simp only [lim]; omega) ?_
              | refine Ev_orN 5 rfl rfl rfl (by first | omega | (dsimp only; done) | (dsimp only; omega)) (by first | omega | (dsimp only; done) | (dsimp only; omega)) (by simp only [lim]; omega) ?_
              | refine Ev_orN 6 rfl rfl rfl (by first | omega | (dsimp only; done) | (dsimp only; omega)) (by first | omega | (dsimp only; done) | (dsimp only; omega)) (by simp only [lim]; omega) ?_
              | refine Ev_orN 10 rfl rfl rfl (by first | omega | (dsimp only; done) | (dsimp only; omega)) (by first | omega | (dsimp only; done) | (dsimp only; omega)) (by simp only [lim]; omega) ?_
              | refine Ev_orN 12 rfl rfl rfl (by first | omega | (dsimp only; done) | (dsimp only; omega)) (by first | omega | (dsimp only; done) | (dsimp only; omega)) (by simp only [lim]; omega) ?_
              | refine Ev_orN 16 rfl rfl rfl (by first | omega | (dsimp only; done) | (dsimp only; omega)) (by first | omega | (dsimp only; done) | (dsimp only; omega)) (by simp only [lim]; omega) ?_
              | refine Ev_convN rfl rfl rfl rfl rfl (by simp only [lim]; omega) ?_
              | refine Ev_and8 rfl rfl (by first | omega | (dsimp only; done) | (dsimp only; omega)) (by first | omega | (dsimp only; done) | (dsimp only; omega)) (land_192 (by first | omega | (dsimp only; done) | (dsimp only; omega))) (by first | omega | (dsimp only; done) | (dsimp only; omega)) ?_
              | refine Ev_and8 rfl rfl (by first | omega | (dsimp only; done) | (dsimp only; omega)) (by first | omega | (dsimp only; done) | (dsimp only; omega)) (land_224 (by first | omega | (dsimp only; done) | (dsimp only; omega))) (by first | omega | (dsimp only; done) | (dsimp only; omega)) ?_
              | refine Ev_and8 rfl rfl (by first | omega | (dsimp only; done) | (dsimp only; omega)) (by first | omega | (dsimp only; done) | (dsimp only; omega)) (land_240 (by first | omega | (dsimp only; done) | (dsimp only; omega))) (by first | omega | (dsimp only; done) | (dsimp only; omega)) ?_
              | refine Ev_shr rfl rfl rfl rfl ?_
              | refine Ev_conv rfl rfl rfl rfl rfl (by simp only [inR]; omega) ?_
              | refine Ev_conv8 rfl rfl rfl rfl rfl ?_)
          refine back' (k + w) none (acc ++ runeL (n)) _ (by omega) ⟨rfl, by dsimp only; omega, ?_, fun m h => (by cases h), ?_, ?_⟩ ⟨rfl, rfl, rfl, rfl, trivial⟩
          · dsimp only
            rw [← heq, hrl, List.drop_drop, Option.map_map]
            congr 1; funext z; simp
          · dsimp only; rw [List.length_append]; have := runeL_len (n); omega
          · intro c h
            rcases List.mem_append.1 h with h | h
            · exact hlt c h
            · exact runeL_lt hokR c h
        · rw [dif_neg (by omega), if_neg (by simp), if_neg (by simp; omega), if_pos ⟨by omega, by omega⟩] at hrl
          refine back' (k + w) (some n) acc _ (by omega) ⟨rfl, by dsimp only; omega, ?_, fun m h => (by cases h; omega), by dsimp only; omega, hlt⟩ ⟨rfl, rfl, rfl, rfl, trivial⟩
          dsimp only
          rw [← heq, hrl, List.drop_drop]
        · rw [dif_neg (by omega), if_neg (by simp), if_neg (by simp; omega), if_neg (by omega)] at hrl
          have hokR : okR (n) := by unfold okR; omega
          refine Ev_conv_rune rfl rfl rfl rfl rfl ?_
          rw [encodeR_runeL hokR]
          repeat (
            first
              | refine W_seq ?_
              | refine WO_nil ?_
              | refine V_seq ?_
              | refine W_region ?_
              | refine W_drawn (by kernel_rfl) ?_
              | refine W_block ?_
              | refine W_scope ?_
              | refine W_skip ?_
              | refine W_ret ?_
              | refine W_exit ?_
              | refine W_label ?_
              | refine V_ret ?_
              | refine V_block ?_
              | refine V_block_x rfl ?_
              | refine V_block_y rfl ?_
              | refine V_seq_x ?_
              | refine V_loop_x ?_
              | refine W_cond_t rfl ?_
              | refine W_cond_f rfl ?_
              | refine WO_dst rfl rfl (by kernel_rfl) (by kernel_rfl) ?_
              | refine WO_no rfl rfl ?_
              | refine WO_guard_t rfl rfl rfl rfl rfl (by kernel_rfl) (by kernel_rfl) ?_
              | refine WO_guard_f rfl rfl rfl rfl rfl rfl (by kernel_rfl) (by kernel_rfl) ?_
              | refine WO_guard_x rfl rfl rfl rfl rfl (by kernel_rfl) (by kernel_rfl) ?_
              | refine Ev_move rfl ?_
              | refine Ev_assign rfl ?_
              | refine Ev_extract rfl rfl ?_
              | refine Ev_pick_t rfl rfl rfl ?_
              | refine Ev_pick_f rfl rfl rfl ?_
              | refine Ev_lssN rfl rfl ?_
              | refine Ev_leqN rfl rfl ?_
              | refine Ev_gtrN rfl rfl ?_
              | refine Ev_geqN rfl rfl ?_
              | refine Ev_eqlN rfl rfl ?_
              | refine Ev_neqN rfl rfl ?_
              | refine Ev_lss rfl rfl ?_
              | refine Ev_leq rfl rfl ?_
              | refine Ev_gtr rfl rfl ?_
              | refine Ev_geq rfl rfl ?_
              | refine Ev_eql rfl rfl ?_
              | refine Ev_neq rfl rfl ?_
              | refine Ev_seql rfl rfl ?_
              | refine Ev_sneq rfl rfl ?_
              | refine Ev_not rfl ?_
              | refine Ev_notb rfl ?_
              | refine Ev_nilCheck rfl ?_
              | refine Ev_ptr_eql rfl rfl rfl rfl ?_
              | refine Ev_ptr_neq rfl rfl rfl rfl ?_
              | refine Ev_fieldAddr rfl rfl rfl rfl rfl rfl ?_
              | refine Ev_len_str rfl rfl rfl rfl rfl ?_
              | refine Ev_len rfl rfl rfl rfl rfl rfl ?_
              | refine Ev_min rfl rfl rfl ?_
              | refine Ev_max rfl rfl rfl ?_
              | refine Ev_indexAddr rfl rfl rfl rfl rfl (by first | omega | (dsimp only; done) | (dsimp only; omega)) ?_
              | refine Ev_makeFunc rfl rfl ?_
              | refine Ev_conv_str rfl rfl rfl rfl rfl ?_
              | refine Ev_addN rfl rfl (by simp only [lim]; omega) ?_
              | refine Ev_subN rfl rfl (by simp only [lim]; omega) (by first | omega | (dsimp only; done) | (dsimp only; omega)) ?_
              | refine Ev_mulN rfl rfl (by simp only [lim]; omega) ?_
              | refine Ev_add rfl rfl (by simp only [inR]; omega) ?_
              | refine Ev_sub rfl rfl (by simp only [inR]; omega) ?_
              | refine Ev_mul rfl rfl (by simp only [inR]; omega) ?_
              | refine Ev_shrN (m := 6) (q := 64) rfl rfl rfl rfl ?_
              | refine Ev_shrN (m := 12) (q := 4096) rfl rfl rfl rfl ?_
              | refine Ev_shrN (m := 10) (q := 1024) rfl rfl rfl rfl ?_
              | refine Ev_shrN (m := 8) (q := 256) rfl rfl rfl rfl ?_
              | refine Ev_shrN (m := 4) (q := 16) rfl rfl rfl rfl ?_
              | refine Ev_shrN (m := 5) (q := 32) rfl rfl rfl rfl ?_
              | refine Ev_shrN (m := 7) (q := 128) rfl rfl rfl rfl ?_
              | refine Ev_shrN (m := 3) (q := 8) rfl rfl rfl rfl ?_
              | refine Ev_shrN (m := 18) (q := 262144) rfl rfl rfl rfl ?_
              | refine Ev_shlN (m := 6) (q := 64) rfl rfl rfl rfl (by simp only [lim]; omega) ?_
              | refine Ev_shlN (m := 12) (q := 4096) rfl rfl rfl rfl (by simp only [lim]; omega) ?_
              | refine Ev_shlN (m := 10) (q := 1024) rfl rfl rfl rfl (by simp only [lim]; omega) ?_
              | refine Ev_shlN (m := 8) (q := 256) rfl rfl rfl rfl (by simp only [lim]; omega) ?_
              | refine Ev_andN 3 8 rfl rfl rfl rfl (by simp only [lim]; omega) (by simp only [lim]; omega) ?_
              | refine Ev_andN 4 16 rfl rfl rfl rfl (by simp only [lim]; omega) (by simp only [lim]; omega) ?_
              | refine Ev_andN 5 32 rfl rfl rfl rfl (by simp only [lim]; omega) (by simp only [lim]; omega) ?_
              | refine Ev_andN 6 64 rfl rfl rfl rfl (by simp only [lim]; omega) (by simp only [lim]; omega) ?_
              | refine Ev_andN 10 1024 rfl rfl rfl rfl (by simp only [lim]; omega) (by simp only [lim]; omega) ?_
              | refine Ev_orN 4 rfl rfl rfl (by first | omega | (dsimp only; done) | (dsimp only; omega)) (by first | omega | (dsimp only; done) | (dsimp only; omega)) (by simp only [lim]; omega) ?_
              | refine Ev_orN 5 rfl rfl rfl (by first | omega | (dsimp only; done) | (dsimp only; omega)) (by first | omega | (dsimp only; done) | (dsimp only; omega)) (by simp only [lim]; omega) ?_
              | refine Ev_orN 6 rfl rfl rfl (by first | omega | (dsimp only; done) | (dsimp only; omega)) (by first | omega | (dsimp only; done) | (dsimp only; omega)) (by simp only [lim]; omega) ?_
              | refine Ev_orN 10 rfl rfl rfl (by first | omega | (dsimp only; done) | (dsimp only; omega)) (by first | omega | (dsimp only; done) | (dsimp only; omega)) (by simp only [lim]; omega) ?_
              | refine Ev_orN 12 rfl rfl rfl (by first | omega | (dsimp only; done) | (dsimp only; omega)) (by first | omega | (dsimp only; done) | (dsimp only; omega)) (by simp only [lim]; omega) ?_
              | refine Ev_orN 16 rfl rfl rfl (by first | omega | (dsimp only; done) | (dsimp only; omega)) (by first | omega | (dsimp only; done) | (dsimp only; omega)) (by simp only [lim]; omega) ?_
              | refine Ev_convN rfl rfl rfl rfl rfl (by simp only [lim]; omega) ?_
              | refine Ev_and8 rfl rfl (by first | omega | (dsimp only; done) | (dsimp only; omega)) (by first | omega | (dsimp only; done) | (dsimp only; omega)) (land_192 (by first | omega | (dsimp only; done) | (dsimp only; omega))) (by first | omega | (dsimp only; done) | (dsimp only; omega)) ?_
              | refine Ev_and8 rfl rfl (by first | omega | (dsimp only; done) | (dsimp only; omega)) (by first | omega | (dsimp only; done) | (dsimp only; omega)) (land_224 (by first | omega | (dsimp only; done) | (dsimp only; omega))) (by first | omega | (dsimp only; done) | (dsimp only; omega)) ?_
              | refine Ev_and8 rfl rfl (by first | omega | (dsimp only; done) | (dsimp only; omega)) (by first | omega | (dsimp only; done) | (dsimp only; omega)) (land_240 (by first | omega | (dsimp only; done) | (dsimp only; omega))) (by first | omega | (dsimp only; done) | (dsimp only; omega)) ?_
              | refine Ev_shr rfl rfl rfl rfl ?_
              | refine Ev_conv rfl rfl rfl rfl rfl (by simp only [inR]; omega) ?_
              | refine Ev_conv8 rfl rfl rfl rfl rfl ?_)
          refine Ev_sadd rfl rfl (by have := runeL_len (n); omega) ?_
          repeat (
            first
              | refine W_seq ?_
              | refine WO_nil ?_
              | refine V_seq ?_
              | refine W_region ?_
              | refine W_drawn (by kernel_rfl) ?_
              | refine W_block ?_
              | refine W_scope ?_
              | refine W_skip ?_
              | refine W_ret ?_
              | refine W_exit ?_
              | refine W_label ?_
              | refine V_ret ?_
              | refine V_block ?_
              | refine V_block_x rfl ?_
              | refine V_block_y rfl ?_
              | refine V_seq_x ?_
              | refine V_loop_x ?_
              | refine W_cond_t rfl ?_
              | refine W_cond_f rfl ?_
              | refine WO_dst rfl rfl (by kernel_rfl) (by kernel_rfl) ?_
              | refine WO_no rfl rfl ?_
              | refine WO_guard_t rfl rfl rfl rfl rfl (by kernel_rfl) (by kernel_rfl) ?_
              | refine WO_guard_f rfl rfl rfl rfl rfl rfl (by kernel_rfl) (by kernel_rfl) ?_
              | refine WO_guard_x rfl rfl rfl rfl rfl (by kernel_rfl) (by kernel_rfl) ?_
              | refine Ev_move rfl ?_
              | refine Ev_assign rfl ?_
              | refine Ev_extract rfl rfl ?_
              | refine Ev_pick_t rfl rfl rfl ?_
              | refine Ev_pick_f rfl rfl rfl ?_
              | refine Ev_lssN rfl rfl ?_
              | refine Ev_leqN rfl rfl ?_
              | refine Ev_gtrN rfl rfl ?_
              | refine Ev_geqN rfl rfl ?_
              | refine Ev_eqlN rfl rfl ?_
              | refine Ev_neqN rfl rfl ?_
              | refine Ev_lss rfl rfl ?_
              | refine Ev_leq rfl rfl ?_
              | refine Ev_gtr rfl rfl ?_
              | refine Ev_geq rfl rfl ?_
              | refine Ev_eql rfl rfl ?_
              | refine Ev_neq rfl rfl ?_
              | refine Ev_seql rfl rfl ?_
              | refine Ev_sneq rfl rfl ?_
              | refine Ev_not rfl ?_
              | refine Ev_notb rfl ?_
              | refine Ev_nilCheck rfl ?_
              | refine Ev_ptr_eql rfl rfl rfl rfl ?_
              | refine Ev_ptr_neq rfl rfl rfl rfl ?_
              | refine Ev_fieldAddr rfl rfl rfl rfl rfl rfl ?_
              | refine Ev_len_str rfl rfl rfl rfl rfl ?_
              | refine Ev_len rfl rfl rfl rfl rfl rfl ?_
              | refine Ev_min rfl rfl rfl ?_
              | refine Ev_max rfl rfl rfl ?_
              | refine Ev_indexAddr rfl rfl rfl rfl rfl (by first | omega | (dsimp only; done) | (dsimp only; omega)) ?_
              | refine Ev_makeFunc rfl rfl ?_
              | refine Ev_conv_str rfl rfl rfl rfl rfl ?_
              | refine Ev_addN rfl rfl (by simp only [lim]; omega) ?_
              | refine Ev_subN rfl rfl (by simp only [lim]; omega) (by first | omega | (dsimp only; done) | (dsimp only; omega)) ?_
              | refine Ev_mulN rfl rfl (by simp only [lim]; omega) ?_
              | refine Ev_add rfl rfl (by simp only [inR]; omega) ?_
              | refine Ev_sub rfl rfl (by simp only [inR]; omega) ?_
              | refine Ev_mul rfl rfl (by simp only [inR]; omega) ?_
              | refine Ev_shrN (m := 6) (q := 64) rfl rfl rfl rfl ?_
              | refine Ev_shrN (m := 12) (q := 4096) rfl rfl rfl rfl ?_
              | refine Ev_shrN (m := 10) (q := 1024) rfl rfl rfl rfl ?_
              | refine Ev_shrN (m := 8) (q := 256) rfl rfl rfl rfl ?_
              | refine Ev_shrN (m := 4) (q := 16) rfl rfl rfl rfl ?_
              | refine Ev_shrN (m := 5) (q := 32) rfl rfl rfl rfl ?_
              | refine Ev_shrN (m := 7) (q := 128) rfl rfl rfl rfl ?_
              | refine Ev_shrN (m := 3) (q := 8) rfl rfl rfl rfl ?_
              | refine Ev_shrN (m := 18) (q := 262144) rfl rfl rfl rfl ?_
              | refine Ev_shlN (m := 6) (q := 64) rfl rfl rfl rfl (by simp only [lim]; omega) ?_
              | refine Ev_shlN (m := 12) (q := 4096) rfl rfl rfl rfl (by simp only [lim]; omega) ?_
              | refine Ev_shlN (m := 10) (q := 1024) rfl rfl rfl rfl (by simp only [lim]; omega) ?_
              | refine Ev_shlN (m := 8) (q := 256) rfl rfl rfl rfl (by simp only [lim]; omega) ?_
              | refine Ev_andN 3 8 rfl rfl rfl rfl (by simp only [lim]; omega) (by simp only [lim]; omega) ?_
              | refine Ev_andN 4 16 rfl rfl rfl rfl (by simp only [lim]; omega) (by simp only [lim]; omega) ?_
              | refine Ev_andN 5 32 rfl rfl rfl rfl (by simp only [lim]; omega) (by simp only [lim]; omega) ?_
              | refine Ev_andN 6 64 rfl rfl rfl rfl (by simp only [lim]; omega) (by simp only [lim]; omega) ?_
              | refine Ev_andN 10 1024 rfl rfl rfl rfl (by simp only [lim]; omega) (by simp only [lim]; omega) ?_
              | refine Ev_orN 4 rfl rfl rfl (by first | omega | (dsimp only; done) | (dsimp only; omega)) (by first | omega | (dsimp only; done) | (dsimp only; omega)) (by simp only [lim]; omega) ?_
              | refine Ev_orN 5 rfl rfl rfl (by first | omega | (dsimp only; done) | (dsimp only; omega)) (by first | omega | (dsimp only; done) | (dsimp only; omega)) (by simp only [lim]; omega) ?_
              | refine Ev_orN 6 rfl rfl rfl (by first | omega | (dsimp only; done) | (dsimp only; omega)) (by first | omega | (dsimp only; done) | (dsimp only; omega)) (by simp only [lim]; omega) ?_
              | refine Ev_orN 10 rfl rfl rfl (by first | omega | (dsimp only; done) | (dsimp only; omega)) (by first | omega | (dsimp only; done) | (dsimp only; omega)) (by simp only [lim]; omega) ?_
              | refine Ev_orN 12 rfl rfl rfl (by first | omega | (dsimp only; done) | (dsimp only; omega)) (by first | omega | (dsimp only; done) | (dsimp only; omega)) (by simp only [lim]; omega) ?_
              | refine Ev_orN 16 rfl rfl rfl (by first | omega | (dsimp only; done) | (dsimp only; omega)) (by first | omega | (dsimp only; done) | (dsimp only; omega)) (by simp only [lim]; omega) ?_
              | refine Ev_convN rfl rfl rfl rfl rfl (by simp only [lim]; omega) ?_
              | refine Ev_and8 rfl rfl (by first | omega | (dsimp only; done) | (dsimp only; omega)) (by first | omega | (dsimp only; done) | (dsimp only; omega)) (land_192 (by first | omega | (dsimp only; done) | (dsimp only; omega))) (by first | omega | (dsimp only; done) | (dsimp only; omega)) ?_
              | refine Ev_and8 rfl rfl (by first | omega | (dsimp only; done) | (dsimp only; omega)) (by first | omega | (dsimp only; done) | (dsimp only; omega)) (land_224 (by first | omega | (dsimp only; done) | (dsimp only; omega))) (by first | omega | (dsimp only; done) | (dsimp only; omega)) ?_
              | refine Ev_and8 rfl rfl (by first | omega | (dsimp only; done) | (dsimp only; omega)) (by first | omega | (dsimp only; done) | (dsimp only; omega)) (land_240 (by first | omega | (dsimp only; done) | (dsimp only; omega))) (by first | omega | (dsimp only; done) | (dsimp only; omega)) ?_
              | refine Ev_shr rfl rfl rfl rfl ?_
              | refine Ev_conv rfl rfl rfl rfl rfl (by simp only [inR]; omega) ?_
              | refine Ev_conv8 rfl rfl rfl rfl rfl ?_)
          refine back' (k + w) none (acc ++ runeL (n)) _ (by omega) ⟨rfl, by dsimp only; omega, ?_, fun m h => (by cases h), ?_, ?_⟩ ⟨rfl, rfl, rfl, rfl, trivial⟩
          · dsimp only
            rw [← heq, hrl, List.drop_drop, Option.map_map]
            congr 1; funext z; simp
          · dsimp only; rw [List.length_append]; have := runeL_len (n); omega
          · intro c h
            rcases List.mem_append.1 h with h | h
            · exact hlt c h
            · exact runeL_lt hokR c h
      | some m =>
        have hm := hhi m rfl
        show W X1 88 _ _ _ [(6, .int .i64 ((k : Nat) : Int)), (0, v), (4, .str acc), (5, .int .i64 ((m : Nat) : Int))] T
        repeat' (
          first
            | refine W_seq ?_
            | refine WO_nil ?_
            | refine V_seq ?_
            | refine W_region ?_
            | refine W_drawn (by kernel_rfl) ?_
            | refine W_block ?_
            | refine W_scope ?_
            | refine W_skip ?_
            | refine W_ret ?_
            | refine W_exit ?_
            | refine W_label ?_
            | refine V_ret ?_
            | refine V_block ?_
            | refine V_block_x rfl ?_
            | refine V_block_y rfl ?_
            | refine V_seq_x ?_
            | refine V_loop_x ?_
            | refine W_cond_t rfl ?_
            | refine W_cond_f rfl ?_
            | refine WO_dst rfl rfl (by kernel_rfl) (by kernel_rfl) ?_
            | refine WO_no rfl rfl ?_
            | refine WO_guard_t rfl rfl rfl rfl rfl (by kernel_rfl) (by kernel_rfl) ?_
            | refine WO_guard_f rfl rfl rfl rfl rfl rfl (by kernel_rfl) (by kernel_rfl) ?_
            | refine WO_guard_x rfl rfl rfl rfl rfl (by kernel_rfl) (by kernel_rfl) ?_
            | refine Ev_len rfl rfl rfl rfl rfl hv.len ?_
            | (refine Ev_call rfl rfl ((runit_runs hv hb hk (by omega)).mono ?_); rintro _ _ - ⟨rfl, rfl⟩; rw [hnw]; dsimp only)
            | refine Ev_move rfl ?_
            | refine Ev_assign rfl ?_
            | refine Ev_extract rfl rfl ?_
            | refine Ev_pick_t rfl rfl rfl ?_
            | refine Ev_pick_f rfl rfl rfl ?_
            | refine Ev_lssN rfl rfl ?_
            | refine Ev_leqN rfl rfl ?_
            | refine Ev_gtrN rfl rfl ?_
            | refine Ev_geqN rfl rfl ?_
            | refine Ev_eqlN rfl rfl ?_
            | refine Ev_neqN rfl rfl ?_
            | refine Ev_lss rfl rfl ?_
            | refine Ev_leq rfl rfl ?_
            | refine Ev_gtr rfl rfl ?_
            | refine Ev_geq rfl rfl ?_
            | refine Ev_eql rfl rfl ?_
            | refine Ev_neq rfl rfl ?_
            | refine Ev_seql rfl rfl ?_
            | refine Ev_sneq rfl rfl ?_
            | refine Ev_not rfl ?_
            | refine Ev_notb rfl ?_
            | refine Ev_nilCheck rfl ?_
            | refine Ev_ptr_eql rfl rfl rfl rfl ?_
            | refine Ev_ptr_neq rfl rfl rfl rfl ?_
            | refine Ev_fieldAddr rfl rfl rfl rfl rfl rfl ?_
            | refine Ev_len_str rfl rfl rfl rfl rfl ?_
            | refine Ev_len rfl rfl rfl rfl rfl rfl ?_
            | refine Ev_min rfl rfl rfl ?_
            | refine Ev_max rfl rfl rfl ?_
            | refine Ev_indexAddr rfl rfl rfl rfl rfl (by first | omega | (dsimp only; done) | (dsimp only; omega)) ?_
            | refine Ev_makeFunc rfl rfl ?_
            | refine Ev_conv_str rfl rfl rfl rfl rfl ?_
            | refine Ev_addN rfl rfl (by simp only [lim]; omega) ?_
            | refine Ev_subN rfl rfl (by simp only [lim]; omega) (by first | omega | (dsimp only; done) | (dsimp only; omega)) ?_
            | refine Ev_mulN rfl rfl (by simp only [lim]; omega) ?_
            | refine Ev_add rfl rfl (by simp only [inR]; omega) ?_
            | refine Ev_sub rfl rfl (by simp only [inR]; omega) ?_
            | refine Ev_mul rfl rfl (by simp only [inR]; omega) ?_
            | refine Ev_shrN (m := 6) (q := 64) rfl rfl rfl rfl ?_
            | refine Ev_shrN (m := 12) (q := 4096) rfl rfl rfl rfl ?_
            | refine Ev_shrN (m := 10) (q := 1024) rfl rfl rfl rfl ?_
            | refine Ev_shrN (m := 8) (q := 256) rfl rfl rfl rfl ?_
            | refine Ev_shrN (m := 4) (q := 16) rfl rfl rfl rfl ?_
            | refine Ev_shrN (m := 5) (q := 32) rfl rfl rfl rfl ?_
            | refine Ev_shrN (m := 7) (q := 128) rfl rfl rfl rfl ?_
            | refine Ev_shrN (m := 3) (q := 8) rfl rfl rfl rfl ?_
            | refine Ev_shrN (m := 18) (q := 262144) rfl rfl rfl rfl ?_
            | refine Ev_shlN (m := 6) (q := 64) rfl rfl rfl rfl (by simp only [lim]; omega) ?_
            | refine Ev_shlN (m := 12) (q := 4096) rfl rfl rfl rfl (by simp only [lim]; omega) ?_
            | refine Ev_shlN (m := 10) (q := 1024) rfl rfl rfl rfl (by simp only [lim]; omega) ?_
            | refine Ev_shlN (m := 8) (q := 256) rfl rfl rfl rfl (by simp only [lim]; omega) ?_
            | refine Ev_andN 3 8 rfl rfl rfl rfl (by simp only [lim]; omega) (by simp only [lim]; omega) ?_
            | refine Ev_andN 4 16 rfl rfl rfl rfl (by simp only [lim]; omega) (by simp only [lim]; omega) ?_
            | refine Ev_andN 5 32 rfl rfl rfl rfl (by simp only [lim]; omega) (by simp only [lim]; omega) ?_
            | refine Ev_andN 6 64 rfl rfl rfl rfl (by simp only [lim]; omega) (by simp only [lim]; omega) ?_
            | refine Ev_andN 10 1024 rfl rfl rfl rfl (by simp only [lim]; omega) (by simp only [lim]; omega) ?_
            | refine Ev_orN 4 rfl rfl rfl (by first | omega | (dsimp only; done) | (dsimp only; omega)) (by first | omega | (dsimp only; done) | (dsimp only; omega)) (by simp only [lim]; omega) ?_
            | refine Ev_orN 5 rfl rfl rfl (by first | omega | (dsimp only; done) | (dsimp only; omega)) (by first | omega | (dsimp only; done) | (dsimp only; omega)) (by simp only [lim]; omega) ?_
            | refine Ev_orN 6 rfl rfl rfl (by first | omega | (dsimp only; done) | (dsimp only; omega)) (by first | omega | (dsimp only; done) | (dsimp only; omega)) (by simp only [lim]; omega) ?_
            | refine Ev_orN 10 rfl rfl rfl (by first | omega | (dsimp only; done) | (dsimp only; omega)) (by first | omega | (dsimp only; done) | (dsimp only; omega)) (by simp only [lim]; omega) ?_
            | refine Ev_orN 12 rfl rfl rfl (by first | omega | (dsimp only; done) | (dsimp only; omega)) (by first | omega | (dsimp only; done) | (dsimp only; omega)) (by simp only [lim]; omega) ?_
            | refine Ev_orN 16 rfl rfl rfl (by first | omega | (dsimp only; done) | (dsimp only; omega)) (by first | omega | (dsimp only; done) | (dsimp only; omega)) (by simp only [lim]; omega) ?_
            | refine Ev_convN rfl rfl rfl rfl rfl (by simp only [lim]; omega) ?_
            | refine Ev_and8 rfl rfl (by first | omega | (dsimp only; done) | (dsimp only; omega)) (by first | omega | (dsimp only; done) | (dsimp only; omega)) (land_192 (by first | omega | (dsimp only; done) | (dsimp only; omega))) (by first | omega | (dsimp only; done) | (dsimp only; omega)) ?_
            | refine Ev_and8 rfl rfl (by first | omega | (dsimp only; done) | (dsimp only; omega)) (by first | omega | (dsimp only; done) | (dsimp only; omega)) (land_224 (by first | omega | (dsimp only; done) | (dsimp only; omega))) (by first | omega | (dsimp only; done) | (dsimp only; omega)) ?_
            | refine Ev_and8 rfl rfl (by first | omega | (dsimp only; done) | (dsimp only; omega)) (by first | omega | (dsimp only; done) | (dsimp only; omega)) (land_240 (by first | omega | (dsimp only; done) | (dsimp only; omega))) (by first | omega | (dsimp only; done) | (dsimp only; omega)) ?_
            | refine Ev_shr rfl rfl rfl rfl ?_
            | refine Ev_conv rfl rfl rfl rfl rfl (by simp only [inR]; omega) ?_
            | refine Ev_conv8 rfl rfl rfl rfl rfl ?_
            | (refine WO_guard_dt rfl rfl rfl rfl rfl (by kernel_rfl) (by kernel_rfl) (fun hg => ?_) (fun hg => ?_) <;> (try dsimp only at hg) <;> try (exfalso; first | omega | exact hg rfl))
            | (refine WO_guard_df rfl rfl rfl rfl rfl (by kernel_rfl) (by kernel_rfl) (fun hg => ?_) (fun hg => ?_) <;> (try dsimp only at hg) <;> try (exfalso; first | omega | exact hg rfl))
            | (refine W_cond rfl (fun hc => ?_) (fun hc => ?_) <;> (try dsimp only at hc) <;> try (exfalso; first | omega | exact hc rfl)))
        · rw [dif_pos (by omega)] at hrl
          have hnone : rl l none = none := by rw [← heq, hrl]; rfl
          have hd := ref_none hb hnone
          refine V_done rfl rfl ?_
          exact ⟨⟨by omega, by omega, hok, fun _ _ _ => rfl⟩, by rw [hd]; rfl⟩
        · rw [dif_neg (by omega), if_pos ⟨by omega, by omega, rfl⟩, Option.getD_some] at hrl
          have hokR : okR (65536 + (m - 55296) * 1024 + (n - 56320)) := by unfold okR; omega
          refine Ev_conv_rune rfl rfl rfl rfl rfl ?_
          rw [encodeR_runeL hokR]
          repeat (
            first
              | refine W_seq ?_
              | refine WO_nil ?_
              | refine V_seq ?_
              | refine W_region ?_
              | refine W_drawn (by kernel_rfl) ?_
              | refine W_block ?_
              | refine W_scope ?_
              | refine W_skip ?_
              | refine W_ret ?_
              | refine W_exit ?_
              | refine W_label ?_
              | refine V_ret ?_
              | refine V_block ?_
              | refine V_block_x rfl ?_
              | refine V_block_y rfl ?_
              | refine V_seq_x ?_
              | refine V_loop_x ?_
              | refine W_cond_t rfl ?_
              | refine W_cond_f rfl ?_
              | refine WO_dst rfl rfl (by kernel_rfl) (by kernel_rfl) ?_
              | refine WO_no rfl rfl ?_
              | refine WO_guard_t rfl rfl rfl rfl rfl (by kernel_rfl) (by kernel_rfl) ?_
              | refine WO_guard_f rfl rfl rfl rfl rfl rfl (by kernel_rfl) (by kernel_rfl) ?_
              | refine WO_guard_x rfl rfl rfl rfl rfl (by kernel_rfl) (by kernel_rfl) ?_
              | refine Ev_move rfl ?_
              | refine Ev_assign rfl ?_
              | refine Ev_extract rfl rfl ?_
              | refine Ev_pick_t rfl rfl rfl ?_
              | refine Ev_pick_f rfl rfl rfl ?_
              | refine Ev_lssN rfl rfl ?_
              | refine Ev_leqN rfl rfl ?_
              | refine Ev_gtrN rfl rfl ?_
              | refine Ev_geqN rfl rfl ?_
              | refine Ev_eqlN rfl rfl ?_
              | refine Ev_neqN rfl rfl ?_
              | refine Ev_lss rfl rfl ?_
              | refine Ev_leq rfl rfl ?_
              | refine Ev_gtr rfl rfl ?_
              | refine Ev_geq rfl rfl ?_
              | refine Ev_eql rfl rfl ?_
              | refine Ev_neq rfl rfl ?_
              | refine Ev_seql rfl rfl ?_
              | refine Ev_sneq rfl rfl ?_
              | refine Ev_not rfl ?_
              | refine Ev_notb rfl ?_
              | refine Ev_nilCheck rfl ?_
              | refine Ev_ptr_eql rfl rfl rfl rfl ?_
              | refine Ev_ptr_neq rfl rfl rfl rfl ?_
              | refine Ev_fieldAddr rfl rfl rfl rfl rfl rfl ?_
              | refine Ev_len_str rfl rfl rfl rfl rfl ?_
              | refine Ev_len rfl rfl rfl rfl rfl rfl ?_
              | refine Ev_min rfl rfl rfl ?_
              | refine Ev_max rfl rfl rfl ?_
              | refine Ev_indexAddr rfl rfl rfl rfl rfl (by first | omega | (dsimp only; done) | (dsimp only; omega)) ?_
              | refine Ev_makeFunc rfl rfl ?_
              | refine Ev_conv_str rfl rfl rfl rfl rfl ?_
              | refine Ev_addN rfl rfl (by simp only [lim]; omega) ?_
              | refine Ev_subN rfl rfl (by simp only [lim]; omega) (by first | omega | (dsimp only; done) | (dsimp only; omega)) ?_
              | refine Ev_mulN rfl rfl (by simp only [lim]; omega) ?_
              | refine Ev_add rfl rfl (by simp only [inR]; omega) ?_
              | refine Ev_sub rfl rfl (by simp only [inR]; omega) ?_
              | refine Ev_mul rfl rfl (by simp only [inR]; omega) ?_
              | refine Ev_shrN (m := 6) (q := 64) rfl rfl rfl rfl ?_
              | refine Ev_shrN (m := 12) (q := 4096) rfl rfl rfl rfl ?_
              | refine Ev_shrN (m := 10) (q := 1024) rfl rfl rfl rfl ?_
              | refine Ev_shrN (m := 8) (q := 256) rfl rfl rfl rfl ?_
              | refine Ev_shrN (m := 4) (q := 16) rfl rfl rfl rfl ?_
              | refine Ev_shrN (m := 5) (q := 32) rfl rfl rfl rfl ?_
              | refine Ev_shrN (m := 7) (q := 128) rfl rfl rfl rfl ?_
              | refine Ev_shrN (m := 3) (q := 8) rfl rfl rfl rfl ?_
              | refine Ev_shrN (m := 18) (q := 262144) rfl rfl rfl rfl ?_
              | refine Ev_shlN (m := 6) (q := 64) rfl rfl rfl rfl (by simp only [lim]; omega) ?_
              | refine Ev_shlN (m := 12) (q := 4096) rfl rfl rfl rfl (by simp only [lim]; omega) ?_
              | refine Ev_shlN (m := 10) (q := 1024) rfl rfl rfl rfl (by simp only [lim]; omega) ?_
              | refine Ev_shlN (m := 8) (q := 256) rfl rfl rfl rfl (by simp only [lim]; omega) ?_
              | refine Ev_andN 3 8 rfl rfl rfl rfl (by simp only [lim]; omega) (by simp only [lim]; omega) ?_
              | refine Ev_andN 4 16 rfl rfl rfl rfl (by simp only [lim]; omega) (by simp only [lim]; omega) ?_
              | refine Ev_andN 5 32 rfl rfl rfl rfl (by simp only [lim]; omega) (by simp only [lim]; omega) ?_
              | refine Ev_andN 6 64 rfl rfl rfl rfl (by simp only [lim]; omega) (by simp only [lim]; omega) ?_
              | refine Ev_andN 10 1024 rfl rfl rfl rfl (by simp only [lim]; omega) (by simp only [lim]; omega) ?_
              | refine Ev_orN 4 rfl rfl rfl (by first | omega | (dsimp only; done) | (dsimp only; omega)) (by first | omega | (dsimp only; done) | (dsimp only; omega)) (by simp only [lim]; omega) ?_
              | refine Ev_orN 5 rfl rfl rfl (by first | omega | (dsimp only; done) | (dsimp only; omega)) (by first | omega | (dsimp only; done) | (dsimp only; omega)) (by simp only [lim]; omega) ?_
              | refine Ev_orN 6 rfl rfl rfl (by first | omega | (dsimp only; done) | (dsimp only; omega)) (by first | omega | (dsimp only; done) | (dsimp only; omega)) (by simp only [lim]; omega) ?_
              | refine Ev_orN 10 rfl rfl rfl (by first | omega | (dsimp only; done) | (dsimp only; omega)) (by first | omega | (dsimp only; done) | (dsimp only; omega)) (by simp only [lim]; omega) ?_
              | refine Ev_orN 12 rfl rfl rfl (by first | omega | (dsimp only; done) | (dsimp only; omega)) (by first | omega | (dsimp only; done) | (dsimp only; omega)) (by simp only [lim]; omega) ?_
              | refine Ev_orN 16 rfl rfl rfl (by first | omega | (dsimp only; done) | (dsimp only; omega)) (by first | omega | (dsimp only; done) | (dsimp only; omega)) (by simp only [lim]; omega) ?_
              | refine Ev_convN rfl rfl rfl rfl rfl (by simp only [lim]; omega) ?_
              | refine Ev_and8 rfl rfl (by first | omega | (dsimp only; done) | (dsimp only; omega)) (by first | omega | (dsimp only; done) | (dsimp only; omega)) (land_192 (by first | omega | (dsimp only; done) | (dsimp only; omega))) (by first | omega | (dsimp only; done) | (dsimp only; omega)) ?_
              | refine Ev_and8 rfl rfl (by first | omega | (dsimp only; done) | (dsimp only; omega)) (by first | omega | (dsimp only; done) | (dsimp only; omega)) (land_224 (by first | omega | (dsimp only; done) | (dsimp only; omega))) (by first | omega | (dsimp only; done) | (dsimp only; omega)) ?_
              | refine Ev_and8 rfl rfl (by first | omega | (dsimp only; done) | (dsimp only; omega)) (by first | omega | (dsimp only; done) | (dsimp only; omega)) (land_240 (by first | omega | (dsimp only; done) | (dsimp only; omega))) (by first | omega | (dsimp only; done) | (dsimp only; omega)) ?_
              | refine Ev_shr rfl rfl rfl rfl ?_
              | refine Ev_conv rfl rfl rfl rfl rfl (by simp only [inR]; omega) ?_
              | refine Ev_conv8 rfl rfl rfl rfl rfl ?_)
          refine Ev_sadd rfl rfl (by have := runeL_len (65536 + (m - 55296) * 1024 + (n - 56320)); omega) ?_
          repeat (
            first
              | refine W_seq ?_
              | refine WO_nil ?_
              | refine V_seq ?_
              | refine W_region ?_
              | refine W_drawn (by kernel_rfl) ?_
              | refine W_block ?_
              | refine W_scope ?_
              | refine W_skip ?_
              | refine W_ret ?_
              | refine W_exit ?_
              | refine W_label ?_
              | refine V_ret ?_
              | refine V_block ?_
              | refine V_block_x rfl ?_
              | refine V_block_y rfl ?_
              | refine V_seq_x ?_
              | refine V_loop_x ?_
              | refine W_cond_t rfl ?_
              | refine W_cond_f rfl ?_
              | refine WO_dst rfl rfl (by kernel_rfl) (by kernel_rfl) ?_
              | refine WO_no rfl rfl ?_
              | refine WO_guard_t rfl rfl rfl rfl rfl (by kernel_rfl) (by kernel_rfl) ?_
              | refine WO_guard_f rfl rfl rfl rfl rfl rfl (by kernel_rfl) (by kernel_rfl) ?_
              | refine WO_guard_x rfl rfl rfl rfl rfl (by kernel_rfl) (by kernel_rfl) ?_
              | refine Ev_move rfl ?_
              | refine Ev_assign rfl ?_
              | refine Ev_extract rfl rfl ?_
              | refine Ev_pick_t rfl rfl rfl ?_
              | refine Ev_pick_f rfl rfl rfl ?_
              | refine Ev_lssN rfl rfl ?_
              | refine Ev_leqN rfl rfl ?_
              | refine Ev_gtrN rfl rfl ?_
              | refine Ev_geqN rfl rfl ?_
              | refine Ev_eqlN rfl rfl ?_
              | refine Ev_neqN rfl rfl ?_
              | refine Ev_lss rfl rfl ?_
              | refine Ev_leq rfl rfl ?_
              | refine Ev_gtr rfl rfl ?_
              | refine Ev_geq rfl rfl ?_
              | refine Ev_eql rfl rfl ?_
              | refine Ev_neq rfl rfl ?_
              | refine Ev_seql rfl rfl ?_
              | refine Ev_sneq rfl rfl ?_
              | refine Ev_not rfl ?_
              | refine Ev_notb rfl ?_
              | refine Ev_nilCheck rfl ?_
              | refine Ev_ptr_eql rfl rfl rfl rfl ?_
              | refine Ev_ptr_neq rfl rfl rfl rfl ?_
              | refine Ev_fieldAddr rfl rfl rfl rfl rfl rfl ?_
              | refine Ev_len_str rfl rfl rfl rfl rfl ?_
              | refine Ev_len rfl rfl rfl rfl rfl rfl ?_
              | refine Ev_min rfl rfl rfl ?_
              | refine Ev_max rfl rfl rfl ?_
              | refine Ev_indexAddr rfl rfl rfl rfl rfl (by first | omega | (dsimp only; done) | (dsimp only; omega)) ?_
              | refine Ev_makeFunc rfl rfl ?_
              | refine Ev_conv_str rfl rfl rfl rfl rfl ?_
              | refine Ev_addN rfl rfl (by simp only [lim]; omega) ?_
              | refine Ev_subN rfl rfl (by simp only [lim]; omega) (by first | omega | (dsimp only; done) | (dsimp only; omega)) ?_
              | refine Ev_mulN rfl rfl (by simp only [lim]; omega) ?_
              | refine Ev_add rfl rfl (by simp only [inR]; omega) ?_
              | refine Ev_sub rfl rfl (by simp only [inR]; omega) ?_
              | refine Ev_mul rfl rfl (by simp only [inR]; omega) ?_
              | refine Ev_shrN (m := 6) (q := 64) rfl rfl rfl rfl ?_
              | refine Ev_shrN (m := 12) (q := 4096) rfl rfl rfl rfl ?_
              | refine Ev_shrN (m := 10) (q := 1024) rfl rfl rfl rfl ?_
              | refine Ev_shrN (m := 8) (q := 256) rfl rfl rfl rfl ?_
              | refine Ev_shrN (m := 4) (q := 16) rfl rfl rfl rfl ?_
              | refine Ev_shrN (m := 5) (q := 32) rfl rfl rfl rfl ?_
              | refine Ev_shrN (m := 7) (q := 128) rfl rfl rfl rfl ?_
              | refine Ev_shrN (m := 3) (q := 8) rfl rfl rfl rfl ?_
              | refine Ev_shrN (m := 18) (q := 262144) rfl rfl rfl rfl ?_
              | refine Ev_shlN (m := 6) (q := 64) rfl rfl rfl rfl (by simp only [lim]; omega) ?_
              | refine Ev_shlN (m := 12) (q := 4096) rfl rfl rfl rfl (by simp only [lim]; omega) ?_
              | refine Ev_shlN (m := 10) (q := 1024) rfl rfl rfl rfl (by simp only [lim]; omega) ?_
              | refine Ev_shlN (m := 8) (q := 256) rfl rfl rfl rfl (by simp only [lim]; omega) ?_
              | refine Ev_andN 3 8 rfl rfl rfl rfl (by simp only [lim]; omega) (by simp only [lim]; omega) ?_
              | refine Ev_andN 4 16 rfl rfl rfl rfl (by simp only [lim]; omega) (by simp only [lim]; omega) ?_
              | refine Ev_andN 5 32 rfl rfl rfl rfl (by simp only [lim]; omega) (by simp only [lim]; omega) ?_
              | refine Ev_andN 6 64 rfl rfl rfl rfl (by simp only [lim]; omega) (by simp only [lim]; omega) ?_
              | refine Ev_andN 10 1024 rfl rfl rfl rfl (by simp only [lim]; omega) (by simp only [lim]; omega) ?_
              | refine Ev_orN 4 rfl rfl rfl (by first | omega | (dsimp only; done) | (dsimp only; omega)) (by first | omega | (dsimp only; done) | (dsimp only; omega)) (by simp only [lim]; omega) ?_
              | refine Ev_orN 5 rfl rfl rfl (by first | omega | (dsimp only; done) | (dsimp only; omega)) (by first | omega | (dsimp only; done) | (dsimp only; omega)) (by simp only [lim]; omega) ?_
              | refine Ev_orN 6 rfl rfl rfl (by first | omega | (dsimp only; done) | (dsimp only; omega)) (by first | omega | (dsimp only; done) | (dsimp only; omega)) (by simp only [lim]; omega) ?_
              | refine Ev_orN 10 rfl rfl rfl (by first | omega | (dsimp only; done) | (dsimp only; omega)) (by first | omega | (dsimp only; done) | (dsimp only; omega)) (by simp only [lim]; omega) ?_
              | refine Ev_orN 12 rfl rfl rfl (by first | omega | (dsimp only; done) | (dsimp only; omega)) (by first | omega | (dsimp only; done) | (dsimp only; omega)) (by simp only [lim]; omega) ?_
              | refine Ev_orN 16 rfl rfl rfl (by first | omega | (dsimp only; done) | (dsimp only; omega)) (by first | omega | (dsimp only; done) | (dsimp only; omega)) (by simp only [lim]; omega) ?_
              | refine Ev_convN rfl rfl rfl rfl rfl (by simp only [lim]; omega) ?_
              | refine Ev_and8 rfl rfl (by first | omega | (dsimp only; done) | (dsimp only; omega)) (by first | omega | (dsimp only; done) | (dsimp only; omega)) (land_192 (by first | omega | (dsimp only; done) | (dsimp only; omega))) (by first | omega | (dsimp only; done) | (dsimp only; omega)) ?_
              | refine Ev_and8 rfl rfl (by first | omega | (dsimp only; done) | (dsimp only; omega)) (by first | omega | (dsimp only; done) | (dsimp only; omega)) (land_224 (by first | omega | (dsimp only; done) | (dsimp only; omega))) (by first | omega | (dsimp only; done) | (dsimp only; omega)) ?_
              | refine Ev_and8 rfl rfl (by first | omega | (dsimp only; done) | (dsimp only; omega)) (by first | omega | (dsimp only; done) | (dsimp only; omega)) (land_240 (by first | omega | (dsimp only; done) | (dsimp only; omega))) (by first | omega | (dsimp only; done) | (dsimp only; omega)) ?_
              | refine Ev_shr rfl rfl rfl rfl ?_
              | refine Ev_conv rfl rfl rfl rfl rfl (by simp only [inR]; omega) ?_
              | refine Ev_conv8 rfl rfl rfl rfl rfl ?_)
          refine back' (k + w) none (acc ++ runeL (65536 + (m - 55296) * 1024 + (n - 56320))) _ (by omega) ⟨rfl, by dsimp only; omega, ?_, fun m h => (by cases h), ?_, ?_⟩ ⟨rfl, rfl, rfl, rfl, trivial⟩
          · dsimp only
            rw [← heq, hrl, List.drop_drop, Option.map_map]
            congr 1; funext z; simp
          · dsimp only; rw [List.length_append]; have := runeL_len (65536 + (m - 55296) * 1024 + (n - 56320)); omega
          · intro c h
            rcases List.mem_append.1 h with h | h
            · exact hlt c h
            · exact runeL_lt hokR c h
        · rw [dif_neg (by omega), if_neg (by omega), if_pos (.inl rfl)] at hrl
          have hnone : rl l none = none := by rw [← heq, hrl]; rfl
          have hd := ref_none hb hnone
          refine V_done rfl rfl ?_
          exact ⟨⟨by omega, by omega, hok, fun _ _ _ => rfl⟩, by rw [hd]; rfl⟩
        · rw [dif_neg (by omega), if_neg (by omega), if_pos (.inl rfl)] at hrl
          have hnone : rl l none = none := by rw [← heq, hrl]; rfl
          have hd := ref_none hb hnone
          refine V_done rfl rfl ?_
          exact ⟨⟨by omega, by omega, hok, fun _ _ _ => rfl⟩, by rw [hd]; rfl⟩
    · have hkl : l.drop k = [] := List.drop_eq_nil_of_le (by omega)
      rw [hkl, rl, dif_pos rfl] at heq
      repeat' (
        first
          | refine W_seq ?_
          | refine WO_nil ?_
          | refine V_seq ?_
          | refine W_region ?_
          | refine W_drawn (by kernel_rfl) ?_
          | refine W_block ?_
          | refine W_scope ?_
          | refine W_skip ?_
          | refine W_ret ?_
          | refine W_exit ?_
          | refine W_label ?_
          | refine V_ret ?_
          | refine V_block ?_
          | refine V_block_x rfl ?_
          | refine V_block_y rfl ?_
          | refine V_seq_x ?_
          | refine V_loop_x ?_
          | refine W_cond_t rfl ?_
          | refine W_cond_f rfl ?_
          | refine WO_dst rfl rfl (by kernel_rfl) (by kernel_rfl) ?_
          | refine WO_no rfl rfl ?_
          | refine WO_guard_t rfl rfl rfl rfl rfl (by kernel_rfl) (by kernel_rfl) ?_
          | refine WO_guard_f rfl rfl rfl rfl rfl rfl (by kernel_rfl) (by kernel_rfl) ?_
          | refine WO_guard_x rfl rfl rfl rfl rfl (by kernel_rfl) (by kernel_rfl) ?_
          | refine Ev_len rfl rfl rfl rfl rfl hv.len ?_
          | refine Ev_move rfl ?_
          | refine Ev_assign rfl ?_
          | refine Ev_extract rfl rfl ?_
          | refine Ev_pick_t rfl rfl rfl ?_
          | refine Ev_pick_f rfl rfl rfl ?_
          | refine Ev_lssN rfl rfl ?_
          | refine Ev_leqN rfl rfl ?_
          | refine Ev_gtrN rfl rfl ?_
          | refine Ev_geqN rfl rfl ?_
          | refine Ev_eqlN rfl rfl ?_
          | refine Ev_neqN rfl rfl ?_
          | refine Ev_lss rfl rfl ?_
          | refine Ev_leq rfl rfl ?_
          | refine Ev_gtr rfl rfl ?_
          | refine Ev_geq rfl rfl ?_
          | refine Ev_eql rfl rfl ?_
          | refine Ev_neq rfl rfl ?_
          | refine Ev_seql rfl rfl ?_
          | refine Ev_sneq rfl rfl ?_
          | refine Ev_not rfl ?_
          | refine Ev_notb rfl ?_
          | refine Ev_nilCheck rfl ?_
          | refine Ev_ptr_eql rfl rfl rfl rfl ?_
          | refine Ev_ptr_neq rfl rfl rfl rfl ?_
          | refine Ev_fieldAddr rfl rfl rfl rfl rfl rfl ?_
          | refine Ev_len_str rfl rfl rfl rfl rfl ?_
          | refine Ev_len rfl rfl rfl rfl rfl rfl ?_
          | refine Ev_min rfl rfl rfl ?_
          | refine Ev_max rfl rfl rfl ?_
          | refine Ev_indexAddr rfl rfl rfl rfl rfl (by first | omega | (dsimp only; done) | (dsimp only; omega)) ?_
          | refine Ev_makeFunc rfl rfl ?_
          | refine Ev_conv_str rfl rfl rfl rfl rfl ?_
          | refine Ev_addN rfl rfl (by simp only [lim]; omega) ?_
          | refine Ev_subN rfl rfl (by simp only [lim]; omega) (by first | omega | (dsimp only; done) | (dsimp only; omega)) ?_
          | refine Ev_mulN rfl rfl (by simp only [lim]; omega) ?_
          | refine Ev_add rfl rfl (by simp only [inR]; omega) ?_
          | refine Ev_sub rfl rfl (by simp only [inR]; omega) ?_
          | refine Ev_mul rfl rfl (by simp only [inR]; omega) ?_
          | refine Ev_shrN (m := 6) (q := 64) rfl rfl rfl rfl ?_
          | refine Ev_shrN (m := 12) (q := 4096) rfl rfl rfl rfl ?_
          | refine Ev_shrN (m := 10) (q := 1024) rfl rfl rfl rfl ?_
          | refine Ev_shrN (m := 8) (q := 256) rfl rfl rfl rfl ?_
          | refine Ev_shrN (m := 4) (q := 16) rfl rfl rfl rfl ?_
          | refine Ev_shrN (m := 5) (q := 32) rfl rfl rfl rfl ?_
          | refine Ev_shrN (m := 7) (q := 128) rfl rfl rfl rfl ?_
          | refine Ev_shrN (m := 3) (q := 8) rfl rfl rfl rfl ?_
          | refine Ev_shrN (m := 18) (q := 262144) rfl rfl rfl rfl ?_
          | refine Ev_shlN (m := 6) (q := 64) rfl rfl rfl rfl (by simp only [lim]; omega) ?_
          | refine Ev_shlN (m := 12) (q := 4096) rfl rfl rfl rfl (by simp only [lim]; omega) ?_
          | refine Ev_shlN (m := 10) (q := 1024) rfl rfl rfl rfl (by simp only [lim]; omega) ?_
          | refine Ev_shlN (m := 8) (q := 256) rfl rfl rfl rfl (by simp only [lim]; omega) ?_
          | refine Ev_andN 3 8 rfl rfl rfl rfl (by simp only [lim]; omega) (by simp only [lim]; omega) ?_
          | refine Ev_andN 4 16 rfl rfl rfl rfl (by simp only [lim]; omega) (by simp only [lim]; omega) ?_
          | refine Ev_andN 5 32 rfl rfl rfl rfl (by simp only [lim]; omega) (by simp only [lim]; omega) ?_
          | refine Ev_andN 6 64 rfl rfl rfl rfl (by simp only [lim]; omega) (by simp only [lim]; omega) ?_
          | refine Ev_andN 10 1024 rfl rfl rfl rfl (by simp only [lim]; omega) (by simp only [lim]; omega) ?_
          | refine Ev_orN 4 rfl rfl rfl (by first | omega | (dsimp only; done) | (dsimp only; omega)) (by first | omega | (dsimp only; done) | (dsimp only; omega)) (by simp only [lim]; omega) ?_
          | refine Ev_orN 5 rfl rfl rfl (by first | omega | (dsimp only; done) | (dsimp only; omega)) (by first | omega | (dsimp only; done) | (dsimp only; omega)) (by simp only [lim]; omega) ?_
          | refine Ev_orN 6 rfl rfl rfl (by first | omega | (dsimp only; done) | (dsimp only; omega)) (by first | omega | (dsimp only; done) | (dsimp only; omega)) (by simp only [lim]; omega) ?_
          | refine Ev_orN 10 rfl rfl rfl (by first | omega | (dsimp only; done) | (dsimp only; omega)) (by first | omega | (dsimp only; done) | (dsimp only; omega)) (by simp only [lim]; omega) ?_
          | refine Ev_orN 12 rfl rfl rfl (by first | omega | (dsimp only; done) | (dsimp only; omega)) (by first | omega | (dsimp only; done) | (dsimp only; omega)) (by simp only [lim]; omega) ?_
          | refine Ev_orN 16 rfl rfl rfl (by first | omega | (dsimp only; done) | (dsimp only; omega)) (by first | omega | (dsimp only; done) | (dsimp only; omega)) (by simp only [lim]; omega) ?_
          | refine Ev_convN rfl rfl rfl rfl rfl (by simp only [lim]; omega) ?_
          | refine Ev_and8 rfl rfl (by first | omega | (dsimp only; done) | (dsimp only; omega)) (by first | omega | (dsimp only; done) | (dsimp only; omega)) (land_192 (by first | omega | (dsimp only; done) | (dsimp only; omega))) (by first | omega | (dsimp only; done) | (dsimp only; omega)) ?_
          | refine Ev_and8 rfl rfl (by first | omega | (dsimp only; done) | (dsimp only; omega)) (by first | omega | (dsimp only; done) | (dsimp only; omega)) (land_224 (by first | omega | (dsimp only; done) | (dsimp only; omega))) (by first | omega | (dsimp only; done) | (dsimp only; omega)) ?_
          | refine Ev_and8 rfl rfl (by first | omega | (dsimp only; done) | (dsimp only; omega)) (by first | omega | (dsimp only; done) | (dsimp only; omega)) (land_240 (by first | omega | (dsimp only; done) | (dsimp only; omega))) (by first | omega | (dsimp only; done) | (dsimp only; omega)) ?_
          | refine Ev_shr rfl rfl rfl rfl ?_
          | refine Ev_conv rfl rfl rfl rfl rfl (by simp only [inR]; omega) ?_
          | refine Ev_conv8 rfl rfl rfl rfl rfl ?_
          | (refine WO_guard_dt rfl rfl rfl rfl rfl (by kernel_rfl) (by kernel_rfl) (fun hg => ?_) (fun hg => ?_) <;> (try dsimp only at hg) <;> try (exfalso; first | omega | exact hg rfl))
          | (refine WO_guard_df rfl rfl rfl rfl rfl (by kernel_rfl) (by kernel_rfl) (fun hg => ?_) (fun hg => ?_) <;> (try dsimp only at hg) <;> try (exfalso; first | omega | exact hg rfl))
          | (refine W_cond rfl (fun hc => ?_) (fun hc => ?_) <;> (try dsimp only at hc) <;> try (exfalso; first | omega | exact hc rfl)))
      refine Ev_call rfl rfl ((renc_runs (s := acc) hok hlt (by omega) (by omega)).mono ?_)
      rintro _ S1 - ⟨⟨hle1, hn1, hok1, hf1⟩, vx, rfl, hx, hbx⟩
      have hv1 : Br S1 v l := hv.keep fun c h => hf1 c (by simp [blkOf]) (hv.lt hok h)
      have hfr : Fr T S1 .nils (16 * l.length + 2) := ⟨hle1, by omega, hok1, hf1⟩
      cases h with
      | some m =>
        have hd := ref_none hb (by rw [← heq]; rfl)
        repeat' (
          first
            | refine W_seq ?_
            | refine WO_nil ?_
            | refine V_seq ?_
            | refine W_region ?_
            | refine W_drawn (by kernel_rfl) ?_
            | refine W_block ?_
            | refine W_scope ?_
            | refine W_skip ?_
            | refine W_ret ?_
            | refine W_exit ?_
            | refine W_label ?_
            | refine V_ret ?_
            | refine V_block ?_
            | refine V_block_x rfl ?_
            | refine V_block_y rfl ?_
            | refine V_seq_x ?_
            | refine V_loop_x ?_
            | refine W_cond_t rfl ?_
            | refine W_cond_f rfl ?_
            | refine WO_dst rfl rfl (by kernel_rfl) (by kernel_rfl) ?_
            | refine WO_no rfl rfl ?_
            | refine WO_guard_t rfl rfl rfl rfl rfl (by kernel_rfl) (by kernel_rfl) ?_
            | refine WO_guard_f rfl rfl rfl rfl rfl rfl (by kernel_rfl) (by kernel_rfl) ?_
            | refine WO_guard_x rfl rfl rfl rfl rfl (by kernel_rfl) (by kernel_rfl) ?_
            | refine Ev_move rfl ?_
            | refine Ev_assign rfl ?_
            | refine Ev_extract rfl rfl ?_
            | refine Ev_pick_t rfl rfl rfl ?_
            | refine Ev_pick_f rfl rfl rfl ?_
            | refine Ev_lssN rfl rfl ?_
            | refine Ev_leqN rfl rfl ?_
            | refine Ev_gtrN rfl rfl ?_
            | refine Ev_geqN rfl rfl ?_
            | refine Ev_eqlN rfl rfl ?_
            | refine Ev_neqN rfl rfl ?_
            | refine Ev_lss rfl rfl ?_
            | refine Ev_leq rfl rfl ?_
            | refine Ev_gtr rfl rfl ?_
            | refine Ev_geq rfl rfl ?_
            | refine Ev_eql rfl rfl ?_
            | refine Ev_neq rfl rfl ?_
            | refine Ev_seql rfl rfl ?_
            | refine Ev_sneq rfl rfl ?_
            | refine Ev_not rfl ?_
            | refine Ev_notb rfl ?_
            | refine Ev_nilCheck rfl ?_
            | refine Ev_ptr_eql rfl rfl rfl rfl ?_
            | refine Ev_ptr_neq rfl rfl rfl rfl ?_
            | refine Ev_fieldAddr rfl rfl rfl rfl rfl rfl ?_
            | refine Ev_len_str rfl rfl rfl rfl rfl ?_
            | refine Ev_len rfl rfl rfl rfl rfl rfl ?_
            | refine Ev_min rfl rfl rfl ?_
            | refine Ev_max rfl rfl rfl ?_
            | refine Ev_indexAddr rfl rfl rfl rfl rfl (by first | omega | (dsimp only; done) | (dsimp only; omega)) ?_
            | refine Ev_makeFunc rfl rfl ?_
            | refine Ev_conv_str rfl rfl rfl rfl rfl ?_
            | refine Ev_addN rfl rfl (by simp only [lim]; omega) ?_
            | refine Ev_subN rfl rfl (by simp only [lim]; omega) (by first | omega | (dsimp only; done) | (dsimp only; omega)) ?_
            | refine Ev_mulN rfl rfl (by simp only [lim]; omega) ?_
            | refine Ev_add rfl rfl (by simp only [inR]; omega) ?_
            | refine Ev_sub rfl rfl (by simp only [inR]; omega) ?_
            | refine Ev_mul rfl rfl (by simp only [inR]; omega) ?_
            | refine Ev_shrN (m := 6) (q := 64) rfl rfl rfl rfl ?_
            | refine Ev_shrN (m := 12) (q := 4096) rfl rfl rfl rfl ?_
            | refine Ev_shrN (m := 10) (q := 1024) rfl rfl rfl rfl ?_
            | refine Ev_shrN (m := 8) (q := 256) rfl rfl rfl rfl ?_
            | refine Ev_shrN (m := 4) (q := 16) rfl rfl rfl rfl ?_
            | refine Ev_shrN (m := 5) (q := 32) rfl rfl rfl rfl ?_
            | refine Ev_shrN (m := 7) (q := 128) rfl rfl rfl rfl ?_
            | refine Ev_shrN (m := 3) (q := 8) rfl rfl rfl rfl ?_
            | refine Ev_shrN (m := 18) (q := 262144) rfl rfl rfl rfl ?_
            | refine Ev_shlN (m := 6) (q := 64) rfl rfl rfl rfl (by simp only [lim]; omega) ?_
            | refine Ev_shlN (m := 12) (q := 4096) rfl rfl rfl rfl (by simp only [lim]; omega) ?_
            | refine Ev_shlN (m := 10) (q := 1024) rfl rfl rfl rfl (by simp only [lim]; omega) ?_
            | refine Ev_shlN (m := 8) (q := 256) rfl rfl rfl rfl (by simp only [lim]; omega) ?_
            | refine Ev_andN 3 8 rfl rfl rfl rfl (by simp only [lim]; omega) (by simp only [lim]; omega) ?_
            | refine Ev_andN 4 16 rfl rfl rfl rfl (by simp only [lim]; omega) (by simp only [lim]; omega) ?_
            | refine Ev_andN 5 32 rfl rfl rfl rfl (by simp only [lim]; omega) (by simp only [lim]; omega) ?_
            | refine Ev_andN 6 64 rfl rfl rfl rfl (by simp only [lim]; omega) (by simp only [lim]; omega) ?_
            | refine Ev_andN 10 1024 rfl rfl rfl rfl (by simp only [lim]; omega) (by simp only [lim]; omega) ?_
            | refine Ev_orN 4 rfl rfl rfl (by first | omega | (dsimp only; done) | (dsimp only; omega)) (by first | omega | (dsimp only; done) | (dsimp only; omega)) (by simp only [lim]; omega) ?_
            | refine Ev_orN 5 rfl rfl rfl (by first | omega | (dsimp only; done) | (dsimp only; omega)) (by first | omega | (dsimp only; done) | (dsimp only; omega)) (by simp only [lim]; omega) ?_
            | refine Ev_orN 6 rfl rfl rfl (by first | omega | (dsimp only; done) | (dsimp only; omega)) (by first | omega | (dsimp only; done) | (dsimp only; omega)) (by simp only [lim]; omega) ?_
            | refine Ev_orN 10 rfl rfl rfl (by first | omega | (dsimp only; done) | (dsimp only; omega)) (by first | omega | (dsimp only; done) | (dsimp only; omega)) (by simp only [lim]; omega) ?_
            | refine Ev_orN 12 rfl rfl rfl (by first | omega | (dsimp only; done) | (dsimp only; omega)) (by first | omega | (dsimp only; done) | (dsimp only; omega)) (by simp only [lim]; omega) ?_
            | refine Ev_orN 16 rfl rfl rfl (by first | omega | (dsimp only; done) | (dsimp only; omega)) (by first | omega | (dsimp only; done) | (dsimp only; omega)) (by simp only [lim]; omega) ?_
            | refine Ev_convN rfl rfl rfl rfl rfl (by simp only [lim]; omega) ?_
            | refine Ev_and8 rfl rfl (by first | omega | (dsimp only; done) | (dsimp only; omega)) (by first | omega | (dsimp only; done) | (dsimp only; omega)) (land_192 (by first | omega | (dsimp only; done) | (dsimp only; omega))) (by first | omega | (dsimp only; done) | (dsimp only; omega)) ?_
            | refine Ev_and8 rfl rfl (by first | omega | (dsimp only; done) | (dsimp only; omega)) (by first | omega | (dsimp only; done) | (dsimp only; omega)) (land_224 (by first | omega | (dsimp only; done) | (dsimp only; omega))) (by first | omega | (dsimp only; done) | (dsimp only; omega)) ?_
            | refine Ev_and8 rfl rfl (by first | omega | (dsimp only; done) | (dsimp only; omega)) (by first | omega | (dsimp only; done) | (dsimp only; omega)) (land_240 (by first | omega | (dsimp only; done) | (dsimp only; omega))) (by first | omega | (dsimp only; done) | (dsimp only; omega)) ?_
            | refine Ev_shr rfl rfl rfl rfl ?_
            | refine Ev_conv rfl rfl rfl rfl rfl (by simp only [inR]; omega) ?_
            | refine Ev_conv8 rfl rfl rfl rfl rfl ?_
            | (refine WO_guard_dt rfl rfl rfl rfl rfl (by kernel_rfl) (by kernel_rfl) (fun hg => ?_) (fun hg => ?_) <;> (try dsimp only at hg) <;> try (exfalso; first | omega | exact hg rfl))
            | (refine WO_guard_df rfl rfl rfl rfl rfl (by kernel_rfl) (by kernel_rfl) (fun hg => ?_) (fun hg => ?_) <;> (try dsimp only at hg) <;> try (exfalso; first | omega | exact hg rfl))
            | (refine W_cond rfl (fun hc => ?_) (fun hc => ?_) <;> (try dsimp only at hc) <;> try (exfalso; first | omega | exact hc rfl)))
        refine V_done rfl rfl ?_
        exact ⟨hfr, by rw [hd]; rfl⟩
      | none =>
        have hz : rl l none = some acc := by rw [← heq]; simp
        have hd := ref_dec hb hz hlt
        cases hvs : vS acc with
        | false =>
          rw [hvs, if_neg (by simp)] at hd
          repeat' (
            first
              | refine W_seq ?_
              | refine WO_nil ?_
              | refine V_seq ?_
              | refine W_region ?_
              | refine W_drawn (by kernel_rfl) ?_
              | refine W_block ?_
              | refine W_scope ?_
              | refine W_skip ?_
              | refine W_ret ?_
              | refine W_exit ?_
              | refine W_label ?_
              | refine V_ret ?_
              | refine V_block ?_
              | refine V_block_x rfl ?_
              | refine V_block_y rfl ?_
              | refine V_seq_x ?_
              | refine V_loop_x ?_
              | refine W_cond_t rfl ?_
              | refine W_cond_f rfl ?_
              | refine WO_dst rfl rfl (by kernel_rfl) (by kernel_rfl) ?_
              | refine WO_no rfl rfl ?_
              | refine WO_guard_t rfl rfl rfl rfl rfl (by kernel_rfl) (by kernel_rfl) ?_
              | refine WO_guard_f rfl rfl rfl rfl rfl rfl (by kernel_rfl) (by kernel_rfl) ?_
              | refine WO_guard_x rfl rfl rfl rfl rfl (by kernel_rfl) (by kernel_rfl) ?_
              | refine Ev_move rfl ?_
              | refine Ev_assign rfl ?_
              | refine Ev_extract rfl rfl ?_
              | refine Ev_pick_t rfl rfl rfl ?_
              | refine Ev_pick_f rfl rfl rfl ?_
              | refine Ev_lssN rfl rfl ?_
              | refine Ev_leqN rfl rfl ?_
              | refine Ev_gtrN rfl rfl ?_
              | refine Ev_geqN rfl rfl ?_
              | refine Ev_eqlN rfl rfl ?_
              | refine Ev_neqN rfl rfl ?_
              | refine Ev_lss rfl rfl ?_
              | refine Ev_leq rfl rfl ?_
              | refine Ev_gtr rfl rfl ?_
              | refine Ev_geq rfl rfl ?_
              | refine Ev_eql rfl rfl ?_
              | refine Ev_neq rfl rfl ?_
              | refine Ev_seql rfl rfl ?_
              | refine Ev_sneq rfl rfl ?_
              | refine Ev_not rfl ?_
              | refine Ev_notb rfl ?_
              | refine Ev_nilCheck rfl ?_
              | refine Ev_ptr_eql rfl rfl rfl rfl ?_
              | refine Ev_ptr_neq rfl rfl rfl rfl ?_
              | refine Ev_fieldAddr rfl rfl rfl rfl rfl rfl ?_
              | refine Ev_len_str rfl rfl rfl rfl rfl ?_
              | refine Ev_len rfl rfl rfl rfl rfl rfl ?_
              | refine Ev_min rfl rfl rfl ?_
              | refine Ev_max rfl rfl rfl ?_
              | refine Ev_indexAddr rfl rfl rfl rfl rfl (by first | omega | (dsimp only; done) | (dsimp only; omega)) ?_
              | refine Ev_makeFunc rfl rfl ?_
              | refine Ev_conv_str rfl rfl rfl rfl rfl ?_
              | refine Ev_addN rfl rfl (by simp only [lim]; omega) ?_
              | refine Ev_subN rfl rfl (by simp only [lim]; omega) (by first | omega | (dsimp only; done) | (dsimp only; omega)) ?_
              | refine Ev_mulN rfl rfl (by simp only [lim]; omega) ?_
              | refine Ev_add rfl rfl (by simp only [inR]; omega) ?_
              | refine Ev_sub rfl rfl (by simp only [inR]; omega) ?_
              | refine Ev_mul rfl rfl (by simp only [inR]; omega) ?_
              | refine Ev_shrN (m := 6) (q := 64) rfl rfl rfl rfl ?_
              | refine Ev_shrN (m := 12) (q := 4096) rfl rfl rfl rfl ?_
              | refine Ev_shrN (m := 10) (q := 1024) rfl rfl rfl rfl ?_
              | refine Ev_shrN (m := 8) (q := 256) rfl rfl rfl rfl ?_
              | refine Ev_shrN (m := 4) (q := 16) rfl rfl rfl rfl ?_
              | refine Ev_shrN (m := 5) (q := 32) rfl rfl rfl rfl ?_
              | refine Ev_shrN (m := 7) (q := 128) rfl rfl rfl rfl ?_
              | refine Ev_shrN (m := 3) (q := 8) rfl rfl rfl rfl ?_
              | refine Ev_shrN (m := 18) (q := 262144) rfl rfl rfl rfl ?_
              | refine Ev_shlN (m := 6) (q := 64) rfl rfl rfl rfl (by simp only [lim]; omega) ?_
              | refine Ev_shlN (m := 12) (q := 4096) rfl rfl rfl rfl (by simp only [lim]; omega) ?_
              | refine Ev_shlN (m := 10) (q := 1024) rfl rfl rfl rfl (by simp only [lim]; omega) ?_
              | refine Ev_shlN (m := 8) (q := 256) rfl rfl rfl rfl (by simp only [lim]; omega) ?_
              | refine Ev_andN 3 8 rfl rfl rfl rfl (by simp only [lim]; omega) (by simp only [lim]; omega) ?_
              | refine Ev_andN 4 16 rfl rfl rfl rfl (by simp only [lim]; omega) (by simp only [lim]; omega) ?_
              | refine Ev_andN 5 32 rfl rfl rfl rfl (by simp only [lim]; omega) (by simp only [lim]; omega) ?_
              | refine Ev_andN 6 64 rfl rfl rfl rfl (by simp only [lim]; omega) (by simp only [lim]; omega) ?_
              | refine Ev_andN 10 1024 rfl rfl rfl rfl (by simp only [lim]; omega) (by simp only [lim]; omega) ?_
              | refine Ev_orN 4 rfl rfl rfl (by first | omega | (dsimp only; done) | (dsimp only; omega)) (by first | omega | (dsimp only; done) | (dsimp only; omega)) (by simp only [lim]; omega) ?_
              | refine Ev_orN 5 rfl rfl rfl (by first | omega | (dsimp only; done) | (dsimp only; omega)) (by first | omega | (dsimp only; done) | (dsimp only; omega)) (by simp only [lim]; omega) ?_
              | refine Ev_orN 6 rfl rfl rfl (by first | omega | (dsimp only; done) | (dsimp only; omega)) (by first | omega | (dsimp only; done) | (dsimp only; omega)) (by simp only [lim]; omega) ?_
              | refine Ev_orN 10 rfl rfl rfl (by first | omega | (dsimp only; done) | (dsimp only; omega)) (by first | omega | (dsimp only; done) | (dsimp only; omega)) (by simp only [lim]; omega) ?_
              | refine Ev_orN 12 rfl rfl rfl (by first | omega | (dsimp only; done) | (dsimp only; omega)) (by first | omega | (dsimp only; done) | (dsimp only; omega)) (by simp only [lim]; omega) ?_
              | refine Ev_orN 16 rfl rfl rfl (by first | omega | (dsimp only; done) | (dsimp only; omega)) (by first | omega | (dsimp only; done) | (dsimp only; omega)) (by simp only [lim]; omega) ?_
              | refine Ev_convN rfl rfl rfl rfl rfl (by simp only [lim]; omega) ?_
              | refine Ev_and8 rfl rfl (by first | omega | (dsimp only; done) | (dsimp only; omega)) (by first | omega | (dsimp only; done) | (dsimp only; omega)) (land_192 (by first | omega | (dsimp only; done) | (dsimp only; omega))) (by first | omega | (dsimp only; done) | (dsimp only; omega)) ?_
              | refine Ev_and8 rfl rfl (by first | omega | (dsimp only; done) | (dsimp only; omega)) (by first | omega | (dsimp only; done) | (dsimp only; omega)) (land_224 (by first | omega | (dsimp only; done) | (dsimp only; omega))) (by first | omega | (dsimp only; done) | (dsimp only; omega)) ?_
              | refine Ev_and8 rfl rfl (by first | omega | (dsimp only; done) | (dsimp only; omega)) (by first | omega | (dsimp only; done) | (dsimp only; omega)) (land_240 (by first | omega | (dsimp only; done) | (dsimp only; omega))) (by first | omega | (dsimp only; done) | (dsimp only; omega)) ?_
              | refine Ev_shr rfl rfl rfl rfl ?_
              | refine Ev_conv rfl rfl rfl rfl rfl (by simp only [inR]; omega) ?_
              | refine Ev_conv8 rfl rfl rfl rfl rfl ?_
              | (refine WO_guard_dt rfl rfl rfl rfl rfl (by kernel_rfl) (by kernel_rfl) (fun hg => ?_) (fun hg => ?_) <;> (try dsimp only at hg) <;> try (exfalso; first | omega | exact hg rfl))
              | (refine WO_guard_df rfl rfl rfl rfl rfl (by kernel_rfl) (by kernel_rfl) (fun hg => ?_) (fun hg => ?_) <;> (try dsimp only at hg) <;> try (exfalso; first | omega | exact hg rfl))
              | (refine W_cond rfl (fun hc => ?_) (fun hc => ?_) <;> (try dsimp only at hc) <;> try (exfalso; first | omega | exact hc rfl)))
          refine V_done rfl rfl ?_
          exact ⟨hfr, by rw [hd]; rfl⟩
        | true =>
          rw [hvs, if_pos rfl] at hx
          repeat' (
            first
              | refine W_seq ?_
              | refine WO_nil ?_
              | refine V_seq ?_
              | refine W_region ?_
              | refine W_drawn (by kernel_rfl) ?_
              | refine W_block ?_
              | refine W_scope ?_
              | refine W_skip ?_
              | refine W_ret ?_
              | refine W_exit ?_
              | refine W_label ?_
              | refine V_ret ?_
              | refine V_block ?_
              | refine V_block_x rfl ?_
              | refine V_block_y rfl ?_
              | refine V_seq_x ?_
              | refine V_loop_x ?_
              | refine W_cond_t rfl ?_
              | refine W_cond_f rfl ?_
              | refine WO_dst rfl rfl (by kernel_rfl) (by kernel_rfl) ?_
              | refine WO_no rfl rfl ?_
              | refine WO_guard_t rfl rfl rfl rfl rfl (by kernel_rfl) (by kernel_rfl) ?_
              | refine WO_guard_f rfl rfl rfl rfl rfl rfl (by kernel_rfl) (by kernel_rfl) ?_
              | refine WO_guard_x rfl rfl rfl rfl rfl (by kernel_rfl) (by kernel_rfl) ?_
              | refine Ev_conv_to_str rfl rfl rfl rfl rfl rfl rfl hx.rd (bytesOf_sbytes encS_lt) ?_
              | refine Ev_conv_to_str rfl rfl rfl rfl rfl rfl rfl hv1 (bytesOf_sbytes hb) ?_
              | refine Ev_move rfl ?_
              | refine Ev_assign rfl ?_
              | refine Ev_extract rfl rfl ?_
              | refine Ev_pick_t rfl rfl rfl ?_
              | refine Ev_pick_f rfl rfl rfl ?_
              | refine Ev_lssN rfl rfl ?_
              | refine Ev_leqN rfl rfl ?_
              | refine Ev_gtrN rfl rfl ?_
              | refine Ev_geqN rfl rfl ?_
              | refine Ev_eqlN rfl rfl ?_
              | refine Ev_neqN rfl rfl ?_
              | refine Ev_lss rfl rfl ?_
              | refine Ev_leq rfl rfl ?_
              | refine Ev_gtr rfl rfl ?_
              | refine Ev_geq rfl rfl ?_
              | refine Ev_eql rfl rfl ?_
              | refine Ev_neq rfl rfl ?_
              | refine Ev_seql rfl rfl ?_
              | refine Ev_sneq rfl rfl ?_
              | refine Ev_not rfl ?_
              | refine Ev_notb rfl ?_
              | refine Ev_nilCheck rfl ?_
              | refine Ev_ptr_eql rfl rfl rfl rfl ?_
              | refine Ev_ptr_neq rfl rfl rfl rfl ?_
              | refine Ev_fieldAddr rfl rfl rfl rfl rfl rfl ?_
              | refine Ev_len_str rfl rfl rfl rfl rfl ?_
              | refine Ev_len rfl rfl rfl rfl rfl rfl ?_
              | refine Ev_min rfl rfl rfl ?_
              | refine Ev_max rfl rfl rfl ?_
              | refine Ev_indexAddr rfl rfl rfl rfl rfl (by first | omega | (dsimp only; done) | (dsimp only; omega)) ?_
              | refine Ev_makeFunc rfl rfl ?_
              | refine Ev_conv_str rfl rfl rfl rfl rfl ?_
              | refine Ev_addN rfl rfl (by simp only [lim]; omega) ?_
              | refine Ev_subN rfl rfl (by simp only [lim]; omega) (by first | omega | (dsimp only; done) | (dsimp only; omega)) ?_
              | refine Ev_mulN rfl rfl (by simp only [lim]; omega) ?_
              | refine Ev_add rfl rfl (by simp only [inR]; omega) ?_
              | refine Ev_sub rfl rfl (by simp only [inR]; omega) ?_
              | refine Ev_mul rfl rfl (by simp only [inR]; omega) ?_
              | refine Ev_shrN (m := 6) (q := 64) rfl rfl rfl rfl ?_
              | refine Ev_shrN (m := 12) (q := 4096) rfl rfl rfl rfl ?_
              | refine Ev_shrN (m := 10) (q := 1024) rfl rfl rfl rfl ?_
              | refine Ev_shrN (m := 8) (q := 256) rfl rfl rfl rfl ?_
              | refine Ev_shrN (m := 4) (q := 16) rfl rfl rfl rfl ?_
              | refine Ev_shrN (m := 5) (q := 32) rfl rfl rfl rfl ?_
              | refine Ev_shrN (m := 7) (q := 128) rfl rfl rfl rfl ?_
              | refine Ev_shrN (m := 3) (q := 8) rfl rfl rfl rfl ?_
              | refine Ev_shrN (m := 18) (q := 262144) rfl rfl rfl rfl ?_
              | refine Ev_shlN (m := 6) (q := 64) rfl rfl rfl rfl (by simp only [lim]; omega) ?_
              | refine Ev_shlN (m := 12) (q := 4096) rfl rfl rfl rfl (by simp only [lim]; omega) ?_
              | refine Ev_shlN (m := 10) (q := 1024) rfl rfl rfl rfl (by simp only [lim]; omega) ?_
              | refine Ev_shlN (m := 8) (q := 256) rfl rfl rfl rfl (by simp only [lim]; omega) ?_
              | refine Ev_andN 3 8 rfl rfl rfl rfl (by simp only [lim]; omega) (by simp only [lim]; omega) ?_
              | refine Ev_andN 4 16 rfl rfl rfl rfl (by simp only [lim]; omega) (by simp only [lim]; omega) ?_
              | refine Ev_andN 5 32 rfl rfl rfl rfl (by simp only [lim]; omega) (by simp only [lim]; omega) ?_
              | refine Ev_andN 6 64 rfl rfl rfl rfl (by simp only [lim]; omega) (by simp only [lim]; omega) ?_
              | refine Ev_andN 10 1024 rfl rfl rfl rfl (by simp only [lim]; omega) (by simp only [lim]; omega) ?_
              | refine Ev_orN 4 rfl rfl rfl (by first | omega | (dsimp only; done) | (dsimp only; omega)) (by first | omega | (dsimp only; done) | (dsimp only; omega)) (by simp only [lim]; omega) ?_
              | refine Ev_orN 5 rfl rfl rfl (by first | omega | (dsimp only; done) | (dsimp only; omega)) (by first | omega | (dsimp only; done) | (dsimp only; omega)) (by simp only [lim]; omega) ?_
              | refine Ev_orN 6 rfl rfl rfl (by first | omega | (dsimp only; done) | (dsimp only; omega)) (by first | omega | (dsimp only; done) | (dsimp only; omega)) (by simp only [lim]; omega) ?_
              | refine Ev_orN 10 rfl rfl rfl (by first | omega | (dsimp only; done) | (dsimp only; omega)) (by first | omega | (dsimp only; done) | (dsimp only; omega)) (by simp only [lim]; omega) ?_
              | refine Ev_orN 12 rfl rfl rfl (by first | omega | (dsimp only; done) | (dsimp only; omega)) (by first | omega | (dsimp only; done) | (dsimp only; omega)) (by simp only [lim]; omega) ?_
              | refine Ev_orN 16 rfl rfl rfl (by first | omega | (dsimp only; done) | (dsimp only; omega)) (by first | omega | (dsimp only; done) | (dsimp only; omega)) (by simp only [lim]; omega) ?_
              | refine Ev_convN rfl rfl rfl rfl rfl (by simp only [lim]; omega) ?_
              | refine Ev_and8 rfl rfl (by first | omega | (dsimp only; done) | (dsimp only; omega)) (by first | omega | (dsimp only; done) | (dsimp only; omega)) (land_192 (by first | omega | (dsimp only; done) | (dsimp only; omega))) (by first | omega | (dsimp only; done) | (dsimp only; omega)) ?_
              | refine Ev_and8 rfl rfl (by first | omega | (dsimp only; done) | (dsimp only; omega)) (by first | omega | (dsimp only; done) | (dsimp only; omega)) (land_224 (by first | omega | (dsimp only; done) | (dsimp only; omega))) (by first | omega | (dsimp only; done) | (dsimp only; omega)) ?_
              | refine Ev_and8 rfl rfl (by first | omega | (dsimp only; done) | (dsimp only; omega)) (by first | omega | (dsimp only; done) | (dsimp only; omega)) (land_240 (by first | omega | (dsimp only; done) | (dsimp only; omega))) (by first | omega | (dsimp only; done) | (dsimp only; omega)) ?_
              | refine Ev_shr rfl rfl rfl rfl ?_
              | refine Ev_conv rfl rfl rfl rfl rfl (by simp only [inR]; omega) ?_
              | refine Ev_conv8 rfl rfl rfl rfl rfl ?_
              | (refine WO_guard_dt rfl rfl rfl rfl rfl (by kernel_rfl) (by kernel_rfl) (fun hg => ?_) (fun hg => ?_) <;> (try dsimp only at hg) <;> try (exfalso; first | omega | exact hg rfl))
              | (refine WO_guard_df rfl rfl rfl rfl rfl (by kernel_rfl) (by kernel_rfl) (fun hg => ?_) (fun hg => ?_) <;> (try dsimp only at hg) <;> try (exfalso; first | omega | exact hg rfl))
              | (refine W_cond rfl (fun hc => ?_) (fun hc => ?_) <;> (try dsimp only at hc) <;> try (exfalso; first | omega | exact hc rfl)))
          · rw [if_neg (fun h => hc h.2)] at hd
            refine V_done rfl rfl ?_
            exact ⟨hfr, by rw [hd]; rfl⟩
          · rw [if_pos ⟨hvs, Decidable.not_not.1 hc⟩] at hd
            refine V_done rfl rfl ?_
            exact ⟨hfr, by rw [hd]; rfl⟩
  · exact ⟨rfl, Nat.zero_le _, by cases h : rl l none <;> simp [h], fun m h => (by cases h), by simp, by simp⟩
end Go.Proofs.YtnlfcoojlgdgaaaDoor
/- caraferef1.Reader: what its functions do. -/



namespace Go.Proofs.YtnlfcoojlgdgaaaDoor
open GX
set_option maxHeartbeats 8000000
/-- a reader -/
structure Rq (S : St) (p : Nat) (vb : AV) (b : List Nat) (r : RdS) : Prop where
  cell : S.h.get p = some (.cells 59 [vb, .int .i64 ((r.pos : Nat) : Int), .bool (decide (r.err ≠ 0)), .int .i64 r.err, .int .i64 r.at_] false)
  rd : Rd S vb 1 (sbytes b) b.length
  ne : blkOf vb ≠ some p
  le : r.pos ≤ b.length
theorem Rq.fr {S S' : St} {p : Nat} {vb : AV} {b : List Nat} {r : RdS} {k : Nat} (h : Rq S p vb b r) (hok : Sok S) (a : Fr S S' .nils k) : Rq S' p vb b r :=
  ⟨by rw [a.same p (by simp [blkOf]) (hok _ _ h.cell)]; exact h.cell, h.rd.keep (fun c hc => a.same c (by simp [blkOf]) (h.rd.lt hok hc)), h.ne, h.le⟩
theorem veq_bool (b : Bool) : veq (.bool b) (.bool b) = true := by cases b <;> rfl
theorem qrefuse_runs {S : St} {p : Nat} {vb : AV} {b : List Nat} {r : RdS} {c a : Int} (hok : Sok S) (h : Rq S p vb b r) (hn : S.n ≤ 1000000000) (hc0 : c ≠ 0) :
    Runs X1 56 [.ptr p 0, .int .i64 c, .int .i64 a] S fun _ S' => Rq S' p vb b (r.refuse c a) ∧ FrP S S' p := by
  have hp : p < S.n := hok _ _ h.cell
  refine Runs_fn (m := 22) (by kernel_rfl) Tryd.func56 rfl (by kernel_rfl) (by kernel_rfl) ?_
  repeat' (
    first
      | refine W_seq ?_
      | refine WO_nil ?_
      | refine V_seq ?_
      | refine W_region ?_
      | refine W_skip ?_
      | refine WO_dst rfl rfl (by kernel_rfl) (by kernel_rfl) ?_
      | refine WO_no rfl rfl ?_
      | refine Ev_load rfl rfl rfl h.cell rfl (veq_bool _) ?_
      | refine Ev_move rfl ?_
      | refine Ev_not rfl ?_
      | refine Ev_nilCheck rfl ?_
      | refine Ev_fieldAddr rfl rfl rfl rfl rfl rfl ?_
      | (refine W_cond rfl (fun hc => ?_) (fun hc => ?_) <;> (try dsimp only at hc) <;> try (exfalso; first | omega | exact hc rfl)))
  · have he : r.err = 0 := by omega
    refine Ev_store1 rfl rfl rfl rfl rfl rfl h.cell (by simp) (by omega) ?_
    intro S1 hn1 hq1 hf1
    repeat (
      first
        | refine W_seq ?_
        | refine WO_nil ?_
        | refine V_seq ?_
        | refine W_region ?_
        | refine WO_dst rfl rfl (by kernel_rfl) (by kernel_rfl) ?_
        | refine WO_no rfl rfl ?_
        | refine Ev_move rfl ?_
        | refine Ev_nilCheck rfl ?_
        | refine Ev_fieldAddr rfl rfl rfl rfl rfl rfl ?_)
    refine Ev_store1 rfl rfl rfl rfl rfl rfl hq1 (by simp [lput]) (by omega) ?_
    intro S2 hn2 hq2 hf2
    repeat (
      first
        | refine WO_nil ?_
        | refine V_seq ?_
        | refine W_region ?_
        | refine WO_dst rfl rfl (by kernel_rfl) (by kernel_rfl) ?_
        | refine WO_no rfl rfl ?_
        | refine Ev_move rfl ?_
        | refine Ev_nilCheck rfl ?_
        | refine Ev_fieldAddr rfl rfl rfl rfl rfl rfl ?_)
    refine Ev_store1 rfl rfl rfl rfl rfl rfl hq2 (by simp [lput]) (by omega) ?_
    intro S3 hn3 hq3 hf3
    repeat (
      refine WO_nil ?_)
    refine V_done rfl rfl ?_
    have hok1 := Sok.upd hok hp hn1 hq1 hf1
    have hok2 := Sok.upd hok1 (by omega) hn2 hq2 hf2
    have hr : r.refuse c a = { r with err := c, at_ := a } := by unfold RdS.refuse; rw [if_pos ⟨he, hc0⟩]
    refine ⟨⟨by rw [hr, hq3]; dsimp only; rw [decide_eq_true hc0]; rfl, h.rd.keep (fun d hd => ?_), h.ne, by rw [hr]; exact h.le⟩, ⟨by omega, Sok.upd hok2 (by omega) hn3 hq3 hf3, fun d hd => by rw [hf3 d hd, hf2 d hd, hf1 d hd]⟩⟩
    have hdp : d ≠ p := fun e => h.ne (by rw [hd, e])
    rw [hf3 d hdp, hf2 d hdp, hf1 d hdp]
  all_goals
    refine V_done rfl rfl ?_
    have hr : r.refuse c a = r := by unfold RdS.refuse; rw [if_neg (by omega)]
    rw [hr]; exact ⟨h, FrP.refl hok⟩
theorem take_zero (r : RdS) (b : List Nat) : r.take b 0 = ([], r) := by
  unfold RdS.take
  split
  · rfl
  · rw [if_neg (by omega), List.take_zero, Nat.add_zero]
theorem qbytes_runs {S : St} {p : Nat} {vb : AV} {b : List Nat} {r : RdS} {n : Int} (hok : Sok S) (h : Rq S p vb b r) (hn : S.n + 2 ≤ 1000000000) (hb : b.length ≤ 1000000000) (hm : n < 9223372036854775808) :
    Runs X1 33 [.ptr p 0, .int .i64 n] S fun v S' => Rq S' p vb b (r.take b n.toNat).2 ∧ FrQ S S' p 2 ∧ Rd S' v 1 (sbytes (r.take b n.toNat).1) (r.take b n.toNat).1.length ∧ ∀ c, blkOf v = some c → S.n ≤ c := by
  have hp : p < S.n := hok _ _ h.cell
  have hle := h.le
  refine Runs_fn (m := 60) (by kernel_rfl) Tryd.func33 rfl (by kernel_rfl) (by kernel_rfl) ?_
  by_cases hneg : n < 0
  · rw [show n.toNat = 0 by omega, take_zero]
    repeat' (
      first
        | refine W_seq ?_
        | refine WO_nil ?_
        | refine V_seq ?_
        | refine W_region ?_
        | refine W_ret ?_
        | refine V_ret ?_
        | refine W_cond_t rfl ?_
        | refine WO_dst rfl rfl (by kernel_rfl) (by kernel_rfl) ?_
        | refine WO_guard_t rfl rfl rfl rfl rfl (by kernel_rfl) (by kernel_rfl) ?_
        | refine WO_guard_f rfl rfl rfl rfl rfl rfl (by kernel_rfl) (by kernel_rfl) ?_
        | refine Ev_load rfl rfl rfl h.cell rfl (veq_bool _) ?_
        | refine Ev_move rfl ?_
        | refine Ev_assign rfl ?_
        | refine Ev_pick_t rfl rfl rfl ?_
        | refine Ev_pick_f rfl rfl rfl ?_
        | refine Ev_lss rfl rfl ?_
        | refine Ev_nilCheck rfl ?_
        | refine Ev_fieldAddr rfl rfl rfl rfl rfl rfl ?_
        | (refine WO_guard_df rfl rfl rfl rfl rfl (by kernel_rfl) (by kernel_rfl) (fun hg => ?_) (fun hg => ?_) <;> (try dsimp only at hg) <;> try (exfalso; first | omega | exact hg rfl))
        | (refine W_cond rfl (fun hc => ?_) (fun hc => ?_) <;> (try dsimp only at hc) <;> try (exfalso; first | omega | exact hc rfl)))
    all_goals
      refine V_done rfl rfl ?_
      exact ⟨h, (Fr.q (k := 2) ⟨Nat.le_refl _, by omega, hok, fun _ _ _ => rfl⟩), ⟨rfl, rfl, rfl, rfl, rfl, rfl⟩, fun c hc => by cases hc⟩
  · obtain ⟨m, rfl⟩ : ∃ m : Nat, n = (m : Int) := ⟨n.toNat, by omega⟩
    rw [Int.toNat_natCast]
    repeat' (
      first
        | refine W_seq ?_
        | refine WO_nil ?_
        | refine V_seq ?_
        | refine W_region ?_
        | refine W_drawn (by kernel_rfl) ?_
        | refine W_skip ?_
        | refine W_ret ?_
        | refine V_ret ?_
        | refine W_cond_t rfl ?_
        | refine W_cond_f rfl ?_
        | refine WO_dst rfl rfl (by kernel_rfl) (by kernel_rfl) ?_
        | refine WO_guard_t rfl rfl rfl rfl rfl (by kernel_rfl) (by kernel_rfl) ?_
        | refine WO_guard_f rfl rfl rfl rfl rfl rfl (by kernel_rfl) (by kernel_rfl) ?_
        | refine Ev_load rfl rfl rfl h.cell rfl (veq_bool _) ?_
        | refine Ev_load rfl rfl rfl h.cell rfl (veq_int _ _) ?_
        | refine Ev_load rfl rfl rfl h.cell rfl h.rd.self ?_
        | refine Ev_len rfl rfl rfl rfl rfl h.rd.len ?_
        | refine Ev_move rfl ?_
        | refine Ev_assign rfl ?_
        | refine Ev_pick_t rfl rfl rfl ?_
        | refine Ev_pick_f rfl rfl rfl ?_
        | refine Ev_lssN rfl rfl ?_
        | refine Ev_nilCheck rfl ?_
        | refine Ev_fieldAddr rfl rfl rfl rfl rfl rfl ?_
        | refine Ev_addN rfl rfl (by simp only [lim]; omega) ?_
        | refine Ev_subN rfl rfl (by simp only [lim]; omega) (by first | omega | (dsimp only; done) | (dsimp only; omega)) ?_
        | (refine WO_guard_df rfl rfl rfl rfl rfl (by kernel_rfl) (by kernel_rfl) (fun hg => ?_) (fun hg => ?_) <;> (try dsimp only at hg) <;> try (exfalso; first | omega | exact hg rfl))
        | (refine W_cond rfl (fun hc => ?_) (fun hc => ?_) <;> (try dsimp only at hc) <;> try (exfalso; first | omega | exact hc rfl)))
    · refine Ev_call rfl rfl ((qrefuse_runs hok h (by omega) (by decide)).mono ?_)
      rintro _ S1 - ⟨h1, hF1⟩
      repeat (
        first
          | refine W_seq ?_
          | refine WO_nil ?_
          | refine V_seq ?_
          | refine W_region ?_
          | refine W_ret ?_
          | refine V_ret ?_
          | refine WO_dst rfl rfl (by kernel_rfl) (by kernel_rfl) ?_
          | refine Ev_assign rfl ?_)
      refine V_done rfl rfl ?_
      have e : r.take b m = ([], r.refuse 10 (b.length : Int)) := by unfold RdS.take; rw [if_neg hg, if_pos hc]
      rw [e]
      have hq := hF1.q
      exact ⟨h1, ⟨hq.le, by have := hq.n; omega, hq.ok, hq.same⟩, ⟨rfl, rfl, rfl, rfl, rfl, rfl⟩, fun c hc => by cases hc⟩
    · refine Ev_slice_lh rfl rfl rfl rfl rfl rfl h.rd (by omega) (by omega) ?_
      intro v' hv' hbv
      have e : r.take b m = ((b.drop r.pos).take m, { r with pos := r.pos + m }) := by unfold RdS.take; rw [if_neg hg, if_neg hc]
      have hml : ((b.drop r.pos).take m).length = m := by simp only [List.length_take, List.length_drop]; omega
      have hv2 : Rd S v' 1 (sbytes ((b.drop r.pos).take m)) ((b.drop r.pos).take m).length := by
        refine hv'.eq ?_ (by omega)
        unfold sbytes
        simp only [Nat.mul_one, List.map_take, List.map_drop, List.drop_take]
        congr 1
        omega
      repeat (
        first
          | refine W_seq ?_
          | refine WO_nil ?_
          | refine V_seq ?_
          | refine W_region ?_
          | refine WO_dst rfl rfl (by kernel_rfl) (by kernel_rfl) ?_
          | refine WO_no rfl rfl ?_
          | refine Ev_load rfl rfl rfl h.cell rfl (veq_int _ _) ?_
          | refine Ev_move rfl ?_
          | refine Ev_assign rfl ?_
          | refine Ev_nilCheck rfl ?_
          | refine Ev_fieldAddr rfl rfl rfl rfl rfl rfl ?_
          | refine Ev_addN rfl rfl (by simp only [lim]; omega) ?_)
      refine Ev_store1 rfl rfl rfl rfl rfl rfl h.cell (by simp) (by omega) ?_
      intro S1 hn1 hq1 hf1
      have hk : ∀ d, blkOf vb = some d → S1.h.get d = S.h.get d := fun d hd => hf1 d (fun e2 => h.ne (by rw [hd, e2]))
      have hok1 := Sok.upd hok hp hn1 hq1 hf1
      have hv3 := hv2.keep (fun d hd => hk d (hbv d hd))
      repeat (
        first
          | refine W_seq ?_
          | refine WO_nil ?_
          | refine V_seq ?_
          | refine W_region ?_
          | refine WO_dst rfl rfl (by kernel_rfl) (by kernel_rfl) ?_)
      refine Ev_buildSlice rfl rfl rfl rfl rfl rfl hok1 (by omega) ?_
      intro S2 hn2 hok2 hq2 hf2
      have hv4 := hv3.keep (fun d hd => hf2 d (hv3.lt hok1 hd))
      repeat (
        first
          | refine WO_dst rfl rfl (by kernel_rfl) (by kernel_rfl) ?_
          | refine Ev_move rfl ?_)
      refine Ev_append_gz (cs := []) (m := 0) rfl rfl rfl rfl rfl rfl rfl rfl rfl rfl (.inr ⟨rfl, rfl, S1.n, 0, rfl, Rd_lit hq2 rfl (by kernel_rfl)⟩) hv4 (by first | exact sbytes_one _ | (unfold sbytes; simp [AV.one])) hok2 (by omega) (by dsimp only; omega) (by omega) ?_
      intro v3 S3 hle3 hn3 hok3 hown3 hf3 hb3
      repeat (
        first
          | refine WO_nil ?_
          | refine V_seq ?_
          | refine W_ret ?_
          | refine WO_dst rfl rfl (by kernel_rfl) (by kernel_rfl) ?_
          | refine Ev_assign rfl ?_)
      refine V_done rfl rfl ?_
      rw [e]
      have hsame : ∀ c, c < S1.n → S3.h.get c = S1.h.get c := fun c h => by rw [hf3 c (fun h2 => by cases h2; omega) (by omega), hf2 c h]
      refine ⟨⟨by rw [hsame p (by omega)]; exact hq1, h.rd.keep (fun d hd => ?_), h.ne, by dsimp only; omega⟩, ⟨by omega, by omega, hok3, fun c h1 h2 => by rw [hsame c (by omega), hf1 c h1]⟩, (hown3.eq rfl (by dsimp only; omega)).rd, fun c hc => ?_⟩
      · have := h.rd.lt hok hd
        rw [hsame d (by omega), hk d hd]
      · rcases hb3 c hc with h2 | h2
        · cases h2; omega
        · omega
    · refine V_done rfl rfl ?_
      have e : r.take b m = ([], r) := by unfold RdS.take; rw [if_pos (by omega)]
      rw [e]
      exact ⟨h, (Fr.q (k := 2) ⟨Nat.le_refl _, by omega, hok, fun _ _ _ => rfl⟩), ⟨rfl, rfl, rfl, rfl, rfl, rfl⟩, fun c hc => by cases hc⟩
end Go.Proofs.YtnlfcoojlgdgaaaDoor
/- caraferef1.Reader's other functions. -/

namespace Go.Proofs.YtnlfcoojlgdgaaaDoor
open GX
set_option maxHeartbeats 8000000
theorem qnum_runs {S : St} {p : Nat} {vb : AV} {b : List Nat} {r : RdS} {n : Int} (hok : Sok S) (h : Rq S p vb b r) (hn : S.n + 2 ≤ 1000000000) (hb : b.length ≤ 1000000000) (hlt : ∀ x ∈ b, x < 256) :
    Runs X1 30 [.ptr p 0, .int .i64 n] S fun v S' => v = .int .i64 (numV (r.take b (sizeN n)).1) ∧ Rq S' p vb b (r.take b (sizeN n)).2 ∧ FrQ S S' p 2 := by
  have hsz := sizeN_le n
  refine Runs_fn (m := 25) (by kernel_rfl) Tryd.func30 rfl (by kernel_rfl) (by kernel_rfl) ?_
  repeat (
    first
      | refine W_seq ?_
      | refine WO_nil ?_
      | refine V_seq ?_
      | refine W_region ?_
      | refine WO_dst rfl rfl (by kernel_rfl) (by kernel_rfl) ?_
      | refine Ev_move rfl ?_
      | refine Ev_assign rfl ?_)
  refine Ev_call rfl rfl ((width_runs n S).mono ?_)
  rintro _ _ - ⟨rfl, rfl⟩
  repeat (
    refine WO_dst rfl rfl (by kernel_rfl) (by kernel_rfl) ?_)
  refine Ev_call rfl rfl ((qbytes_runs hok h hn hb (by omega)).mono ?_)
  rintro v S1 - ⟨h1, hF1, hv, hbv⟩
  rw [Int.toNat_natCast] at h1 hv
  obtain ⟨t, ht⟩ : ∃ t, t = (r.take b (sizeN n)).1 := ⟨_, rfl⟩
  rw [← ht] at hv ⊢
  have htl : t.length ≤ sizeN n := by rw [ht]; exact take_len _ _ _
  have htb : ∀ x ∈ t, x < 256 := by rw [ht]; exact take_lt hlt
  repeat (
    first
      | refine WO_nil ?_
      | refine V_seq ?_
      | refine W_block ?_
      | refine WO_dst rfl rfl (by kernel_rfl) (by kernel_rfl) ?_
      | refine Ev_len rfl rfl rfl rfl rfl hv.len ?_
      | refine Ev_move rfl ?_)
  refine W_inv (fun i : Nat => [(13, .int .i64 ((i : Nat) : Int)), (12, .int .i64 ((t.length : Nat) : Int)), (11, v), (5, .int .u64 ((numOf (t.take i) : Nat) : Int))]) (fun i T => T = S1 ∧ i ≤ t.length) (fun i => t.length - i) ?_ 0 ⟨rfl, Nat.zero_le _⟩ ⟨rfl, rfl, rfl, rfl, trivial⟩
  rintro i T ⟨rfl, hi⟩ back
  have hacc := numOf_lt i (t.take i) (by rw [List.length_take]; omega) (fun x hx => htb x (List.mem_of_mem_take hx))
  have h7 : i < t.length → numOf (t.take i) < 72057594037927936 := fun h => Nat.lt_of_lt_of_le hacc (Nat.pow_le_pow_right (n := 256) (by omega) (show i ≤ 7 by omega))
  have hx : i < t.length → t.getD i 0 < 256 := fun h => by
    rw [List.getD_eq_getElem?_getD, List.getElem?_eq_getElem h]
    exact htb _ (List.getElem_mem h)
  have hsn := fun h => numOf_take (l := t) (i := i) h
  repeat' (
    first
      | refine W_seq ?_
      | refine WO_nil ?_
      | refine V_seq ?_
      | refine W_region ?_
      | refine W_block ?_
      | refine W_skip ?_
      | refine W_exit ?_
      | refine V_block ?_
      | refine V_block_x rfl ?_
      | refine V_seq_x ?_
      | refine V_loop_x ?_
      | refine WO_dst rfl rfl (by kernel_rfl) (by kernel_rfl) ?_
      | (refine Ev_indexAddr_rd rfl rfl rfl rfl rfl hv (by first | omega | (dsimp only; omega)) ?_; intro q hq)
      | refine Ev_load_pt rfl rfl rfl hq (by dsimp only; rw [Nat.mul_one]; exact sbytes_get (by first | omega | (dsimp only; omega))) (veq_int _ _) ?_
      | refine Ev_orN 8 rfl rfl rfl (by first | omega | (dsimp only; omega)) (by first | omega | (dsimp only; omega)) (by simp only [lim]; omega) ?_
      | refine Ev_move rfl ?_
      | refine Ev_assign rfl ?_
      | refine Ev_lssN rfl rfl ?_
      | refine Ev_addN rfl rfl (by simp only [lim]; omega) ?_
      | refine Ev_shlN (m := 8) (q := 256) rfl rfl rfl rfl (by simp only [lim]; omega) ?_
      | refine Ev_convN rfl rfl rfl rfl rfl (by simp only [lim]; omega) ?_
      | (refine W_cond rfl (fun hc => ?_) (fun hc => ?_) <;> (try dsimp only at hc) <;> try (exfalso; first | omega | exact hc rfl)))
  · refine back (i + 1) T _ (by omega) ⟨rfl, by omega⟩ ⟨rfl, rfl, rfl, ?_, trivial⟩
    show some (AV.int .u64 ((numOf (List.take i t) * 256 + t.getD i 0 : Nat) : Int)) = some (AV.int .u64 ((numOf (List.take (i + 1) t) : Nat) : Int))
    rw [hsn (by omega)]
  all_goals
    have hi2 : i = t.length := by omega
    subst hi2
    repeat (
      first
        | refine WO_nil ?_
        | refine V_seq ?_
        | refine W_ret ?_
        | refine WO_dst rfl rfl (by kernel_rfl) (by kernel_rfl) ?_
        | refine Ev_convw (k' := .i64) rfl rfl rfl rfl rfl ?_
        | refine Ev_assign rfl ?_)
    refine V_done rfl rfl ?_
    refine ⟨?_, h1, hF1⟩
    show AV.int .i64 (wrp .i64 ((numOf (t.take t.length) : Nat) : Int)) = AV.int .i64 (numV t)
    rw [List.take_length]; rfl
theorem qfail_runs {S : St} {p : Nat} {vb : AV} {b : List Nat} {r : RdS} {c : Int} (hok : Sok S) (h : Rq S p vb b r) (hn : S.n ≤ 1000000000) :
    Runs X1 35 [.ptr p 0, .int .i64 c] S fun _ S' => Rq S' p vb b (r.refuse c (r.pos : Int)) ∧ FrP S S' p := by
  refine Runs_fn (m := 13) (by kernel_rfl) Tryd.func35 rfl (by kernel_rfl) (by kernel_rfl) ?_
  repeat' (
    first
      | refine W_seq ?_
      | refine WO_nil ?_
      | refine V_seq ?_
      | refine W_region ?_
      | refine W_skip ?_
      | refine WO_dst rfl rfl (by kernel_rfl) (by kernel_rfl) ?_
      | refine Ev_load rfl rfl rfl h.cell rfl (veq_int _ _) ?_
      | refine Ev_move rfl ?_
      | refine Ev_neq rfl rfl ?_
      | refine Ev_nilCheck rfl ?_
      | refine Ev_fieldAddr rfl rfl rfl rfl rfl rfl ?_
      | (refine W_cond rfl (fun hc => ?_) (fun hc => ?_) <;> (try dsimp only at hc) <;> try (exfalso; first | omega | exact hc rfl)))
  · refine Ev_call rfl rfl ((qrefuse_runs hok h hn (by assumption)).mono ?_)
    rintro _ S1 - ⟨h1, hF1⟩
    repeat (
      refine WO_nil ?_)
    refine V_done rfl rfl ?_
    exact ⟨h1, hF1⟩
  · refine V_done rfl rfl ?_
    have hr : r.refuse c (r.pos : Int) = r := by unfold RdS.refuse; rw [if_neg (by omega)]
    rw [hr]; exact ⟨h, FrP.refl hok⟩
theorem qend_runs {S : St} {p : Nat} {vb : AV} {b : List Nat} {r : RdS} (h : Rq S p vb b r) :
    Runs X1 37 [.ptr p 0] S fun v S' => S' = S ∧ v = .tup [.int .i64 (r.endOf b).1, .int .i64 (r.endOf b).2] := by
  refine Runs_fn (m := 30) (by kernel_rfl) Tryd.func37 rfl (by kernel_rfl) (by kernel_rfl) ?_
  repeat' (
    first
      | refine W_seq ?_
      | refine WO_nil ?_
      | refine V_seq ?_
      | refine W_region ?_
      | refine W_drawn (by kernel_rfl) ?_
      | refine W_skip ?_
      | refine W_ret ?_
      | refine V_ret ?_
      | refine WO_dst rfl rfl (by kernel_rfl) (by kernel_rfl) ?_
      | refine Ev_load rfl rfl rfl h.cell rfl (veq_bool _) ?_
      | refine Ev_load rfl rfl rfl h.cell rfl (veq_int _ _) ?_
      | refine Ev_load rfl rfl rfl h.cell rfl h.rd.self ?_
      | refine Ev_len rfl rfl rfl rfl rfl h.rd.len ?_
      | refine Ev_move rfl ?_
      | refine Ev_assign rfl ?_
      | refine Ev_lssN rfl rfl ?_
      | refine Ev_nilCheck rfl ?_
      | refine Ev_fieldAddr rfl rfl rfl rfl rfl rfl ?_
      | (refine W_cond rfl (fun hc => ?_) (fun hc => ?_) <;> (try dsimp only at hc) <;> try (exfalso; first | omega | exact hc rfl)))
  · refine V_done rfl rfl ?_
    refine ⟨rfl, ?_⟩
    unfold RdS.endOf; rw [if_pos (by assumption)]; rfl
  · refine V_done rfl rfl ?_
    refine ⟨rfl, ?_⟩
    unfold RdS.endOf; rw [if_neg (by assumption), if_pos (by assumption)]; rfl
  · refine V_done rfl rfl ?_
    refine ⟨rfl, ?_⟩
    unfold RdS.endOf; rw [if_neg (by assumption), if_neg (by assumption)]; rfl
theorem qleft_runs {S : St} {p : Nat} {vb : AV} {b : List Nat} {r : RdS} (hb : b.length ≤ 1000000000) (h : Rq S p vb b r) :
    Runs X1 39 [.ptr p 0] S fun v S' => S' = S ∧ v = .int .i64 ((r.left b : Nat) : Int) := by
  have hle := h.le
  refine Runs_fn (m := 17) (by kernel_rfl) Tryd.func39 rfl (by kernel_rfl) (by kernel_rfl) ?_
  repeat' (
    first
      | refine W_seq ?_
      | refine WO_nil ?_
      | refine V_seq ?_
      | refine W_region ?_
      | refine W_drawn (by kernel_rfl) ?_
      | refine W_skip ?_
      | refine W_ret ?_
      | refine V_ret ?_
      | refine WO_dst rfl rfl (by kernel_rfl) (by kernel_rfl) ?_
      | refine Ev_load rfl rfl rfl h.cell rfl (veq_bool _) ?_
      | refine Ev_load rfl rfl rfl h.cell rfl (veq_int _ _) ?_
      | refine Ev_load rfl rfl rfl h.cell rfl h.rd.self ?_
      | refine Ev_len rfl rfl rfl rfl rfl h.rd.len ?_
      | refine Ev_move rfl ?_
      | refine Ev_assign rfl ?_
      | refine Ev_nilCheck rfl ?_
      | refine Ev_fieldAddr rfl rfl rfl rfl rfl rfl ?_
      | refine Ev_subN rfl rfl (by simp only [lim]; omega) (by first | omega | (dsimp only; done) | (dsimp only; omega)) ?_
      | (refine W_cond rfl (fun hc => ?_) (fun hc => ?_) <;> (try dsimp only at hc) <;> try (exfalso; first | omega | exact hc rfl)))
  · refine V_done rfl rfl ?_
    refine ⟨rfl, ?_⟩
    unfold RdS.left; rw [if_pos (by assumption)]; rfl
  · refine V_done rfl rfl ?_
    refine ⟨rfl, ?_⟩
    unfold RdS.left; rw [if_neg (by assumption)]; rfl
end Go.Proofs.YtnlfcoojlgdgaaaDoor
/- caraferef1.Reader.Text. -/

namespace Go.Proofs.YtnlfcoojlgdgaaaDoor
open GX
set_option maxHeartbeats 8000000
theorem refuse_zero (r : RdS) (a : Int) : r.refuse 0 a = r := by unfold RdS.refuse; rw [if_neg (fun h => h.2 rfl)]
theorem refuse_err {r : RdS} {c a : Int} (hc : c ≠ 0) : (r.refuse c a).err ≠ 0 := by
  unfold RdS.refuse; split
  · exact hc
  · rename_i h; exact fun e => h ⟨e, hc⟩
theorem take_err {r : RdS} {b : List Nat} {n : Nat} (h : r.err ≠ 0) : r.take b n = ([], r) := by unfold RdS.take; rw [if_pos h]
theorem take_err2 {r : RdS} {b : List Nat} {n : Nat} (h : (r.take b n).2.err ≠ 0) : (r.take b n).1 = [] := by
  unfold RdS.take at h ⊢
  split at h <;> rename_i h1
  · rw [if_pos h1]
  · rw [if_neg h1]
    split at h <;> rename_i h2
    · rw [if_pos h2]
    · exact absurd h h1
theorem qtext_runs {S : St} {p : Nat} {vb : AV} {b : List Nat} {r : RdS} (hok : Sok S) (h : Rq S p vb b r) (hb : b.length ≤ 10000000) (hn : S.n ≤ 90000000) (hlt : ∀ x ∈ b, x < 256) :
    Runs X1 32 [.ptr p 0] S fun v S' => v = .str (r.text b).1 ∧ Rq S' p vb b (r.text b).2 ∧ FrQ S S' p 1200000 := by
  refine Runs_fn (m := 38) (by kernel_rfl) Tryd.func32 rfl (by kernel_rfl) (by kernel_rfl) ?_
  repeat (
    first
      | refine W_seq ?_
      | refine WO_nil ?_
      | refine V_seq ?_
      | refine W_region ?_
      | refine WO_dst rfl rfl (by kernel_rfl) (by kernel_rfl) ?_
      | refine Ev_move rfl ?_
      | refine Ev_assign rfl ?_)
  refine Ev_call rfl rfl ((qnum_runs hok h (by omega) (by omega) hlt).mono ?_)
  rintro _ S1 - ⟨rfl, h1, hF1⟩
  rw [size2] at h1 ⊢
  have hx2 := take_len r b 2
  have hxb := take_lt (r := r) (n := 2) hlt
  have hnl := numOf_lt _ _ rfl hxb
  have hpw : 256 ^ (r.take b 2).1.length ≤ 65536 := Nat.pow_le_pow_right (n := 256) (by omega) hx2
  rw [numV_small (by omega)]
  obtain ⟨m, hm⟩ : ∃ m, m = numOf (r.take b 2).1 := ⟨_, rfl⟩
  obtain ⟨r1, hr1⟩ : ∃ r1, r1 = (r.take b 2).2 := ⟨_, rfl⟩
  rw [← hm] at hnl ⊢
  rw [← hr1] at h1
  have hn1 := hF1.n
  repeat' (
    first
      | refine W_seq ?_
      | refine WO_nil ?_
      | refine V_seq ?_
      | refine W_region ?_
      | refine W_skip ?_
      | refine WO_dst rfl rfl (by kernel_rfl) (by kernel_rfl) ?_
      | refine Ev_load rfl rfl rfl h1.cell rfl (veq_int _ _) ?_
      | refine Ev_move rfl ?_
      | refine Ev_assign rfl ?_
      | refine Ev_gtrN rfl rfl ?_
      | refine Ev_nilCheck rfl ?_
      | refine Ev_fieldAddr rfl rfl rfl rfl rfl rfl ?_
      | (refine W_cond rfl (fun hc => ?_) (fun hc => ?_) <;> (try dsimp only at hc) <;> try (exfalso; first | omega | exact hc rfl)))
  · refine Ev_call rfl rfl ((qrefuse_runs hF1.ok h1 (by omega) (by decide)).mono ?_)
    rintro _ S2 - ⟨h2, hF2⟩
    repeat (
      first
        | refine W_seq ?_
        | refine WO_nil ?_
        | refine V_seq ?_
        | refine W_region ?_
        | refine W_ret ?_
        | refine V_ret ?_
        | refine WO_dst rfl rfl (by kernel_rfl) (by kernel_rfl) ?_
        | refine Ev_assign rfl ?_)
    refine V_done rfl rfl ?_
    have e : r.text b = ([], r1.refuse 3 (r1.pos : Int)) := by
      unfold RdS.text; dsimp only; rw [← hm, ← hr1, if_pos hc, take_err (refuse_err (by decide))]
      dsimp only
      rw [decS_nil, show (some ([] : List Nat)).isSome = true from rfl, if_pos rfl, refuse_zero]; rfl
    rw [e]
    have hq := hF1.trans hF2.q
    exact ⟨rfl, h2, ⟨hq.le, by have := hq.n; omega, hq.ok, hq.same⟩⟩
  · refine Ev_call rfl rfl ((qbytes_runs hF1.ok h1 (by omega) (by omega) (by omega)).mono ?_)
    rintro v S3 - ⟨h3, hF3, hv3, -⟩
    rw [Int.toNat_natCast] at h3 hv3
    obtain ⟨u, hu⟩ : ∃ u, u = (RdS.take r1 b m).1 := ⟨_, rfl⟩
    obtain ⟨r3, hr3⟩ : ∃ r3, r3 = (RdS.take r1 b m).2 := ⟨_, rfl⟩
    rw [← hu] at hv3
    rw [← hr3] at h3
    have hul : u.length ≤ 65536 := by have := take_len r1 b m; rw [← hu] at this; omega
    have hub : ∀ x ∈ u, x < 256 := by rw [hu]; exact take_lt hlt
    have hn3 := hF3.n
    have e : r.text b = ((decS u).getD [], r3.refuse (if (decS u).isSome = true then 0 else 12) (r3.pos : Int)) := by
      unfold RdS.text; dsimp only; rw [← hm, ← hr1, if_neg hc, ← hu, ← hr3]
    rw [e]
    have hq := hF1.trans hF3
    repeat' (
      first
        | refine W_seq ?_
        | refine WO_nil ?_
        | refine V_seq ?_
        | refine W_region ?_
        | refine W_skip ?_
        | refine W_ret ?_
        | refine V_ret ?_
        | refine WO_dst rfl rfl (by kernel_rfl) (by kernel_rfl) ?_
        | refine Ev_load rfl rfl rfl h3.cell rfl (veq_bool _) ?_
        | refine Ev_move rfl ?_
        | refine Ev_assign rfl ?_
        | refine Ev_nilCheck rfl ?_
        | refine Ev_fieldAddr rfl rfl rfl rfl rfl rfl ?_
        | (refine W_cond rfl (fun hc => ?_) (fun hc => ?_) <;> (try dsimp only at hc) <;> try (exfalso; first | omega | exact hc rfl)))
    · have he := hc
      refine V_done rfl rfl ?_
      have hu0 : u = [] := by rw [hu]; exact take_err2 (by rw [← hr3]; exact he)
      rw [hu0, decS_nil, show (some ([] : List Nat)).isSome = true from rfl, if_pos rfl, refuse_zero]
      exact ⟨rfl, h3, ⟨hq.le, by have := hq.n; omega, hq.ok, hq.same⟩⟩
    · refine Ev_call rfl rfl ((rdec_runs hF3.ok hv3 hub (by omega) (by omega)).mono ?_)
      rintro _ S4 - ⟨hF4, rfl⟩
      have h4 := h3.fr hF3.ok hF4
      have hq4 := hq.trans hF4.q
      have hn4 := hF4.n
      by_cases hs : (decS u).isSome = true
      · rw [if_pos hs, refuse_zero]
        repeat' (
          first
            | refine W_seq ?_
            | refine WO_nil ?_
            | refine V_seq ?_
            | refine W_region ?_
            | refine W_skip ?_
            | refine W_ret ?_
            | refine W_cond_f rfl ?_
            | refine WO_dst rfl rfl (by kernel_rfl) (by kernel_rfl) ?_
            | refine Ev_move rfl ?_
            | refine Ev_assign rfl ?_
            | refine Ev_extract rfl rfl ?_
            | refine Ev_neqN rfl rfl ?_)
        refine V_done rfl rfl ?_
        exact ⟨rfl, h4, ⟨hq4.le, by have := hq4.n; omega, hq4.ok, hq4.same⟩⟩
      · rw [if_neg hs]
        repeat' (
          first
            | refine W_seq ?_
            | refine WO_nil ?_
            | refine V_seq ?_
            | refine W_region ?_
            | refine W_cond_t rfl ?_
            | refine WO_dst rfl rfl (by kernel_rfl) (by kernel_rfl) ?_
            | refine Ev_load rfl rfl rfl h4.cell rfl (veq_int _ _) ?_
            | refine Ev_move rfl ?_
            | refine Ev_assign rfl ?_
            | refine Ev_extract rfl rfl ?_
            | refine Ev_neqN rfl rfl ?_
            | refine Ev_nilCheck rfl ?_
            | refine Ev_fieldAddr rfl rfl rfl rfl rfl rfl ?_)
        refine Ev_call rfl rfl ((qrefuse_runs hF4.ok h4 (by omega) (by decide)).mono ?_)
        rintro _ S5 - ⟨h5, hF5⟩
        have hq5 := hq4.trans hF5.q
        repeat (
          first
            | refine W_seq ?_
            | refine WO_nil ?_
            | refine V_seq ?_
            | refine W_region ?_
            | refine W_ret ?_
            | refine WO_dst rfl rfl (by kernel_rfl) (by kernel_rfl) ?_
            | refine Ev_move rfl ?_
            | refine Ev_assign rfl ?_)
        refine V_done rfl rfl ?_
        exact ⟨rfl, h5, ⟨hq5.le, by have := hq5.n; omega, hq5.ok, hq5.same⟩⟩
end Go.Proofs.YtnlfcoojlgdgaaaDoor
/- mutf.NewReader; carafebook.Same. -/

namespace Go.Proofs.YtnlfcoojlgdgaaaDoor
open GX
set_option maxHeartbeats 8000000
theorem newrd_runs {S : St} {v : AV} {b : List Nat} (hok : Sok S) (hv : Rd S v 1 (sbytes b) b.length) (hb : b.length ≤ 1000000000) (hn : S.n + 3 ≤ 1000000000) :
    Runs X1 23 [v] S fun x S' => ∃ p vb, x = .ptr p 0 ∧ S.n ≤ p ∧ p < S'.n ∧ Rr S' p vb b ⟨0, 0, 0⟩ ∧ (∀ c, blkOf vb = some c → S.n ≤ c) ∧ Fr S S' .nils 3 := by
  refine Runs_fn (m := 7) (by kernel_rfl) Tryd.func23 rfl (by kernel_rfl) (by kernel_rfl) ?_
  repeat (
    first
      | refine W_seq ?_
      | refine WO_nil ?_
      | refine V_seq ?_
      | refine W_region ?_
      | refine WO_dst rfl rfl (by kernel_rfl) (by kernel_rfl) ?_
      | refine Ev_move rfl ?_
      | refine Ev_assign rfl ?_)
  refine Ev_call rfl rfl ((clone_runs hok hv hb (by omega)).mono ?_)
  rintro w S1 - ⟨hF1, hz, hb1⟩
  have hn1 := hF1.n
  have hl1 := hF1.le
  have hwr := hz.rd
  repeat (
    refine WO_dst rfl rfl (by kernel_rfl) (by kernel_rfl) ?_)
  refine Ev_build (v := .agg [w, .int .i64 0, .int .i64 0, .int .i64 0]) rfl ?_ ?_
  · have hs := hwr.sl
    cases w <;> first | rfl | cases hs
  repeat (
    refine WO_dst rfl rfl (by kernel_rfl) (by kernel_rfl) ?_)
  refine Ev_box rfl hF1.ok (by omega) ?_
  intro S2 hn2 hok2 hq2 hf2
  repeat (
    first
      | refine WO_nil ?_
      | refine V_seq ?_
      | refine W_ret ?_
      | refine WO_dst rfl rfl (by kernel_rfl) (by kernel_rfl) ?_
      | refine Ev_assign rfl ?_)
  refine V_done rfl rfl ?_
  refine ⟨S1.n, w, rfl, by omega, by omega, ⟨hq2, hwr.keep (fun c hc => hf2 c (hwr.lt hF1.ok hc)), fun e => ?_, Nat.zero_le _⟩, hb1, ⟨by omega, by omega, hok2, fun c _ h => by rw [hf2 c (by omega), hF1.same c (by simp [blkOf]) h]⟩⟩
  have := hwr.lt hF1.ok e; omega
/-- the same bytes -/
theorem same_runs {S : St} {v w : AV} {l : List Nat} (hv : Rd S v 1 (sbytes l) l.length) (hw : Rd S w 1 (sbytes l) l.length) (hl : l.length ≤ 1000000000) :
    Runs X1 52 [v, w] S fun r S' => r = .bool true ∧ S' = S := by
  refine Runs_fn (m := 26) (by kernel_rfl) Tryd.func52 rfl (by kernel_rfl) (by kernel_rfl) ?_
  repeat' (
    first
      | refine W_seq ?_
      | refine WO_nil ?_
      | refine V_seq ?_
      | refine W_region ?_
      | refine W_block ?_
      | refine W_skip ?_
      | refine WO_dst rfl rfl (by kernel_rfl) (by kernel_rfl) ?_
      | refine Ev_len rfl rfl rfl rfl rfl hv.len ?_
      | refine Ev_len rfl rfl rfl rfl rfl hw.len ?_
      | refine Ev_move rfl ?_
      | refine Ev_assign rfl ?_
      | refine Ev_neqN rfl rfl ?_
      | (refine W_cond rfl (fun hc => ?_) (fun hc => ?_) <;> (try dsimp only at hc) <;> try (exfalso; first | omega | exact hc rfl)))
  refine W_inv (fun i : Nat => [(5, .int .i64 ((i : Nat) : Int)), (0, v), (1, w)]) (fun i T => T = S ∧ i ≤ l.length) (fun i => l.length - i) ?_ 0 ⟨rfl, Nat.zero_le _⟩ ⟨rfl, rfl, rfl, trivial⟩
  rintro i T ⟨rfl, hi⟩ back
  repeat' (
    first
      | refine W_seq ?_
      | refine WO_nil ?_
      | refine V_seq ?_
      | refine W_region ?_
      | refine W_drawn (by kernel_rfl) ?_
      | refine W_block ?_
      | refine W_skip ?_
      | refine W_ret ?_
      | refine W_exit ?_
      | refine V_block ?_
      | refine V_block_x rfl ?_
      | refine V_seq_x ?_
      | refine V_loop_x ?_
      | refine WO_dst rfl rfl (by kernel_rfl) (by kernel_rfl) ?_
      | refine Ev_len rfl rfl rfl rfl rfl hv.len ?_
      | (refine Ev_indexAddr_rd rfl rfl rfl rfl rfl hv (by first | omega | (dsimp only; omega)) ?_; intro q hq)
      | (refine Ev_indexAddr_rd rfl rfl rfl rfl rfl hw (by first | omega | (dsimp only; omega)) ?_; intro q' hq')
      | refine Ev_load_pt rfl rfl rfl hq (by dsimp only; rw [Nat.mul_one]; exact sbytes_get (by first | omega | (dsimp only; omega))) (veq_int _ _) ?_
      | refine Ev_load_pt rfl rfl rfl hq' (by dsimp only; rw [Nat.mul_one]; exact sbytes_get (by first | omega | (dsimp only; omega))) (veq_int _ _) ?_
      | refine Ev_move rfl ?_
      | refine Ev_assign rfl ?_
      | refine Ev_lssN rfl rfl ?_
      | refine Ev_neqN rfl rfl ?_
      | refine Ev_addN rfl rfl (by simp only [lim]; omega) ?_
      | (refine W_cond rfl (fun hc => ?_) (fun hc => ?_) <;> (try dsimp only at hc) <;> try (exfalso; first | omega | exact hc rfl)))
  · exact back (i + 1) T _ (by omega) ⟨rfl, by omega⟩ ⟨rfl, rfl, rfl, trivial⟩
  · refine V_done rfl rfl ?_
    exact ⟨rfl, rfl⟩
end Go.Proofs.YtnlfcoojlgdgaaaDoor
/- carafebook.Intact. -/

namespace Go.Proofs.YtnlfcoojlgdgaaaDoor
open GX
set_option maxHeartbeats 8000000
/-- bytes with room behind them -/
def roomy (l : List Nat) : List Nat := l ++ List.replicate 80 165
theorem roomy_len (l : List Nat) : (roomy l).length = l.length + 80 := by simp [roomy]
theorem roomy_get {l : List Nat} {i : Nat} (h1 : l.length ≤ i) (h2 : i < l.length + 80) : (roomy l).getD i 0 = 165 := by
  unfold roomy
  rw [List.getD_eq_getElem?_getD, List.getElem?_append_right h1, List.getElem?_replicate, if_pos (by omega)]; rfl
theorem intact_runs {S : St} {v w : AV} {l : List Nat} (hv : Rd S v 1 (sbytes (roomy l)) (roomy l).length) (hw : Rd S w 1 (sbytes l) l.length) (hl : l.length ≤ 1000000000) :
    Runs X1 40 [v, w, .int .u8 165] S fun r S' => r = .bool true ∧ S' = S := by
  have hrl := roomy_len l
  refine Runs_fn (m := 37) (by kernel_rfl) Tryd.func40 rfl (by kernel_rfl) (by kernel_rfl) ?_
  repeat' (
    first
      | refine W_seq ?_
      | refine WO_nil ?_
      | refine V_seq ?_
      | refine W_region ?_
      | refine WO_dst rfl rfl (by kernel_rfl) (by kernel_rfl) ?_
      | refine WO_guard_t rfl rfl rfl rfl rfl (by kernel_rfl) (by kernel_rfl) ?_
      | refine Ev_len rfl rfl rfl rfl rfl hv.len ?_
      | refine Ev_len rfl rfl rfl rfl rfl hw.len ?_
      | refine Ev_move rfl ?_
      | refine Ev_assign rfl ?_
      | refine Ev_neqN rfl rfl ?_
      | refine Ev_addN rfl rfl (by simp only [lim]; omega) ?_
      | (refine WO_guard_df rfl rfl rfl rfl rfl (by kernel_rfl) (by kernel_rfl) (fun hg => ?_) (fun hg => ?_) <;> (try dsimp only at hg) <;> try (exfalso; first | omega | exact hg rfl)))
  refine Ev_slice_hi rfl rfl rfl rfl rfl hv (by omega) ?_
  intro v' hv' _
  have hv2 : Rd S v' 1 (sbytes l) l.length := by
    refine hv'.eq ?_ rfl
    unfold sbytes roomy
    simp only [Nat.mul_one, List.map_append]
    rw [List.take_append_of_le_length (by simp), List.take_of_length_le (by simp)]
  repeat (
    first
      | refine WO_dst rfl rfl (by kernel_rfl) (by kernel_rfl) ?_
      | refine WO_guard_t rfl rfl rfl rfl rfl (by kernel_rfl) (by kernel_rfl) ?_
      | refine Ev_move rfl ?_)
  refine Ev_call rfl rfl ((same_runs hv2 hw hl).mono ?_)
  rintro _ _ - ⟨rfl, rfl⟩
  rename_i S
  repeat' (
    first
      | refine W_seq ?_
      | refine WO_nil ?_
      | refine V_seq ?_
      | refine W_region ?_
      | refine W_block ?_
      | refine W_skip ?_
      | refine W_cond_f rfl ?_
      | refine WO_dst rfl rfl (by kernel_rfl) (by kernel_rfl) ?_
      | refine WO_guard_t rfl rfl rfl rfl rfl (by kernel_rfl) (by kernel_rfl) ?_
      | refine Ev_len rfl rfl rfl rfl rfl hw.len ?_
      | refine Ev_move rfl ?_
      | refine Ev_assign rfl ?_
      | refine Ev_pick_f rfl rfl rfl ?_
      | refine Ev_notb rfl ?_)
  refine W_inv (fun i : Nat => [(7, .int .i64 ((i : Nat) : Int)), (0, v), (2, .int .u8 165)]) (fun i T => T = S ∧ l.length ≤ i ∧ i ≤ l.length + 80) (fun i => l.length + 80 - i) ?_ l.length ⟨rfl, Nat.le_refl _, by omega⟩ ⟨rfl, rfl, rfl, trivial⟩
  rintro i T ⟨rfl, hi, hi2⟩ back
  have hg := fun h => roomy_get (l := l) hi h
  repeat' (
    first
      | refine W_seq ?_
      | refine WO_nil ?_
      | refine V_seq ?_
      | refine W_region ?_
      | refine W_block ?_
      | refine W_skip ?_
      | refine W_ret ?_
      | refine W_exit ?_
      | refine V_block ?_
      | refine V_block_x rfl ?_
      | refine V_seq_x ?_
      | refine V_loop_x ?_
      | refine WO_dst rfl rfl (by kernel_rfl) (by kernel_rfl) ?_
      | refine Ev_len rfl rfl rfl rfl rfl hv.len ?_
      | (refine Ev_indexAddr_rd rfl rfl rfl rfl rfl hv (by first | omega | (dsimp only; omega)) ?_; intro q hq)
      | refine Ev_load_pt rfl rfl rfl hq (by dsimp only; rw [Nat.mul_one]; exact sbytes_get (by first | omega | (dsimp only; omega))) (veq_int _ _) ?_
      | refine Ev_move rfl ?_
      | refine Ev_assign rfl ?_
      | refine Ev_lssN rfl rfl ?_
      | refine Ev_neqN rfl rfl ?_
      | refine Ev_addN rfl rfl (by simp only [lim]; omega) ?_
      | (refine W_cond rfl (fun hc => ?_) (fun hc => ?_) <;> (try dsimp only at hc) <;> try (exfalso; first | omega | exact hc rfl)))
  · exact back (i + 1) T _ (by omega) ⟨rfl, by omega, by omega⟩ ⟨rfl, rfl, rfl, trivial⟩
  all_goals
    refine V_done rfl rfl ?_
    exact ⟨rfl, rfl⟩
end Go.Proofs.YtnlfcoojlgdgaaaDoor
/- GX: reasoning about runs: make. -/

namespace GX
noncomputable section
open Go
section
variable {X : X} {l : L} {S : St} {R : AV → St → Prop} {x y : Operand} {t : Nat}
theorem Ev_makeSlice {m c el : Nat} {i ei : TI} (hx : od l x = some (.int .i64 ((m : Nat) : Int))) (hy : od l y = some (.int .i64 ((c : Nat) : Int))) (hi : X.ti t = some i) (hd : i.desc = .slice el) (he' : X.ti el = some ei) (hmc : m ≤ c) (hb : ei.bytes * c ≤ 1048576000000) (hc : c ≤ 1048576000000) (hz : (!(Nat.beq ei.size 0) && Nat.beq ei.zero.length ei.size) = true) (hok : Sok S) (hn : S.n < 1000000000)
    (hR : ∀ S', S'.n = S.n + 1 → Sok S' → S'.h.get S.n = some (.cells el (rep ei.zero c) false) → (∀ c, c < S.n → S'.h.get c = S.h.get c) → R (.slice S.n 0 m (.ex c)) S') : Ev X l S (.makeSlice t x y) R := by
  refine Ev_mk (fun e he => ⟨rfl, ?_⟩) hok hn hR
  unfold allocOp; dsimp only; rw [hi]; dsimp only; rw [hd]; dsimp only; rw [he']; dsimp only; rw [od_ok he hx, od_ok he hy]
  show (bif Nat.ble m c && Nat.ble (ei.bytes * c) 1048576000000 && Nat.ble c 1048576000000 && !(Nat.beq ei.size 0) && Nat.beq ei.zero.length ei.size then _ else none) = _
  rw [nble, nble, nble, decide_eq_true hmc, decide_eq_true hb, decide_eq_true hc, Bool.and_self, Bool.and_self, Bool.true_and, hz]; rfl
/-- a copy of a whole slice into a greater one -/
theorem Ev_copy {xs : Array Operand} {ts : Array TypeId} {tr : List TypeId} {i ei : TI} {el b o dl k ty : Nat} {q : Cap} {vx : AV} {new cs : List AV} {sp : Bool} (hxs : xs.toList = [x, y]) (hts : ts.toList = t :: tr) (hx : od l x = some (.slice b o dl q)) (hy : od l y = some vx) (hi : X.ti t = some i) (hd : i.desc = .slice el) (he' : X.ti el = some ei)
    (hnew : Rd S vx ei.size new k) (hone : new.all AV.one = true) (hk : k ≤ dl) (hb : S.h.get b = some (.cells ty cs sp)) (hle : o + new.length ≤ cs.length) (hn : b < 1000000000)
    (hR : ∀ S', S'.n = S.n → S'.h.get b = some (.cells ty (lput cs o new) sp) → (∀ c, c ≠ b → S'.h.get c = S.h.get c) → R (.int .i64 ((k : Nat) : Int)) S') : Ev X l S (.call { callee := .builtin .copy, args := xs, argTypes := ts }) R := by
  have hst : storeAt S b o new = some (S.put b (.cells ty (lput cs o new) sp)) := by
    unfold storeAt; rw [hb]; dsimp only; rw [nble, decide_eq_true hle, hone]; rfl
  refine Ev_loud (S' := S.put b (.cells ty (lput cs o new) sp)) (v := .int .i64 ((k : Nat) : Int)) (fun e he => ⟨rfl, ?_⟩) (Nat.le_refl _) (hR _ rfl ?_ ?_)
  · unfold loudOp; dsimp only; rw [hxs, hts]; dsimp only; rw [od_ok he hx, od_ok he hy]; dsimp only
    unfold acopy; rw [hi]; dsimp only; rw [hd]; dsimp only; rw [he']; dsimp only; rw [srcLen_of hnew.len]; dsimp only
    rw [nble, decide_eq_true hk]; simp only [cond_true]; rw [hnew.cells]; dsimp only; rw [hst]; rfl
  · rw [get_put hn, if_pos rfl]
  · intro c hc; rw [get_put hn, if_neg hc]
end
end
end GX
/- carafebook.Roomy. -/


namespace Go.Proofs.YtnlfcoojlgdgaaaDoor
open GX
set_option maxHeartbeats 8000000
theorem rep_sbytes : ∀ n : Nat, rep [AV.int .u8 0] n = sbytes (List.replicate n 0)
  | 0 => rfl
  | n + 1 => by
    show [AV.int .u8 0] ++ rep [AV.int .u8 0] n = _
    rw [rep_sbytes n]; rfl
theorem lput_sbytes0 : ∀ (a c : List Nat), a.length ≤ c.length → lput (sbytes c) 0 (sbytes a) = sbytes (a ++ c.drop a.length)
  | [], c, _ => by cases c <;> rfl
  | x :: a, [], h => by simp at h
  | x :: a, y :: c, h => by
    show AV.int .u8 x :: lput (sbytes c) 0 (sbytes a) = _
    rw [lput_sbytes0 a c (by simpa using h)]; rfl
theorem lput_sbytes1 : ∀ (a : List Nat) (x y : Nat) (c : List Nat), lput (sbytes (a ++ x :: c)) a.length [AV.int .u8 (y : Int)] = sbytes (a ++ y :: c)
  | [], x, y, c => by
    show AV.int .u8 y :: lput (sbytes c) 0 [] = _
    cases c <;> rfl
  | z :: a, x, y, c => by
    show AV.int .u8 z :: lput (sbytes (a ++ x :: c)) a.length [AV.int .u8 (y : Int)] = _
    rw [lput_sbytes1 a x y c]; rfl
theorem roomy_runs {S : St} {v : AV} {l : List Nat} (hok : Sok S) (hv : Rd S v 1 (sbytes l) l.length) (hl : l.length ≤ 100000000) (hn : S.n + 1 ≤ 1000000000) :
    Runs X1 28 [v, .int .u8 165] S fun r S' => ∃ p, r = .slice p 0 (l.length + 80) (.ex (l.length + 80)) ∧ S.n ≤ p ∧ Rd S' r 1 (sbytes (roomy l)) (roomy l).length ∧ Fr S S' .nils 1 := by
  refine Runs_fn (m := 27) (by kernel_rfl) Tryd.func28 rfl (by kernel_rfl) (by kernel_rfl) ?_
  repeat' (
    first
      | refine W_seq ?_
      | refine WO_nil ?_
      | refine V_seq ?_
      | refine W_region ?_
      | refine WO_dst rfl rfl (by kernel_rfl) (by kernel_rfl) ?_
      | refine Ev_len rfl rfl rfl rfl rfl hv.len ?_
      | refine Ev_move rfl ?_
      | refine Ev_assign rfl ?_
      | refine Ev_addN rfl rfl (by simp only [lim]; omega) ?_)
  refine Ev_makeSlice rfl rfl rfl rfl rfl (Nat.le_refl _) (by show 1 * (l.length + 80) ≤ _; omega) (by show l.length + 80 ≤ _; omega) rfl hok (by omega) ?_
  intro S1 hn1 hok1 hq1 hf1
  have hv1 := hv.keep (fun c h => hf1 c (hv.lt hok h))
  repeat (
    first
      | refine W_seq ?_
      | refine WO_nil ?_
      | refine V_seq ?_
      | refine W_region ?_
      | refine WO_dst rfl rfl (by kernel_rfl) (by kernel_rfl) ?_
      | refine Ev_move rfl ?_
      | refine Ev_assign rfl ?_)
  refine Ev_copy rfl rfl rfl rfl rfl rfl rfl hv1 (sbytes_one l) (by omega) hq1 ?_ (by omega) ?_
  · show 0 + (sbytes l).length ≤ (rep [AV.int .u8 0] (l.length + 80)).length
    rw [rep_sbytes, sbytes_len, sbytes_len, List.length_replicate]; omega
  intro S2 hn2 hq2 hf2
  have hq3 : S2.h.get S.n = some (.cells 5 (sbytes (l ++ List.replicate 80 0)) false) := by
    rw [hq2]
    show some (AB.cells 5 (lput (rep [AV.int .u8 0] (l.length + 80)) 0 (sbytes l)) false) = _
    rw [rep_sbytes, lput_sbytes0 _ _ (by simp), List.drop_replicate, Nat.add_sub_cancel_left]
  repeat' (
    first
      | refine W_seq ?_
      | refine WO_nil ?_
      | refine V_seq ?_
      | refine W_region ?_
      | refine W_block ?_
      | refine WO_dst rfl rfl (by kernel_rfl) (by kernel_rfl) ?_
      | refine Ev_len rfl rfl rfl rfl rfl hv.len ?_
      | refine Ev_move rfl ?_
      | refine Ev_assign rfl ?_)
  refine W_inv (fun j : Nat => [(6, .int .i64 ((l.length + j : Nat) : Int)), (5, .slice S.n 0 (l.length + 80) (.ex (l.length + 80))), (1, .int .u8 165)]) (fun j T => T.n = S2.n ∧ j ≤ 80 ∧ T.h.get S.n = some (.cells 5 (sbytes (l ++ (List.replicate j 165 ++ List.replicate (80 - j) 0))) false) ∧ ∀ c, c ≠ S.n → T.h.get c = S2.h.get c) (fun j => 80 - j) ?_ 0 ⟨rfl, Nat.zero_le _, hq3, fun _ _ => rfl⟩ ⟨rfl, rfl, rfl, trivial⟩
  rintro j T ⟨hnT, hj, hqT, hfT⟩ back
  repeat' (
    first
      | refine W_seq ?_
      | refine WO_nil ?_
      | refine V_seq ?_
      | refine W_region ?_
      | refine W_block ?_
      | refine W_skip ?_
      | refine W_ret ?_
      | refine W_exit ?_
      | refine V_block_x rfl ?_
      | refine V_seq_x ?_
      | refine V_loop_x ?_
      | refine WO_dst rfl rfl (by kernel_rfl) (by kernel_rfl) ?_
      | refine WO_no rfl rfl ?_
      | refine Ev_move rfl ?_
      | refine Ev_assign rfl ?_
      | refine Ev_lssN rfl rfl ?_
      | refine Ev_len rfl rfl rfl rfl rfl rfl ?_
      | refine Ev_indexAddr rfl rfl rfl rfl rfl (by first | omega | (dsimp only; done) | (dsimp only; omega)) ?_
      | (refine W_cond rfl (fun hc => ?_) (fun hc => ?_) <;> (try dsimp only at hc) <;> try (exfalso; first | omega | exact hc rfl)))
  · refine Ev_store1 rfl rfl rfl rfl rfl rfl hqT ?_ (by omega) ?_
    · show 0 + (l.length + j) * 1 + 1 ≤ _
      rw [sbytes_len]; simp only [List.length_append, List.length_replicate]; omega
    intro T2 gn gq gf
    have hjj : (80 - j) = (80 - (j + 1)) + 1 := by omega
    repeat (
      first
        | refine WO_nil ?_
        | refine V_seq ?_
        | refine W_region ?_
        | refine V_block ?_
        | refine WO_dst rfl rfl (by kernel_rfl) (by kernel_rfl) ?_
        | refine Ev_move rfl ?_
        | refine Ev_assign rfl ?_
        | refine Ev_addN rfl rfl (by simp only [lim]; omega) ?_)
    refine back (j + 1) T2 _ (by omega) ⟨by omega, by omega, ?_, fun c hc => by rw [gf c hc, hfT c hc]⟩ ⟨rfl, rfl, rfl, trivial⟩
    rw [gq]
    show some (AB.cells 5 (lput (sbytes (l ++ (List.replicate j 165 ++ List.replicate (80 - j) 0))) (0 + (l.length + j) * 1) [AV.int .u8 ((165 : Nat) : Int)]) false) = _
    rw [hjj, List.replicate_succ, ← List.append_assoc, show 0 + (l.length + j) * 1 = (l ++ List.replicate j 165).length by simp, lput_sbytes1]
    congr 3
    rw [List.replicate_succ', List.append_assoc, List.append_assoc]; rfl
  all_goals
    have hj2 : j = 80 := by omega
    subst hj2
    repeat (
      refine W_seq ?_)
    refine V_done rfl rfl ?_
    have hq9 : T.h.get S.n = some (.cells 5 (sbytes (roomy l)) false) := by rw [hqT]; unfold roomy; rw [Nat.sub_self]; simp
    refine ⟨S.n, rfl, Nat.le_refl _, ?_, ⟨by omega, by omega, fun c x hc => ?_, fun c _ h => by rw [hfT c (by omega), hf2 c (by omega), hf1 c h]⟩⟩
    · have hrl := roomy_len l
      have h8 := Rd_lit (m := l.length + 80) (sz := 1) (cap := .ex (l.length + 80)) hq9 (by rw [sbytes_len, hrl, Nat.mul_one]) (by simp [capW])
      exact h8.eq rfl hrl.symm
    · by_cases he : c = S.n
      · omega
      · rw [hfT c he, hf2 c he] at hc
        have := hok1 c x hc; omega
end Go.Proofs.YtnlfcoojlgdgaaaDoor
/- GX: a region that draws its order, where a read may look at what operations ahead of it have made, if later loud operations leave that alone. -/

namespace GX
open Go
/-- what a block holds, from one operation on (or from the start) -/
structure Fct where
  id : Nat
  x : AB
  src : Option Nat
def FPD (X : X) (D : List Fct) (ms : List Nat) (i : Nat) (e : Env) (op : Op) (v : AV) : Prop := ∀ H : Tr AB, (∀ f ∈ D, (∀ j, f.src = some j → inM ms i j = true) → H.get f.id = some f.x) → readOp X e H op = some v
/-- a run in the text's order, where reads that are not ordered look at known blocks, and loud operations leave these alone -/
def RunF (X : X) (rec : Rec) (n : Nat) (all : List Oper) : List Fct → List Oper → Nat → Env → St → Env → St → Prop
  | _, [], _, e, S, e', S' => e' = e ∧ S' = S
  | D, o :: os, i, e, S, e', S' =>
    (wanted all e o = true ∧ ∃ v S1 e1 N, oper X rec e S o.op = some (v, S1) ∧ setDst n e o.dst v = some e1 ∧ rdv (cls X e o.op) v = true ∧
      (cls X e o.op = .read → rdStat (masks all []) (all.map (fun o => sk X o.op)) i = true ∨ FPD X D (masks all []) i e o.op v) ∧
      (isLC (cls X e o.op) = true → ∀ f ∈ D, S1.h.get f.id = some f.x) ∧
      (∀ f ∈ N, f.src = some i ∧ f.id < S1.n ∧ S1.h.get f.id = some f.x ∧ (isLC (cls X e o.op) = true ∨ cls X e o.op = .alloc ∧ f.id = S.n)) ∧ RunF X rec n all (D ++ N) os (i + 1) e1 S1 e' S') ∨
    (wanted all e o = false ∧ ∃ e1, setDst n e o.dst (.tup []) = some e1 ∧ RunF X rec n all D os (i + 1) e1 S e' S')
theorem RunF_le {X : X} {rec rec' : Rec} (hr : RecLe rec rec') {n : Nat} {all : List Oper} : ∀ {D : List Fct} {os : List Oper} {i : Nat} {e : Env} {S : St} {e' S'}, RunF X rec n all D os i e S e' S' → RunF X rec' n all D os i e S e' S'
  | _, [], _, _, _, _, _, h => h
  | _, o :: os, i, e, S, e', S', h => by
    unfold RunF at h ⊢
    rcases h with ⟨hw, v, S1, e1, N, h1, h2, h3, h4, h5, h6, h7⟩ | ⟨hw, e1, h1, h2⟩
    · exact .inl ⟨hw, v, S1, e1, N, oper_le hr h1, h2, h3, h4, h5, h6, RunF_le hr h7⟩
    · exact .inr ⟨hw, e1, h1, RunF_le hr h2⟩
theorem RunF_n {X : X} {rec : Rec} {n : Nat} {all : List Oper} : ∀ {D : List Fct} {os : List Oper} {i : Nat} {e : Env} {S : St} {e' S'}, RunF X rec n all D os i e S e' S' → S.n ≤ S'.n
  | _, [], _, _, _, _, _, h => by unfold RunF at h; rw [h.2]; exact Nat.le_refl _
  | _, o :: os, i, e, S, e', S', h => by
    unfold RunF at h
    rcases h with ⟨_, v, S1, e1, N, h1, _, _, _, _, _, h6⟩ | ⟨_, e1, _, h2⟩
    · exact Nat.le_trans (oper_n h1) (RunF_n h6)
    · exact RunF_n h2
def R.isL (r : R) : Prop := ∃ h' m, r.k = .ld h' m
theorem hOf_has {recs : List R} {id a : Nat} {x : AB} : ∀ {js : List Nat} {h : Tr AB}, js.Pairwise (· < ·) → (∀ j ∈ js, ∃ r h' m, recs[j]? = some r ∧ r.k = .ld h' m ∧ (a ≤ j → h'.get id = some x)) →
    ((h.get id = some x ∧ ∀ j ∈ js, a ≤ j) ∨ ∃ j ∈ js, a ≤ j) → (hOf recs h js).get id = some x
  | [], h, _, _, hh => by
    rcases hh with hh | ⟨j, hj, _⟩
    · exact hh.1
    · cases hj
  | j :: js, h, hp, hr, hh => by
    obtain ⟨r, h', m, h1, h2, h3⟩ := hr j (List.mem_cons_self ..)
    rw [List.pairwise_cons] at hp
    unfold hOf
    rw [h1]; dsimp only; rw [h2]; dsimp only
    refine hOf_has hp.2 (fun k hk => hr k (List.mem_cons_of_mem _ hk)) ?_
    by_cases ha : a ≤ j
    · exact .inl ⟨h3 ha, fun k hk => by have := hp.1 k hk; omega⟩
    · rcases hh with hh | ⟨k, hk, hk2⟩
      · exact absurd (hh.2 j (List.mem_cons_self ..)) ha
      · rcases List.mem_cons.1 hk with rfl | hk
        · exact absurd hk2 ha
        · exact .inr ⟨k, hk, hk2⟩
/-- a fact, and what the plan has put down -/
def FI (ms : List Nat) (N0 : Nat) (h0 : Tr AB) (acc : List R) (f : Fct) : Prop :=
  (f.src = none ∧ f.id < N0 ∧ h0.get f.id = some f.x ∧ ∀ (k : Nat) (r : R) h' m, acc[k]? = some r → r.k = .ld h' m → h'.get f.id = some f.x) ∨
  ∃ j r, f.src = some j ∧ acc[j]? = some r ∧ ((r.k = .mk f.x ∧ r.n0 = f.id) ∨ (∃ h' m, r.k = .ld h' m ∧ h'.get f.id = some f.x ∧ f.id < m ∧ ∀ (k : Nat) (r : R) b, acc[k]? = some r → r.k = .mk b → k < j → inM ms j k = true)) ∧
    ∀ (k : Nat) (r : R) h' m, acc[k]? = some r → r.k = .ld h' m → j < k → h'.get f.id = some f.x
theorem FI_snoc {ms : List Nat} {N0 : Nat} {h0 : Tr AB} {acc : List R} {f : Fct} {r : R} (h : FI ms N0 h0 acc f) (hr : ∀ h' m, r.k = .ld h' m → h'.get f.id = some f.x) : FI ms N0 h0 (acc ++ [r]) f := by
  have key : ∀ (k : Nat) (r' : R), (acc ++ [r])[k]? = some r' → acc[k]? = some r' ∨ (k = acc.length ∧ r' = r) := by
    intro k r' hk
    by_cases hlt : k < acc.length
    · rw [List.getElem?_append_left hlt] at hk; exact .inl hk
    · have h2 : k = acc.length := by
        have := (List.getElem?_eq_some_iff.1 hk).1
        simp at this; omega
      subst h2
      simp at hk; exact .inr ⟨rfl, hk.symm⟩
  rcases h with ⟨h1, h2, h3, h4⟩ | ⟨j, r0, h1, h2, h3, h4⟩
  · refine .inl ⟨h1, h2, h3, fun k r' h' m hk hl => ?_⟩
    rcases key k r' hk with hk | ⟨_, rfl⟩
    · exact h4 k r' h' m hk hl
    · exact hr h' m hl
  · have hj : j < acc.length := (List.getElem?_eq_some_iff.1 h2).1
    refine .inr ⟨j, r0, h1, by rw [List.getElem?_append_left hj]; exact h2, ?_, ?_⟩
    · rcases h3 with h3 | ⟨h', m, a1, a2, a3, a4⟩
      · exact .inl h3
      · refine .inr ⟨h', m, a1, a2, a3, ?_⟩
        intro k r' b hk hb hlt
        rcases key k r' hk with hk | ⟨hk, _⟩
        · exact a4 k r' b hk hb hlt
        · omega
    · intro k r' h' m hk hl hlt
      rcases key k r' hk with hk | ⟨_, rfl⟩
      · exact h4 k r' h' m hk hl hlt
      · exact hr h' m hl
theorem FI_get {ms : List Nat} {N0 i : Nat} {h0 : Tr AB} {recs : List R} {f : Fct} {pf : List Nat} (hbd : ∀ (k : Nat) (r : R) b, recs[k]? = some r → r.k = .mk b → N0 ≤ r.n0 ∧ r.n0 < 1000000000)
    (hmono : ∀ (q q' : Nat) (r r' : R), q < q' → recs[q]? = some r → recs[q']? = some r' → r.n1 ≤ r'.n0) (hpf : pf.Pairwise (· < ·)) (hld : ∀ j ∈ pf, ∃ r, recs[j]? = some r ∧ r.isL) (hlt : ∀ j k, inM ms j k = true → k < j)
    (h : FI ms N0 h0 recs f) (hu : ∀ j, f.src = some j → inM ms i j = true ∧ ((∃ r, recs[j]? = some r ∧ r.isL) → j ∈ pf)) : (gh ms pf (inM ms i) recs 0 (hOf recs h0 pf)).get f.id = some f.x := by
  have hbd' := fun k r b h1 h2 => (hbd k r b h1 h2).2
  rcases h with ⟨_, h2, h3, h4⟩ | ⟨j, r, h1, h2, h3, h4⟩
  · rw [gh_miss hbd' (fun k r b a1 a2 _ _ => by have := (hbd k r b a1 a2).1; omega)]
    refine hOf_has (a := 0) hpf (fun k hk => ?_) (.inl ⟨h3, fun _ _ => Nat.zero_le _⟩)
    obtain ⟨r, b1, h', m, b2⟩ := hld k hk
    exact ⟨r, h', m, b1, b2, fun _ => h4 k r h' m b1 b2⟩
  · obtain ⟨u1, u2⟩ := hu j h1
    rcases h3 with ⟨g1, g2⟩ | ⟨h', m, g1, g2, g3, g4⟩
    · by_cases hun : Unm ms pf j
      · rw [← g2]
        exact gh_hit hbd' hmono h2 g1 (by rw [Nat.zero_add]; exact u1) (by rw [Nat.zero_add]; exact hun)
      · have huni : ∀ (k : Nat) (r' : R) b, recs[k]? = some r' → r'.k = .mk b → r'.n0 = f.id → k = j := by
          intro k r' b a1 a2 a3
          rcases Nat.lt_trichotomy k j with hk | hk | hk
          · have := hmono k j r' r hk a1 h2
            simp [R.n1, a2] at this; omega
          · exact hk
          · have := hmono j k r r' hk h2 a1
            simp [R.n1, g1] at this; omega
        rw [gh_miss hbd' (fun k r' b a1 a2 _ a4 a5 => by
          have := huni k r' b a1 a2 a5; subst this
          rw [Nat.zero_add] at a4; exact hun a4)]
        have hex : ∃ q ∈ pf, j + 1 ≤ q := by
          refine Classical.byContradiction fun hne => hun fun q hq => ?_
          cases hqq : inM ms q j with
          | false => rfl
          | true => exact absurd ⟨q, hq, hlt q j hqq⟩ hne
        refine hOf_has (a := j + 1) hpf (fun k hk => ?_) (.inr hex)
        obtain ⟨r', b1, h', m, b2⟩ := hld k hk
        exact ⟨r', h', m, b1, b2, fun hl => h4 k r' h' m b1 b2 hl⟩
    · have hjp := u2 ⟨r, h2, h', m, g1⟩
      rw [gh_miss hbd' (fun k r' b a1 a2 _ a4 a5 => by
        rcases Nat.lt_trichotomy k j with hk | hk | hk
        · have e1 := g4 k r' b a1 a2 hk
          rw [Nat.zero_add] at a4
          have e2 := a4 j hjp
          rw [e1] at e2; cases e2
        · subst hk; rw [h2] at a1; cases a1; rw [g1] at a2; cases a2
        · have := hmono j k r r' hk h2 a1
          simp [R.n1, g1] at this; omega)]
      refine hOf_has (a := j) hpf (fun k hk => ?_) (.inr ⟨j, hjp, Nat.le_refl _⟩)
      obtain ⟨r', b1, h'', m', b2⟩ := hld k hk
      refine ⟨r', h'', m', b1, b2, fun hl => ?_⟩
      rcases Nat.lt_or_ge j k with hk2 | hk2
      · exact h4 k r' h'' m' b1 b2 hk2
      · have : k = j := by omega
        subst this
        rw [h2] at b1; cases b1; rw [g1] at b2; cases b2; exact g2
end GX
/- GX: a region that draws its order gives what the text's order gives, where reads look at blocks that later loud operations leave alone. -/

namespace GX
open Go
section
variable {X : X} {rec : Rec} {n : Nat} {ops : List Oper} {e : Env} {h0 : Tr AB}
def RFF (X : _root_.GX.X) (n : Nat) (ops : List Oper) (N0 : Nat) (e : Env) (h0 : Tr AB) (recs : List R) (lds : List Nat) (i : Nat) (o : Oper) (r : R) : Prop :=
  r.k = .rd → ∃ l1 l2 ei, lds = l1 ++ l2 ∧ (∀ j ∈ l1, j < i) ∧ (∀ j ∈ l2, i < j) ∧ (∀ t ∈ looks ops o, lookT (masks ops []) ops (recs.take i) e i t = some (ei.at t)) ∧ (∀ t ∈ looks ops o, t < n) ∧
    sk X o.op = .read ∧ veq r.v r.v = true ∧ ((rdStat (masks ops []) (ops.map (fun o => sk X o.op)) i = true ∧ readOp X ei (gh (masks ops []) l1 (fun _ => true) (recs.take i) 0 (hOf (recs.take i) h0 l1)) o.op = some r.v) ∨ ∃ D, FPD X D (masks ops []) i ei o.op r.v ∧ ∀ f ∈ D, FI (masks ops []) N0 h0 recs f)
theorem plan_seqF {N0 : Nat} (hn : n < 1000001) (hE : edgesOk ops 0 = true) (hD : dstsOk n ops = true) (hK : seqB1 ops (masks ops []) (ops.map (fun o => sk X o.op)) n ops 0 = true) :
    ∀ (D : List Fct) (os pre : List Oper) (acc : List R) (lds : List Nat) (S : St) (ei : Env) (e' : Env) (S' : St), ops = pre ++ os → acc.length = pre.length → putAll n pre acc e = some ei →
    (∀ (k : Nat) (r : R) b, acc[k]? = some r → r.k = .mk b → (ops.map (fun o => sk X o.op)).getD k .pure = .alloc ∧ N0 ≤ r.n0 ∧ r.n0 < 1000000000) →
    (∀ f ∈ D, FI (masks ops []) N0 h0 acc f) →
    (∀ (k : Nat) (r : R), acc[k]? = some r → r.isL → k ∈ lds) → (∀ (q q' : Nat) (r r' : R), q < q' → acc[q]? = some r → acc[q']? = some r' → r.n1 ≤ r'.n0) → (∀ (q : Nat) (r : R), acc[q]? = some r → r.n1 ≤ S.n) →
    N0 ≤ S.n →
    (∀ j ∈ lds, j < pre.length ∧ isLC ((ops.map (fun o => sk X o.op)).getD j .pure) = true ∧ ∃ r, acc[j]? = some r ∧ r.isL) →
    lds.Pairwise (· < ·) →
    S.h = gh (masks ops []) lds (fun _ => true) acc 0 (hOf acc h0 lds) →
    RunF X rec n ops D os pre.length ei S e' S' →
    ∃ tl l2, plan X rec n ops (masks ops []) e os pre.length acc lds (hOf acc h0 lds) S.n = some (acc ++ tl, lds ++ l2, S'.n) ∧
      (∀ j ∈ l2, pre.length ≤ j ∧ isLC ((ops.map (fun o => sk X o.op)).getD j .pure) = true) ∧ putAll n ops (acc ++ tl) e = some e' ∧
      S'.h = gh (masks ops []) (lds ++ l2) (fun _ => true) (acc ++ tl) 0 (hOf (acc ++ tl) h0 (lds ++ l2)) ∧ tl.length = os.length ∧ (lds ++ l2).Pairwise (· < ·) ∧ (∀ (k : Nat) (r : R) b, (acc ++ tl)[k]? = some r → r.k = .mk b → (ops.map (fun o => sk X o.op)).getD k .pure = .alloc ∧ N0 ≤ r.n0 ∧ r.n0 < 1000000000) ∧ (∀ f ∈ D, FI (masks ops []) N0 h0 (acc ++ tl) f) ∧ (∀ (k : Nat) (r : R), (acc ++ tl)[k]? = some r → r.isL → k ∈ lds ++ l2) ∧ (∀ (q q' : Nat) (r r' : R), q < q' → (acc ++ tl)[q]? = some r → (acc ++ tl)[q']? = some r' → r.n1 ≤ r'.n0) ∧ (∀ j ∈ lds ++ l2, ∃ r, (acc ++ tl)[j]? = some r ∧ r.isL) ∧
      ∀ (k : Nat) (o : Oper) (r : R), os[k]? = some o → tl[k]? = some r → RFF X n ops N0 e h0 (acc ++ tl) (lds ++ l2) (pre.length + k) o r
  | D, [], pre, acc, lds, S, ei, e', S', hp, hl, hput, hmk, hF, hal, hmo, _, _, hld, hpw, hh, h => by
    unfold RunF at h
    obtain ⟨rfl, rfl⟩ := h
    refine ⟨[], [], ?_, fun j hj => by simp at hj, ?_, ?_, rfl, by simpa using hpw, by simpa using hmk, by simpa using hF, by simpa using hal, by simpa using hmo, fun j hj => by simpa using (hld j (by simpa using hj)).2.2, fun k o r hk => by simp at hk⟩
    · simp [plan]
    · simp only [List.append_nil] at hp ⊢; rw [hp]; exact hput
    · simpa using hh
  | D, o :: os, pre, acc, lds, S, ei, e', S', hp, hl, hput, hmk, hF, hal, hmo, hmn, hN, hld, hpw, hh, h => by
    have ho : ops[pre.length]? = some o := by rw [hp]; simp
    have hsk : (ops.map (fun o => sk X o.op)).getD pre.length .pure = sk X o.op := by
      rw [List.getD_eq_getElem?_getD, List.getElem?_map, ho]; rfl
    obtain ⟨hk1, hk2⟩ := seqB1_at hK pre.length o ho
    simp only [Nat.zero_add] at hk1 hk2
    rw [hsk] at hk2
    have hlk := looks_seq hn hE hD hp hl hput hk1
    obtain ⟨re, hre, hag⟩ := renv_good (es := ei) hn hlk
    have hoe : OE re ei o.op := OE_of hag
    have hp' : ops = (pre ++ [o]) ++ os := by rw [hp]; simp
    -- what goes on behind
    have fin : ∀ (r : R) (ldn : List Nat) (S1 : St) (e1 : Env) (N : List Fct), setDst n ei o.dst r.v = some e1 → (∀ b, r.k = .mk b → sk X o.op = .alloc ∧ N0 ≤ r.n0 ∧ r.n0 < 1000000000) → (∀ h' m, r.k = .ld h' m → ∀ f ∈ D, h'.get f.id = some f.x) → (∀ f ∈ N, FI (masks ops []) N0 h0 (acc ++ [r]) f) → r.n0 = S.n → r.n1 = S1.n → S.n ≤ S1.n → N0 ≤ S1.n → (ldn = [] ∧ ¬ r.isL ∨ ldn = [pre.length] ∧ isLC (sk X o.op) = true ∧ r.isL) →
        S1.h = gh (masks ops []) (lds ++ ldn) (fun _ => true) (acc ++ [r]) 0 (hOf (acc ++ [r]) h0 (lds ++ ldn)) →
        (r.k = .rd → ldn = [] ∧ sk X o.op = .read ∧ veq r.v r.v = true ∧ ((rdStat (masks ops []) (ops.map (fun o => sk X o.op)) pre.length = true ∧ readOp X ei S.h o.op = some r.v) ∨ FPD X D (masks ops []) pre.length ei o.op r.v)) →
        RunF X rec n ops (D ++ N) os (pre.length + 1) e1 S1 e' S' →
        plan X rec n ops (masks ops []) e (o :: os) pre.length acc lds (hOf acc h0 lds) S.n = plan X rec n ops (masks ops []) e os (pre.length + 1) (acc ++ [r]) (lds ++ ldn) (hOf (acc ++ [r]) h0 (lds ++ ldn)) S1.n →
        ∃ tl l2, plan X rec n ops (masks ops []) e (o :: os) pre.length acc lds (hOf acc h0 lds) S.n = some (acc ++ tl, lds ++ l2, S'.n) ∧
          (∀ j ∈ l2, pre.length ≤ j ∧ isLC ((ops.map (fun o => sk X o.op)).getD j .pure) = true) ∧ putAll n ops (acc ++ tl) e = some e' ∧
          S'.h = gh (masks ops []) (lds ++ l2) (fun _ => true) (acc ++ tl) 0 (hOf (acc ++ tl) h0 (lds ++ l2)) ∧ tl.length = (o :: os).length ∧ (lds ++ l2).Pairwise (· < ·) ∧ (∀ (k : Nat) (r : R) b, (acc ++ tl)[k]? = some r → r.k = .mk b → (ops.map (fun o => sk X o.op)).getD k .pure = .alloc ∧ N0 ≤ r.n0 ∧ r.n0 < 1000000000) ∧ (∀ f ∈ D, FI (masks ops []) N0 h0 (acc ++ tl) f) ∧ (∀ (k : Nat) (r : R), (acc ++ tl)[k]? = some r → r.isL → k ∈ lds ++ l2) ∧ (∀ (q q' : Nat) (r r' : R), q < q' → (acc ++ tl)[q]? = some r → (acc ++ tl)[q']? = some r' → r.n1 ≤ r'.n0) ∧ (∀ j ∈ lds ++ l2, ∃ r, (acc ++ tl)[j]? = some r ∧ r.isL) ∧
          ∀ (k : Nat) (o' : Oper) (r : R), (o :: os)[k]? = some o' → tl[k]? = some r → RFF X n ops N0 e h0 (acc ++ tl) (lds ++ l2) (pre.length + k) o' r := by
      intro r ldn S1 e1 N hset hmk1 hlb1 hNf hr0 hr1 hnS1 hN1 hldn hh1 hrd hrun hplan
      have hlast : ∀ (k : Nat) (r' : R), (acc ++ [r])[k]? = some r' → acc[k]? = some r' ∨ (k = acc.length ∧ r' = r) := by
        intro k r' hk
        by_cases hlt : k < acc.length
        · rw [List.getElem?_append_left hlt] at hk; exact .inl hk
        · have h2 : k = acc.length := by
            have := (List.getElem?_eq_some_iff.1 hk).1
            simp at this; omega
          subst h2
          simp at hk; exact .inr ⟨rfl, hk.symm⟩
      obtain ⟨tl, l2, p1, p2, p3, p4, p5, ppw, pmk, pF, pal, pmo, pld, p6⟩ := plan_seqF hn hE hD hK (D ++ N) os (pre ++ [o]) (acc ++ [r]) (lds ++ ldn) S1 e1 e' S' hp' (by simp [hl]) (putAll_snoc hput hset)
        (by
          intro k r' b hk hb
          by_cases hlt : k < acc.length
          · rw [List.getElem?_append_left hlt] at hk; exact hmk k r' b hk hb
          · have : k = acc.length := by
              have := (List.getElem?_eq_some_iff.1 hk).1
              simp at this; omega
            subst this
            simp at hk; subst hk
            rw [hl, hsk]; exact hmk1 b hb)
        (by
          intro f hf
          rcases List.mem_append.1 hf with hf | hf
          · exact FI_snoc (hF f hf) (fun h' m hk => hlb1 h' m hk f hf)
          · exact hNf f hf)
        (by
          intro k r' hk hkl
          rcases hlast k r' hk with hk | ⟨rfl, rfl⟩
          · exact List.mem_append_left _ (hal k r' hk hkl)
          · rcases hldn with ⟨_, hq⟩ | ⟨hq, _⟩
            · exact absurd hkl hq
            · rw [hq, hl]; simp)
        (by
          intro q q' r1 r2 hlt h1 h2
          rcases hlast q' r2 h2 with h2 | ⟨rfl, rfl⟩
          · have hlt2 := (List.getElem?_eq_some_iff.1 h2).1
            rcases hlast q r1 h1 with h1 | ⟨rfl, rfl⟩
            · exact hmo q q' r1 r2 hlt h1 h2
            · omega
          · rcases hlast q r1 h1 with h1 | ⟨rfl, rfl⟩
            · rw [hr0]; exact hmn q r1 h1
            · omega)
        (by
          intro q r1 h1
          rcases hlast q r1 h1 with h1 | ⟨rfl, rfl⟩
          · have h2 := hmn q r1 h1
            have h3 : r.n0 ≤ r.n1 := by
              rw [hr1, hr0]; exact hnS1
            omega
          · omega)
        hN1
        (by
          intro j hj
          rw [List.mem_append] at hj
          rcases hj with hj | hj
          · obtain ⟨g1, g2, r', g3, g4⟩ := hld j hj; exact ⟨by simp; omega, g2, r', by rw [List.getElem?_append_left (List.getElem?_eq_some_iff.1 g3).1]; exact g3, g4⟩
          · rcases hldn with ⟨hq, _⟩ | ⟨hq, hq2, hq3⟩
            · rw [hq] at hj; simp at hj
            · rw [hq] at hj; simp at hj; subst hj; exact ⟨by simp, by rw [hsk]; exact hq2, r, by rw [← hl]; simp, hq3⟩)
        (by
          rw [List.pairwise_append]
          refine ⟨hpw, ?_, fun a ha b hb => ?_⟩
          · rcases hldn with ⟨hq, _⟩ | ⟨hq, _⟩ <;> rw [hq] <;> simp
          · rcases hldn with ⟨hq, _⟩ | ⟨hq, _⟩
            · rw [hq] at hb; simp at hb
            · rw [hq] at hb; simp at hb; subst hb; exact (hld a ha).1)
        hh1 (by rw [List.length_append, List.length_singleton]; exact hrun)
      rw [List.length_append, List.length_singleton] at p1
      refine ⟨r :: tl, ldn ++ l2, ?_, ?_, ?_, ?_, by simp [p5], by simpa using ppw, by simpa using pmk, fun f hf => by simpa using pF f (List.mem_append_left _ hf), by simpa using pal, by simpa using pmo, by simpa using pld, ?_⟩
      · rw [hplan, p1]; simp
      · intro j hj
        rw [List.mem_append] at hj
        rcases hj with hj | hj
        · rcases hldn with ⟨hq, _⟩ | ⟨hq, hq2, _⟩
          · rw [hq] at hj; simp at hj
          · rw [hq] at hj; simp at hj; subst hj; exact ⟨Nat.le_refl _, by rw [hsk]; exact hq2⟩
        · have h1 := (p2 j hj).1; simp only [List.length_append, List.length_singleton] at h1; exact ⟨by omega, (p2 j hj).2⟩
      · rw [← p3]; simp
      · rw [p4]; simp
      · intro k o' r' hk hr'
        cases k with
        | zero =>
          simp at hk hr'; subst hk; subst hr'
          intro hrk
          obtain ⟨q1, q2, q4, q3⟩ := hrd hrk
          subst q1
          refine ⟨lds, l2, ei, by simp, fun j hj => by have := (hld j hj).1; simpa using this, fun j hj => by have := (p2 j hj).1; simp only [List.length_append, List.length_singleton] at this; omega, ?_, fun t ht => (hlk t ht).1, q2, q4, q3.imp (fun q => ⟨by simpa using q.1, ?_⟩) (fun q => ⟨D, by simpa using q, fun f hf => by simpa using pF f (List.mem_append_left _ hf)⟩)⟩
          · intro t ht
            have : (acc ++ r :: tl).take (pre.length + 0) = acc := by rw [Nat.add_zero, ← hl]; simp
            rw [this]
            exact (hlk t ht).2
          · have : (acc ++ r :: tl).take (pre.length + 0) = acc := by rw [Nat.add_zero, ← hl]; simp
            rw [this, ← hh]; exact q.2
        | succ k =>
          have := p6 k o' r' (by simpa using hk) (by simpa using hr')
          simp only [List.length_append, List.length_singleton, List.append_assoc, List.singleton_append] at this
          rw [show pre.length + (k + 1) = pre.length + 1 + k by omega]
          exact this
    have hwc : wanted ops re o = wanted ops ei o := wanted_congr hag
    have hldlt : ∀ j ∈ lds, j < (acc).length := fun j hj => by rw [hl]; exact (hld j hj).1
    have hOfs : ∀ r : R, hOf (acc ++ [r]) h0 lds = hOf acc h0 lds := fun r => hOf_append hldlt
    have hgs : ∀ r : R, (∀ b, r.k ≠ .mk b) → gh (masks ops []) lds (fun _ => true) (acc ++ [r]) 0 (hOf (acc ++ [r]) h0 lds) = S.h := by
      intro r hr
      rw [hOfs, gh_snoc, ← hh]
      unfold ghStep
      split
      · rename_i b hb; exact absurd hb (hr b)
      · rfl
    have hgc : (∀ (k : Nat), k < pre.length → (ops.map (fun o => sk X o.op)).getD k .pure = .alloc → inM (masks ops []) pre.length k = true) → gh (masks ops []) lds (inM (masks ops []) pre.length) acc 0 (hOf acc h0 lds) = S.h := by
      intro hq
      rw [hh]
      apply gh_congr
      intro k r b h1 h2
      have hkl : k < pre.length := by have := (List.getElem?_eq_some_iff.1 h1).1; omega
      simp only [Nat.zero_add]
      exact hq k hkl (hmk k r b h1 h2).1
    have hgB : ∀ f ∈ D, (∀ j, f.src = some j → inM (masks ops []) pre.length j = true) → (gh (masks ops []) lds (inM (masks ops []) pre.length) acc 0 (hOf acc h0 lds)).get f.id = some f.x := by
      intro f hf hu
      refine FI_get (fun k r b h1 h2 => (hmk k r b h1 h2).2) hmo hpw (fun j hj => (hld j hj).2.2) (fun j k => inM_lt hE j k) (hF f hf) (fun j hj => ⟨hu j hj, fun ⟨r, h1, h2⟩ => hal j r h1 h2⟩)
    unfold RunF at h
    rcases h with ⟨hw, v, S1, e1, N, hop, he1, hb, hrdc, hlc, hNf, h⟩ | ⟨hw, e1, he1, h⟩
    case inr =>
      refine fin ⟨.tup [], S.n, .val⟩ [] S e1 [] he1 (fun b hb => by cases hb) (fun h' m hb => by cases hb) (fun f hf => by cases hf) rfl rfl (Nat.le_refl _) hN (.inl ⟨rfl, fun ⟨_, _, q⟩ => by cases q⟩) ?_ (fun hb => by cases hb) (by rw [List.append_nil]; exact h) ?_
      · rw [List.append_nil, hgs _ (fun b hb => by cases hb)]
      · conv => lhs; unfold plan
        rw [hre]; dsimp only; rw [hwc, hw]; simp only [cond_false, List.append_nil]
        rw [hOfs]
    case inl =>
      have hck := sk_ok hop
      have hclr : cls X re o.op = cls X ei o.op := cls_congr hoe
      have hN1 : N0 ≤ S1.n := Nat.le_trans hN (oper_n hop)
      have hloud : isLC (cls X ei o.op) = true →
        ∃ tl l2, plan X rec n ops (masks ops []) e (o :: os) pre.length acc lds (hOf acc h0 lds) S.n = some (acc ++ tl, lds ++ l2, S'.n) ∧
          (∀ j ∈ l2, pre.length ≤ j ∧ isLC ((ops.map (fun o => sk X o.op)).getD j .pure) = true) ∧ putAll n ops (acc ++ tl) e = some e' ∧
          S'.h = gh (masks ops []) (lds ++ l2) (fun _ => true) (acc ++ tl) 0 (hOf (acc ++ tl) h0 (lds ++ l2)) ∧ tl.length = (o :: os).length ∧ (lds ++ l2).Pairwise (· < ·) ∧ (∀ (k : Nat) (r : R) b, (acc ++ tl)[k]? = some r → r.k = .mk b → (ops.map (fun o => sk X o.op)).getD k .pure = .alloc ∧ N0 ≤ r.n0 ∧ r.n0 < 1000000000) ∧ (∀ f ∈ D, FI (masks ops []) N0 h0 (acc ++ tl) f) ∧ (∀ (k : Nat) (r : R), (acc ++ tl)[k]? = some r → r.isL → k ∈ lds ++ l2) ∧ (∀ (q q' : Nat) (r r' : R), q < q' → (acc ++ tl)[q]? = some r → (acc ++ tl)[q']? = some r' → r.n1 ≤ r'.n0) ∧ (∀ j ∈ lds ++ l2, ∃ r, (acc ++ tl)[j]? = some r ∧ r.isL) ∧
          ∀ (k : Nat) (o' : Oper) (r : R), (o :: os)[k]? = some o' → tl[k]? = some r → RFF X n ops N0 e h0 (acc ++ tl) (lds ++ l2) (pre.length + k) o' r := by
        intro hlc0
        have hs : cls X ei o.op = sk X o.op := by
          rcases hck with hq | hq
          · rw [hq] at hlc0; cases hlc0
          · exact hq
        have hlc1 := hlc hlc0
        rw [hs] at hlc0
        have hbef : bef (masks ops []) (ops.map (fun o => sk X o.op)) pre.length isAll = true := hk2 hlc0
        have hg := hgc (fun k hk hq => bef_at hbef hk (by rw [hq]; rfl))
        have hall : lds.all (fun j => inM (masks ops []) pre.length j) = true := by
          apply List.all_eq_true.2
          intro j hj
          obtain ⟨q1, q2, -⟩ := hld j hj
          exact bef_at hbef q1 (by cases hq : (ops.map (fun o => sk X o.op)).getD j .pure <;> rw [hq] at q2 <;> first | rfl | cases q2)
        have hop' : oper X rec re { h := gh (masks ops []) lds (inM (masks ops []) pre.length) acc 0 (hOf acc h0 lds), n := S.n } o.op = some (v, S1) := by
          rw [hg, oper_congr hoe]; exact hop
        refine fin ⟨v, S.n, .ld S1.h S1.n⟩ [pre.length] S1 e1 N he1 (fun b hb => by cases hb) (fun h' m hb => by cases hb; exact hlc1) (fun f hf => ?_) rfl rfl (oper_n hop) hN1 (.inr ⟨rfl, hlc0, _, _, rfl⟩) ?_ (fun hb => by cases hb) h ?_
        · obtain ⟨n1, n2, n3, _⟩ := hNf f hf
          refine .inr ⟨pre.length, ⟨v, S.n, .ld S1.h S1.n⟩, n1, by rw [← hl]; simp, .inr ⟨_, _, rfl, n3, n2, ?_⟩, ?_⟩
          · intro k r b hk hb hlt
            rw [List.getElem?_append_left (by omega)] at hk
            exact bef_at hbef hlt (by rw [(hmk k r b hk hb).1]; rfl)
          · intro k r h' m hk _ hlt
            have := (List.getElem?_eq_some_iff.1 hk).1
            simp at this; omega
        · rw [gh_snoc]
          have : hOf (acc ++ [(⟨v, S.n, .ld S1.h S1.n⟩ : R)]) h0 (lds ++ [pre.length]) = S1.h := hOf_snoc (r := ⟨v, S.n, .ld S1.h S1.n⟩) (m := S1.n) (by rw [← hl]; simp) rfl
          rw [this, gh_had (fun q r b h1 h2 => by
            have hkl : q < pre.length := by have := (List.getElem?_eq_some_iff.1 h1).1; omega
            rw [Nat.zero_add]
            exact bef_at hbef hkl (by rw [(hmk q r b h1 h2).1]; rfl))]
          rfl
        · conv => lhs; unfold plan
          rw [hre]; dsimp only; rw [hwc, hw]; simp only [cond_true]
          have : hOf (acc ++ [(⟨v, S.n, .ld S1.h S1.n⟩ : R)]) h0 (lds ++ [pre.length]) = S1.h := hOf_snoc (r := ⟨v, S.n, .ld S1.h S1.n⟩) (m := S1.n) (by rw [← hl]; simp) rfl
          rw [hclr, hs]
          cases hskc : sk X o.op with
          | loud => dsimp only; rw [hall]; simp only [cond_true]; rw [hop']; dsimp only; rw [this]
          | call => dsimp only; rw [hall]; simp only [cond_true]; rw [hop']; dsimp only; rw [this]
          | _ => rw [hskc] at hlc0; cases hlc0
      cases hc : cls X ei o.op with
      | loud => exact hloud (by rw [hc]; rfl)
      | call => exact hloud (by rw [hc]; rfl)
      | pure =>
        unfold oper at hop
        rw [hc] at hop
        dsimp only at hop
        split at hop
        · cases hop
        · rename_i v' hv
          cases hop
          have hN0 : N = [] := by
            cases N with
            | nil => rfl
            | cons f N => exfalso; have := (hNf f (List.mem_cons_self ..)).2.2.2; rw [hc] at this; exact absurd this (by rintro (q | ⟨q, _⟩) <;> cases q)
          subst hN0
          refine fin ⟨v, S.n, .val⟩ [] S e1 [] he1 (fun b hb => by cases hb) (fun h' m hb => by cases hb) (fun f hf => by cases hf) rfl rfl (Nat.le_refl _) hN (.inl ⟨rfl, fun ⟨_, _, q⟩ => by cases q⟩) ?_ (fun hb => by cases hb) h ?_
          · rw [List.append_nil, hgs _ (fun b hb => by cases hb)]
          · conv => lhs; unfold plan
            rw [hre]; dsimp only; rw [hwc, hw]; simp only [cond_true, List.append_nil]
            rw [hclr, hc]; dsimp only; rw [pureOp_congr hoe, hv]; dsimp only; rw [hOfs]
      | read =>
        have hs : sk X o.op = .read := by
          rcases hck with hq | hq
          · rw [hq] at hc; cases hc
          · rw [← hq]; exact hc
        have hrdc' := hrdc hc
        unfold oper at hop
        rw [hc] at hop
        dsimp only at hop
        split at hop
        · cases hop
        · rename_i v' hv
          cases hop
          rw [hc] at hb
          have hrd2 : readOp X ei (gh (masks ops []) lds (inM (masks ops []) pre.length) acc 0 (hOf acc h0 lds)) o.op = some v := by
            rcases hrdc' with hst | hfp
            · have hst' := hst
              unfold rdStat at hst'
              rw [Bool.and_eq_true] at hst'
              rw [hgc (fun k hk hq => bef_at hst'.1 hk (by rw [hq]; rfl))]; exact hv
            · exact hfp _ hgB
          have hN0 : N = [] := by
            cases N with
            | nil => rfl
            | cons f N => exfalso; have := (hNf f (List.mem_cons_self ..)).2.2.2; rw [hc] at this; exact absurd this (by rintro (q | ⟨q, _⟩) <;> cases q)
          subst hN0
          refine fin ⟨v, S.n, .rd⟩ [] S e1 [] he1 (fun b hb => by cases hb) (fun h' m hb => by cases hb) (fun f hf => by cases hf) rfl rfl (Nat.le_refl _) hN (.inl ⟨rfl, fun ⟨_, _, q⟩ => by cases q⟩) ?_ (fun _ => ⟨rfl, hs, hb, hrdc'.imp (fun q => ⟨q, hv⟩) (fun q => q)⟩) h ?_
          · rw [List.append_nil, hgs _ (fun b hb => by cases hb)]
          · conv => lhs; unfold plan
            rw [hre]; dsimp only; rw [hwc, hw]; simp only [cond_true, List.append_nil]
            rw [hclr, hc]; dsimp only; rw [readOp_congr hoe, hrd2]; dsimp only; rw [hOfs]
      | alloc =>
        have hs : sk X o.op = .alloc := by
          rcases hck with hq | hq
          · rw [hq] at hc; cases hc
          · rw [← hq]; exact hc
        unfold oper at hop
        rw [hc] at hop
        dsimp only at hop
        cases hlt : Nat.blt S.n 1000000000 with
        | false => rw [hlt] at hop; cases hop
        | true =>
          rw [hlt] at hop
          simp only [cond_true] at hop
          have hlt2 : S.n < 1000000000 := by rw [nblt, decide_eq_true_eq] at hlt; exact hlt
          split at hop
          · cases hop
          · rename_i b' v' hv
            cases hop
            refine fin ⟨v, S.n, .mk b'⟩ [] (S.new b') e1 N he1 (fun _ _ => ⟨hs, hN, hlt2⟩) (fun h' m hb => by cases hb) (fun f hf => ?_) rfl rfl (Nat.le_succ _) hN1 (.inl ⟨rfl, fun ⟨_, _, q⟩ => by cases q⟩) ?_ (fun hb => by cases hb) h ?_
            · obtain ⟨n1, _, n3, n4⟩ := hNf f hf
              rw [hc] at n4
              rcases n4 with q | ⟨_, q⟩
              · cases q
              have hx : f.x = b' := by
                have h5 : (S.new b').h.get S.n = some b' := by unfold St.new; dsimp only; rw [Tr.get_set 40 _ _ _ _ (by omega), if_pos rfl]
                rw [q, h5] at n3; cases n3; rfl
              refine .inr ⟨pre.length, ⟨v, S.n, .mk b'⟩, n1, by rw [← hl]; simp, .inl ⟨by rw [hx], q.symm⟩, ?_⟩
              intro k r h' m hk _ hlt
              have := (List.getElem?_eq_some_iff.1 hk).1
              simp at this; omega
            · rw [List.append_nil, hOfs, gh_snoc, ← hh]
              unfold ghStep
              dsimp only
              have : lds.all (fun j => !inM (masks ops []) j (0 + acc.length)) = true := by
                apply List.all_eq_true.2
                intro j hj
                have h1 := (hld j hj).1
                cases hq : inM (masks ops []) j (0 + acc.length) with
                | false => rfl
                | true => have := inM_lt hE _ _ hq; omega
              rw [this]
              rfl
            · conv => lhs; unfold plan
              rw [hre]; dsimp only; rw [hwc, hw]; simp only [cond_true, List.append_nil]
              rw [hclr, hc]; dsimp only; rw [hlt]; simp only [cond_true]; rw [allocOp_congr hoe, hv]; dsimp only; rw [hOfs]
              rfl
/-- WHERE THE EDGES SAY ENOUGH but for reads that loud operations leave alone, a region that draws its order gives what the text's order gives. -/
theorem drawn_F {D : List Fct} {S : St} {e' : Env} {S' : St} (hD0 : ∀ f ∈ D, f.src = none ∧ f.id < S.n ∧ S.h.get f.id = some f.x) (hs : seqB X n ops = true) (h : RunF X rec n ops D ops 0 e S e' S') : drawn X rec n ops e S = .ok .nor e' S' := by
  unfold seqB at hs
  simp only [Bool.and_eq_true, nblt, decide_eq_true_eq] at hs
  obtain ⟨⟨⟨⟨hE, hD⟩, hN⟩, hn⟩, hK⟩ := hs
  have hle := RunF_n h
  obtain ⟨tl, l2, p1, p2, p3, p4, p5, ppw, pmk, -, pal, pmo, pld, p6⟩ := plan_seqF (h0 := S.h) (e := e) (N0 := S.n) hn hE hD hK D ops [] [] [] S e e' S' (by simp) rfl (by simp [putAll]) (fun k r b hk => by simp at hk) (fun f hf => .inl ⟨(hD0 f hf).1, (hD0 f hf).2.1, (hD0 f hf).2.2, fun k r h' m hk => by simp at hk⟩) (fun k r hk => by simp at hk) (fun q q' r r' _ hk => by simp at hk) (fun k r hk => by simp at hk) (Nat.le_refl _) (fun j hj => by simp at hj) List.Pairwise.nil (by simp [gh, hOf]) h
  simp only [List.nil_append, List.length_nil, hOf, Nat.zero_add] at p1 p2 p3 p4 p6 ppw pmk pal pmo pld
  unfold drawn
  dsimp only
  rw [hE, hD, hN]
  simp only [Bool.and_self, cond_true]
  rw [p1]
  dsimp only
  have hrd : rdsOk X n ops (masks ops []) tl e S.h l2 ops 0 = true := by
    apply rdsOk_of
    intro i o ho
    have hi : i < ops.length := (List.getElem?_eq_some_iff.1 ho).1
    have hr : tl[i]? = some (tl[i]'(by omega)) := List.getElem?_eq_getElem _
    rw [Nat.zero_add]
    refine ⟨_, hr, fun hk => ?_⟩
    obtain ⟨l1, l3, ei, q1, q2, q3, q4, q5, q6, q8, q9⟩ := p6 i o _ ho hr hk
    have hlt : ∀ j, inM (masks ops []) i j = true → j < (tl.take i).length := fun j hj => by
      have := inM_lt hE _ _ hj
      simp; omega
    have htl : tl = tl.take i ++ tl.drop i := (List.take_append_drop i tl).symm
    obtain ⟨re, r1, r2⟩ := renv_good (ms := masks ops []) (ops := ops) (acc := tl) (e := e) (es := ei) (n := n) (i := i) hn (ts := looks ops o) (fun t ht => ⟨q5 t ht, by
      rw [htl, lookT_append hlt]; exact q4 t ht⟩)
    refine ⟨re, r1, rdOk_of fun a b hab => ?_⟩
    have hoe : OE re ei o.op := OE_of r2
    have hski : (ops.map (fun o => sk X o.op)).getD i .pure = sk X o.op := by
      rw [List.getD_eq_getElem?_getD, List.getElem?_map, ho]; rfl
    rw [List.nil_append]
    unfold rdOk.rd1
    cases hc : (a.all (fun j => !inM (masks ops []) j i) && l2.all (fun j => !inM (masks ops []) i j || a.contains j)) with
    | false => rfl
    | true =>
      simp only [cond_true]
      simp only [Bool.and_eq_true] at hc
      obtain ⟨c1, c2⟩ := hc
      rcases q9 with ⟨hst, q7⟩ | ⟨D', hfp, hfi⟩
      case inr =>
        have hsub : ∀ j ∈ a, j ∈ l2 := fun j hj => by rw [hab]; exact List.mem_append_left _ hj
        have hg : ∀ f ∈ D', (∀ j, f.src = some j → inM (masks ops []) i j = true) → (gh (masks ops []) a (inM (masks ops []) i) tl 0 (hOf tl S.h a)).get f.id = some f.x := by
          intro f hf hu
          refine FI_get (fun k r b h1 h2 => (pmk k r b h1 h2).2) pmo ?_ (fun j hj => pld j (hsub j hj)) (fun j k => inM_lt hE j k) (hfi f hf) (fun j hj => ⟨hu j hj, fun ⟨r, h1, h2⟩ => ?_⟩)
          · rw [hab, List.pairwise_append] at ppw; exact ppw.1
          · have h3 := List.all_eq_true.1 c2 j (pal j r h1 h2)
            rw [hu j hj] at h3
            simpa using h3
        rw [readOp_congr hoe, hfp _ hg]
        exact q8
      unfold rdStat at hst
      rw [Bool.and_eq_true] at hst
      obtain ⟨hk2, hk3⟩ := hst
      have hal : a = l1 := by
        have hpre : a ++ b = l1 ++ l3 := by rw [← hab, q1]
        have hin1 : ∀ j ∈ l1, j ∈ a := by
          intro j hj
          have hj2 : j ∈ l2 := by rw [q1]; exact List.mem_append_left _ hj
          have h1 := List.all_eq_true.1 c2 j hj2
          have h2 : inM (masks ops []) i j = true := by
            apply bef_at hk2 (q2 j hj)
            have := (p2 j hj2).2
            cases hq : (ops.map (fun o => sk X o.op)).getD j .pure <;> rw [hq] at this <;> first | rfl | cases this
          rw [h2] at h1
          simpa using h1
        have hin3 : ∀ j ∈ l3, j ∉ a := by
          intro j hj hja
          have hj2 : j ∈ l2 := by rw [q1]; exact List.mem_append_right _ hj
          have h1 := List.all_eq_true.1 c1 j hja
          have hjl : j < ops.length := by
            have := (p2 j hj2).2
            rw [List.getD_eq_getElem?_getD] at this
            by_cases hlt : j < ops.length
            · exact hlt
            · rw [List.getElem?_eq_none (by simpa using hlt)] at this; cases this
          have hl := (p2 j hj2).2
          have h3 := List.all_eq_true.1 hk3 j (by simpa using hjl)
          rw [hl, nble, decide_eq_false (by have := q3 j hj; omega)] at h3
          have : inM (masks ops []) j i = true := by simpa using h3
          rw [this] at h1
          cases h1
        rcases List.append_eq_append_iff.1 hpre with ⟨m, hm1, hm2⟩ | ⟨m, hm1, hm2⟩
        · -- l1 = a ++ m
          cases m with
          | nil => simpa using hm1.symm
          | cons y m =>
            exfalso
            have hy : y ∈ a := hin1 y (by rw [hm1]; simp)
            rw [q1, hm1, List.append_assoc, List.pairwise_append] at ppw
            have := ppw.2.2 y hy y (by simp)
            omega
        · cases m with
          | nil => simpa using hm1
          | cons y m =>
            exfalso
            exact hin3 y (by rw [hm2]; simp) (by rw [hm1]; simp)
      subst hal
      have hh : gh (masks ops []) a (inM (masks ops []) i) tl 0 (hOf tl S.h a) = gh (masks ops []) a (fun _ => true) (tl.take i) 0 (hOf (tl.take i) S.h a) := by
        conv => lhs; rw [htl]
        rw [gh_append (fun q hq => by
          cases hm : inM (masks ops []) i q with
          | false => rfl
          | true => have := hlt q hm; omega)]
        rw [hOf_append (fun j hj => by have := q2 j hj; simp; omega)]
        apply gh_congr
        intro k r b h1 h2
        rw [Nat.zero_add]
        have hki : k < i := by have := (List.getElem?_eq_some_iff.1 h1).1; simp at this; omega
        apply bef_at hk2 hki
        have : (ops.map (fun o => sk X o.op)).getD k .pure = .alloc := by
          have hkr : tl[k]? = some r := by rw [htl, List.getElem?_append_left (List.getElem?_eq_some_iff.1 h1).1]; exact h1
          exact (pmk k r b hkr h2).1
        rw [this]; rfl
      rw [hh, readOp_congr hoe, q7]
      exact q8
  rw [hrd]
  simp only [cond_true]
  rw [p3]
  dsimp only
  rw [nble, decide_eq_true hle]
  simp only [cond_true]
  rw [← p4]
end
end GX
/- GX: reasoning about runs: regions that draw their order, where reads look at blocks that later loud operations leave alone (blocks made in the region, too). -/


namespace GX
noncomputable section
open Go
def WF (X : X) (n : Nat) (all : List Oper) (D : List Fct) (os : List Oper) (i : Nat) (ks : List Kt) (Q : Ex → Env → St → Prop) (l : L) (S : St) : Prop :=
  ∀ e, Ag l e → ∃ f e' S', RunF X (exec X f) n all D os i e S e' S' ∧ QK X n ks Q .nor e' S'
section
variable {X : X} {n : Nat} {ks : List Kt} {Q : Ex → Env → St → Prop} {l : L} {S : St} {D : List Fct} {all os : List Oper} {o : Oper} {i : Nat}
theorem W_drawnF (D : List Fct) {id : Nat} {ops : Array Oper} (hD : ∀ f ∈ D, f.src = none ∧ f.id < S.n ∧ S.h.get f.id = some f.x) (hs : seqB X n ops.toList = true) (h : WF X n ops.toList D ops.toList 0 ks Q l S) : W X n (.region id ops true) ks Q l S := by
  unfold W
  intro e he
  obtain ⟨f, e1, S1, h1, h2⟩ := h e he
  exact ⟨f + 1, .nor, e1, S1, by show step X (exec X f) n (.region id ops true) e S = _; unfold step; exact drawn_F hD hs h1, h2⟩
theorem WF_nil (h : V X n .nor ks Q l S) : WF X n all D [] i ks Q l S := by
  unfold V at h
  exact fun e he => ⟨0, e, S, ⟨rfl, rfl⟩, h e he⟩
theorem WF_pa {d : Nat} (hg : o.guard = none) (hd : o.dst = some d) (hn : Nat.blt d n = true) (hn' : Nat.blt n 1000001 = true) (hsk : isPA (sk X o.op) = true)
    (h : Ev X l S o.op fun v S' => WF X n all D os (i + 1) ks Q ((d, v) :: l) S') : WF X n all D (o :: os) i ks Q l S := by
  intro e he
  unfold Ev at h
  obtain ⟨f, v, S1, h1, h2, h3⟩ := h e he
  rw [nblt, decide_eq_true_eq] at hn hn'
  obtain ⟨g, e2, S2, h4, h5⟩ := h3 _ (he.put hn' hn)
  have hck := sk_ok h1
  refine ⟨max f g, e2, S2, .inl ⟨wanted_none hg, v, S1, e.put d v, [], oper_le (exec_le (Nat.le_max_left f g)) h1, ?_, h2, fun hc => ?_, fun hc => ?_, fun f hf => (by cases hf), by rw [List.append_nil]; exact RunF_le (exec_le (Nat.le_max_right f g)) h4⟩, h5⟩
  · rw [hd]; unfold setDst; dsimp only; rw [nblt, decide_eq_true hn]; rfl
  · rcases hck with hq | hq
    · rw [hq] at hc; cases hc
    · rw [hq] at hc; rw [hc] at hsk; cases hsk
  · rcases hck with hq | hq
    · rw [hq] at hc; cases hc
    · rw [hq] at hc
      exfalso
      cases hs : sk X o.op <;> rw [hs] at hc hsk <;> first | (cases hc; done) | (cases hsk; done)
/-- an operation that makes a block, which is told -/
theorem WF_al {d : Nat} (hg : o.guard = none) (hd : o.dst = some d) (hn : Nat.blt d n = true) (hn' : Nat.blt n 1000001 = true) (hcl : ∀ e, Ag l e → cls X e o.op = .alloc)
    (h : Ev X l S o.op fun v S' => ∃ x, S'.h.get S.n = some x ∧ S.n < S'.n ∧ WF X n all (D ++ [⟨S.n, x, some i⟩]) os (i + 1) ks Q ((d, v) :: l) S') : WF X n all D (o :: os) i ks Q l S := by
  intro e he
  unfold Ev at h
  obtain ⟨f, v, S1, h1, h2, x, hx, hlt, h3⟩ := h e he
  rw [nblt, decide_eq_true_eq] at hn hn'
  obtain ⟨g, e2, S2, h4, h5⟩ := h3 _ (he.put hn' hn)
  have hc0 := hcl e he
  refine ⟨max f g, e2, S2, .inl ⟨wanted_none hg, v, S1, e.put d v, [⟨S.n, x, some i⟩], oper_le (exec_le (Nat.le_max_left f g)) h1, ?_, h2, fun hc => (by rw [hc0] at hc; cases hc), fun hc => (by rw [hc0] at hc; cases hc), fun f hf => ?_, RunF_le (exec_le (Nat.le_max_right f g)) h4⟩, h5⟩
  · rw [hd]; unfold setDst; dsimp only; rw [nblt, decide_eq_true hn]; rfl
  · rw [List.mem_singleton] at hf; subst hf
    exact ⟨rfl, hlt, hx, .inr ⟨hc0, rfl⟩⟩
/-- a read that is ordered with all loud operations -/
theorem WF_rs {d : Nat} (hg : o.guard = none) (hd : o.dst = some d) (hn : Nat.blt d n = true) (hn' : Nat.blt n 1000001 = true) (hsk : isLC (sk X o.op) = false) (hst : rdStat (masks all []) (all.map (fun o => sk X o.op)) i = true)
    (h : Ev X l S o.op fun v S' => WF X n all D os (i + 1) ks Q ((d, v) :: l) S') : WF X n all D (o :: os) i ks Q l S := by
  intro e he
  unfold Ev at h
  obtain ⟨f, v, S1, h1, h2, h3⟩ := h e he
  rw [nblt, decide_eq_true_eq] at hn hn'
  obtain ⟨g, e2, S2, h4, h5⟩ := h3 _ (he.put hn' hn)
  have hck := sk_ok h1
  refine ⟨max f g, e2, S2, .inl ⟨wanted_none hg, v, S1, e.put d v, [], oper_le (exec_le (Nat.le_max_left f g)) h1, ?_, h2, fun _ => .inl hst, fun hc => ?_, fun f hf => (by cases hf), by rw [List.append_nil]; exact RunF_le (exec_le (Nat.le_max_right f g)) h4⟩, h5⟩
  · rw [hd]; unfold setDst; dsimp only; rw [nblt, decide_eq_true hn]; rfl
  · rcases hck with hq | hq
    · rw [hq] at hc; cases hc
    · rw [hq, hsk] at hc; cases hc
/-- a read that looks at told blocks alone -/
theorem WF_rf {d : Nat} {v : AV} (hg : o.guard = none) (hd : o.dst = some d) (hn : Nat.blt d n = true) (hn' : Nat.blt n 1000001 = true) (hS : ∀ f ∈ D, S.h.get f.id = some f.x)
    (hfp : ∀ e, Ag l e → cls X e o.op = .read ∧ FPD X D (masks all []) i e o.op v) (hvv : veq v v = true) (h : WF X n all D os (i + 1) ks Q ((d, v) :: l) S) : WF X n all D (o :: os) i ks Q l S := by
  intro e he
  obtain ⟨hc, hf⟩ := hfp e he
  rw [nblt, decide_eq_true_eq] at hn hn'
  obtain ⟨g, e2, S2, h4, h5⟩ := h _ (he.put hn' hn)
  refine ⟨g, e2, S2, .inl ⟨wanted_none hg, v, S, e.put d v, [], ?_, ?_, by rw [hc]; exact hvv, fun _ => .inr hf, fun hl => (by rw [hc] at hl; cases hl), fun f hf => (by cases hf), by rw [List.append_nil]; exact h4⟩, h5⟩
  · unfold oper; rw [hc]; dsimp only; rw [hf S.h (fun f h1 _ => hS f h1)]
  · rw [hd]; unfold setDst; dsimp only; rw [nblt, decide_eq_true hn]; rfl
/-- a loud operation, or a call, that leaves the told blocks alone, and may tell more -/
theorem WF_ld {d : Nat} (hg : o.guard = none) (hd : o.dst = some d) (hn : Nat.blt d n = true) (hn' : Nat.blt n 1000001 = true) (hcl : ∀ e, Ag l e → isLC (cls X e o.op) = true)
    (h : Ev X l S o.op fun v S' => (∀ f ∈ D, S'.h.get f.id = some f.x) ∧ ∃ N : List Fct, (∀ f ∈ N, f.src = some i ∧ f.id < S'.n ∧ S'.h.get f.id = some f.x) ∧ WF X n all (D ++ N) os (i + 1) ks Q ((d, v) :: l) S') : WF X n all D (o :: os) i ks Q l S := by
  intro e he
  unfold Ev at h
  obtain ⟨f, v, S1, h1, h2, hB, N, hN, h3⟩ := h e he
  rw [nblt, decide_eq_true_eq] at hn hn'
  obtain ⟨g, e2, S2, h4, h5⟩ := h3 _ (he.put hn' hn)
  have hc0 := hcl e he
  refine ⟨max f g, e2, S2, .inl ⟨wanted_none hg, v, S1, e.put d v, N, oper_le (exec_le (Nat.le_max_left f g)) h1, ?_, h2, fun hc => ?_, fun _ => hB, fun f hf => ⟨(hN f hf).1, (hN f hf).2.1, (hN f hf).2.2, .inl hc0⟩, RunF_le (exec_le (Nat.le_max_right f g)) h4⟩, h5⟩
  · rw [hd]; unfold setDst; dsimp only; rw [nblt, decide_eq_true hn]; rfl
  · rw [hc] at hc0; cases hc0
theorem WF_ld0 (hg : o.guard = none) (hd : o.dst = none) (hcl : ∀ e, Ag l e → isLC (cls X e o.op) = true)
    (h : Ev X l S o.op fun _ S' => (∀ f ∈ D, S'.h.get f.id = some f.x) ∧ ∃ N : List Fct, (∀ f ∈ N, f.src = some i ∧ f.id < S'.n ∧ S'.h.get f.id = some f.x) ∧ WF X n all (D ++ N) os (i + 1) ks Q l S') : WF X n all D (o :: os) i ks Q l S := by
  intro e he
  unfold Ev at h
  obtain ⟨f, v, S1, h1, h2, hB, N, hN, h3⟩ := h e he
  obtain ⟨g, e2, S2, h4, h5⟩ := h3 _ he
  have hc0 := hcl e he
  refine ⟨max f g, e2, S2, .inl ⟨wanted_none hg, v, S1, e, N, oper_le (exec_le (Nat.le_max_left f g)) h1, ?_, h2, fun hc => ?_, fun _ => hB, fun f hf => ⟨(hN f hf).1, (hN f hf).2.1, (hN f hf).2.2, .inl hc0⟩, RunF_le (exec_le (Nat.le_max_right f g)) h4⟩, h5⟩
  · rw [hd]; rfl
  · rw [hc] at hc0; cases hc0
theorem WF_guard {j d0 : Nat} {want : Bool} {p : Oper} {c : Bool} {d : Nat} (hg : o.guard = some (j, want)) (hp : all[j]? = some p) (hd0 : p.dst = some d0) (hl : lk l d0 = some (.bool c)) (hd : o.dst = some d) (hn : Nat.blt d n = true) (hn' : Nat.blt n 1000001 = true)
    (h1 : c = want → WF X n all D ({ o with guard := none } :: os) i ks Q ((d0, .bool want) :: l) S) (h2 : c = (!want) → WF X n all D os (i + 1) ks Q ((d, .tup []) :: (d0, .bool (!want)) :: l) S) : WF X n all D (o :: os) i ks Q l S := by
  intro e he
  rw [nblt, decide_eq_true_eq] at hn hn'
  have hat : e.at d0 = .bool c := he d0 _ hl
  have hag : ∀ b, c = b → Ag ((d0, .bool b) :: l) e := by
    intro b hb t v ht
    unfold lk at ht
    rw [nbeq, cond_dec] at ht
    by_cases hh : d0 = t
    · subst hh; rw [if_pos rfl] at ht; cases ht; rw [hat, hb]
    · rw [if_neg hh] at ht; exact he t v ht
  have hw : wanted all e o = (c == want) := by unfold wanted; rw [hg]; dsimp only; rw [hp]; dsimp only; rw [hd0]; dsimp only; rw [hat]
  by_cases hc : c = want
  · obtain ⟨f, e2, S2, h3, h4⟩ := h1 hc e (hag want hc)
    refine ⟨f, e2, S2, ?_, h4⟩
    have hw' : wanted all e o = true := by rw [hw, hc]; cases want <;> rfl
    unfold RunF at h3 ⊢
    rcases h3 with ⟨_, h3⟩ | ⟨h3, _⟩
    · exact .inl ⟨hw', h3⟩
    · rw [wanted_none rfl] at h3; cases h3
  · have hc' : c = (!want) := by cases c <;> cases want <;> simp_all
    obtain ⟨f, e2, S2, h3, h4⟩ := h2 hc' _ ((hag _ hc').put hn' hn)
    refine ⟨f, e2, S2, ?_, h4⟩
    have hw' : wanted all e o = false := by rw [hw, hc']; cases want <;> rfl
    refine .inr ⟨hw', e.put d (.tup []), ?_, h3⟩
    rw [hd]; unfold setDst; dsimp only; rw [nblt, decide_eq_true hn]; rfl
theorem WF_guard_dt {j d0 : Nat} {q : Oper} {p : Prop} [Decidable p] {d : Nat} (hg : o.guard = some (j, true)) (hp : all[j]? = some q) (hd0 : q.dst = some d0) (hl : lk l d0 = some (.bool (decide p))) (hd : o.dst = some d) (hn : Nat.blt d n = true) (hn' : Nat.blt n 1000001 = true)
    (h1 : p → WF X n all D ({ o with guard := none } :: os) i ks Q ((d0, .bool true) :: l) S) (h2 : ¬ p → WF X n all D os (i + 1) ks Q ((d, .tup []) :: (d0, .bool false) :: l) S) : WF X n all D (o :: os) i ks Q l S :=
  WF_guard hg hp hd0 hl hd hn hn' (fun h => h1 (of_decide_eq_true h)) (fun h => h2 (of_decide_eq_false h))
theorem WF_guard_df {j d0 : Nat} {q : Oper} {p : Prop} [Decidable p] {d : Nat} (hg : o.guard = some (j, false)) (hp : all[j]? = some q) (hd0 : q.dst = some d0) (hl : lk l d0 = some (.bool (decide p))) (hd : o.dst = some d) (hn : Nat.blt d n = true) (hn' : Nat.blt n 1000001 = true)
    (h1 : ¬ p → WF X n all D ({ o with guard := none } :: os) i ks Q ((d0, .bool false) :: l) S) (h2 : p → WF X n all D os (i + 1) ks Q ((d, .tup []) :: (d0, .bool true) :: l) S) : WF X n all D (o :: os) i ks Q l S :=
  WF_guard hg hp hd0 hl hd hn hn' (fun h => h1 (of_decide_eq_false h)) (fun h => h2 (of_decide_eq_true h))
theorem WF_guard_t {j d0 : Nat} {want : Bool} {p : Oper} {d : Nat} (hg : o.guard = some (j, want)) (hp : all[j]? = some p) (hd0 : p.dst = some d0) (hl : lk l d0 = some (.bool want)) (hd : o.dst = some d) (hn : Nat.blt d n = true) (hn' : Nat.blt n 1000001 = true)
    (h1 : WF X n all D ({ o with guard := none } :: os) i ks Q l S) : WF X n all D (o :: os) i ks Q l S := by
  refine WF_guard hg hp hd0 hl hd hn hn' (fun _ => ?_) (fun h => ?_)
  · intro e he
    exact h1 e (fun t v ht => he t v (by
      unfold lk; rw [nbeq, cond_dec]
      by_cases hh : d0 = t
      · subst hh; rw [hl] at ht; cases ht; rw [if_pos rfl]
      · rw [if_neg hh]; exact ht))
  · cases want <;> cases h
theorem WF_skip {d : Nat} (hd : o.dst = some d) (hn : Nat.blt d n = true) (hn' : Nat.blt n 1000001 = true) (hw : ∀ e, Ag l e → wanted all e o = false) (h2 : WF X n all D os (i + 1) ks Q ((d, .tup []) :: l) S) : WF X n all D (o :: os) i ks Q l S := by
  intro e he
  rw [nblt, decide_eq_true_eq] at hn hn'
  obtain ⟨f, e2, S2, h3, h4⟩ := h2 _ (he.put hn' hn)
  refine ⟨f, e2, S2, .inr ⟨hw e he, e.put d (.tup []), ?_, h3⟩, h4⟩
  rw [hd]; unfold setDst; dsimp only; rw [nblt, decide_eq_true hn]; rfl
theorem WF_guard_f {j d0 : Nat} {want c : Bool} {p : Oper} {d : Nat} (hg : o.guard = some (j, want)) (hp : all[j]? = some p) (hd0 : p.dst = some d0) (hl : lk l d0 = some (.bool c)) (hc : (c == want) = false) (hd : o.dst = some d) (hn : Nat.blt d n = true) (hn' : Nat.blt n 1000001 = true)
    (h2 : WF X n all D os (i + 1) ks Q ((d, .tup []) :: l) S) : WF X n all D (o :: os) i ks Q l S :=
  WF_skip hd hn hn' (fun e he => by unfold wanted; rw [hg]; dsimp only; rw [hp]; dsimp only; rw [hd0]; dsimp only; rw [he d0 _ hl]; exact hc) h2
theorem WF_guard_x {j d0 : Nat} {want : Bool} {p : Oper} {d : Nat} (hg : o.guard = some (j, want)) (hp : all[j]? = some p) (hd0 : p.dst = some d0) (hl : lk l d0 = some (.tup [])) (hd : o.dst = some d) (hn : Nat.blt d n = true) (hn' : Nat.blt n 1000001 = true)
    (h2 : WF X n all D os (i + 1) ks Q ((d, .tup []) :: l) S) : WF X n all D (o :: os) i ks Q l S :=
  WF_skip hd hn hn' (fun e he => by unfold wanted; rw [hg]; dsimp only; rw [hp]; dsimp only; rw [hd0]; dsimp only; rw [he d0 _ hl]) h2
/-! footprints -/
theorem FPD_load {t : Nat} {x : Operand} {p : AV} {o : Nat} {i' : TI} {cs : List AV} {v : AV} {ms : List Nat} (hx : od l x = some p) (hi : X.ti t = some i') (hag : aggD i'.desc = false) (hp : Pt S p cs o) (hv : cs[o]? = some v)
    (hb : ∀ b, blkOf p = some b → ∃ f ∈ D, f.id = b ∧ S.h.get b = some f.x ∧ ∀ j, f.src = some j → inM ms i j = true) :
    ∀ e, Ag l e → cls X e (.load t x) = .read ∧ FPD X D ms i e (.load t x) v := fun _ he =>
  ⟨rfl, fun H hH => load_eq (m := S.n) (od_ok he hx) hi hag (hp.keep fun b h => by
    obtain ⟨f, h1, h2, h3, h4⟩ := hb b h
    show H.get b = _; rw [h3, ← h2]; exact hH f h1 h4) hv⟩
theorem FPD_conv {x : Operand} {s d el m : Nat} {si di ei : TI} {v : AV} {cs : List AV} {z : List Nat} {ms : List Nat} (hx : od l x = some v) (hs : X.ti s = some si) (hd : X.ti d = some di) (hdd : di.desc = .string) (hsd : si.desc = .slice el) (he' : X.ti el = some ei) (hk : ei.desc = .int .u8) (hrd : Rd S v 1 cs m) (hz : bytesOf cs = some z)
    (hb : ∀ b, blkOf v = some b → ∃ f ∈ D, f.id = b ∧ S.h.get b = some f.x ∧ ∀ j, f.src = some j → inM ms i j = true) :
    ∀ e, Ag l e → cls X e (.convert s d x) = .read ∧ FPD X D ms i e (.convert s d x) (.str z) := fun _ he =>
  ⟨by unfold cls; dsimp only; rw [hs]; dsimp only; rw [hsd]; dsimp only; rw [hd]; dsimp only; rw [hdd], fun H hH => conv_eq (m' := S.n) (od_ok he hx) hs hd hdd hsd he' hk (hrd.keep fun b h => by
    obtain ⟨f, h1, h2, h3, h4⟩ := hb b h
    show H.get b = _; rw [h3, ← h2]; exact hH f h1 h4) hz⟩
end
end
end GX
