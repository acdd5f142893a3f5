/- What the row leans on, part 10: texts one behind the other. No condition. -/
import Derived.Test.YtjbpegggfacojaaMg9
import Derived.KernelRfl
import Derived.Test.YtjbpegggfacojaaMg7
import Derived.Test.YtjbpegggfacojaaMg6
/- carafelaw15: name of one of five; LoaderSteady. (NODRAWN) -/



namespace Go.Proofs.Ytjbpegggfacojaa
open GX
set_option maxHeartbeats 16000000
set_option maxRecDepth 100000
def five : List Nm := [[65], [66], [67], [68], [69]]
theorem five_name {nm : Nm} (h : nm ∈ five) : nameP nm ∧ nm.length < 1000 := by
  have : ∀ q ∈ five, nameP q ∧ q.length < 1000 := by decide
  exact this nm h
theorem five_runs {S : St} {n : Int} (hok : Sok S) (hr : -9223372036854775808 ≤ n ∧ n < 9223372036854775808) (hn : S.n + 2 ≤ 1000000000) :
    Runs X1 17 [.str [], .int .i64 n] S fun r U => (∃ nm ∈ five, r = .str nm) ∧ Sok U ∧ S.n ≤ U.n ∧ U.n ≤ S.n + 1 ∧ ∀ c, c < S.n → U.h.get c = S.h.get c := by
  have hf : ∀ m : Nat, ∃ nm ∈ five, ([AV.str [65], .str [66], .str [67], .str [68], .str [69]])[0 + m % 5 * 1]? = some (.str nm) := fun m => by
    have h5 : m % 5 = 0 ∨ m % 5 = 1 ∨ m % 5 = 2 ∨ m % 5 = 3 ∨ m % 5 = 4 := by omega
    rcases h5 with e | e | e | e | e <;> rw [e]
    · exact ⟨[65], by decide, rfl⟩
    · exact ⟨[66], by decide, rfl⟩
    · exact ⟨[67], by decide, rfl⟩
    · exact ⟨[68], by decide, rfl⟩
    · exact ⟨[69], by decide, rfl⟩
  refine Runs_fn (m := 23) (by kernel_rfl) Try.func17 rfl (by kernel_rfl) (by kernel_rfl) ?_
  by_cases h0 : n < 0
  · obtain ⟨m, hm⟩ : ∃ m : Nat, -(n + 1) = (m : Int) := ⟨(-(n + 1)).toNat, by omega⟩
    repeat (
      first
        | refine W_seq ?_
        | refine WO_nil ?_
        | refine V_seq ?_
        | refine W_region ?_
        | refine W_skip ?_
        | refine W_cond_f rfl ?_
        | refine WO_dst rfl rfl (by kernel_rfl) (by kernel_rfl) ?_
        | refine WO_guard_f rfl rfl rfl rfl rfl rfl (by kernel_rfl) (by kernel_rfl) ?_
        | refine Ev_move rfl ?_
        | refine Ev_assign rfl ?_
        | refine Ev_pick_f rfl rfl rfl ?_
        | refine Ev_lss rfl rfl ?_
        | refine Ev_sneq rfl rfl ?_)
    refine W_condb rfl (fun hc => ?_) (fun hc => absurd h0 (of_decide_eq_false hc))
    repeat (
      first
        | refine W_region ?_
        | refine WO_dst rfl rfl (by kernel_rfl) (by kernel_rfl) ?_
        | refine Ev_move rfl ?_
        | refine Ev_add rfl rfl (by simp only [inR]; omega) ?_)
    refine Ev_un (v := .int .i64 ((m : Nat) : Int)) rfl (by show some (AV.int .i64 (wrp .i64 (0 - (n + 1)))) = _; rw [wrp_in (by simp only [inR]; omega)]; congr 2; omega) ?_
    repeat (
      first
        | refine W_seq ?_
        | refine WO_nil ?_
        | refine V_seq ?_
        | refine W_region ?_
        | refine WO_dst rfl rfl (by kernel_rfl) (by kernel_rfl) ?_
        | refine Ev_assign rfl ?_)
    refine Ev_buildSlice rfl rfl rfl rfl rfl rfl hok (by omega) ?_
    intro S1 n1 ok1 q1 f1
    repeat (
      first
        | refine WO_dst rfl rfl (by kernel_rfl) (by kernel_rfl) ?_
        | refine Ev_move rfl ?_)
    refine Ev_remN (a := m) (b := 5) rfl rfl (by omega) ?_
    repeat (
      first
        | refine WO_dst rfl rfl (by kernel_rfl) (by kernel_rfl) ?_
        | refine Ev_indexAddr rfl rfl rfl rfl rfl (by first | omega | (dsimp only; done) | (dsimp only; omega)) ?_)
    obtain ⟨nm, h1, h2⟩ := hf m
    refine Ev_load rfl rfl rfl q1 h2 (veq_str _) ?_
    repeat (
      first
        | refine WO_nil ?_
        | refine V_seq ?_
        | refine W_ret ?_
        | refine WO_dst rfl rfl (by kernel_rfl) (by kernel_rfl) ?_
        | refine Ev_assign rfl ?_)
    exact V_done rfl rfl ⟨⟨nm, h1, rfl⟩, ok1, by omega, by omega, f1⟩
  · obtain ⟨m, rfl⟩ : ∃ m : Nat, n = (m : Int) := ⟨n.toNat, by omega⟩
    repeat' (
      first
        | refine W_seq ?_
        | refine WO_nil ?_
        | refine V_seq ?_
        | refine W_region ?_
        | refine W_skip ?_
        | refine W_cond_f rfl ?_
        | refine WO_dst rfl rfl (by kernel_rfl) (by kernel_rfl) ?_
        | refine WO_guard_f rfl rfl rfl rfl rfl rfl (by kernel_rfl) (by kernel_rfl) ?_
        | refine Ev_move rfl ?_
        | refine Ev_assign rfl ?_
        | refine Ev_pick_f rfl rfl rfl ?_
        | refine Ev_lssN rfl rfl ?_
        | refine Ev_sneq rfl rfl ?_)
    refine Ev_buildSlice rfl rfl rfl rfl rfl rfl hok (by omega) ?_
    intro S1 n1 ok1 q1 f1
    repeat (
      first
        | refine WO_dst rfl rfl (by kernel_rfl) (by kernel_rfl) ?_
        | refine Ev_move rfl ?_)
    refine Ev_remN (a := m) (b := 5) rfl rfl (by omega) ?_
    repeat (
      first
        | refine WO_dst rfl rfl (by kernel_rfl) (by kernel_rfl) ?_
        | refine Ev_indexAddr rfl rfl rfl rfl rfl (by first | omega | (dsimp only; done) | (dsimp only; omega)) ?_)
    obtain ⟨nm, h1, h2⟩ := hf m
    refine Ev_load rfl rfl rfl q1 h2 (veq_str _) ?_
    repeat (
      first
        | refine WO_nil ?_
        | refine V_seq ?_
        | refine W_ret ?_
        | refine WO_dst rfl rfl (by kernel_rfl) (by kernel_rfl) ?_
        | refine Ev_assign rfl ?_)
    exact V_done rfl rfl ⟨⟨nm, h1, rfl⟩, ok1, by omega, by omega, f1⟩
/-- a call that is asked for -/
structure AskA where
  k : Int
  n : Int
  m : Int
  id : Int
  nm : Nm
  sup : Nm
abbrev AskA.cells (a : AskA) : List AV := [.int .i64 a.k, .int .i64 a.n, .int .i64 a.m, .int .i64 a.id, .str a.nm, .str a.sup]
structure AskA.Good (a : AskA) : Prop where
  id : -9223372036854775808 ≤ a.id ∧ a.id < 9223372036854775808
def cellsK (l : List AskA) : List AV := l.flatMap AskA.cells
abbrev Got := Nat × Int × Nm
abbrev gotC (g : Got) : List AV := [.int .i64 ((g.1 : Nat) : Int), .int .i64 g.2.1, .str g.2.2]
def cellsG (l : List Got) : List AV := l.flatMap gotC
abbrev Pact := Nat × Nat × Nm
abbrev pacC (q : Pact) : List AV := [.int .i64 0, .int .i64 ((q.1 : Nat) : Int), .int .i64 ((q.2.1 : Nat) : Int), .int .i64 0, .str q.2.2, .str []]
def cellsP (l : List Pact) : List AV := l.flatMap pacC
theorem flat_at {α : Type} {f : α → List AV} {sz : Nat} (hf : ∀ a, (f a).length = sz) : ∀ (l : List α) (i : Nat) (a : α), l[i]? = some a → ((l.flatMap f).drop (i * sz)).take sz = f a ∧ i * sz + sz ≤ (l.flatMap f).length
  | [], _, _, h => by simp at h
  | x :: l, 0, a, h => by
    cases h
    rw [Nat.zero_mul, List.drop_zero, List.flatMap_cons, List.take_append_of_le_length (by rw [hf]; exact Nat.le_refl _), List.take_of_length_le (by rw [hf]; exact Nat.le_refl _), List.length_append, hf]
    exact ⟨rfl, by omega⟩
  | x :: l, i + 1, a, h => by
    obtain ⟨h1, h2⟩ := flat_at hf l i a h
    have e : (i + 1) * sz = sz + i * sz := by rw [Nat.add_mul]; omega
    have e2 : (f x ++ l.flatMap f).drop (sz + i * sz) = (l.flatMap f).drop (i * sz) := by
      rw [← List.drop_drop, List.drop_append_of_le_length (by rw [hf]; exact Nat.le_refl _), List.drop_of_length_le (l := f x) (by rw [hf]; exact Nat.le_refl _), List.nil_append]
    rw [e, List.flatMap_cons, e2, List.length_append, hf]
    exact ⟨h1, by omega⟩
theorem flat_cell {α : Type} {f : α → List AV} {sz : Nat} (hf : ∀ a, (f a).length = sz) {l : List α} {i j : Nat} {a : α} {v : AV} (h : l[i]? = some a) (hv : (f a)[j]? = some v) : (l.flatMap f)[i * sz + j]? = some v := by
  obtain ⟨h1, _⟩ := flat_at hf l i a h
  have hj : j < sz := by rw [← hf a]; exact (List.getElem?_eq_some_iff.1 hv).1
  have h2 : (((l.flatMap f).drop (i * sz)).take sz)[j]? = some v := by rw [h1]; exact hv
  rw [List.getElem?_take, if_pos hj, List.getElem?_drop] at h2
  exact h2
/-- the loaders, what was loaded, and what was agreed on -/
structure SI (T : St) (p : Nat) (y : Lay) (st : LdS) (hv : AV) (had : List Got) (pv : AV) (psl pset : List Pact) (i : Nat) (b : Nat) : Prop where
  L : Ls T p y st
  A : All st pset
  hl : Own T hv 52 3 (cellsG had) had.length
  pl : Own T pv 41 6 (cellsP psl) psl.length
  th : ∀ c, blkOf hv = some c → y.tg c = 5
  tp : ∀ c, blkOf pv = some c → y.tg c = 5
  dis : ∀ c, blkOf hv = some c → blkOf pv ≠ some c
  hg : ∀ g ∈ had, g.1 < st.ones.length ∧ ∃ x, hasS st ((g.1 : Nat) : Int) g.2.2 = some x ∧ x.1 = g.2.1
  pg : ∀ q ∈ psl, q ∈ pset ∧ q.1 < st.ones.length ∧ q.2.1 < st.ones.length
  few : had.length ≤ i ∧ psl.length ≤ i
  off : ∃ K : List (Int × Nm), K.length ≤ i ∧ ∀ (m : Int) nm o, 0 ≤ m → offS st m nm = some o → (m, nm) ∈ K
  prs : st.prs.length ≤ 13000 * i
  n : T.n ≤ b
theorem SI.small {T : St} {p : Nat} {y : Lay} {st : LdS} {hv pv : AV} {had : List Got} {psl pset : List Pact} {i b : Nat} (h : SI T p y st hv had pv psl pset i b) : st.ones.length ≤ 100 := by
  obtain ⟨⟨rt, d, gk⟩, _⟩ := h.A.inv
  exact gk.ok.small
theorem SI.good {T : St} {p : Nat} {y : Lay} {st : LdS} {hv pv : AV} {had : List Got} {psl pset : List Pact} {i b : Nat} (h : SI T p y st hv had pv psl pset i b) : Good st := by
  obtain ⟨⟨rt, d, gk⟩, _⟩ := h.A.inv
  exact ⟨rt, d, gk.ok⟩
/-- a call of the loaders -/
theorem SI.call {T U : St} {p : Nat} {y y' : Lay} {st st' : LdS} {hv pv : AV} {had : List Got} {psl pset pset' : List Pact} {i j b b' k : Nat} (h : SI T p y st hv had pv psl pset i b) (hL : Ls U p y' st') (hA : All st' pset') (hfo : Fo T U y y' k) (hex : Ex st st') (hlen : st.ones.length ≤ st'.ones.length) (hsub : ∀ q ∈ pset, q ∈ pset')
    (hij : i ≤ j) (hoff : ∃ K : List (Int × Nm), K.length ≤ j ∧ ∀ (m : Int) nm o, 0 ≤ m → offS st' m nm = some o → (m, nm) ∈ K) (hprs : st'.prs.length ≤ 13000 * j) (hb : U.n ≤ b') : SI U p y' st' hv had pv psl pset' j b' := by
  refine ⟨hL, hA, h.hl.keep (fun c hc => hfo.fo c (h.hl.lt h.L.ok hc) (h.th c hc)), h.pl.keep (fun c hc => hfo.fo c (h.pl.lt h.L.ok hc) (h.tp c hc)), fun c hc => by rw [hfo.tg c (h.hl.lt h.L.ok hc)]; exact h.th c hc, fun c hc => by rw [hfo.tg c (h.pl.lt h.L.ok hc)]; exact h.tp c hc, h.dis, fun g hg => ?_, fun q hq => ?_, ⟨by have := h.few; omega, by have := h.few; omega⟩, hoff, hprs, hb⟩
  · obtain ⟨g1, x, g2, g3⟩ := h.hg g hg
    exact ⟨by omega, x, hex _ _ _ g2, g3⟩
  · obtain ⟨g1, g2, g3⟩ := h.pg q hq
    exact ⟨hsub q g1, by omega, by omega⟩
/-- new blocks that are nobody's -/
theorem SI.far {T U : St} {p : Nat} {y : Lay} {st : LdS} {hv pv : AV} {had : List Got} {psl pset : List Pact} {i b b' : Nat} (h : SI T p y st hv had pv psl pset i b) (hok : Sok U) (hf : ∀ c, c < T.n → U.h.get c = T.h.get c) (hle : T.n ≤ U.n) (hb : U.n ≤ b') : SI U p { y with tg := fun c => if c < T.n then y.tg c else 5 } st hv had pv psl pset i b' :=
  h.call (k := U.n) (h.L.far hok hf _ (fun c hc => if_pos hc)) h.A ⟨hle, by omega, fun c hc => if_pos hc, fun c hc _ => hf c hc⟩ (fun _ _ _ h => h) (Nat.le_refl _) (fun _ h => h) (Nat.le_refl _) h.off h.prs hb
end Go.Proofs.Ytjbpegggfacojaa
/- GX: slices that come in as arguments: they are only read. -/


namespace GX
open Go
section
variable {P : Program} {X : X}
theorem vrels_ints [Val] {φ : Phi} {k : IntKind} : ∀ (l : List Int), vrels φ (l.map (AV.int k)) (l.map (Value.int k))
  | [] => vrels_nil
  | n :: l => vrels_cons (by simp [vrel]) (vrels_ints l)
theorem veqs_ints {k : IntKind} : ∀ (l : List Int), veqs (l.map (AV.int k)) (l.map (AV.int k)) = true
  | [] => rfl
  | n :: l => by simp only [List.map_cons, veqs, veqs_ints l, veq, ieq_eq]; simp
/-- cells that came in, as a slice that is only read -/
theorem arg_cells [Val] {φ : Phi} {w : World} (hro : ∀ g o, w.heap[g]? = some o → Val.ro g = some o) {a : Addr} {len cap : Nat} {cs : List AV} {vs : List Value} (hl : len ≤ cap) (hv : vs.length = len) (hcell : ∀ i v, vs[i]? = some v → w.cell? (a.add i) = some v) (hrel : vrels φ cs vs) (hself : veqs cs cs = true) :
    ∃ av, vrel φ av (.slice (some a) len cap) ∧ ∀ S, Rd S av 1 cs len := by
  have hcl : cs.length = len := by rw [vrels_length hrel, hv]
  by_cases h0 : len = 0
  · subst h0
    cases List.eq_nil_of_length_eq_zero hcl
    exact ⟨.emp, ⟨a, cap, rfl⟩, fun S => ⟨rfl, rfl, rfl, rfl, rfl, rfl⟩⟩
  · have hsp : a.spot = none ∧ ∃ c t fz, w.heap[a.block]? = some (.cells c t fz) := by
      obtain ⟨v, hv0⟩ : ∃ v, vs[0]? = some v := ⟨_, List.getElem?_eq_getElem (by omega)⟩
      have h := hcell 0 v hv0
      unfold Addr.add World.cell? at h
      simp only [if_true] at h
      split at h
      · rename_i c t fz hh
        split at h
        · cases h
        · rename_i hs
          exact ⟨by simpa using hs, c, t, fz, hh⟩
      · cases h
    obtain ⟨hs, c, t, fz, hh⟩ := hsp
    have hget : ∀ i v, vs[i]? = some v → c[a.off + i]? = some v := by
      intro i v hi
      have h := hcell i v hi
      unfold World.cell? at h
      by_cases hi0 : i = 0
      · subst hi0
        simp only [Addr.add, if_true, hh, hs] at h
        simpa using h
      · simp only [Addr.add, if_neg hi0, hh] at h
        simpa using h
    have hfit : a.off + len ≤ c.size := by
      obtain ⟨v, hv0⟩ : ∃ v, vs[len - 1]? = some v := ⟨_, List.getElem?_eq_getElem (by omega)⟩
      have := (Array.getElem?_eq_some_iff.1 (hget _ _ hv0)).1
      omega
    have hlist : (c.toList.drop a.off).take len = vs := by
      apply List.ext_getElem?
      intro i
      rw [List.getElem?_take]
      split
      · rename_i hi
        obtain ⟨v, hv0⟩ : ∃ v, vs[i]? = some v := ⟨_, List.getElem?_eq_getElem (by omega)⟩
        rw [hv0, List.getElem?_drop]
        simpa using hget i v hv0
      · rw [List.getElem?_eq_none (by omega)]
    refine ⟨.rsl cs len 1, ?_, fun S => ⟨by simp [capW, hcl], by simp [veq, hself], rfl, rfl, ?_, by omega⟩⟩
    · simp only [vrel]
      refine ⟨a.block, a.off, cap, c, t, fz, ?_, hl, by omega, hro _ _ hh, by omega, by rw [hcl, hlist]; exact hrel⟩
      rw [← hs]
    · unfold srcCells; dsimp only
      rw [nble, decide_eq_true (by omega)]
      simp only [nbeq, decide_true, Bool.true_and, cond_true]
      rw [List.take_of_length_le (by omega)]
theorem arg_nil [Val] {φ : Phi} : vrel φ .nils (.slice none 0 0) ∧ ∀ S, Rd S .nils 1 [] 0 := ⟨rfl, fun _ => ⟨rfl, rfl, rfl, rfl, rfl, rfl⟩⟩
theorem arg_ints [Val] {φ : Phi} {k : IntKind} {w : World} (hro : ∀ g o, w.heap[g]? = some o → Val.ro g = some o) {a : Addr} {len cap : Nat} {zs : List Int} (hl : len ≤ cap) (hz : len ≤ zs.length) (hcell : ∀ i, i < zs.length → w.cell? (a.add i) = some (.int k (zs.getD i 0))) :
    ∃ av, vrel φ av (.slice (some a) len cap) ∧ ∀ S, Rd S av 1 ((zs.take len).map (AV.int k)) len := by
  refine arg_cells (vs := (zs.take len).map (Value.int k)) hro hl (by simp; omega) ?_ (vrels_ints _) (veqs_ints _)
  intro i v hi
  rw [List.getElem?_map] at hi
  have hi2 : i < len := by
    rcases Nat.lt_or_ge i len with h | h
    · exact h
    · rw [List.getElem?_eq_none (by simp; omega)] at hi; cases hi
  rw [List.getElem?_take, if_pos hi2, List.getElem?_eq_getElem (by omega)] at hi
  have hc := hcell i (by omega)
  rw [List.getD_eq_getElem?_getD, List.getElem?_eq_getElem (by omega)] at hc
  cases hi
  simpa using hc
/-- bytes that came in -/
theorem arg_bytes [Val] {φ : Phi} {w : World} (hro : ∀ g o, w.heap[g]? = some o → Val.ro g = some o) {a : Addr} {len cap : Nat} {zs : List Int} (hl : len ≤ cap) (hz : len ≤ zs.length) (hcell : ∀ i, i < zs.length → w.cell? (a.add i) = some (.int .u8 (zs.getD i 0))) (hwf : ∀ n ∈ zs, 0 ≤ n ∧ n < 256) :
    ∃ av l, vrel φ av (.slice (some a) len cap) ∧ (∀ S, Rd S av 1 (sbytes l) l.length) ∧ (∀ b ∈ l, b < 256) ∧ l.length = len := by
  obtain ⟨av, h1, h2⟩ := arg_ints (φ := φ) hro hl hz hcell
  have hlen : ((zs.take len).map Int.toNat).length = len := by simp; omega
  refine ⟨av, (zs.take len).map Int.toNat, h1, fun S => (h2 S).eq ?_ hlen.symm, ?_, hlen⟩
  · unfold sbytes
    rw [List.map_map]
    apply List.map_congr_left
    intro n hn
    have := hwf n (List.mem_of_mem_take hn)
    show AV.int .u8 n = AV.int .u8 (Int.ofNat n.toNat)
    congr 1
    show n = ((n.toNat : Nat) : Int)
    omega
  · intro b hb
    obtain ⟨n, hn, rfl⟩ := List.mem_map.1 hb
    have := hwf n (List.mem_of_mem_take hn)
    omega
end
end GX
