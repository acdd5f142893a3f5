/- carafelaw1.MutfWrites. (NODRAWN) -/
import Derived.Test.YtnlfcoojlgdgaaaDoorWWr3
import Derived.KernelRfl
namespace Go.Proofs.YtnlfcoojlgdgaaaDoor
open GX
set_option maxHeartbeats 16000000
structure PartA where
  kind : Int
  bytes : Int
  n : Int
  text : List Nat
  raw : AV
  rawb : List Nat
def PartA.cells (p : PartA) : List AV := [.int .i64 p.kind, .int .i64 p.bytes, .int .i64 p.n, .str p.text, p.raw]
structure PartA.Good (p : PartA) : Prop where
  tb : ∀ b ∈ p.text, b < 256
  tl : p.text.length ≤ 1048576
  rl : p.rawb.length ≤ 1048576
  rb : ∀ b ∈ p.rawb, b < 256
  rd : ∀ S, Rd S p.raw 1 (sbytes p.rawb) p.rawb.length
theorem flat_len : ∀ (ps : List PartA), (ps.flatMap PartA.cells).length = 5 * ps.length
  | [] => rfl
  | p :: ps => by simp only [List.flatMap_cons, List.length_append, flat_len ps, PartA.cells, List.length_cons, List.length_nil]; omega
theorem flat_get : ∀ (ps : List PartA) (i : Nat) (h : i < ps.length), ((ps.flatMap PartA.cells).drop (i * 5)).take 5 = (ps[i]).cells
  | p :: ps, 0, _ => by simp [PartA.cells]
  | p :: ps, i + 1, h => by
    have e : (i + 1) * 5 = 5 + i * 5 := by omega
    rw [e, ← List.drop_drop, List.flatMap_cons, List.drop_append_of_le_length (by simp [PartA.cells])]
    have e2 : p.cells.drop 5 = [] := by simp [PartA.cells]
    rw [e2, List.nil_append]
    exact flat_get ps i (by simpa using h)
theorem PartA.veqs {p : PartA} (h : p.Good) : GX.veqs p.cells p.cells = true := by
  have h1 := (h.rd { h := .leaf, n := 0 }).self
  simp [PartA.cells, GX.veqs, veq_int, veq_str, h1]
theorem PartA.ones {p : PartA} (h : p.Good) : p.cells.all AV.one = true := by
  have h1 := sl_one (h.rd { h := .leaf, n := 0 }).sl
  simp only [PartA.cells, List.all_cons, List.all_nil, h1]; rfl
/-- the writer, and what was to be written -/
structure LM (p : Nat) (T : St) (vb w : AV) (l l' : List Nat) : Prop where
  ok : Sok T
  wr : Wr T p vb l
  ow : Ow T w l'
  np : blkOf w ≠ some p
  nv : ∀ c, blkOf w = some c → blkOf vb ≠ some c
theorem LM.fr {p : Nat} {T T' : St} {vb w : AV} {l l' : List Nat} {k : Nat} (h : LM p T vb w l l') (a : Fr T T' .nils k) : LM p T' vb w l l' :=
  ⟨a.ok, h.wr.fr h.ok a, h.ow.keep (fun c hc => a.same c (by simp [blkOf]) (h.ow.lt h.ok hc)), h.np, h.nv⟩
theorem LM.wf {p : Nat} {T T' : St} {vb vb' w : AV} {l l' l2 : List Nat} {k : Nat} (h : LM p T vb w l l') (a : WrF T T' p vb vb' k) (b : Wr T' p vb' l2) : LM p T' vb' w l2 l' :=
  ⟨a.ok, b, h.ow.keep (fun c hc => a.same c (fun g => h.np (by rw [hc, g])) (h.nv c hc) (h.ow.lt h.ok hc)), h.np, fun c hc g => by
    rcases a.bk c g with g2 | g2
    · exact h.nv c hc g2
    · have := h.ow.lt h.ok hc; omega⟩
theorem LM.of {p : Nat} {T T' : St} {vb w w' : AV} {l l' l2 : List Nat} {k : Nat} (h : LM p T vb w l l') (a : Fr T T' w k) (b : Ow T' w' l2) (hb : ∀ c, blkOf w' = some c → blkOf w = some c ∨ T.n ≤ c) : LM p T' vb w' l l2 := by
  refine ⟨a.ok, h.wr.keep (a.same p h.np (h.ok _ _ h.wr.at_)) (fun c hc => a.same c (fun g => h.nv c g hc) (h.wr.ow.lt h.ok hc)), b, fun g => ?_, fun c hc g => ?_⟩
  · rcases hb p g with g2 | g2
    · exact h.np g2
    · have := h.ok _ _ h.wr.at_; omega
  · rcases hb c hc with g2 | g2
    · exact h.nv c g2 g
    · have := h.wr.ow.lt h.ok g; omega
theorem Fr.any {T T' : St} {w : AV} {k : Nat} (a : Fr T T' .nils k) : Fr T T' w k := ⟨a.le, a.n, a.ok, fun c _ h => a.same c (by simp [blkOf]) h⟩
theorem textB_lt (s : List Nat) : ∀ b ∈ textB s, b < 256 := by
  unfold textB
  split
  · exact encS_lt
  · simp
theorem textL_lt (s : List Nat) : ∀ b ∈ textL s, b < 256 := by
  intro b hb
  unfold textL at hb
  rcases List.mem_append.1 hb with h | h
  · exact numL_lt _ _ b h
  · exact textB_lt s b h
theorem textL_len (s : List Nat) : (textL s).length ≤ 258 := by
  have := textB_len s
  unfold textL
  simp only [List.length_append, numL_len]; omega
theorem known_true {S : St} {R : AV → St → Prop} (h : R (.bool true) S) : Runs X1 15 [] S R := Runs_ext (g := extTrue) rfl rfl (Nat.le_refl _) h
theorem writes_runs {S : St} {av : AV} {ps : List PartA} (hok : Sok S) (hav : ∀ S, Rd S av 5 (ps.flatMap PartA.cells) ps.length) (hgood : ∀ p ∈ ps, p.Good) (hn : S.n ≤ 1000) :
    Runs X1 6 [av] S fun r _ => r = .bool true := by
  refine Runs_fn (m := 69) (by kernel_rfl) Tryd.func6 rfl (by kernel_rfl) (by kernel_rfl) ?_
  repeat (
    first
      | refine W_seq ?_
      | refine WO_nil ?_
      | refine V_seq ?_
      | refine W_region ?_
      | refine WO_dst rfl rfl (by kernel_rfl) (by kernel_rfl) ?_
      | refine Ev_assign rfl ?_)
  refine Ev_call rfl rfl ((new_runs hok (by omega)).mono ?_)
  rintro _ S1 - ⟨rfl, hn1, hok1, hf1, hw1⟩
  repeat (
    first
      | refine W_seq ?_
      | refine WO_nil ?_
      | refine V_seq ?_
      | refine W_region ?_
      | refine W_skip ?_
      | refine W_block ?_
      | refine W_cond_f rfl ?_
      | refine WO_dst rfl rfl (by kernel_rfl) (by kernel_rfl) ?_
      | refine Ev_move rfl ?_
      | refine Ev_assign rfl ?_
      | refine Ev_ptr_eql rfl rfl rfl rfl ?_)
  refine W_inv (fun a : Nat × AV × AV × List Nat => [(5, .int .i64 ((a.1 : Nat) : Int)), (4, a.2.2.1), (3, .ptr S.n 0), (0, av)]) (fun a T => LM S.n T a.2.1 a.2.2.1 a.2.2.2 a.2.2.2 ∧ (∀ b ∈ a.2.2.2, b < 256) ∧ a.1 ≤ 30 ∧ a.2.2.2.length ≤ 1048577 * a.1 ∧ T.n ≤ S.n + 1 + 9500000 * a.1 ∧ S.n < T.n) (fun a => 31 - a.1) ?_ (0, .nils, .nils, []) ⟨⟨hok1, hw1, .inl ⟨rfl, rfl, rfl⟩, by simp [blkOf], fun c h => by cases h⟩, by simp, by simp, by simp, by dsimp only; omega, by omega⟩ ⟨rfl, rfl, rfl, rfl, trivial⟩
  rintro ⟨i, vb, w, l⟩ T ⟨hL, hlb, hi, hll, hTn, hTl⟩ back
  dsimp only at hL hlb hi hll hTn hTl back
  repeat' (
    first
      | refine W_seq ?_
      | refine WO_nil ?_
      | refine V_seq ?_
      | refine W_region ?_
      | refine W_skip ?_
      | refine W_block ?_
      | refine W_exit ?_
      | refine V_block_x rfl ?_
      | refine V_seq_x ?_
      | refine V_loop_x ?_
      | refine W_cond_f rfl ?_
      | refine WO_dst rfl rfl (by kernel_rfl) (by kernel_rfl) ?_
      | refine WO_guard_t rfl rfl rfl rfl rfl (by kernel_rfl) (by kernel_rfl) ?_
      | refine WO_guard_f rfl rfl rfl rfl rfl rfl (by kernel_rfl) (by kernel_rfl) ?_
      | refine Ev_len rfl rfl rfl rfl rfl (hav T).len ?_
      | refine Ev_move rfl ?_
      | refine Ev_pick_t rfl rfl rfl ?_
      | refine Ev_pick_f rfl rfl rfl ?_
      | refine Ev_lssN rfl rfl ?_
      | (refine WO_guard_dt rfl rfl rfl rfl rfl (by kernel_rfl) (by kernel_rfl) (fun hg => ?_) (fun hg => ?_) <;> (try dsimp only at hg) <;> try (exfalso; first | omega | exact hg rfl))
      | (refine W_cond rfl (fun hc => ?_) (fun hc => ?_) <;> (try dsimp only at hc) <;> try (exfalso; first | omega | exact hc rfl)))
  · obtain ⟨P, hP⟩ : ∃ P, P = ps[i] := ⟨_, rfl⟩
    have hG : P.Good := hgood P (by rw [hP]; exact List.getElem_mem _)
    have hlt := flat_get ps i hg
    rw [← hP] at hlt
    refine Ev_indexAddr_rd rfl rfl rfl rfl rfl (hav T) hg ?_
    intro q hq
    repeat (
      first
        | refine WO_dst rfl rfl (by kernel_rfl) (by kernel_rfl) ?_
        | refine Ev_load_pt_agg rfl rfl rfl hq (by rw [flat_len]; dsimp only; omega) hlt (PartA.veqs hG) ?_)
    refine Ev_alloc_ rfl hL.ok (by omega) ?_
    intro T2 gn2 gok2 gq2 gf2
    repeat (
      refine WO_no rfl rfl ?_)
    refine Ev_store rfl rfl rfl rfl (PartA.ones hG) gq2 (by simp [PartA.cells, AV.cells]) (by omega) ?_
    intro T3 gn3 gq3 gf3
    have h6 : T3.h.get T.n = some (.cells 40 P.cells false) := by rw [gq3]; rfl
    have hF3 : Fr T T3 .nils 1 := ⟨by omega, by omega, Sok.upd gok2 (by omega) gn3 gq3 gf3, fun c _ h => by rw [gf3 c (by omega), gf2 c h]⟩
    have hL3 := hL.fr hF3
    repeat' (
      first
        | refine W_seq ?_
        | refine WO_nil ?_
        | refine V_seq ?_
        | refine W_region ?_
        | refine W_skip ?_
        | refine W_block ?_
        | refine V_block ?_
        | refine WO_dst rfl rfl (by kernel_rfl) (by kernel_rfl) ?_
        | refine Ev_load rfl rfl rfl h6 rfl (veq_int _ _) ?_
        | refine Ev_move rfl ?_
        | refine Ev_assign rfl ?_
        | refine Ev_eql rfl rfl ?_
        | refine Ev_fieldAddr rfl rfl rfl rfl rfl rfl ?_
        | refine Ev_addN rfl rfl (by simp only [lim]; omega) ?_
        | (refine W_cond rfl (fun hc => ?_) (fun hc => ?_) <;> (try dsimp only at hc) <;> try (exfalso; first | omega | exact hc rfl)))
    · refine Ev_call rfl rfl ((number_runs hL3.ok hL3.wr (by omega) (by omega)).mono ?_)
      rintro _ T4 - ⟨vb4, hw4, hF4⟩
      have hL4 := hL3.wf hF4 hw4
      have h64 : T4.h.get T.n = some (.cells 40 P.cells false) := by rw [hF4.same T.n (by omega) (fun g => by have := hL.wr.ow.lt hL.ok g; omega) (by omega)]; exact h6
      have gn4 := hF4.n
      have gl4 := hF4.le
      repeat (
        first
          | refine WO_nil ?_
          | refine V_seq ?_
          | refine W_region ?_
          | refine WO_dst rfl rfl (by kernel_rfl) (by kernel_rfl) ?_
          | refine Ev_load rfl rfl rfl h64 rfl (veq_int _ _) ?_
          | refine Ev_move rfl ?_
          | refine Ev_fieldAddr rfl rfl rfl rfl rfl rfl ?_)
      refine Ev_call rfl rfl ((rnumber_runs hL4.ok hL4.ow.rd (by omega) (by omega)).mono ?_)
      rintro w5 T5 - ⟨hF5, ho5, hb5⟩
      have hL5 := hL4.of hF5.any ho5 (fun c hc => .inr (hb5 c hc))
      have gn5 := hF5.n
      have gl5 := hF5.le
      repeat (
        first
          | refine WO_nil ?_
          | refine V_seq ?_
          | refine W_region ?_
          | refine V_block ?_
          | refine WO_dst rfl rfl (by kernel_rfl) (by kernel_rfl) ?_
          | refine Ev_move rfl ?_
          | refine Ev_assign rfl ?_
          | refine Ev_addN rfl rfl (by simp only [lim]; omega) ?_)
      have hsz := sizeN_le P.bytes
      refine back (i + 1, vb4, w5, _) T5 _ (by dsimp only; omega) ⟨hL5, ?_, by dsimp only; omega, ?_, by dsimp only; omega, by omega⟩ ⟨rfl, rfl, rfl, rfl, trivial⟩
      · intro b hb
        rcases List.mem_append.1 hb with h | h
        · exact hlb b h
        · exact numL_lt _ _ b h
      · simp only [List.length_append, numL_len]; omega
    · have gtl := hG.tl
      repeat (
        first
          | refine WO_dst rfl rfl (by kernel_rfl) (by kernel_rfl) ?_
          | refine Ev_load rfl rfl rfl h6 rfl (veq_str _) ?_)
      refine Ev_call rfl rfl ((wtext_runs hL3.ok hL3.wr (by omega) (by omega) (by omega)).mono ?_)
      rintro _ T4 - ⟨vb4, hw4, hF4⟩
      have hL4 := hL3.wf hF4 hw4
      have h64 : T4.h.get T.n = some (.cells 40 P.cells false) := by rw [hF4.same T.n (by omega) (fun g => by have := hL.wr.ow.lt hL.ok g; omega) (by omega)]; exact h6
      have gn4 := hF4.n
      have gl4 := hF4.le
      repeat (
        first
          | refine WO_nil ?_
          | refine V_seq ?_
          | refine W_region ?_
          | refine WO_dst rfl rfl (by kernel_rfl) (by kernel_rfl) ?_
          | refine Ev_load rfl rfl rfl h64 rfl (veq_str _) ?_
          | refine Ev_move rfl ?_
          | refine Ev_fieldAddr rfl rfl rfl rfl rfl rfl ?_)
      refine Ev_call rfl rfl ((rtext_runs hL4.ok hL4.ow.rd hG.tb (by omega) (by omega) (by omega)).mono ?_)
      rintro w5 T5 - ⟨hF5, ho5, hb5⟩
      have hL5 := hL4.of hF5.any ho5 (fun c hc => .inr (hb5 c hc))
      have gn5 := hF5.n
      have gl5 := hF5.le
      repeat (
        first
          | refine WO_nil ?_
          | refine V_seq ?_
          | refine W_region ?_
          | refine V_block ?_
          | refine WO_dst rfl rfl (by kernel_rfl) (by kernel_rfl) ?_
          | refine Ev_move rfl ?_
          | refine Ev_assign rfl ?_
          | refine Ev_addN rfl rfl (by simp only [lim]; omega) ?_)
      have htl := textL_len P.text
      refine back (i + 1, vb4, w5, _) T5 _ (by dsimp only; omega) ⟨hL5, ?_, by dsimp only; omega, ?_, by dsimp only; omega, by omega⟩ ⟨rfl, rfl, rfl, rfl, trivial⟩
      · intro b hb
        rcases List.mem_append.1 hb with h | h
        · exact hlb b h
        · exact textL_lt P.text b h
      · simp only [List.length_append]; omega
    · have grl := hG.rl
      repeat (
        first
          | refine WO_dst rfl rfl (by kernel_rfl) (by kernel_rfl) ?_
          | refine Ev_load rfl rfl rfl h6 rfl (hG.rd T3).self ?_)
      refine Ev_call rfl rfl ((wbytes_runs hL3.ok hL3.wr (hG.rd T3) (by omega) (by omega) (by omega)).mono ?_)
      rintro _ T4 - ⟨vb4, hw4, hF4⟩
      have hL4 := hL3.wf hF4 hw4
      have h64 : T4.h.get T.n = some (.cells 40 P.cells false) := by rw [hF4.same T.n (by omega) (fun g => by have := hL.wr.ow.lt hL.ok g; omega) (by omega)]; exact h6
      have gn4 := hF4.n
      have gl4 := hF4.le
      repeat (
        first
          | refine WO_nil ?_
          | refine V_seq ?_
          | refine W_region ?_
          | refine WO_dst rfl rfl (by kernel_rfl) (by kernel_rfl) ?_
          | refine Ev_load rfl rfl rfl h64 rfl (hG.rd T4).self ?_
          | refine Ev_move rfl ?_
          | refine Ev_fieldAddr rfl rfl rfl rfl rfl rfl ?_)
      refine Ev_append rfl rfl rfl rfl rfl rfl rfl rfl rfl rfl hL4.ow (hG.rd T4) (by first | exact sbytes_one _ | (unfold sbytes; simp [AV.one])) hL4.ok (by omega) (by dsimp only; omega) (by omega) ?_
      intro w5 T5 gl5 gn5 gok5 ho5 gf5 hb5
      have hF5 : Fr T4 T5 w 1 := ⟨gl5, gn5, gok5, gf5⟩
      have ho5' : Ow T5 w5 (l ++ P.rawb) := ho5.eq (sbytes_app _ _).symm (by simp)
      have hL5 := hL4.of hF5 ho5' hb5
      repeat (
        first
          | refine WO_nil ?_
          | refine V_seq ?_
          | refine W_region ?_
          | refine V_block ?_
          | refine WO_dst rfl rfl (by kernel_rfl) (by kernel_rfl) ?_
          | refine Ev_move rfl ?_
          | refine Ev_assign rfl ?_
          | refine Ev_addN rfl rfl (by simp only [lim]; omega) ?_)
      refine back (i + 1, vb4, w5, _) T5 _ (by dsimp only; omega) ⟨hL5, ?_, by dsimp only; omega, ?_, by dsimp only; omega, by omega⟩ ⟨rfl, rfl, rfl, rfl, trivial⟩
      · intro b hb
        rcases List.mem_append.1 hb with h | h
        · exact hlb b h
        · exact hG.rb b h
      · simp only [List.length_append]; omega
    · have gl5 : T.n ≤ T3.n := hF3.le
      have gn5 := hF3.n
      exact back (i + 1, vb, w, l) T3 _ (by dsimp only; omega) ⟨hL3, hlb, by dsimp only; omega, by dsimp only; omega, by dsimp only; omega, by omega⟩ ⟨rfl, rfl, rfl, rfl, trivial⟩
  all_goals
    obtain ⟨B, hB⟩ : ∃ B : List Nat, ∀ b, b ∈ B ↔ blkOf w = some b := ⟨(blkOf w).toList, by simp⟩
    refine W_drawnB B (fun b hb => hL.ow.lt hL.ok ((hB b).1 hb)) (by kernel_rfl) ?_
    repeat (
      first
        | refine WD_pa rfl rfl (by kernel_rfl) (by kernel_rfl) rfl ?_
        | refine Ev_move rfl ?_)
    refine WD_ld rfl rfl (by kernel_rfl) (by kernel_rfl) (by kernel_rfl) ?_
    refine Ev_call rfl rfl ((done_runs hL.ok hL.wr (by omega) (by omega)).mono ?_)
    rintro v S2 - ⟨hF, hz, hbv⟩
    have hS : ∀ b ∈ B, S2.h.get b = T.h.get b := fun b hb => hF.same b (by simp [blkOf]) (hL.ow.lt hL.ok ((hB b).1 hb))
    refine ⟨hS, ?_⟩
    refine WD_rs rfl rfl (by kernel_rfl) (by kernel_rfl) (by kernel_rfl) (by kernel_rfl) ?_
    refine Ev_conv_to_str rfl rfl rfl rfl rfl rfl rfl hz.rd (bytesOf_sbytes hlb) ?_
    repeat (
      first
        | refine WD_pa rfl rfl (by kernel_rfl) (by kernel_rfl) rfl ?_
        | refine Ev_move rfl ?_)
    have hw2 := hL.ow.keep (fun b hb => hS b ((hB b).2 hb))
    refine WD_rf rfl rfl (by kernel_rfl) (by kernel_rfl) hS (FP_conv rfl rfl rfl rfl rfl rfl rfl hS (fun b hb => (hB b).2 hb) hw2.rd (bytesOf_sbytes hlb)) (veq_str _) ?_
    repeat' (
      first
        | refine WD_pa rfl rfl (by kernel_rfl) (by kernel_rfl) rfl ?_
        | refine Ev_move rfl ?_
        | refine Ev_seql rfl rfl ?_
        | (refine WD_guard_dt rfl rfl rfl rfl rfl (by kernel_rfl) (by kernel_rfl) (fun hg => ?_) (fun hg => ?_) <;> (try dsimp only at hg) <;> try (exfalso; first | omega | exact hg rfl)))
    refine WD_ld rfl rfl (by kernel_rfl) (by kernel_rfl) (by kernel_rfl) ?_
    refine Ev_call rfl rfl (known_true ?_)
    refine ⟨hS, ?_⟩
    repeat (
      first
        | refine WD_nil ?_
        | refine WD_pa rfl rfl (by kernel_rfl) (by kernel_rfl) rfl ?_
        | refine V_seq ?_
        | refine W_ret ?_
        | refine Ev_assign rfl ?_
        | refine Ev_pick_t rfl rfl rfl ?_)
    repeat (
      refine W_seq ?_)
    refine V_done rfl rfl ?_
    rfl
end Go.Proofs.YtnlfcoojlgdgaaaDoor
