/- What the row leans on, part 13: texts one behind the other. No condition. -/
import Derived.Test.YtnlfcoojlgdgaaaDoorMg12
import Derived.Test.YtnlfcoojlgdgaaaDoorMg11
import Derived.KernelRfl
/- carafelaw1.MutfReads. (NODRAWN) -/




namespace Go.Proofs.YtnlfcoojlgdgaaaDoor
open GX
set_option maxHeartbeats 16000000
theorem rd_noblk {v : AV} {sz : Nat} {cs : List AV} {m : Nat} (h : ∀ S, Rd S v sz cs m) : blkOf v = none := by
  cases hb : blkOf v with
  | none => rfl
  | some b => exact absurd ((h { h := .leaf, n := 0 }).lt (by intro c x h; simp [Tr.get] at h) hb) (Nat.not_lt_zero _)
theorem rd_has {S : St} {v : AV} {sz : Nat} {cs : List AV} {m b : Nat} (h : Rd S v sz cs m) (hb : blkOf v = some b) : ∃ x, S.h.get b = some x := by
  cases v with
  | slice b' o n cap =>
    cases hb
    have hl := h.len
    cases hl
    obtain ⟨ty, cs0, sp, h1, _⟩ := h.cell
    exact ⟨_, h1⟩
  | ptr b' o => have := h.sl; cases this
  | map r => have := h.sl; cases this
  | _ => cases hb
/-- what is told of a slice's block -/
theorem rd_facts {S : St} {v : AV} {sz : Nat} {cs : List AV} {m : Nat} (i : Nat) (h : Rd S v sz cs m) (hok : Sok S) :
    ∃ N : List Fct, (∀ f ∈ N, f.src = some i ∧ f.id < S.n ∧ S.h.get f.id = some f.x) ∧ (∀ f ∈ N, blkOf v = some f.id) ∧ ∀ b, blkOf v = some b → ∃ f ∈ N, f.id = b ∧ S.h.get b = some f.x ∧ f.src = some i := by
  cases hb : blkOf v with
  | none => exact ⟨[], by simp, by simp, fun b h => by cases h⟩
  | some b =>
    obtain ⟨x, hx⟩ := rd_has h hb
    refine ⟨[⟨b, x, some i⟩], ?_, ?_, ?_⟩
    · intro f hf; rw [List.mem_singleton] at hf; subst hf
      exact ⟨rfl, h.lt hok hb, hx⟩
    · intro f hf; rw [List.mem_singleton] at hf; subst hf; rfl
    · intro b' hb'; cases hb'; exact ⟨_, List.mem_singleton.2 rfl, rfl, hx, rfl⟩
/-- both readers, and the bytes with room behind them -/
structure BM (T : St) (p q : Nat) (vb bv full : AV) (b : List Nat) (r : RdS) : Prop where
  ok : Sok T
  rr : Rr T p vb b r
  rq : Rq T q bv b r
  pq : p ≠ q
  vq : blkOf vb ≠ some q
  fl : Rd T full 1 (sbytes (roomy b)) (roomy b).length
  fp : blkOf full ≠ some p
  fq : blkOf full ≠ some q
  bn : blkOf bv = none
theorem BM.fr {T T' : St} {p q : Nat} {vb bv full : AV} {b : List Nat} {r : RdS} {k : Nat} (h : BM T p q vb bv full b r) (a : Fr T T' .nils k) : BM T' p q vb bv full b r :=
  ⟨a.ok, h.rr.fr h.ok a, h.rq.fr h.ok a, h.pq, h.vq, h.fl.keep (fun c hc => a.same c (by simp [blkOf]) (h.fl.lt h.ok hc)), h.fp, h.fq, h.bn⟩
theorem BM.step {T T1 T2 : St} {p q : Nat} {vb bv full : AV} {b : List Nat} {r r' : RdS} {k k' : Nat} (h : BM T p q vb bv full b r) (h1 : Rr T1 p vb b r') (a : FrQ T T1 p k) (h2 : Rq T2 q bv b r') (c : FrQ T1 T2 q k') : BM T2 p q vb bv full b r' := by
  have hp := h.ok _ _ h.rr.cell
  have hle := a.le
  refine ⟨c.ok, ⟨by rw [c.same p h.pq (by omega)]; exact h1.cell, h1.rd.keep (fun d hd => c.same d (fun e => h.vq (by rw [hd, e])) (h1.rd.lt a.ok hd)), h1.ne, h1.le⟩, h2, h.pq, h.vq, h.fl.keep (fun d hd => ?_), h.fp, h.fq, h.bn⟩
  have hd2 := h.fl.lt h.ok hd
  rw [c.same d (fun e => h.fq (by rw [hd, e])) (by omega), a.same d (fun e => h.fp (by rw [hd, e])) hd2]
theorem BM.rq1 {T T1 : St} {p q : Nat} {vb bv full : AV} {b : List Nat} {r : RdS} {k : Nat} (h : BM T p q vb bv full b r) (a : FrQ T T1 p k) : Rq T1 q bv b r := by
  have hq := h.ok _ _ h.rq.cell
  exact ⟨by rw [a.same q (Ne.symm h.pq) hq]; exact h.rq.cell, h.rq.rd.keep (fun d hd => by rw [h.bn] at hd; cases hd), h.rq.ne, h.rq.le⟩
theorem FrQ.k {S S' : St} {p k k' : Nat} (a : FrQ S S' p k) (h : k ≤ k') : FrQ S S' p k' := ⟨a.le, Nat.le_trans a.n (by omega), a.ok, a.same⟩
theorem Pt_of {S : St} {b o ty : Nat} {cs : List AV} {sp : Bool} (h : S.h.get b = some (.cells ty cs sp)) : Pt S (.ptr b o) cs o :=
  .inl ⟨b, 0, ty, cs, sp, by rw [Nat.zero_add], h, by omega, fun i _ => by rw [Nat.zero_add]⟩
theorem reads_n (a b c : Nat) (h : a ≤ b + 1900000) (h2 : b ≤ 2000000 * c + 10000) : a ≤ 2000000 * (c + 1) + 10000 := by omega
theorem reads_runs {S : St} {bv av : AV} {b : List Nat} {ps : List PartA} (hok : Sok S) (hbv : ∀ S, Rd S bv 1 (sbytes b) b.length) (hb : ∀ x ∈ b, x < 256) (hbl : b.length ≤ 1048576) (hav : ∀ S, Rd S av 5 (ps.flatMap PartA.cells) ps.length) (hn : S.n ≤ 1000) (hgood : ∀ p ∈ ps, p.Good ∧ p.bytes < 9223372036854775808) :
    Runs X1 8 [bv, av] S fun r _ => r = .bool true := by
  have hbn := rd_noblk hbv
  have hrl := roomy_len b
  have hblen := (hbv S).len
  refine Runs_fn (m := 110) (by kernel_rfl) Tryd.func8 rfl (by kernel_rfl) (by kernel_rfl) ?_
  repeat (
    first
      | refine W_seq ?_
      | refine WO_nil ?_
      | refine V_seq ?_
      | refine W_region ?_
      | refine WO_dst rfl rfl (by kernel_rfl) (by kernel_rfl) ?_
      | refine Ev_move rfl ?_
      | refine Ev_assign rfl ?_)
  refine Ev_call rfl rfl ((roomy_runs hok (hbv S) (by omega) (by omega)).mono ?_)
  rintro full S1 - ⟨f, hfe, hf0, hfl, hF1⟩
  obtain ⟨hfb, hfb2⟩ : (∀ c, blkOf full = some c → c = f) ∧ blkOf full = some f := by subst hfe; exact ⟨fun c hc => by cases hc; rfl, rfl⟩
  have hf1 : f < S1.n := hfl.lt hF1.ok hfb2
  have gn1 := hF1.n
  repeat' (
    first
      | refine W_seq ?_
      | refine WO_nil ?_
      | refine V_seq ?_
      | refine W_region ?_
      | refine WO_dst rfl rfl (by kernel_rfl) (by kernel_rfl) ?_
      | refine Ev_len rfl rfl rfl rfl rfl hblen ?_
      | refine Ev_move rfl ?_
      | refine Ev_assign rfl ?_)
  refine Ev_slice_hi rfl rfl rfl rfl rfl hfl (by omega) ?_
  intro v' hv' hbv'
  have hv2 : Rd S1 v' 1 (sbytes b) b.length := by
    refine hv'.eq ?_ rfl
    unfold sbytes roomy
    simp only [Nat.mul_one, List.map_append]
    rw [List.take_append_of_le_length (by simp), List.take_of_length_le (by simp)]
  repeat (
    refine WO_dst rfl rfl (by kernel_rfl) (by kernel_rfl) ?_)
  refine Ev_call rfl rfl ((newrd_runs hF1.ok hv2 (by omega) (by omega)).mono ?_)
  rintro _ S2 - ⟨p, vb, rfl, hp1, hp2, hrr, hvb, hF2⟩
  have gn2 := hF2.n
  have gl2 := hF2.le
  repeat (
    first
      | refine W_seq ?_
      | refine WO_nil ?_
      | refine V_seq ?_
      | refine W_region ?_
      | refine WO_dst rfl rfl (by kernel_rfl) (by kernel_rfl) ?_
      | refine Ev_move rfl ?_
      | refine Ev_assign rfl ?_)
  refine Ev_build (v := .agg [bv, .int .i64 0, .bool false, .int .i64 0, .int .i64 0]) rfl ?_ ?_
  · have hs := (hbv S).sl
    cases bv <;> first | rfl | cases hs
  repeat (
    refine WO_dst rfl rfl (by kernel_rfl) (by kernel_rfl) ?_)
  refine Ev_box rfl hF2.ok (by omega) ?_
  intro S3 gn3 gok3 gq3 gf3
  have hF3 : Fr S2 S3 .nils 1 := ⟨by omega, by omega, gok3, fun c _ h => gf3 c h⟩
  have hB : BM S3 p S2.n vb bv full b ⟨0, 0, 0⟩ := by
    have hrr3 := hrr.fr hF2.ok hF3
    refine ⟨gok3, hrr3, ⟨gq3, hbv _, by rw [hbn]; simp, Nat.zero_le _⟩, by omega, fun e => ?_, hfl.keep (fun c hc => ?_), fun e => ?_, fun e => ?_, hbn⟩
    · have := hrr.rd.lt hF2.ok e; omega
    · have hc2 := hfb c hc
      subst hc2
      rw [gf3 _ (by omega), hF2.same _ (by simp [blkOf]) hf1]
    · have := hfb _ e; omega
    · have := hfb _ e; omega
  repeat' (
    first
      | refine W_seq ?_
      | refine WO_nil ?_
      | refine V_seq ?_
      | refine W_region ?_
      | refine W_skip ?_
      | refine W_block ?_
      | refine W_cond_f rfl ?_
      | refine WO_dst rfl rfl (by kernel_rfl) (by kernel_rfl) ?_
      | refine Ev_move rfl ?_
      | refine Ev_assign rfl ?_
      | refine Ev_ptr_eql rfl rfl rfl rfl ?_)
  refine W_inv (fun i : Nat => [(8, .int .i64 ((i : Nat) : Int)), (7, .ptr S2.n 0), (6, .ptr p 0), (5, full), (0, bv), (1, av)]) (fun i T => (∃ r, BM T p S2.n vb bv full b r) ∧ i ≤ 30 ∧ T.n ≤ 2000000 * i + 10000 ∧ S3.n ≤ T.n) (fun i => 31 - i) ?_ 0 ⟨⟨_, hB⟩, by omega, by omega, by omega⟩ ⟨rfl, rfl, rfl, rfl, rfl, rfl, trivial⟩
  rintro i T ⟨⟨r, hL⟩, hi, hTn, hTl⟩ back
  repeat' (
    first
      | refine W_seq ?_
      | refine WO_nil ?_
      | refine V_seq ?_
      | refine W_region ?_
      | refine W_skip ?_
      | refine W_block ?_
      | refine W_exit ?_
      | refine V_block_x rfl ?_
      | refine V_seq_x ?_
      | refine V_loop_x ?_
      | refine W_cond_f rfl ?_
      | refine WO_dst rfl rfl (by kernel_rfl) (by kernel_rfl) ?_
      | refine WO_guard_t rfl rfl rfl rfl rfl (by kernel_rfl) (by kernel_rfl) ?_
      | refine WO_guard_f rfl rfl rfl rfl rfl rfl (by kernel_rfl) (by kernel_rfl) ?_
      | refine Ev_len rfl rfl rfl rfl rfl (hav T).len ?_
      | refine Ev_move rfl ?_
      | refine Ev_pick_t rfl rfl rfl ?_
      | refine Ev_pick_f rfl rfl rfl ?_
      | refine Ev_lssN rfl rfl ?_
      | (refine WO_guard_dt rfl rfl rfl rfl rfl (by kernel_rfl) (by kernel_rfl) (fun hg => ?_) (fun hg => ?_) <;> (try dsimp only at hg) <;> try (exfalso; first | omega | exact hg rfl))
      | (refine W_cond rfl (fun hc => ?_) (fun hc => ?_) <;> (try dsimp only at hc) <;> try (exfalso; first | omega | exact hc rfl)))
  · obtain ⟨P, hP⟩ : ∃ P, P = ps[i] := ⟨_, rfl⟩
    obtain ⟨hG, hPb⟩ : P.Good ∧ P.bytes < 9223372036854775808 := hgood P (by rw [hP]; exact List.getElem_mem _)
    have hlt := flat_get ps i hg
    rw [← hP] at hlt
    refine Ev_indexAddr_rd rfl rfl rfl rfl rfl (hav T) hg ?_
    intro q hq
    repeat (
      first
        | refine WO_dst rfl rfl (by kernel_rfl) (by kernel_rfl) ?_
        | refine Ev_load_pt_agg rfl rfl rfl hq (by rw [flat_len]; dsimp only; omega) hlt (PartA.veqs hG) ?_)
    refine Ev_alloc_ rfl hL.ok (by omega) ?_
    intro T2 hn2 hok2 hq2 hf2
    repeat (
      refine WO_no rfl rfl ?_)
    refine Ev_store rfl rfl rfl rfl (PartA.ones hG) hq2 (by simp [PartA.cells, AV.cells]) (by omega) ?_
    intro T3 hn3 hq3 hf3
    have h6 : T3.h.get T.n = some (.cells 40 P.cells false) := by rw [hq3]; rfl
    have hF3' : Fr T T3 .nils 1 := ⟨by omega, by omega, Sok.upd hok2 (by omega) hn3 hq3 hf3, fun c _ h => by rw [hf3 c (by omega), hf2 c h]⟩
    have hL3 := hL.fr hF3'
    have hpT := hL.ok _ _ hL.rr.cell
    have hqT := hL.ok _ _ hL.rq.cell
    repeat (
      first
        | refine W_seq ?_
        | refine WO_nil ?_
        | refine V_seq ?_
        | refine W_region ?_
        | refine WO_dst rfl rfl (by kernel_rfl) (by kernel_rfl) ?_
        | refine Ev_fieldAddr rfl rfl rfl rfl rfl rfl ?_)
    refine Ev_load rfl rfl rfl h6 rfl (veq_int _ _) ?_
    refine WO_nil ?_
    refine V_seq ?_
    refine W_cut (fun l' T' => ∃ r', BM T' p S2.n vb bv full b r' ∧ T'.n ≤ T.n + 1900000 ∧ T.n ≤ T'.n ∧ sub [(8, .int .i64 ((i : Nat) : Int)), (7, .ptr S2.n 0), (6, .ptr p 0), (5, full), (0, bv), (1, av)] l') ?_ ?_
    · repeat' (
        first
          | refine W_seq ?_
          | refine WO_nil ?_
          | refine V_seq ?_
          | refine W_region ?_
          | refine W_skip ?_
          | refine W_block ?_
          | refine V_block ?_
          | refine WO_dst rfl rfl (by kernel_rfl) (by kernel_rfl) ?_
          | refine Ev_move rfl ?_
          | refine Ev_assign rfl ?_
          | refine Ev_eql rfl rfl ?_
          | (refine W_cond rfl (fun hc => ?_) (fun hc => ?_) <;> (try dsimp only at hc) <;> try (exfalso; first | omega | exact hc rfl)))
      · refine W_drawnF [⟨T.n, .cells 40 P.cells false, none⟩] ?_ (by kernel_rfl) ?_
        · intro f hf; rw [List.mem_singleton] at hf; subst hf; exact ⟨rfl, by show T.n < T3.n; omega, h6⟩
        repeat (
          first
            | refine WF_pa rfl rfl (by kernel_rfl) (by kernel_rfl) rfl ?_
            | refine Ev_move rfl ?_
            | refine Ev_fieldAddr rfl rfl rfl rfl rfl rfl ?_)
        refine WF_rs rfl rfl (by kernel_rfl) (by kernel_rfl) (by kernel_rfl) (by kernel_rfl) ?_
        refine Ev_load rfl rfl rfl h6 rfl (veq_int _ _) ?_
        repeat (
          refine W_seq ?_)
        refine WF_ld rfl rfl (by kernel_rfl) (by kernel_rfl) (fun _ _ => rfl) ?_
        refine Ev_call rfl rfl ((rnum_runs hL3.ok hL3.rr (by omega) (by omega) hb).mono ?_)
        rintro _ T4 - ⟨rfl, h4, hF4⟩
        have gn4 := hF4.n
        have h64 : T4.h.get T.n = some (.cells 40 P.cells false) := by rw [hF4.same T.n (by omega)]; exact h6
        refine ⟨?_, [], by simp, ?_⟩
        · intro f hf; rw [List.mem_singleton] at hf; subst hf; exact h64
        repeat (
          first
            | refine WF_pa rfl rfl (by kernel_rfl) (by kernel_rfl) rfl ?_
            | refine Ev_move rfl ?_
            | refine Ev_fieldAddr rfl rfl rfl rfl rfl rfl ?_)
        refine WF_rf rfl rfl (by kernel_rfl) (by kernel_rfl) ?_ (FPD_load (o := 1) rfl rfl rfl (Pt_of h64) rfl (fun b hb => by cases hb; exact ⟨_, List.mem_cons_self .., rfl, h64, fun j hj => by cases hj⟩)) (veq_int _ _) ?_
        · intro f hf; rw [List.append_nil, List.mem_singleton] at hf; subst hf; exact h64
        repeat (
          refine W_seq ?_)
        refine WF_ld rfl rfl (by kernel_rfl) (by kernel_rfl) (fun _ _ => rfl) ?_
        refine Ev_call rfl rfl ((qnum_runs hF4.ok (hL3.rq1 hF4.q) (by omega) (by omega) hb).mono ?_)
        rintro _ T5 - ⟨rfl, h5, hF5⟩
        have gn5 := hF5.n
        have gl5 := hF5.le
        refine ⟨?_, [], by simp, ?_⟩
        · intro f hf; rw [List.append_nil, List.mem_singleton] at hf; subst hf
          show T5.h.get T.n = _
          rw [hF5.same T.n (by omega) (by omega)]; exact h64
        repeat' (
          first
            | refine WF_nil ?_
            | refine WF_pa rfl rfl (by kernel_rfl) (by kernel_rfl) rfl ?_
            | refine V_seq ?_
            | refine W_skip ?_
            | refine V_block ?_
            | refine Ev_neq rfl rfl ?_
            | (refine W_cond rfl (fun hc => ?_) (fun hc => ?_) <;> (try dsimp only at hc) <;> try (exfalso; first | omega | exact hc rfl)))
        exact V_mid ⟨_, hL3.step h4 hF4.q h5 hF5, by omega, by omega, rfl, rfl, rfl, rfl, rfl, rfl, trivial⟩
      · refine Ev_call rfl rfl ((rdtext_runs hL3.ok hL3.rr (by omega) (by omega) hb).mono ?_)
        rintro _ T4 - ⟨rfl, h4, hF4⟩
        have gn4 := hF4.n
        have gl4 := hF4.le
        repeat (
          first
            | refine WO_dst rfl rfl (by kernel_rfl) (by kernel_rfl) ?_
            | refine Ev_move rfl ?_)
        refine Ev_call rfl rfl ((qtext_runs hF4.ok (hL3.rq1 hF4) (by omega) (by omega) hb).mono ?_)
        rintro _ T5 - ⟨rfl, h5, hF5⟩
        have gn5 := hF5.n
        have gl5 := hF5.le
        repeat' (
          first
            | refine WO_nil ?_
            | refine V_seq ?_
            | refine W_skip ?_
            | refine V_block ?_
            | refine WO_dst rfl rfl (by kernel_rfl) (by kernel_rfl) ?_
            | refine Ev_sneq rfl rfl ?_
            | (refine W_cond rfl (fun hc => ?_) (fun hc => ?_) <;> (try dsimp only at hc) <;> try (exfalso; first | omega | exact hc rfl)))
        exact V_mid ⟨_, hL3.step h4 hF4 h5 hF5, by omega, by omega, rfl, rfl, rfl, rfl, rfl, rfl, trivial⟩
      · refine W_drawnF [⟨T.n, .cells 40 P.cells false, none⟩] ?_ (by kernel_rfl) ?_
        · intro f hf; rw [List.mem_singleton] at hf; subst hf; exact ⟨rfl, by show T.n < T3.n; omega, h6⟩
        repeat (
          first
            | refine WF_pa rfl rfl (by kernel_rfl) (by kernel_rfl) rfl ?_
            | refine Ev_move rfl ?_
            | refine Ev_fieldAddr rfl rfl rfl rfl rfl rfl ?_)
        refine WF_rs rfl rfl (by kernel_rfl) (by kernel_rfl) (by kernel_rfl) (by kernel_rfl) ?_
        refine Ev_load rfl rfl rfl h6 rfl (veq_int _ _) ?_
        repeat (
          refine W_seq ?_)
        refine WF_ld rfl rfl (by kernel_rfl) (by kernel_rfl) (fun _ _ => rfl) ?_
        refine Ev_call rfl rfl ((rbytes_runs hL3.ok hL3.rr (by omega) (by omega) hPb).mono ?_)
        rintro u T4 - ⟨r4, u1, hu, h4, ⟨gl4, gn4, gok4, gf4⟩, hu4, hub⟩
        have hF4 : FrQ T3 T4 p 2 := ⟨gl4, gn4, gok4, gf4⟩
        have h64 : T4.h.get T.n = some (.cells 40 P.cells false) := by rw [hF4.same T.n (by omega) (by omega)]; exact h6
        obtain ⟨N, hN1, hN2, hN3⟩ := rd_facts 3 hu4 gok4
        have hu1 : ∀ x ∈ u1, x < 256 := by
          have e : u1 = (r.take b P.bytes.toNat).1 := by rw [← hu]
          rw [e]; exact take_lt hb
        refine ⟨?_, N, hN1, ?_⟩
        · intro f hf; rw [List.mem_singleton] at hf; subst hf; exact h64
        have hD4 : ∀ f ∈ [(⟨T.n, .cells 40 P.cells false, none⟩ : Fct)] ++ N, T4.h.get f.id = some f.x := by
          intro f hf
          rcases List.mem_append.1 hf with hf | hf
          · rw [List.mem_singleton] at hf; subst hf; exact h64
          · exact (hN1 f hf).2.2
        repeat (
          refine W_seq ?_)
        refine WF_rf rfl rfl (by kernel_rfl) (by kernel_rfl) hD4 (FPD_conv rfl rfl rfl rfl rfl rfl rfl hu4 (bytesOf_sbytes hu1) (fun b hb => ?_)) (veq_str _) ?_
        · obtain ⟨f, k1, k2, k3, k4⟩ := hN3 b hb
          exact ⟨f, List.mem_append_right _ k1, k2, k3, fun j hj => by rw [k4] at hj; cases hj; kernel_rfl⟩
        repeat (
          first
            | refine WF_pa rfl rfl (by kernel_rfl) (by kernel_rfl) rfl ?_
            | refine Ev_move rfl ?_
            | refine Ev_fieldAddr rfl rfl rfl rfl rfl rfl ?_)
        refine WF_rf rfl rfl (by kernel_rfl) (by kernel_rfl) hD4 (FPD_load (o := 1) rfl rfl rfl (Pt_of h64) rfl (fun b hb => by cases hb; exact ⟨_, List.mem_cons_self .., rfl, h64, fun j hj => by cases hj⟩)) (veq_int _ _) ?_
        repeat (
          refine W_seq ?_)
        refine WF_ld rfl rfl (by kernel_rfl) (by kernel_rfl) (fun _ _ => rfl) ?_
        refine Ev_call rfl rfl ((qbytes_runs hF4.ok (hL3.rq1 hF4) (by omega) (by omega) hPb).mono ?_)
        rintro w T5 - ⟨h5, hF5, hw5, hwb⟩
        rw [← hu] at h5 hw5
        dsimp only at h5 hw5
        have gn5 := hF5.n
        have gl5 := hF5.le
        refine ⟨?_, [], by simp, ?_⟩
        · intro f hf
          rw [← hD4 f hf]
          rcases List.mem_append.1 hf with hf | hf
          · rw [List.mem_singleton] at hf; subst hf
            exact hF5.same T.n (by omega) (by omega)
          · have k1 := hub _ (hN2 f hf)
            have k2 := (hN1 f hf).2.1
            exact hF5.same _ (by omega) k2
        repeat (
          refine W_seq ?_)
        refine WF_rs rfl rfl (by kernel_rfl) (by kernel_rfl) (by kernel_rfl) (by kernel_rfl) ?_
        refine Ev_conv_to_str rfl rfl rfl rfl rfl rfl rfl hw5 (bytesOf_sbytes hu1) ?_
        repeat' (
          first
            | refine WF_nil ?_
            | refine WF_pa rfl rfl (by kernel_rfl) (by kernel_rfl) rfl ?_
            | refine V_seq ?_
            | refine W_skip ?_
            | refine V_block ?_
            | refine Ev_sneq rfl rfl ?_
            | (refine W_cond rfl (fun hc => ?_) (fun hc => ?_) <;> (try dsimp only at hc) <;> try (exfalso; first | omega | exact hc rfl)))
        exact V_mid ⟨_, hL3.step h4 hF4 h5 hF5, by omega, by omega, rfl, rfl, rfl, rfl, rfl, rfl, trivial⟩
      · refine Ev_call rfl rfl ((fail_runs hL3.ok hL3.rr (by omega)).mono ?_)
        rintro _ T4 - ⟨h4, hF4⟩
        have gn4 := hF4.n
        repeat (
          first
            | refine WO_nil ?_
            | refine V_seq ?_
            | refine W_region ?_
            | refine WO_dst rfl rfl (by kernel_rfl) (by kernel_rfl) ?_
            | refine Ev_move rfl ?_)
        refine Ev_call rfl rfl ((qfail_runs hF4.ok (hL3.rq1 hF4.q) (by omega)).mono ?_)
        rintro _ T5 - ⟨h5, hF5⟩
        have gn5 := hF5.n
        repeat' (
          first
            | refine WO_nil ?_
            | refine V_block ?_)
        exact V_mid ⟨_, hL3.step h4 hF4.q h5 hF5.q, by omega, by omega, rfl, rfl, rfl, rfl, rfl, rfl, trivial⟩
      · exact V_mid ⟨_, hL3, by omega, by omega, rfl, rfl, rfl, rfl, rfl, rfl, trivial⟩
    · rintro l' T5 ⟨r', hL5, gn5, gl5, hs⟩
      refine V_weak hs ?_
      repeat (
        first
          | refine W_seq ?_
          | refine V_seq ?_
          | refine W_region ?_
          | refine WO_dst rfl rfl (by kernel_rfl) (by kernel_rfl) ?_
          | refine Ev_move rfl ?_)
      refine Ev_call rfl rfl ((end_runs hL5.rr).mono ?_)
      rintro _ _ - ⟨rfl, rfl⟩
      repeat (
        first
          | refine W_seq ?_
          | refine WO_nil ?_
          | refine V_seq ?_
          | refine W_region ?_
          | refine WO_dst rfl rfl (by kernel_rfl) (by kernel_rfl) ?_
          | refine Ev_move rfl ?_
          | refine Ev_assign rfl ?_
          | refine Ev_extract rfl rfl ?_)
      refine Ev_call rfl rfl ((qend_runs hL5.rq).mono ?_)
      rintro _ _ - ⟨rfl, rfl⟩
      repeat' (
        first
          | refine W_seq ?_
          | refine WO_nil ?_
          | refine V_seq ?_
          | refine W_region ?_
          | refine WO_dst rfl rfl (by kernel_rfl) (by kernel_rfl) ?_
          | refine WO_guard_t rfl rfl rfl rfl rfl (by kernel_rfl) (by kernel_rfl) ?_
          | refine Ev_move rfl ?_
          | refine Ev_assign rfl ?_
          | refine Ev_extract rfl rfl ?_
          | refine Ev_pick_f rfl rfl rfl ?_
          | refine Ev_neq rfl rfl ?_
          | (refine WO_guard_df rfl rfl rfl rfl rfl (by kernel_rfl) (by kernel_rfl) (fun hg => ?_) (fun hg => ?_) <;> (try dsimp only at hg) <;> try (exfalso; first | omega | exact hg rfl)))
      refine Ev_call rfl rfl ((left_runs (by omega) hL5.rr).mono ?_)
      rintro _ _ - ⟨rfl, rfl⟩
      repeat' (
        first
          | refine WO_dst rfl rfl (by kernel_rfl) (by kernel_rfl) ?_
          | refine WO_guard_t rfl rfl rfl rfl rfl (by kernel_rfl) (by kernel_rfl) ?_
          | refine Ev_move rfl ?_)
      refine Ev_call rfl rfl ((qleft_runs (by omega) hL5.rq).mono ?_)
      rintro _ _ - ⟨rfl, rfl⟩
      repeat' (
        first
          | refine WO_nil ?_
          | refine V_seq ?_
          | refine W_region ?_
          | refine W_skip ?_
          | refine V_block ?_
          | refine WO_dst rfl rfl (by kernel_rfl) (by kernel_rfl) ?_
          | refine WO_guard_t rfl rfl rfl rfl rfl (by kernel_rfl) (by kernel_rfl) ?_
          | refine Ev_move rfl ?_
          | refine Ev_assign rfl ?_
          | refine Ev_pick_f rfl rfl rfl ?_
          | refine Ev_neqN rfl rfl ?_
          | refine Ev_addN rfl rfl (by simp only [lim]; omega) ?_
          | (refine W_cond rfl (fun hc => ?_) (fun hc => ?_) <;> (try dsimp only at hc) <;> try (exfalso; first | omega | exact hc rfl)))
      rename_i T5
      have e1 : T5.n ≤ 2000000 * (i + 1) + 10000 := reads_n _ _ _ gn5 hTn
      have e2 : S3.n ≤ T5.n := by omega
      exact back (i + 1) T5 _ (by omega) ⟨⟨r', hL5⟩, by omega, e1, e2⟩ ⟨rfl, rfl, rfl, rfl, rfl, rfl, trivial⟩
  all_goals
    refine Ev_call rfl rfl ((intact_runs hL.fl (hbv T) (by omega)).mono ?_)
    rintro _ _ - ⟨rfl, rfl⟩
    repeat' (
      first
        | refine WO_dst rfl rfl (by kernel_rfl) (by kernel_rfl) ?_
        | refine WO_guard_t rfl rfl rfl rfl rfl (by kernel_rfl) (by kernel_rfl) ?_
        | refine Ev_move rfl ?_)
    refine Ev_call rfl rfl (known_true ?_)
    repeat (
      first
        | refine WO_nil ?_
        | refine V_seq ?_
        | refine W_ret ?_
        | refine WO_dst rfl rfl (by kernel_rfl) (by kernel_rfl) ?_
        | refine Ev_assign rfl ?_
        | refine Ev_pick_t rfl rfl rfl ?_)
    refine V_done rfl rfl ?_
    rfl
end Go.Proofs.YtnlfcoojlgdgaaaDoor
/- Chapter 1: what was written is read: the plain law. -/


namespace Go.Proofs.YtnlfcoojlgdgaaaDoor
open GX
set_option maxHeartbeats 8000000
/-- a text that is short enough -/
def tS (s : List Nat) : List Nat := if 60 < (normS s).length then txt [108, 111, 110, 103] else normS s
theorem tS_txt (s : List Nat) : ∃ cs, (∀ c ∈ cs, okR c) ∧ tS s = txt cs ∧ (txt cs).length ≤ 60 := by
  unfold tS
  split
  · exact ⟨[108, 111, 110, 103], by intro c hc; simp at hc; unfold okR; omega, rfl, by decide⟩
  · rename_i h
    exact ⟨runesS s, runesS_ok, rfl, by unfold normS at h; omega⟩
theorem enc1_two (c : Nat) : (enc1 c).length ≤ 2 * (runeL c).length := by
  unfold enc1 unitL runeL
  repeat' split
  all_goals simp only [List.length_append, List.length_cons, List.length_nil]
  all_goals omega
theorem encs_two {cs : List Nat} (h : ∀ c ∈ cs, okR c) : (cs.flatMap enc1).length ≤ 2 * (txt cs).length := by
  induction cs with
  | nil => simp
  | cons c cs ih =>
    have h1 := enc1_two c
    have h2 := ih (fun c hc => h c (List.mem_cons_of_mem _ hc))
    unfold txt at h2 ⊢
    simp only [List.flatMap_cons, List.length_append] at h2 ⊢
    omega
theorem txt_enc {cs : List Nat} (h : ∀ c ∈ cs, okR c) : encS (txt cs) = cs.flatMap enc1 := by
  have := encS_txt h []
  rw [List.append_nil, encS_nil, List.append_nil] at this; exact this
theorem txt_v {cs : List Nat} (h : ∀ c ∈ cs, okR c) : vS (txt cs) = true := by
  have := vS_txt h (t := []) (by simp)
  rw [List.append_nil] at this; rw [this]; exact vS_nil
theorem tS_good (s : List Nat) : vS (tS s) = true ∧ (encS (tS s)).length ≤ 256 ∧ decS (encS (tS s)) = some (tS s) ∧ (tS s).length ≤ 60 ∧ ∀ b ∈ tS s, b < 256 := by
  obtain ⟨cs, h1, h2, h3⟩ := tS_txt s
  rw [h2, txt_enc h1]
  have := encs_two h1
  exact ⟨txt_v h1, by omega, dec_encs h1, h3, txt_lt h1⟩
def pieceL (p : PartA) : List Nat := numL p.n 8 ++ numL ((encS (tS p.text)).length : Int) 2 ++ encS (tS p.text) ++ numL (p.rawb.length : Int) 4 ++ p.rawb
theorem textL_t (s : List Nat) : textL (tS s) = numL ((encS (tS s)).length : Int) 2 ++ encS (tS s) := by
  obtain ⟨h1, h2, _⟩ := tS_good s
  unfold textL textB
  rw [if_pos ⟨h1, h2⟩]
theorem take_at {b a rest : List Nat} {pos n : Nat} (h : b.drop pos = a ++ rest) (hn : a.length = n) : RdS.take ⟨pos, 0, 0⟩ b n = (a, ⟨pos + n, 0, 0⟩) ∧ b.drop (pos + n) = rest := by
  have hl := congrArg List.length h
  simp only [List.length_drop, List.length_append] at hl
  constructor
  · unfold RdS.take
    rw [if_neg (by simp), if_neg (by dsimp only; omega)]
    dsimp only
    rw [h, List.take_append_of_le_length (by omega), List.take_of_length_le (by omega)]
  · rw [← List.drop_drop, h, ← hn, List.drop_left]
theorem numOf_from : ∀ (m : List Nat) (a : Nat), m.foldl (fun a x => a * 256 + x) a = a * 256 ^ m.length + numOf m
  | [], a => by simp [numOf]
  | x :: m, a => by
    unfold numOf
    simp only [List.foldl_cons, List.length_cons]
    rw [numOf_from m (a * 256 + x), numOf_from m (0 * 256 + x), Nat.pow_succ, Nat.add_mul, Nat.mul_assoc, Nat.mul_comm 256, Nat.zero_mul, Nat.zero_add]; omega
theorem numOf_app (l m : List Nat) : numOf (l ++ m) = numOf l * 256 ^ m.length + numOf m := by
  conv => lhs; unfold numOf
  rw [List.foldl_append, numOf_from]; rfl
theorem emod_256 (n : Int) (q : Nat) : n % ((q * 256 : Nat) : Int) = n / (q : Int) % 256 * (q : Int) + n % (q : Int) := by
  have h1 : n / (q : Int) / 256 = n / ((q : Int) * 256) := by rw [Int.ediv_ediv, if_neg (fun h => by omega), Int.sub_zero]
  rw [Int.natCast_mul, show ((256 : Nat) : Int) = 256 from rfl, Int.emod_def n, Int.emod_def n (q : Int), Int.emod_def (n / (q : Int)), ← h1, Int.sub_mul, Int.mul_assoc (q : Int)]
  have e1 : 256 * (n / (q : Int) / 256) * (q : Int) = (q : Int) * (256 * (n / (q : Int) / 256)) := Int.mul_comm _ _
  have e2 : n / (q : Int) * (q : Int) = (q : Int) * (n / (q : Int)) := Int.mul_comm _ _
  rw [e1, e2]; omega
theorem numOf_numL (n : Int) : ∀ j, ((numOf (numL n j) : Nat) : Int) = n % ((256 ^ j : Nat) : Int) := by
  intro j
  induction j with
  | zero => simp [numL, numOf]
  | succ j ih =>
    have e : numL n (j + 1) = [byteAt n j] ++ numL n j := rfl
    rw [e, numOf_app, numL_len, show numOf [byteAt n j] = byteAt n j by simp [numOf], Int.natCast_add, ih, Int.natCast_mul]
    have hb : ((byteAt n j : Nat) : Int) = n / ((256 ^ j : Nat) : Int) % 256 := by
      unfold byteAt
      rw [show (2 ^ (8 * j) : Nat) = 256 ^ j by rw [Nat.pow_mul]]
      have : 0 ≤ n / ((256 ^ j : Nat) : Int) % 256 := by omega
      omega
    rw [hb, Nat.pow_succ, emod_256]
theorem numV_n {n : Int} (h1 : -9223372036854775808 ≤ n) (h2 : n < 9223372036854775808) : numV (numL n 8) = n := by
  unfold numV
  rw [numOf_numL, show ((256 ^ 8 : Nat) : Int) = 18446744073709551616 from rfl, wrp_eq]
  show IntKind.wrap .i64 (n % 18446744073709551616) = n
  simp [IntKind.wrap, IntKind.signed, IntKind.bits]
  split <;> omega
theorem numV_4 {n : Nat} (h : n < 4294967296) : numV (numL (n : Int) 4) = (n : Int) := by
  unfold numV
  rw [numOf_numL, show ((256 ^ 4 : Nat) : Int) = 4294967296 from rfl, Int.emod_eq_of_lt (by omega) (by omega)]
  exact wrp_in (by simp only [inR]; omega)
theorem numOf_2 {n : Nat} (h : n < 65536) : numOf (numL (n : Int) 2) = n := by
  have := numOf_numL (n : Int) 2
  rw [show ((256 ^ 2 : Nat) : Int) = 65536 from rfl] at this
  omega
theorem text_at {b rest s : List Nat} {pos : Nat} (h : b.drop pos = numL ((encS (tS s)).length : Int) 2 ++ encS (tS s) ++ rest) : RdS.text ⟨pos, 0, 0⟩ b = (tS s, ⟨pos + 2 + (encS (tS s)).length, 0, 0⟩) ∧ b.drop (pos + 2 + (encS (tS s)).length) = rest := by
  obtain ⟨h1, h2, h3, h4, _⟩ := tS_good s
  rw [List.append_assoc] at h
  obtain ⟨e1, d1⟩ := take_at h (numL_len _ 2)
  obtain ⟨e2, d2⟩ := take_at d1 rfl
  refine ⟨?_, d2⟩
  unfold RdS.text
  dsimp only
  rw [e1]
  dsimp only
  rw [numOf_2 (by omega), if_neg (by omega), e2]
  dsimp only
  rw [h3]
  simp [refuse_zero]
theorem pieces_at {ps : List PartA} {m i : Nat} (hm : m ≤ ps.length) (hi : i < m) : ∃ rest, ((ps.take m).flatMap pieceL).drop ((ps.take i).flatMap pieceL).length = pieceL (ps[i]'(by omega)) ++ rest ∧ (ps.take (i + 1)).flatMap pieceL = (ps.take i).flatMap pieceL ++ pieceL (ps[i]'(by omega)) := by
  have h1 : ps.take m = ps.take i ++ (ps.take m).drop i := by
    conv => lhs; rw [← List.take_append_drop i (ps.take m)]
    rw [List.take_take, Nat.min_eq_left (by omega)]
  have h2 : (ps.take m).drop i = ps[i]'(by omega) :: (ps.take m).drop (i + 1) := by
    rw [List.drop_eq_getElem_cons (by simp; omega)]; simp
  refine ⟨((ps.take m).drop (i + 1)).flatMap pieceL, ?_, ?_⟩
  · conv => lhs; rw [h1]
    rw [List.flatMap_append, List.drop_left, h2, List.flatMap_cons]
  · rw [List.take_succ_eq_append_getElem (by omega), List.flatMap_append]; simp
theorem piece_len {p : PartA} (h : p.Good) : (pieceL p).length ≤ 1048900 := by
  have := (tS_good p.text).2.1
  have := h.rl
  unfold pieceL
  simp only [List.length_append, numL_len]; omega
theorem pieces_len {ps : List PartA} (h : ∀ p ∈ ps, p.Good) : (ps.flatMap pieceL).length ≤ 1048900 * ps.length := by
  induction ps with
  | nil => simp
  | cons p ps ih =>
    have h1 := piece_len (h p (List.mem_cons_self ..))
    have h2 := ih (fun q hq => h q (List.mem_cons_of_mem _ hq))
    simp only [List.flatMap_cons, List.length_append, List.length_cons]; omega
theorem piece_lt {p : PartA} (h : p.Good) : ∀ b ∈ pieceL p, b < 256 := by
  intro b hb
  unfold pieceL at hb
  simp only [List.mem_append] at hb
  rcases hb with (((hb | hb) | hb) | hb) | hb
  · exact numL_lt _ _ b hb
  · exact numL_lt _ _ b hb
  · exact encS_lt b hb
  · exact numL_lt _ _ b hb
  · exact h.rb b hb
theorem flat_at {ps : List PartA} {i k : Nat} {v : AV} (h : i < ps.length) (hk : k < 5) (hv : (ps[i]).cells[k]? = some v) : (ps.flatMap PartA.cells)[i * 5 + k]? = some v := by
  have := flat_get ps i h
  have h2 : (((ps.flatMap PartA.cells).drop (i * 5)).take 5)[k]? = (ps[i]).cells[k]? := by rw [this]
  rw [List.getElem?_take, if_pos hk, List.getElem?_drop] at h2
  rw [h2]; exact hv
end Go.Proofs.YtnlfcoojlgdgaaaDoor
/- GX: reasoning about runs: rules for arguments that have no block; runes read in a region that draws its order. -/

namespace GX
noncomputable section
open Go
section
variable {X : X} {l : L} {S : St} {R : AV → St → Prop} {t : Nat} {x y : Operand} {D : List Fct} {i : Nat}
theorem Ev_indexAddr_n {v : AV} {k : IntKind} {i m : Nat} {ti ei : TI} {el : Nat} {cs : List AV} (hy : od l y = some (.int k ((i : Nat) : Int))) (hx : od l x = some v) (hi : X.ti t = some ti) (hd : ti.desc = .slice el) (he' : X.ti el = some ei) (hrd : Rd S v ei.size cs m) (hn : blkOf v = none) (hlt : i < m)
    (hR : R (.rptr cs (i * ei.size)) S) : Ev X l S (.indexAddr t x y) R := by
  have hc := hrd.cells
  have hl := hrd.len
  cases v with
  | slice b o n cap => cases hn
  | rsl cs0 n z =>
    cases hl
    have hz : z = ei.size ∧ cs0.length = m * z := by have := hrd.cap; simpa [capW] using this
    obtain ⟨hz, hl0⟩ := hz
    subst hz
    have hcs : cs = cs0 := by
      unfold srcCells at hc; dsimp only at hc
      rw [nbeq, nble, ← Bool.decide_and, cond_dec] at hc
      split at hc
      · cases hc; rw [List.take_of_length_le (by omega)]
      · cases hc
    subst hcs
    refine Ev_pure (v := .rptr cs (i * ei.size)) (fun e he => ⟨rfl, ?_⟩) hR
    unfold pureOp; dsimp only; rw [od_ok he hy]; show (match opd e x with | some (.slice b o len _) => _ | some (.rsl cs len sz) => _ | _ => none) = _
    rw [od_ok he hx]; dsimp only; rw [hi]; dsimp only; rw [hd]; dsimp only; rw [he']; dsimp only; rw [nblt, nbeq, decide_eq_true hlt, decide_eq_true rfl]; rfl
  | nils => cases hl; omega
  | emp => cases hl; omega
  | _ => cases hl
theorem Ev_fieldAddr_n {f o : Nat} {i fi : TI} {fs : Array Field} {fd : Field} {cs : List AV} (hx : od l x = some (.rptr cs o)) (hi : X.ti t = some i) (hd : i.desc = .struct fs) (hf : fs.toList[f]? = some fd) (hfi : X.ti fd.type = some fi) (hz : Nat.beq fi.size 0 = false)
    (hR : R (.rptr cs (o + fd.offset)) S) : Ev X l S (.fieldAddr t x f) R :=
  Ev_pure (fun e he => ⟨rfl, by unfold pureOp; dsimp only; rw [od_ok he hx]; dsimp only; rw [hi]; dsimp only; rw [hd]; dsimp only; rw [hf]; dsimp only; rw [hfi]; dsimp only; rw [hz]; rfl⟩) hR
theorem FPD_load_n {o : Nat} {i' : TI} {cs : List AV} {v : AV} {ms : List Nat} (hx : od l x = some (.rptr cs o)) (hi : X.ti t = some i') (hag : aggD i'.desc = false) (hv : cs[o]? = some v) :
    ∀ e, Ag l e → cls X e (.load t x) = .read ∧ FPD X D ms i e (.load t x) v :=
  FPD_load (S := { h := .leaf, n := 0 }) hx hi hag (.inr rfl) hv (fun b hb => by cases hb)
theorem conv_eq_r {e : Env} {H : Tr AB} {x : Operand} {s d el m m' : Nat} {si di ei : TI} {v : AV} {cs : List AV} {z : List Nat} (hx : opd e x = some v) (hs : X.ti s = some si) (hd : X.ti d = some di) (hdd : di.desc = .string) (hsd : si.desc = .slice el) (he' : X.ti el = some ei) (hk : ei.desc = .int .i32) (hrd : Rd { h := H, n := m' } v 1 cs m) (hz : runesOf cs = some z) : readOp X e H (.convert s d x) = some (.str z) := by
  unfold readOp; dsimp only; rw [hx]; dsimp only; rw [hd]; dsimp only; rw [hs]; dsimp only; rw [hdd]; dsimp only; rw [hsd]; dsimp only; rw [he']; dsimp only; rw [hk]
  have h2 := hrd.cells
  have h3 := hrd.len
  have h4 := hrd.size
  cases v with
  | slice b o n k =>
    cases h3
    unfold srcCells at h2; dsimp only at h2 ⊢
    rw [Nat.mul_one] at h2; rw [h2]; dsimp only; rw [hz]
  | rsl cs0 n z0 =>
    cases h3
    have hz0 : z0 = 1 ∧ cs0.length = m * z0 := by have := hrd.cap; simpa [capW] using this
    obtain ⟨hz0, hl0⟩ := hz0
    subst hz0
    unfold srcCells at h2; dsimp only at h2 ⊢
    rw [nbeq, nble, ← Bool.decide_and, cond_dec] at h2
    split at h2
    · cases h2
      rw [List.take_of_length_le (by omega)] at hz
      rw [show Nat.beq 1 1 = true from rfl]
      simp only [cond_true]
      rw [hz]
    · cases h2
  | nils => cases h3; cases List.eq_nil_of_length_eq_zero (by omega : cs.length = 0); cases hz; rfl
  | emp => cases h3; cases List.eq_nil_of_length_eq_zero (by omega : cs.length = 0); cases hz; rfl
  | _ => have := hrd.sl; cases this
theorem FPD_conv_r {x : Operand} {s d el m : Nat} {si di ei : TI} {v : AV} {cs : List AV} {z : List Nat} {ms : List Nat} (hx : od l x = some v) (hs : X.ti s = some si) (hd : X.ti d = some di) (hdd : di.desc = .string) (hsd : si.desc = .slice el) (he' : X.ti el = some ei) (hk : ei.desc = .int .i32) (hrd : Rd S v 1 cs m) (hz : runesOf cs = some z)
    (hb : ∀ b, blkOf v = some b → ∃ f ∈ D, f.id = b ∧ S.h.get b = some f.x ∧ ∀ j, f.src = some j → inM ms i j = true) :
    ∀ e, Ag l e → cls X e (.convert s d x) = .read ∧ FPD X D ms i e (.convert s d x) (.str z) := fun _ he =>
  ⟨by unfold cls; dsimp only; rw [hs]; dsimp only; rw [hsd]; dsimp only; rw [hd]; dsimp only; rw [hdd], fun H hH => conv_eq_r (m' := S.n) (od_ok he hx) hs hd hdd hsd he' hk (hrd.keep fun b h => by
    obtain ⟨f, h1, h2, h3, h4⟩ := hb b h
    show H.get b = _; rw [h3, ← h2]; exact hH f h1 h4) hz⟩
end
end
end GX
/- carafelaw1.MutfAgain. (NODRAWN) -/



namespace Go.Proofs.YtnlfcoojlgdgaaaDoor
open GX
set_option maxHeartbeats 16000000
theorem few_runs {S : St} {s : List Nat} : Runs X1 41 [.str (normS s)] S fun v S' => S' = S ∧ v = .str (tS s) := by
  refine Runs_fn (m := 7) (by kernel_rfl) Tryd.func41 rfl (by kernel_rfl) (by kernel_rfl) ?_
  repeat' (
    first
      | refine W_seq ?_
      | refine WO_nil ?_
      | refine V_seq ?_
      | refine W_region ?_
      | refine W_skip ?_
      | refine W_ret ?_
      | refine V_ret ?_
      | refine WO_dst rfl rfl (by kernel_rfl) (by kernel_rfl) ?_
      | refine Ev_move rfl ?_
      | refine Ev_assign rfl ?_
      | refine Ev_gtrN rfl rfl ?_
      | refine Ev_len_str rfl rfl rfl rfl rfl ?_
      | (refine W_cond rfl (fun hc => ?_) (fun hc => ?_) <;> (try dsimp only at hc) <;> try (exfalso; first | omega | exact hc rfl)))
  · refine V_done rfl rfl ?_
    refine ⟨rfl, ?_⟩
    unfold tS; rw [if_pos (by omega)]; rfl
  · refine V_done rfl rfl ?_
    refine ⟨rfl, ?_⟩
    unfold tS; rw [if_neg (by omega)]; rfl
theorem size8 : sizeN 8 = 8 := by decide
theorem size4 : sizeN 4 = 4 := by decide
theorem again_runs {S : St} {av : AV} {ps : List PartA} (hok : Sok S) (hav : ∀ S, Rd S av 5 (ps.flatMap PartA.cells) ps.length) (hn : S.n ≤ 1000) (hgood : ∀ p ∈ ps, p.Good ∧ -9223372036854775808 ≤ p.n ∧ p.n < 9223372036854775808) :
    Runs X1 9 [av] S fun r _ => r = .bool true := by
  have hno := rd_noblk hav
  have hgd : ∀ p ∈ ps, p.Good := fun p hp => (hgood p hp).1
  refine Runs_fn (m := 118) (by kernel_rfl) Tryd.func9 rfl (by kernel_rfl) (by kernel_rfl) ?_
  repeat (
    first
      | refine W_seq ?_
      | refine WO_nil ?_
      | refine V_seq ?_
      | refine W_region ?_
      | refine WO_dst rfl rfl (by kernel_rfl) (by kernel_rfl) ?_
      | refine Ev_assign rfl ?_)
  refine Ev_call rfl rfl ((new_runs hok (by omega)).mono ?_)
  rintro _ S1 - ⟨rfl, hn1, hok1, hf1, hw1⟩
  repeat (
    first
      | refine W_seq ?_
      | refine WO_nil ?_
      | refine V_seq ?_
      | refine W_region ?_
      | refine W_skip ?_
      | refine W_block ?_
      | refine W_cond_f rfl ?_
      | refine WO_dst rfl rfl (by kernel_rfl) (by kernel_rfl) ?_
      | refine Ev_move rfl ?_
      | refine Ev_assign rfl ?_
      | refine Ev_ptr_eql rfl rfl rfl rfl ?_)
  refine W_inv (fun i : Nat => [(4, .int .i64 ((i : Nat) : Int)), (3, .ptr S.n 0), (0, av)]) (fun i T => (∃ vb, Wr T S.n vb ((ps.take i).flatMap pieceL)) ∧ Sok T ∧ i ≤ 30 ∧ i ≤ ps.length ∧ T.n ≤ 1000 * i + 2000) (fun i => 31 - i) ?_ 0 ⟨⟨.nils, hw1⟩, hok1, by omega, by omega, by omega⟩ ⟨rfl, rfl, rfl, trivial⟩
  rintro i T ⟨⟨vb, hw⟩, hokT, hi, hip, hTn⟩ back
  have hlen : ((ps.take i).flatMap pieceL).length ≤ 1048900 * 30 := by
    have := pieces_len (ps := ps.take i) (fun p hp => hgd p (List.mem_of_mem_take hp))
    have h2 : (ps.take i).length ≤ 30 := by rw [List.length_take]; omega
    omega
  repeat' (
    first
      | refine W_seq ?_
      | refine WO_nil ?_
      | refine V_seq ?_
      | refine W_region ?_
      | refine W_skip ?_
      | refine W_block ?_
      | refine W_exit ?_
      | refine V_block_x rfl ?_
      | refine V_seq_x ?_
      | refine V_loop_x ?_
      | refine W_cond_f rfl ?_
      | refine WO_dst rfl rfl (by kernel_rfl) (by kernel_rfl) ?_
      | refine WO_guard_t rfl rfl rfl rfl rfl (by kernel_rfl) (by kernel_rfl) ?_
      | refine WO_guard_f rfl rfl rfl rfl rfl rfl (by kernel_rfl) (by kernel_rfl) ?_
      | refine Ev_len rfl rfl rfl rfl rfl (hav T).len ?_
      | refine Ev_move rfl ?_
      | refine Ev_pick_t rfl rfl rfl ?_
      | refine Ev_pick_f rfl rfl rfl ?_
      | refine Ev_lssN rfl rfl ?_
      | (refine WO_guard_dt rfl rfl rfl rfl rfl (by kernel_rfl) (by kernel_rfl) (fun hg => ?_) (fun hg => ?_) <;> (try dsimp only at hg) <;> try (exfalso; first | omega | exact hg rfl))
      | (refine W_cond rfl (fun hc => ?_) (fun hc => ?_) <;> (try dsimp only at hc) <;> try (exfalso; first | omega | exact hc rfl)))
  · obtain ⟨P, hP⟩ : ∃ P, P = ps[i] := ⟨_, rfl⟩
    obtain ⟨hG, hN1, hN2⟩ := hgood P (by rw [hP]; exact List.getElem_mem _)
    have hcell : ∀ k v, k < 5 → P.cells[k]? = some v → (ps.flatMap PartA.cells)[i * 5 + k]? = some v := fun k v hk hv => flat_at hg hk (by rw [← hP]; exact hv)
    obtain ⟨_, -, hpc⟩ := pieces_at (ps := ps) (m := ps.length) (Nat.le_refl _) hg
    rw [← hP] at hpc
    have htg := tS_good P.text
    have htl := hG.tl
    have hnl := normS_len P.text
    have hrl := hG.rl
    repeat (
      first
        | refine WO_dst rfl rfl (by kernel_rfl) (by kernel_rfl) ?_
        | refine Ev_indexAddr_n rfl rfl rfl rfl rfl (hav T) hno hg ?_
        | refine Ev_fieldAddr_n rfl rfl rfl rfl rfl rfl ?_)
    refine Ev_load_pt rfl rfl rfl (.inr rfl) (hcell 2 _ (by decide) rfl) (veq_int _ _) ?_
    repeat (
      refine WO_dst rfl rfl (by kernel_rfl) (by kernel_rfl) ?_)
    refine Ev_call rfl rfl ((number_runs hokT hw (by omega) (by omega)).mono ?_)
    rintro _ T1 - ⟨vb1, hw1, hF1⟩
    rw [size8] at hw1
    have gn1 := hF1.n
    repeat (
      first
        | refine W_seq ?_
        | refine WO_nil ?_
        | refine V_seq ?_
        | refine W_region ?_
        | refine WO_dst rfl rfl (by kernel_rfl) (by kernel_rfl) ?_
        | refine Ev_indexAddr_n rfl rfl rfl rfl rfl (hav T1) hno hg ?_
        | refine Ev_fieldAddr_n rfl rfl rfl rfl rfl rfl ?_
        | refine Ev_move rfl ?_)
    refine Ev_load_pt rfl rfl rfl (.inr rfl) (hcell 3 _ (by decide) rfl) (veq_str _) ?_
    repeat (
      refine WO_dst rfl rfl (by kernel_rfl) (by kernel_rfl) ?_)
    refine Ev_conv_runes rfl rfl rfl rfl rfl rfl rfl rfl hF1.ok (by omega) ?_
    intro T2 gn2 gok2 gq2 gf2
    have hF2 : Fr T1 T2 .nils 1 := ⟨by omega, by omega, gok2, fun c _ h => gf2 c h⟩
    have hw2 := hw1.fr hF1.ok hF2
    repeat (
      refine WO_dst rfl rfl (by kernel_rfl) (by kernel_rfl) ?_)
    refine Ev_conv_to_str_r rfl rfl rfl rfl rfl rfl rfl (runes_rd gq2) (runes_of _) ?_
    repeat (
      refine WO_dst rfl rfl (by kernel_rfl) (by kernel_rfl) ?_)
    refine Ev_call rfl rfl (few_runs.mono ?_)
    rintro _ _ - ⟨rfl, rfl⟩
    rename_i T2
    repeat (
      refine WO_dst rfl rfl (by kernel_rfl) (by kernel_rfl) ?_)
    refine Ev_call rfl rfl ((wtext_runs gok2 hw2 (by omega) (by simp only [List.length_append, numL_len]; omega) (by omega)).mono ?_)
    rintro _ T3 - ⟨vb3, hw3, hF3⟩
    have gn3 := hF3.n
    have htx : (textL (tS P.text)).length ≤ 258 := textL_len _
    repeat (
      first
        | refine W_seq ?_
        | refine WO_nil ?_
        | refine V_seq ?_
        | refine W_region ?_
        | refine WO_dst rfl rfl (by kernel_rfl) (by kernel_rfl) ?_
        | refine Ev_indexAddr_n rfl rfl rfl rfl rfl (hav T3) hno hg ?_
        | refine Ev_fieldAddr_n rfl rfl rfl rfl rfl rfl ?_
        | refine Ev_move rfl ?_)
    refine Ev_load_pt rfl rfl rfl (.inr rfl) (hcell 4 _ (by decide) rfl) (hG.rd T3).self ?_
    repeat (
      first
        | refine WO_dst rfl rfl (by kernel_rfl) (by kernel_rfl) ?_
        | refine Ev_len rfl rfl rfl rfl rfl (hG.rd T3).len ?_)
    refine Ev_call rfl rfl ((number_runs hF3.ok hw3 (by simp only [List.length_append, numL_len]; omega) (by omega)).mono ?_)
    rintro _ T4 - ⟨vb4, hw4, hF4⟩
    rw [size4] at hw4
    have gn4 := hF4.n
    repeat (
      first
        | refine WO_nil ?_
        | refine V_seq ?_
        | refine W_region ?_
        | refine WO_dst rfl rfl (by kernel_rfl) (by kernel_rfl) ?_
        | refine Ev_indexAddr_n rfl rfl rfl rfl rfl (hav T4) hno hg ?_
        | refine Ev_fieldAddr_n rfl rfl rfl rfl rfl rfl ?_
        | refine Ev_move rfl ?_)
    refine Ev_load_pt rfl rfl rfl (.inr rfl) (hcell 4 _ (by decide) rfl) (hG.rd T4).self ?_
    repeat (
      refine WO_dst rfl rfl (by kernel_rfl) (by kernel_rfl) ?_)
    refine Ev_call rfl rfl ((wbytes_runs hF4.ok hw4 (hG.rd T4) (by simp only [List.length_append, numL_len]; omega) (by omega) (by omega)).mono ?_)
    rintro _ T5 - ⟨vb5, hw5, hF5⟩
    have gn5 := hF5.n
    repeat (
      first
        | refine WO_nil ?_
        | refine V_seq ?_
        | refine W_region ?_
        | refine V_block ?_
        | refine WO_dst rfl rfl (by kernel_rfl) (by kernel_rfl) ?_
        | refine Ev_move rfl ?_
        | refine Ev_assign rfl ?_
        | refine Ev_addN rfl rfl (by simp only [lim]; omega) ?_)
    refine back (i + 1) T5 _ (by omega) ⟨⟨vb5, ?_⟩, hF5.ok, by omega, by omega, by omega⟩ ⟨rfl, rfl, rfl, trivial⟩
    rw [hpc]
    rw [textL_t] at hw5
    rw [show pieceL P = numL P.n 8 ++ numL ((encS (tS P.text)).length : Int) 2 ++ encS (tS P.text) ++ numL (P.rawb.length : Int) 4 ++ P.rawb from rfl]
    simp only [List.append_assoc] at hw5 ⊢
    exact hw5
  all_goals
    obtain ⟨b, hb⟩ : ∃ b, b = (ps.take i).flatMap pieceL := ⟨_, rfl⟩
    rw [← hb] at hlen hw
    have hbl : ∀ x ∈ b, x < 256 := by
      intro x hx
      rw [hb] at hx
      obtain ⟨p, hp, hxp⟩ := List.mem_flatMap.1 hx
      exact piece_lt (hgd p (List.mem_of_mem_take hp)) x hxp
    have hm : i = ps.length ∨ i = 30 := by omega
    refine Ev_call rfl rfl ((done_runs hokT hw (by omega) (by omega)).mono ?_)
    rintro v S2 - ⟨hF2, hz, hbv⟩
    have gn2 := hF2.n
    repeat (
      refine WO_dst rfl rfl (by kernel_rfl) (by kernel_rfl) ?_)
    refine Ev_call rfl rfl ((newrd_runs hF2.ok hz.rd (by omega) (by omega)).mono ?_)
    rintro _ S3 - ⟨p, vr, rfl, hp1, hp2, hrr, hvb, hF3⟩
    have gn3 := hF3.n
    repeat' (
      first
        | refine W_seq ?_
        | refine WO_nil ?_
        | refine V_seq ?_
        | refine W_region ?_
        | refine W_skip ?_
        | refine W_block ?_
        | refine W_cond_f rfl ?_
        | refine WO_dst rfl rfl (by kernel_rfl) (by kernel_rfl) ?_
        | refine Ev_move rfl ?_
        | refine Ev_assign rfl ?_
        | refine Ev_ptr_eql rfl rfl rfl rfl ?_)
    refine W_inv (fun j : Nat => [(6, .int .i64 ((j : Nat) : Int)), (5, .ptr p 0), (0, av)]) (fun j T => Rr T p vr b ⟨((ps.take j).flatMap pieceL).length, 0, 0⟩ ∧ Sok T ∧ j ≤ i ∧ T.n ≤ 1000000 * j + 50000) (fun j => i - j) ?_ 0 ⟨hrr, hF3.ok, by omega, by omega⟩ ⟨rfl, rfl, rfl, trivial⟩
    rintro j T ⟨hr, hokT, hj, hTn⟩ back2
    repeat' (
      first
        | refine W_seq ?_
        | refine WO_nil ?_
        | refine V_seq ?_
        | refine W_region ?_
        | refine W_skip ?_
        | refine W_block ?_
        | refine W_exit ?_
        | refine V_block_x rfl ?_
        | refine V_seq_x ?_
        | refine V_loop_x ?_
        | refine W_cond_f rfl ?_
        | refine WO_dst rfl rfl (by kernel_rfl) (by kernel_rfl) ?_
        | refine WO_guard_t rfl rfl rfl rfl rfl (by kernel_rfl) (by kernel_rfl) ?_
        | refine WO_guard_f rfl rfl rfl rfl rfl rfl (by kernel_rfl) (by kernel_rfl) ?_
        | refine Ev_len rfl rfl rfl rfl rfl (hav T).len ?_
        | refine Ev_move rfl ?_
        | refine Ev_pick_t rfl rfl rfl ?_
        | refine Ev_pick_f rfl rfl rfl ?_
        | refine Ev_lssN rfl rfl ?_
        | (refine WO_guard_dt rfl rfl rfl rfl rfl (by kernel_rfl) (by kernel_rfl) (fun hg => ?_) (fun hg => ?_) <;> (try dsimp only at hg) <;> try (exfalso; first | omega | exact hg rfl))
        | (refine W_cond rfl (fun hc => ?_) (fun hc => ?_) <;> (try dsimp only at hc) <;> try (exfalso; first | omega | exact hc rfl)))
    · rename_i hg2 hc2
      have hji : j < i := by omega
      obtain ⟨P, hP⟩ : ∃ P, P = ps[j] := ⟨_, rfl⟩
      obtain ⟨hG, hN1, hN2⟩ := hgood P (by rw [hP]; exact List.getElem_mem _)
      have hcell : ∀ k v, k < 5 → P.cells[k]? = some v → (ps.flatMap PartA.cells)[j * 5 + k]? = some v := fun k v hk hv => flat_at (by omega) hk (by rw [← hP]; exact hv)
      obtain ⟨rest, hd, hpc⟩ := pieces_at (ps := ps) (m := i) hip hji
      rw [← hP, ← hb] at hd
      rw [← hP] at hpc
      obtain ⟨pos, hpos⟩ : ∃ pos, pos = ((ps.take j).flatMap pieceL).length := ⟨_, rfl⟩
      rw [← hpos] at hr hd
      have htg := tS_good P.text
      have htl := hG.tl
      have hnl := normS_len P.text
      have hrl := hG.rl
      unfold pieceL at hd
      rw [List.append_assoc, List.append_assoc, List.append_assoc, List.append_assoc] at hd
      obtain ⟨e1, d1⟩ := take_at hd (numL_len _ 8)
      obtain ⟨e2, d2⟩ := text_at (rest := numL (P.rawb.length : Int) 4 ++ (P.rawb ++ rest)) (by rw [d1, List.append_assoc])
      obtain ⟨e3, d3⟩ := take_at d2 (numL_len _ 4)
      obtain ⟨e4, d4⟩ := take_at d3 (rfl : P.rawb.length = P.rawb.length)
      refine W_drawnF [] (by simp) (by kernel_rfl) ?_
      repeat (
        first
          | refine WF_pa rfl rfl (by kernel_rfl) (by kernel_rfl) rfl ?_
          | refine Ev_move rfl ?_)
      refine WF_ld rfl rfl (by kernel_rfl) (by kernel_rfl) (fun _ _ => rfl) ?_
      refine Ev_call rfl rfl ((rnum_runs hokT hr (by omega) (by omega) hbl).mono ?_)
      rintro _ T1 - ⟨rfl, h1, hF1⟩
      rw [size8, e1] at h1 ⊢
      dsimp only at h1 ⊢
      rw [numV_n hN1 hN2]
      have gn1 := hF1.n
      refine ⟨by simp, [], by simp, ?_⟩
      repeat (
        first
          | refine WF_pa rfl rfl (by kernel_rfl) (by kernel_rfl) rfl ?_
          | refine Ev_indexAddr_n rfl rfl rfl rfl rfl (hav T1) hno (by omega) ?_
          | refine Ev_fieldAddr_n rfl rfl rfl rfl rfl rfl ?_
          | refine Ev_move rfl ?_)
      refine WF_rf rfl rfl (by kernel_rfl) (by kernel_rfl) (by simp) (FPD_load_n rfl rfl rfl (hcell 2 _ (by decide) rfl)) (veq_int _ _) ?_
      repeat' (
        first
          | refine WF_guard_t rfl rfl rfl rfl rfl (by kernel_rfl) (by kernel_rfl) ?_
          | refine WF_pa rfl rfl (by kernel_rfl) (by kernel_rfl) rfl ?_
          | refine Ev_move rfl ?_
          | refine Ev_neq rfl rfl ?_
          | (refine WF_guard_df rfl rfl rfl rfl rfl (by kernel_rfl) (by kernel_rfl) (fun hg => ?_) (fun hg => ?_) <;> (try dsimp only at hg) <;> try (exfalso; first | omega | exact hg rfl)))
      refine WF_ld rfl rfl (by kernel_rfl) (by kernel_rfl) (fun _ _ => rfl) ?_
      refine Ev_call rfl rfl ((rdtext_runs hF1.ok h1 (by omega) (by omega) hbl).mono ?_)
      rintro _ T2 - ⟨rfl, h2, hF2⟩
      rw [e2] at h2 ⊢
      dsimp only at h2 ⊢
      have gn2 := hF2.n
      have gl2 := hF2.le
      refine ⟨by simp, [], by simp, ?_⟩
      repeat' (
        first
          | refine WF_guard_t rfl rfl rfl rfl rfl (by kernel_rfl) (by kernel_rfl) ?_
          | refine WF_pa rfl rfl (by kernel_rfl) (by kernel_rfl) rfl ?_
          | refine Ev_indexAddr_n rfl rfl rfl rfl rfl (hav T2) hno (by omega) ?_
          | refine Ev_fieldAddr_n rfl rfl rfl rfl rfl rfl ?_
          | refine Ev_move rfl ?_)
      refine WF_rf rfl rfl (by kernel_rfl) (by kernel_rfl) (by simp) (FPD_load_n rfl rfl rfl (hcell 3 _ (by decide) rfl)) (veq_str _) ?_
      refine WF_guard_t rfl rfl rfl rfl rfl (by kernel_rfl) (by kernel_rfl) ?_
      refine WF_al rfl rfl (by kernel_rfl) (by kernel_rfl) (by exact fun _ _ => rfl) ?_
      refine Ev_conv_runes rfl rfl rfl rfl rfl rfl rfl rfl hF2.ok (by omega) ?_
      intro T3 gn3 gok3 gq3 gf3
      have hF3 : Fr T2 T3 .nils 1 := ⟨by omega, by omega, gok3, fun c _ h => gf3 c h⟩
      have h3 := h2.fr hF2.ok hF3
      refine ⟨_, gq3, by omega, ?_⟩
      have hD3 : ∀ f ∈ [] ++ [] ++ [] ++ [(⟨T2.n, .cells 21 (runesFrom P.text.length P.text) true, some 16⟩ : Fct)], T3.h.get f.id = some f.x := by
        intro f hf
        simp at hf; subst hf; exact gq3
      repeat' (
        refine WF_guard_t rfl rfl rfl rfl rfl (by kernel_rfl) (by kernel_rfl) ?_)
      refine WF_rf rfl rfl (by kernel_rfl) (by kernel_rfl) hD3 (FPD_conv_r rfl rfl rfl rfl rfl rfl rfl (runes_rd gq3) (runes_of _) (fun b hb => ?_)) (veq_str _) ?_
      · cases hb
        exact ⟨_, List.mem_append_right _ (List.mem_singleton.2 rfl), rfl, gq3, fun j hj => by cases hj; kernel_rfl⟩
      repeat' (
        refine WF_guard_t rfl rfl rfl rfl rfl (by kernel_rfl) (by kernel_rfl) ?_)
      refine WF_ld rfl rfl (by kernel_rfl) (by kernel_rfl) (fun _ _ => rfl) ?_
      refine Ev_call rfl rfl (few_runs.mono ?_)
      rintro _ _ - ⟨rfl, rfl⟩
      rename_i T3
      refine ⟨hD3, [], by simp, ?_⟩
      repeat' (
        first
          | refine WF_guard_t rfl rfl rfl rfl rfl (by kernel_rfl) (by kernel_rfl) ?_
          | refine WF_pa rfl rfl (by kernel_rfl) (by kernel_rfl) rfl ?_
          | refine Ev_move rfl ?_
          | refine Ev_pick_f rfl rfl rfl ?_
          | refine Ev_sneq rfl rfl ?_
          | (refine WF_guard_df rfl rfl rfl rfl rfl (by kernel_rfl) (by kernel_rfl) (fun hg => ?_) (fun hg => ?_) <;> (try dsimp only at hg) <;> try (exfalso; first | omega | exact hg rfl)))
      refine WF_ld rfl rfl (by kernel_rfl) (by kernel_rfl) (fun _ _ => rfl) ?_
      refine Ev_call rfl rfl ((rnum_runs gok3 h3 (by omega) (by omega) hbl).mono ?_)
      rintro _ T4 - ⟨rfl, h4, hF4⟩
      rw [size4, e3] at h4 ⊢
      dsimp only at h4 ⊢
      rw [numV_4 (by omega)]
      have gn4 := hF4.n
      have hp3 := gok3 _ _ h3.cell
      have hpT := hokT _ _ hr.cell
      have hD4 : ∀ f ∈ [] ++ [] ++ [] ++ [(⟨T2.n, .cells 21 (runesFrom P.text.length P.text) true, some 16⟩ : Fct)], T4.h.get f.id = some f.x := by
        intro f hf
        have hf2 := hf
        simp at hf; subst hf
        rw [← hD3 _ hf2]
        exact hF4.same _ (by show T2.n ≠ p; omega)
      refine ⟨fun f hf => hD4 f (by simpa using hf), [], by simp, ?_⟩
      repeat' (
        refine WF_guard_t rfl rfl rfl rfl rfl (by kernel_rfl) (by kernel_rfl) ?_)
      refine WF_ld rfl rfl (by kernel_rfl) (by kernel_rfl) (fun _ _ => rfl) ?_
      refine Ev_call rfl rfl ((rbytes_runs hF4.ok h4 (by omega) (by omega) (by omega)).mono ?_)
      rintro u T5 - ⟨r5, u1, hu, h5, ⟨gl5, gn5, gok5, gf5⟩, hu5, hub⟩
      rw [Int.toNat_natCast, e4] at hu
      cases hu
      have hD5 : ∀ f ∈ [] ++ [] ++ [] ++ [(⟨T2.n, .cells 21 (runesFrom P.text.length P.text) true, some 16⟩ : Fct)], T5.h.get f.id = some f.x := by
        intro f hf
        have hf2 := hf
        simp at hf; subst hf
        rw [← hD4 _ hf2]
        exact gf5 _ (by show T2.n ≠ p; omega) (by show T2.n < T4.n; omega)
      refine ⟨fun f hf => hD5 f (by simpa using hf), [], by simp, ?_⟩
      repeat' (
        refine WF_guard_t rfl rfl rfl rfl rfl (by kernel_rfl) (by kernel_rfl) ?_)
      refine WF_rs rfl rfl (by kernel_rfl) (by kernel_rfl) (by kernel_rfl) (by kernel_rfl) ?_
      refine Ev_conv_to_str rfl rfl rfl rfl rfl rfl rfl hu5 (bytesOf_sbytes hG.rb) ?_
      repeat' (
        first
          | refine WF_guard_t rfl rfl rfl rfl rfl (by kernel_rfl) (by kernel_rfl) ?_
          | refine WF_pa rfl rfl (by kernel_rfl) (by kernel_rfl) rfl ?_
          | refine Ev_indexAddr_n rfl rfl rfl rfl rfl (hav T5) hno (by omega) ?_
          | refine Ev_fieldAddr_n rfl rfl rfl rfl rfl rfl ?_
          | refine Ev_move rfl ?_)
      refine WF_rf rfl rfl (by kernel_rfl) (by kernel_rfl) (fun f hf => hD5 f (by simpa using hf)) (FPD_load_n rfl rfl rfl (hcell 4 _ (by decide) rfl)) (hG.rd T5).self ?_
      repeat' (
        refine WF_guard_t rfl rfl rfl rfl rfl (by kernel_rfl) (by kernel_rfl) ?_)
      refine WF_rf rfl rfl (by kernel_rfl) (by kernel_rfl) (fun f hf => hD5 f (by simpa using hf)) (FPD_conv rfl rfl rfl rfl rfl rfl rfl (hG.rd T5) (bytesOf_sbytes hG.rb) (fun b hb => by rw [rd_noblk hG.rd] at hb; cases hb)) (veq_str _) ?_
      repeat' (
        first
          | refine WF_nil ?_
          | refine WF_guard_t rfl rfl rfl rfl rfl (by kernel_rfl) (by kernel_rfl) ?_
          | refine WF_pa rfl rfl (by kernel_rfl) (by kernel_rfl) rfl ?_
          | refine WO_nil ?_
          | refine V_seq ?_
          | refine W_region ?_
          | refine W_skip ?_
          | refine V_block ?_
          | refine WO_dst rfl rfl (by kernel_rfl) (by kernel_rfl) ?_
          | refine Ev_move rfl ?_
          | refine Ev_assign rfl ?_
          | refine Ev_pick_f rfl rfl rfl ?_
          | refine Ev_sneq rfl rfl ?_
          | refine Ev_addN rfl rfl (by simp only [lim]; omega) ?_
          | (refine W_cond rfl (fun hc => ?_) (fun hc => ?_) <;> (try dsimp only at hc) <;> try (exfalso; first | omega | exact hc rfl)))
      refine back2 (j + 1) T5 _ (by omega) ⟨?_, gok5, by omega, by omega⟩ ⟨rfl, rfl, rfl, trivial⟩
      have e : ((ps.take (j + 1)).flatMap pieceL).length = pos + 8 + 2 + (encS (tS P.text)).length + 4 + P.rawb.length := by
        rw [hpc, List.length_append, ← hpos]
        unfold pieceL
        simp only [List.length_append, numL_len]; omega
      rw [e]; exact h5
    all_goals
      have hji : j = i := by omega
      subst hji
      refine Ev_call rfl rfl ((end_runs hr).mono ?_)
      rintro _ _ - ⟨rfl, rfl⟩
      have he : RdS.endOf ⟨((ps.take j).flatMap pieceL).length, 0, 0⟩ b = (0, 0) := by
        unfold RdS.endOf
        rw [if_neg (by simp), if_neg (by rw [hb]; dsimp only; omega)]
      rw [he]
      repeat' (
        first
          | refine W_seq ?_
          | refine WO_nil ?_
          | refine V_seq ?_
          | refine W_region ?_
          | refine WO_dst rfl rfl (by kernel_rfl) (by kernel_rfl) ?_
          | refine WO_guard_t rfl rfl rfl rfl rfl (by kernel_rfl) (by kernel_rfl) ?_
          | refine Ev_move rfl ?_
          | refine Ev_assign rfl ?_
          | refine Ev_extract rfl rfl ?_
          | refine Ev_pick_t rfl rfl rfl ?_
          | refine Ev_eqlN rfl rfl ?_)
      refine Ev_call rfl rfl (known_true ?_)
      repeat (
        first
          | refine WO_nil ?_
          | refine V_seq ?_
          | refine W_ret ?_
          | refine WO_dst rfl rfl (by kernel_rfl) (by kernel_rfl) ?_
          | refine Ev_assign rfl ?_
          | refine Ev_pick_t rfl rfl rfl ?_)
      refine V_done rfl rfl ?_
      rfl
end Go.Proofs.YtnlfcoojlgdgaaaDoor
