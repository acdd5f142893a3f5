/- What the row leans on, part 13: texts one behind the other. No condition. -/
import Derived.Test.YtnlfcoojlgdgaaaDoorMg12
import Derived.Test.YtnlfcoojlgdgaaaDoorMg11
import Derived.KernelRfl
/- carafelaw1.MutfReads. (NODRAWN) -/




namespace Go.Proofs.YtnlfcoojlgdgaaaDoor
open GX
set_option maxHeartbeats 16000000
theorem rd_noblk {v : AV} {sz : Nat} {cs : List AV} {m : Nat} (h : ∀ S, Rd S v sz cs m) : blkOf v = none := by
  cases hb : blkOf v with
  | none => rfl
  | some b => exact absurd ((h { h := .leaf, n := 0 }).lt (by intro c x h; simp [Tr.get] at h) hb) (Nat.not_lt_zero _)
theorem rd_has {S : St} {v : AV} {sz : Nat} {cs : List AV} {m b : Nat} (h : Rd S v sz cs m) (hb : blkOf v = some b) : ∃ x, S.h.get b = some x := by
  cases v with
  | slice b' o n cap =>
    cases hb
    have hl := h.len
    cases hl
    obtain ⟨ty, cs0, sp, h1, _⟩ := h.cell
    exact ⟨_, h1⟩
  | ptr b' o => have := h.sl; cases this
  | map r => have := h.sl; cases this
  | _ => cases hb
/-- what is told of a slice's block -/
theorem rd_facts {S : St} {v : AV} {sz : Nat} {cs : List AV} {m : Nat} (i : Nat) (h : Rd S v sz cs m) (hok : Sok S) :
    ∃ N : List Fct, (∀ f ∈ N, f.src = some i ∧ f.id < S.n ∧ S.h.get f.id = some f.x) ∧ (∀ f ∈ N, blkOf v = some f.id) ∧ ∀ b, blkOf v = some b → ∃ f ∈ N, f.id = b ∧ S.h.get b = some f.x ∧ f.src = some i := by
  cases hb : blkOf v with
  | none => exact ⟨[], by simp, by simp, fun b h => by cases h⟩
  | some b =>
    obtain ⟨x, hx⟩ := rd_has h hb
    refine ⟨[⟨b, x, some i⟩], ?_, ?_, ?_⟩
    · intro f hf; rw [List.mem_singleton] at hf; subst hf
      exact ⟨rfl, h.lt hok hb, hx⟩
    · intro f hf; rw [List.mem_singleton] at hf; subst hf; rfl
    · intro b' hb'; cases hb'; exact ⟨_, List.mem_singleton.2 rfl, rfl, hx, rfl⟩
/-- both readers, and the bytes with room behind them -/
structure BM (T : St) (p q : Nat) (vb bv full : AV) (b : List Nat) (r : RdS) : Prop where
  ok : Sok T
  rr : Rr T p vb b r
  rq : Rq T q bv b r
  pq : p ≠ q
  vq : blkOf vb ≠ some q
  fl : Rd T full 1 (sbytes (roomy b)) (roomy b).length
  fp : blkOf full ≠ some p
  fq : blkOf full ≠ some q
  bn : blkOf bv = none
theorem BM.fr {T T' : St} {p q : Nat} {vb bv full : AV} {b : List Nat} {r : RdS} {k : Nat} (h : BM T p q vb bv full b r) (a : Fr T T' .nils k) : BM T' p q vb bv full b r :=
  ⟨a.ok, h.rr.fr h.ok a, h.rq.fr h.ok a, h.pq, h.vq, h.fl.keep (fun c hc => a.same c (by simp [blkOf]) (h.fl.lt h.ok hc)), h.fp, h.fq, h.bn⟩
theorem BM.step {T T1 T2 : St} {p q : Nat} {vb bv full : AV} {b : List Nat} {r r' : RdS} {k k' : Nat} (h : BM T p q vb bv full b r) (h1 : Rr T1 p vb b r') (a : FrQ T T1 p k) (h2 : Rq T2 q bv b r') (c : FrQ T1 T2 q k') : BM T2 p q vb bv full b r' := by
  have hp := h.ok _ _ h.rr.cell
  have hle := a.le
  refine ⟨c.ok, ⟨by rw [c.same p h.pq (by omega)]; exact h1.cell, h1.rd.keep (fun d hd => c.same d (fun e => h.vq (by rw [hd, e])) (h1.rd.lt a.ok hd)), h1.ne, h1.le⟩, h2, h.pq, h.vq, h.fl.keep (fun d hd => ?_), h.fp, h.fq, h.bn⟩
  have hd2 := h.fl.lt h.ok hd
  rw [c.same d (fun e => h.fq (by rw [hd, e])) (by omega), a.same d (fun e => h.fp (by rw [hd, e])) hd2]
theorem BM.rq1 {T T1 : St} {p q : Nat} {vb bv full : AV} {b : List Nat} {r : RdS} {k : Nat} (h : BM T p q vb bv full b r) (a : FrQ T T1 p k) : Rq T1 q bv b r := by
  have hq := h.ok _ _ h.rq.cell
  exact ⟨by rw [a.same q (Ne.symm h.pq) hq]; exact h.rq.cell, h.rq.rd.keep (fun d hd => by rw [h.bn] at hd; cases hd), h.rq.ne, h.rq.le⟩
theorem FrQ.k {S S' : St} {p k k' : Nat} (a : FrQ S S' p k) (h : k ≤ k') : FrQ S S' p k' := ⟨a.le, Nat.le_trans a.n (by omega), a.ok, a.same⟩
theorem Pt_of {S : St} {b o ty : Nat} {cs : List AV} {sp : Bool} (h : S.h.get b = some (.cells ty cs sp)) : Pt S (.ptr b o) cs o :=
  .inl ⟨b, 0, ty, cs, sp, by rw [Nat.zero_add], h, by omega, fun i _ => by rw [Nat.zero_add]⟩
theorem reads_n (a b c : Nat) (h : a ≤ b + 1900000) (h2 : b ≤ 2000000 * c + 10000) : a ≤ 2000000 * (c + 1) + 10000 := by omega
theorem reads_runs {S : St} {bv av : AV} {b : List Nat} {ps : List PartA} (hok : Sok S) (hbv : ∀ S, Rd S bv 1 (sbytes b) b.length) (hb : ∀ x ∈ b, x < 256) (hbl : b.length ≤ 1048576) (hav : ∀ S, Rd S av 5 (ps.flatMap PartA.cells) ps.length) (hn : S.n ≤ 1000) (hgood : ∀ p ∈ ps, p.Good ∧ p.bytes < 9223372036854775808) :
    Runs X1 8 [bv, av] S fun r _ => r = .bool true := by
  have hbn := rd_noblk hbv
  have hrl := roomy_len b
  have hblen := (hbv S).len
  refine Runs_fn (m := 110) (by kernel_rfl) Tryd.func8 rfl (by kernel_rfl) (by kernel_rfl) ?_
  repeat (
    first
      | refine W_seq ?_
      | refine WO_nil ?_
      | refine V_seq ?_
      | refine W_region ?_
      | refine WO_dst rfl rfl (by kernel_rfl) (by kernel_rfl) ?_
      | refine Ev_move rfl ?_
      | refine Ev_assign rfl ?_)
  refine Ev_call rfl rfl ((roomy_runs hok (hbv S) (by omega) (by omega)).mono ?_)
  rintro full S1 - ⟨f, hfe, hf0, hfl, hF1⟩
  obtain ⟨hfb, hfb2⟩ : (∀ c, blkOf full = some c → c = f) ∧ blkOf full = some f := by subst hfe; exact ⟨fun c hc => by cases hc; rfl, rfl⟩
  have hf1 : f < S1.n := hfl.lt hF1.ok hfb2
  have gn1 := hF1.n
  repeat' (
    first
      | refine W_seq ?_
      | refine WO_nil ?_
      | refine V_seq ?_
      | refine W_region ?_
      | refine WO_dst rfl rfl (by kernel_rfl) (by kernel_rfl) ?_
      | refine Ev_len rfl rfl rfl rfl rfl hblen ?_
      | refine Ev_move rfl ?_
      | refine Ev_assign rfl ?_)
  refine Ev_slice_hi rfl rfl rfl rfl rfl hfl (by omega) ?_
  intro v' hv' hbv'
  have hv2 : Rd S1 v' 1 (sbytes b) b.length := by
    refine hv'.eq ?_ rfl
    unfold sbytes roomy
    simp only [Nat.mul_one, List.map_append]
    rw [List.take_append_of_le_length (by simp), List.take_of_length_le (by simp)]
  repeat (
    refine WO_dst rfl rfl (by kernel_rfl) (by kernel_rfl) ?_)
  refine Ev_call rfl rfl ((newrd_runs hF1.ok hv2 (by omega) (by omega)).mono ?_)
  rintro _ S2 - ⟨p, vb, rfl, hp1, hp2, hrr, hvb, hF2⟩
  have gn2 := hF2.n
  have gl2 := hF2.le
  repeat (
    first
      | refine W_seq ?_
      | refine WO_nil ?_
      | refine V_seq ?_
      | refine W_region ?_
      | refine WO_dst rfl rfl (by kernel_rfl) (by kernel_rfl) ?_
      | refine Ev_move rfl ?_
      | refine Ev_assign rfl ?_)
  refine Ev_build (v := .agg [bv, .int .i64 0, .bool false, .int .i64 0, .int .i64 0]) rfl ?_ ?_
  · have hs := (hbv S).sl
    cases bv <;> first | rfl | cases hs
  repeat (
    refine WO_dst rfl rfl (by kernel_rfl) (by kernel_rfl) ?_)
  refine Ev_box rfl hF2.ok (by omega) ?_
  intro S3 gn3 gok3 gq3 gf3
  have hF3 : Fr S2 S3 .nils 1 := ⟨by omega, by omega, gok3, fun c _ h => gf3 c h⟩
  have hB : BM S3 p S2.n vb bv full b ⟨0, 0, 0⟩ := by
    have hrr3 := hrr.fr hF2.ok hF3
    refine ⟨gok3, hrr3, ⟨gq3, hbv _, by rw [hbn]; simp, Nat.zero_le _⟩, by omega, fun e => ?_, hfl.keep (fun c hc => ?_), fun e => ?_, fun e => ?_, hbn⟩
    · have := hrr.rd.lt hF2.ok e; omega
    · have hc2 := hfb c hc
      subst hc2
      rw [gf3 _ (by omega), hF2.same _ (by simp [blkOf]) hf1]
    · have := hfb _ e; omega
    · have := hfb _ e; omega
  repeat' (
    first
      | refine W_seq ?_
      | refine WO_nil ?_
      | refine V_seq ?_
      | refine W_region ?_
      | refine W_skip ?_
      | refine W_block ?_
      | refine W_cond_f rfl ?_
      | refine WO_dst rfl rfl (by kernel_rfl) (by kernel_rfl) ?_
      | refine Ev_move rfl ?_
      | refine Ev_assign rfl ?_
      | refine Ev_ptr_eql rfl rfl rfl rfl ?_)
  refine W_inv (fun i : Nat => [(8, .int .i64 ((i : Nat) : Int)), (7, .ptr S2.n 0), (6, .ptr p 0), (5, full), (0, bv), (1, av)]) (fun i T => (∃ r, BM T p S2.n vb bv full b r) ∧ i ≤ 30 ∧ T.n ≤ 2000000 * i + 10000 ∧ S3.n ≤ T.n) (fun i => 31 - i) ?_ 0 ⟨⟨_, hB⟩, by omega, by omega, by omega⟩ ⟨rfl, rfl, rfl, rfl, rfl, rfl, trivial⟩
  rintro i T ⟨⟨r, hL⟩, hi, hTn, hTl⟩ back
  repeat' (
    first
      | refine W_seq ?_
      | refine WO_nil ?_
      | refine V_seq ?_
      | refine W_region ?_
      | refine W_skip ?_
      | refine W_block ?_
      | refine W_exit ?_
      | refine V_block_x rfl ?_
      | refine V_seq_x ?_
      | refine V_loop_x ?_
      | refine W_cond_f rfl ?_
      | refine WO_dst rfl rfl (by kernel_rfl) (by kernel_rfl) ?_
      | refine WO_guard_t rfl rfl rfl rfl rfl (by kernel_rfl) (by kernel_rfl) ?_
      | refine WO_guard_f rfl rfl rfl rfl rfl rfl (by kernel_rfl) (by kernel_rfl) ?_
      | refine Ev_len rfl rfl rfl rfl rfl (hav T).len ?_
      | refine Ev_move rfl ?_
      | refine Ev_pick_t rfl rfl rfl ?_
      | refine Ev_pick_f rfl rfl rfl ?_
      | refine Ev_lssN rfl rfl ?_
      | (refine WO_guard_dt rfl rfl rfl rfl rfl (by kernel_rfl) (by kernel_rfl) (fun hg => ?_) (fun hg => ?_) <;> (try dsimp only at hg) <;> try (exfalso; first | omega | exact hg rfl))
      | (refine W_cond rfl (fun hc => ?_) (fun hc => ?_) <;> (try dsimp only at hc) <;> try (exfalso; first | omega | exact hc rfl)))
  · obtain ⟨P, hP⟩ : ∃ P, P = ps[i] := ⟨_, rfl⟩
    obtain ⟨hG, hPb⟩ : P.Good ∧ P.bytes < 9223372036854775808 := hgood P (by rw [hP]; exact List.getElem_mem _)
    have hlt := flat_get ps i hg
    rw [← hP] at hlt
    refine Ev_indexAddr_rd rfl rfl rfl rfl rfl (hav T) hg ?_
    intro q hq
    repeat (
      first
        | refine WO_dst rfl rfl (by kernel_rfl) (by kernel_rfl) ?_
        | refine Ev_load_pt_agg rfl rfl rfl hq (by rw [flat_len]; dsimp only; omega) hlt (PartA.veqs hG) ?_)
    refine Ev_alloc_ rfl hL.ok (by omega) ?_
    intro T2 hn2 hok2 hq2 hf2
    repeat (
      refine WO_no rfl rfl ?_)
    refine Ev_store rfl rfl rfl rfl (PartA.ones hG) hq2 (by simp [PartA.cells, AV.cells]) (by omega) ?_
    intro T3 hn3 hq3 hf3
    have h6 : T3.h.get T.n = some (.cells 40 P.cells false) := by rw [hq3]; rfl
    have hF3' : Fr T T3 .nils 1 := ⟨by omega, by omega, Sok.upd hok2 (by omega) hn3 hq3 hf3, fun c _ h => by rw [hf3 c (by omega), hf2 c h]⟩
    have hL3 := hL.fr hF3'
    have hpT := hL.ok _ _ hL.rr.cell
    have hqT := hL.ok _ _ hL.rq.cell
    repeat (
      first
        | refine W_seq ?_
        | refine WO_nil ?_
        | refine V_seq ?_
        | refine W_region ?_
        | refine WO_dst rfl rfl (by kernel_rfl) (by kernel_rfl) ?_
        | refine Ev_fieldAddr rfl rfl rfl rfl rfl rfl ?_)
    refine Ev_load rfl rfl rfl h6 rfl (veq_int _ _) ?_
    refine WO_nil ?_
    refine V_seq ?_
    refine W_cut (fun l' T' => ∃ r', BM T' p S2.n vb bv full b r' ∧ T'.n ≤ T.n + 1900000 ∧ T.n ≤ T'.n ∧ sub [(8, .int .i64 ((i : Nat) : Int)), (7, .ptr S2.n 0), (6, .ptr p 0), (5, full), (0, bv), (1, av)] l') ?_ ?_
    · repeat' (
        first
          | refine W_seq ?_
          | refine WO_nil ?_
          | refine V_seq ?_
          | refine W_region ?_
          | refine W_skip ?_
          | refine W_block ?_
          | refine V_block ?_
          | refine WO_dst rfl rfl (by kernel_rfl) (by kernel_rfl) ?_
          | refine Ev_move rfl ?_
          | refine Ev_assign rfl ?_
          | refine Ev_eql rfl rfl ?_
          | (refine W_cond rfl (fun hc => ?_) (fun hc => ?_) <;> (try dsimp only at hc) <;> try (exfalso; first | omega | exact hc rfl)))
      · refine W_drawnF [⟨T.n, .cells 40 P.cells false, none⟩] ?_ (by kernel_rfl) ?_
        · intro f hf; rw [List.mem_singleton] at hf; subst hf; exact ⟨rfl, by show T.n < T3.n; omega, h6⟩
        repeat (
          first
            | refine WF_pa rfl rfl (by kernel_rfl) (by kernel_rfl) rfl ?_
            | refine Ev_move rfl ?_
            | refine Ev_fieldAddr rfl rfl rfl rfl rfl rfl ?_)
        refine WF_rs rfl rfl (by kernel_rfl) (by kernel_rfl) (by kernel_rfl) (by kernel_rfl) ?_
        refine Ev_load rfl rfl rfl h6 rfl (veq_int _ _) ?_
        repeat (
          refine W_seq ?_)
        refine WF_ld rfl rfl (by kernel_rfl) (by kernel_rfl) (fun _ _ => rfl) ?_
        refine Ev_call rfl rfl ((rnum_runs hL3.ok hL3.rr (by omega) (by omega) hb).mono ?_)
        rintro _ T4 - ⟨rfl, h4, hF4⟩
        have gn4 := hF4.n
        have h64 : T4.h.get T.n = some (.cells 40 P.cells false) := by rw [hF4.same T.n (by omega)]; exact h6
        refine ⟨?_, [], by simp, ?_⟩
        · intro f hf; rw [List.mem_singleton] at hf; subst hf; exact h64
        repeat (
          first
            | refine WF_pa rfl rfl (by kernel_rfl) (by kernel_rfl) rfl ?_
            | refine Ev_move rfl ?_
            | refine Ev_fieldAddr rfl rfl rfl rfl rfl rfl ?_)
        refine WF_rf rfl rfl (by kernel_rfl) (by kernel_rfl) ?_ (FPD_load (o := 1) rfl rfl rfl (Pt_of h64) rfl (fun b hb => by cases hb; exact ⟨_, List.mem_cons_self .., rfl, h64, fun j hj => by cases hj⟩)) (veq_int _ _) ?_
        · intro f hf; rw [List.append_nil, List.mem_singleton] at hf; subst hf; exact h64
        repeat (
          refine W_seq ?_)
        refine WF_ld rfl rfl (by kernel_rfl) (by kernel_rfl) (fun _ _ => rfl) ?_
        refine Ev_call rfl rfl ((qnum_runs hF4.ok (hL3.rq1 hF4.q) (by omega) (by omega) hb).mono ?_)
        rintro _ T5 - ⟨rfl, h5, hF5⟩
        have gn5 := hF5.n
        have gl5 := hF5.le
        refine ⟨?_, [], by simp, ?_⟩
        · intro f hf; rw [List.append_nil, List.mem_singleton] at hf; subst hf
          show T5.h.get T.n = _
          rw [hF5.same T.n (by omega) (by omega)]; exact h64
        repeat' (
          first
            | refine WF_nil ?_
            | refine WF_pa rfl rfl (by kernel_rfl) (by kernel_rfl) rfl ?_
            | refine V_seq ?_
            | refine W_skip ?_
            | refine V_block ?_
            | refine Ev_neq rfl rfl ?_
            | (refine W_cond rfl (fun hc => ?_) (fun hc => ?_) <;> (try dsimp only at hc) <;> try (exfalso; first | omega | exact hc rfl)))
        exact V_mid ⟨_, hL3.step h4 hF4.q h5 hF5, by omega, by omega, rfl, rfl, rfl, rfl, rfl, rfl, trivial⟩
      · refine Ev_call rfl rfl ((rdtext_runs hL3.ok hL3.rr (by omega) (by omega) hb).mono ?_)
        rintro _ T4 - ⟨rfl, h4, hF4⟩
        have gn4 := hF4.n
        have gl4 := hF4.le
        repeat (
          first
            | refine WO_dst rfl rfl (by kernel_rfl) (by kernel_rfl) ?_
            | refine Ev_move rfl ?_)
        refine Ev_call rfl rfl ((qtext_runs hF4.ok (hL3.rq1 hF4) (by omega) (by omega) hb).mono ?_)
        rintro _ T5 - ⟨rfl, h5, hF5⟩
        have gn5 := hF5.n
        have gl5 := hF5.le
        repeat' (
          first
            | refine WO_nil ?_
            | refine V_seq ?_
            | refine W_skip ?_
            | refine V_block ?_
            | refine WO_dst rfl rfl (by kernel_rfl) (by kernel_rfl) ?_
            | refine Ev_sneq rfl rfl ?_
            | (refine W_cond rfl (fun hc => ?_) (fun hc => ?_) <;> (try dsimp only at hc) <;> try (exfalso; first | omega | exact hc rfl)))
        exact V_mid ⟨_, hL3.step h4 hF4 h5 hF5, by omega, by omega, rfl, rfl, rfl, rfl, rfl, rfl, trivial⟩
      · refine W_drawnF [⟨T.n, .cells 40 P.cells false, none⟩] ?_ (by kernel_rfl) ?_
        · intro f hf; rw [List.mem_singleton] at hf; subst hf; exact ⟨rfl, by show T.n < T3.n; omega, h6⟩
        repeat (
          first
            | refine WF_pa rfl rfl (by kernel_rfl) (by kernel_rfl) rfl ?_
            | refine Ev_move rfl ?_
            | refine Ev_fieldAddr rfl rfl rfl rfl rfl rfl ?_)
        refine WF_rs rfl rfl (by kernel_rfl) (by kernel_rfl) (by kernel_rfl) (by kernel_rfl) ?_
        refine Ev_load rfl rfl rfl h6 rfl (veq_int _ _) ?_
        repeat (
          refine W_seq ?_)
        refine WF_ld rfl rfl (by kernel_rfl) (by kernel_rfl) (fun _ _ => rfl) ?_
        refine Ev_call rfl rfl ((rbytes_runs hL3.ok hL3.rr (by omega) (by omega) hPb).mono ?_)
        rintro u T4 - ⟨r4, u1, hu, h4, ⟨gl4, gn4, gok4, gf4⟩, hu4, hub⟩
        have hF4 : FrQ T3 T4 p 2 := ⟨gl4, gn4, gok4, gf4⟩
        have h64 : T4.h.get T.n = some (.cells 40 P.cells false) := by rw [hF4.same T.n (by omega) (by omega)]; exact h6
        obtain ⟨N, hN1, hN2, hN3⟩ := rd_facts 3 hu4 gok4
        have hu1 : ∀ x ∈ u1, x < 256 := by
          have e : u1 = (r.take b P.bytes.toNat).1 := by rw [← hu]
          rw [e]; exact take_lt hb
        refine ⟨?_, N, hN1, ?_⟩
        · intro f hf; rw [List.mem_singleton] at hf; subst hf; exact h64
        have hD4 : ∀ f ∈ [(⟨T.n, .cells 40 P.cells false, none⟩ : Fct)] ++ N, T4.h.get f.id = some f.x := by
          intro f hf
          rcases List.mem_append.1 hf with hf | hf
          · rw [List.mem_singleton] at hf; subst hf; exact h64
          · exact (hN1 f hf).2.2
        repeat (
          refine W_seq ?_)
        refine WF_rf rfl rfl (by kernel_rfl) (by kernel_rfl) hD4 (FPD_conv rfl rfl rfl rfl rfl rfl rfl hu4 (bytesOf_sbytes hu1) (fun b hb => ?_)) (veq_str _) ?_
        · obtain ⟨f, k1, k2, k3, k4⟩ := hN3 b hb
          exact ⟨f, List.mem_append_right _ k1, k2, k3, fun j hj => by rw [k4] at hj; cases hj; kernel_rfl⟩
        repeat (
          first
            | refine WF_pa rfl rfl (by kernel_rfl) (by kernel_rfl) rfl ?_
            | refine Ev_move rfl ?_
            | refine Ev_fieldAddr rfl rfl rfl rfl rfl rfl ?_)
        refine WF_rf rfl rfl (by kernel_rfl) (by kernel_rfl) hD4 (FPD_load (o := 1) rfl rfl rfl (Pt_of h64) rfl (fun b hb => by cases hb; exact ⟨_, List.mem_cons_self .., rfl, h64, fun j hj => by cases hj⟩)) (veq_int _ _) ?_
        repeat (
          refine W_seq ?_)
        refine WF_ld rfl rfl (by kernel_rfl) (by kernel_rfl) (fun _ _ => rfl) ?_
        refine Ev_call rfl rfl ((qbytes_runs hF4.ok (hL3.rq1 hF4) (by omega) (by omega) hPb).mono ?_)
        rintro w T5 - ⟨h5, hF5, hw5, hwb⟩
        rw [← hu] at h5 hw5
        dsimp only at h5 hw5
        have gn5 := hF5.n
        have gl5 := hF5.le
        refine ⟨?_, [], by simp, ?_⟩
        · intro f hf
          rw [← hD4 f hf]
          rcases List.mem_append.1 hf with hf | hf
          · rw [List.mem_singleton] at hf; subst hf
            exact hF5.same T.n (by omega) (by omega)
          · have k1 := hub _ (hN2 f hf)
            have k2 := (hN1 f hf).2.1
            exact hF5.same _ (by omega) k2
        repeat (
          refine W_seq ?_)
        refine WF_rs rfl rfl (by kernel_rfl) (by kernel_rfl) (by kernel_rfl) (by kernel_rfl) ?_
        refine Ev_conv_to_str rfl rfl rfl rfl rfl rfl rfl hw5 (bytesOf_sbytes hu1) ?_
        repeat' (
          first
            | refine WF_nil ?_
            | refine WF_pa rfl rfl (by kernel_rfl) (by kernel_rfl) rfl ?_
            | refine V_seq ?_
            | refine W_skip ?_
            | refine V_block ?_
            | refine Ev_sneq rfl rfl ?_
            | (refine W_cond rfl (fun hc => ?_) (fun hc => ?_) <;> (try dsimp only at hc) <;> try (exfalso; first | omega | exact hc rfl)))
        exact V_mid ⟨_, hL3.step h4 hF4 h5 hF5, by omega, by omega, rfl, rfl, rfl, rfl, rfl, rfl, trivial⟩
      · refine Ev_call rfl rfl ((fail_runs hL3.ok hL3.rr (by omega)).mono ?_)
        rintro _ T4 - ⟨h4, hF4⟩
        have gn4 := hF4.n
        repeat (
          first
            | refine WO_nil ?_
            | refine V_seq ?_
            | refine W_region ?_
            | refine WO_dst rfl rfl (by kernel_rfl) (by kernel_rfl) ?_
            | refine Ev_move rfl ?_)
        refine Ev_call rfl rfl ((qfail_runs hF4.ok (hL3.rq1 hF4.q) (by omega)).mono ?_)
        rintro _ T5 - ⟨h5, hF5⟩
        have gn5 := hF5.n
        repeat' (
          first
            | refine WO_nil ?_
            | refine V_block ?_)
        exact V_mid ⟨_, hL3.step h4 hF4.q h5 hF5.q, by omega, by omega, rfl, rfl, rfl, rfl, rfl, rfl, trivial⟩
      · exact V_mid ⟨_, hL3, by omega, by omega, rfl, rfl, rfl, rfl, rfl, rfl, trivial⟩
    · rintro l' T5 ⟨r', hL5, gn5, gl5, hs⟩
      refine V_weak hs ?_
      repeat (
        first
          | refine W_seq ?_
          | refine V_seq ?_
          | refine W_region ?_
          | refine WO_dst rfl rfl (by kernel_rfl) (by kernel_rfl) ?_
          | refine Ev_move rfl ?_)
      refine Ev_call rfl rfl ((end_runs hL5.rr).mono ?_)
      rintro _ _ - ⟨rfl, rfl⟩
      repeat (
        first
          | refine W_seq ?_
          | refine WO_nil ?_
          | refine V_seq ?_
          | refine W_region ?_
          | refine WO_dst rfl rfl (by kernel_rfl) (by kernel_rfl) ?_
          | refine Ev_move rfl ?_
          | refine Ev_assign rfl ?_
          | refine Ev_extract rfl rfl ?_)
      refine Ev_call rfl rfl ((qend_runs hL5.rq).mono ?_)
      rintro _ _ - ⟨rfl, rfl⟩
      repeat' (
        first
          | refine W_seq ?_
          | refine WO_nil ?_
          | refine V_seq ?_
          | refine W_region ?_
          | refine WO_dst rfl rfl (by kernel_rfl) (by kernel_rfl) ?_
          | refine WO_guard_t rfl rfl rfl rfl rfl (by kernel_rfl) (by kernel_rfl) ?_
          | refine Ev_move rfl ?_
          | refine Ev_assign rfl ?_
          | refine Ev_extract rfl rfl ?_
          | refine Ev_pick_f rfl rfl rfl ?_
          | refine Ev_neq rfl rfl ?_
          | (refine WO_guard_df rfl rfl rfl rfl rfl (by kernel_rfl) (by kernel_rfl) (fun hg => ?_) (fun hg => ?_) <;> (try dsimp only at hg) <;> try (exfalso; first | omega | exact hg rfl)))
      refine Ev_call rfl rfl ((left_runs (by omega) hL5.rr).mono ?_)
      rintro _ _ - ⟨rfl, rfl⟩
      repeat' (
        first
          | refine WO_dst rfl rfl (by kernel_rfl) (by kernel_rfl) ?_
          | refine WO_guard_t rfl rfl rfl rfl rfl (by kernel_rfl) (by kernel_rfl) ?_
          | refine Ev_move rfl ?_)
      refine Ev_call rfl rfl ((qleft_runs (by omega) hL5.rq).mono ?_)
      rintro _ _ - ⟨rfl, rfl⟩
      repeat' (
        first
          | refine WO_nil ?_
          | refine V_seq ?_
          | refine W_region ?_
          | refine W_skip ?_
          | refine V_block ?_
          | refine WO_dst rfl rfl (by kernel_rfl) (by kernel_rfl) ?_
          | refine WO_guard_t rfl rfl rfl rfl rfl (by kernel_rfl) (by kernel_rfl) ?_
          | refine Ev_move rfl ?_
          | refine Ev_assign rfl ?_
          | refine Ev_pick_f rfl rfl rfl ?_
          | refine Ev_neqN rfl rfl ?_
          | refine Ev_addN rfl rfl (by simp only [lim]; omega) ?_
          | (refine W_cond rfl (fun hc => ?_) (fun hc => ?_) <;> (try dsimp only at hc) <;> try (exfalso; first | omega | exact hc rfl)))
      rename_i T5
      have e1 : T5.n ≤ 2000000 * (i + 1) + 10000 := reads_n _ _ _ gn5 hTn
      have e2 : S3.n ≤ T5.n := by omega
      exact back (i + 1) T5 _ (by omega) ⟨⟨r', hL5⟩, by omega, e1, e2⟩ ⟨rfl, rfl, rfl, rfl, rfl, rfl, trivial⟩
  all_goals
    refine Ev_call rfl rfl ((intact_runs hL.fl (hbv T) (by omega)).mono ?_)
    rintro _ _ - ⟨rfl, rfl⟩
    repeat' (
      first
        | refine WO_dst rfl rfl (by kernel_rfl) (by kernel_rfl) ?_
        | refine WO_guard_t rfl rfl rfl rfl rfl (by kernel_rfl) (by kernel_rfl) ?_
        | refine Ev_move rfl ?_)
    refine Ev_call rfl rfl (known_true ?_)
    repeat (
      first
        | refine WO_nil ?_
        | refine V_seq ?_
        | refine W_ret ?_
        | refine WO_dst rfl rfl (by kernel_rfl) (by kernel_rfl) ?_
        | refine Ev_assign rfl ?_
        | refine Ev_pick_t rfl rfl rfl ?_)
    refine V_done rfl rfl ?_
    rfl
end Go.Proofs.YtnlfcoojlgdgaaaDoor
