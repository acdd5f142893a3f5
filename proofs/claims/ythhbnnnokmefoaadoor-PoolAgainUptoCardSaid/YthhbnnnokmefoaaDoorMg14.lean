/- What the row leans on, part 14: texts one behind the other. No condition. -/
import Derived.Test.YthhbnnnokmefoaaDoorMg13
import Derived.KernelRfl
/- carafelaw3.PoolAgain. -/



namespace Go.Proofs.YthhbnnnokmefoaaDoor
open GX
set_option maxHeartbeats 16000000
theorem textB_lt (s : List Nat) : ∀ b ∈ textB s, b < 256 := by
  unfold textB
  split
  · exact encS_lt
  · simp
theorem textL_lt (s : List Nat) : ∀ b ∈ textL s, b < 256 := by
  intro b hb
  unfold textL at hb
  rcases List.mem_append.1 hb with h | h
  · exact numL_lt _ _ b h
  · exact textB_lt s b h
theorem constL_lt (c : CnA) : ∀ b ∈ constL c, b < 256 := by
  intro b hb
  unfold constL at hb
  rcases List.mem_append.1 hb with h | h
  · exact numL_lt _ _ b h
  · split at h
    · exact numL_lt _ _ b h
    · split at h
      · simp only [List.mem_append] at h
        rcases h with h | h | h <;> exact textL_lt _ b h
      · exact textL_lt _ b h
theorem poolL_lt (cs : List CnA) : ∀ b ∈ poolL cs, b < 256 := by
  intro b hb
  unfold poolL at hb
  rcases List.mem_append.1 hb with h | h
  · exact numL_lt _ _ b h
  · obtain ⟨c, _, hc⟩ := List.mem_flatMap.1 h
    exact constL_lt c b hc
theorem poolL_len (cs : List CnA) : (poolL cs).length ≤ 2 + 800 * cs.length := by
  have := consts_len cs
  unfold poolL
  rw [List.length_append, numL_len]; omega
/-- the right ones among the first of some constants -/
def fineL (l : List CnA) (i : Nat) : List CnA := (l.take i).filter (fun c => decide (rightP c))
theorem fineL_s {l : List CnA} {i : Nat} (h : i < l.length) : fineL l (i + 1) = if rightP l[i] then fineL l i ++ [l[i]] else fineL l i := by
  unfold fineL
  rw [List.take_succ_eq_append_getElem h, List.filter_append]
  by_cases hr : rightP l[i]
  · rw [if_pos hr]; simp [hr]
  · rw [if_neg hr]; simp [hr]
theorem fineL_len (l : List CnA) (i : Nat) : (fineL l i).length ≤ i := by
  have h1 := List.length_filter_le (fun c => decide (rightP c)) (l.take i)
  have h2 : (l.take i).length ≤ i := by rw [List.length_take]; omega
  unfold fineL; omega
theorem fineL_ok {l : List CnA} (hg : ∀ c ∈ l, c.Good) (i : Nat) : ∀ c ∈ fineL l i, c.Good ∧ rightP c := by
  intro c hc
  unfold fineL at hc
  rw [List.mem_filter] at hc
  exact ⟨hg c (List.mem_of_mem_take hc.1), of_decide_eq_true hc.2⟩
theorem pagain_runs {S : St} {av mv : AV} {l : List CnA} {m : List Nat} (hok : Sok S) (hav : ∀ S, Cs S av l) (hgood : ∀ c ∈ l, c.Good) (hmv : ∀ S, Rd S mv 1 (sbytes m) m.length) (hm : ∀ x ∈ m, x < 256) (hml : m.length ≤ 1048576) (hn : S.n ≤ 1000) :
    Runs X1 7 [av, mv] S fun r _ => r = .bool true := by
  refine Runs_fn (m := 62) (by kernel_rfl) Tryd.func7 rfl (by kernel_rfl) (by kernel_rfl) ?_
  repeat' (
    first
      | refine W_seq ?_
      | refine WO_nil ?_
      | refine V_seq ?_
      | refine W_region ?_
      | refine W_block ?_
      | refine WO_dst rfl rfl (by kernel_rfl) (by kernel_rfl) ?_
      | refine Ev_assign rfl ?_)
  refine W_inv (fun a : Nat × AV => [(6, .int .i64 ((a.1 : Nat) : Int)), (5, a.2), (0, av), (1, mv)]) (fun a T => Own T a.2 24 5 (cellsC (fineL l a.1)) (fineL l a.1).length ∧ Sok T ∧ a.1 ≤ l.length ∧ a.1 ≤ 60 ∧ T.n ≤ 40 * a.1 + 1000) (fun a => 61 - a.1) ?_ (0, .nils) ⟨.inl ⟨rfl, rfl, rfl⟩, hok, by omega, by omega, by omega⟩ ⟨rfl, rfl, rfl, rfl, trivial⟩
  rintro ⟨i, v⟩ T ⟨how, hokT, hil, hi, hTn⟩ back
  dsimp only at how hil hi hTn back
  have hfl := fineL_len l i
  repeat' (
    first
      | refine W_seq ?_
      | refine WO_nil ?_
      | refine V_seq ?_
      | refine W_region ?_
      | refine W_block ?_
      | refine W_skip ?_
      | refine W_exit ?_
      | refine V_block_x rfl ?_
      | refine V_seq_x ?_
      | refine V_loop_x ?_
      | refine W_cond_f rfl ?_
      | refine WO_dst rfl rfl (by kernel_rfl) (by kernel_rfl) ?_
      | refine WO_guard_t rfl rfl rfl rfl rfl (by kernel_rfl) (by kernel_rfl) ?_
      | refine WO_guard_f rfl rfl rfl rfl rfl rfl (by kernel_rfl) (by kernel_rfl) ?_
      | refine Ev_len rfl rfl rfl rfl rfl (hav T).len ?_
      | refine Ev_move rfl ?_
      | refine Ev_pick_t rfl rfl rfl ?_
      | refine Ev_pick_f rfl rfl rfl ?_
      | refine Ev_lssN rfl rfl ?_
      | (refine WO_guard_dt rfl rfl rfl rfl rfl (by kernel_rfl) (by kernel_rfl) (fun hg => ?_) (fun hg => ?_) <;> (try dsimp only at hg) <;> try (exfalso; first | omega | exact hg rfl))
      | (refine W_cond rfl (fun hc => ?_) (fun hc => ?_) <;> (try dsimp only at hc) <;> try (exfalso; first | omega | exact hc rfl)))
  · have hlt : i < l.length := by assumption
    have hcg : (l[i]).Good := hgood _ (List.getElem_mem _)
    have hs := fineL_s hlt
    refine Ev_indexAddr_rd rfl rfl rfl rfl rfl (hav T) hlt ?_
    intro q hq
    repeat (
      refine WO_dst rfl rfl (by kernel_rfl) (by kernel_rfl) ?_)
    refine Ev_load_pt_agg rfl rfl rfl hq (by rw [cellsC_len]; dsimp only; omega) (cellsC_get l i hlt) (CnA.veqs _) ?_
    repeat (
      refine WO_dst rfl rfl (by kernel_rfl) (by kernel_rfl) ?_)
    refine Ev_call rfl rfl ((right_runs hokT hcg (by omega)).mono ?_)
    rintro _ T1 - ⟨rfl, hF1⟩
    have gn1 := hF1.n
    have gl1 := hF1.le
    have how1 := how.keep (fun c h => hF1.same c (by simp [blkOf]) (how.lt hokT h))
    repeat' (
      first
        | refine WO_nil ?_
        | refine V_seq ?_
        | refine W_region ?_
        | refine W_skip ?_
        | refine V_block ?_
        | refine WO_dst rfl rfl (by kernel_rfl) (by kernel_rfl) ?_
        | refine Ev_move rfl ?_
        | refine Ev_assign rfl ?_
        | refine Ev_addN rfl rfl (by simp only [lim]; omega) ?_
        | (refine W_cond rfl (fun hc => ?_) (fun hc => ?_) <;> (try dsimp only at hc) <;> try (exfalso; first | omega | exact hc rfl)))
    · have hr : rightP l[i] := by assumption
      rw [if_pos hr] at hs
      refine Ev_indexAddr_rd rfl rfl rfl rfl rfl (hav T1) hlt ?_
      intro q2 hq2
      repeat (
        refine WO_dst rfl rfl (by kernel_rfl) (by kernel_rfl) ?_)
      refine Ev_load_pt_agg rfl rfl rfl hq2 (by rw [cellsC_len]; dsimp only; omega) (cellsC_get l i hlt) (CnA.veqs _) ?_
      repeat (
        refine WO_dst rfl rfl (by kernel_rfl) (by kernel_rfl) ?_)
      refine Ev_buildSlice rfl rfl rfl rfl rfl rfl hF1.ok (by omega) ?_
      intro T2 gn2 gok2 gq2 gf2
      have how2 := how1.keep (fun c h => gf2 c (how1.lt hF1.ok h))
      have hrd : Rd T2 (.slice T1.n 0 1 (.ex 1)) 5 (l[i]).cells 1 := Rd_lit gq2 rfl rfl
      repeat (
        refine WO_dst rfl rfl (by kernel_rfl) (by kernel_rfl) ?_)
      refine Ev_append rfl rfl rfl rfl rfl rfl rfl rfl rfl rfl how2 hrd (CnA.ones l[i]) gok2 (by omega) (by dsimp only; omega) (by omega) ?_
      intro v' T3 h1 h2 h3 h4 h5 h6
      repeat' (
        first
          | refine WO_nil ?_
          | refine V_seq ?_
          | refine W_region ?_
          | refine V_block ?_
          | refine WO_dst rfl rfl (by kernel_rfl) (by kernel_rfl) ?_
          | refine Ev_move rfl ?_
          | refine Ev_assign rfl ?_
          | refine Ev_addN rfl rfl (by simp only [lim]; omega) ?_)
      refine back (i + 1, v') T3 _ (by dsimp only; omega) ⟨?_, h3, hlt, by dsimp only; omega, by dsimp only; omega⟩ ⟨rfl, rfl, rfl, rfl, trivial⟩
      dsimp only
      rw [hs]
      exact h4.eq (by rw [cellsC_app]; simp [cellsC]) (by simp)
    · have hr : ¬ rightP l[i] := by assumption
      rw [if_neg hr] at hs
      refine back (i + 1, v) T1 _ (by dsimp only; omega) ⟨?_, hF1.ok, hlt, by dsimp only; omega, by dsimp only; omega⟩ ⟨rfl, rfl, rfl, rfl, trivial⟩
      dsimp only
      rw [hs]; exact how1
  all_goals
    obtain ⟨cs, hcs⟩ : ∃ cs, cs = fineL l i := ⟨_, rfl⟩
    have hfine := fineL_ok hgood i
    rw [← hcs] at how hfl hfine
    have hpl := poolL_len cs
    refine Ev_call rfl rfl ((new_runs hokT (by omega)).mono ?_)
    rintro _ S1 - ⟨rfl, gn1, gok1, gf1, hw1⟩
    have how1 := how.keep (fun c h => gf1 c (how.lt hokT h))
    have hlw : LW S1 T.n .nils v [] cs := ⟨gok1, hw1, how1.rd, fun e => by have := how.lt hokT e; omega, fun b hb e => by cases e⟩
    repeat' (
      first
        | refine W_seq ?_
        | refine WO_nil ?_
        | refine V_seq ?_
        | refine W_region ?_
        | refine WO_dst rfl rfl (by kernel_rfl) (by kernel_rfl) ?_
        | refine WO_guard_t rfl rfl rfl rfl rfl (by kernel_rfl) (by kernel_rfl) ?_
        | refine Ev_move rfl ?_
        | refine Ev_assign rfl ?_
        | refine Ev_ptr_eql rfl rfl rfl rfl ?_)
    refine Ev_call rfl rfl ((pwrite_runs hlw (fun c hc => (hfine c hc).1) (fun c hc => (hfine c hc).2) (by omega) (by simp) (by omega)).mono ?_)
    rintro _ S2 - ⟨rfl, vb2, h2, hF2⟩
    have gn2 := hF2.n
    repeat' (
      first
        | refine W_seq ?_
        | refine WO_nil ?_
        | refine V_seq ?_
        | refine W_region ?_
        | refine W_skip ?_
        | refine W_cond_f rfl ?_
        | refine WO_dst rfl rfl (by kernel_rfl) (by kernel_rfl) ?_
        | refine WO_guard_t rfl rfl rfl rfl rfl (by kernel_rfl) (by kernel_rfl) ?_
        | refine Ev_move rfl ?_
        | refine Ev_pick_f rfl rfl rfl ?_
        | refine Ev_neqN rfl rfl ?_)
    refine Ev_call rfl rfl ((wbytes_runs h2.ok h2.wr (hmv S2) (by simp only [List.length_append, List.length_nil]; omega) (by omega) (by omega)).mono ?_)
    rintro _ S3 - ⟨vb3, hw3, hF3⟩
    have h3 := h2.wf hF3 hw3
    have gn3 := hF3.n
    repeat (
      first
        | refine W_seq ?_
        | refine WO_nil ?_
        | refine V_seq ?_
        | refine W_region ?_
        | refine WO_dst rfl rfl (by kernel_rfl) (by kernel_rfl) ?_
        | refine Ev_move rfl ?_)
    refine Ev_call rfl rfl ((done_runs hF3.ok hw3 (by simp only [List.length_append, List.length_nil]; omega) (by omega)).mono ?_)
    rintro z S4 - ⟨hF4, hz, hzb⟩
    have h4 := h3.fr hF4
    have gn4 := hF4.n
    repeat (
      refine WO_dst rfl rfl (by kernel_rfl) (by kernel_rfl) ?_)
    refine Ev_call rfl rfl ((newrd_runs hF4.ok hz.rd (by simp only [List.length_append, List.length_nil]; omega) (by omega)).mono ?_)
    rintro _ S5 - ⟨p, vr, rfl, hp1, hp2, hrr, hvr, hF5⟩
    have h5 := h4.fr hF5
    have gn5 := hF5.n
    repeat' (
      first
        | refine W_seq ?_
        | refine WO_nil ?_
        | refine V_seq ?_
        | refine W_region ?_
        | refine W_skip ?_
        | refine W_cond_f rfl ?_
        | refine WO_dst rfl rfl (by kernel_rfl) (by kernel_rfl) ?_
        | refine Ev_move rfl ?_
        | refine Ev_assign rfl ?_
        | refine Ev_ptr_eql rfl rfl rfl rfl ?_)
    obtain ⟨B, hB⟩ : ∃ B, B = [] ++ poolL cs ++ m := ⟨_, rfl⟩
    rw [← hB] at hrr
    have hBl : B.length = (poolL cs).length + m.length := by rw [hB]; simp
    have hBd : B.drop 0 = poolL cs ++ m := by rw [hB]; simp
    have hBlt : ∀ x ∈ B, x < 256 := by
      intro x hx
      rw [hB, List.nil_append] at hx
      exact (List.mem_append.1 hx).elim (poolL_lt cs x) (hm x)
    refine Ev_call rfl rfl ((pread_runs hF5.ok hrr (by omega) hBlt (by decide) (by omega)).mono ?_)
    rintro w S6 - hL
    rw [readS_at hfine (by omega) hBd] at hL
    dsimp only at hL
    have hv6 : Cs S6 v cs := h5.cs.keep (fun c hc => hL.fr.same c (fun e => by have := h4.cs.lt hF4.ok (e ▸ hc); omega) (h5.cs.lt hF5.ok hc))
    repeat' (
      first
        | refine WO_dst rfl rfl (by kernel_rfl) (by kernel_rfl) ?_
        | refine Ev_move rfl ?_)
    refine Ev_call rfl rfl ((csame_runs hL.ow.rd hv6 ⟨by omega, by omega⟩).mono ?_)
    rintro _ S7 - ⟨rfl, hS7⟩
    rw [hS7, decide_eq_true rfl]
    repeat' (
      first
        | refine WO_dst rfl rfl (by kernel_rfl) (by kernel_rfl) ?_
        | refine WO_guard_t rfl rfl rfl rfl rfl (by kernel_rfl) (by kernel_rfl) ?_
        | refine Ev_move rfl ?_)
    refine Ev_call rfl rfl ((left_runs (by omega) hL.rr).mono ?_)
    rintro _ S8 - ⟨hS8, rfl⟩
    rw [hS8]
    have hleft : RdS.left ⟨0 + (poolL cs).length, 0, 0⟩ B = m.length := by
      unfold RdS.left; rw [if_neg (by simp)]; dsimp only; omega
    rw [hleft]
    repeat' (
      first
        | refine WO_dst rfl rfl (by kernel_rfl) (by kernel_rfl) ?_
        | refine WO_guard_t rfl rfl rfl rfl rfl (by kernel_rfl) (by kernel_rfl) ?_
        | refine Ev_len rfl rfl rfl rfl rfl (hmv S6).len ?_
        | refine Ev_move rfl ?_
        | refine Ev_pick_t rfl rfl rfl ?_
        | refine Ev_eqlN rfl rfl ?_
        | (refine WO_guard_dt rfl rfl rfl rfl rfl (by kernel_rfl) (by kernel_rfl) (fun hg => ?_) (fun hg => ?_) <;> (try dsimp only at hg) <;> try (exfalso; first | omega | exact hg rfl)))
    refine Ev_call rfl rfl (known_true ?_)
    repeat' (
      first
        | refine WO_nil ?_
        | refine V_seq ?_
        | refine W_ret ?_
        | refine WO_dst rfl rfl (by kernel_rfl) (by kernel_rfl) ?_
        | refine Ev_assign rfl ?_
        | refine Ev_pick_t rfl rfl rfl ?_)
    refine V_done rfl rfl ?_
    rfl
end Go.Proofs.YthhbnnnokmefoaaDoor
