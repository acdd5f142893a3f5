/- mutf.unit: what it appends to bytes. -/
import Derived.Test.YtnlfcoojlgdgaaaDoorWPure
namespace Go.Proofs.YtnlfcoojlgdgaaaDoor
open GX
set_option maxHeartbeats 4000000
theorem unit_runs {S : St} {v : AV} {l : List Nat} {r : Nat} (hv : Ow S v l) (hok : Sok S) (hn : S.n + 2 ≤ 1000000000) (hl : l.length ≤ 1000000000) (hr : r < 65536) :
    Runs X1 43 [v, .int .i32 (r : Int)] S fun v' S' => Fr S S' v 2 ∧ Ow S' v' (l ++ unitL r) ∧ ∀ c, blkOf v' = some c → blkOf v = some c ∨ S.n ≤ c := by
  refine Runs_fn (m := 47) (by kernel_rfl) Tryd.func43 rfl (by kernel_rfl) (by kernel_rfl) ?_
  repeat' (
    first
      | refine W_seq ?_
      | refine WO_nil ?_
      | refine V_seq ?_
      | refine W_region ?_
      | refine W_drawn (by kernel_rfl) ?_
      | refine W_block ?_
      | refine W_scope ?_
      | refine W_skip ?_
      | refine W_ret ?_
      | refine W_exit ?_
      | refine W_label ?_
      | refine V_ret ?_
      | refine V_block ?_
      | refine V_block_x rfl ?_
      | refine V_block_y rfl ?_
      | refine V_seq_x ?_
      | refine V_loop_x ?_
      | refine W_cond_t rfl ?_
      | refine W_cond_f rfl ?_
      | refine WO_dst rfl rfl (by kernel_rfl) (by kernel_rfl) ?_
      | refine WO_no rfl rfl ?_
      | refine WO_guard_t rfl rfl rfl rfl rfl (by kernel_rfl) (by kernel_rfl) ?_
      | refine WO_guard_f rfl rfl rfl rfl rfl rfl (by kernel_rfl) (by kernel_rfl) ?_
      | refine WO_guard_x rfl rfl rfl rfl rfl (by kernel_rfl) (by kernel_rfl) ?_
      | refine Ev_move rfl ?_
      | refine Ev_assign rfl ?_
      | refine Ev_extract rfl rfl ?_
      | refine Ev_pick_t rfl rfl rfl ?_
      | refine Ev_pick_f rfl rfl rfl ?_
      | refine Ev_lssN rfl rfl ?_
      | refine Ev_leqN rfl rfl ?_
      | refine Ev_gtrN rfl rfl ?_
      | refine Ev_geqN rfl rfl ?_
      | refine Ev_eqlN rfl rfl ?_
      | refine Ev_neqN rfl rfl ?_
      | refine Ev_lss rfl rfl ?_
      | refine Ev_leq rfl rfl ?_
      | refine Ev_gtr rfl rfl ?_
      | refine Ev_geq rfl rfl ?_
      | refine Ev_eql rfl rfl ?_
      | refine Ev_neq rfl rfl ?_
      | refine Ev_seql rfl rfl ?_
      | refine Ev_sneq rfl rfl ?_
      | refine Ev_not rfl ?_
      | refine Ev_notb rfl ?_
      | refine Ev_nilCheck rfl ?_
      | refine Ev_fieldAddr rfl rfl rfl rfl rfl rfl ?_
      | refine Ev_len_str rfl rfl rfl rfl rfl ?_
      | refine Ev_len rfl rfl rfl rfl rfl rfl ?_
      | refine Ev_min rfl rfl rfl ?_
      | refine Ev_max rfl rfl rfl ?_
      | refine Ev_indexAddr rfl rfl rfl rfl rfl (by first | omega | (dsimp only; done) | (dsimp only; omega)) ?_
      | refine Ev_makeFunc rfl rfl ?_
      | refine Ev_conv_str rfl rfl rfl rfl rfl ?_
      | refine Ev_addN rfl rfl (by simp only [lim]; omega) ?_
      | refine Ev_subN rfl rfl (by simp only [lim]; omega) (by first | omega | (dsimp only; done) | (dsimp only; omega)) ?_
      | refine Ev_mulN rfl rfl (by simp only [lim]; omega) ?_
      | refine Ev_add rfl rfl (by simp only [inR]; omega) ?_
      | refine Ev_sub rfl rfl (by simp only [inR]; omega) ?_
      | refine Ev_mul rfl rfl (by simp only [inR]; omega) ?_
      | refine Ev_shrN (m := 6) (q := 64) rfl rfl rfl rfl ?_
      | refine Ev_shrN (m := 12) (q := 4096) rfl rfl rfl rfl ?_
      | refine Ev_shrN (m := 10) (q := 1024) rfl rfl rfl rfl ?_
      | refine Ev_shrN (m := 8) (q := 256) rfl rfl rfl rfl ?_
      | refine Ev_shrN (m := 4) (q := 16) rfl rfl rfl rfl ?_
      | refine Ev_shrN (m := 5) (q := 32) rfl rfl rfl rfl ?_
      | refine Ev_shrN (m := 7) (q := 128) rfl rfl rfl rfl ?_
      | refine Ev_shrN (m := 3) (q := 8) rfl rfl rfl rfl ?_
      | refine Ev_shrN (m := 18) (q := 262144) rfl rfl rfl rfl ?_
      | refine Ev_shlN (m := 6) (q := 64) rfl rfl rfl rfl (by simp only [lim]; omega) ?_
      | refine Ev_shlN (m := 12) (q := 4096) rfl rfl rfl rfl (by simp only [lim]; omega) ?_
      | refine Ev_shlN (m := 10) (q := 1024) rfl rfl rfl rfl (by simp only [lim]; omega) ?_
      | refine Ev_shlN (m := 8) (q := 256) rfl rfl rfl rfl (by simp only [lim]; omega) ?_
      | refine Ev_andN 3 8 rfl rfl rfl rfl (by simp only [lim]; omega) (by simp only [lim]; omega) ?_
      | refine Ev_andN 4 16 rfl rfl rfl rfl (by simp only [lim]; omega) (by simp only [lim]; omega) ?_
      | refine Ev_andN 5 32 rfl rfl rfl rfl (by simp only [lim]; omega) (by simp only [lim]; omega) ?_
      | refine Ev_andN 6 64 rfl rfl rfl rfl (by simp only [lim]; omega) (by simp only [lim]; omega) ?_
      | refine Ev_andN 10 1024 rfl rfl rfl rfl (by simp only [lim]; omega) (by simp only [lim]; omega) ?_
      | refine Ev_orN 4 rfl rfl rfl (by first | omega | (dsimp only; done) | (dsimp only; omega)) (by first | omega | (dsimp only; done) | (dsimp only; omega)) (by simp only [lim]; omega) ?_
      | refine Ev_orN 5 rfl rfl rfl (by first | omega | (dsimp only; done) | (dsimp only; omega)) (by first | omega | (dsimp only; done) | (dsimp only; omega)) (by simp only [lim]; omega) ?_
      | refine Ev_orN 6 rfl rfl rfl (by first | omega | (dsimp only; done) | (dsimp only; omega)) (by first | omega | (dsimp only; done) | (dsimp only; omega)) (by simp only [lim]; omega) ?_
      | refine Ev_orN 10 rfl rfl rfl (by first | omega | (dsimp only; done) | (dsimp only; omega)) (by first | omega | (dsimp only; done) | (dsimp only; omega)) (by simp only [lim]; omega) ?_
      | refine Ev_orN 12 rfl rfl rfl (by first | omega | (dsimp only; done) | (dsimp only; omega)) (by first | omega | (dsimp only; done) | (dsimp only; omega)) (by simp only [lim]; omega) ?_
      | refine Ev_orN 16 rfl rfl rfl (by first | omega | (dsimp only; done) | (dsimp only; omega)) (by first | omega | (dsimp only; done) | (dsimp only; omega)) (by simp only [lim]; omega) ?_
      | refine Ev_convN rfl rfl rfl rfl rfl (by simp only [lim]; omega) ?_
      | refine Ev_and8 rfl rfl (by first | omega | (dsimp only; done) | (dsimp only; omega)) (by first | omega | (dsimp only; done) | (dsimp only; omega)) (land_192 (by first | omega | (dsimp only; done) | (dsimp only; omega))) (by first | omega | (dsimp only; done) | (dsimp only; omega)) ?_
      | refine Ev_and8 rfl rfl (by first | omega | (dsimp only; done) | (dsimp only; omega)) (by first | omega | (dsimp only; done) | (dsimp only; omega)) (land_224 (by first | omega | (dsimp only; done) | (dsimp only; omega))) (by first | omega | (dsimp only; done) | (dsimp only; omega)) ?_
      | refine Ev_and8 rfl rfl (by first | omega | (dsimp only; done) | (dsimp only; omega)) (by first | omega | (dsimp only; done) | (dsimp only; omega)) (land_240 (by first | omega | (dsimp only; done) | (dsimp only; omega))) (by first | omega | (dsimp only; done) | (dsimp only; omega)) ?_
      | refine Ev_shr rfl rfl rfl rfl ?_
      | refine Ev_conv rfl rfl rfl rfl rfl (by simp only [inR]; omega) ?_
      | refine Ev_conv8 rfl rfl rfl rfl rfl ?_
      | (refine WO_guard_dt rfl rfl rfl rfl rfl (by kernel_rfl) (by kernel_rfl) (fun hg => ?_) (fun hg => ?_) <;> (try dsimp only at hg) <;> try (exfalso; omega))
      | (refine WO_guard_df rfl rfl rfl rfl rfl (by kernel_rfl) (by kernel_rfl) (fun hg => ?_) (fun hg => ?_) <;> (try dsimp only at hg) <;> try (exfalso; omega))
      | (refine W_cond rfl (fun hc => ?_) (fun hc => ?_) <;> (try dsimp only at hc) <;> try (exfalso; omega)))
  all_goals
    refine Ev_buildSlice rfl rfl rfl rfl rfl rfl hok (by omega) ?_
    intro S1 hn1 hok1 hq1 hf1
    repeat (
      first
        | refine W_seq ?_
        | refine WO_nil ?_
        | refine V_seq ?_
        | refine W_region ?_
        | refine W_drawn (by kernel_rfl) ?_
        | refine W_block ?_
        | refine W_scope ?_
        | refine W_skip ?_
        | refine W_ret ?_
        | refine W_exit ?_
        | refine W_label ?_
        | refine V_ret ?_
        | refine V_block ?_
        | refine V_block_x rfl ?_
        | refine V_block_y rfl ?_
        | refine V_seq_x ?_
        | refine V_loop_x ?_
        | refine W_cond_t rfl ?_
        | refine W_cond_f rfl ?_
        | refine WO_dst rfl rfl (by kernel_rfl) (by kernel_rfl) ?_
        | refine WO_no rfl rfl ?_
        | refine WO_guard_t rfl rfl rfl rfl rfl (by kernel_rfl) (by kernel_rfl) ?_
        | refine WO_guard_f rfl rfl rfl rfl rfl rfl (by kernel_rfl) (by kernel_rfl) ?_
        | refine WO_guard_x rfl rfl rfl rfl rfl (by kernel_rfl) (by kernel_rfl) ?_
        | refine Ev_move rfl ?_
        | refine Ev_assign rfl ?_
        | refine Ev_extract rfl rfl ?_
        | refine Ev_pick_t rfl rfl rfl ?_
        | refine Ev_pick_f rfl rfl rfl ?_
        | refine Ev_lssN rfl rfl ?_
        | refine Ev_leqN rfl rfl ?_
        | refine Ev_gtrN rfl rfl ?_
        | refine Ev_geqN rfl rfl ?_
        | refine Ev_eqlN rfl rfl ?_
        | refine Ev_neqN rfl rfl ?_
        | refine Ev_lss rfl rfl ?_
        | refine Ev_leq rfl rfl ?_
        | refine Ev_gtr rfl rfl ?_
        | refine Ev_geq rfl rfl ?_
        | refine Ev_eql rfl rfl ?_
        | refine Ev_neq rfl rfl ?_
        | refine Ev_seql rfl rfl ?_
        | refine Ev_sneq rfl rfl ?_
        | refine Ev_not rfl ?_
        | refine Ev_notb rfl ?_
        | refine Ev_nilCheck rfl ?_
        | refine Ev_fieldAddr rfl rfl rfl rfl rfl rfl ?_
        | refine Ev_len_str rfl rfl rfl rfl rfl ?_
        | refine Ev_len rfl rfl rfl rfl rfl rfl ?_
        | refine Ev_min rfl rfl rfl ?_
        | refine Ev_max rfl rfl rfl ?_
        | refine Ev_indexAddr rfl rfl rfl rfl rfl (by first | omega | (dsimp only; done) | (dsimp only; omega)) ?_
        | refine Ev_makeFunc rfl rfl ?_
        | refine Ev_conv_str rfl rfl rfl rfl rfl ?_
        | refine Ev_addN rfl rfl (by simp only [lim]; omega) ?_
        | refine Ev_subN rfl rfl (by simp only [lim]; omega) (by first | omega | (dsimp only; done) | (dsimp only; omega)) ?_
        | refine Ev_mulN rfl rfl (by simp only [lim]; omega) ?_
        | refine Ev_add rfl rfl (by simp only [inR]; omega) ?_
        | refine Ev_sub rfl rfl (by simp only [inR]; omega) ?_
        | refine Ev_mul rfl rfl (by simp only [inR]; omega) ?_
        | refine Ev_shrN (m := 6) (q := 64) rfl rfl rfl rfl ?_
        | refine Ev_shrN (m := 12) (q := 4096) rfl rfl rfl rfl ?_
        | refine Ev_shrN (m := 10) (q := 1024) rfl rfl rfl rfl ?_
        | refine Ev_shrN (m := 8) (q := 256) rfl rfl rfl rfl ?_
        | refine Ev_shrN (m := 4) (q := 16) rfl rfl rfl rfl ?_
        | refine Ev_shrN (m := 5) (q := 32) rfl rfl rfl rfl ?_
        | refine Ev_shrN (m := 7) (q := 128) rfl rfl rfl rfl ?_
        | refine Ev_shrN (m := 3) (q := 8) rfl rfl rfl rfl ?_
        | refine Ev_shrN (m := 18) (q := 262144) rfl rfl rfl rfl ?_
        | refine Ev_shlN (m := 6) (q := 64) rfl rfl rfl rfl (by simp only [lim]; omega) ?_
        | refine Ev_shlN (m := 12) (q := 4096) rfl rfl rfl rfl (by simp only [lim]; omega) ?_
        | refine Ev_shlN (m := 10) (q := 1024) rfl rfl rfl rfl (by simp only [lim]; omega) ?_
        | refine Ev_shlN (m := 8) (q := 256) rfl rfl rfl rfl (by simp only [lim]; omega) ?_
        | refine Ev_andN 3 8 rfl rfl rfl rfl (by simp only [lim]; omega) (by simp only [lim]; omega) ?_
        | refine Ev_andN 4 16 rfl rfl rfl rfl (by simp only [lim]; omega) (by simp only [lim]; omega) ?_
        | refine Ev_andN 5 32 rfl rfl rfl rfl (by simp only [lim]; omega) (by simp only [lim]; omega) ?_
        | refine Ev_andN 6 64 rfl rfl rfl rfl (by simp only [lim]; omega) (by simp only [lim]; omega) ?_
        | refine Ev_andN 10 1024 rfl rfl rfl rfl (by simp only [lim]; omega) (by simp only [lim]; omega) ?_
        | refine Ev_orN 4 rfl rfl rfl (by first | omega | (dsimp only; done) | (dsimp only; omega)) (by first | omega | (dsimp only; done) | (dsimp only; omega)) (by simp only [lim]; omega) ?_
        | refine Ev_orN 5 rfl rfl rfl (by first | omega | (dsimp only; done) | (dsimp only; omega)) (by first | omega | (dsimp only; done) | (dsimp only; omega)) (by simp only [lim]; omega) ?_
        | refine Ev_orN 6 rfl rfl rfl (by first | omega | (dsimp only; done) | (dsimp only; omega)) (by first | omega | (dsimp only; done) | (dsimp only; omega)) (by simp only [lim]; omega) ?_
        | refine Ev_orN 10 rfl rfl rfl (by first | omega | (dsimp only; done) | (dsimp only; omega)) (by first | omega | (dsimp only; done) | (dsimp only; omega)) (by simp only [lim]; omega) ?_
        | refine Ev_orN 12 rfl rfl rfl (by first | omega | (dsimp only; done) | (dsimp only; omega)) (by first | omega | (dsimp only; done) | (dsimp only; omega)) (by simp only [lim]; omega) ?_
        | refine Ev_orN 16 rfl rfl rfl (by first | omega | (dsimp only; done) | (dsimp only; omega)) (by first | omega | (dsimp only; done) | (dsimp only; omega)) (by simp only [lim]; omega) ?_
        | refine Ev_convN rfl rfl rfl rfl rfl (by simp only [lim]; omega) ?_
        | refine Ev_and8 rfl rfl (by first | omega | (dsimp only; done) | (dsimp only; omega)) (by first | omega | (dsimp only; done) | (dsimp only; omega)) (land_192 (by first | omega | (dsimp only; done) | (dsimp only; omega))) (by first | omega | (dsimp only; done) | (dsimp only; omega)) ?_
        | refine Ev_and8 rfl rfl (by first | omega | (dsimp only; done) | (dsimp only; omega)) (by first | omega | (dsimp only; done) | (dsimp only; omega)) (land_224 (by first | omega | (dsimp only; done) | (dsimp only; omega))) (by first | omega | (dsimp only; done) | (dsimp only; omega)) ?_
        | refine Ev_and8 rfl rfl (by first | omega | (dsimp only; done) | (dsimp only; omega)) (by first | omega | (dsimp only; done) | (dsimp only; omega)) (land_240 (by first | omega | (dsimp only; done) | (dsimp only; omega))) (by first | omega | (dsimp only; done) | (dsimp only; omega)) ?_
        | refine Ev_shr rfl rfl rfl rfl ?_
        | refine Ev_conv rfl rfl rfl rfl rfl (by simp only [inR]; omega) ?_
        | refine Ev_conv8 rfl rfl rfl rfl rfl ?_)
    refine Ev_append rfl rfl rfl rfl rfl rfl rfl rfl rfl rfl (hv.keep (fun b hb => hf1 b (hv.lt hok hb))) (Rd_lit hq1 rfl (by kernel_rfl)) rfl hok1 (by omega) (by dsimp only; omega) (by omega) ?_
    intro v2 S2 hle2 hn2 hok2 hown2 hf2 hb2
    repeat (
      first
        | refine W_seq ?_
        | refine WO_nil ?_
        | refine V_seq ?_
        | refine W_region ?_
        | refine W_drawn (by kernel_rfl) ?_
        | refine W_block ?_
        | refine W_scope ?_
        | refine W_skip ?_
        | refine W_ret ?_
        | refine W_exit ?_
        | refine W_label ?_
        | refine V_ret ?_
        | refine V_block ?_
        | refine V_block_x rfl ?_
        | refine V_block_y rfl ?_
        | refine V_seq_x ?_
        | refine V_loop_x ?_
        | refine W_cond_t rfl ?_
        | refine W_cond_f rfl ?_
        | refine WO_dst rfl rfl (by kernel_rfl) (by kernel_rfl) ?_
        | refine WO_no rfl rfl ?_
        | refine WO_guard_t rfl rfl rfl rfl rfl (by kernel_rfl) (by kernel_rfl) ?_
        | refine WO_guard_f rfl rfl rfl rfl rfl rfl (by kernel_rfl) (by kernel_rfl) ?_
        | refine WO_guard_x rfl rfl rfl rfl rfl (by kernel_rfl) (by kernel_rfl) ?_
        | refine Ev_move rfl ?_
        | refine Ev_assign rfl ?_
        | refine Ev_extract rfl rfl ?_
        | refine Ev_pick_t rfl rfl rfl ?_
        | refine Ev_pick_f rfl rfl rfl ?_
        | refine Ev_lssN rfl rfl ?_
        | refine Ev_leqN rfl rfl ?_
        | refine Ev_gtrN rfl rfl ?_
        | refine Ev_geqN rfl rfl ?_
        | refine Ev_eqlN rfl rfl ?_
        | refine Ev_neqN rfl rfl ?_
        | refine Ev_lss rfl rfl ?_
        | refine Ev_leq rfl rfl ?_
        | refine Ev_gtr rfl rfl ?_
        | refine Ev_geq rfl rfl ?_
        | refine Ev_eql rfl rfl ?_
        | refine Ev_neq rfl rfl ?_
        | refine Ev_seql rfl rfl ?_
        | refine Ev_sneq rfl rfl ?_
        | refine Ev_not rfl ?_
        | refine Ev_notb rfl ?_
        | refine Ev_nilCheck rfl ?_
        | refine Ev_fieldAddr rfl rfl rfl rfl rfl rfl ?_
        | refine Ev_len_str rfl rfl rfl rfl rfl ?_
        | refine Ev_len rfl rfl rfl rfl rfl rfl ?_
        | refine Ev_min rfl rfl rfl ?_
        | refine Ev_max rfl rfl rfl ?_
        | refine Ev_indexAddr rfl rfl rfl rfl rfl (by first | omega | (dsimp only; done) | (dsimp only; omega)) ?_
        | refine Ev_makeFunc rfl rfl ?_
        | refine Ev_conv_str rfl rfl rfl rfl rfl ?_
        | refine Ev_addN rfl rfl (by simp only [lim]; omega) ?_
        | refine Ev_subN rfl rfl (by simp only [lim]; omega) (by first | omega | (dsimp only; done) | (dsimp only; omega)) ?_
        | refine Ev_mulN rfl rfl (by simp only [lim]; omega) ?_
        | refine Ev_add rfl rfl (by simp only [inR]; omega) ?_
        | refine Ev_sub rfl rfl (by simp only [inR]; omega) ?_
        | refine Ev_mul rfl rfl (by simp only [inR]; omega) ?_
        | refine Ev_shrN (m := 6) (q := 64) rfl rfl rfl rfl ?_
        | refine Ev_shrN (m := 12) (q := 4096) rfl rfl rfl rfl ?_
        | refine Ev_shrN (m := 10) (q := 1024) rfl rfl rfl rfl ?_
        | refine Ev_shrN (m := 8) (q := 256) rfl rfl rfl rfl ?_
        | refine Ev_shrN (m := 4) (q := 16) rfl rfl rfl rfl ?_
        | refine Ev_shrN (m := 5) (q := 32) rfl rfl rfl rfl ?_
        | refine Ev_shrN (m := 7) (q := 128) rfl rfl rfl rfl ?_
        | refine Ev_shrN (m := 3) (q := 8) rfl rfl rfl rfl ?_
        | refine Ev_shrN (m := 18) (q := 262144) rfl rfl rfl rfl ?_
        | refine Ev_shlN (m := 6) (q := 64) rfl rfl rfl rfl (by simp only [lim]; omega) ?_
        | refine Ev_shlN (m := 12) (q := 4096) rfl rfl rfl rfl (by simp only [lim]; omega) ?_
        | refine Ev_shlN (m := 10) (q := 1024) rfl rfl rfl rfl (by simp only [lim]; omega) ?_
        | refine Ev_shlN (m := 8) (q := 256) rfl rfl rfl rfl (by simp only [lim]; omega) ?_
        | refine Ev_andN 3 8 rfl rfl rfl rfl (by simp only [lim]; omega) (by simp only [lim]; omega) ?_
        | refine Ev_andN 4 16 rfl rfl rfl rfl (by simp only [lim]; omega) (by simp only [lim]; omega) ?_
        | refine Ev_andN 5 32 rfl rfl rfl rfl (by simp only [lim]; omega) (by simp only [lim]; omega) ?_
        | refine Ev_andN 6 64 rfl rfl rfl rfl (by simp only [lim]; omega) (by simp only [lim]; omega) ?_
        | refine Ev_andN 10 1024 rfl rfl rfl rfl (by simp only [lim]; omega) (by simp only [lim]; omega) ?_
        | refine Ev_orN 4 rfl rfl rfl (by first | omega | (dsimp only; done) | (dsimp only; omega)) (by first | omega | (dsimp only; done) | (dsimp only; omega)) (by simp only [lim]; omega) ?_
        | refine Ev_orN 5 rfl rfl rfl (by first | omega | (dsimp only; done) | (dsimp only; omega)) (by first | omega | (dsimp only; done) | (dsimp only; omega)) (by simp only [lim]; omega) ?_
        | refine Ev_orN 6 rfl rfl rfl (by first | omega | (dsimp only; done) | (dsimp only; omega)) (by first | omega | (dsimp only; done) | (dsimp only; omega)) (by simp only [lim]; omega) ?_
        | refine Ev_orN 10 rfl rfl rfl (by first | omega | (dsimp only; done) | (dsimp only; omega)) (by first | omega | (dsimp only; done) | (dsimp only; omega)) (by simp only [lim]; omega) ?_
        | refine Ev_orN 12 rfl rfl rfl (by first | omega | (dsimp only; done) | (dsimp only; omega)) (by first | omega | (dsimp only; done) | (dsimp only; omega)) (by simp only [lim]; omega) ?_
        | refine Ev_orN 16 rfl rfl rfl (by first | omega | (dsimp only; done) | (dsimp only; omega)) (by first | omega | (dsimp only; done) | (dsimp only; omega)) (by simp only [lim]; omega) ?_
        | refine Ev_convN rfl rfl rfl rfl rfl (by simp only [lim]; omega) ?_
        | refine Ev_and8 rfl rfl (by first | omega | (dsimp only; done) | (dsimp only; omega)) (by first | omega | (dsimp only; done) | (dsimp only; omega)) (land_192 (by first | omega | (dsimp only; done) | (dsimp only; omega))) (by first | omega | (dsimp only; done) | (dsimp only; omega)) ?_
        | refine Ev_and8 rfl rfl (by first | omega | (dsimp only; done) | (dsimp only; omega)) (by first | omega | (dsimp only; done) | (dsimp only; omega)) (land_224 (by first | omega | (dsimp only; done) | (dsimp only; omega))) (by first | omega | (dsimp only; done) | (dsimp only; omega)) ?_
        | refine Ev_and8 rfl rfl (by first | omega | (dsimp only; done) | (dsimp only; omega)) (by first | omega | (dsimp only; done) | (dsimp only; omega)) (land_240 (by first | omega | (dsimp only; done) | (dsimp only; omega))) (by first | omega | (dsimp only; done) | (dsimp only; omega)) ?_
        | refine Ev_shr rfl rfl rfl rfl ?_
        | refine Ev_conv rfl rfl rfl rfl rfl (by simp only [inR]; omega) ?_
        | refine Ev_conv8 rfl rfl rfl rfl rfl ?_)
    refine V_done rfl rfl ?_
    refine ⟨⟨by omega, by omega, hok2, fun c h1 h2 => by rw [hf2 c h1 (by omega), hf1 c h2]⟩, ?_, fun c hc => (hb2 c hc).imp id (fun h => by omega)⟩
    refine hown2.eq ?_ ?_
    · simp [sbytes, unitL, *] <;> rfl
    · simp [unitL, *]
end Go.Proofs.YtnlfcoojlgdgaaaDoor
