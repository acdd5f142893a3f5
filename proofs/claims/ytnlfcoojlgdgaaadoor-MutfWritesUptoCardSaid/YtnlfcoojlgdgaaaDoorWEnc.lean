/- mutf.Encode: what it answers. -/
import Derived.Test.YtnlfcoojlgdgaaaDoorWUnit
namespace Go.Proofs.YtnlfcoojlgdgaaaDoor
open GX
set_option maxHeartbeats 4000000
theorem valid_runs {s : List Nat} {S : St} (hl : s.length < 9223372036854775808) {R : AV → St → Prop} (h : R (.bool (vS s)) S) : Runs X1 42 [.str s] S R :=
  Runs_ext (g := extValid) rfl (by unfold extValid; dsimp only; rw [nblt, decide_eq_true hl]; rfl) (Nat.le_refl _) h
structure EncR (S0 : St) (s : List Nat) (r : AV) (S' : St) : Prop where
  fr : Fr S0 S' .nils (4 * s.length + 1)
  out : ∃ v, r = .tup [v, .int .i64 (if vS s = true then 0 else 12)] ∧ Ow S' v (if vS s = true then encS s else []) ∧ ∀ c, blkOf v = some c → S0.n ≤ c
structure EncI (S : St) (s : List Nat) (a : Nat × AV × List Nat) (T : St) : Prop where
  le : a.1 ≤ s.length
  ok : Sok T
  it : T.h.get S.n = some (.sit s a.1)
  ow : Ow T a.2.1 a.2.2
  eq : a.2.2 ++ encS (s.drop a.1) = encS s
  len : a.2.2.length ≤ 6 * a.1
  lt : S.n < T.n
  n : T.n + 4 * (s.length - a.1) ≤ S.n + (4 * s.length + 1)
  fr : ∀ c, c < S.n → T.h.get c = S.h.get c
  bk : ∀ c, blkOf a.2.1 = some c → S.n < c
theorem enc_runs {S : St} {s : List Nat} (hok : Sok S) (hl : s.length ≤ 100000000) (hn : S.n + (4 * s.length + 1) ≤ 1000000000) : Runs X1 11 [.str s] S (EncR S s) := by
  refine Runs_fn (m := 31) (by kernel_rfl) Tryd.func11 rfl (by kernel_rfl) (by kernel_rfl) ?_
  repeat (
    first
      | refine W_seq ?_
      | refine WO_nil ?_
      | refine V_seq ?_
      | refine W_region ?_
      | refine W_drawn (by kernel_rfl) ?_
      | refine W_block ?_
      | refine W_scope ?_
      | refine W_skip ?_
      | refine W_ret ?_
      | refine W_exit ?_
      | refine W_label ?_
      | refine V_ret ?_
      | refine V_block ?_
      | refine V_block_x rfl ?_
      | refine V_block_y rfl ?_
      | refine V_seq_x ?_
      | refine V_loop_x ?_
      | refine W_cond_t rfl ?_
      | refine W_cond_f rfl ?_
      | refine WO_dst rfl rfl (by kernel_rfl) (by kernel_rfl) ?_
      | refine WO_no rfl rfl ?_
      | refine WO_guard_t rfl rfl rfl rfl rfl (by kernel_rfl) (by kernel_rfl) ?_
      | refine WO_guard_f rfl rfl rfl rfl rfl rfl (by kernel_rfl) (by kernel_rfl) ?_
      | refine WO_guard_x rfl rfl rfl rfl rfl (by kernel_rfl) (by kernel_rfl) ?_
      | refine Ev_move rfl ?_
      | refine Ev_assign rfl ?_
      | refine Ev_extract rfl rfl ?_
      | refine Ev_pick_t rfl rfl rfl ?_
      | refine Ev_pick_f rfl rfl rfl ?_
      | refine Ev_lssN rfl rfl ?_
      | refine Ev_leqN rfl rfl ?_
      | refine Ev_gtrN rfl rfl ?_
      | refine Ev_geqN rfl rfl ?_
      | refine Ev_eqlN rfl rfl ?_
      | refine Ev_neqN rfl rfl ?_
      | refine Ev_lss rfl rfl ?_
      | refine Ev_leq rfl rfl ?_
      | refine Ev_gtr rfl rfl ?_
      | refine Ev_geq rfl rfl ?_
      | refine Ev_eql rfl rfl ?_
      | refine Ev_neq rfl rfl ?_
      | refine Ev_seql rfl rfl ?_
      | refine Ev_sneq rfl rfl ?_
      | refine Ev_not rfl ?_
      | refine Ev_notb rfl ?_
      | refine Ev_nilCheck rfl ?_
      | refine Ev_fieldAddr rfl rfl rfl rfl rfl rfl ?_
      | refine Ev_len_str rfl rfl rfl rfl rfl ?_
      | refine Ev_len rfl rfl rfl rfl rfl rfl ?_
      | refine Ev_min rfl rfl rfl ?_
      | refine Ev_max rfl rfl rfl ?_
      | refine Ev_indexAddr rfl rfl rfl rfl rfl (by first | omega | (dsimp only; done) | (dsimp only; omega)) ?_
      | refine Ev_makeFunc rfl rfl ?_
      | refine Ev_conv_str rfl rfl rfl rfl rfl ?_
      | refine Ev_addN rfl rfl (by simp only [lim]; omega) ?_
      | refine Ev_subN rfl rfl (by simp only [lim]; omega) (by first | omega | (dsimp only; done) | (dsimp only; omega)) ?_
      | refine Ev_mulN rfl rfl (by simp only [lim]; omega) ?_
      | refine Ev_add rfl rfl (by simp only [inR]; omega) ?_
      | refine Ev_sub rfl rfl (by simp only [inR]; omega) ?_
      | refine Ev_mul rfl rfl (by simp only [inR]; omega) ?_
      | refine Ev_shrN (m := 6) (q := 64) rfl rfl rfl rfl ?_
      | refine Ev_shrN (m := 12) (q := 4096) rfl rfl rfl rfl ?_
      | refine Ev_shrN (m := 10) (q := 1024) rfl rfl rfl rfl ?_
      | refine Ev_shrN (m := 8) (q := 256) rfl rfl rfl rfl ?_
      | refine Ev_shrN (m := 4) (q := 16) rfl rfl rfl rfl ?_
      | refine Ev_shrN (m := 5) (q := 32) rfl rfl rfl rfl ?_
      | refine Ev_shrN (m := 7) (q := 128) rfl rfl rfl rfl ?_
      | refine Ev_shrN (m := 3) (q := 8) rfl rfl rfl rfl ?_
      | refine Ev_shrN (m := 18) (q := 262144) rfl rfl rfl rfl ?_
      | refine Ev_shlN (m := 6) (q := 64) rfl rfl rfl rfl (by simp only [lim]; omega) ?_
      | refine Ev_shlN (m := 12) (q := 4096) rfl rfl rfl rfl (by simp only [lim]; omega) ?_
      | refine Ev_shlN (m := 10) (q := 1024) rfl rfl rfl rfl (by simp only [lim]; omega) ?_
      | refine Ev_shlN (m := 8) (q := 256) rfl rfl rfl rfl (by simp only [lim]; omega) ?_
      | refine Ev_andN 3 8 rfl rfl rfl rfl (by simp only [lim]; omega) (by simp only [lim]; omega) ?_
      | refine Ev_andN 4 16 rfl rfl rfl rfl (by simp only [lim]; omega) (by simp only [lim]; omega) ?_
      | refine Ev_andN 5 32 rfl rfl rfl rfl (by simp only [lim]; omega) (by simp only [lim]; omega) ?_
      | refine Ev_andN 6 64 rfl rfl rfl rfl (by simp only [lim]; omega) (by simp only [lim]; omega) ?_
      | refine Ev_andN 10 1024 rfl rfl rfl rfl (by simp only [lim]; omega) (by simp only [lim]; omega) ?_
      | refine Ev_orN 4 rfl rfl rfl (by first | omega | (dsimp only; done) | (dsimp only; omega)) (by first | omega | (dsimp only; done) | (dsimp only; omega)) (by simp only [lim]; omega) ?_
      | refine Ev_orN 5 rfl rfl rfl (by first | omega | (dsimp only; done) | (dsimp only; omega)) (by first | omega | (dsimp only; done) | (dsimp only; omega)) (by simp only [lim]; omega) ?_
      | refine Ev_orN 6 rfl rfl rfl (by first | omega | (dsimp only; done) | (dsimp only; omega)) (by first | omega | (dsimp only; done) | (dsimp only; omega)) (by simp only [lim]; omega) ?_
      | refine Ev_orN 10 rfl rfl rfl (by first | omega | (dsimp only; done) | (dsimp only; omega)) (by first | omega | (dsimp only; done) | (dsimp only; omega)) (by simp only [lim]; omega) ?_
      | refine Ev_orN 12 rfl rfl rfl (by first | omega | (dsimp only; done) | (dsimp only; omega)) (by first | omega | (dsimp only; done) | (dsimp only; omega)) (by simp only [lim]; omega) ?_
      | refine Ev_orN 16 rfl rfl rfl (by first | omega | (dsimp only; done) | (dsimp only; omega)) (by first | omega | (dsimp only; done) | (dsimp only; omega)) (by simp only [lim]; omega) ?_
      | refine Ev_convN rfl rfl rfl rfl rfl (by simp only [lim]; omega) ?_
      | refine Ev_and8 rfl rfl (by first | omega | (dsimp only; done) | (dsimp only; omega)) (by first | omega | (dsimp only; done) | (dsimp only; omega)) (land_192 (by first | omega | (dsimp only; done) | (dsimp only; omega))) (by first | omega | (dsimp only; done) | (dsimp only; omega)) ?_
      | refine Ev_and8 rfl rfl (by first | omega | (dsimp only; done) | (dsimp only; omega)) (by first | omega | (dsimp only; done) | (dsimp only; omega)) (land_224 (by first | omega | (dsimp only; done) | (dsimp only; omega))) (by first | omega | (dsimp only; done) | (dsimp only; omega)) ?_
      | refine Ev_and8 rfl rfl (by first | omega | (dsimp only; done) | (dsimp only; omega)) (by first | omega | (dsimp only; done) | (dsimp only; omega)) (land_240 (by first | omega | (dsimp only; done) | (dsimp only; omega))) (by first | omega | (dsimp only; done) | (dsimp only; omega)) ?_
      | refine Ev_shr rfl rfl rfl rfl ?_
      | refine Ev_conv rfl rfl rfl rfl rfl (by simp only [inR]; omega) ?_
      | refine Ev_conv8 rfl rfl rfl rfl rfl ?_)
  refine Ev_call rfl rfl (valid_runs (by omega) ?_)
  repeat (
    first
      | refine W_seq ?_
      | refine WO_nil ?_
      | refine V_seq ?_
      | refine W_region ?_
      | refine W_drawn (by kernel_rfl) ?_
      | refine W_block ?_
      | refine W_scope ?_
      | refine W_skip ?_
      | refine W_ret ?_
      | refine W_exit ?_
      | refine W_label ?_
      | refine V_ret ?_
      | refine V_block ?_
      | refine V_block_x rfl ?_
      | refine V_block_y rfl ?_
      | refine V_seq_x ?_
      | refine V_loop_x ?_
      | refine W_cond_t rfl ?_
      | refine W_cond_f rfl ?_
      | refine WO_dst rfl rfl (by kernel_rfl) (by kernel_rfl) ?_
      | refine WO_no rfl rfl ?_
      | refine WO_guard_t rfl rfl rfl rfl rfl (by kernel_rfl) (by kernel_rfl) ?_
      | refine WO_guard_f rfl rfl rfl rfl rfl rfl (by kernel_rfl) (by kernel_rfl) ?_
      | refine WO_guard_x rfl rfl rfl rfl rfl (by kernel_rfl) (by kernel_rfl) ?_
      | refine Ev_move rfl ?_
      | refine Ev_assign rfl ?_
      | refine Ev_extract rfl rfl ?_
      | refine Ev_pick_t rfl rfl rfl ?_
      | refine Ev_pick_f rfl rfl rfl ?_
      | refine Ev_lssN rfl rfl ?_
      | refine Ev_leqN rfl rfl ?_
      | refine Ev_gtrN rfl rfl ?_
      | refine Ev_geqN rfl rfl ?_
      | refine Ev_eqlN rfl rfl ?_
      | refine Ev_neqN rfl rfl ?_
      | refine Ev_lss rfl rfl ?_
      | refine Ev_leq rfl rfl ?_
      | refine Ev_gtr rfl rfl ?_
      | refine Ev_geq rfl rfl ?_
      | refine Ev_eql rfl rfl ?_
      | refine Ev_neq rfl rfl ?_
      | refine Ev_seql rfl rfl ?_
      | refine Ev_sneq rfl rfl ?_
      | refine Ev_not rfl ?_
      | refine Ev_notb rfl ?_
      | refine Ev_nilCheck rfl ?_
      | refine Ev_fieldAddr rfl rfl rfl rfl rfl rfl ?_
      | refine Ev_len_str rfl rfl rfl rfl rfl ?_
      | refine Ev_len rfl rfl rfl rfl rfl rfl ?_
      | refine Ev_min rfl rfl rfl ?_
      | refine Ev_max rfl rfl rfl ?_
      | refine Ev_indexAddr rfl rfl rfl rfl rfl (by first | omega | (dsimp only; done) | (dsimp only; omega)) ?_
      | refine Ev_makeFunc rfl rfl ?_
      | refine Ev_conv_str rfl rfl rfl rfl rfl ?_
      | refine Ev_addN rfl rfl (by simp only [lim]; omega) ?_
      | refine Ev_subN rfl rfl (by simp only [lim]; omega) (by first | omega | (dsimp only; done) | (dsimp only; omega)) ?_
      | refine Ev_mulN rfl rfl (by simp only [lim]; omega) ?_
      | refine Ev_add rfl rfl (by simp only [inR]; omega) ?_
      | refine Ev_sub rfl rfl (by simp only [inR]; omega) ?_
      | refine Ev_mul rfl rfl (by simp only [inR]; omega) ?_
      | refine Ev_shrN (m := 6) (q := 64) rfl rfl rfl rfl ?_
      | refine Ev_shrN (m := 12) (q := 4096) rfl rfl rfl rfl ?_
      | refine Ev_shrN (m := 10) (q := 1024) rfl rfl rfl rfl ?_
      | refine Ev_shrN (m := 8) (q := 256) rfl rfl rfl rfl ?_
      | refine Ev_shrN (m := 4) (q := 16) rfl rfl rfl rfl ?_
      | refine Ev_shrN (m := 5) (q := 32) rfl rfl rfl rfl ?_
      | refine Ev_shrN (m := 7) (q := 128) rfl rfl rfl rfl ?_
      | refine Ev_shrN (m := 3) (q := 8) rfl rfl rfl rfl ?_
      | refine Ev_shrN (m := 18) (q := 262144) rfl rfl rfl rfl ?_
      | refine Ev_shlN (m := 6) (q := 64) rfl rfl rfl rfl (by simp only [lim]; omega) ?_
      | refine Ev_shlN (m := 12) (q := 4096) rfl rfl rfl rfl (by simp only [lim]; omega) ?_
      | refine Ev_shlN (m := 10) (q := 1024) rfl rfl rfl rfl (by simp only [lim]; omega) ?_
      | refine Ev_shlN (m := 8) (q := 256) rfl rfl rfl rfl (by simp only [lim]; omega) ?_
      | refine Ev_andN 3 8 rfl rfl rfl rfl (by simp only [lim]; omega) (by simp only [lim]; omega) ?_
      | refine Ev_andN 4 16 rfl rfl rfl rfl (by simp only [lim]; omega) (by simp only [lim]; omega) ?_
      | refine Ev_andN 5 32 rfl rfl rfl rfl (by simp only [lim]; omega) (by simp only [lim]; omega) ?_
      | refine Ev_andN 6 64 rfl rfl rfl rfl (by simp only [lim]; omega) (by simp only [lim]; omega) ?_
      | refine Ev_andN 10 1024 rfl rfl rfl rfl (by simp only [lim]; omega) (by simp only [lim]; omega) ?_
      | refine Ev_orN 4 rfl rfl rfl (by first | omega | (dsimp only; done) | (dsimp only; omega)) (by first | omega | (dsimp only; done) | (dsimp only; omega)) (by simp only [lim]; omega) ?_
      | refine Ev_orN 5 rfl rfl rfl (by first | omega | (dsimp only; done) | (dsimp only; omega)) (by first | omega | (dsimp only; done) | (dsimp only; omega)) (by simp only [lim]; omega) ?_
      | refine Ev_orN 6 rfl rfl rfl (by first | omega | (dsimp only; done) | (dsimp only; omega)) (by first | omega | (dsimp only; done) | (dsimp only; omega)) (by simp only [lim]; omega) ?_
      | refine Ev_orN 10 rfl rfl rfl (by first | omega | (dsimp only; done) | (dsimp only; omega)) (by first | omega | (dsimp only; done) | (dsimp only; omega)) (by simp only [lim]; omega) ?_
      | refine Ev_orN 12 rfl rfl rfl (by first | omega | (dsimp only; done) | (dsimp only; omega)) (by first | omega | (dsimp only; done) | (dsimp only; omega)) (by simp only [lim]; omega) ?_
      | refine Ev_orN 16 rfl rfl rfl (by first | omega | (dsimp only; done) | (dsimp only; omega)) (by first | omega | (dsimp only; done) | (dsimp only; omega)) (by simp only [lim]; omega) ?_
      | refine Ev_convN rfl rfl rfl rfl rfl (by simp only [lim]; omega) ?_
      | refine Ev_and8 rfl rfl (by first | omega | (dsimp only; done) | (dsimp only; omega)) (by first | omega | (dsimp only; done) | (dsimp only; omega)) (land_192 (by first | omega | (dsimp only; done) | (dsimp only; omega))) (by first | omega | (dsimp only; done) | (dsimp only; omega)) ?_
      | refine Ev_and8 rfl rfl (by first | omega | (dsimp only; done) | (dsimp only; omega)) (by first | omega | (dsimp only; done) | (dsimp only; omega)) (land_224 (by first | omega | (dsimp only; done) | (dsimp only; omega))) (by first | omega | (dsimp only; done) | (dsimp only; omega)) ?_
      | refine Ev_and8 rfl rfl (by first | omega | (dsimp only; done) | (dsimp only; omega)) (by first | omega | (dsimp only; done) | (dsimp only; omega)) (land_240 (by first | omega | (dsimp only; done) | (dsimp only; omega))) (by first | omega | (dsimp only; done) | (dsimp only; omega)) ?_
      | refine Ev_shr rfl rfl rfl rfl ?_
      | refine Ev_conv rfl rfl rfl rfl rfl (by simp only [inR]; omega) ?_
      | refine Ev_conv8 rfl rfl rfl rfl rfl ?_)
  refine W_condb rfl (fun hc => ?_) (fun hc => ?_)
  · have hv : vS s = false := by simpa using hc
    repeat (
      first
        | refine W_seq ?_
        | refine WO_nil ?_
        | refine V_seq ?_
        | refine W_region ?_
        | refine W_drawn (by kernel_rfl) ?_
        | refine W_block ?_
        | refine W_scope ?_
        | refine W_skip ?_
        | refine W_ret ?_
        | refine W_exit ?_
        | refine W_label ?_
        | refine V_ret ?_
        | refine V_block ?_
        | refine V_block_x rfl ?_
        | refine V_block_y rfl ?_
        | refine V_seq_x ?_
        | refine V_loop_x ?_
        | refine W_cond_t rfl ?_
        | refine W_cond_f rfl ?_
        | refine WO_dst rfl rfl (by kernel_rfl) (by kernel_rfl) ?_
        | refine WO_no rfl rfl ?_
        | refine WO_guard_t rfl rfl rfl rfl rfl (by kernel_rfl) (by kernel_rfl) ?_
        | refine WO_guard_f rfl rfl rfl rfl rfl rfl (by kernel_rfl) (by kernel_rfl) ?_
        | refine WO_guard_x rfl rfl rfl rfl rfl (by kernel_rfl) (by kernel_rfl) ?_
        | refine Ev_move rfl ?_
        | refine Ev_assign rfl ?_
        | refine Ev_extract rfl rfl ?_
        | refine Ev_pick_t rfl rfl rfl ?_
        | refine Ev_pick_f rfl rfl rfl ?_
        | refine Ev_lssN rfl rfl ?_
        | refine Ev_leqN rfl rfl ?_
        | refine Ev_gtrN rfl rfl ?_
        | refine Ev_geqN rfl rfl ?_
        | refine Ev_eqlN rfl rfl ?_
        | refine Ev_neqN rfl rfl ?_
        | refine Ev_lss rfl rfl ?_
        | refine Ev_leq rfl rfl ?_
        | refine Ev_gtr rfl rfl ?_
        | refine Ev_geq rfl rfl ?_
        | refine Ev_eql rfl rfl ?_
        | refine Ev_neq rfl rfl ?_
        | refine Ev_seql rfl rfl ?_
        | refine Ev_sneq rfl rfl ?_
        | refine Ev_not rfl ?_
        | refine Ev_notb rfl ?_
        | refine Ev_nilCheck rfl ?_
        | refine Ev_fieldAddr rfl rfl rfl rfl rfl rfl ?_
        | refine Ev_len_str rfl rfl rfl rfl rfl ?_
        | refine Ev_len rfl rfl rfl rfl rfl rfl ?_
        | refine Ev_min rfl rfl rfl ?_
        | refine Ev_max rfl rfl rfl ?_
        | refine Ev_indexAddr rfl rfl rfl rfl rfl (by first | omega | (dsimp only; done) | (dsimp only; omega)) ?_
        | refine Ev_makeFunc rfl rfl ?_
        | refine Ev_conv_str rfl rfl rfl rfl rfl ?_
        | refine Ev_addN rfl rfl (by simp only [lim]; omega) ?_
        | refine Ev_subN rfl rfl (by simp only [lim]; omega) (by first | omega | (dsimp only; done) | (dsimp only; omega)) ?_
        | refine Ev_mulN rfl rfl (by simp only [lim]; omega) ?_
        | refine Ev_add rfl rfl (by simp only [inR]; omega) ?_
        | refine Ev_sub rfl rfl (by simp only [inR]; omega) ?_
        | refine Ev_mul rfl rfl (by simp only [inR]; omega) ?_
        | refine Ev_shrN (m := 6) (q := 64) rfl rfl rfl rfl ?_
        | refine Ev_shrN (m := 12) (q := 4096) rfl rfl rfl rfl ?_
        | refine Ev_shrN (m := 10) (q := 1024) rfl rfl rfl rfl ?_
        | refine Ev_shrN (m := 8) (q := 256) rfl rfl rfl rfl ?_
        | refine Ev_shrN (m := 4) (q := 16) rfl rfl rfl rfl ?_
        | refine Ev_shrN (m := 5) (q := 32) rfl rfl rfl rfl ?_
        | refine Ev_shrN (m := 7) (q := 128) rfl rfl rfl rfl ?_
        | refine Ev_shrN (m := 3) (q := 8) rfl rfl rfl rfl ?_
        | refine Ev_shrN (m := 18) (q := 262144) rfl rfl rfl rfl ?_
        | refine Ev_shlN (m := 6) (q := 64) rfl rfl rfl rfl (by simp only [lim]; omega) ?_
        | refine Ev_shlN (m := 12) (q := 4096) rfl rfl rfl rfl (by simp only [lim]; omega) ?_
        | refine Ev_shlN (m := 10) (q := 1024) rfl rfl rfl rfl (by simp only [lim]; omega) ?_
        | refine Ev_shlN (m := 8) (q := 256) rfl rfl rfl rfl (by simp only [lim]; omega) ?_
        | refine Ev_andN 3 8 rfl rfl rfl rfl (by simp only [lim]; omega) (by simp only [lim]; omega) ?_
        | refine Ev_andN 4 16 rfl rfl rfl rfl (by simp only [lim]; omega) (by simp only [lim]; omega) ?_
        | refine Ev_andN 5 32 rfl rfl rfl rfl (by simp only [lim]; omega) (by simp only [lim]; omega) ?_
        | refine Ev_andN 6 64 rfl rfl rfl rfl (by simp only [lim]; omega) (by simp only [lim]; omega) ?_
        | refine Ev_andN 10 1024 rfl rfl rfl rfl (by simp only [lim]; omega) (by simp only [lim]; omega) ?_
        | refine Ev_orN 4 rfl rfl rfl (by first | omega | (dsimp only; done) | (dsimp only; omega)) (by first | omega | (dsimp only; done) | (dsimp only; omega)) (by simp only [lim]; omega) ?_
        | refine Ev_orN 5 rfl rfl rfl (by first | omega | (dsimp only; done) | (dsimp only; omega)) (by first | omega | (dsimp only; done) | (dsimp only; omega)) (by simp only [lim]; omega) ?_
        | refine Ev_orN 6 rfl rfl rfl (by first | omega | (dsimp only; done) | (dsimp only; omega)) (by first | omega | (dsimp only; done) | (dsimp only; omega)) (by simp only [lim]; omega) ?_
        | refine Ev_orN 10 rfl rfl rfl (by first | omega | (dsimp only; done) | (dsimp only; omega)) (by first | omega | (dsimp only; done) | (dsimp only; omega)) (by simp only [lim]; omega) ?_
        | refine Ev_orN 12 rfl rfl rfl (by first | omega | (dsimp only; done) | (dsimp only; omega)) (by first | omega | (dsimp only; done) | (dsimp only; omega)) (by simp only [lim]; omega) ?_
        | refine Ev_orN 16 rfl rfl rfl (by first | omega | (dsimp only; done) | (dsimp only; omega)) (by first | omega | (dsimp only; done) | (dsimp only; omega)) (by simp only [lim]; omega) ?_
        | refine Ev_convN rfl rfl rfl rfl rfl (by simp only [lim]; omega) ?_
        | refine Ev_and8 rfl rfl (by first | omega | (dsimp only; done) | (dsimp only; omega)) (by first | omega | (dsimp only; done) | (dsimp only; omega)) (land_192 (by first | omega | (dsimp only; done) | (dsimp only; omega))) (by first | omega | (dsimp only; done) | (dsimp only; omega)) ?_
        | refine Ev_and8 rfl rfl (by first | omega | (dsimp only; done) | (dsimp only; omega)) (by first | omega | (dsimp only; done) | (dsimp only; omega)) (land_224 (by first | omega | (dsimp only; done) | (dsimp only; omega))) (by first | omega | (dsimp only; done) | (dsimp only; omega)) ?_
        | refine Ev_and8 rfl rfl (by first | omega | (dsimp only; done) | (dsimp only; omega)) (by first | omega | (dsimp only; done) | (dsimp only; omega)) (land_240 (by first | omega | (dsimp only; done) | (dsimp only; omega))) (by first | omega | (dsimp only; done) | (dsimp only; omega)) ?_
        | refine Ev_shr rfl rfl rfl rfl ?_
        | refine Ev_conv rfl rfl rfl rfl rfl (by simp only [inR]; omega) ?_
        | refine Ev_conv8 rfl rfl rfl rfl rfl ?_)
    refine V_done rfl rfl ?_
    exact ⟨⟨Nat.le_refl _, by omega, hok, fun _ _ _ => rfl⟩, .nils, by rw [hv]; rfl, by rw [hv]; exact .inl ⟨rfl, rfl, rfl⟩, fun c hc => by cases hc⟩
  · have hv : vS s = true := by simpa using hc
    repeat (
      first
        | refine W_seq ?_
        | refine WO_nil ?_
        | refine V_seq ?_
        | refine W_region ?_
        | refine W_drawn (by kernel_rfl) ?_
        | refine W_block ?_
        | refine W_scope ?_
        | refine W_skip ?_
        | refine W_ret ?_
        | refine W_exit ?_
        | refine W_label ?_
        | refine V_ret ?_
        | refine V_block ?_
        | refine V_block_x rfl ?_
        | refine V_block_y rfl ?_
        | refine V_seq_x ?_
        | refine V_loop_x ?_
        | refine W_cond_t rfl ?_
        | refine W_cond_f rfl ?_
        | refine WO_dst rfl rfl (by kernel_rfl) (by kernel_rfl) ?_
        | refine WO_no rfl rfl ?_
        | refine WO_guard_t rfl rfl rfl rfl rfl (by kernel_rfl) (by kernel_rfl) ?_
        | refine WO_guard_f rfl rfl rfl rfl rfl rfl (by kernel_rfl) (by kernel_rfl) ?_
        | refine WO_guard_x rfl rfl rfl rfl rfl (by kernel_rfl) (by kernel_rfl) ?_
        | refine Ev_move rfl ?_
        | refine Ev_assign rfl ?_
        | refine Ev_extract rfl rfl ?_
        | refine Ev_pick_t rfl rfl rfl ?_
        | refine Ev_pick_f rfl rfl rfl ?_
        | refine Ev_lssN rfl rfl ?_
        | refine Ev_leqN rfl rfl ?_
        | refine Ev_gtrN rfl rfl ?_
        | refine Ev_geqN rfl rfl ?_
        | refine Ev_eqlN rfl rfl ?_
        | refine Ev_neqN rfl rfl ?_
        | refine Ev_lss rfl rfl ?_
        | refine Ev_leq rfl rfl ?_
        | refine Ev_gtr rfl rfl ?_
        | refine Ev_geq rfl rfl ?_
        | refine Ev_eql rfl rfl ?_
        | refine Ev_neq rfl rfl ?_
        | refine Ev_seql rfl rfl ?_
        | refine Ev_sneq rfl rfl ?_
        | refine Ev_not rfl ?_
        | refine Ev_notb rfl ?_
        | refine Ev_nilCheck rfl ?_
        | refine Ev_fieldAddr rfl rfl rfl rfl rfl rfl ?_
        | refine Ev_len_str rfl rfl rfl rfl rfl ?_
        | refine Ev_len rfl rfl rfl rfl rfl rfl ?_
        | refine Ev_min rfl rfl rfl ?_
        | refine Ev_max rfl rfl rfl ?_
        | refine Ev_indexAddr rfl rfl rfl rfl rfl (by first | omega | (dsimp only; done) | (dsimp only; omega)) ?_
        | refine Ev_makeFunc rfl rfl ?_
        | refine Ev_conv_str rfl rfl rfl rfl rfl ?_
        | refine Ev_addN rfl rfl (by simp only [lim]; omega) ?_
        | refine Ev_subN rfl rfl (by simp only [lim]; omega) (by first | omega | (dsimp only; done) | (dsimp only; omega)) ?_
        | refine Ev_mulN rfl rfl (by simp only [lim]; omega) ?_
        | refine Ev_add rfl rfl (by simp only [inR]; omega) ?_
        | refine Ev_sub rfl rfl (by simp only [inR]; omega) ?_
        | refine Ev_mul rfl rfl (by simp only [inR]; omega) ?_
        | refine Ev_shrN (m := 6) (q := 64) rfl rfl rfl rfl ?_
        | refine Ev_shrN (m := 12) (q := 4096) rfl rfl rfl rfl ?_
        | refine Ev_shrN (m := 10) (q := 1024) rfl rfl rfl rfl ?_
        | refine Ev_shrN (m := 8) (q := 256) rfl rfl rfl rfl ?_
        | refine Ev_shrN (m := 4) (q := 16) rfl rfl rfl rfl ?_
        | refine Ev_shrN (m := 5) (q := 32) rfl rfl rfl rfl ?_
        | refine Ev_shrN (m := 7) (q := 128) rfl rfl rfl rfl ?_
        | refine Ev_shrN (m := 3) (q := 8) rfl rfl rfl rfl ?_
        | refine Ev_shrN (m := 18) (q := 262144) rfl rfl rfl rfl ?_
        | refine Ev_shlN (m := 6) (q := 64) rfl rfl rfl rfl (by simp only [lim]; omega) ?_
        | refine Ev_shlN (m := 12) (q := 4096) rfl rfl rfl rfl (by simp only [lim]; omega) ?_
        | refine Ev_shlN (m := 10) (q := 1024) rfl rfl rfl rfl (by simp only [lim]; omega) ?_
        | refine Ev_shlN (m := 8) (q := 256) rfl rfl rfl rfl (by simp only [lim]; omega) ?_
        | refine Ev_andN 3 8 rfl rfl rfl rfl (by simp only [lim]; omega) (by simp only [lim]; omega) ?_
        | refine Ev_andN 4 16 rfl rfl rfl rfl (by simp only [lim]; omega) (by simp only [lim]; omega) ?_
        | refine Ev_andN 5 32 rfl rfl rfl rfl (by simp only [lim]; omega) (by simp only [lim]; omega) ?_
        | refine Ev_andN 6 64 rfl rfl rfl rfl (by simp only [lim]; omega) (by simp only [lim]; omega) ?_
        | refine Ev_andN 10 1024 rfl rfl rfl rfl (by simp only [lim]; omega) (by simp only [lim]; omega) ?_
        | refine Ev_orN 4 rfl rfl rfl (by first | omega | (dsimp only; done) | (dsimp only; omega)) (by first | omega | (dsimp only; done) | (dsimp only; omega)) (by simp only [lim]; omega) ?_
        | refine Ev_orN 5 rfl rfl rfl (by first | omega | (dsimp only; done) | (dsimp only; omega)) (by first | omega | (dsimp only; done) | (dsimp only; omega)) (by simp only [lim]; omega) ?_
        | refine Ev_orN 6 rfl rfl rfl (by first | omega | (dsimp only; done) | (dsimp only; omega)) (by first | omega | (dsimp only; done) | (dsimp only; omega)) (by simp only [lim]; omega) ?_
        | refine Ev_orN 10 rfl rfl rfl (by first | omega | (dsimp only; done) | (dsimp only; omega)) (by first | omega | (dsimp only; done) | (dsimp only; omega)) (by simp only [lim]; omega) ?_
        | refine Ev_orN 12 rfl rfl rfl (by first | omega | (dsimp only; done) | (dsimp only; omega)) (by first | omega | (dsimp only; done) | (dsimp only; omega)) (by simp only [lim]; omega) ?_
        | refine Ev_orN 16 rfl rfl rfl (by first | omega | (dsimp only; done) | (dsimp only; omega)) (by first | omega | (dsimp only; done) | (dsimp only; omega)) (by simp only [lim]; omega) ?_
        | refine Ev_convN rfl rfl rfl rfl rfl (by simp only [lim]; omega) ?_
        | refine Ev_and8 rfl rfl (by first | omega | (dsimp only; done) | (dsimp only; omega)) (by first | omega | (dsimp only; done) | (dsimp only; omega)) (land_192 (by first | omega | (dsimp only; done) | (dsimp only; omega))) (by first | omega | (dsimp only; done) | (dsimp only; omega)) ?_
        | refine Ev_and8 rfl rfl (by first | omega | (dsimp only; done) | (dsimp only; omega)) (by first | omega | (dsimp only; done) | (dsimp only; omega)) (land_224 (by first | omega | (dsimp only; done) | (dsimp only; omega))) (by first | omega | (dsimp only; done) | (dsimp only; omega)) ?_
        | refine Ev_and8 rfl rfl (by first | omega | (dsimp only; done) | (dsimp only; omega)) (by first | omega | (dsimp only; done) | (dsimp only; omega)) (land_240 (by first | omega | (dsimp only; done) | (dsimp only; omega))) (by first | omega | (dsimp only; done) | (dsimp only; omega)) ?_
        | refine Ev_shr rfl rfl rfl rfl ?_
        | refine Ev_conv rfl rfl rfl rfl rfl (by simp only [inR]; omega) ?_
        | refine Ev_conv8 rfl rfl rfl rfl rfl ?_)
    refine Ev_range rfl rfl rfl hok (by omega) ?_
    intro S1 hn1 hok1 hq1 hf1
    repeat (
      first
        | refine W_seq ?_
        | refine WO_nil ?_
        | refine V_seq ?_
        | refine W_region ?_
        | refine W_drawn (by kernel_rfl) ?_
        | refine W_block ?_
        | refine W_scope ?_
        | refine W_skip ?_
        | refine W_ret ?_
        | refine W_exit ?_
        | refine W_label ?_
        | refine V_ret ?_
        | refine V_block ?_
        | refine V_block_x rfl ?_
        | refine V_block_y rfl ?_
        | refine V_seq_x ?_
        | refine V_loop_x ?_
        | refine W_cond_t rfl ?_
        | refine W_cond_f rfl ?_
        | refine WO_dst rfl rfl (by kernel_rfl) (by kernel_rfl) ?_
        | refine WO_no rfl rfl ?_
        | refine WO_guard_t rfl rfl rfl rfl rfl (by kernel_rfl) (by kernel_rfl) ?_
        | refine WO_guard_f rfl rfl rfl rfl rfl rfl (by kernel_rfl) (by kernel_rfl) ?_
        | refine WO_guard_x rfl rfl rfl rfl rfl (by kernel_rfl) (by kernel_rfl) ?_
        | refine Ev_move rfl ?_
        | refine Ev_assign rfl ?_
        | refine Ev_extract rfl rfl ?_
        | refine Ev_pick_t rfl rfl rfl ?_
        | refine Ev_pick_f rfl rfl rfl ?_
        | refine Ev_lssN rfl rfl ?_
        | refine Ev_leqN rfl rfl ?_
        | refine Ev_gtrN rfl rfl ?_
        | refine Ev_geqN rfl rfl ?_
        | refine Ev_eqlN rfl rfl ?_
        | refine Ev_neqN rfl rfl ?_
        | refine Ev_lss rfl rfl ?_
        | refine Ev_leq rfl rfl ?_
        | refine Ev_gtr rfl rfl ?_
        | refine Ev_geq rfl rfl ?_
        | refine Ev_eql rfl rfl ?_
        | refine Ev_neq rfl rfl ?_
        | refine Ev_seql rfl rfl ?_
        | refine Ev_sneq rfl rfl ?_
        | refine Ev_not rfl ?_
        | refine Ev_notb rfl ?_
        | refine Ev_nilCheck rfl ?_
        | refine Ev_fieldAddr rfl rfl rfl rfl rfl rfl ?_
        | refine Ev_len_str rfl rfl rfl rfl rfl ?_
        | refine Ev_len rfl rfl rfl rfl rfl rfl ?_
        | refine Ev_min rfl rfl rfl ?_
        | refine Ev_max rfl rfl rfl ?_
        | refine Ev_indexAddr rfl rfl rfl rfl rfl (by first | omega | (dsimp only; done) | (dsimp only; omega)) ?_
        | refine Ev_makeFunc rfl rfl ?_
        | refine Ev_conv_str rfl rfl rfl rfl rfl ?_
        | refine Ev_addN rfl rfl (by simp only [lim]; omega) ?_
        | refine Ev_subN rfl rfl (by simp only [lim]; omega) (by first | omega | (dsimp only; done) | (dsimp only; omega)) ?_
        | refine Ev_mulN rfl rfl (by simp only [lim]; omega) ?_
        | refine Ev_add rfl rfl (by simp only [inR]; omega) ?_
        | refine Ev_sub rfl rfl (by simp only [inR]; omega) ?_
        | refine Ev_mul rfl rfl (by simp only [inR]; omega) ?_
        | refine Ev_shrN (m := 6) (q := 64) rfl rfl rfl rfl ?_
        | refine Ev_shrN (m := 12) (q := 4096) rfl rfl rfl rfl ?_
        | refine Ev_shrN (m := 10) (q := 1024) rfl rfl rfl rfl ?_
        | refine Ev_shrN (m := 8) (q := 256) rfl rfl rfl rfl ?_
        | refine Ev_shrN (m := 4) (q := 16) rfl rfl rfl rfl ?_
        | refine Ev_shrN (m := 5) (q := 32) rfl rfl rfl rfl ?_
        | refine Ev_shrN (m := 7) (q := 128) rfl rfl rfl rfl ?_
        | refine Ev_shrN (m := 3) (q := 8) rfl rfl rfl rfl ?_
        | refine Ev_shrN (m := 18) (q := 262144) rfl rfl rfl rfl ?_
        | refine Ev_shlN (m := 6) (q := 64) rfl rfl rfl rfl (by simp only [lim]; omega) ?_
        | refine Ev_shlN (m := 12) (q := 4096) rfl rfl rfl rfl (by simp only [lim]; omega) ?_
        | refine Ev_shlN (m := 10) (q := 1024) rfl rfl rfl rfl (by simp only [lim]; omega) ?_
        | refine Ev_shlN (m := 8) (q := 256) rfl rfl rfl rfl (by simp only [lim]; omega) ?_
        | refine Ev_andN 3 8 rfl rfl rfl rfl (by simp only [lim]; omega) (by simp only [lim]; omega) ?_
        | refine Ev_andN 4 16 rfl rfl rfl rfl (by simp only [lim]; omega) (by simp only [lim]; omega) ?_
        | refine Ev_andN 5 32 rfl rfl rfl rfl (by simp only [lim]; omega) (by simp only [lim]; omega) ?_
        | refine Ev_andN 6 64 rfl rfl rfl rfl (by simp only [lim]; omega) (by simp only [lim]; omega) ?_
        | refine Ev_andN 10 1024 rfl rfl rfl rfl (by simp only [lim]; omega) (by simp only [lim]; omega) ?_
        | refine Ev_orN 4 rfl rfl rfl (by first | omega | (dsimp only; done) | (dsimp only; omega)) (by first | omega | (dsimp only; done) | (dsimp only; omega)) (by simp only [lim]; omega) ?_
        | refine Ev_orN 5 rfl rfl rfl (by first | omega | (dsimp only; done) | (dsimp only; omega)) (by first | omega | (dsimp only; done) | (dsimp only; omega)) (by simp only [lim]; omega) ?_
        | refine Ev_orN 6 rfl rfl rfl (by first | omega | (dsimp only; done) | (dsimp only; omega)) (by first | omega | (dsimp only; done) | (dsimp only; omega)) (by simp only [lim]; omega) ?_
        | refine Ev_orN 10 rfl rfl rfl (by first | omega | (dsimp only; done) | (dsimp only; omega)) (by first | omega | (dsimp only; done) | (dsimp only; omega)) (by simp only [lim]; omega) ?_
        | refine Ev_orN 12 rfl rfl rfl (by first | omega | (dsimp only; done) | (dsimp only; omega)) (by first | omega | (dsimp only; done) | (dsimp only; omega)) (by simp only [lim]; omega) ?_
        | refine Ev_orN 16 rfl rfl rfl (by first | omega | (dsimp only; done) | (dsimp only; omega)) (by first | omega | (dsimp only; done) | (dsimp only; omega)) (by simp only [lim]; omega) ?_
        | refine Ev_convN rfl rfl rfl rfl rfl (by simp only [lim]; omega) ?_
        | refine Ev_and8 rfl rfl (by first | omega | (dsimp only; done) | (dsimp only; omega)) (by first | omega | (dsimp only; done) | (dsimp only; omega)) (land_192 (by first | omega | (dsimp only; done) | (dsimp only; omega))) (by first | omega | (dsimp only; done) | (dsimp only; omega)) ?_
        | refine Ev_and8 rfl rfl (by first | omega | (dsimp only; done) | (dsimp only; omega)) (by first | omega | (dsimp only; done) | (dsimp only; omega)) (land_224 (by first | omega | (dsimp only; done) | (dsimp only; omega))) (by first | omega | (dsimp only; done) | (dsimp only; omega)) ?_
        | refine Ev_and8 rfl rfl (by first | omega | (dsimp only; done) | (dsimp only; omega)) (by first | omega | (dsimp only; done) | (dsimp only; omega)) (land_240 (by first | omega | (dsimp only; done) | (dsimp only; omega))) (by first | omega | (dsimp only; done) | (dsimp only; omega)) ?_
        | refine Ev_shr rfl rfl rfl rfl ?_
        | refine Ev_conv rfl rfl rfl rfl rfl (by simp only [inR]; omega) ?_
        | refine Ev_conv8 rfl rfl rfl rfl rfl ?_)
    refine W_inv (fun a : Nat × AV × List Nat => [(11, .ptr S.n 0), (4, a.2.1)]) (EncI S s) (fun a => s.length - a.1) ?_ (0, .nils, []) ?_ ⟨rfl, rfl, trivial⟩
    · rintro ⟨pos, v, l⟩ T ⟨hle, hokT, hit, how, heq, hlen, hlt, hnT, hfr, hbk⟩ back
      dsimp only at hle hit how heq hlen hnT hbk back
      repeat (
        first
          | refine W_seq ?_
          | refine WO_nil ?_
          | refine V_seq ?_
          | refine W_region ?_
          | refine W_drawn (by kernel_rfl) ?_
          | refine W_block ?_
          | refine W_scope ?_
          | refine W_skip ?_
          | refine W_ret ?_
          | refine W_exit ?_
          | refine W_label ?_
          | refine V_ret ?_
          | refine V_block ?_
          | refine V_block_x rfl ?_
          | refine V_block_y rfl ?_
          | refine V_seq_x ?_
          | refine V_loop_x ?_
          | refine W_cond_t rfl ?_
          | refine W_cond_f rfl ?_
          | refine WO_dst rfl rfl (by kernel_rfl) (by kernel_rfl) ?_
          | refine WO_no rfl rfl ?_
          | refine WO_guard_t rfl rfl rfl rfl rfl (by kernel_rfl) (by kernel_rfl) ?_
          | refine WO_guard_f rfl rfl rfl rfl rfl rfl (by kernel_rfl) (by kernel_rfl) ?_
          | refine WO_guard_x rfl rfl rfl rfl rfl (by kernel_rfl) (by kernel_rfl) ?_
          | refine Ev_move rfl ?_
          | refine Ev_assign rfl ?_
          | refine Ev_extract rfl rfl ?_
          | refine Ev_pick_t rfl rfl rfl ?_
          | refine Ev_pick_f rfl rfl rfl ?_
          | refine Ev_lssN rfl rfl ?_
          | refine Ev_leqN rfl rfl ?_
          | refine Ev_gtrN rfl rfl ?_
          | refine Ev_geqN rfl rfl ?_
          | refine Ev_eqlN rfl rfl ?_
          | refine Ev_neqN rfl rfl ?_
          | refine Ev_lss rfl rfl ?_
          | refine Ev_leq rfl rfl ?_
          | refine Ev_gtr rfl rfl ?_
          | refine Ev_geq rfl rfl ?_
          | refine Ev_eql rfl rfl ?_
          | refine Ev_neq rfl rfl ?_
          | refine Ev_seql rfl rfl ?_
          | refine Ev_sneq rfl rfl ?_
          | refine Ev_not rfl ?_
          | refine Ev_notb rfl ?_
          | refine Ev_nilCheck rfl ?_
          | refine Ev_fieldAddr rfl rfl rfl rfl rfl rfl ?_
          | refine Ev_len_str rfl rfl rfl rfl rfl ?_
          | refine Ev_len rfl rfl rfl rfl rfl rfl ?_
          | refine Ev_min rfl rfl rfl ?_
          | refine Ev_max rfl rfl rfl ?_
          | refine Ev_indexAddr rfl rfl rfl rfl rfl (by first | omega | (dsimp only; done) | (dsimp only; omega)) ?_
          | refine Ev_makeFunc rfl rfl ?_
          | refine Ev_conv_str rfl rfl rfl rfl rfl ?_
          | refine Ev_addN rfl rfl (by simp only [lim]; omega) ?_
          | refine Ev_subN rfl rfl (by simp only [lim]; omega) (by first | omega | (dsimp only; done) | (dsimp only; omega)) ?_
          | refine Ev_mulN rfl rfl (by simp only [lim]; omega) ?_
          | refine Ev_add rfl rfl (by simp only [inR]; omega) ?_
          | refine Ev_sub rfl rfl (by simp only [inR]; omega) ?_
          | refine Ev_mul rfl rfl (by simp only [inR]; omega) ?_
          | refine Ev_shrN (m := 6) (q := 64) rfl rfl rfl rfl ?_
          | refine Ev_shrN (m := 12) (q := 4096) rfl rfl rfl rfl ?_
          | refine Ev_shrN (m := 10) (q := 1024) rfl rfl rfl rfl ?_
          | refine Ev_shrN (m := 8) (q := 256) rfl rfl rfl rfl ?_
          | refine Ev_shrN (m := 4) (q := 16) rfl rfl rfl rfl ?_
          | refine Ev_shrN (m := 5) (q := 32) rfl rfl rfl rfl ?_
          | refine Ev_shrN (m := 7) (q := 128) rfl rfl rfl rfl ?_
          | refine Ev_shrN (m := 3) (q := 8) rfl rfl rfl rfl ?_
          | refine Ev_shrN (m := 18) (q := 262144) rfl rfl rfl rfl ?_
          | refine Ev_shlN (m := 6) (q := 64) rfl rfl rfl rfl (by simp only [lim]; omega) ?_
          | refine Ev_shlN (m := 12) (q := 4096) rfl rfl rfl rfl (by simp only [lim]; omega) ?_
          | refine Ev_shlN (m := 10) (q := 1024) rfl rfl rfl rfl (by simp only [lim]; omega) ?_
          | refine Ev_shlN (m := 8) (q := 256) rfl rfl rfl rfl (by simp only [lim]; omega) ?_
          | refine Ev_andN 3 8 rfl rfl rfl rfl (by simp only [lim]; omega) (by simp only [lim]; omega) ?_
          | refine Ev_andN 4 16 rfl rfl rfl rfl (by simp only [lim]; omega) (by simp only [lim]; omega) ?_
          | refine Ev_andN 5 32 rfl rfl rfl rfl (by simp only [lim]; omega) (by simp only [lim]; omega) ?_
          | refine Ev_andN 6 64 rfl rfl rfl rfl (by simp only [lim]; omega) (by simp only [lim]; omega) ?_
          | refine Ev_andN 10 1024 rfl rfl rfl rfl (by simp only [lim]; omega) (by simp only [lim]; omega) ?_
          | refine Ev_orN 4 rfl rfl rfl (by first | omega | (dsimp only; done) | (dsimp only; omega)) (by first | omega | (dsimp only; done) | (dsimp only; omega)) (by simp only [lim]; omega) ?_
          | refine Ev_orN 5 rfl rfl rfl (by first | omega | (dsimp only; done) | (dsimp only; omega)) (by first | omega | (dsimp only; done) | (dsimp only; omega)) (by simp only [lim]; omega) ?_
          | refine Ev_orN 6 rfl rfl rfl (by first | omega | (dsimp only; done) | (dsimp only; omega)) (by first | omega | (dsimp only; done) | (dsimp only; omega)) (by simp only [lim]; omega) ?_
          | refine Ev_orN 10 rfl rfl rfl (by first | omega | (dsimp only; done) | (dsimp only; omega)) (by first | omega | (dsimp only; done) | (dsimp only; omega)) (by simp only [lim]; omega) ?_
          | refine Ev_orN 12 rfl rfl rfl (by first | omega | (dsimp only; done) | (dsimp only; omega)) (by first | omega | (dsimp only; done) | (dsimp only; omega)) (by simp only [lim]; omega) ?_
          | refine Ev_orN 16 rfl rfl rfl (by first | omega | (dsimp only; done) | (dsimp only; omega)) (by first | omega | (dsimp only; done) | (dsimp only; omega)) (by simp only [lim]; omega) ?_
          | refine Ev_convN rfl rfl rfl rfl rfl (by simp only [lim]; omega) ?_
          | refine Ev_and8 rfl rfl (by first | omega | (dsimp only; done) | (dsimp only; omega)) (by first | omega | (dsimp only; done) | (dsimp only; omega)) (land_192 (by first | omega | (dsimp only; done) | (dsimp only; omega))) (by first | omega | (dsimp only; done) | (dsimp only; omega)) ?_
          | refine Ev_and8 rfl rfl (by first | omega | (dsimp only; done) | (dsimp only; omega)) (by first | omega | (dsimp only; done) | (dsimp only; omega)) (land_224 (by first | omega | (dsimp only; done) | (dsimp only; omega))) (by first | omega | (dsimp only; done) | (dsimp only; omega)) ?_
          | refine Ev_and8 rfl rfl (by first | omega | (dsimp only; done) | (dsimp only; omega)) (by first | omega | (dsimp only; done) | (dsimp only; omega)) (land_240 (by first | omega | (dsimp only; done) | (dsimp only; omega))) (by first | omega | (dsimp only; done) | (dsimp only; omega)) ?_
          | refine Ev_shr rfl rfl rfl rfl ?_
          | refine Ev_conv rfl rfl rfl rfl rfl (by simp only [inR]; omega) ?_
          | refine Ev_conv8 rfl rfl rfl rfl rfl ?_)
      by_cases hd : s.drop pos = []
      · refine Ev_next_end rfl hit hd ?_
        repeat (
          first
            | refine W_seq ?_
            | refine WO_nil ?_
            | refine V_seq ?_
            | refine W_region ?_
            | refine W_drawn (by kernel_rfl) ?_
            | refine W_block ?_
            | refine W_scope ?_
            | refine W_skip ?_
            | refine W_ret ?_
            | refine W_exit ?_
            | refine W_label ?_
            | refine V_ret ?_
            | refine V_block ?_
            | refine V_block_x rfl ?_
            | refine V_block_y rfl ?_
            | refine V_seq_x ?_
            | refine V_loop_x ?_
            | refine W_cond_t rfl ?_
            | refine W_cond_f rfl ?_
            | refine WO_dst rfl rfl (by kernel_rfl) (by kernel_rfl) ?_
            | refine WO_no rfl rfl ?_
            | refine WO_guard_t rfl rfl rfl rfl rfl (by kernel_rfl) (by kernel_rfl) ?_
            | refine WO_guard_f rfl rfl rfl rfl rfl rfl (by kernel_rfl) (by kernel_rfl) ?_
            | refine WO_guard_x rfl rfl rfl rfl rfl (by kernel_rfl) (by kernel_rfl) ?_
            | refine Ev_move rfl ?_
            | refine Ev_assign rfl ?_
            | refine Ev_extract rfl rfl ?_
            | refine Ev_pick_t rfl rfl rfl ?_
            | refine Ev_pick_f rfl rfl rfl ?_
            | refine Ev_lssN rfl rfl ?_
            | refine Ev_leqN rfl rfl ?_
            | refine Ev_gtrN rfl rfl ?_
            | refine Ev_geqN rfl rfl ?_
            | refine Ev_eqlN rfl rfl ?_
            | refine Ev_neqN rfl rfl ?_
            | refine Ev_lss rfl rfl ?_
            | refine Ev_leq rfl rfl ?_
            | refine Ev_gtr rfl rfl ?_
            | refine Ev_geq rfl rfl ?_
            | refine Ev_eql rfl rfl ?_
            | refine Ev_neq rfl rfl ?_
            | refine Ev_seql rfl rfl ?_
            | refine Ev_sneq rfl rfl ?_
            | refine Ev_not rfl ?_
            | refine Ev_notb rfl ?_
            | refine Ev_nilCheck rfl ?_
            | refine Ev_fieldAddr rfl rfl rfl rfl rfl rfl ?_
            | refine Ev_len_str rfl rfl rfl rfl rfl ?_
            | refine Ev_len rfl rfl rfl rfl rfl rfl ?_
            | refine Ev_min rfl rfl rfl ?_
            | refine Ev_max rfl rfl rfl ?_
            | refine Ev_indexAddr rfl rfl rfl rfl rfl (by first | omega | (dsimp only; done) | (dsimp only; omega)) ?_
            | refine Ev_makeFunc rfl rfl ?_
            | refine Ev_conv_str rfl rfl rfl rfl rfl ?_
            | refine Ev_addN rfl rfl (by simp only [lim]; omega) ?_
            | refine Ev_subN rfl rfl (by simp only [lim]; omega) (by first | omega | (dsimp only; done) | (dsimp only; omega)) ?_
            | refine Ev_mulN rfl rfl (by simp only [lim]; omega) ?_
            | refine Ev_add rfl rfl (by simp only [inR]; omega) ?_
            | refine Ev_sub rfl rfl (by simp only [inR]; omega) ?_
            | refine Ev_mul rfl rfl (by simp only [inR]; omega) ?_
            | refine Ev_shrN (m := 6) (q := 64) rfl rfl rfl rfl ?_
            | refine Ev_shrN (m := 12) (q := 4096) rfl rfl rfl rfl ?_
            | refine Ev_shrN (m := 10) (q := 1024) rfl rfl rfl rfl ?_
            | refine Ev_shrN (m := 8) (q := 256) rfl rfl rfl rfl ?_
            | refine Ev_shrN (m := 4) (q := 16) rfl rfl rfl rfl ?_
            | refine Ev_shrN (m := 5) (q := 32) rfl rfl rfl rfl ?_
            | refine Ev_shrN (m := 7) (q := 128) rfl rfl rfl rfl ?_
            | refine Ev_shrN (m := 3) (q := 8) rfl rfl rfl rfl ?_
            | refine Ev_shrN (m := 18) (q := 262144) rfl rfl rfl rfl ?_
            | refine Ev_shlN (m := 6) (q := 64) rfl rfl rfl rfl (by simp only [lim]; omega) ?_
            | refine Ev_shlN (m := 12) (q := 4096) rfl rfl rfl rfl (by simp only [lim]; omega) ?_
            | refine Ev_shlN (m := 10) (q := 1024) rfl rfl rfl rfl (by simp only [lim]; omega) ?_
            | refine Ev_shlN (m := 8) (q := 256) rfl rfl rfl rfl (by simp only [lim]; omega) ?_
            | refine Ev_andN 3 8 rfl rfl rfl rfl (by simp only [lim]; omega) (by simp only [lim]; omega) ?_
            | refine Ev_andN 4 16 rfl rfl rfl rfl (by simp only [lim]; omega) (by simp only [lim]; omega) ?_
            | refine Ev_andN 5 32 rfl rfl rfl rfl (by simp only [lim]; omega) (by simp only [lim]; omega) ?_
            | refine Ev_andN 6 64 rfl rfl rfl rfl (by simp only [lim]; omega) (by simp only [lim]; omega) ?_
            | refine Ev_andN 10 1024 rfl rfl rfl rfl (by simp only [lim]; omega) (by simp only [lim]; omega) ?_
            | refine Ev_orN 4 rfl rfl rfl (by first | omega | (dsimp only; done) | (dsimp only; omega)) (by first | omega | (dsimp only; done) | (dsimp only; omega)) (by simp only [lim]; omega) ?_
            | refine Ev_orN 5 rfl rfl rfl (by first | omega | (dsimp only; done) | (dsimp only; omega)) (by first | omega | (dsimp only; done) | (dsimp only; omega)) (by simp only [lim]; omega) ?_
            | refine Ev_orN 6 rfl rfl rfl (by first | omega | (dsimp only; done) | (dsimp only; omega)) (by first | omega | (dsimp only; done) | (dsimp only; omega)) (by simp only [lim]; omega) ?_
            | refine Ev_orN 10 rfl rfl rfl (by first | omega | (dsimp only; done) | (dsimp only; omega)) (by first | omega | (dsimp only; done) | (dsimp only; omega)) (by simp only [lim]; omega) ?_
            | refine Ev_orN 12 rfl rfl rfl (by first | omega | (dsimp only; done) | (dsimp only; omega)) (by first | omega | (dsimp only; done) | (dsimp only; omega)) (by simp only [lim]; omega) ?_
            | refine Ev_orN 16 rfl rfl rfl (by first | omega | (dsimp only; done) | (dsimp only; omega)) (by first | omega | (dsimp only; done) | (dsimp only; omega)) (by simp only [lim]; omega) ?_
            | refine Ev_convN rfl rfl rfl rfl rfl (by simp only [lim]; omega) ?_
            | refine Ev_and8 rfl rfl (by first | omega | (dsimp only; done) | (dsimp only; omega)) (by first | omega | (dsimp only; done) | (dsimp only; omega)) (land_192 (by first | omega | (dsimp only; done) | (dsimp only; omega))) (by first | omega | (dsimp only; done) | (dsimp only; omega)) ?_
            | refine Ev_and8 rfl rfl (by first | omega | (dsimp only; done) | (dsimp only; omega)) (by first | omega | (dsimp only; done) | (dsimp only; omega)) (land_224 (by first | omega | (dsimp only; done) | (dsimp only; omega))) (by first | omega | (dsimp only; done) | (dsimp only; omega)) ?_
            | refine Ev_and8 rfl rfl (by first | omega | (dsimp only; done) | (dsimp only; omega)) (by first | omega | (dsimp only; done) | (dsimp only; omega)) (land_240 (by first | omega | (dsimp only; done) | (dsimp only; omega))) (by first | omega | (dsimp only; done) | (dsimp only; omega)) ?_
            | refine Ev_shr rfl rfl rfl rfl ?_
            | refine Ev_conv rfl rfl rfl rfl rfl (by simp only [inR]; omega) ?_
            | refine Ev_conv8 rfl rfl rfl rfl rfl ?_)
        refine V_done rfl rfl ?_
        refine ⟨⟨by omega, by omega, hokT, fun c _ h => hfr c h⟩, v, by rw [hv]; rfl, ?_, fun c hc => by have := hbk c hc; omega⟩
        rw [if_pos hv, ← heq, hd, encS_nil, List.append_nil]; exact how
      · obtain ⟨c, w, hcw⟩ : ∃ c w, decodeR (s.drop pos) = (c, w) := ⟨_, _, rfl⟩
        have hc : c < 1114112 := by have := dec_lt (s.drop pos); rw [hcw] at this; exact this
        have hwl : pos + w ≤ s.length := by have := dec_le hd; rw [hcw, List.length_drop] at this; dsimp only at this; omega
        have hw : 1 ≤ w := by have := dec_pos (s.drop pos); rw [hcw] at this; exact this
        have hpl : pos < s.length := by
          rcases Nat.lt_or_ge pos s.length with h | h
          · exact h
          · exact absurd (List.drop_eq_nil_of_le h) hd
        have heq' : l ++ (enc1 c ++ encS (s.drop (pos + w))) = encS s := by
          rw [← heq, encS_ne hd, hcw, List.drop_drop]
        refine Ev_next rfl hit hd hcw (by omega) ?_
        intro T1 hn1 hit1 hf1
        have hok1 : Sok T1 := by
          intro b x hb
          rw [hn1]
          by_cases h : b = S.n
          · omega
          · rw [hf1 b h] at hb; exact hokT b x hb
        have how1 : Ow T1 v l := how.keep fun b hb => hf1 b (by have := hbk b hb; omega)
        repeat (
          first
            | refine W_seq ?_
            | refine WO_nil ?_
            | refine V_seq ?_
            | refine W_region ?_
            | refine W_drawn (by kernel_rfl) ?_
            | refine W_block ?_
            | refine W_scope ?_
            | refine W_skip ?_
            | refine W_ret ?_
            | refine W_exit ?_
            | refine W_label ?_
            | refine V_ret ?_
            | refine V_block ?_
            | refine V_block_x rfl ?_
            | refine V_block_y rfl ?_
            | refine V_seq_x ?_
            | refine V_loop_x ?_
            | refine W_cond_t rfl ?_
            | refine W_cond_f rfl ?_
            | refine WO_dst rfl rfl (by kernel_rfl) (by kernel_rfl) ?_
            | refine WO_no rfl rfl ?_
            | refine WO_guard_t rfl rfl rfl rfl rfl (by kernel_rfl) (by kernel_rfl) ?_
            | refine WO_guard_f rfl rfl rfl rfl rfl rfl (by kernel_rfl) (by kernel_rfl) ?_
            | refine WO_guard_x rfl rfl rfl rfl rfl (by kernel_rfl) (by kernel_rfl) ?_
            | refine Ev_move rfl ?_
            | refine Ev_assign rfl ?_
            | refine Ev_extract rfl rfl ?_
            | refine Ev_pick_t rfl rfl rfl ?_
            | refine Ev_pick_f rfl rfl rfl ?_
            | refine Ev_lssN rfl rfl ?_
            | refine Ev_leqN rfl rfl ?_
            | refine Ev_gtrN rfl rfl ?_
            | refine Ev_geqN rfl rfl ?_
            | refine Ev_eqlN rfl rfl ?_
            | refine Ev_neqN rfl rfl ?_
            | refine Ev_lss rfl rfl ?_
            | refine Ev_leq rfl rfl ?_
            | refine Ev_gtr rfl rfl ?_
            | refine Ev_geq rfl rfl ?_
            | refine Ev_eql rfl rfl ?_
            | refine Ev_neq rfl rfl ?_
            | refine Ev_seql rfl rfl ?_
            | refine Ev_sneq rfl rfl ?_
            | refine Ev_not rfl ?_
            | refine Ev_notb rfl ?_
            | refine Ev_nilCheck rfl ?_
            | refine Ev_fieldAddr rfl rfl rfl rfl rfl rfl ?_
            | refine Ev_len_str rfl rfl rfl rfl rfl ?_
            | refine Ev_len rfl rfl rfl rfl rfl rfl ?_
            | refine Ev_min rfl rfl rfl ?_
            | refine Ev_max rfl rfl rfl ?_
            | refine Ev_indexAddr rfl rfl rfl rfl rfl (by first | omega | (dsimp only; done) | (dsimp only; omega)) ?_
            | refine Ev_makeFunc rfl rfl ?_
            | refine Ev_conv_str rfl rfl rfl rfl rfl ?_
            | refine Ev_addN rfl rfl (by simp only [lim]; omega) ?_
            | refine Ev_subN rfl rfl (by simp only [lim]; omega) (by first | omega | (dsimp only; done) | (dsimp only; omega)) ?_
            | refine Ev_mulN rfl rfl (by simp only [lim]; omega) ?_
            | refine Ev_add rfl rfl (by simp only [inR]; omega) ?_
            | refine Ev_sub rfl rfl (by simp only [inR]; omega) ?_
            | refine Ev_mul rfl rfl (by simp only [inR]; omega) ?_
            | refine Ev_shrN (m := 6) (q := 64) rfl rfl rfl rfl ?_
            | refine Ev_shrN (m := 12) (q := 4096) rfl rfl rfl rfl ?_
            | refine Ev_shrN (m := 10) (q := 1024) rfl rfl rfl rfl ?_
            | refine Ev_shrN (m := 8) (q := 256) rfl rfl rfl rfl ?_
            | refine Ev_shrN (m := 4) (q := 16) rfl rfl rfl rfl ?_
            | refine Ev_shrN (m := 5) (q := 32) rfl rfl rfl rfl ?_
            | refine Ev_shrN (m := 7) (q := 128) rfl rfl rfl rfl ?_
            | refine Ev_shrN (m := 3) (q := 8) rfl rfl rfl rfl ?_
            | refine Ev_shrN (m := 18) (q := 262144) rfl rfl rfl rfl ?_
            | refine Ev_shlN (m := 6) (q := 64) rfl rfl rfl rfl (by simp only [lim]; omega) ?_
            | refine Ev_shlN (m := 12) (q := 4096) rfl rfl rfl rfl (by simp only [lim]; omega) ?_
            | refine Ev_shlN (m := 10) (q := 1024) rfl rfl rfl rfl (by simp only [lim]; omega) ?_
            | refine Ev_shlN (m := 8) (q := 256) rfl rfl rfl rfl (by simp only [lim]; omega) ?_
            | refine Ev_andN 3 8 rfl rfl rfl rfl (by simp only [lim]; omega) (by simp only [lim]; omega) ?_
            | refine Ev_andN 4 16 rfl rfl rfl rfl (by simp only [lim]; omega) (by simp only [lim]; omega) ?_
            | refine Ev_andN 5 32 rfl rfl rfl rfl (by simp only [lim]; omega) (by simp only [lim]; omega) ?_
            | refine Ev_andN 6 64 rfl rfl rfl rfl (by simp only [lim]; omega) (by simp only [lim]; omega) ?_
            | refine Ev_andN 10 1024 rfl rfl rfl rfl (by simp only [lim]; omega) (by simp only [lim]; omega) ?_
            | refine Ev_orN 4 rfl rfl rfl (by first | omega | (dsimp only; done) | (dsimp only; omega)) (by first | omega | (dsimp only; done) | (dsimp only; omega)) (by simp only [lim]; omega) ?_
            | refine Ev_orN 5 rfl rfl rfl (by first | omega | (dsimp only; done) | (dsimp only; omega)) (by first | omega | (dsimp only; done) | (dsimp only; omega)) (by simp only [lim]; omega) ?_
            | refine Ev_orN 6 rfl rfl rfl (by first | omega | (dsimp only; done) | (dsimp only; omega)) (by first | omega | (dsimp only; done) | (dsimp only; omega)) (by simp only [lim]; omega) ?_
            | refine Ev_orN 10 rfl rfl rfl (by first | omega | (dsimp only; done) | (dsimp only; omega)) (by first | omega | (dsimp only; done) | (dsimp only; omega)) (by simp only [lim]; omega) ?_
            | refine Ev_orN 12 rfl rfl rfl (by first | omega | (dsimp only; done) | (dsimp only; omega)) (by first | omega | (dsimp only; done) | (dsimp only; omega)) (by simp only [lim]; omega) ?_
            | refine Ev_orN 16 rfl rfl rfl (by first | omega | (dsimp only; done) | (dsimp only; omega)) (by first | omega | (dsimp only; done) | (dsimp only; omega)) (by simp only [lim]; omega) ?_
            | refine Ev_convN rfl rfl rfl rfl rfl (by simp only [lim]; omega) ?_
            | refine Ev_and8 rfl rfl (by first | omega | (dsimp only; done) | (dsimp only; omega)) (by first | omega | (dsimp only; done) | (dsimp only; omega)) (land_192 (by first | omega | (dsimp only; done) | (dsimp only; omega))) (by first | omega | (dsimp only; done) | (dsimp only; omega)) ?_
            | refine Ev_and8 rfl rfl (by first | omega | (dsimp only; done) | (dsimp only; omega)) (by first | omega | (dsimp only; done) | (dsimp only; omega)) (land_224 (by first | omega | (dsimp only; done) | (dsimp only; omega))) (by first | omega | (dsimp only; done) | (dsimp only; omega)) ?_
            | refine Ev_and8 rfl rfl (by first | omega | (dsimp only; done) | (dsimp only; omega)) (by first | omega | (dsimp only; done) | (dsimp only; omega)) (land_240 (by first | omega | (dsimp only; done) | (dsimp only; omega))) (by first | omega | (dsimp only; done) | (dsimp only; omega)) ?_
            | refine Ev_shr rfl rfl rfl rfl ?_
            | refine Ev_conv rfl rfl rfl rfl rfl (by simp only [inR]; omega) ?_
            | refine Ev_conv8 rfl rfl rfl rfl rfl ?_)
        refine W_cond rfl (fun hc1 => ?_) (fun hc1 => ?_)
        · dsimp only at hc1
          repeat (
            first
              | refine W_seq ?_
              | refine WO_nil ?_
              | refine V_seq ?_
              | refine W_region ?_
              | refine W_drawn (by kernel_rfl) ?_
              | refine W_block ?_
              | refine W_scope ?_
              | refine W_skip ?_
              | refine W_ret ?_
              | refine W_exit ?_
              | refine W_label ?_
              | refine V_ret ?_
              | refine V_block ?_
              | refine V_block_x rfl ?_
              | refine V_block_y rfl ?_
              | refine V_seq_x ?_
              | refine V_loop_x ?_
              | refine W_cond_t rfl ?_
              | refine W_cond_f rfl ?_
              | refine WO_dst rfl rfl (by kernel_rfl) (by kernel_rfl) ?_
              | refine WO_no rfl rfl ?_
              | refine WO_guard_t rfl rfl rfl rfl rfl (by kernel_rfl) (by kernel_rfl) ?_
              | refine WO_guard_f rfl rfl rfl rfl rfl rfl (by kernel_rfl) (by kernel_rfl) ?_
              | refine WO_guard_x rfl rfl rfl rfl rfl (by kernel_rfl) (by kernel_rfl) ?_
              | refine Ev_move rfl ?_
              | refine Ev_assign rfl ?_
              | refine Ev_extract rfl rfl ?_
              | refine Ev_pick_t rfl rfl rfl ?_
              | refine Ev_pick_f rfl rfl rfl ?_
              | refine Ev_lssN rfl rfl ?_
              | refine Ev_leqN rfl rfl ?_
              | refine Ev_gtrN rfl rfl ?_
              | refine Ev_geqN rfl rfl ?_
              | refine Ev_eqlN rfl rfl ?_
              | refine Ev_neqN rfl rfl ?_
              | refine Ev_lss rfl rfl ?_
              | refine Ev_leq rfl rfl ?_
              | refine Ev_gtr rfl rfl ?_
              | refine Ev_geq rfl rfl ?_
              | refine Ev_eql rfl rfl ?_
              | refine Ev_neq rfl rfl ?_
              | refine Ev_seql rfl rfl ?_
              | refine Ev_sneq rfl rfl ?_
              | refine Ev_not rfl ?_
              | refine Ev_notb rfl ?_
              | refine Ev_nilCheck rfl ?_
              | refine Ev_fieldAddr rfl rfl rfl rfl rfl rfl ?_
              | refine Ev_len_str rfl rfl rfl rfl rfl ?_
              | refine Ev_len rfl rfl rfl rfl rfl rfl ?_
              | refine Ev_min rfl rfl rfl ?_
              | refine Ev_max rfl rfl rfl ?_
              | refine Ev_indexAddr rfl rfl rfl rfl rfl (by first | omega | (dsimp only; done) | (dsimp only; omega)) ?_
              | refine Ev_makeFunc rfl rfl ?_
              | refine Ev_conv_str rfl rfl rfl rfl rfl ?_
              | refine Ev_addN rfl rfl (by simp only [lim]; omega) ?_
              | refine Ev_subN rfl rfl (by simp only [lim]; omega) (by first | omega | (dsimp only; done) | (dsimp only; omega)) ?_
              | refine Ev_mulN rfl rfl (by simp only [lim]; omega) ?_
              | refine Ev_add rfl rfl (by simp only [inR]; omega) ?_
              | refine Ev_sub rfl rfl (by simp only [inR]; omega) ?_
              | refine Ev_mul rfl rfl (by simp only [inR]; omega) ?_
              | refine Ev_shrN (m := 6) (q := 64) rfl rfl rfl rfl ?_
              | refine Ev_shrN (m := 12) (q := 4096) rfl rfl rfl rfl ?_
              | refine Ev_shrN (m := 10) (q := 1024) rfl rfl rfl rfl ?_
              | refine Ev_shrN (m := 8) (q := 256) rfl rfl rfl rfl ?_
              | refine Ev_shrN (m := 4) (q := 16) rfl rfl rfl rfl ?_
              | refine Ev_shrN (m := 5) (q := 32) rfl rfl rfl rfl ?_
              | refine Ev_shrN (m := 7) (q := 128) rfl rfl rfl rfl ?_
              | refine Ev_shrN (m := 3) (q := 8) rfl rfl rfl rfl ?_
              | refine Ev_shrN (m := 18) (q := 262144) rfl rfl rfl rfl ?_
              | refine Ev_shlN (m := 6) (q := 64) rfl rfl rfl rfl (by simp only [lim]; omega) ?_
              | refine Ev_shlN (m := 12) (q := 4096) rfl rfl rfl rfl (by simp only [lim]; omega) ?_
              | refine Ev_shlN (m := 10) (q := 1024) rfl rfl rfl rfl (by simp only [lim]; omega) ?_
              | refine Ev_shlN (m := 8) (q := 256) rfl rfl rfl rfl (by simp only [lim]; omega) ?_
              | refine Ev_andN 3 8 rfl rfl rfl rfl (by simp only [lim]; omega) (by simp only [lim]; omega) ?_
              | refine Ev_andN 4 16 rfl rfl rfl rfl (by simp only [lim]; omega) (by simp only [lim]; omega) ?_
              | refine Ev_andN 5 32 rfl rfl rfl rfl (by simp only [lim]; omega) (by simp only [lim]; omega) ?_
              | refine Ev_andN 6 64 rfl rfl rfl rfl (by simp only [lim]; omega) (by simp only [lim]; omega) ?_
              | refine Ev_andN 10 1024 rfl rfl rfl rfl (by simp only [lim]; omega) (by simp only [lim]; omega) ?_
              | refine Ev_orN 4 rfl rfl rfl (by first | omega | (dsimp only; done) | (dsimp only; omega)) (by first | omega | (dsimp only; done) | (dsimp only; omega)) (by simp only [lim]; omega) ?_
              | refine Ev_orN 5 rfl rfl rfl (by first | omega | (dsimp only; done) | (dsimp only; omega)) (by first | omega | (dsimp only; done) | (dsimp only; omega)) (by simp only [lim]; omega) ?_
              | refine Ev_orN 6 rfl rfl rfl (by first | omega | (dsimp only; done) | (dsimp only; omega)) (by first | omega | (dsimp only; done) | (dsimp only; omega)) (by simp only [lim]; omega) ?_
              | refine Ev_orN 10 rfl rfl rfl (by first | omega | (dsimp only; done) | (dsimp only; omega)) (by first | omega | (dsimp only; done) | (dsimp only; omega)) (by simp only [lim]; omega) ?_
              | refine Ev_orN 12 rfl rfl rfl (by first | omega | (dsimp only; done) | (dsimp only; omega)) (by first | omega | (dsimp only; done) | (dsimp only; omega)) (by simp only [lim]; omega) ?_
              | refine Ev_orN 16 rfl rfl rfl (by first | omega | (dsimp only; done) | (dsimp only; omega)) (by first | omega | (dsimp only; done) | (dsimp only; omega)) (by simp only [lim]; omega) ?_
              | refine Ev_convN rfl rfl rfl rfl rfl (by simp only [lim]; omega) ?_
              | refine Ev_and8 rfl rfl (by first | omega | (dsimp only; done) | (dsimp only; omega)) (by first | omega | (dsimp only; done) | (dsimp only; omega)) (land_192 (by first | omega | (dsimp only; done) | (dsimp only; omega))) (by first | omega | (dsimp only; done) | (dsimp only; omega)) ?_
              | refine Ev_and8 rfl rfl (by first | omega | (dsimp only; done) | (dsimp only; omega)) (by first | omega | (dsimp only; done) | (dsimp only; omega)) (land_224 (by first | omega | (dsimp only; done) | (dsimp only; omega))) (by first | omega | (dsimp only; done) | (dsimp only; omega)) ?_
              | refine Ev_and8 rfl rfl (by first | omega | (dsimp only; done) | (dsimp only; omega)) (by first | omega | (dsimp only; done) | (dsimp only; omega)) (land_240 (by first | omega | (dsimp only; done) | (dsimp only; omega))) (by first | omega | (dsimp only; done) | (dsimp only; omega)) ?_
              | refine Ev_shr rfl rfl rfl rfl ?_
              | refine Ev_conv rfl rfl rfl rfl rfl (by simp only [inR]; omega) ?_
              | refine Ev_conv8 rfl rfl rfl rfl rfl ?_)
          refine Ev_call rfl rfl ((unit_runs how1 hok1 (by omega) (by omega) (by dsimp only; omega)).mono ?_)
          rintro v2 T2 - ⟨hF2, how2, hb2⟩
          have hle2 := hF2.le; have hn2 := hF2.n
          repeat (
            first
              | refine W_seq ?_
              | refine WO_nil ?_
              | refine V_seq ?_
              | refine W_region ?_
              | refine W_drawn (by kernel_rfl) ?_
              | refine W_block ?_
              | refine W_scope ?_
              | refine W_skip ?_
              | refine W_ret ?_
              | refine W_exit ?_
              | refine W_label ?_
              | refine V_ret ?_
              | refine V_block ?_
              | refine V_block_x rfl ?_
              | refine V_block_y rfl ?_
              | refine V_seq_x ?_
              | refine V_loop_x ?_
              | refine W_cond_t rfl ?_
              | refine W_cond_f rfl ?_
              | refine WO_dst rfl rfl (by kernel_rfl) (by kernel_rfl) ?_
              | refine WO_no rfl rfl ?_
              | refine WO_guard_t rfl rfl rfl rfl rfl (by kernel_rfl) (by kernel_rfl) ?_
              | refine WO_guard_f rfl rfl rfl rfl rfl rfl (by kernel_rfl) (by kernel_rfl) ?_
              | refine WO_guard_x rfl rfl rfl rfl rfl (by kernel_rfl) (by kernel_rfl) ?_
              | refine Ev_move rfl ?_
              | refine Ev_assign rfl ?_
              | refine Ev_extract rfl rfl ?_
              | refine Ev_pick_t rfl rfl rfl ?_
              | refine Ev_pick_f rfl rfl rfl ?_
              | refine Ev_lssN rfl rfl ?_
              | refine Ev_leqN rfl rfl ?_
              | refine Ev_gtrN rfl rfl ?_
              | refine Ev_geqN rfl rfl ?_
              | refine Ev_eqlN rfl rfl ?_
              | refine Ev_neqN rfl rfl ?_
              | refine Ev_lss rfl rfl ?_
              | refine Ev_leq rfl rfl ?_
              | refine Ev_gtr rfl rfl ?_
              | refine Ev_geq rfl rfl ?_
              | refine Ev_eql rfl rfl ?_
              | refine Ev_neq rfl rfl ?_
              | refine Ev_seql rfl rfl ?_
              | refine Ev_sneq rfl rfl ?_
              | refine Ev_not rfl ?_
              | refine Ev_notb rfl ?_
              | refine Ev_nilCheck rfl ?_
              | refine Ev_fieldAddr rfl rfl rfl rfl rfl rfl ?_
              | refine Ev_len_str rfl rfl rfl rfl rfl ?_
              | refine Ev_len rfl rfl rfl rfl rfl rfl ?_
              | refine Ev_min rfl rfl rfl ?_
              | refine Ev_max rfl rfl rfl ?_
              | refine Ev_indexAddr rfl rfl rfl rfl rfl (by first | omega | (dsimp only; done) | (dsimp only; omega)) ?_
              | refine Ev_makeFunc rfl rfl ?_
              | refine Ev_conv_str rfl rfl rfl rfl rfl ?_
              | refine Ev_addN rfl rfl (by simp only [lim]; omega) ?_
              | refine Ev_subN rfl rfl (by simp only [lim]; omega) (by first | omega | (dsimp only; done) | (dsimp only; omega)) ?_
              | refine Ev_mulN rfl rfl (by simp only [lim]; omega) ?_
              | refine Ev_add rfl rfl (by simp only [inR]; omega) ?_
              | refine Ev_sub rfl rfl (by simp only [inR]; omega) ?_
              | refine Ev_mul rfl rfl (by simp only [inR]; omega) ?_
              | refine Ev_shrN (m := 6) (q := 64) rfl rfl rfl rfl ?_
              | refine Ev_shrN (m := 12) (q := 4096) rfl rfl rfl rfl ?_
              | refine Ev_shrN (m := 10) (q := 1024) rfl rfl rfl rfl ?_
              | refine Ev_shrN (m := 8) (q := 256) rfl rfl rfl rfl ?_
              | refine Ev_shrN (m := 4) (q := 16) rfl rfl rfl rfl ?_
              | refine Ev_shrN (m := 5) (q := 32) rfl rfl rfl rfl ?_
              | refine Ev_shrN (m := 7) (q := 128) rfl rfl rfl rfl ?_
              | refine Ev_shrN (m := 3) (q := 8) rfl rfl rfl rfl ?_
              | refine Ev_shrN (m := 18) (q := 262144) rfl rfl rfl rfl ?_
              | refine Ev_shlN (m := 6) (q := 64) rfl rfl rfl rfl (by simp only [lim]; omega) ?_
              | refine Ev_shlN (m := 12) (q := 4096) rfl rfl rfl rfl (by simp only [lim]; omega) ?_
              | refine Ev_shlN (m := 10) (q := 1024) rfl rfl rfl rfl (by simp only [lim]; omega) ?_
              | refine Ev_shlN (m := 8) (q := 256) rfl rfl rfl rfl (by simp only [lim]; omega) ?_
              | refine Ev_andN 3 8 rfl rfl rfl rfl (by simp only [lim]; omega) (by simp only [lim]; omega) ?_
              | refine Ev_andN 4 16 rfl rfl rfl rfl (by simp only [lim]; omega) (by simp only [lim]; omega) ?_
              | refine Ev_andN 5 32 rfl rfl rfl rfl (by simp only [lim]; omega) (by simp only [lim]; omega) ?_
              | refine Ev_andN 6 64 rfl rfl rfl rfl (by simp only [lim]; omega) (by simp only [lim]; omega) ?_
              | refine Ev_andN 10 1024 rfl rfl rfl rfl (by simp only [lim]; omega) (by simp only [lim]; omega) ?_
              | refine Ev_orN 4 rfl rfl rfl (by first | omega | (dsimp only; done) | (dsimp only; omega)) (by first | omega | (dsimp only; done) | (dsimp only; omega)) (by simp only [lim]; omega) ?_
              | refine Ev_orN 5 rfl rfl rfl (by first | omega | (dsimp only; done) | (dsimp only; omega)) (by first | omega | (dsimp only; done) | (dsimp only; omega)) (by simp only [lim]; omega) ?_
              | refine Ev_orN 6 rfl rfl rfl (by first | omega | (dsimp only; done) | (dsimp only; omega)) (by first | omega | (dsimp only; done) | (dsimp only; omega)) (by simp only [lim]; omega) ?_
              | refine Ev_orN 10 rfl rfl rfl (by first | omega | (dsimp only; done) | (dsimp only; omega)) (by first | omega | (dsimp only; done) | (dsimp only; omega)) (by simp only [lim]; omega) ?_
              | refine Ev_orN 12 rfl rfl rfl (by first | omega | (dsimp only; done) | (dsimp only; omega)) (by first | omega | (dsimp only; done) | (dsimp only; omega)) (by simp only [lim]; omega) ?_
              | refine Ev_orN 16 rfl rfl rfl (by first | omega | (dsimp only; done) | (dsimp only; omega)) (by first | omega | (dsimp only; done) | (dsimp only; omega)) (by simp only [lim]; omega) ?_
              | refine Ev_convN rfl rfl rfl rfl rfl (by simp only [lim]; omega) ?_
              | refine Ev_and8 rfl rfl (by first | omega | (dsimp only; done) | (dsimp only; omega)) (by first | omega | (dsimp only; done) | (dsimp only; omega)) (land_192 (by first | omega | (dsimp only; done) | (dsimp only; omega))) (by first | omega | (dsimp only; done) | (dsimp only; omega)) ?_
              | refine Ev_and8 rfl rfl (by first | omega | (dsimp only; done) | (dsimp only; omega)) (by first | omega | (dsimp only; done) | (dsimp only; omega)) (land_224 (by first | omega | (dsimp only; done) | (dsimp only; omega))) (by first | omega | (dsimp only; done) | (dsimp only; omega)) ?_
              | refine Ev_and8 rfl rfl (by first | omega | (dsimp only; done) | (dsimp only; omega)) (by first | omega | (dsimp only; done) | (dsimp only; omega)) (land_240 (by first | omega | (dsimp only; done) | (dsimp only; omega))) (by first | omega | (dsimp only; done) | (dsimp only; omega)) ?_
              | refine Ev_shr rfl rfl rfl rfl ?_
              | refine Ev_conv rfl rfl rfl rfl rfl (by simp only [inR]; omega) ?_
              | refine Ev_conv8 rfl rfl rfl rfl rfl ?_)
          refine Ev_call rfl rfl ((unit_runs how2 hF2.ok (by omega) (by have := unitL_len (55296 + (c - 65536) / 1024); simp only [List.length_append]; omega) (by dsimp only; omega)).mono ?_)
          rintro v3 T3 - ⟨hF3, how3, hb3⟩
          have hle3 := hF3.le; have hn3 := hF3.n
          repeat (
            first
              | refine W_seq ?_
              | refine WO_nil ?_
              | refine V_seq ?_
              | refine W_region ?_
              | refine W_drawn (by kernel_rfl) ?_
              | refine W_block ?_
              | refine W_scope ?_
              | refine W_skip ?_
              | refine W_ret ?_
              | refine W_exit ?_
              | refine W_label ?_
              | refine V_ret ?_
              | refine V_block ?_
              | refine V_block_x rfl ?_
              | refine V_block_y rfl ?_
              | refine V_seq_x ?_
              | refine V_loop_x ?_
              | refine W_cond_t rfl ?_
              | refine W_cond_f rfl ?_
              | refine WO_dst rfl rfl (by kernel_rfl) (by kernel_rfl) ?_
              | refine WO_no rfl rfl ?_
              | refine WO_guard_t rfl rfl rfl rfl rfl (by kernel_rfl) (by kernel_rfl) ?_
              | refine WO_guard_f rfl rfl rfl rfl rfl rfl (by kernel_rfl) (by kernel_rfl) ?_
              | refine WO_guard_x rfl rfl rfl rfl rfl (by kernel_rfl) (by kernel_rfl) ?_
              | refine Ev_move rfl ?_
              | refine Ev_assign rfl ?_
              | refine Ev_extract rfl rfl ?_
              | refine Ev_pick_t rfl rfl rfl ?_
              | refine Ev_pick_f rfl rfl rfl ?_
              | refine Ev_lssN rfl rfl ?_
              | refine Ev_leqN rfl rfl ?_
              | refine Ev_gtrN rfl rfl ?_
              | refine Ev_geqN rfl rfl ?_
              | refine Ev_eqlN rfl rfl ?_
              | refine Ev_neqN rfl rfl ?_
              | refine Ev_lss rfl rfl ?_
              | refine Ev_leq rfl rfl ?_
              | refine Ev_gtr rfl rfl ?_
              | refine Ev_geq rfl rfl ?_
              | refine Ev_eql rfl rfl ?_
              | refine Ev_neq rfl rfl ?_
              | refine Ev_seql rfl rfl ?_
              | refine Ev_sneq rfl rfl ?_
              | refine Ev_not rfl ?_
              | refine Ev_notb rfl ?_
              | refine Ev_nilCheck rfl ?_
              | refine Ev_fieldAddr rfl rfl rfl rfl rfl rfl ?_
              | refine Ev_len_str rfl rfl rfl rfl rfl ?_
              | refine Ev_len rfl rfl rfl rfl rfl rfl ?_
              | refine Ev_min rfl rfl rfl ?_
              | refine Ev_max rfl rfl rfl ?_
              | refine Ev_indexAddr rfl rfl rfl rfl rfl (by first | omega | (dsimp only; done) | (dsimp only; omega)) ?_
              | refine Ev_makeFunc rfl rfl ?_
              | refine Ev_conv_str rfl rfl rfl rfl rfl ?_
              | refine Ev_addN rfl rfl (by simp only [lim]; omega) ?_
              | refine Ev_subN rfl rfl (by simp only [lim]; omega) (by first | omega | (dsimp only; done) | (dsimp only; omega)) ?_
              | refine Ev_mulN rfl rfl (by simp only [lim]; omega) ?_
              | refine Ev_add rfl rfl (by simp only [inR]; omega) ?_
              | refine Ev_sub rfl rfl (by simp only [inR]; omega) ?_
              | refine Ev_mul rfl rfl (by simp only [inR]; omega) ?_
              | refine Ev_shrN (m := 6) (q := 64) rfl rfl rfl rfl ?_
              | refine Ev_shrN (m := 12) (q := 4096) rfl rfl rfl rfl ?_
              | refine Ev_shrN (m := 10) (q := 1024) rfl rfl rfl rfl ?_
              | refine Ev_shrN (m := 8) (q := 256) rfl rfl rfl rfl ?_
              | refine Ev_shrN (m := 4) (q := 16) rfl rfl rfl rfl ?_
              | refine Ev_shrN (m := 5) (q := 32) rfl rfl rfl rfl ?_
              | refine Ev_shrN (m := 7) (q := 128) rfl rfl rfl rfl ?_
              | refine Ev_shrN (m := 3) (q := 8) rfl rfl rfl rfl ?_
              | refine Ev_shrN (m := 18) (q := 262144) rfl rfl rfl rfl ?_
              | refine Ev_shlN (m := 6) (q := 64) rfl rfl rfl rfl (by simp only [lim]; omega) ?_
              | refine Ev_shlN (m := 12) (q := 4096) rfl rfl rfl rfl (by simp only [lim]; omega) ?_
              | refine Ev_shlN (m := 10) (q := 1024) rfl rfl rfl rfl (by simp only [lim]; omega) ?_
              | refine Ev_shlN (m := 8) (q := 256) rfl rfl rfl rfl (by simp only [lim]; omega) ?_
              | refine Ev_andN 3 8 rfl rfl rfl rfl (by simp only [lim]; omega) (by simp only [lim]; omega) ?_
              | refine Ev_andN 4 16 rfl rfl rfl rfl (by simp only [lim]; omega) (by simp only [lim]; omega) ?_
              | refine Ev_andN 5 32 rfl rfl rfl rfl (by simp only [lim]; omega) (by simp only [lim]; omega) ?_
              | refine Ev_andN 6 64 rfl rfl rfl rfl (by simp only [lim]; omega) (by simp only [lim]; omega) ?_
              | refine Ev_andN 10 1024 rfl rfl rfl rfl (by simp only [lim]; omega) (by simp only [lim]; omega) ?_
              | refine Ev_orN 4 rfl rfl rfl (by first | omega | (dsimp only; done) | (dsimp only; omega)) (by first | omega | (dsimp only; done) | (dsimp only; omega)) (by simp only [lim]; omega) ?_
              | refine Ev_orN 5 rfl rfl rfl (by first | omega | (dsimp only; done) | (dsimp only; omega)) (by first | omega | (dsimp only; done) | (dsimp only; omega)) (by simp only [lim]; omega) ?_
              | refine Ev_orN 6 rfl rfl rfl (by first | omega | (dsimp only; done) | (dsimp only; omega)) (by first | omega | (dsimp only; done) | (dsimp only; omega)) (by simp only [lim]; omega) ?_
              | refine Ev_orN 10 rfl rfl rfl (by first | omega | (dsimp only; done) | (dsimp only; omega)) (by first | omega | (dsimp only; done) | (dsimp only; omega)) (by simp only [lim]; omega) ?_
              | refine Ev_orN 12 rfl rfl rfl (by first | omega | (dsimp only; done) | (dsimp only; omega)) (by first | omega | (dsimp only; done) | (dsimp only; omega)) (by simp only [lim]; omega) ?_
              | refine Ev_orN 16 rfl rfl rfl (by first | omega | (dsimp only; done) | (dsimp only; omega)) (by first | omega | (dsimp only; done) | (dsimp only; omega)) (by simp only [lim]; omega) ?_
              | refine Ev_convN rfl rfl rfl rfl rfl (by simp only [lim]; omega) ?_
              | refine Ev_and8 rfl rfl (by first | omega | (dsimp only; done) | (dsimp only; omega)) (by first | omega | (dsimp only; done) | (dsimp only; omega)) (land_192 (by first | omega | (dsimp only; done) | (dsimp only; omega))) (by first | omega | (dsimp only; done) | (dsimp only; omega)) ?_
              | refine Ev_and8 rfl rfl (by first | omega | (dsimp only; done) | (dsimp only; omega)) (by first | omega | (dsimp only; done) | (dsimp only; omega)) (land_224 (by first | omega | (dsimp only; done) | (dsimp only; omega))) (by first | omega | (dsimp only; done) | (dsimp only; omega)) ?_
              | refine Ev_and8 rfl rfl (by first | omega | (dsimp only; done) | (dsimp only; omega)) (by first | omega | (dsimp only; done) | (dsimp only; omega)) (land_240 (by first | omega | (dsimp only; done) | (dsimp only; omega))) (by first | omega | (dsimp only; done) | (dsimp only; omega)) ?_
              | refine Ev_shr rfl rfl rfl rfl ?_
              | refine Ev_conv rfl rfl rfl rfl rfl (by simp only [inR]; omega) ?_
              | refine Ev_conv8 rfl rfl rfl rfl rfl ?_)
          have he1 : enc1 c = unitL (55296 + (c - 65536) / 1024) ++ unitL (56320 + (c - 65536) % 1024) := by unfold enc1; rw [if_pos hc1]
          have h6 := enc1_len c
          have hbk2 : ∀ b, blkOf v2 = some b → S.n < b := fun b hb => by
            rcases hb2 b hb with h | h
            · exact hbk b h
            · omega
          refine back (pos + w, v3, l ++ enc1 c) T3 _ (by dsimp only; omega) ⟨?_, hF3.ok, ?_, ?_, ?_, ?_, by omega, by dsimp only; omega, ?_, ?_⟩ ⟨rfl, rfl, trivial⟩
          · dsimp only; omega
          · rw [hF3.same _ (by intro h; have := hbk2 _ h; omega) (by omega), hF2.same _ (by intro h; have := hbk _ h; omega) (by omega)]; exact hit1
          · rw [he1]; exact how3.eq (by rw [List.append_assoc]) (by rw [List.append_assoc])
          · dsimp only; rw [List.append_assoc]; exact heq'
          · dsimp only; rw [List.length_append]; omega
          · intro b hb
            rw [hF3.same _ (by intro h; have := hbk2 _ h; omega) (by omega), hF2.same _ (by intro h; have := hbk _ h; omega) (by omega), hf1 b (by omega)]; exact hfr b hb
          · intro b hb
            rcases hb3 b hb with h | h
            · exact hbk2 b h
            · omega
        · dsimp only at hc1
          repeat (
            first
              | refine W_seq ?_
              | refine WO_nil ?_
              | refine V_seq ?_
              | refine W_region ?_
              | refine W_drawn (by kernel_rfl) ?_
              | refine W_block ?_
              | refine W_scope ?_
              | refine W_skip ?_
              | refine W_ret ?_
              | refine W_exit ?_
              | refine W_label ?_
              | refine V_ret ?_
              | refine V_block ?_
              | refine V_block_x rfl ?_
              | refine V_block_y rfl ?_
              | refine V_seq_x ?_
              | refine V_loop_x ?_
              | refine W_cond_t rfl ?_
              | refine W_cond_f rfl ?_
              | refine WO_dst rfl rfl (by kernel_rfl) (by kernel_rfl) ?_
              | refine WO_no rfl rfl ?_
              | refine WO_guard_t rfl rfl rfl rfl rfl (by kernel_rfl) (by kernel_rfl) ?_
              | refine WO_guard_f rfl rfl rfl rfl rfl rfl (by kernel_rfl) (by kernel_rfl) ?_
              | refine WO_guard_x rfl rfl rfl rfl rfl (by kernel_rfl) (by kernel_rfl) ?_
              | refine Ev_move rfl ?_
              | refine Ev_assign rfl ?_
              | refine Ev_extract rfl rfl ?_
              | refine Ev_pick_t rfl rfl rfl ?_
              | refine Ev_pick_f rfl rfl rfl ?_
              | refine Ev_lssN rfl rfl ?_
              | refine Ev_leqN rfl rfl ?_
              | refine Ev_gtrN rfl rfl ?_
              | refine Ev_geqN rfl rfl ?_
              | refine Ev_eqlN rfl rfl ?_
              | refine Ev_neqN rfl rfl ?_
              | refine Ev_lss rfl rfl ?_
              | refine Ev_leq rfl rfl ?_
              | refine Ev_gtr rfl rfl ?_
              | refine Ev_geq rfl rfl ?_
              | refine Ev_eql rfl rfl ?_
              | refine Ev_neq rfl rfl ?_
              | refine Ev_seql rfl rfl ?_
              | refine Ev_sneq rfl rfl ?_
              | refine Ev_not rfl ?_
              | refine Ev_notb rfl ?_
              | refine Ev_nilCheck rfl ?_
              | refine Ev_fieldAddr rfl rfl rfl rfl rfl rfl ?_
              | refine Ev_len_str rfl rfl rfl rfl rfl ?_
              | refine Ev_len rfl rfl rfl rfl rfl rfl ?_
              | refine Ev_min rfl rfl rfl ?_
              | refine Ev_max rfl rfl rfl ?_
              | refine Ev_indexAddr rfl rfl rfl rfl rfl (by first | omega | (dsimp only; done) | (dsimp only; omega)) ?_
              | refine Ev_makeFunc rfl rfl ?_
              | refine Ev_conv_str rfl rfl rfl rfl rfl ?_
              | refine Ev_addN rfl rfl (by simp only [lim]; omega) ?_
              | refine Ev_subN rfl rfl (by simp only [lim]; omega) (by first | omega | (dsimp only; done) | (dsimp only; omega)) ?_
              | refine Ev_mulN rfl rfl (by simp only [lim]; omega) ?_
              | refine Ev_add rfl rfl (by simp only [inR]; omega) ?_
              | refine Ev_sub rfl rfl (by simp only [inR]; omega) ?_
              | refine Ev_mul rfl rfl (by simp only [inR]; omega) ?_
              | refine Ev_shrN (m := 6) (q := 64) rfl rfl rfl rfl ?_
              | refine Ev_shrN (m := 12) (q := 4096) rfl rfl rfl rfl ?_
              | refine Ev_shrN (m := 10) (q := 1024) rfl rfl rfl rfl ?_
              | refine Ev_shrN (m := 8) (q := 256) rfl rfl rfl rfl ?_
              | refine Ev_shrN (m := 4) (q := 16) rfl rfl rfl rfl ?_
              | refine Ev_shrN (m := 5) (q := 32) rfl rfl rfl rfl ?_
              | refine Ev_shrN (m := 7) (q := 128) rfl rfl rfl rfl ?_
              | refine Ev_shrN (m := 3) (q := 8) rfl rfl rfl rfl ?_
              | refine Ev_shrN (m := 18) (q := 262144) rfl rfl rfl rfl ?_
              | refine Ev_shlN (m := 6) (q := 64) rfl rfl rfl rfl (by simp only [lim]; omega) ?_
              | refine Ev_shlN (m := 12) (q := 4096) rfl rfl rfl rfl (by simp only [lim]; omega) ?_
              | refine Ev_shlN (m := 10) (q := 1024) rfl rfl rfl rfl (by simp only [lim]; omega) ?_
              | refine Ev_shlN (m := 8) (q := 256) rfl rfl rfl rfl (by simp only [lim]; omega) ?_
              | refine Ev_andN 3 8 rfl rfl rfl rfl (by simp only [lim]; omega) (by simp only [lim]; omega) ?_
              | refine Ev_andN 4 16 rfl rfl rfl rfl (by simp only [lim]; omega) (by simp only [lim]; omega) ?_
              | refine Ev_andN 5 32 rfl rfl rfl rfl (by simp only [lim]; omega) (by simp only [lim]; omega) ?_
              | refine Ev_andN 6 64 rfl rfl rfl rfl (by simp only [lim]; omega) (by simp only [lim]; omega) ?_
              | refine Ev_andN 10 1024 rfl rfl rfl rfl (by simp only [lim]; omega) (by simp only [lim]; omega) ?_
              | refine Ev_orN 4 rfl rfl rfl (by first | omega | (dsimp only; done) | (dsimp only; omega)) (by first | omega | (dsimp only; done) | (dsimp only; omega)) (by simp only [lim]; omega) ?_
              | refine Ev_orN 5 rfl rfl rfl (by first | omega | (dsimp only; done) | (dsimp only; omega)) (by first | omega | (dsimp only; done) | (dsimp only; omega)) (by simp only [lim]; omega) ?_
              | refine Ev_orN 6 rfl rfl rfl (by first | omega | (dsimp only; done) | (dsimp only; omega)) (by first | omega | (dsimp only; done) | (dsimp only; omega)) (by simp only [lim]; omega) ?_
              | refine Ev_orN 10 rfl rfl rfl (by first | omega | (dsimp only; done) | (dsimp only; omega)) (by first | omega | (dsimp only; done) | (dsimp only; omega)) (by simp only [lim]; omega) ?_
              | refine Ev_orN 12 rfl rfl rfl (by first | omega | (dsimp only; done) | (dsimp only; omega)) (by first | omega | (dsimp only; done) | (dsimp only; omega)) (by simp only [lim]; omega) ?_
              | refine Ev_orN 16 rfl rfl rfl (by first | omega | (dsimp only; done) | (dsimp only; omega)) (by first | omega | (dsimp only; done) | (dsimp only; omega)) (by simp only [lim]; omega) ?_
              | refine Ev_convN rfl rfl rfl rfl rfl (by simp only [lim]; omega) ?_
              | refine Ev_and8 rfl rfl (by first | omega | (dsimp only; done) | (dsimp only; omega)) (by first | omega | (dsimp only; done) | (dsimp only; omega)) (land_192 (by first | omega | (dsimp only; done) | (dsimp only; omega))) (by first | omega | (dsimp only; done) | (dsimp only; omega)) ?_
              | refine Ev_and8 rfl rfl (by first | omega | (dsimp only; done) | (dsimp only; omega)) (by first | omega | (dsimp only; done) | (dsimp only; omega)) (land_224 (by first | omega | (dsimp only; done) | (dsimp only; omega))) (by first | omega | (dsimp only; done) | (dsimp only; omega)) ?_
              | refine Ev_and8 rfl rfl (by first | omega | (dsimp only; done) | (dsimp only; omega)) (by first | omega | (dsimp only; done) | (dsimp only; omega)) (land_240 (by first | omega | (dsimp only; done) | (dsimp only; omega))) (by first | omega | (dsimp only; done) | (dsimp only; omega)) ?_
              | refine Ev_shr rfl rfl rfl rfl ?_
              | refine Ev_conv rfl rfl rfl rfl rfl (by simp only [inR]; omega) ?_
              | refine Ev_conv8 rfl rfl rfl rfl rfl ?_)
          refine Ev_call rfl rfl ((unit_runs how1 hok1 (by omega) (by omega) (by omega)).mono ?_)
          rintro v3 T3 - ⟨hF3, how3, hb3⟩
          have hle3 := hF3.le; have hn3 := hF3.n
          repeat (
            first
              | refine W_seq ?_
              | refine WO_nil ?_
              | refine V_seq ?_
              | refine W_region ?_
              | refine W_drawn (by kernel_rfl) ?_
              | refine W_block ?_
              | refine W_scope ?_
              | refine W_skip ?_
              | refine W_ret ?_
              | refine W_exit ?_
              | refine W_label ?_
              | refine V_ret ?_
              | refine V_block ?_
              | refine V_block_x rfl ?_
              | refine V_block_y rfl ?_
              | refine V_seq_x ?_
              | refine V_loop_x ?_
              | refine W_cond_t rfl ?_
              | refine W_cond_f rfl ?_
              | refine WO_dst rfl rfl (by kernel_rfl) (by kernel_rfl) ?_
              | refine WO_no rfl rfl ?_
              | refine WO_guard_t rfl rfl rfl rfl rfl (by kernel_rfl) (by kernel_rfl) ?_
              | refine WO_guard_f rfl rfl rfl rfl rfl rfl (by kernel_rfl) (by kernel_rfl) ?_
              | refine WO_guard_x rfl rfl rfl rfl rfl (by kernel_rfl) (by kernel_rfl) ?_
              | refine Ev_move rfl ?_
              | refine Ev_assign rfl ?_
              | refine Ev_extract rfl rfl ?_
              | refine Ev_pick_t rfl rfl rfl ?_
              | refine Ev_pick_f rfl rfl rfl ?_
              | refine Ev_lssN rfl rfl ?_
              | refine Ev_leqN rfl rfl ?_
              | refine Ev_gtrN rfl rfl ?_
              | refine Ev_geqN rfl rfl ?_
              | refine Ev_eqlN rfl rfl ?_
              | refine Ev_neqN rfl rfl ?_
              | refine Ev_lss rfl rfl ?_
              | refine Ev_leq rfl rfl ?_
              | refine Ev_gtr rfl rfl ?_
              | refine Ev_geq rfl rfl ?_
              | refine Ev_eql rfl rfl ?_
              | refine Ev_neq rfl rfl ?_
              | refine Ev_seql rfl rfl ?_
              | refine Ev_sneq rfl rfl ?_
              | refine Ev_not rfl ?_
              | refine Ev_notb rfl ?_
              | refine Ev_nilCheck rfl ?_
              | refine Ev_fieldAddr rfl rfl rfl rfl rfl rfl ?_
              | refine Ev_len_str rfl rfl rfl rfl rfl ?_
              | refine Ev_len rfl rfl rfl rfl rfl rfl ?_
              | refine Ev_min rfl rfl rfl ?_
              | refine Ev_max rfl rfl rfl ?_
              | refine Ev_indexAddr rfl rfl rfl rfl rfl (by first | omega | (dsimp only; done) | (dsimp only; omega)) ?_
              | refine Ev_makeFunc rfl rfl ?_
              | refine Ev_conv_str rfl rfl rfl rfl rfl ?_
              | refine Ev_addN rfl rfl (by simp only [lim]; omega) ?_
              | refine Ev_subN rfl rfl (by simp only [lim]; omega) (by first | omega | (dsimp only; done) | (dsimp only; omega)) ?_
              | refine Ev_mulN rfl rfl (by simp only [lim]; omega) ?_
              | refine Ev_add rfl rfl (by simp only [inR]; omega) ?_
              | refine Ev_sub rfl rfl (by simp only [inR]; omega) ?_
              | refine Ev_mul rfl rfl (by simp only [inR]; omega) ?_
              | refine Ev_shrN (m := 6) (q := 64) rfl rfl rfl rfl ?_
              | refine Ev_shrN (m := 12) (q := 4096) rfl rfl rfl rfl ?_
              | refine Ev_shrN (m := 10) (q := 1024) rfl rfl rfl rfl ?_
              | refine Ev_shrN (m := 8) (q := 256) rfl rfl rfl rfl ?_
              | refine Ev_shrN (m := 4) (q := 16) rfl rfl rfl rfl ?_
              | refine Ev_shrN (m := 5) (q := 32) rfl rfl rfl rfl ?_
              | refine Ev_shrN (m := 7) (q := 128) rfl rfl rfl rfl ?_
              | refine Ev_shrN (m := 3) (q := 8) rfl rfl rfl rfl ?_
              | refine Ev_shrN (m := 18) (q := 262144) rfl rfl rfl rfl ?_
              | refine Ev_shlN (m := 6) (q := 64) rfl rfl rfl rfl (by simp only [lim]; omega) ?_
              | refine Ev_shlN (m := 12) (q := 4096) rfl rfl rfl rfl (by simp only [lim]; omega) ?_
              | refine Ev_shlN (m := 10) (q := 1024) rfl rfl rfl rfl (by simp only [lim]; omega) ?_
              | refine Ev_shlN (m := 8) (q := 256) rfl rfl rfl rfl (by simp only [lim]; omega) ?_
              | refine Ev_andN 3 8 rfl rfl rfl rfl (by simp only [lim]; omega) (by simp only [lim]; omega) ?_
              | refine Ev_andN 4 16 rfl rfl rfl rfl (by simp only [lim]; omega) (by simp only [lim]; omega) ?_
              | refine Ev_andN 5 32 rfl rfl rfl rfl (by simp only [lim]; omega) (by simp only [lim]; omega) ?_
              | refine Ev_andN 6 64 rfl rfl rfl rfl (by simp only [lim]; omega) (by simp only [lim]; omega) ?_
              | refine Ev_andN 10 1024 rfl rfl rfl rfl (by simp only [lim]; omega) (by simp only [lim]; omega) ?_
              | refine Ev_orN 4 rfl rfl rfl (by first | omega | (dsimp only; done) | (dsimp only; omega)) (by first | omega | (dsimp only; done) | (dsimp only; omega)) (by simp only [lim]; omega) ?_
              | refine Ev_orN 5 rfl rfl rfl (by first | omega | (dsimp only; done) | (dsimp only; omega)) (by first | omega | (dsimp only; done) | (dsimp only; omega)) (by simp only [lim]; omega) ?_
              | refine Ev_orN 6 rfl rfl rfl (by first | omega | (dsimp only; done) | (dsimp only; omega)) (by first | omega | (dsimp only; done) | (dsimp only; omega)) (by simp only [lim]; omega) ?_
              | refine Ev_orN 10 rfl rfl rfl (by first | omega | (dsimp only; done) | (dsimp only; omega)) (by first | omega | (dsimp only; done) | (dsimp only; omega)) (by simp only [lim]; omega) ?_
              | refine Ev_orN 12 rfl rfl rfl (by first | omega | (dsimp only; done) | (dsimp only; omega)) (by first | omega | (dsimp only; done) | (dsimp only; omega)) (by simp only [lim]; omega) ?_
              | refine Ev_orN 16 rfl rfl rfl (by first | omega | (dsimp only; done) | (dsimp only; omega)) (by first | omega | (dsimp only; done) | (dsimp only; omega)) (by simp only [lim]; omega) ?_
              | refine Ev_convN rfl rfl rfl rfl rfl (by simp only [lim]; omega) ?_
              | refine Ev_and8 rfl rfl (by first | omega | (dsimp only; done) | (dsimp only; omega)) (by first | omega | (dsimp only; done) | (dsimp only; omega)) (land_192 (by first | omega | (dsimp only; done) | (dsimp only; omega))) (by first | omega | (dsimp only; done) | (dsimp only; omega)) ?_
              | refine Ev_and8 rfl rfl (by first | omega | (dsimp only; done) | (dsimp only; omega)) (by first | omega | (dsimp only; done) | (dsimp only; omega)) (land_224 (by first | omega | (dsimp only; done) | (dsimp only; omega))) (by first | omega | (dsimp only; done) | (dsimp only; omega)) ?_
              | refine Ev_and8 rfl rfl (by first | omega | (dsimp only; done) | (dsimp only; omega)) (by first | omega | (dsimp only; done) | (dsimp only; omega)) (land_240 (by first | omega | (dsimp only; done) | (dsimp only; omega))) (by first | omega | (dsimp only; done) | (dsimp only; omega)) ?_
              | refine Ev_shr rfl rfl rfl rfl ?_
              | refine Ev_conv rfl rfl rfl rfl rfl (by simp only [inR]; omega) ?_
              | refine Ev_conv8 rfl rfl rfl rfl rfl ?_)
          have he1 : enc1 c = unitL c := by unfold enc1; rw [if_neg hc1]
          have h6 := enc1_len c
          refine back (pos + w, v3, l ++ enc1 c) T3 _ (by dsimp only; omega) ⟨?_, hF3.ok, ?_, ?_, ?_, ?_, by omega, by dsimp only; omega, ?_, ?_⟩ ⟨rfl, rfl, trivial⟩
          · dsimp only; omega
          · rw [hF3.same _ (by intro h; have := hbk _ h; omega) (by omega)]; exact hit1
          · rw [he1]; exact how3
          · dsimp only; rw [List.append_assoc]; exact heq'
          · dsimp only; rw [List.length_append]; omega
          · intro b hb
            rw [hF3.same _ (by intro h; have := hbk _ h; omega) (by omega), hf1 b (by omega)]; exact hfr b hb
          · intro b hb
            rcases hb3 b hb with h | h
            · exact hbk b h
            · omega
    · exact ⟨by simp, hok1, hq1, .inl ⟨rfl, rfl, rfl⟩, by simp, by simp, by omega, by dsimp only; omega, hf1, fun c hc => by cases hc⟩
end Go.Proofs.YtnlfcoojlgdgaaaDoor
