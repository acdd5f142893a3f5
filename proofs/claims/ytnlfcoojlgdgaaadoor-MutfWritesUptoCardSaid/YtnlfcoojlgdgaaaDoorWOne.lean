/- mutf.one: the unit with which bytes begin. -/
import Derived.Test.YtnlfcoojlgdgaaaDoorWPure
namespace Go.Proofs.YtnlfcoojlgdgaaaDoor
open GX
set_option maxHeartbeats 4000000
/-- a slice of bytes that may be read -/
abbrev Br (S : St) (v : AV) (l : List Nat) : Prop := Rd S v 1 (sbytes l) l.length
theorem tail_runs {S : St} {v : AV} {l : List Nat} {q i : Nat} (hq : S.h.get q = some (.cells 22 [v] false)) (hv : Br S v l) (hb : ∀ c ∈ l, c < 256) (hi : i < l.length) :
    Runs X1 58 [.int .i64 (i : Int), .ptr q 0] S fun r S' => S' = S ∧ r = .tup [.int .i32 ((l.getD i 0 % 64 : Nat) : Int), .bool (decide (l.getD i 0 / 64 * 64 = 128))] := by
  have hx : (sbytes l)[i * 1]? = some (.int .u8 ((l.getD i 0 : Nat) : Int)) := by rw [Nat.mul_one, sbytes_get hi]
  have h8 : l.getD i 0 < 256 := getD_lt hb (by omega)
  generalize l.getD i 0 = c at *
  refine Runs_fn (m := 17) (by kernel_rfl) Tryd.func58 rfl (by kernel_rfl) (by kernel_rfl) ?_
  repeat (
    first
      | refine W_seq ?_
      | refine WO_nil ?_
      | refine V_seq ?_
      | refine W_region ?_
      | refine W_drawn (by kernel_rfl) ?_
      | refine W_block ?_
      | refine W_scope ?_
      | refine W_skip ?_
      | refine W_ret ?_
      | refine W_exit ?_
      | refine W_label ?_
      | refine V_ret ?_
      | refine V_block ?_
      | refine V_block_x rfl ?_
      | refine V_block_y rfl ?_
      | refine V_seq_x ?_
      | refine V_loop_x ?_
      | refine W_cond_t rfl ?_
      | refine W_cond_f rfl ?_
      | refine WO_dst rfl rfl (by kernel_rfl) (by kernel_rfl) ?_
      | refine WO_no rfl rfl ?_
      | refine WO_guard_t rfl rfl rfl rfl rfl (by kernel_rfl) (by kernel_rfl) ?_
      | refine WO_guard_f rfl rfl rfl rfl rfl rfl (by kernel_rfl) (by kernel_rfl) ?_
      | refine WO_guard_x rfl rfl rfl rfl rfl (by kernel_rfl) (by kernel_rfl) ?_
      | refine Ev_move rfl ?_
      | refine Ev_assign rfl ?_
      | refine Ev_extract rfl rfl ?_
      | refine Ev_pick_t rfl rfl rfl ?_
      | refine Ev_pick_f rfl rfl rfl ?_
      | refine Ev_lssN rfl rfl ?_
      | refine Ev_leqN rfl rfl ?_
      | refine Ev_gtrN rfl rfl ?_
      | refine Ev_geqN rfl rfl ?_
      | refine Ev_eqlN rfl rfl ?_
      | refine Ev_neqN rfl rfl ?_
      | refine Ev_lss rfl rfl ?_
      | refine Ev_leq rfl rfl ?_
      | refine Ev_gtr rfl rfl ?_
      | refine Ev_geq rfl rfl ?_
      | refine Ev_eql rfl rfl ?_
      | refine Ev_neq rfl rfl ?_
      | refine Ev_seql rfl rfl ?_
      | refine Ev_sneq rfl rfl ?_
      | refine Ev_not rfl ?_
      | refine Ev_notb rfl ?_
      | refine Ev_nilCheck rfl ?_
      | refine Ev_fieldAddr rfl rfl rfl rfl rfl rfl ?_
      | refine Ev_len_str rfl rfl rfl rfl rfl ?_
      | refine Ev_len rfl rfl rfl rfl rfl rfl ?_
      | refine Ev_min rfl rfl rfl ?_
      | refine Ev_max rfl rfl rfl ?_
      | refine Ev_indexAddr rfl rfl rfl rfl rfl (by first | omega | (dsimp only; done) | (dsimp only; omega)) ?_
      | refine Ev_makeFunc rfl rfl ?_
      | refine Ev_conv_str rfl rfl rfl rfl rfl ?_
      | refine Ev_addN rfl rfl (by simp only [lim]; omega) ?_
      | refine Ev_subN rfl rfl (by simp only [lim]; omega) (by first | omega | (dsimp only; done) | (dsimp only; omega)) ?_
      | refine Ev_mulN rfl rfl (by simp only [lim]; omega) ?_
      | refine Ev_add rfl rfl (by simp only [inR]; omega) ?_
      | refine Ev_sub rfl rfl (by simp only [inR]; omega) ?_
      | refine Ev_mul rfl rfl (by simp only [inR]; omega) ?_
      | refine Ev_shrN (m := 6) (q := 64) rfl rfl rfl rfl ?_
      | refine Ev_shrN (m := 12) (q := 4096) rfl rfl rfl rfl ?_
      | refine Ev_shrN (m := 10) (q := 1024) rfl rfl rfl rfl ?_
      | refine Ev_shrN (m := 8) (q := 256) rfl rfl rfl rfl ?_
      | refine Ev_shrN (m := 4) (q := 16) rfl rfl rfl rfl ?_
      | refine Ev_shrN (m := 5) (q := 32) rfl rfl rfl rfl ?_
      | refine Ev_shrN (m := 7) (q := 128) rfl rfl rfl rfl ?_
      | refine Ev_shrN (m := 3) (q := 8) rfl rfl rfl rfl ?_
      | refine Ev_shrN (m := 18) (q := 262144) rfl rfl rfl rfl ?_
      | refine Ev_shlN (m := 6) (q := 64) rfl rfl rfl rfl (by simp only [lim]; omega) ?_
      | refine Ev_shlN (m := 12) (q := 4096) rfl rfl rfl rfl (by simp only [lim]; omega) ?_
      | refine Ev_shlN (m := 10) (q := 1024) rfl rfl rfl rfl (by simp only [lim]; omega) ?_
      | refine Ev_shlN (m := 8) (q := 256) rfl rfl rfl rfl (by simp only [lim]; omega) ?_
      | refine Ev_andN 3 8 rfl rfl rfl rfl (by simp only [lim]; omega) (by simp only [lim]; omega) ?_
      | refine Ev_andN 4 16 rfl rfl rfl rfl (by simp only [lim]; omega) (by simp only [lim]; omega) ?_
      | refine Ev_andN 5 32 rfl rfl rfl rfl (by simp only [lim]; omega) (by simp only [lim]; omega) ?_
      | refine Ev_andN 6 64 rfl rfl rfl rfl (by simp only [lim]; omega) (by simp only [lim]; omega) ?_
      | refine Ev_andN 10 1024 rfl rfl rfl rfl (by simp only [lim]; omega) (by simp only [lim]; omega) ?_
      | refine Ev_orN 4 rfl rfl rfl (by first | omega | (dsimp only; done) | (dsimp only; omega)) (by first | omega | (dsimp only; done) | (dsimp only; omega)) (by simp only [lim]; omega) ?_
      | refine Ev_orN 5 rfl rfl rfl (by first | omega | (dsimp only; done) | (dsimp only; omega)) (by first | omega | (dsimp only; done) | (dsimp only; omega)) (by simp only [lim]; omega) ?_
      | refine Ev_orN 6 rfl rfl rfl (by first | omega | (dsimp only; done) | (dsimp only; omega)) (by first | omega | (dsimp only; done) | (dsimp only; omega)) (by simp only [lim]; omega) ?_
      | refine Ev_orN 10 rfl rfl rfl (by first | omega | (dsimp only; done) | (dsimp only; omega)) (by first | omega | (dsimp only; done) | (dsimp only; omega)) (by simp only [lim]; omega) ?_
      | refine Ev_orN 12 rfl rfl rfl (by first | omega | (dsimp only; done) | (dsimp only; omega)) (by first | omega | (dsimp only; done) | (dsimp only; omega)) (by simp only [lim]; omega) ?_
      | refine Ev_orN 16 rfl rfl rfl (by first | omega | (dsimp only; done) | (dsimp only; omega)) (by first | omega | (dsimp only; done) | (dsimp only; omega)) (by simp only [lim]; omega) ?_
      | refine Ev_convN rfl rfl rfl rfl rfl (by simp only [lim]; omega) ?_
      | refine Ev_and8 rfl rfl (by first | omega | (dsimp only; done) | (dsimp only; omega)) (by first | omega | (dsimp only; done) | (dsimp only; omega)) (land_192 (by first | omega | (dsimp only; done) | (dsimp only; omega))) (by first | omega | (dsimp only; done) | (dsimp only; omega)) ?_
      | refine Ev_and8 rfl rfl (by first | omega | (dsimp only; done) | (dsimp only; omega)) (by first | omega | (dsimp only; done) | (dsimp only; omega)) (land_224 (by first | omega | (dsimp only; done) | (dsimp only; omega))) (by first | omega | (dsimp only; done) | (dsimp only; omega)) ?_
      | refine Ev_and8 rfl rfl (by first | omega | (dsimp only; done) | (dsimp only; omega)) (by first | omega | (dsimp only; done) | (dsimp only; omega)) (land_240 (by first | omega | (dsimp only; done) | (dsimp only; omega))) (by first | omega | (dsimp only; done) | (dsimp only; omega)) ?_
      | refine Ev_shr rfl rfl rfl rfl ?_
      | refine Ev_conv rfl rfl rfl rfl rfl (by simp only [inR]; omega) ?_
      | refine Ev_conv8 rfl rfl rfl rfl rfl ?_)
  refine Ev_load rfl rfl rfl hq rfl hv.self ?_
  repeat (
    first
      | refine W_seq ?_
      | refine WO_nil ?_
      | refine V_seq ?_
      | refine W_region ?_
      | refine W_drawn (by kernel_rfl) ?_
      | refine W_block ?_
      | refine W_scope ?_
      | refine W_skip ?_
      | refine W_ret ?_
      | refine W_exit ?_
      | refine W_label ?_
      | refine V_ret ?_
      | refine V_block ?_
      | refine V_block_x rfl ?_
      | refine V_block_y rfl ?_
      | refine V_seq_x ?_
      | refine V_loop_x ?_
      | refine W_cond_t rfl ?_
      | refine W_cond_f rfl ?_
      | refine WO_dst rfl rfl (by kernel_rfl) (by kernel_rfl) ?_
      | refine WO_no rfl rfl ?_
      | refine WO_guard_t rfl rfl rfl rfl rfl (by kernel_rfl) (by kernel_rfl) ?_
      | refine WO_guard_f rfl rfl rfl rfl rfl rfl (by kernel_rfl) (by kernel_rfl) ?_
      | refine WO_guard_x rfl rfl rfl rfl rfl (by kernel_rfl) (by kernel_rfl) ?_
      | refine Ev_move rfl ?_
      | refine Ev_assign rfl ?_
      | refine Ev_extract rfl rfl ?_
      | refine Ev_pick_t rfl rfl rfl ?_
      | refine Ev_pick_f rfl rfl rfl ?_
      | refine Ev_lssN rfl rfl ?_
      | refine Ev_leqN rfl rfl ?_
      | refine Ev_gtrN rfl rfl ?_
      | refine Ev_geqN rfl rfl ?_
      | refine Ev_eqlN rfl rfl ?_
      | refine Ev_neqN rfl rfl ?_
      | refine Ev_lss rfl rfl ?_
      | refine Ev_leq rfl rfl ?_
      | refine Ev_gtr rfl rfl ?_
      | refine Ev_geq rfl rfl ?_
      | refine Ev_eql rfl rfl ?_
      | refine Ev_neq rfl rfl ?_
      | refine Ev_seql rfl rfl ?_
      | refine Ev_sneq rfl rfl ?_
      | refine Ev_not rfl ?_
      | refine Ev_notb rfl ?_
      | refine Ev_nilCheck rfl ?_
      | refine Ev_fieldAddr rfl rfl rfl rfl rfl rfl ?_
      | refine Ev_len_str rfl rfl rfl rfl rfl ?_
      | refine Ev_len rfl rfl rfl rfl rfl rfl ?_
      | refine Ev_min rfl rfl rfl ?_
      | refine Ev_max rfl rfl rfl ?_
      | refine Ev_indexAddr rfl rfl rfl rfl rfl (by first | omega | (dsimp only; done) | (dsimp only; omega)) ?_
      | refine Ev_makeFunc rfl rfl ?_
      | refine Ev_conv_str rfl rfl rfl rfl rfl ?_
      | refine Ev_addN rfl rfl (by simp only [lim]; omega) ?_
      | refine Ev_subN rfl rfl (by simp only [lim]; omega) (by first | omega | (dsimp only; done) | (dsimp only; omega)) ?_
      | refine Ev_mulN rfl rfl (by simp only [lim]; omega) ?_
      | refine Ev_add rfl rfl (by simp only [inR]; omega) ?_
      | refine Ev_sub rfl rfl (by simp only [inR]; omega) ?_
      | refine Ev_mul rfl rfl (by simp only [inR]; omega) ?_
      | refine Ev_shrN (m := 6) (q := 64) rfl rfl rfl rfl ?_
      | refine Ev_shrN (m := 12) (q := 4096) rfl rfl rfl rfl ?_
      | refine Ev_shrN (m := 10) (q := 1024) rfl rfl rfl rfl ?_
      | refine Ev_shrN (m := 8) (q := 256) rfl rfl rfl rfl ?_
      | refine Ev_shrN (m := 4) (q := 16) rfl rfl rfl rfl ?_
      | refine Ev_shrN (m := 5) (q := 32) rfl rfl rfl rfl ?_
      | refine Ev_shrN (m := 7) (q := 128) rfl rfl rfl rfl ?_
      | refine Ev_shrN (m := 3) (q := 8) rfl rfl rfl rfl ?_
      | refine Ev_shrN (m := 18) (q := 262144) rfl rfl rfl rfl ?_
      | refine Ev_shlN (m := 6) (q := 64) rfl rfl rfl rfl (by simp only [lim]; omega) ?_
      | refine Ev_shlN (m := 12) (q := 4096) rfl rfl rfl rfl (by simp only [lim]; omega) ?_
      | refine Ev_shlN (m := 10) (q := 1024) rfl rfl rfl rfl (by simp only [lim]; omega) ?_
      | refine Ev_shlN (m := 8) (q := 256) rfl rfl rfl rfl (by simp only [lim]; omega) ?_
      | refine Ev_andN 3 8 rfl rfl rfl rfl (by simp only [lim]; omega) (by simp only [lim]; omega) ?_
      | refine Ev_andN 4 16 rfl rfl rfl rfl (by simp only [lim]; omega) (by simp only [lim]; omega) ?_
      | refine Ev_andN 5 32 rfl rfl rfl rfl (by simp only [lim]; omega) (by simp only [lim]; omega) ?_
      | refine Ev_andN 6 64 rfl rfl rfl rfl (by simp only [lim]; omega) (by simp only [lim]; omega) ?_
      | refine Ev_andN 10 1024 rfl rfl rfl rfl (by simp only [lim]; omega) (by simp only [lim]; omega) ?_
      | refine Ev_orN 4 rfl rfl rfl (by first | omega | (dsimp only; done) | (dsimp only; omega)) (by first | omega | (dsimp only; done) | (dsimp only; omega)) (by simp only [lim]; omega) ?_
      | refine Ev_orN 5 rfl rfl rfl (by first | omega | (dsimp only; done) | (dsimp only; omega)) (by first | omega | (dsimp only; done) | (dsimp only; omega)) (by simp only [lim]; omega) ?_
      | refine Ev_orN 6 rfl rfl rfl (by first | omega | (dsimp only; done) | (dsimp only; omega)) (by first | omega | (dsimp only; done) | (dsimp only; omega)) (by simp only [lim]; omega) ?_
      | refine Ev_orN 10 rfl rfl rfl (by first | omega | (dsimp only; done) | (dsimp only; omega)) (by first | omega | (dsimp only; done) | (dsimp only; omega)) (by simp only [lim]; omega) ?_
      | refine Ev_orN 12 rfl rfl rfl (by first | omega | (dsimp only; done) | (dsimp only; omega)) (by first | omega | (dsimp only; done) | (dsimp only; omega)) (by simp only [lim]; omega) ?_
      | refine Ev_orN 16 rfl rfl rfl (by first | omega | (dsimp only; done) | (dsimp only; omega)) (by first | omega | (dsimp only; done) | (dsimp only; omega)) (by simp only [lim]; omega) ?_
      | refine Ev_convN rfl rfl rfl rfl rfl (by simp only [lim]; omega) ?_
      | refine Ev_and8 rfl rfl (by first | omega | (dsimp only; done) | (dsimp only; omega)) (by first | omega | (dsimp only; done) | (dsimp only; omega)) (land_192 (by first | omega | (dsimp only; done) | (dsimp only; omega))) (by first | omega | (dsimp only; done) | (dsimp only; omega)) ?_
      | refine Ev_and8 rfl rfl (by first | omega | (dsimp only; done) | (dsimp only; omega)) (by first | omega | (dsimp only; done) | (dsimp only; omega)) (land_224 (by first | omega | (dsimp only; done) | (dsimp only; omega))) (by first | omega | (dsimp only; done) | (dsimp only; omega)) ?_
      | refine Ev_and8 rfl rfl (by first | omega | (dsimp only; done) | (dsimp only; omega)) (by first | omega | (dsimp only; done) | (dsimp only; omega)) (land_240 (by first | omega | (dsimp only; done) | (dsimp only; omega))) (by first | omega | (dsimp only; done) | (dsimp only; omega)) ?_
      | refine Ev_shr rfl rfl rfl rfl ?_
      | refine Ev_conv rfl rfl rfl rfl rfl (by simp only [inR]; omega) ?_
      | refine Ev_conv8 rfl rfl rfl rfl rfl ?_)
  refine Ev_indexAddr_rd rfl rfl rfl rfl rfl hv hi ?_
  intro p hp
  repeat (
    first
      | refine W_seq ?_
      | refine WO_nil ?_
      | refine V_seq ?_
      | refine W_region ?_
      | refine W_drawn (by kernel_rfl) ?_
      | refine W_block ?_
      | refine W_scope ?_
      | refine W_skip ?_
      | refine W_ret ?_
      | refine W_exit ?_
      | refine W_label ?_
      | refine V_ret ?_
      | refine V_block ?_
      | refine V_block_x rfl ?_
      | refine V_block_y rfl ?_
      | refine V_seq_x ?_
      | refine V_loop_x ?_
      | refine W_cond_t rfl ?_
      | refine W_cond_f rfl ?_
      | refine WO_dst rfl rfl (by kernel_rfl) (by kernel_rfl) ?_
      | refine WO_no rfl rfl ?_
      | refine WO_guard_t rfl rfl rfl rfl rfl (by kernel_rfl) (by kernel_rfl) ?_
      | refine WO_guard_f rfl rfl rfl rfl rfl rfl (by kernel_rfl) (by kernel_rfl) ?_
      | refine WO_guard_x rfl rfl rfl rfl rfl (by kernel_rfl) (by kernel_rfl) ?_
      | refine Ev_move rfl ?_
      | refine Ev_assign rfl ?_
      | refine Ev_extract rfl rfl ?_
      | refine Ev_pick_t rfl rfl rfl ?_
      | refine Ev_pick_f rfl rfl rfl ?_
      | refine Ev_lssN rfl rfl ?_
      | refine Ev_leqN rfl rfl ?_
      | refine Ev_gtrN rfl rfl ?_
      | refine Ev_geqN rfl rfl ?_
      | refine Ev_eqlN rfl rfl ?_
      | refine Ev_neqN rfl rfl ?_
      | refine Ev_lss rfl rfl ?_
      | refine Ev_leq rfl rfl ?_
      | refine Ev_gtr rfl rfl ?_
      | refine Ev_geq rfl rfl ?_
      | refine Ev_eql rfl rfl ?_
      | refine Ev_neq rfl rfl ?_
      | refine Ev_seql rfl rfl ?_
      | refine Ev_sneq rfl rfl ?_
      | refine Ev_not rfl ?_
      | refine Ev_notb rfl ?_
      | refine Ev_nilCheck rfl ?_
      | refine Ev_fieldAddr rfl rfl rfl rfl rfl rfl ?_
      | refine Ev_len_str rfl rfl rfl rfl rfl ?_
      | refine Ev_len rfl rfl rfl rfl rfl rfl ?_
      | refine Ev_min rfl rfl rfl ?_
      | refine Ev_max rfl rfl rfl ?_
      | refine Ev_indexAddr rfl rfl rfl rfl rfl (by first | omega | (dsimp only; done) | (dsimp only; omega)) ?_
      | refine Ev_makeFunc rfl rfl ?_
      | refine Ev_conv_str rfl rfl rfl rfl rfl ?_
      | refine Ev_addN rfl rfl (by simp only [lim]; omega) ?_
      | refine Ev_subN rfl rfl (by simp only [lim]; omega) (by first | omega | (dsimp only; done) | (dsimp only; omega)) ?_
      | refine Ev_mulN rfl rfl (by simp only [lim]; omega) ?_
      | refine Ev_add rfl rfl (by simp only [inR]; omega) ?_
      | refine Ev_sub rfl rfl (by simp only [inR]; omega) ?_
      | refine Ev_mul rfl rfl (by simp only [inR]; omega) ?_
      | refine Ev_shrN (m := 6) (q := 64) rfl rfl rfl rfl ?_
      | refine Ev_shrN (m := 12) (q := 4096) rfl rfl rfl rfl ?_
      | refine Ev_shrN (m := 10) (q := 1024) rfl rfl rfl rfl ?_
      | refine Ev_shrN (m := 8) (q := 256) rfl rfl rfl rfl ?_
      | refine Ev_shrN (m := 4) (q := 16) rfl rfl rfl rfl ?_
      | refine Ev_shrN (m := 5) (q := 32) rfl rfl rfl rfl ?_
      | refine Ev_shrN (m := 7) (q := 128) rfl rfl rfl rfl ?_
      | refine Ev_shrN (m := 3) (q := 8) rfl rfl rfl rfl ?_
      | refine Ev_shrN (m := 18) (q := 262144) rfl rfl rfl rfl ?_
      | refine Ev_shlN (m := 6) (q := 64) rfl rfl rfl rfl (by simp only [lim]; omega) ?_
      | refine Ev_shlN (m := 12) (q := 4096) rfl rfl rfl rfl (by simp only [lim]; omega) ?_
      | refine Ev_shlN (m := 10) (q := 1024) rfl rfl rfl rfl (by simp only [lim]; omega) ?_
      | refine Ev_shlN (m := 8) (q := 256) rfl rfl rfl rfl (by simp only [lim]; omega) ?_
      | refine Ev_andN 3 8 rfl rfl rfl rfl (by simp only [lim]; omega) (by simp only [lim]; omega) ?_
      | refine Ev_andN 4 16 rfl rfl rfl rfl (by simp only [lim]; omega) (by simp only [lim]; omega) ?_
      | refine Ev_andN 5 32 rfl rfl rfl rfl (by simp only [lim]; omega) (by simp only [lim]; omega) ?_
      | refine Ev_andN 6 64 rfl rfl rfl rfl (by simp only [lim]; omega) (by simp only [lim]; omega) ?_
      | refine Ev_andN 10 1024 rfl rfl rfl rfl (by simp only [lim]; omega) (by simp only [lim]; omega) ?_
      | refine Ev_orN 4 rfl rfl rfl (by first | omega | (dsimp only; done) | (dsimp only; omega)) (by first | omega | (dsimp only; done) | (dsimp only; omega)) (by simp only [lim]; omega) ?_
      | refine Ev_orN 5 rfl rfl rfl (by first | omega | (dsimp only; done) | (dsimp only; omega)) (by first | omega | (dsimp only; done) | (dsimp only; omega)) (by simp only [lim]; omega) ?_
      | refine Ev_orN 6 rfl rfl rfl (by first | omega | (dsimp only; done) | (dsimp only; omega)) (by first | omega | (dsimp only; done) | (dsimp only; omega)) (by simp only [lim]; omega) ?_
      | refine Ev_orN 10 rfl rfl rfl (by first | omega | (dsimp only; done) | (dsimp only; omega)) (by first | omega | (dsimp only; done) | (dsimp only; omega)) (by simp only [lim]; omega) ?_
      | refine Ev_orN 12 rfl rfl rfl (by first | omega | (dsimp only; done) | (dsimp only; omega)) (by first | omega | (dsimp only; done) | (dsimp only; omega)) (by simp only [lim]; omega) ?_
      | refine Ev_orN 16 rfl rfl rfl (by first | omega | (dsimp only; done) | (dsimp only; omega)) (by first | omega | (dsimp only; done) | (dsimp only; omega)) (by simp only [lim]; omega) ?_
      | refine Ev_convN rfl rfl rfl rfl rfl (by simp only [lim]; omega) ?_
      | refine Ev_and8 rfl rfl (by first | omega | (dsimp only; done) | (dsimp only; omega)) (by first | omega | (dsimp only; done) | (dsimp only; omega)) (land_192 (by first | omega | (dsimp only; done) | (dsimp only; omega))) (by first | omega | (dsimp only; done) | (dsimp only; omega)) ?_
      | refine Ev_and8 rfl rfl (by first | omega | (dsimp only; done) | (dsimp only; omega)) (by first | omega | (dsimp only; done) | (dsimp only; omega)) (land_224 (by first | omega | (dsimp only; done) | (dsimp only; omega))) (by first | omega | (dsimp only; done) | (dsimp only; omega)) ?_
      | refine Ev_and8 rfl rfl (by first | omega | (dsimp only; done) | (dsimp only; omega)) (by first | omega | (dsimp only; done) | (dsimp only; omega)) (land_240 (by first | omega | (dsimp only; done) | (dsimp only; omega))) (by first | omega | (dsimp only; done) | (dsimp only; omega)) ?_
      | refine Ev_shr rfl rfl rfl rfl ?_
      | refine Ev_conv rfl rfl rfl rfl rfl (by simp only [inR]; omega) ?_
      | refine Ev_conv8 rfl rfl rfl rfl rfl ?_)
  refine Ev_load_pt rfl rfl rfl hp hx (veq_int _ _) ?_
  repeat (
    first
      | refine W_seq ?_
      | refine WO_nil ?_
      | refine V_seq ?_
      | refine W_region ?_
      | refine W_drawn (by kernel_rfl) ?_
      | refine W_block ?_
      | refine W_scope ?_
      | refine W_skip ?_
      | refine W_ret ?_
      | refine W_exit ?_
      | refine W_label ?_
      | refine V_ret ?_
      | refine V_block ?_
      | refine V_block_x rfl ?_
      | refine V_block_y rfl ?_
      | refine V_seq_x ?_
      | refine V_loop_x ?_
      | refine W_cond_t rfl ?_
      | refine W_cond_f rfl ?_
      | refine WO_dst rfl rfl (by kernel_rfl) (by kernel_rfl) ?_
      | refine WO_no rfl rfl ?_
      | refine WO_guard_t rfl rfl rfl rfl rfl (by kernel_rfl) (by kernel_rfl) ?_
      | refine WO_guard_f rfl rfl rfl rfl rfl rfl (by kernel_rfl) (by kernel_rfl) ?_
      | refine WO_guard_x rfl rfl rfl rfl rfl (by kernel_rfl) (by kernel_rfl) ?_
      | refine Ev_move rfl ?_
      | refine Ev_assign rfl ?_
      | refine Ev_extract rfl rfl ?_
      | refine Ev_pick_t rfl rfl rfl ?_
      | refine Ev_pick_f rfl rfl rfl ?_
      | refine Ev_lssN rfl rfl ?_
      | refine Ev_leqN rfl rfl ?_
      | refine Ev_gtrN rfl rfl ?_
      | refine Ev_geqN rfl rfl ?_
      | refine Ev_eqlN rfl rfl ?_
      | refine Ev_neqN rfl rfl ?_
      | refine Ev_lss rfl rfl ?_
      | refine Ev_leq rfl rfl ?_
      | refine Ev_gtr rfl rfl ?_
      | refine Ev_geq rfl rfl ?_
      | refine Ev_eql rfl rfl ?_
      | refine Ev_neq rfl rfl ?_
      | refine Ev_seql rfl rfl ?_
      | refine Ev_sneq rfl rfl ?_
      | refine Ev_not rfl ?_
      | refine Ev_notb rfl ?_
      | refine Ev_nilCheck rfl ?_
      | refine Ev_fieldAddr rfl rfl rfl rfl rfl rfl ?_
      | refine Ev_len_str rfl rfl rfl rfl rfl ?_
      | refine Ev_len rfl rfl rfl rfl rfl rfl ?_
      | refine Ev_min rfl rfl rfl ?_
      | refine Ev_max rfl rfl rfl ?_
      | refine Ev_indexAddr rfl rfl rfl rfl rfl (by first | omega | (dsimp only; done) | (dsimp only; omega)) ?_
      | refine Ev_makeFunc rfl rfl ?_
      | refine Ev_conv_str rfl rfl rfl rfl rfl ?_
      | refine Ev_addN rfl rfl (by simp only [lim]; omega) ?_
      | refine Ev_subN rfl rfl (by simp only [lim]; omega) (by first | omega | (dsimp only; done) | (dsimp only; omega)) ?_
      | refine Ev_mulN rfl rfl (by simp only [lim]; omega) ?_
      | refine Ev_add rfl rfl (by simp only [inR]; omega) ?_
      | refine Ev_sub rfl rfl (by simp only [inR]; omega) ?_
      | refine Ev_mul rfl rfl (by simp only [inR]; omega) ?_
      | refine Ev_shrN (m := 6) (q := 64) rfl rfl rfl rfl ?_
      | refine Ev_shrN (m := 12) (q := 4096) rfl rfl rfl rfl ?_
      | refine Ev_shrN (m := 10) (q := 1024) rfl rfl rfl rfl ?_
      | refine Ev_shrN (m := 8) (q := 256) rfl rfl rfl rfl ?_
      | refine Ev_shrN (m := 4) (q := 16) rfl rfl rfl rfl ?_
      | refine Ev_shrN (m := 5) (q := 32) rfl rfl rfl rfl ?_
      | refine Ev_shrN (m := 7) (q := 128) rfl rfl rfl rfl ?_
      | refine Ev_shrN (m := 3) (q := 8) rfl rfl rfl rfl ?_
      | refine Ev_shrN (m := 18) (q := 262144) rfl rfl rfl rfl ?_
      | refine Ev_shlN (m := 6) (q := 64) rfl rfl rfl rfl (by simp only [lim]; omega) ?_
      | refine Ev_shlN (m := 12) (q := 4096) rfl rfl rfl rfl (by simp only [lim]; omega) ?_
      | refine Ev_shlN (m := 10) (q := 1024) rfl rfl rfl rfl (by simp only [lim]; omega) ?_
      | refine Ev_shlN (m := 8) (q := 256) rfl rfl rfl rfl (by simp only [lim]; omega) ?_
      | refine Ev_andN 3 8 rfl rfl rfl rfl (by simp only [lim]; omega) (by simp only [lim]; omega) ?_
      | refine Ev_andN 4 16 rfl rfl rfl rfl (by simp only [lim]; omega) (by simp only [lim]; omega) ?_
      | refine Ev_andN 5 32 rfl rfl rfl rfl (by simp only [lim]; omega) (by simp only [lim]; omega) ?_
      | refine Ev_andN 6 64 rfl rfl rfl rfl (by simp only [lim]; omega) (by simp only [lim]; omega) ?_
      | refine Ev_andN 10 1024 rfl rfl rfl rfl (by simp only [lim]; omega) (by simp only [lim]; omega) ?_
      | refine Ev_orN 4 rfl rfl rfl (by first | omega | (dsimp only; done) | (dsimp only; omega)) (by first | omega | (dsimp only; done) | (dsimp only; omega)) (by simp only [lim]; omega) ?_
      | refine Ev_orN 5 rfl rfl rfl (by first | omega | (dsimp only; done) | (dsimp only; omega)) (by first | omega | (dsimp only; done) | (dsimp only; omega)) (by simp only [lim]; omega) ?_
      | refine Ev_orN 6 rfl rfl rfl (by first | omega | (dsimp only; done) | (dsimp only; omega)) (by first | omega | (dsimp only; done) | (dsimp only; omega)) (by simp only [lim]; omega) ?_
      | refine Ev_orN 10 rfl rfl rfl (by first | omega | (dsimp only; done) | (dsimp only; omega)) (by first | omega | (dsimp only; done) | (dsimp only; omega)) (by simp only [lim]; omega) ?_
      | refine Ev_orN 12 rfl rfl rfl (by first | omega | (dsimp only; done) | (dsimp only; omega)) (by first | omega | (dsimp only; done) | (dsimp only; omega)) (by simp only [lim]; omega) ?_
      | refine Ev_orN 16 rfl rfl rfl (by first | omega | (dsimp only; done) | (dsimp only; omega)) (by first | omega | (dsimp only; done) | (dsimp only; omega)) (by simp only [lim]; omega) ?_
      | refine Ev_convN rfl rfl rfl rfl rfl (by simp only [lim]; omega) ?_
      | refine Ev_and8 rfl rfl (by first | omega | (dsimp only; done) | (dsimp only; omega)) (by first | omega | (dsimp only; done) | (dsimp only; omega)) (land_192 (by first | omega | (dsimp only; done) | (dsimp only; omega))) (by first | omega | (dsimp only; done) | (dsimp only; omega)) ?_
      | refine Ev_and8 rfl rfl (by first | omega | (dsimp only; done) | (dsimp only; omega)) (by first | omega | (dsimp only; done) | (dsimp only; omega)) (land_224 (by first | omega | (dsimp only; done) | (dsimp only; omega))) (by first | omega | (dsimp only; done) | (dsimp only; omega)) ?_
      | refine Ev_and8 rfl rfl (by first | omega | (dsimp only; done) | (dsimp only; omega)) (by first | omega | (dsimp only; done) | (dsimp only; omega)) (land_240 (by first | omega | (dsimp only; done) | (dsimp only; omega))) (by first | omega | (dsimp only; done) | (dsimp only; omega)) ?_
      | refine Ev_shr rfl rfl rfl rfl ?_
      | refine Ev_conv rfl rfl rfl rfl rfl (by simp only [inR]; omega) ?_
      | refine Ev_conv8 rfl rfl rfl rfl rfl ?_)
  refine Ev_load rfl rfl rfl hq rfl hv.self ?_
  repeat (
    first
      | refine W_seq ?_
      | refine WO_nil ?_
      | refine V_seq ?_
      | refine W_region ?_
      | refine W_drawn (by kernel_rfl) ?_
      | refine W_block ?_
      | refine W_scope ?_
      | refine W_skip ?_
      | refine W_ret ?_
      | refine W_exit ?_
      | refine W_label ?_
      | refine V_ret ?_
      | refine V_block ?_
      | refine V_block_x rfl ?_
      | refine V_block_y rfl ?_
      | refine V_seq_x ?_
      | refine V_loop_x ?_
      | refine W_cond_t rfl ?_
      | refine W_cond_f rfl ?_
      | refine WO_dst rfl rfl (by kernel_rfl) (by kernel_rfl) ?_
      | refine WO_no rfl rfl ?_
      | refine WO_guard_t rfl rfl rfl rfl rfl (by kernel_rfl) (by kernel_rfl) ?_
      | refine WO_guard_f rfl rfl rfl rfl rfl rfl (by kernel_rfl) (by kernel_rfl) ?_
      | refine WO_guard_x rfl rfl rfl rfl rfl (by kernel_rfl) (by kernel_rfl) ?_
      | refine Ev_move rfl ?_
      | refine Ev_assign rfl ?_
      | refine Ev_extract rfl rfl ?_
      | refine Ev_pick_t rfl rfl rfl ?_
      | refine Ev_pick_f rfl rfl rfl ?_
      | refine Ev_lssN rfl rfl ?_
      | refine Ev_leqN rfl rfl ?_
      | refine Ev_gtrN rfl rfl ?_
      | refine Ev_geqN rfl rfl ?_
      | refine Ev_eqlN rfl rfl ?_
      | refine Ev_neqN rfl rfl ?_
      | refine Ev_lss rfl rfl ?_
      | refine Ev_leq rfl rfl ?_
      | refine Ev_gtr rfl rfl ?_
      | refine Ev_geq rfl rfl ?_
      | refine Ev_eql rfl rfl ?_
      | refine Ev_neq rfl rfl ?_
      | refine Ev_seql rfl rfl ?_
      | refine Ev_sneq rfl rfl ?_
      | refine Ev_not rfl ?_
      | refine Ev_notb rfl ?_
      | refine Ev_nilCheck rfl ?_
      | refine Ev_fieldAddr rfl rfl rfl rfl rfl rfl ?_
      | refine Ev_len_str rfl rfl rfl rfl rfl ?_
      | refine Ev_len rfl rfl rfl rfl rfl rfl ?_
      | refine Ev_min rfl rfl rfl ?_
      | refine Ev_max rfl rfl rfl ?_
      | refine Ev_indexAddr rfl rfl rfl rfl rfl (by first | omega | (dsimp only; done) | (dsimp only; omega)) ?_
      | refine Ev_makeFunc rfl rfl ?_
      | refine Ev_conv_str rfl rfl rfl rfl rfl ?_
      | refine Ev_addN rfl rfl (by simp only [lim]; omega) ?_
      | refine Ev_subN rfl rfl (by simp only [lim]; omega) (by first | omega | (dsimp only; done) | (dsimp only; omega)) ?_
      | refine Ev_mulN rfl rfl (by simp only [lim]; omega) ?_
      | refine Ev_add rfl rfl (by simp only [inR]; omega) ?_
      | refine Ev_sub rfl rfl (by simp only [inR]; omega) ?_
      | refine Ev_mul rfl rfl (by simp only [inR]; omega) ?_
      | refine Ev_shrN (m := 6) (q := 64) rfl rfl rfl rfl ?_
      | refine Ev_shrN (m := 12) (q := 4096) rfl rfl rfl rfl ?_
      | refine Ev_shrN (m := 10) (q := 1024) rfl rfl rfl rfl ?_
      | refine Ev_shrN (m := 8) (q := 256) rfl rfl rfl rfl ?_
      | refine Ev_shrN (m := 4) (q := 16) rfl rfl rfl rfl ?_
      | refine Ev_shrN (m := 5) (q := 32) rfl rfl rfl rfl ?_
      | refine Ev_shrN (m := 7) (q := 128) rfl rfl rfl rfl ?_
      | refine Ev_shrN (m := 3) (q := 8) rfl rfl rfl rfl ?_
      | refine Ev_shrN (m := 18) (q := 262144) rfl rfl rfl rfl ?_
      | refine Ev_shlN (m := 6) (q := 64) rfl rfl rfl rfl (by simp only [lim]; omega) ?_
      | refine Ev_shlN (m := 12) (q := 4096) rfl rfl rfl rfl (by simp only [lim]; omega) ?_
      | refine Ev_shlN (m := 10) (q := 1024) rfl rfl rfl rfl (by simp only [lim]; omega) ?_
      | refine Ev_shlN (m := 8) (q := 256) rfl rfl rfl rfl (by simp only [lim]; omega) ?_
      | refine Ev_andN 3 8 rfl rfl rfl rfl (by simp only [lim]; omega) (by simp only [lim]; omega) ?_
      | refine Ev_andN 4 16 rfl rfl rfl rfl (by simp only [lim]; omega) (by simp only [lim]; omega) ?_
      | refine Ev_andN 5 32 rfl rfl rfl rfl (by simp only [lim]; omega) (by simp only [lim]; omega) ?_
      | refine Ev_andN 6 64 rfl rfl rfl rfl (by simp only [lim]; omega) (by simp only [lim]; omega) ?_
      | refine Ev_andN 10 1024 rfl rfl rfl rfl (by simp only [lim]; omega) (by simp only [lim]; omega) ?_
      | refine Ev_orN 4 rfl rfl rfl (by first | omega | (dsimp only; done) | (dsimp only; omega)) (by first | omega | (dsimp only; done) | (dsimp only; omega)) (by simp only [lim]; omega) ?_
      | refine Ev_orN 5 rfl rfl rfl (by first | omega | (dsimp only; done) | (dsimp only; omega)) (by first | omega | (dsimp only; done) | (dsimp only; omega)) (by simp only [lim]; omega) ?_
      | refine Ev_orN 6 rfl rfl rfl (by first | omega | (dsimp only; done) | (dsimp only; omega)) (by first | omega | (dsimp only; done) | (dsimp only; omega)) (by simp only [lim]; omega) ?_
      | refine Ev_orN 10 rfl rfl rfl (by first | omega | (dsimp only; done) | (dsimp only; omega)) (by first | omega | (dsimp only; done) | (dsimp only; omega)) (by simp only [lim]; omega) ?_
      | refine Ev_orN 12 rfl rfl rfl (by first | omega | (dsimp only; done) | (dsimp only; omega)) (by first | omega | (dsimp only; done) | (dsimp only; omega)) (by simp only [lim]; omega) ?_
      | refine Ev_orN 16 rfl rfl rfl (by first | omega | (dsimp only; done) | (dsimp only; omega)) (by first | omega | (dsimp only; done) | (dsimp only; omega)) (by simp only [lim]; omega) ?_
      | refine Ev_convN rfl rfl rfl rfl rfl (by simp only [lim]; omega) ?_
      | refine Ev_and8 rfl rfl (by first | omega | (dsimp only; done) | (dsimp only; omega)) (by first | omega | (dsimp only; done) | (dsimp only; omega)) (land_192 (by first | omega | (dsimp only; done) | (dsimp only; omega))) (by first | omega | (dsimp only; done) | (dsimp only; omega)) ?_
      | refine Ev_and8 rfl rfl (by first | omega | (dsimp only; done) | (dsimp only; omega)) (by first | omega | (dsimp only; done) | (dsimp only; omega)) (land_224 (by first | omega | (dsimp only; done) | (dsimp only; omega))) (by first | omega | (dsimp only; done) | (dsimp only; omega)) ?_
      | refine Ev_and8 rfl rfl (by first | omega | (dsimp only; done) | (dsimp only; omega)) (by first | omega | (dsimp only; done) | (dsimp only; omega)) (land_240 (by first | omega | (dsimp only; done) | (dsimp only; omega))) (by first | omega | (dsimp only; done) | (dsimp only; omega)) ?_
      | refine Ev_shr rfl rfl rfl rfl ?_
      | refine Ev_conv rfl rfl rfl rfl rfl (by simp only [inR]; omega) ?_
      | refine Ev_conv8 rfl rfl rfl rfl rfl ?_)
  refine Ev_indexAddr_rd rfl rfl rfl rfl rfl hv hi ?_
  intro p2 hp2
  repeat (
    first
      | refine W_seq ?_
      | refine WO_nil ?_
      | refine V_seq ?_
      | refine W_region ?_
      | refine W_drawn (by kernel_rfl) ?_
      | refine W_block ?_
      | refine W_scope ?_
      | refine W_skip ?_
      | refine W_ret ?_
      | refine W_exit ?_
      | refine W_label ?_
      | refine V_ret ?_
      | refine V_block ?_
      | refine V_block_x rfl ?_
      | refine V_block_y rfl ?_
      | refine V_seq_x ?_
      | refine V_loop_x ?_
      | refine W_cond_t rfl ?_
      | refine W_cond_f rfl ?_
      | refine WO_dst rfl rfl (by kernel_rfl) (by kernel_rfl) ?_
      | refine WO_no rfl rfl ?_
      | refine WO_guard_t rfl rfl rfl rfl rfl (by kernel_rfl) (by kernel_rfl) ?_
      | refine WO_guard_f rfl rfl rfl rfl rfl rfl (by kernel_rfl) (by kernel_rfl) ?_
      | refine WO_guard_x rfl rfl rfl rfl rfl (by kernel_rfl) (by kernel_rfl) ?_
      | refine Ev_move rfl ?_
      | refine Ev_assign rfl ?_
      | refine Ev_extract rfl rfl ?_
      | refine Ev_pick_t rfl rfl rfl ?_
      | refine Ev_pick_f rfl rfl rfl ?_
      | refine Ev_lssN rfl rfl ?_
      | refine Ev_leqN rfl rfl ?_
      | refine Ev_gtrN rfl rfl ?_
      | refine Ev_geqN rfl rfl ?_
      | refine Ev_eqlN rfl rfl ?_
      | refine Ev_neqN rfl rfl ?_
      | refine Ev_lss rfl rfl ?_
      | refine Ev_leq rfl rfl ?_
      | refine Ev_gtr rfl rfl ?_
      | refine Ev_geq rfl rfl ?_
      | refine Ev_eql rfl rfl ?_
      | refine Ev_neq rfl rfl ?_
      | refine Ev_seql rfl rfl ?_
      | refine Ev_sneq rfl rfl ?_
      | refine Ev_not rfl ?_
      | refine Ev_notb rfl ?_
      | refine Ev_nilCheck rfl ?_
      | refine Ev_fieldAddr rfl rfl rfl rfl rfl rfl ?_
      | refine Ev_len_str rfl rfl rfl rfl rfl ?_
      | refine Ev_len rfl rfl rfl rfl rfl rfl ?_
      | refine Ev_min rfl rfl rfl ?_
      | refine Ev_max rfl rfl rfl ?_
      | refine Ev_indexAddr rfl rfl rfl rfl rfl (by first | omega | (dsimp only; done) | (dsimp only; omega)) ?_
      | refine Ev_makeFunc rfl rfl ?_
      | refine Ev_conv_str rfl rfl rfl rfl rfl ?_
      | refine Ev_addN rfl rfl (by simp only [lim]; omega) ?_
      | refine Ev_subN rfl rfl (by simp only [lim]; omega) (by first | omega | (dsimp only; done) | (dsimp only; omega)) ?_
      | refine Ev_mulN rfl rfl (by simp only [lim]; omega) ?_
      | refine Ev_add rfl rfl (by simp only [inR]; omega) ?_
      | refine Ev_sub rfl rfl (by simp only [inR]; omega) ?_
      | refine Ev_mul rfl rfl (by simp only [inR]; omega) ?_
      | refine Ev_shrN (m := 6) (q := 64) rfl rfl rfl rfl ?_
      | refine Ev_shrN (m := 12) (q := 4096) rfl rfl rfl rfl ?_
      | refine Ev_shrN (m := 10) (q := 1024) rfl rfl rfl rfl ?_
      | refine Ev_shrN (m := 8) (q := 256) rfl rfl rfl rfl ?_
      | refine Ev_shrN (m := 4) (q := 16) rfl rfl rfl rfl ?_
      | refine Ev_shrN (m := 5) (q := 32) rfl rfl rfl rfl ?_
      | refine Ev_shrN (m := 7) (q := 128) rfl rfl rfl rfl ?_
      | refine Ev_shrN (m := 3) (q := 8) rfl rfl rfl rfl ?_
      | refine Ev_shrN (m := 18) (q := 262144) rfl rfl rfl rfl ?_
      | refine Ev_shlN (m := 6) (q := 64) rfl rfl rfl rfl (by simp only [lim]; omega) ?_
      | refine Ev_shlN (m := 12) (q := 4096) rfl rfl rfl rfl (by simp only [lim]; omega) ?_
      | refine Ev_shlN (m := 10) (q := 1024) rfl rfl rfl rfl (by simp only [lim]; omega) ?_
      | refine Ev_shlN (m := 8) (q := 256) rfl rfl rfl rfl (by simp only [lim]; omega) ?_
      | refine Ev_andN 3 8 rfl rfl rfl rfl (by simp only [lim]; omega) (by simp only [lim]; omega) ?_
      | refine Ev_andN 4 16 rfl rfl rfl rfl (by simp only [lim]; omega) (by simp only [lim]; omega) ?_
      | refine Ev_andN 5 32 rfl rfl rfl rfl (by simp only [lim]; omega) (by simp only [lim]; omega) ?_
      | refine Ev_andN 6 64 rfl rfl rfl rfl (by simp only [lim]; omega) (by simp only [lim]; omega) ?_
      | refine Ev_andN 10 1024 rfl rfl rfl rfl (by simp only [lim]; omega) (by simp only [lim]; omega) ?_
      | refine Ev_orN 4 rfl rfl rfl (by first | omega | (dsimp only; done) | (dsimp only; omega)) (by first | omega | (dsimp only; done) | (dsimp only; omega)) (by simp only [lim]; omega) ?_
      | refine Ev_orN 5 rfl rfl rfl (by first | omega | (dsimp only; done) | (dsimp only; omega)) (by first | omega | (dsimp only; done) | (dsimp only; omega)) (by simp only [lim]; omega) ?_
      | refine Ev_orN 6 rfl rfl rfl (by first | omega | (dsimp only; done) | (dsimp only; omega)) (by first | omega | (dsimp only; done) | (dsimp only; omega)) (by simp only [lim]; omega) ?_
      | refine Ev_orN 10 rfl rfl rfl (by first | omega | (dsimp only; done) | (dsimp only; omega)) (by first | omega | (dsimp only; done) | (dsimp only; omega)) (by simp only [lim]; omega) ?_
      | refine Ev_orN 12 rfl rfl rfl (by first | omega | (dsimp only; done) | (dsimp only; omega)) (by first | omega | (dsimp only; done) | (dsimp only; omega)) (by simp only [lim]; omega) ?_
      | refine Ev_orN 16 rfl rfl rfl (by first | omega | (dsimp only; done) | (dsimp only; omega)) (by first | omega | (dsimp only; done) | (dsimp only; omega)) (by simp only [lim]; omega) ?_
      | refine Ev_convN rfl rfl rfl rfl rfl (by simp only [lim]; omega) ?_
      | refine Ev_and8 rfl rfl (by first | omega | (dsimp only; done) | (dsimp only; omega)) (by first | omega | (dsimp only; done) | (dsimp only; omega)) (land_192 (by first | omega | (dsimp only; done) | (dsimp only; omega))) (by first | omega | (dsimp only; done) | (dsimp only; omega)) ?_
      | refine Ev_and8 rfl rfl (by first | omega | (dsimp only; done) | (dsimp only; omega)) (by first | omega | (dsimp only; done) | (dsimp only; omega)) (land_224 (by first | omega | (dsimp only; done) | (dsimp only; omega))) (by first | omega | (dsimp only; done) | (dsimp only; omega)) ?_
      | refine Ev_and8 rfl rfl (by first | omega | (dsimp only; done) | (dsimp only; omega)) (by first | omega | (dsimp only; done) | (dsimp only; omega)) (land_240 (by first | omega | (dsimp only; done) | (dsimp only; omega))) (by first | omega | (dsimp only; done) | (dsimp only; omega)) ?_
      | refine Ev_shr rfl rfl rfl rfl ?_
      | refine Ev_conv rfl rfl rfl rfl rfl (by simp only [inR]; omega) ?_
      | refine Ev_conv8 rfl rfl rfl rfl rfl ?_)
  refine Ev_load_pt rfl rfl rfl hp2 hx (veq_int _ _) ?_
  repeat (
    first
      | refine W_seq ?_
      | refine WO_nil ?_
      | refine V_seq ?_
      | refine W_region ?_
      | refine W_drawn (by kernel_rfl) ?_
      | refine W_block ?_
      | refine W_scope ?_
      | refine W_skip ?_
      | refine W_ret ?_
      | refine W_exit ?_
      | refine W_label ?_
      | refine V_ret ?_
      | refine V_block ?_
      | refine V_block_x rfl ?_
      | refine V_block_y rfl ?_
      | refine V_seq_x ?_
      | refine V_loop_x ?_
      | refine W_cond_t rfl ?_
      | refine W_cond_f rfl ?_
      | refine WO_dst rfl rfl (by kernel_rfl) (by kernel_rfl) ?_
      | refine WO_no rfl rfl ?_
      | refine WO_guard_t rfl rfl rfl rfl rfl (by kernel_rfl) (by kernel_rfl) ?_
      | refine WO_guard_f rfl rfl rfl rfl rfl rfl (by kernel_rfl) (by kernel_rfl) ?_
      | refine WO_guard_x rfl rfl rfl rfl rfl (by kernel_rfl) (by kernel_rfl) ?_
      | refine Ev_move rfl ?_
      | refine Ev_assign rfl ?_
      | refine Ev_extract rfl rfl ?_
      | refine Ev_pick_t rfl rfl rfl ?_
      | refine Ev_pick_f rfl rfl rfl ?_
      | refine Ev_lssN rfl rfl ?_
      | refine Ev_leqN rfl rfl ?_
      | refine Ev_gtrN rfl rfl ?_
      | refine Ev_geqN rfl rfl ?_
      | refine Ev_eqlN rfl rfl ?_
      | refine Ev_neqN rfl rfl ?_
      | refine Ev_lss rfl rfl ?_
      | refine Ev_leq rfl rfl ?_
      | refine Ev_gtr rfl rfl ?_
      | refine Ev_geq rfl rfl ?_
      | refine Ev_eql rfl rfl ?_
      | refine Ev_neq rfl rfl ?_
      | refine Ev_seql rfl rfl ?_
      | refine Ev_sneq rfl rfl ?_
      | refine Ev_not rfl ?_
      | refine Ev_notb rfl ?_
      | refine Ev_nilCheck rfl ?_
      | refine Ev_fieldAddr rfl rfl rfl rfl rfl rfl ?_
      | refine Ev_len_str rfl rfl rfl rfl rfl ?_
      | refine Ev_len rfl rfl rfl rfl rfl rfl ?_
      | refine Ev_min rfl rfl rfl ?_
      | refine Ev_max rfl rfl rfl ?_
      | refine Ev_indexAddr rfl rfl rfl rfl rfl (by first | omega | (dsimp only; done) | (dsimp only; omega)) ?_
      | refine Ev_makeFunc rfl rfl ?_
      | refine Ev_conv_str rfl rfl rfl rfl rfl ?_
      | refine Ev_addN rfl rfl (by simp only [lim]; omega) ?_
      | refine Ev_subN rfl rfl (by simp only [lim]; omega) (by first | omega | (dsimp only; done) | (dsimp only; omega)) ?_
      | refine Ev_mulN rfl rfl (by simp only [lim]; omega) ?_
      | refine Ev_add rfl rfl (by simp only [inR]; omega) ?_
      | refine Ev_sub rfl rfl (by simp only [inR]; omega) ?_
      | refine Ev_mul rfl rfl (by simp only [inR]; omega) ?_
      | refine Ev_shrN (m := 6) (q := 64) rfl rfl rfl rfl ?_
      | refine Ev_shrN (m := 12) (q := 4096) rfl rfl rfl rfl ?_
      | refine Ev_shrN (m := 10) (q := 1024) rfl rfl rfl rfl ?_
      | refine Ev_shrN (m := 8) (q := 256) rfl rfl rfl rfl ?_
      | refine Ev_shrN (m := 4) (q := 16) rfl rfl rfl rfl ?_
      | refine Ev_shrN (m := 5) (q := 32) rfl rfl rfl rfl ?_
      | refine Ev_shrN (m := 7) (q := 128) rfl rfl rfl rfl ?_
      | refine Ev_shrN (m := 3) (q := 8) rfl rfl rfl rfl ?_
      | refine Ev_shrN (m := 18) (q := 262144) rfl rfl rfl rfl ?_
      | refine Ev_shlN (m := 6) (q := 64) rfl rfl rfl rfl (by simp only [lim]; omega) ?_
      | refine Ev_shlN (m := 12) (q := 4096) rfl rfl rfl rfl (by simp only [lim]; omega) ?_
      | refine Ev_shlN (m := 10) (q := 1024) rfl rfl rfl rfl (by simp only [lim]; omega) ?_
      | refine Ev_shlN (m := 8) (q := 256) rfl rfl rfl rfl (by simp only [lim]; omega) ?_
      | refine Ev_andN 3 8 rfl rfl rfl rfl (by simp only [lim]; omega) (by simp only [lim]; omega) ?_
      | refine Ev_andN 4 16 rfl rfl rfl rfl (by simp only [lim]; omega) (by simp only [lim]; omega) ?_
      | refine Ev_andN 5 32 rfl rfl rfl rfl (by simp only [lim]; omega) (by simp only [lim]; omega) ?_
      | refine Ev_andN 6 64 rfl rfl rfl rfl (by simp only [lim]; omega) (by simp only [lim]; omega) ?_
      | refine Ev_andN 10 1024 rfl rfl rfl rfl (by simp only [lim]; omega) (by simp only [lim]; omega) ?_
      | refine Ev_orN 4 rfl rfl rfl (by first | omega | (dsimp only; done) | (dsimp only; omega)) (by first | omega | (dsimp only; done) | (dsimp only; omega)) (by simp only [lim]; omega) ?_
      | refine Ev_orN 5 rfl rfl rfl (by first | omega | (dsimp only; done) | (dsimp only; omega)) (by first | omega | (dsimp only; done) | (dsimp only; omega)) (by simp only [lim]; omega) ?_
      | refine Ev_orN 6 rfl rfl rfl (by first | omega | (dsimp only; done) | (dsimp only; omega)) (by first | omega | (dsimp only; done) | (dsimp only; omega)) (by simp only [lim]; omega) ?_
      | refine Ev_orN 10 rfl rfl rfl (by first | omega | (dsimp only; done) | (dsimp only; omega)) (by first | omega | (dsimp only; done) | (dsimp only; omega)) (by simp only [lim]; omega) ?_
      | refine Ev_orN 12 rfl rfl rfl (by first | omega | (dsimp only; done) | (dsimp only; omega)) (by first | omega | (dsimp only; done) | (dsimp only; omega)) (by simp only [lim]; omega) ?_
      | refine Ev_orN 16 rfl rfl rfl (by first | omega | (dsimp only; done) | (dsimp only; omega)) (by first | omega | (dsimp only; done) | (dsimp only; omega)) (by simp only [lim]; omega) ?_
      | refine Ev_convN rfl rfl rfl rfl rfl (by simp only [lim]; omega) ?_
      | refine Ev_and8 rfl rfl (by first | omega | (dsimp only; done) | (dsimp only; omega)) (by first | omega | (dsimp only; done) | (dsimp only; omega)) (land_192 (by first | omega | (dsimp only; done) | (dsimp only; omega))) (by first | omega | (dsimp only; done) | (dsimp only; omega)) ?_
      | refine Ev_and8 rfl rfl (by first | omega | (dsimp only; done) | (dsimp only; omega)) (by first | omega | (dsimp only; done) | (dsimp only; omega)) (land_224 (by first | omega | (dsimp only; done) | (dsimp only; omega))) (by first | omega | (dsimp only; done) | (dsimp only; omega)) ?_
      | refine Ev_and8 rfl rfl (by first | omega | (dsimp only; done) | (dsimp only; omega)) (by first | omega | (dsimp only; done) | (dsimp only; omega)) (land_240 (by first | omega | (dsimp only; done) | (dsimp only; omega))) (by first | omega | (dsimp only; done) | (dsimp only; omega)) ?_
      | refine Ev_shr rfl rfl rfl rfl ?_
      | refine Ev_conv rfl rfl rfl rfl rfl (by simp only [inR]; omega) ?_
      | refine Ev_conv8 rfl rfl rfl rfl rfl ?_)
  refine V_done rfl rfl ?_
  exact ⟨rfl, rfl⟩
def oneL (l : List Nat) : Nat × Nat :=
  if 0 < l.length ∧ 0 < l.getD 0 0 ∧ l.getD 0 0 < 128 then (l.getD 0 0, 1)
  else if 1 < l.length ∧ l.getD 0 0 / 32 * 32 = 192 then
    (if l.getD 1 0 / 64 * 64 = 128 ∧ (128 ≤ l.getD 0 0 % 32 * 64 + l.getD 1 0 % 64 ∨ l.getD 0 0 % 32 * 64 + l.getD 1 0 % 64 = 0) then (l.getD 0 0 % 32 * 64 + l.getD 1 0 % 64, 2) else (0, 0))
  else if 2 < l.length ∧ l.getD 0 0 / 16 * 16 = 224 then
    (if l.getD 1 0 / 64 * 64 = 128 ∧ l.getD 2 0 / 64 * 64 = 128 ∧ 2048 ≤ l.getD 0 0 % 16 * 4096 + l.getD 1 0 % 64 * 64 + l.getD 2 0 % 64 then (l.getD 0 0 % 16 * 4096 + l.getD 1 0 % 64 * 64 + l.getD 2 0 % 64, 3) else (0, 0))
  else (0, 0)
structure OneR (S : St) (l : List Nat) (r : AV) (S' : St) : Prop where
  n : S'.n = S.n + 1
  ok : Sok S'
  fr : ∀ c, c < S.n → S'.h.get c = S.h.get c
  out : r = .tup [.int .i32 (((oneL l).1 : Nat) : Int), .int .i64 (((oneL l).2 : Nat) : Int)]
theorem one_runs {S : St} {v : AV} {l : List Nat} (hok : Sok S) (hn : S.n < 1000000000) (hv : Br S v l) (hb : ∀ c ∈ l, c < 256) (hl : l.length < 1000000000) : Runs X1 46 [v] S (OneR S l) := by
  refine Runs_fn (m := 109) (by kernel_rfl) Tryd.func46 rfl (by kernel_rfl) (by kernel_rfl) ?_
  refine W_seq ?_
  refine W_region ?_
  refine WO_dst rfl rfl (by kernel_rfl) (by kernel_rfl) ?_
  refine Ev_box rfl hok hn ?_
  intro S1 hn1 hok1 hq1 hf1
  have hcl : v.cells = [v] := by have := hv.sl; cases v <;> first | rfl | cases this
  rw [hcl] at hq1
  have hv1 : Br S1 v l := hv.keep fun b hb => hf1 b (hv.lt hok hb)
  have hx : ∀ i, i < l.length → (sbytes l)[i * 1]? = some (.int .u8 ((l.getD i 0 : Nat) : Int)) := by
    intro i hi
    rw [Nat.mul_one, sbytes_get hi]
  have h8 : ∀ i, l.getD i 0 < 256 := fun i => getD_lt hb (by omega)
  have h80 := h8 0
  have h81 := h8 1
  have h82 := h8 2
  have ht : ∀ i, i < l.length → Runs X1 58 [.int .i64 (i : Int), .ptr S.n 0] S1 fun r S' => S' = S1 ∧ r = .tup [.int .i32 ((l.getD i 0 % 64 : Nat) : Int), .bool (decide (l.getD i 0 / 64 * 64 = 128))] := fun i hi => tail_runs hq1 hv1 hb hi
  repeat' (
    first
      | refine W_seq ?_
      | refine WO_nil ?_
      | refine V_seq ?_
      | refine W_region ?_
      | refine W_drawn (by kernel_rfl) ?_
      | refine W_block ?_
      | refine W_scope ?_
      | refine W_skip ?_
      | refine W_ret ?_
      | refine W_exit ?_
      | refine W_label ?_
      | refine V_ret ?_
      | refine V_block ?_
      | refine V_block_x rfl ?_
      | refine V_block_y rfl ?_
      | refine V_seq_x ?_
      | refine V_loop_x ?_
      | refine W_cond_t rfl ?_
      | refine W_cond_f rfl ?_
      | refine WO_dst rfl rfl (by kernel_rfl) (by kernel_rfl) ?_
      | refine WO_no rfl rfl ?_
      | refine WO_guard_t rfl rfl rfl rfl rfl (by kernel_rfl) (by kernel_rfl) ?_
      | refine WO_guard_f rfl rfl rfl rfl rfl rfl (by kernel_rfl) (by kernel_rfl) ?_
      | refine WO_guard_x rfl rfl rfl rfl rfl (by kernel_rfl) (by kernel_rfl) ?_
      | refine Ev_load rfl rfl rfl hq1 rfl hv1.self ?_
      | refine Ev_len rfl rfl rfl rfl rfl hv1.len ?_
      | (refine Ev_indexAddr_rd rfl rfl rfl rfl rfl hv1 (by first | omega | (dsimp only; omega)) ?_; intro p hp)
      | refine Ev_load_pt rfl rfl rfl hp (hx _ (by first | omega | (dsimp only; omega))) (veq_int _ _) ?_
      | (refine Ev_call rfl rfl ((ht _ (by first | omega | (dsimp only; omega))).mono ?_); rintro _ _ - ⟨rfl, rfl⟩)
      | refine Ev_move rfl ?_
      | refine Ev_assign rfl ?_
      | refine Ev_extract rfl rfl ?_
      | refine Ev_pick_t rfl rfl rfl ?_
      | refine Ev_pick_f rfl rfl rfl ?_
      | refine Ev_lssN rfl rfl ?_
      | refine Ev_leqN rfl rfl ?_
      | refine Ev_gtrN rfl rfl ?_
      | refine Ev_geqN rfl rfl ?_
      | refine Ev_eqlN rfl rfl ?_
      | refine Ev_neqN rfl rfl ?_
      | refine Ev_lss rfl rfl ?_
      | refine Ev_leq rfl rfl ?_
      | refine Ev_gtr rfl rfl ?_
      | refine Ev_geq rfl rfl ?_
      | refine Ev_eql rfl rfl ?_
      | refine Ev_neq rfl rfl ?_
      | refine Ev_seql rfl rfl ?_
      | refine Ev_sneq rfl rfl ?_
      | refine Ev_not rfl ?_
      | refine Ev_notb rfl ?_
      | refine Ev_nilCheck rfl ?_
      | refine Ev_fieldAddr rfl rfl rfl rfl rfl rfl ?_
      | refine Ev_len_str rfl rfl rfl rfl rfl ?_
      | refine Ev_len rfl rfl rfl rfl rfl rfl ?_
      | refine Ev_min rfl rfl rfl ?_
      | refine Ev_max rfl rfl rfl ?_
      | refine Ev_indexAddr rfl rfl rfl rfl rfl (by first | omega | (dsimp only; done) | (dsimp only; omega)) ?_
      | refine Ev_makeFunc rfl rfl ?_
      | refine Ev_conv_str rfl rfl rfl rfl rfl ?_
      | refine Ev_addN rfl rfl (by simp only [lim]; omega) ?_
      | refine Ev_subN rfl rfl (by simp only [lim]; omega) (by first | omega | (dsimp only; done) | (dsimp only; omega)) ?_
      | refine Ev_mulN rfl rfl (by simp only [lim]; omega) ?_
      | refine Ev_add rfl rfl (by simp only [inR]; omega) ?_
      | refine Ev_sub rfl rfl (by simp only [inR]; omega) ?_
      | refine Ev_mul rfl rfl (by simp only [inR]; omega) ?_
      | refine Ev_shrN (m := 6) (q := 64) rfl rfl rfl rfl ?_
      | refine Ev_shrN (m := 12) (q := 4096) rfl rfl rfl rfl ?_
      | refine Ev_shrN (m := 10) (q := 1024) rfl rfl rfl rfl ?_
      | refine Ev_shrN (m := 8) (q := 256) rfl rfl rfl rfl ?_
      | refine Ev_shrN (m := 4) (q := 16) rfl rfl rfl rfl ?_
      | refine Ev_shrN (m := 5) (q := 32) rfl rfl rfl rfl ?_
      | refine Ev_shrN (m := 7) (q := 128) rfl rfl rfl rfl ?_
      | refine Ev_shrN (m := 3) (q := 8) rfl rfl rfl rfl ?_
      | refine Ev_shrN (m := 18) (q := 262144) rfl rfl rfl rfl ?_
      | refine Ev_shlN (m := 6) (q := 64) rfl rfl rfl rfl (by simp only [lim]; omega) ?_
      | refine Ev_shlN (m := 12) (q := 4096) rfl rfl rfl rfl (by simp only [lim]; omega) ?_
      | refine Ev_shlN (m := 10) (q := 1024) rfl rfl rfl rfl (by simp only [lim]; omega) ?_
      | refine Ev_shlN (m := 8) (q := 256) rfl rfl rfl rfl (by simp only [lim]; omega) ?_
      | refine Ev_andN 3 8 rfl rfl rfl rfl (by simp only [lim]; omega) (by simp only [lim]; omega) ?_
      | refine Ev_andN 4 16 rfl rfl rfl rfl (by simp only [lim]; omega) (by simp only [lim]; omega) ?_
      | refine Ev_andN 5 32 rfl rfl rfl rfl (by simp only [lim]; omega) (by simp only [lim]; omega) ?_
      | refine Ev_andN 6 64 rfl rfl rfl rfl (by simp only [lim]; omega) (by simp only [lim]; omega) ?_
      | refine Ev_andN 10 1024 rfl rfl rfl rfl (by simp only [lim]; omega) (by simp only [lim]; omega) ?_
      | refine Ev_orN 4 rfl rfl rfl (by first | omega | (dsimp only; done) | (dsimp only; omega)) (by first | omega | (dsimp only; done) | (dsimp only; omega)) (by simp only [lim]; omega) ?_
      | refine Ev_orN 5 rfl rfl rfl (by first | omega | (dsimp only; done) | (dsimp only; omega)) (by first | omega | (dsimp only; done) | (dsimp only; omega)) (by simp only [lim]; omega) ?_
      | refine Ev_orN 6 rfl rfl rfl (by first | omega | (dsimp only; done) | (dsimp only; omega)) (by first | omega | (dsimp only; done) | (dsimp only; omega)) (by simp only [lim]; omega) ?_
      | refine Ev_orN 10 rfl rfl rfl (by first | omega | (dsimp only; done) | (dsimp only; omega)) (by first | omega | (dsimp only; done) | (dsimp only; omega)) (by simp only [lim]; omega) ?_
      | refine Ev_orN 12 rfl rfl rfl (by first | omega | (dsimp only; done) | (dsimp only; omega)) (by first | omega | (dsimp only; done) | (dsimp only; omega)) (by simp only [lim]; omega) ?_
      | refine Ev_orN 16 rfl rfl rfl (by first | omega | (dsimp only; done) | (dsimp only; omega)) (by first | omega | (dsimp only; done) | (dsimp only; omega)) (by simp only [lim]; omega) ?_
      | refine Ev_convN rfl rfl rfl rfl rfl (by simp only [lim]; omega) ?_
      | refine Ev_and8 rfl rfl (by first | omega | (dsimp only; done) | (dsimp only; omega)) (by first | omega | (dsimp only; done) | (dsimp only; omega)) (land_192 (by first | omega | (dsimp only; done) | (dsimp only; omega))) (by first | omega | (dsimp only; done) | (dsimp only; omega)) ?_
      | refine Ev_and8 rfl rfl (by first | omega | (dsimp only; done) | (dsimp only; omega)) (by first | omega | (dsimp only; done) | (dsimp only; omega)) (land_224 (by first | omega | (dsimp only; done) | (dsimp only; omega))) (by first | omega | (dsimp only; done) | (dsimp only; omega)) ?_
      | refine Ev_and8 rfl rfl (by first | omega | (dsimp only; done) | (dsimp only; omega)) (by first | omega | (dsimp only; done) | (dsimp only; omega)) (land_240 (by first | omega | (dsimp only; done) | (dsimp only; omega))) (by first | omega | (dsimp only; done) | (dsimp only; omega)) ?_
      | refine Ev_shr rfl rfl rfl rfl ?_
      | refine Ev_conv rfl rfl rfl rfl rfl (by simp only [inR]; omega) ?_
      | refine Ev_conv8 rfl rfl rfl rfl rfl ?_
      | (refine WO_guard_dt rfl rfl rfl rfl rfl (by kernel_rfl) (by kernel_rfl) (fun hg => ?_) (fun hg => ?_) <;> (try dsimp only at hg) <;> try (exfalso; omega))
      | (refine WO_guard_df rfl rfl rfl rfl rfl (by kernel_rfl) (by kernel_rfl) (fun hg => ?_) (fun hg => ?_) <;> (try dsimp only at hg) <;> try (exfalso; omega))
      | (refine W_cond rfl (fun hc => ?_) (fun hc => ?_) <;> (try dsimp only at hc) <;> try (exfalso; omega)))
  all_goals
    refine V_done rfl rfl ?_
    refine ⟨hn1, hok1, hf1, ?_⟩
    unfold oneL
    (repeat' split) <;> first | rfl | (exfalso; omega)
end Go.Proofs.YtnlfcoojlgdgaaaDoor
