/- caraferef1.unit: a number that begins at a place. -/
import Derived.Test.YtnlfcoojlgdgaaaDoorWOne
namespace Go.Proofs.YtnlfcoojlgdgaaaDoor
open GX
set_option maxHeartbeats 8000000
def uL (l : List Nat) : Nat × Nat :=
  if 0 < l.getD 0 0 ∧ l.getD 0 0 < 128 then (l.getD 0 0, 1)
  else if l.getD 0 0 / 32 = 6 then
    (if 2 ≤ l.length ∧ l.getD 1 0 / 64 = 2 then (l.getD 0 0 % 32 * 64 + l.getD 1 0 % 64, 2) else (0, 0))
  else if l.getD 0 0 / 16 = 14 then
    (if 3 ≤ l.length ∧ l.getD 1 0 / 64 = 2 ∧ l.getD 2 0 / 64 = 2 then ((l.getD 0 0 % 16 * 64 + l.getD 1 0 % 64) * 64 + l.getD 2 0 % 64, 3) else (0, 0))
  else (0, 0)
theorem getD_drop {l : List Nat} {k i : Nat} : (l.drop k).getD i 0 = l.getD (k + i) 0 := by
  rw [List.getD_eq_getElem?_getD, List.getD_eq_getElem?_getD, List.getElem?_drop]
theorem runit_runs {S : St} {v : AV} {l : List Nat} {k : Nat} (hv : Br S v l) (hb : ∀ c ∈ l, c < 256) (hk : k < l.length) (hl : l.length ≤ 1000000000) :
    Runs X1 48 [v, .int .i64 (k : Int)] S fun r S' => S' = S ∧ r = .tup [.int .i64 (((uL (l.drop k)).1 : Nat) : Int), .int .i64 (((uL (l.drop k)).2 : Nat) : Int)] := by
  have hx : ∀ i, i < l.length → (sbytes l)[i * 1]? = some (.int .u8 ((l.getD i 0 : Nat) : Int)) := by
    intro i hi
    rw [Nat.mul_one, sbytes_get hi]
  have h0 : (l.drop k).getD 0 0 = l.getD k 0 := getD_drop
  have h1 : (l.drop k).getD 1 0 = l.getD (k + 1) 0 := getD_drop
  have h2 : (l.drop k).getD 2 0 = l.getD (k + 2) 0 := getD_drop
  have hdl : (l.drop k).length = l.length - k := List.length_drop ..
  have g0 : l.getD k 0 < 256 := getD_lt hb (by omega)
  have g1 : l.getD (k + 1) 0 < 256 := getD_lt hb (by omega)
  have g2 : l.getD (k + 2) 0 < 256 := getD_lt hb (by omega)
  refine Runs_fn (m := 67) (by kernel_rfl) Tryd.func48 rfl (by kernel_rfl) (by kernel_rfl) ?_
  repeat' (
    first
      | refine W_seq ?_
      | refine WO_nil ?_
      | refine V_seq ?_
      | refine W_region ?_
      | refine W_drawn (by kernel_rfl) ?_
      | refine W_block ?_
      | refine W_scope ?_
      | refine W_skip ?_
      | refine W_ret ?_
      | refine W_exit ?_
      | refine W_label ?_
      | refine V_ret ?_
      | refine V_block ?_
      | refine V_block_x rfl ?_
      | refine V_block_y rfl ?_
      | refine V_seq_x ?_
      | refine V_loop_x ?_
      | refine W_cond_t rfl ?_
      | refine W_cond_f rfl ?_
      | refine WO_dst rfl rfl (by kernel_rfl) (by kernel_rfl) ?_
      | refine WO_no rfl rfl ?_
      | refine WO_guard_t rfl rfl rfl rfl rfl (by kernel_rfl) (by kernel_rfl) ?_
      | refine WO_guard_f rfl rfl rfl rfl rfl rfl (by kernel_rfl) (by kernel_rfl) ?_
      | refine WO_guard_x rfl rfl rfl rfl rfl (by kernel_rfl) (by kernel_rfl) ?_
      | refine Ev_len rfl rfl rfl rfl rfl hv.len ?_
      | (refine Ev_indexAddr_rd rfl rfl rfl rfl rfl hv (by first | omega | (dsimp only; omega)) ?_; intro p hp)
      | refine Ev_load_pt rfl rfl rfl hp (hx _ (by first | omega | (dsimp only; omega))) (veq_int _ _) ?_
      | refine W_loop ?_
      | refine V_loop ?_
      | refine Ev_move rfl ?_
      | refine Ev_assign rfl ?_
      | refine Ev_extract rfl rfl ?_
      | refine Ev_pick_t rfl rfl rfl ?_
      | refine Ev_pick_f rfl rfl rfl ?_
      | refine Ev_lssN rfl rfl ?_
      | refine Ev_leqN rfl rfl ?_
      | refine Ev_gtrN rfl rfl ?_
      | refine Ev_geqN rfl rfl ?_
      | refine Ev_eqlN rfl rfl ?_
      | refine Ev_neqN rfl rfl ?_
      | refine Ev_lss rfl rfl ?_
      | refine Ev_leq rfl rfl ?_
      | refine Ev_gtr rfl rfl ?_
      | refine Ev_geq rfl rfl ?_
      | refine Ev_eql rfl rfl ?_
      | refine Ev_neq rfl rfl ?_
      | refine Ev_seql rfl rfl ?_
      | refine Ev_sneq rfl rfl ?_
      | refine Ev_not rfl ?_
      | refine Ev_notb rfl ?_
      | refine Ev_nilCheck rfl ?_
      | refine Ev_fieldAddr rfl rfl rfl rfl rfl rfl ?_
      | refine Ev_len_str rfl rfl rfl rfl rfl ?_
      | refine Ev_len rfl rfl rfl rfl rfl rfl ?_
      | refine Ev_min rfl rfl rfl ?_
      | refine Ev_max rfl rfl rfl ?_
      | refine Ev_indexAddr rfl rfl rfl rfl rfl (by first | omega | (dsimp only; done) | (dsimp only; omega)) ?_
      | refine Ev_makeFunc rfl rfl ?_
      | refine Ev_conv_str rfl rfl rfl rfl rfl ?_
      | refine Ev_addN rfl rfl (by simp only [lim]; omega) ?_
      | refine Ev_subN rfl rfl (by simp only [lim]; omega) (by first | omega | (dsimp only; done) | (dsimp only; omega)) ?_
      | refine Ev_mulN rfl rfl (by simp only [lim]; omega) ?_
      | refine Ev_add rfl rfl (by simp only [inR]; omega) ?_
      | refine Ev_sub rfl rfl (by simp only [inR]; omega) ?_
      | refine Ev_mul rfl rfl (by simp only [inR]; omega) ?_
      | refine Ev_shrN (m := 6) (q := 64) rfl rfl rfl rfl ?_
      | refine Ev_shrN (m := 12) (q := 4096) rfl rfl rfl rfl ?_
      | refine Ev_shrN (m := 10) (q := 1024) rfl rfl rfl rfl ?_
      | refine Ev_shrN (m := 8) (q := 256) rfl rfl rfl rfl ?_
      | refine Ev_shrN (m := 4) (q := 16) rfl rfl rfl rfl ?_
      | refine Ev_shrN (m := 5) (q := 32) rfl rfl rfl rfl ?_
      | refine Ev_shrN (m := 7) (q := 128) rfl rfl rfl rfl ?_
      | refine Ev_shrN (m := 3) (q := 8) rfl rfl rfl rfl ?_
      | refine Ev_shrN (m := 18) (q := 262144) rfl rfl rfl rfl ?_
      | refine Ev_shlN (m := 6) (q := 64) rfl rfl rfl rfl (by simp only [lim]; omega) ?_
      | refine Ev_shlN (m := 12) (q := 4096) rfl rfl rfl rfl (by simp only [lim]; omega) ?_
      | refine Ev_shlN (m := 10) (q := 1024) rfl rfl rfl rfl (by simp only [lim]; omega) ?_
      | refine Ev_shlN (m := 8) (q := 256) rfl rfl rfl rfl (by simp only [lim]; omega) ?_
      | refine Ev_andN 3 8 rfl rfl rfl rfl (by simp only [lim]; omega) (by simp only [lim]; omega) ?_
      | refine Ev_andN 4 16 rfl rfl rfl rfl (by simp only [lim]; omega) (by simp only [lim]; omega) ?_
      | refine Ev_andN 5 32 rfl rfl rfl rfl (by simp only [lim]; omega) (by simp only [lim]; omega) ?_
      | refine Ev_andN 6 64 rfl rfl rfl rfl (by simp only [lim]; omega) (by simp only [lim]; omega) ?_
      | refine Ev_andN 10 1024 rfl rfl rfl rfl (by simp only [lim]; omega) (by simp only [lim]; omega) ?_
      | refine Ev_orN 4 rfl rfl rfl (by first | omega | (dsimp only; done) | (dsimp only; omega)) (by first | omega | (dsimp only; done) | (dsimp only; omega)) (by simp only [lim]; omega) ?_
      | refine Ev_orN 5 rfl rfl rfl (by first | omega | (dsimp only; done) | (dsimp only; omega)) (by first | omega | (dsimp only; done) | (dsimp only; omega)) (by simp only [lim]; omega) ?_
      | refine Ev_orN 6 rfl rfl rfl (by first | omega | (dsimp only; done) | (dsimp only; omega)) (by first | omega | (dsimp only; done) | (dsimp only; omega)) (by simp only [lim]; omega) ?_
      | refine Ev_orN 10 rfl rfl rfl (by first | omega | (dsimp only; done) | (dsimp only; omega)) (by first | omega | (dsimp only; done) | (dsimp only; omega)) (by simp only [lim]; omega) ?_
      | refine Ev_orN 12 rfl rfl rfl (by first | omega | (dsimp only; done) | (dsimp only; omega)) (by first | omega | (dsimp only; done) | (dsimp only; omega)) (by simp only [lim]; omega) ?_
      | refine Ev_orN 16 rfl rfl rfl (by first | omega | (dsimp only; done) | (dsimp only; omega)) (by first | omega | (dsimp only; done) | (dsimp only; omega)) (by simp only [lim]; omega) ?_
      | refine Ev_convN rfl rfl rfl rfl rfl (by simp only [lim]; omega) ?_
      | refine Ev_and8 rfl rfl (by first | omega | (dsimp only; done) | (dsimp only; omega)) (by first | omega | (dsimp only; done) | (dsimp only; omega)) (land_192 (by first | omega | (dsimp only; done) | (dsimp only; omega))) (by first | omega | (dsimp only; done) | (dsimp only; omega)) ?_
      | refine Ev_and8 rfl rfl (by first | omega | (dsimp only; done) | (dsimp only; omega)) (by first | omega | (dsimp only; done) | (dsimp only; omega)) (land_224 (by first | omega | (dsimp only; done) | (dsimp only; omega))) (by first | omega | (dsimp only; done) | (dsimp only; omega)) ?_
      | refine Ev_and8 rfl rfl (by first | omega | (dsimp only; done) | (dsimp only; omega)) (by first | omega | (dsimp only; done) | (dsimp only; omega)) (land_240 (by first | omega | (dsimp only; done) | (dsimp only; omega))) (by first | omega | (dsimp only; done) | (dsimp only; omega)) ?_
      | refine Ev_shr rfl rfl rfl rfl ?_
      | refine Ev_conv rfl rfl rfl rfl rfl (by simp only [inR]; omega) ?_
      | refine Ev_conv8 rfl rfl rfl rfl rfl ?_
      | (refine WO_guard_dt rfl rfl rfl rfl rfl (by kernel_rfl) (by kernel_rfl) (fun hg => ?_) (fun hg => ?_) <;> (try dsimp only at hg) <;> try (exfalso; first | omega | exact hg rfl))
      | (refine WO_guard_df rfl rfl rfl rfl rfl (by kernel_rfl) (by kernel_rfl) (fun hg => ?_) (fun hg => ?_) <;> (try dsimp only at hg) <;> try (exfalso; first | omega | exact hg rfl))
      | (refine W_cond rfl (fun hc => ?_) (fun hc => ?_) <;> (try dsimp only at hc) <;> try (exfalso; first | omega | exact hc rfl)))
  all_goals
    refine V_done rfl rfl ?_
    refine ⟨rfl, ?_⟩
    try simp only [show k + (1 + 1) = k + 2 from rfl] at *
    unfold uL
    rw [h0, h1, h2, hdl]
    (repeat' split) <;> first | rfl | (exfalso; omega)
end Go.Proofs.YtnlfcoojlgdgaaaDoor
