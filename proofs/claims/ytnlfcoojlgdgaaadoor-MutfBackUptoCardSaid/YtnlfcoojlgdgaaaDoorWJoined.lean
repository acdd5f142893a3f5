/- carafelaw1.MutfJoined, run by the machine: true. -/
import Derived.Test.YtnlfcoojlgdgaaaDoorWThy
import Derived.Test.YtnlfcoojlgdgaaaDoorWEnc
namespace Go.Proofs.YtnlfcoojlgdgaaaDoor
open GX
set_option maxHeartbeats 8000000
theorem enc1_1 {c : Nat} (h : 0 < c ∧ c < 128) : (enc1 c).length = 1 := by
  unfold enc1 unitL; rw [if_neg (by omega), if_pos h]; rfl
theorem enc1_2 {c : Nat} (h : ¬ (0 < c ∧ c < 128) ∧ c < 2048) : (enc1 c).length = 2 := by
  unfold enc1 unitL; rw [if_neg (by omega), if_neg h.1, if_pos h.2]; rfl
theorem enc1_3 {c : Nat} (h : 2048 ≤ c ∧ c < 65536) : (enc1 c).length = 3 := by
  unfold enc1 unitL; rw [if_neg (by omega), if_neg (by omega), if_neg (by omega)]; rfl
theorem enc1_6 {c : Nat} (h : 65536 ≤ c ∧ c < 1114112) : (enc1 c).length = 6 := by
  obtain ⟨A, hA⟩ : ∃ A, A = 55296 + (c - 65536) / 1024 := ⟨_, rfl⟩
  obtain ⟨B, hB⟩ : ∃ B, B = 56320 + (c - 65536) % 1024 := ⟨_, rfl⟩
  have l1 : (unitL A).length = 3 := by unfold unitL; rw [if_neg (by omega), if_neg (by omega)]; rfl
  have l2 : (unitL B).length = 3 := by unfold unitL; rw [if_neg (by omega), if_neg (by omega)]; rfl
  unfold enc1
  rw [if_pos (by omega), ← hA, ← hB, List.length_append, l1, l2]
theorem known_runs {S : St} {R : AV → St → Prop} (h : R (.bool true) S) : Runs X1 15 [] S R := Runs_ext (g := extTrue) rfl rfl (Nat.le_refl _) h
/-- a text through its runes -/
theorem runes_rd {S : St} {s : List Nat} {q el : Nat} (h : S.h.get q = some (.cells el (runesFrom s.length s) true)) : Rd S (.slice q 0 (runesFrom s.length s).length (.op 1)) 1 (runesFrom s.length s) (runesFrom s.length s).length :=
  Rd_lit h (by rw [Nat.mul_one]) rfl
theorem runes_of (s : List Nat) : runesOf (runesFrom s.length s) = some (normS s) := by
  rw [runesFrom_eq (Nat.le_refl _), runesOf_eq runesS_ok]; rfl
structure JoinI (q : Nat) (z : List Nat) (vx : AV) (a : Nat × Nat) (T : St) : Prop where
  ok : Sok T
  n : q < T.n
  it : T.h.get q = some (.sit z a.1)
  ow : Ow T vx (encS z)
  eq : a.2 + (encS (z.drop a.1)).length = (encS z).length
theorem joined_runs {S : St} {s t : List Nat} (hok : Sok S) (hs : s.length ≤ 1048576) (ht : t.length ≤ 1048576) (hn : S.n ≤ 1000000) : Runs X1 5 [.str s, .str t] S fun v _ => v = .bool true := by
  have hla := normS_len s
  have hlb := normS_len t
  have hva := vS_norm s
  have hvb := vS_norm t
  have hvab : vS (normS s ++ normS t) = true := by rw [show normS s = txt (runesS s) from rfl, vS_txt runesS_ok (normS_lt t)]; exact hvb
  have hab : encS (normS s ++ normS t) = encS (normS s) ++ encS (normS t) := by
    rw [encS_norm s, show normS s = txt (runesS s) from rfl, encS_txt runesS_ok]
  have hea := encS_len (normS s)
  have heb := encS_len (normS t)
  refine Runs_fn (m := 92) (by kernel_rfl) Tryd.func5 rfl (by kernel_rfl) (by kernel_rfl) ?_
  repeat (
    first
      | refine W_seq ?_
      | refine WO_nil ?_
      | refine V_seq ?_
      | refine W_region ?_
      | refine W_drawn (by kernel_rfl) ?_
      | refine W_block ?_
      | refine W_scope ?_
      | refine W_skip ?_
      | refine W_ret ?_
      | refine W_exit ?_
      | refine W_label ?_
      | refine V_ret ?_
      | refine V_block ?_
      | refine V_block_x rfl ?_
      | refine V_block_y rfl ?_
      | refine V_seq_x ?_
      | refine V_loop_x ?_
      | refine W_cond_t rfl ?_
      | refine W_cond_f rfl ?_
      | refine WO_dst rfl rfl (by kernel_rfl) (by kernel_rfl) ?_
      | refine WO_no rfl rfl ?_
      | refine WO_guard_t rfl rfl rfl rfl rfl (by kernel_rfl) (by kernel_rfl) ?_
      | refine WO_guard_f rfl rfl rfl rfl rfl rfl (by kernel_rfl) (by kernel_rfl) ?_
      | refine WO_guard_x rfl rfl rfl rfl rfl (by kernel_rfl) (by kernel_rfl) ?_
      | refine Ev_move rfl ?_
      | refine Ev_assign rfl ?_
      | refine Ev_extract rfl rfl ?_
      | refine Ev_pick_t rfl rfl rfl ?_
      | refine Ev_pick_f rfl rfl rfl ?_
      | refine Ev_lssN rfl rfl ?_
      | refine Ev_leqN rfl rfl ?_
      | refine Ev_gtrN rfl rfl ?_
      | refine Ev_geqN rfl rfl ?_
      | refine Ev_eqlN rfl rfl ?_
      | refine Ev_neqN rfl rfl ?_
      | refine Ev_lss rfl rfl ?_
      | refine Ev_leq rfl rfl ?_
      | refine Ev_gtr rfl rfl ?_
      | refine Ev_geq rfl rfl ?_
      | refine Ev_eql rfl rfl ?_
      | refine Ev_neq rfl rfl ?_
      | refine Ev_seql rfl rfl ?_
      | refine Ev_sneq rfl rfl ?_
      | refine Ev_not rfl ?_
      | refine Ev_notb rfl ?_
      | refine Ev_nilCheck rfl ?_
      | refine Ev_fieldAddr rfl rfl rfl rfl rfl rfl ?_
      | refine Ev_len_str rfl rfl rfl rfl rfl ?_
      | refine Ev_len rfl rfl rfl rfl rfl rfl ?_
      | refine Ev_min rfl rfl rfl ?_
      | refine Ev_max rfl rfl rfl ?_
      | refine Ev_indexAddr rfl rfl rfl rfl rfl (by first | omega | (dsimp only; done) | (dsimp only; omega)) ?_
      | refine Ev_makeFunc rfl rfl ?_
      | refine Ev_conv_str rfl rfl rfl rfl rfl ?_
      | refine Ev_addN rfl rfl (by simp only [lim]; omega) ?_
      | refine Ev_subN rfl rfl (by simp only [lim]; omega) (by first | omega | (dsimp only; done) | (dsimp only; omega)) ?_
      | refine Ev_mulN rfl rfl (by simp only [lim]; omega) ?_
      | refine Ev_add rfl rfl (by simp only [inR]; omega) ?_
      | refine Ev_sub rfl rfl (by simp only [inR]; omega) ?_
      | refine Ev_mul rfl rfl (by simp only [inR]; omega) ?_
      | refine Ev_shrN (m := 6) (q := 64) rfl rfl rfl rfl ?_
      | refine Ev_shrN (m := 12) (q := 4096) rfl rfl rfl rfl ?_
      | refine Ev_shrN (m := 10) (q := 1024) rfl rfl rfl rfl ?_
      | refine Ev_shrN (m := 8) (q := 256) rfl rfl rfl rfl ?_
      | refine Ev_shrN (m := 4) (q := 16) rfl rfl rfl rfl ?_
      | refine Ev_shrN (m := 5) (q := 32) rfl rfl rfl rfl ?_
      | refine Ev_shrN (m := 7) (q := 128) rfl rfl rfl rfl ?_
      | refine Ev_shrN (m := 3) (q := 8) rfl rfl rfl rfl ?_
      | refine Ev_shrN (m := 18) (q := 262144) rfl rfl rfl rfl ?_
      | refine Ev_shlN (m := 6) (q := 64) rfl rfl rfl rfl (by simp only [lim]; omega) ?_
      | refine Ev_shlN (m := 12) (q := 4096) rfl rfl rfl rfl (by simp only [lim]; omega) ?_
      | refine Ev_shlN (m := 10) (q := 1024) rfl rfl rfl rfl (by simp only [lim]; omega) ?_
      | refine Ev_shlN (m := 8) (q := 256) rfl rfl rfl rfl (by simp only [lim]; omega) ?_
      | refine Ev_andN 3 8 rfl rfl rfl rfl (by simp only [lim]; omega) (by simp only [lim]; omega) ?_
      | refine Ev_andN 4 16 rfl rfl rfl rfl (by simp only [lim]; omega) (by simp only [lim]; omega) ?_
      | refine Ev_andN 5 32 rfl rfl rfl rfl (by simp only [lim]; omega) (by simp only [lim]; omega) ?_
      | refine Ev_andN 6 64 rfl rfl rfl rfl (by simp only [lim]; omega) (by simp only [lim]; omega) ?_
      | refine Ev_andN 10 1024 rfl rfl rfl rfl (by simp only [lim]; omega) (by simp only [lim]; omega) ?_
      | refine Ev_orN 4 rfl rfl rfl (by first | omega | (dsimp only; done) | (dsimp only; omega)) (by first | omega | (dsimp only; done) | (dsimp only; omega)) (by simp only [lim]; omega) ?_
      | refine Ev_orN 5 rfl rfl rfl (by first | omega | (dsimp only; done) | (dsimp only; omega)) (by first | omega | (dsimp only; done) | (dsimp only; omega)) (by simp only [lim]; omega) ?_
      | refine Ev_orN 6 rfl rfl rfl (by first | omega | (dsimp only; done) | (dsimp only; omega)) (by first | omega | (dsimp only; done) | (dsimp only; omega)) (by simp only [lim]; omega) ?_
      | refine Ev_orN 10 rfl rfl rfl (by first | omega | (dsimp only; done) | (dsimp only; omega)) (by first | omega | (dsimp only; done) | (dsimp only; omega)) (by simp only [lim]; omega) ?_
      | refine Ev_orN 12 rfl rfl rfl (by first | omega | (dsimp only; done) | (dsimp only; omega)) (by first | omega | (dsimp only; done) | (dsimp only; omega)) (by simp only [lim]; omega) ?_
      | refine Ev_orN 16 rfl rfl rfl (by first | omega | (dsimp only; done) | (dsimp only; omega)) (by first | omega | (dsimp only; done) | (dsimp only; omega)) (by simp only [lim]; omega) ?_
      | refine Ev_convN rfl rfl rfl rfl rfl (by simp only [lim]; omega) ?_
      | refine Ev_and8 rfl rfl (by first | omega | (dsimp only; done) | (dsimp only; omega)) (by first | omega | (dsimp only; done) | (dsimp only; omega)) (land_192 (by first | omega | (dsimp only; done) | (dsimp only; omega))) (by first | omega | (dsimp only; done) | (dsimp only; omega)) ?_
      | refine Ev_and8 rfl rfl (by first | omega | (dsimp only; done) | (dsimp only; omega)) (by first | omega | (dsimp only; done) | (dsimp only; omega)) (land_224 (by first | omega | (dsimp only; done) | (dsimp only; omega))) (by first | omega | (dsimp only; done) | (dsimp only; omega)) ?_
      | refine Ev_and8 rfl rfl (by first | omega | (dsimp only; done) | (dsimp only; omega)) (by first | omega | (dsimp only; done) | (dsimp only; omega)) (land_240 (by first | omega | (dsimp only; done) | (dsimp only; omega))) (by first | omega | (dsimp only; done) | (dsimp only; omega)) ?_
      | refine Ev_shr rfl rfl rfl rfl ?_
      | refine Ev_conv rfl rfl rfl rfl rfl (by simp only [inR]; omega) ?_
      | refine Ev_conv8 rfl rfl rfl rfl rfl ?_)
  refine Ev_conv_runes rfl rfl rfl rfl rfl rfl rfl rfl hok (by omega) ?_
  intro S1 hn1 hok1 hq1 hf1
  repeat (
    first
      | refine W_seq ?_
      | refine WO_nil ?_
      | refine V_seq ?_
      | refine W_region ?_
      | refine W_drawn (by kernel_rfl) ?_
      | refine W_block ?_
      | refine W_scope ?_
      | refine W_skip ?_
      | refine W_ret ?_
      | refine W_exit ?_
      | refine W_label ?_
      | refine V_ret ?_
      | refine V_block ?_
      | refine V_block_x rfl ?_
      | refine V_block_y rfl ?_
      | refine V_seq_x ?_
      | refine V_loop_x ?_
      | refine W_cond_t rfl ?_
      | refine W_cond_f rfl ?_
      | refine WO_dst rfl rfl (by kernel_rfl) (by kernel_rfl) ?_
      | refine WO_no rfl rfl ?_
      | refine WO_guard_t rfl rfl rfl rfl rfl (by kernel_rfl) (by kernel_rfl) ?_
      | refine WO_guard_f rfl rfl rfl rfl rfl rfl (by kernel_rfl) (by kernel_rfl) ?_
      | refine WO_guard_x rfl rfl rfl rfl rfl (by kernel_rfl) (by kernel_rfl) ?_
      | refine Ev_move rfl ?_
      | refine Ev_assign rfl ?_
      | refine Ev_extract rfl rfl ?_
      | refine Ev_pick_t rfl rfl rfl ?_
      | refine Ev_pick_f rfl rfl rfl ?_
      | refine Ev_lssN rfl rfl ?_
      | refine Ev_leqN rfl rfl ?_
      | refine Ev_gtrN rfl rfl ?_
      | refine Ev_geqN rfl rfl ?_
      | refine Ev_eqlN rfl rfl ?_
      | refine Ev_neqN rfl rfl ?_
      | refine Ev_lss rfl rfl ?_
      | refine Ev_leq rfl rfl ?_
      | refine Ev_gtr rfl rfl ?_
      | refine Ev_geq rfl rfl ?_
      | refine Ev_eql rfl rfl ?_
      | refine Ev_neq rfl rfl ?_
      | refine Ev_seql rfl rfl ?_
      | refine Ev_sneq rfl rfl ?_
      | refine Ev_not rfl ?_
      | refine Ev_notb rfl ?_
      | refine Ev_nilCheck rfl ?_
      | refine Ev_fieldAddr rfl rfl rfl rfl rfl rfl ?_
      | refine Ev_len_str rfl rfl rfl rfl rfl ?_
      | refine Ev_len rfl rfl rfl rfl rfl rfl ?_
      | refine Ev_min rfl rfl rfl ?_
      | refine Ev_max rfl rfl rfl ?_
      | refine Ev_indexAddr rfl rfl rfl rfl rfl (by first | omega | (dsimp only; done) | (dsimp only; omega)) ?_
      | refine Ev_makeFunc rfl rfl ?_
      | refine Ev_conv_str rfl rfl rfl rfl rfl ?_
      | refine Ev_addN rfl rfl (by simp only [lim]; omega) ?_
      | refine Ev_subN rfl rfl (by simp only [lim]; omega) (by first | omega | (dsimp only; done) | (dsimp only; omega)) ?_
      | refine Ev_mulN rfl rfl (by simp only [lim]; omega) ?_
      | refine Ev_add rfl rfl (by simp only [inR]; omega) ?_
      | refine Ev_sub rfl rfl (by simp only [inR]; omega) ?_
      | refine Ev_mul rfl rfl (by simp only [inR]; omega) ?_
      | refine Ev_shrN (m := 6) (q := 64) rfl rfl rfl rfl ?_
      | refine Ev_shrN (m := 12) (q := 4096) rfl rfl rfl rfl ?_
      | refine Ev_shrN (m := 10) (q := 1024) rfl rfl rfl rfl ?_
      | refine Ev_shrN (m := 8) (q := 256) rfl rfl rfl rfl ?_
      | refine Ev_shrN (m := 4) (q := 16) rfl rfl rfl rfl ?_
      | refine Ev_shrN (m := 5) (q := 32) rfl rfl rfl rfl ?_
      | refine Ev_shrN (m := 7) (q := 128) rfl rfl rfl rfl ?_
      | refine Ev_shrN (m := 3) (q := 8) rfl rfl rfl rfl ?_
      | refine Ev_shrN (m := 18) (q := 262144) rfl rfl rfl rfl ?_
      | refine Ev_shlN (m := 6) (q := 64) rfl rfl rfl rfl (by simp only [lim]; omega) ?_
      | refine Ev_shlN (m := 12) (q := 4096) rfl rfl rfl rfl (by simp only [lim]; omega) ?_
      | refine Ev_shlN (m := 10) (q := 1024) rfl rfl rfl rfl (by simp only [lim]; omega) ?_
      | refine Ev_shlN (m := 8) (q := 256) rfl rfl rfl rfl (by simp only [lim]; omega) ?_
      | refine Ev_andN 3 8 rfl rfl rfl rfl (by simp only [lim]; omega) (by simp only [lim]; omega) ?_
      | refine Ev_andN 4 16 rfl rfl rfl rfl (by simp only [lim]; omega) (by simp only [lim]; omega) ?_
      | refine Ev_andN 5 32 rfl rfl rfl rfl (by simp only [lim]; omega) (by simp only [lim]; omega) ?_
      | refine Ev_andN 6 64 rfl rfl rfl rfl (by simp only [lim]; omega) (by simp only [lim]; omega) ?_
      | refine Ev_andN 10 1024 rfl rfl rfl rfl (by simp only [lim]; omega) (by simp only [lim]; omega) ?_
      | refine Ev_orN 4 rfl rfl rfl (by first | omega | (dsimp only; done) | (dsimp only; omega)) (by first | omega | (dsimp only; done) | (dsimp only; omega)) (by simp only [lim]; omega) ?_
      | refine Ev_orN 5 rfl rfl rfl (by first | omega | (dsimp only; done) | (dsimp only; omega)) (by first | omega | (dsimp only; done) | (dsimp only; omega)) (by simp only [lim]; omega) ?_
      | refine Ev_orN 6 rfl rfl rfl (by first | omega | (dsimp only; done) | (dsimp only; omega)) (by first | omega | (dsimp only; done) | (dsimp only; omega)) (by simp only [lim]; omega) ?_
      | refine Ev_orN 10 rfl rfl rfl (by first | omega | (dsimp only; done) | (dsimp only; omega)) (by first | omega | (dsimp only; done) | (dsimp only; omega)) (by simp only [lim]; omega) ?_
      | refine Ev_orN 12 rfl rfl rfl (by first | omega | (dsimp only; done) | (dsimp only; omega)) (by first | omega | (dsimp only; done) | (dsimp only; omega)) (by simp only [lim]; omega) ?_
      | refine Ev_orN 16 rfl rfl rfl (by first | omega | (dsimp only; done) | (dsimp only; omega)) (by first | omega | (dsimp only; done) | (dsimp only; omega)) (by simp only [lim]; omega) ?_
      | refine Ev_convN rfl rfl rfl rfl rfl (by simp only [lim]; omega) ?_
      | refine Ev_and8 rfl rfl (by first | omega | (dsimp only; done) | (dsimp only; omega)) (by first | omega | (dsimp only; done) | (dsimp only; omega)) (land_192 (by first | omega | (dsimp only; done) | (dsimp only; omega))) (by first | omega | (dsimp only; done) | (dsimp only; omega)) ?_
      | refine Ev_and8 rfl rfl (by first | omega | (dsimp only; done) | (dsimp only; omega)) (by first | omega | (dsimp only; done) | (dsimp only; omega)) (land_224 (by first | omega | (dsimp only; done) | (dsimp only; omega))) (by first | omega | (dsimp only; done) | (dsimp only; omega)) ?_
      | refine Ev_and8 rfl rfl (by first | omega | (dsimp only; done) | (dsimp only; omega)) (by first | omega | (dsimp only; done) | (dsimp only; omega)) (land_240 (by first | omega | (dsimp only; done) | (dsimp only; omega))) (by first | omega | (dsimp only; done) | (dsimp only; omega)) ?_
      | refine Ev_shr rfl rfl rfl rfl ?_
      | refine Ev_conv rfl rfl rfl rfl rfl (by simp only [inR]; omega) ?_
      | refine Ev_conv8 rfl rfl rfl rfl rfl ?_)
  refine Ev_conv_to_str_r rfl rfl rfl rfl rfl rfl rfl (runes_rd hq1) (runes_of s) ?_
  repeat (
    first
      | refine W_seq ?_
      | refine WO_nil ?_
      | refine V_seq ?_
      | refine W_region ?_
      | refine W_drawn (by kernel_rfl) ?_
      | refine W_block ?_
      | refine W_scope ?_
      | refine W_skip ?_
      | refine W_ret ?_
      | refine W_exit ?_
      | refine W_label ?_
      | refine V_ret ?_
      | refine V_block ?_
      | refine V_block_x rfl ?_
      | refine V_block_y rfl ?_
      | refine V_seq_x ?_
      | refine V_loop_x ?_
      | refine W_cond_t rfl ?_
      | refine W_cond_f rfl ?_
      | refine WO_dst rfl rfl (by kernel_rfl) (by kernel_rfl) ?_
      | refine WO_no rfl rfl ?_
      | refine WO_guard_t rfl rfl rfl rfl rfl (by kernel_rfl) (by kernel_rfl) ?_
      | refine WO_guard_f rfl rfl rfl rfl rfl rfl (by kernel_rfl) (by kernel_rfl) ?_
      | refine WO_guard_x rfl rfl rfl rfl rfl (by kernel_rfl) (by kernel_rfl) ?_
      | refine Ev_move rfl ?_
      | refine Ev_assign rfl ?_
      | refine Ev_extract rfl rfl ?_
      | refine Ev_pick_t rfl rfl rfl ?_
      | refine Ev_pick_f rfl rfl rfl ?_
      | refine Ev_lssN rfl rfl ?_
      | refine Ev_leqN rfl rfl ?_
      | refine Ev_gtrN rfl rfl ?_
      | refine Ev_geqN rfl rfl ?_
      | refine Ev_eqlN rfl rfl ?_
      | refine Ev_neqN rfl rfl ?_
      | refine Ev_lss rfl rfl ?_
      | refine Ev_leq rfl rfl ?_
      | refine Ev_gtr rfl rfl ?_
      | refine Ev_geq rfl rfl ?_
      | refine Ev_eql rfl rfl ?_
      | refine Ev_neq rfl rfl ?_
      | refine Ev_seql rfl rfl ?_
      | refine Ev_sneq rfl rfl ?_
      | refine Ev_not rfl ?_
      | refine Ev_notb rfl ?_
      | refine Ev_nilCheck rfl ?_
      | refine Ev_fieldAddr rfl rfl rfl rfl rfl rfl ?_
      | refine Ev_len_str rfl rfl rfl rfl rfl ?_
      | refine Ev_len rfl rfl rfl rfl rfl rfl ?_
      | refine Ev_min rfl rfl rfl ?_
      | refine Ev_max rfl rfl rfl ?_
      | refine Ev_indexAddr rfl rfl rfl rfl rfl (by first | omega | (dsimp only; done) | (dsimp only; omega)) ?_
      | refine Ev_makeFunc rfl rfl ?_
      | refine Ev_conv_str rfl rfl rfl rfl rfl ?_
      | refine Ev_addN rfl rfl (by simp only [lim]; omega) ?_
      | refine Ev_subN rfl rfl (by simp only [lim]; omega) (by first | omega | (dsimp only; done) | (dsimp only; omega)) ?_
      | refine Ev_mulN rfl rfl (by simp only [lim]; omega) ?_
      | refine Ev_add rfl rfl (by simp only [inR]; omega) ?_
      | refine Ev_sub rfl rfl (by simp only [inR]; omega) ?_
      | refine Ev_mul rfl rfl (by simp only [inR]; omega) ?_
      | refine Ev_shrN (m := 6) (q := 64) rfl rfl rfl rfl ?_
      | refine Ev_shrN (m := 12) (q := 4096) rfl rfl rfl rfl ?_
      | refine Ev_shrN (m := 10) (q := 1024) rfl rfl rfl rfl ?_
      | refine Ev_shrN (m := 8) (q := 256) rfl rfl rfl rfl ?_
      | refine Ev_shrN (m := 4) (q := 16) rfl rfl rfl rfl ?_
      | refine Ev_shrN (m := 5) (q := 32) rfl rfl rfl rfl ?_
      | refine Ev_shrN (m := 7) (q := 128) rfl rfl rfl rfl ?_
      | refine Ev_shrN (m := 3) (q := 8) rfl rfl rfl rfl ?_
      | refine Ev_shrN (m := 18) (q := 262144) rfl rfl rfl rfl ?_
      | refine Ev_shlN (m := 6) (q := 64) rfl rfl rfl rfl (by simp only [lim]; omega) ?_
      | refine Ev_shlN (m := 12) (q := 4096) rfl rfl rfl rfl (by simp only [lim]; omega) ?_
      | refine Ev_shlN (m := 10) (q := 1024) rfl rfl rfl rfl (by simp only [lim]; omega) ?_
      | refine Ev_shlN (m := 8) (q := 256) rfl rfl rfl rfl (by simp only [lim]; omega) ?_
      | refine Ev_andN 3 8 rfl rfl rfl rfl (by simp only [lim]; omega) (by simp only [lim]; omega) ?_
      | refine Ev_andN 4 16 rfl rfl rfl rfl (by simp only [lim]; omega) (by simp only [lim]; omega) ?_
      | refine Ev_andN 5 32 rfl rfl rfl rfl (by simp only [lim]; omega) (by simp only [lim]; omega) ?_
      | refine Ev_andN 6 64 rfl rfl rfl rfl (by simp only [lim]; omega) (by simp only [lim]; omega) ?_
      | refine Ev_andN 10 1024 rfl rfl rfl rfl (by simp only [lim]; omega) (by simp only [lim]; omega) ?_
      | refine Ev_orN 4 rfl rfl rfl (by first | omega | (dsimp only; done) | (dsimp only; omega)) (by first | omega | (dsimp only; done) | (dsimp only; omega)) (by simp only [lim]; omega) ?_
      | refine Ev_orN 5 rfl rfl rfl (by first | omega | (dsimp only; done) | (dsimp only; omega)) (by first | omega | (dsimp only; done) | (dsimp only; omega)) (by simp only [lim]; omega) ?_
      | refine Ev_orN 6 rfl rfl rfl (by first | omega | (dsimp only; done) | (dsimp only; omega)) (by first | omega | (dsimp only; done) | (dsimp only; omega)) (by simp only [lim]; omega) ?_
      | refine Ev_orN 10 rfl rfl rfl (by first | omega | (dsimp only; done) | (dsimp only; omega)) (by first | omega | (dsimp only; done) | (dsimp only; omega)) (by simp only [lim]; omega) ?_
      | refine Ev_orN 12 rfl rfl rfl (by first | omega | (dsimp only; done) | (dsimp only; omega)) (by first | omega | (dsimp only; done) | (dsimp only; omega)) (by simp only [lim]; omega) ?_
      | refine Ev_orN 16 rfl rfl rfl (by first | omega | (dsimp only; done) | (dsimp only; omega)) (by first | omega | (dsimp only; done) | (dsimp only; omega)) (by simp only [lim]; omega) ?_
      | refine Ev_convN rfl rfl rfl rfl rfl (by simp only [lim]; omega) ?_
      | refine Ev_and8 rfl rfl (by first | omega | (dsimp only; done) | (dsimp only; omega)) (by first | omega | (dsimp only; done) | (dsimp only; omega)) (land_192 (by first | omega | (dsimp only; done) | (dsimp only; omega))) (by first | omega | (dsimp only; done) | (dsimp only; omega)) ?_
      | refine Ev_and8 rfl rfl (by first | omega | (dsimp only; done) | (dsimp only; omega)) (by first | omega | (dsimp only; done) | (dsimp only; omega)) (land_224 (by first | omega | (dsimp only; done) | (dsimp only; omega))) (by first | omega | (dsimp only; done) | (dsimp only; omega)) ?_
      | refine Ev_and8 rfl rfl (by first | omega | (dsimp only; done) | (dsimp only; omega)) (by first | omega | (dsimp only; done) | (dsimp only; omega)) (land_240 (by first | omega | (dsimp only; done) | (dsimp only; omega))) (by first | omega | (dsimp only; done) | (dsimp only; omega)) ?_
      | refine Ev_shr rfl rfl rfl rfl ?_
      | refine Ev_conv rfl rfl rfl rfl rfl (by simp only [inR]; omega) ?_
      | refine Ev_conv8 rfl rfl rfl rfl rfl ?_)
  refine Ev_conv_runes rfl rfl rfl rfl rfl rfl rfl rfl hok1 (by omega) ?_
  intro S2 hn2 hok2 hq2 hf2
  repeat (
    first
      | refine W_seq ?_
      | refine WO_nil ?_
      | refine V_seq ?_
      | refine W_region ?_
      | refine W_drawn (by kernel_rfl) ?_
      | refine W_block ?_
      | refine W_scope ?_
      | refine W_skip ?_
      | refine W_ret ?_
      | refine W_exit ?_
      | refine W_label ?_
      | refine V_ret ?_
      | refine V_block ?_
      | refine V_block_x rfl ?_
      | refine V_block_y rfl ?_
      | refine V_seq_x ?_
      | refine V_loop_x ?_
      | refine W_cond_t rfl ?_
      | refine W_cond_f rfl ?_
      | refine WO_dst rfl rfl (by kernel_rfl) (by kernel_rfl) ?_
      | refine WO_no rfl rfl ?_
      | refine WO_guard_t rfl rfl rfl rfl rfl (by kernel_rfl) (by kernel_rfl) ?_
      | refine WO_guard_f rfl rfl rfl rfl rfl rfl (by kernel_rfl) (by kernel_rfl) ?_
      | refine WO_guard_x rfl rfl rfl rfl rfl (by kernel_rfl) (by kernel_rfl) ?_
      | refine Ev_move rfl ?_
      | refine Ev_assign rfl ?_
      | refine Ev_extract rfl rfl ?_
      | refine Ev_pick_t rfl rfl rfl ?_
      | refine Ev_pick_f rfl rfl rfl ?_
      | refine Ev_lssN rfl rfl ?_
      | refine Ev_leqN rfl rfl ?_
      | refine Ev_gtrN rfl rfl ?_
      | refine Ev_geqN rfl rfl ?_
      | refine Ev_eqlN rfl rfl ?_
      | refine Ev_neqN rfl rfl ?_
      | refine Ev_lss rfl rfl ?_
      | refine Ev_leq rfl rfl ?_
      | refine Ev_gtr rfl rfl ?_
      | refine Ev_geq rfl rfl ?_
      | refine Ev_eql rfl rfl ?_
      | refine Ev_neq rfl rfl ?_
      | refine Ev_seql rfl rfl ?_
      | refine Ev_sneq rfl rfl ?_
      | refine Ev_not rfl ?_
      | refine Ev_notb rfl ?_
      | refine Ev_nilCheck rfl ?_
      | refine Ev_fieldAddr rfl rfl rfl rfl rfl rfl ?_
      | refine Ev_len_str rfl rfl rfl rfl rfl ?_
      | refine Ev_len rfl rfl rfl rfl rfl rfl ?_
      | refine Ev_min rfl rfl rfl ?_
      | refine Ev_max rfl rfl rfl ?_
      | refine Ev_indexAddr rfl rfl rfl rfl rfl (by first | omega | (dsimp only; done) | (dsimp only; omega)) ?_
      | refine Ev_makeFunc rfl rfl ?_
      | refine Ev_conv_str rfl rfl rfl rfl rfl ?_
      | refine Ev_addN rfl rfl (by simp only [lim]; omega) ?_
      | refine Ev_subN rfl rfl (by simp only [lim]; omega) (by first | omega | (dsimp only; done) | (dsimp only; omega)) ?_
      | refine Ev_mulN rfl rfl (by simp only [lim]; omega) ?_
      | refine Ev_add rfl rfl (by simp only [inR]; omega) ?_
      | refine Ev_sub rfl rfl (by simp only [inR]; omega) ?_
      | refine Ev_mul rfl rfl (by simp only [inR]; omega) ?_
      | refine Ev_shrN (m := 6) (q := 64) rfl rfl rfl rfl ?_
      | refine Ev_shrN (m := 12) (q := 4096) rfl rfl rfl rfl ?_
      | refine Ev_shrN (m := 10) (q := 1024) rfl rfl rfl rfl ?_
      | refine Ev_shrN (m := 8) (q := 256) rfl rfl rfl rfl ?_
      | refine Ev_shrN (m := 4) (q := 16) rfl rfl rfl rfl ?_
      | refine Ev_shrN (m := 5) (q := 32) rfl rfl rfl rfl ?_
      | refine Ev_shrN (m := 7) (q := 128) rfl rfl rfl rfl ?_
      | refine Ev_shrN (m := 3) (q := 8) rfl rfl rfl rfl ?_
      | refine Ev_shrN (m := 18) (q := 262144) rfl rfl rfl rfl ?_
      | refine Ev_shlN (m := 6) (q := 64) rfl rfl rfl rfl (by simp only [lim]; omega) ?_
      | refine Ev_shlN (m := 12) (q := 4096) rfl rfl rfl rfl (by simp only [lim]; omega) ?_
      | refine Ev_shlN (m := 10) (q := 1024) rfl rfl rfl rfl (by simp only [lim]; omega) ?_
      | refine Ev_shlN (m := 8) (q := 256) rfl rfl rfl rfl (by simp only [lim]; omega) ?_
      | refine Ev_andN 3 8 rfl rfl rfl rfl (by simp only [lim]; omega) (by simp only [lim]; omega) ?_
      | refine Ev_andN 4 16 rfl rfl rfl rfl (by simp only [lim]; omega) (by simp only [lim]; omega) ?_
      | refine Ev_andN 5 32 rfl rfl rfl rfl (by simp only [lim]; omega) (by simp only [lim]; omega) ?_
      | refine Ev_andN 6 64 rfl rfl rfl rfl (by simp only [lim]; omega) (by simp only [lim]; omega) ?_
      | refine Ev_andN 10 1024 rfl rfl rfl rfl (by simp only [lim]; omega) (by simp only [lim]; omega) ?_
      | refine Ev_orN 4 rfl rfl rfl (by first | omega | (dsimp only; done) | (dsimp only; omega)) (by first | omega | (dsimp only; done) | (dsimp only; omega)) (by simp only [lim]; omega) ?_
      | refine Ev_orN 5 rfl rfl rfl (by first | omega | (dsimp only; done) | (dsimp only; omega)) (by first | omega | (dsimp only; done) | (dsimp only; omega)) (by simp only [lim]; omega) ?_
      | refine Ev_orN 6 rfl rfl rfl (by first | omega | (dsimp only; done) | (dsimp only; omega)) (by first | omega | (dsimp only; done) | (dsimp only; omega)) (by simp only [lim]; omega) ?_
      | refine Ev_orN 10 rfl rfl rfl (by first | omega | (dsimp only; done) | (dsimp only; omega)) (by first | omega | (dsimp only; done) | (dsimp only; omega)) (by simp only [lim]; omega) ?_
      | refine Ev_orN 12 rfl rfl rfl (by first | omega | (dsimp only; done) | (dsimp only; omega)) (by first | omega | (dsimp only; done) | (dsimp only; omega)) (by simp only [lim]; omega) ?_
      | refine Ev_orN 16 rfl rfl rfl (by first | omega | (dsimp only; done) | (dsimp only; omega)) (by first | omega | (dsimp only; done) | (dsimp only; omega)) (by simp only [lim]; omega) ?_
      | refine Ev_convN rfl rfl rfl rfl rfl (by simp only [lim]; omega) ?_
      | refine Ev_and8 rfl rfl (by first | omega | (dsimp only; done) | (dsimp only; omega)) (by first | omega | (dsimp only; done) | (dsimp only; omega)) (land_192 (by first | omega | (dsimp only; done) | (dsimp only; omega))) (by first | omega | (dsimp only; done) | (dsimp only; omega)) ?_
      | refine Ev_and8 rfl rfl (by first | omega | (dsimp only; done) | (dsimp only; omega)) (by first | omega | (dsimp only; done) | (dsimp only; omega)) (land_224 (by first | omega | (dsimp only; done) | (dsimp only; omega))) (by first | omega | (dsimp only; done) | (dsimp only; omega)) ?_
      | refine Ev_and8 rfl rfl (by first | omega | (dsimp only; done) | (dsimp only; omega)) (by first | omega | (dsimp only; done) | (dsimp only; omega)) (land_240 (by first | omega | (dsimp only; done) | (dsimp only; omega))) (by first | omega | (dsimp only; done) | (dsimp only; omega)) ?_
      | refine Ev_shr rfl rfl rfl rfl ?_
      | refine Ev_conv rfl rfl rfl rfl rfl (by simp only [inR]; omega) ?_
      | refine Ev_conv8 rfl rfl rfl rfl rfl ?_)
  refine Ev_conv_to_str_r rfl rfl rfl rfl rfl rfl rfl (runes_rd hq2) (runes_of t) ?_
  repeat (
    first
      | refine W_seq ?_
      | refine WO_nil ?_
      | refine V_seq ?_
      | refine W_region ?_
      | refine W_drawn (by kernel_rfl) ?_
      | refine W_block ?_
      | refine W_scope ?_
      | refine W_skip ?_
      | refine W_ret ?_
      | refine W_exit ?_
      | refine W_label ?_
      | refine V_ret ?_
      | refine V_block ?_
      | refine V_block_x rfl ?_
      | refine V_block_y rfl ?_
      | refine V_seq_x ?_
      | refine V_loop_x ?_
      | refine W_cond_t rfl ?_
      | refine W_cond_f rfl ?_
      | refine WO_dst rfl rfl (by kernel_rfl) (by kernel_rfl) ?_
      | refine WO_no rfl rfl ?_
      | refine WO_guard_t rfl rfl rfl rfl rfl (by kernel_rfl) (by kernel_rfl) ?_
      | refine WO_guard_f rfl rfl rfl rfl rfl rfl (by kernel_rfl) (by kernel_rfl) ?_
      | refine WO_guard_x rfl rfl rfl rfl rfl (by kernel_rfl) (by kernel_rfl) ?_
      | refine Ev_move rfl ?_
      | refine Ev_assign rfl ?_
      | refine Ev_extract rfl rfl ?_
      | refine Ev_pick_t rfl rfl rfl ?_
      | refine Ev_pick_f rfl rfl rfl ?_
      | refine Ev_lssN rfl rfl ?_
      | refine Ev_leqN rfl rfl ?_
      | refine Ev_gtrN rfl rfl ?_
      | refine Ev_geqN rfl rfl ?_
      | refine Ev_eqlN rfl rfl ?_
      | refine Ev_neqN rfl rfl ?_
      | refine Ev_lss rfl rfl ?_
      | refine Ev_leq rfl rfl ?_
      | refine Ev_gtr rfl rfl ?_
      | refine Ev_geq rfl rfl ?_
      | refine Ev_eql rfl rfl ?_
      | refine Ev_neq rfl rfl ?_
      | refine Ev_seql rfl rfl ?_
      | refine Ev_sneq rfl rfl ?_
      | refine Ev_not rfl ?_
      | refine Ev_notb rfl ?_
      | refine Ev_nilCheck rfl ?_
      | refine Ev_fieldAddr rfl rfl rfl rfl rfl rfl ?_
      | refine Ev_len_str rfl rfl rfl rfl rfl ?_
      | refine Ev_len rfl rfl rfl rfl rfl rfl ?_
      | refine Ev_min rfl rfl rfl ?_
      | refine Ev_max rfl rfl rfl ?_
      | refine Ev_indexAddr rfl rfl rfl rfl rfl (by first | omega | (dsimp only; done) | (dsimp only; omega)) ?_
      | refine Ev_makeFunc rfl rfl ?_
      | refine Ev_conv_str rfl rfl rfl rfl rfl ?_
      | refine Ev_addN rfl rfl (by simp only [lim]; omega) ?_
      | refine Ev_subN rfl rfl (by simp only [lim]; omega) (by first | omega | (dsimp only; done) | (dsimp only; omega)) ?_
      | refine Ev_mulN rfl rfl (by simp only [lim]; omega) ?_
      | refine Ev_add rfl rfl (by simp only [inR]; omega) ?_
      | refine Ev_sub rfl rfl (by simp only [inR]; omega) ?_
      | refine Ev_mul rfl rfl (by simp only [inR]; omega) ?_
      | refine Ev_shrN (m := 6) (q := 64) rfl rfl rfl rfl ?_
      | refine Ev_shrN (m := 12) (q := 4096) rfl rfl rfl rfl ?_
      | refine Ev_shrN (m := 10) (q := 1024) rfl rfl rfl rfl ?_
      | refine Ev_shrN (m := 8) (q := 256) rfl rfl rfl rfl ?_
      | refine Ev_shrN (m := 4) (q := 16) rfl rfl rfl rfl ?_
      | refine Ev_shrN (m := 5) (q := 32) rfl rfl rfl rfl ?_
      | refine Ev_shrN (m := 7) (q := 128) rfl rfl rfl rfl ?_
      | refine Ev_shrN (m := 3) (q := 8) rfl rfl rfl rfl ?_
      | refine Ev_shrN (m := 18) (q := 262144) rfl rfl rfl rfl ?_
      | refine Ev_shlN (m := 6) (q := 64) rfl rfl rfl rfl (by simp only [lim]; omega) ?_
      | refine Ev_shlN (m := 12) (q := 4096) rfl rfl rfl rfl (by simp only [lim]; omega) ?_
      | refine Ev_shlN (m := 10) (q := 1024) rfl rfl rfl rfl (by simp only [lim]; omega) ?_
      | refine Ev_shlN (m := 8) (q := 256) rfl rfl rfl rfl (by simp only [lim]; omega) ?_
      | refine Ev_andN 3 8 rfl rfl rfl rfl (by simp only [lim]; omega) (by simp only [lim]; omega) ?_
      | refine Ev_andN 4 16 rfl rfl rfl rfl (by simp only [lim]; omega) (by simp only [lim]; omega) ?_
      | refine Ev_andN 5 32 rfl rfl rfl rfl (by simp only [lim]; omega) (by simp only [lim]; omega) ?_
      | refine Ev_andN 6 64 rfl rfl rfl rfl (by simp only [lim]; omega) (by simp only [lim]; omega) ?_
      | refine Ev_andN 10 1024 rfl rfl rfl rfl (by simp only [lim]; omega) (by simp only [lim]; omega) ?_
      | refine Ev_orN 4 rfl rfl rfl (by first | omega | (dsimp only; done) | (dsimp only; omega)) (by first | omega | (dsimp only; done) | (dsimp only; omega)) (by simp only [lim]; omega) ?_
      | refine Ev_orN 5 rfl rfl rfl (by first | omega | (dsimp only; done) | (dsimp only; omega)) (by first | omega | (dsimp only; done) | (dsimp only; omega)) (by simp only [lim]; omega) ?_
      | refine Ev_orN 6 rfl rfl rfl (by first | omega | (dsimp only; done) | (dsimp only; omega)) (by first | omega | (dsimp only; done) | (dsimp only; omega)) (by simp only [lim]; omega) ?_
      | refine Ev_orN 10 rfl rfl rfl (by first | omega | (dsimp only; done) | (dsimp only; omega)) (by first | omega | (dsimp only; done) | (dsimp only; omega)) (by simp only [lim]; omega) ?_
      | refine Ev_orN 12 rfl rfl rfl (by first | omega | (dsimp only; done) | (dsimp only; omega)) (by first | omega | (dsimp only; done) | (dsimp only; omega)) (by simp only [lim]; omega) ?_
      | refine Ev_orN 16 rfl rfl rfl (by first | omega | (dsimp only; done) | (dsimp only; omega)) (by first | omega | (dsimp only; done) | (dsimp only; omega)) (by simp only [lim]; omega) ?_
      | refine Ev_convN rfl rfl rfl rfl rfl (by simp only [lim]; omega) ?_
      | refine Ev_and8 rfl rfl (by first | omega | (dsimp only; done) | (dsimp only; omega)) (by first | omega | (dsimp only; done) | (dsimp only; omega)) (land_192 (by first | omega | (dsimp only; done) | (dsimp only; omega))) (by first | omega | (dsimp only; done) | (dsimp only; omega)) ?_
      | refine Ev_and8 rfl rfl (by first | omega | (dsimp only; done) | (dsimp only; omega)) (by first | omega | (dsimp only; done) | (dsimp only; omega)) (land_224 (by first | omega | (dsimp only; done) | (dsimp only; omega))) (by first | omega | (dsimp only; done) | (dsimp only; omega)) ?_
      | refine Ev_and8 rfl rfl (by first | omega | (dsimp only; done) | (dsimp only; omega)) (by first | omega | (dsimp only; done) | (dsimp only; omega)) (land_240 (by first | omega | (dsimp only; done) | (dsimp only; omega))) (by first | omega | (dsimp only; done) | (dsimp only; omega)) ?_
      | refine Ev_shr rfl rfl rfl rfl ?_
      | refine Ev_conv rfl rfl rfl rfl rfl (by simp only [inR]; omega) ?_
      | refine Ev_conv8 rfl rfl rfl rfl rfl ?_)
  refine Ev_call rfl rfl ((enc_runs hok2 (by omega) (by omega)).mono ?_)
  rintro _ S3 - ⟨⟨hle3, hn3, hok3, hf3⟩, vx, rfl, hx, hbx⟩
  rw [if_pos hva] at hx ⊢
  repeat (
    first
      | refine W_seq ?_
      | refine WO_nil ?_
      | refine V_seq ?_
      | refine W_region ?_
      | refine W_drawn (by kernel_rfl) ?_
      | refine W_block ?_
      | refine W_scope ?_
      | refine W_skip ?_
      | refine W_ret ?_
      | refine W_exit ?_
      | refine W_label ?_
      | refine V_ret ?_
      | refine V_block ?_
      | refine V_block_x rfl ?_
      | refine V_block_y rfl ?_
      | refine V_seq_x ?_
      | refine V_loop_x ?_
      | refine W_cond_t rfl ?_
      | refine W_cond_f rfl ?_
      | refine WO_dst rfl rfl (by kernel_rfl) (by kernel_rfl) ?_
      | refine WO_no rfl rfl ?_
      | refine WO_guard_t rfl rfl rfl rfl rfl (by kernel_rfl) (by kernel_rfl) ?_
      | refine WO_guard_f rfl rfl rfl rfl rfl rfl (by kernel_rfl) (by kernel_rfl) ?_
      | refine WO_guard_x rfl rfl rfl rfl rfl (by kernel_rfl) (by kernel_rfl) ?_
      | refine Ev_move rfl ?_
      | refine Ev_assign rfl ?_
      | refine Ev_extract rfl rfl ?_
      | refine Ev_pick_t rfl rfl rfl ?_
      | refine Ev_pick_f rfl rfl rfl ?_
      | refine Ev_lssN rfl rfl ?_
      | refine Ev_leqN rfl rfl ?_
      | refine Ev_gtrN rfl rfl ?_
      | refine Ev_geqN rfl rfl ?_
      | refine Ev_eqlN rfl rfl ?_
      | refine Ev_neqN rfl rfl ?_
      | refine Ev_lss rfl rfl ?_
      | refine Ev_leq rfl rfl ?_
      | refine Ev_gtr rfl rfl ?_
      | refine Ev_geq rfl rfl ?_
      | refine Ev_eql rfl rfl ?_
      | refine Ev_neq rfl rfl ?_
      | refine Ev_seql rfl rfl ?_
      | refine Ev_sneq rfl rfl ?_
      | refine Ev_not rfl ?_
      | refine Ev_notb rfl ?_
      | refine Ev_nilCheck rfl ?_
      | refine Ev_fieldAddr rfl rfl rfl rfl rfl rfl ?_
      | refine Ev_len_str rfl rfl rfl rfl rfl ?_
      | refine Ev_len rfl rfl rfl rfl rfl rfl ?_
      | refine Ev_min rfl rfl rfl ?_
      | refine Ev_max rfl rfl rfl ?_
      | refine Ev_indexAddr rfl rfl rfl rfl rfl (by first | omega | (dsimp only; done) | (dsimp only; omega)) ?_
      | refine Ev_makeFunc rfl rfl ?_
      | refine Ev_conv_str rfl rfl rfl rfl rfl ?_
      | refine Ev_addN rfl rfl (by simp only [lim]; omega) ?_
      | refine Ev_subN rfl rfl (by simp only [lim]; omega) (by first | omega | (dsimp only; done) | (dsimp only; omega)) ?_
      | refine Ev_mulN rfl rfl (by simp only [lim]; omega) ?_
      | refine Ev_add rfl rfl (by simp only [inR]; omega) ?_
      | refine Ev_sub rfl rfl (by simp only [inR]; omega) ?_
      | refine Ev_mul rfl rfl (by simp only [inR]; omega) ?_
      | refine Ev_shrN (m := 6) (q := 64) rfl rfl rfl rfl ?_
      | refine Ev_shrN (m := 12) (q := 4096) rfl rfl rfl rfl ?_
      | refine Ev_shrN (m := 10) (q := 1024) rfl rfl rfl rfl ?_
      | refine Ev_shrN (m := 8) (q := 256) rfl rfl rfl rfl ?_
      | refine Ev_shrN (m := 4) (q := 16) rfl rfl rfl rfl ?_
      | refine Ev_shrN (m := 5) (q := 32) rfl rfl rfl rfl ?_
      | refine Ev_shrN (m := 7) (q := 128) rfl rfl rfl rfl ?_
      | refine Ev_shrN (m := 3) (q := 8) rfl rfl rfl rfl ?_
      | refine Ev_shrN (m := 18) (q := 262144) rfl rfl rfl rfl ?_
      | refine Ev_shlN (m := 6) (q := 64) rfl rfl rfl rfl (by simp only [lim]; omega) ?_
      | refine Ev_shlN (m := 12) (q := 4096) rfl rfl rfl rfl (by simp only [lim]; omega) ?_
      | refine Ev_shlN (m := 10) (q := 1024) rfl rfl rfl rfl (by simp only [lim]; omega) ?_
      | refine Ev_shlN (m := 8) (q := 256) rfl rfl rfl rfl (by simp only [lim]; omega) ?_
      | refine Ev_andN 3 8 rfl rfl rfl rfl (by simp only [lim]; omega) (by simp only [lim]; omega) ?_
      | refine Ev_andN 4 16 rfl rfl rfl rfl (by simp only [lim]; omega) (by simp only [lim]; omega) ?_
      | refine Ev_andN 5 32 rfl rfl rfl rfl (by simp only [lim]; omega) (by simp only [lim]; omega) ?_
      | refine Ev_andN 6 64 rfl rfl rfl rfl (by simp only [lim]; omega) (by simp only [lim]; omega) ?_
      | refine Ev_andN 10 1024 rfl rfl rfl rfl (by simp only [lim]; omega) (by simp only [lim]; omega) ?_
      | refine Ev_orN 4 rfl rfl rfl (by first | omega | (dsimp only; done) | (dsimp only; omega)) (by first | omega | (dsimp only; done) | (dsimp only; omega)) (by simp only [lim]; omega) ?_
      | refine Ev_orN 5 rfl rfl rfl (by first | omega | (dsimp only; done) | (dsimp only; omega)) (by first | omega | (dsimp only; done) | (dsimp only; omega)) (by simp only [lim]; omega) ?_
      | refine Ev_orN 6 rfl rfl rfl (by first | omega | (dsimp only; done) | (dsimp only; omega)) (by first | omega | (dsimp only; done) | (dsimp only; omega)) (by simp only [lim]; omega) ?_
      | refine Ev_orN 10 rfl rfl rfl (by first | omega | (dsimp only; done) | (dsimp only; omega)) (by first | omega | (dsimp only; done) | (dsimp only; omega)) (by simp only [lim]; omega) ?_
      | refine Ev_orN 12 rfl rfl rfl (by first | omega | (dsimp only; done) | (dsimp only; omega)) (by first | omega | (dsimp only; done) | (dsimp only; omega)) (by simp only [lim]; omega) ?_
      | refine Ev_orN 16 rfl rfl rfl (by first | omega | (dsimp only; done) | (dsimp only; omega)) (by first | omega | (dsimp only; done) | (dsimp only; omega)) (by simp only [lim]; omega) ?_
      | refine Ev_convN rfl rfl rfl rfl rfl (by simp only [lim]; omega) ?_
      | refine Ev_and8 rfl rfl (by first | omega | (dsimp only; done) | (dsimp only; omega)) (by first | omega | (dsimp only; done) | (dsimp only; omega)) (land_192 (by first | omega | (dsimp only; done) | (dsimp only; omega))) (by first | omega | (dsimp only; done) | (dsimp only; omega)) ?_
      | refine Ev_and8 rfl rfl (by first | omega | (dsimp only; done) | (dsimp only; omega)) (by first | omega | (dsimp only; done) | (dsimp only; omega)) (land_224 (by first | omega | (dsimp only; done) | (dsimp only; omega))) (by first | omega | (dsimp only; done) | (dsimp only; omega)) ?_
      | refine Ev_and8 rfl rfl (by first | omega | (dsimp only; done) | (dsimp only; omega)) (by first | omega | (dsimp only; done) | (dsimp only; omega)) (land_240 (by first | omega | (dsimp only; done) | (dsimp only; omega))) (by first | omega | (dsimp only; done) | (dsimp only; omega)) ?_
      | refine Ev_shr rfl rfl rfl rfl ?_
      | refine Ev_conv rfl rfl rfl rfl rfl (by simp only [inR]; omega) ?_
      | refine Ev_conv8 rfl rfl rfl rfl rfl ?_)
  refine Ev_call rfl rfl ((enc_runs hok3 (by omega) (by omega)).mono ?_)
  rintro _ S4 - ⟨⟨hle4, hn4, hok4, hf4⟩, vy, rfl, hy, hby⟩
  rw [if_pos hvb] at hy ⊢
  have hx4 : Ow S4 vx (encS (normS s)) := hx.keep fun b h => hf4 b (by simp [blkOf]) (hx.lt hok3 h)
  repeat (
    first
      | refine W_seq ?_
      | refine WO_nil ?_
      | refine V_seq ?_
      | refine W_region ?_
      | refine W_drawn (by kernel_rfl) ?_
      | refine W_block ?_
      | refine W_scope ?_
      | refine W_skip ?_
      | refine W_ret ?_
      | refine W_exit ?_
      | refine W_label ?_
      | refine V_ret ?_
      | refine V_block ?_
      | refine V_block_x rfl ?_
      | refine V_block_y rfl ?_
      | refine V_seq_x ?_
      | refine V_loop_x ?_
      | refine W_cond_t rfl ?_
      | refine W_cond_f rfl ?_
      | refine WO_dst rfl rfl (by kernel_rfl) (by kernel_rfl) ?_
      | refine WO_no rfl rfl ?_
      | refine WO_guard_t rfl rfl rfl rfl rfl (by kernel_rfl) (by kernel_rfl) ?_
      | refine WO_guard_f rfl rfl rfl rfl rfl rfl (by kernel_rfl) (by kernel_rfl) ?_
      | refine WO_guard_x rfl rfl rfl rfl rfl (by kernel_rfl) (by kernel_rfl) ?_
      | refine Ev_move rfl ?_
      | refine Ev_assign rfl ?_
      | refine Ev_extract rfl rfl ?_
      | refine Ev_pick_t rfl rfl rfl ?_
      | refine Ev_pick_f rfl rfl rfl ?_
      | refine Ev_lssN rfl rfl ?_
      | refine Ev_leqN rfl rfl ?_
      | refine Ev_gtrN rfl rfl ?_
      | refine Ev_geqN rfl rfl ?_
      | refine Ev_eqlN rfl rfl ?_
      | refine Ev_neqN rfl rfl ?_
      | refine Ev_lss rfl rfl ?_
      | refine Ev_leq rfl rfl ?_
      | refine Ev_gtr rfl rfl ?_
      | refine Ev_geq rfl rfl ?_
      | refine Ev_eql rfl rfl ?_
      | refine Ev_neq rfl rfl ?_
      | refine Ev_seql rfl rfl ?_
      | refine Ev_sneq rfl rfl ?_
      | refine Ev_not rfl ?_
      | refine Ev_notb rfl ?_
      | refine Ev_nilCheck rfl ?_
      | refine Ev_fieldAddr rfl rfl rfl rfl rfl rfl ?_
      | refine Ev_len_str rfl rfl rfl rfl rfl ?_
      | refine Ev_len rfl rfl rfl rfl rfl rfl ?_
      | refine Ev_min rfl rfl rfl ?_
      | refine Ev_max rfl rfl rfl ?_
      | refine Ev_indexAddr rfl rfl rfl rfl rfl (by first | omega | (dsimp only; done) | (dsimp only; omega)) ?_
      | refine Ev_makeFunc rfl rfl ?_
      | refine Ev_conv_str rfl rfl rfl rfl rfl ?_
      | refine Ev_addN rfl rfl (by simp only [lim]; omega) ?_
      | refine Ev_subN rfl rfl (by simp only [lim]; omega) (by first | omega | (dsimp only; done) | (dsimp only; omega)) ?_
      | refine Ev_mulN rfl rfl (by simp only [lim]; omega) ?_
      | refine Ev_add rfl rfl (by simp only [inR]; omega) ?_
      | refine Ev_sub rfl rfl (by simp only [inR]; omega) ?_
      | refine Ev_mul rfl rfl (by simp only [inR]; omega) ?_
      | refine Ev_shrN (m := 6) (q := 64) rfl rfl rfl rfl ?_
      | refine Ev_shrN (m := 12) (q := 4096) rfl rfl rfl rfl ?_
      | refine Ev_shrN (m := 10) (q := 1024) rfl rfl rfl rfl ?_
      | refine Ev_shrN (m := 8) (q := 256) rfl rfl rfl rfl ?_
      | refine Ev_shrN (m := 4) (q := 16) rfl rfl rfl rfl ?_
      | refine Ev_shrN (m := 5) (q := 32) rfl rfl rfl rfl ?_
      | refine Ev_shrN (m := 7) (q := 128) rfl rfl rfl rfl ?_
      | refine Ev_shrN (m := 3) (q := 8) rfl rfl rfl rfl ?_
      | refine Ev_shrN (m := 18) (q := 262144) rfl rfl rfl rfl ?_
      | refine Ev_shlN (m := 6) (q := 64) rfl rfl rfl rfl (by simp only [lim]; omega) ?_
      | refine Ev_shlN (m := 12) (q := 4096) rfl rfl rfl rfl (by simp only [lim]; omega) ?_
      | refine Ev_shlN (m := 10) (q := 1024) rfl rfl rfl rfl (by simp only [lim]; omega) ?_
      | refine Ev_shlN (m := 8) (q := 256) rfl rfl rfl rfl (by simp only [lim]; omega) ?_
      | refine Ev_andN 3 8 rfl rfl rfl rfl (by simp only [lim]; omega) (by simp only [lim]; omega) ?_
      | refine Ev_andN 4 16 rfl rfl rfl rfl (by simp only [lim]; omega) (by simp only [lim]; omega) ?_
      | refine Ev_andN 5 32 rfl rfl rfl rfl (by simp only [lim]; omega) (by simp only [lim]; omega) ?_
      | refine Ev_andN 6 64 rfl rfl rfl rfl (by simp only [lim]; omega) (by simp only [lim]; omega) ?_
      | refine Ev_andN 10 1024 rfl rfl rfl rfl (by simp only [lim]; omega) (by simp only [lim]; omega) ?_
      | refine Ev_orN 4 rfl rfl rfl (by first | omega | (dsimp only; done) | (dsimp only; omega)) (by first | omega | (dsimp only; done) | (dsimp only; omega)) (by simp only [lim]; omega) ?_
      | refine Ev_orN 5 rfl rfl rfl (by first | omega | (dsimp only; done) | (dsimp only; omega)) (by first | omega | (dsimp only; done) | (dsimp only; omega)) (by simp only [lim]; omega) ?_
      | refine Ev_orN 6 rfl rfl rfl (by first | omega | (dsimp only; done) | (dsimp only; omega)) (by first | omega | (dsimp only; done) | (dsimp only; omega)) (by simp only [lim]; omega) ?_
      | refine Ev_orN 10 rfl rfl rfl (by first | omega | (dsimp only; done) | (dsimp only; omega)) (by first | omega | (dsimp only; done) | (dsimp only; omega)) (by simp only [lim]; omega) ?_
      | refine Ev_orN 12 rfl rfl rfl (by first | omega | (dsimp only; done) | (dsimp only; omega)) (by first | omega | (dsimp only; done) | (dsimp only; omega)) (by simp only [lim]; omega) ?_
      | refine Ev_orN 16 rfl rfl rfl (by first | omega | (dsimp only; done) | (dsimp only; omega)) (by first | omega | (dsimp only; done) | (dsimp only; omega)) (by simp only [lim]; omega) ?_
      | refine Ev_convN rfl rfl rfl rfl rfl (by simp only [lim]; omega) ?_
      | refine Ev_and8 rfl rfl (by first | omega | (dsimp only; done) | (dsimp only; omega)) (by first | omega | (dsimp only; done) | (dsimp only; omega)) (land_192 (by first | omega | (dsimp only; done) | (dsimp only; omega))) (by first | omega | (dsimp only; done) | (dsimp only; omega)) ?_
      | refine Ev_and8 rfl rfl (by first | omega | (dsimp only; done) | (dsimp only; omega)) (by first | omega | (dsimp only; done) | (dsimp only; omega)) (land_224 (by first | omega | (dsimp only; done) | (dsimp only; omega))) (by first | omega | (dsimp only; done) | (dsimp only; omega)) ?_
      | refine Ev_and8 rfl rfl (by first | omega | (dsimp only; done) | (dsimp only; omega)) (by first | omega | (dsimp only; done) | (dsimp only; omega)) (land_240 (by first | omega | (dsimp only; done) | (dsimp only; omega))) (by first | omega | (dsimp only; done) | (dsimp only; omega)) ?_
      | refine Ev_shr rfl rfl rfl rfl ?_
      | refine Ev_conv rfl rfl rfl rfl rfl (by simp only [inR]; omega) ?_
      | refine Ev_conv8 rfl rfl rfl rfl rfl ?_)
  refine Ev_sadd rfl rfl (by omega) ?_
  repeat (
    first
      | refine W_seq ?_
      | refine WO_nil ?_
      | refine V_seq ?_
      | refine W_region ?_
      | refine W_drawn (by kernel_rfl) ?_
      | refine W_block ?_
      | refine W_scope ?_
      | refine W_skip ?_
      | refine W_ret ?_
      | refine W_exit ?_
      | refine W_label ?_
      | refine V_ret ?_
      | refine V_block ?_
      | refine V_block_x rfl ?_
      | refine V_block_y rfl ?_
      | refine V_seq_x ?_
      | refine V_loop_x ?_
      | refine W_cond_t rfl ?_
      | refine W_cond_f rfl ?_
      | refine WO_dst rfl rfl (by kernel_rfl) (by kernel_rfl) ?_
      | refine WO_no rfl rfl ?_
      | refine WO_guard_t rfl rfl rfl rfl rfl (by kernel_rfl) (by kernel_rfl) ?_
      | refine WO_guard_f rfl rfl rfl rfl rfl rfl (by kernel_rfl) (by kernel_rfl) ?_
      | refine WO_guard_x rfl rfl rfl rfl rfl (by kernel_rfl) (by kernel_rfl) ?_
      | refine Ev_move rfl ?_
      | refine Ev_assign rfl ?_
      | refine Ev_extract rfl rfl ?_
      | refine Ev_pick_t rfl rfl rfl ?_
      | refine Ev_pick_f rfl rfl rfl ?_
      | refine Ev_lssN rfl rfl ?_
      | refine Ev_leqN rfl rfl ?_
      | refine Ev_gtrN rfl rfl ?_
      | refine Ev_geqN rfl rfl ?_
      | refine Ev_eqlN rfl rfl ?_
      | refine Ev_neqN rfl rfl ?_
      | refine Ev_lss rfl rfl ?_
      | refine Ev_leq rfl rfl ?_
      | refine Ev_gtr rfl rfl ?_
      | refine Ev_geq rfl rfl ?_
      | refine Ev_eql rfl rfl ?_
      | refine Ev_neq rfl rfl ?_
      | refine Ev_seql rfl rfl ?_
      | refine Ev_sneq rfl rfl ?_
      | refine Ev_not rfl ?_
      | refine Ev_notb rfl ?_
      | refine Ev_nilCheck rfl ?_
      | refine Ev_fieldAddr rfl rfl rfl rfl rfl rfl ?_
      | refine Ev_len_str rfl rfl rfl rfl rfl ?_
      | refine Ev_len rfl rfl rfl rfl rfl rfl ?_
      | refine Ev_min rfl rfl rfl ?_
      | refine Ev_max rfl rfl rfl ?_
      | refine Ev_indexAddr rfl rfl rfl rfl rfl (by first | omega | (dsimp only; done) | (dsimp only; omega)) ?_
      | refine Ev_makeFunc rfl rfl ?_
      | refine Ev_conv_str rfl rfl rfl rfl rfl ?_
      | refine Ev_addN rfl rfl (by simp only [lim]; omega) ?_
      | refine Ev_subN rfl rfl (by simp only [lim]; omega) (by first | omega | (dsimp only; done) | (dsimp only; omega)) ?_
      | refine Ev_mulN rfl rfl (by simp only [lim]; omega) ?_
      | refine Ev_add rfl rfl (by simp only [inR]; omega) ?_
      | refine Ev_sub rfl rfl (by simp only [inR]; omega) ?_
      | refine Ev_mul rfl rfl (by simp only [inR]; omega) ?_
      | refine Ev_shrN (m := 6) (q := 64) rfl rfl rfl rfl ?_
      | refine Ev_shrN (m := 12) (q := 4096) rfl rfl rfl rfl ?_
      | refine Ev_shrN (m := 10) (q := 1024) rfl rfl rfl rfl ?_
      | refine Ev_shrN (m := 8) (q := 256) rfl rfl rfl rfl ?_
      | refine Ev_shrN (m := 4) (q := 16) rfl rfl rfl rfl ?_
      | refine Ev_shrN (m := 5) (q := 32) rfl rfl rfl rfl ?_
      | refine Ev_shrN (m := 7) (q := 128) rfl rfl rfl rfl ?_
      | refine Ev_shrN (m := 3) (q := 8) rfl rfl rfl rfl ?_
      | refine Ev_shrN (m := 18) (q := 262144) rfl rfl rfl rfl ?_
      | refine Ev_shlN (m := 6) (q := 64) rfl rfl rfl rfl (by simp only [lim]; omega) ?_
      | refine Ev_shlN (m := 12) (q := 4096) rfl rfl rfl rfl (by simp only [lim]; omega) ?_
      | refine Ev_shlN (m := 10) (q := 1024) rfl rfl rfl rfl (by simp only [lim]; omega) ?_
      | refine Ev_shlN (m := 8) (q := 256) rfl rfl rfl rfl (by simp only [lim]; omega) ?_
      | refine Ev_andN 3 8 rfl rfl rfl rfl (by simp only [lim]; omega) (by simp only [lim]; omega) ?_
      | refine Ev_andN 4 16 rfl rfl rfl rfl (by simp only [lim]; omega) (by simp only [lim]; omega) ?_
      | refine Ev_andN 5 32 rfl rfl rfl rfl (by simp only [lim]; omega) (by simp only [lim]; omega) ?_
      | refine Ev_andN 6 64 rfl rfl rfl rfl (by simp only [lim]; omega) (by simp only [lim]; omega) ?_
      | refine Ev_andN 10 1024 rfl rfl rfl rfl (by simp only [lim]; omega) (by simp only [lim]; omega) ?_
      | refine Ev_orN 4 rfl rfl rfl (by first | omega | (dsimp only; done) | (dsimp only; omega)) (by first | omega | (dsimp only; done) | (dsimp only; omega)) (by simp only [lim]; omega) ?_
      | refine Ev_orN 5 rfl rfl rfl (by first | omega | (dsimp only; done) | (dsimp only; omega)) (by first | omega | (dsimp only; done) | (dsimp only; omega)) (by simp only [lim]; omega) ?_
      | refine Ev_orN 6 rfl rfl rfl (by first | omega | (dsimp only; done) | (dsimp only; omega)) (by first | omega | (dsimp only; done) | (dsimp only; omega)) (by simp only [lim]; omega) ?_
      | refine Ev_orN 10 rfl rfl rfl (by first | omega | (dsimp only; done) | (dsimp only; omega)) (by first | omega | (dsimp only; done) | (dsimp only; omega)) (by simp only [lim]; omega) ?_
      | refine Ev_orN 12 rfl rfl rfl (by first | omega | (dsimp only; done) | (dsimp only; omega)) (by first | omega | (dsimp only; done) | (dsimp only; omega)) (by simp only [lim]; omega) ?_
      | refine Ev_orN 16 rfl rfl rfl (by first | omega | (dsimp only; done) | (dsimp only; omega)) (by first | omega | (dsimp only; done) | (dsimp only; omega)) (by simp only [lim]; omega) ?_
      | refine Ev_convN rfl rfl rfl rfl rfl (by simp only [lim]; omega) ?_
      | refine Ev_and8 rfl rfl (by first | omega | (dsimp only; done) | (dsimp only; omega)) (by first | omega | (dsimp only; done) | (dsimp only; omega)) (land_192 (by first | omega | (dsimp only; done) | (dsimp only; omega))) (by first | omega | (dsimp only; done) | (dsimp only; omega)) ?_
      | refine Ev_and8 rfl rfl (by first | omega | (dsimp only; done) | (dsimp only; omega)) (by first | omega | (dsimp only; done) | (dsimp only; omega)) (land_224 (by first | omega | (dsimp only; done) | (dsimp only; omega))) (by first | omega | (dsimp only; done) | (dsimp only; omega)) ?_
      | refine Ev_and8 rfl rfl (by first | omega | (dsimp only; done) | (dsimp only; omega)) (by first | omega | (dsimp only; done) | (dsimp only; omega)) (land_240 (by first | omega | (dsimp only; done) | (dsimp only; omega))) (by first | omega | (dsimp only; done) | (dsimp only; omega)) ?_
      | refine Ev_shr rfl rfl rfl rfl ?_
      | refine Ev_conv rfl rfl rfl rfl rfl (by simp only [inR]; omega) ?_
      | refine Ev_conv8 rfl rfl rfl rfl rfl ?_)
  refine Ev_call rfl rfl ((enc_runs hok4 (by rw [List.length_append]; omega) (by rw [List.length_append]; omega)).mono ?_)
  rintro _ S5 - ⟨⟨hle5, hn5, hok5, hf5⟩, vz, rfl, hz, hbz⟩
  rw [if_pos hvab] at hz ⊢
  rw [hab] at hz
  rw [List.length_append] at hn5
  have hx5 : Ow S5 vx (encS (normS s)) := hx4.keep fun b h => hf5 b (by simp [blkOf]) (hx4.lt hok4 h)
  have hy5 : Ow S5 vy (encS (normS t)) := hy.keep fun b h => hf5 b (by simp [blkOf]) (hy.lt hok4 h)
  repeat' (
    first
      | refine W_seq ?_
      | refine WO_nil ?_
      | refine V_seq ?_
      | refine W_region ?_
      | refine W_drawn (by kernel_rfl) ?_
      | refine W_block ?_
      | refine W_scope ?_
      | refine W_skip ?_
      | refine W_ret ?_
      | refine W_exit ?_
      | refine W_label ?_
      | refine V_ret ?_
      | refine V_block ?_
      | refine V_block_x rfl ?_
      | refine V_block_y rfl ?_
      | refine V_seq_x ?_
      | refine V_loop_x ?_
      | refine W_cond_t rfl ?_
      | refine W_cond_f rfl ?_
      | refine WO_dst rfl rfl (by kernel_rfl) (by kernel_rfl) ?_
      | refine WO_no rfl rfl ?_
      | refine WO_guard_t rfl rfl rfl rfl rfl (by kernel_rfl) (by kernel_rfl) ?_
      | refine WO_guard_f rfl rfl rfl rfl rfl rfl (by kernel_rfl) (by kernel_rfl) ?_
      | refine WO_guard_x rfl rfl rfl rfl rfl (by kernel_rfl) (by kernel_rfl) ?_
      | refine Ev_conv_to_str rfl rfl rfl rfl rfl rfl rfl hx5.rd (bytesOf_sbytes encS_lt) ?_
      | refine Ev_conv_to_str rfl rfl rfl rfl rfl rfl rfl hy5.rd (bytesOf_sbytes encS_lt) ?_
      | refine Ev_conv_to_str rfl rfl rfl rfl rfl rfl rfl hz.rd (bytesOf_sbytes (fun b hb => (List.mem_append.1 hb).elim (encS_lt b) (encS_lt b))) ?_
      | refine Ev_sadd rfl rfl (by omega) ?_
      | refine Ev_move rfl ?_
      | refine Ev_assign rfl ?_
      | refine Ev_extract rfl rfl ?_
      | refine Ev_pick_t rfl rfl rfl ?_
      | refine Ev_pick_f rfl rfl rfl ?_
      | refine Ev_lssN rfl rfl ?_
      | refine Ev_leqN rfl rfl ?_
      | refine Ev_gtrN rfl rfl ?_
      | refine Ev_geqN rfl rfl ?_
      | refine Ev_eqlN rfl rfl ?_
      | refine Ev_neqN rfl rfl ?_
      | refine Ev_lss rfl rfl ?_
      | refine Ev_leq rfl rfl ?_
      | refine Ev_gtr rfl rfl ?_
      | refine Ev_geq rfl rfl ?_
      | refine Ev_eql rfl rfl ?_
      | refine Ev_neq rfl rfl ?_
      | refine Ev_seql rfl rfl ?_
      | refine Ev_sneq rfl rfl ?_
      | refine Ev_not rfl ?_
      | refine Ev_notb rfl ?_
      | refine Ev_nilCheck rfl ?_
      | refine Ev_fieldAddr rfl rfl rfl rfl rfl rfl ?_
      | refine Ev_len_str rfl rfl rfl rfl rfl ?_
      | refine Ev_len rfl rfl rfl rfl rfl rfl ?_
      | refine Ev_min rfl rfl rfl ?_
      | refine Ev_max rfl rfl rfl ?_
      | refine Ev_indexAddr rfl rfl rfl rfl rfl (by first | omega | (dsimp only; done) | (dsimp only; omega)) ?_
      | refine Ev_makeFunc rfl rfl ?_
      | refine Ev_conv_str rfl rfl rfl rfl rfl ?_
      | refine Ev_addN rfl rfl (by simp only [lim]; omega) ?_
      | refine Ev_subN rfl rfl (by simp only [lim]; omega) (by first | omega | (dsimp only; done) | (dsimp only; omega)) ?_
      | refine Ev_mulN rfl rfl (by simp only [lim]; omega) ?_
      | refine Ev_add rfl rfl (by simp only [inR]; omega) ?_
      | refine Ev_sub rfl rfl (by simp only [inR]; omega) ?_
      | refine Ev_mul rfl rfl (by simp only [inR]; omega) ?_
      | refine Ev_shrN (m := 6) (q := 64) rfl rfl rfl rfl ?_
      | refine Ev_shrN (m := 12) (q := 4096) rfl rfl rfl rfl ?_
      | refine Ev_shrN (m := 10) (q := 1024) rfl rfl rfl rfl ?_
      | refine Ev_shrN (m := 8) (q := 256) rfl rfl rfl rfl ?_
      | refine Ev_shrN (m := 4) (q := 16) rfl rfl rfl rfl ?_
      | refine Ev_shrN (m := 5) (q := 32) rfl rfl rfl rfl ?_
      | refine Ev_shrN (m := 7) (q := 128) rfl rfl rfl rfl ?_
      | refine Ev_shrN (m := 3) (q := 8) rfl rfl rfl rfl ?_
      | refine Ev_shrN (m := 18) (q := 262144) rfl rfl rfl rfl ?_
      | refine Ev_shlN (m := 6) (q := 64) rfl rfl rfl rfl (by simp only [lim]; omega) ?_
      | refine Ev_shlN (m := 12) (q := 4096) rfl rfl rfl rfl (by simp only [lim]; omega) ?_
      | refine Ev_shlN (m := 10) (q := 1024) rfl rfl rfl rfl (by simp only [lim]; omega) ?_
      | refine Ev_shlN (m := 8) (q := 256) rfl rfl rfl rfl (by simp only [lim]; omega) ?_
      | refine Ev_andN 3 8 rfl rfl rfl rfl (by simp only [lim]; omega) (by simp only [lim]; omega) ?_
      | refine Ev_andN 4 16 rfl rfl rfl rfl (by simp only [lim]; omega) (by simp only [lim]; omega) ?_
      | refine Ev_andN 5 32 rfl rfl rfl rfl (by simp only [lim]; omega) (by simp only [lim]; omega) ?_
      | refine Ev_andN 6 64 rfl rfl rfl rfl (by simp only [lim]; omega) (by simp only [lim]; omega) ?_
      | refine Ev_andN 10 1024 rfl rfl rfl rfl (by simp only [lim]; omega) (by simp only [lim]; omega) ?_
      | refine Ev_orN 4 rfl rfl rfl (by first | omega | (dsimp only; done) | (dsimp only; omega)) (by first | omega | (dsimp only; done) | (dsimp only; omega)) (by simp only [lim]; omega) ?_
      | refine Ev_orN 5 rfl rfl rfl (by first | omega | (dsimp only; done) | (dsimp only; omega)) (by first | omega | (dsimp only; done) | (dsimp only; omega)) (by simp only [lim]; omega) ?_
      | refine Ev_orN 6 rfl rfl rfl (by first | omega | (dsimp only; done) | (dsimp only; omega)) (by first | omega | (dsimp only; done) | (dsimp only; omega)) (by simp only [lim]; omega) ?_
      | refine Ev_orN 10 rfl rfl rfl (by first | omega | (dsimp only; done) | (dsimp only; omega)) (by first | omega | (dsimp only; done) | (dsimp only; omega)) (by simp only [lim]; omega) ?_
      | refine Ev_orN 12 rfl rfl rfl (by first | omega | (dsimp only; done) | (dsimp only; omega)) (by first | omega | (dsimp only; done) | (dsimp only; omega)) (by simp only [lim]; omega) ?_
      | refine Ev_orN 16 rfl rfl rfl (by first | omega | (dsimp only; done) | (dsimp only; omega)) (by first | omega | (dsimp only; done) | (dsimp only; omega)) (by simp only [lim]; omega) ?_
      | refine Ev_convN rfl rfl rfl rfl rfl (by simp only [lim]; omega) ?_
      | refine Ev_and8 rfl rfl (by first | omega | (dsimp only; done) | (dsimp only; omega)) (by first | omega | (dsimp only; done) | (dsimp only; omega)) (land_192 (by first | omega | (dsimp only; done) | (dsimp only; omega))) (by first | omega | (dsimp only; done) | (dsimp only; omega)) ?_
      | refine Ev_and8 rfl rfl (by first | omega | (dsimp only; done) | (dsimp only; omega)) (by first | omega | (dsimp only; done) | (dsimp only; omega)) (land_224 (by first | omega | (dsimp only; done) | (dsimp only; omega))) (by first | omega | (dsimp only; done) | (dsimp only; omega)) ?_
      | refine Ev_and8 rfl rfl (by first | omega | (dsimp only; done) | (dsimp only; omega)) (by first | omega | (dsimp only; done) | (dsimp only; omega)) (land_240 (by first | omega | (dsimp only; done) | (dsimp only; omega))) (by first | omega | (dsimp only; done) | (dsimp only; omega)) ?_
      | refine Ev_shr rfl rfl rfl rfl ?_
      | refine Ev_conv rfl rfl rfl rfl rfl (by simp only [inR]; omega) ?_
      | refine Ev_conv8 rfl rfl rfl rfl rfl ?_
      | (refine WO_guard_dt rfl rfl rfl rfl rfl (by kernel_rfl) (by kernel_rfl) (fun hg => ?_) (fun hg => ?_) <;> (try dsimp only at hg) <;> try (exfalso; omega))
      | (refine WO_guard_df rfl rfl rfl rfl rfl (by kernel_rfl) (by kernel_rfl) (fun hg => ?_) (fun hg => ?_) <;> (try dsimp only at hg) <;> try (exfalso; omega))
      | (refine W_cond rfl (fun hc => ?_) (fun hc => ?_) <;> (try dsimp only at hc) <;> try (exfalso; omega)))
  · exact absurd rfl hc
  · refine Ev_range rfl rfl rfl hok5 (by omega) ?_
    intro S6 hn6 hok6 hq6 hf6
    have hx6 : Ow S6 vx (encS (normS s)) := hx5.keep fun b h => hf6 b (hx5.lt hok5 h)
    repeat (
      first
        | refine W_seq ?_
        | refine WO_nil ?_
        | refine V_seq ?_
        | refine W_region ?_
        | refine W_drawn (by kernel_rfl) ?_
        | refine W_block ?_
        | refine W_scope ?_
        | refine W_skip ?_
        | refine W_ret ?_
        | refine W_exit ?_
        | refine W_label ?_
        | refine V_ret ?_
        | refine V_block ?_
        | refine V_block_x rfl ?_
        | refine V_block_y rfl ?_
        | refine V_seq_x ?_
        | refine V_loop_x ?_
        | refine W_cond_t rfl ?_
        | refine W_cond_f rfl ?_
        | refine WO_dst rfl rfl (by kernel_rfl) (by kernel_rfl) ?_
        | refine WO_no rfl rfl ?_
        | refine WO_guard_t rfl rfl rfl rfl rfl (by kernel_rfl) (by kernel_rfl) ?_
        | refine WO_guard_f rfl rfl rfl rfl rfl rfl (by kernel_rfl) (by kernel_rfl) ?_
        | refine WO_guard_x rfl rfl rfl rfl rfl (by kernel_rfl) (by kernel_rfl) ?_
        | refine Ev_move rfl ?_
        | refine Ev_assign rfl ?_
        | refine Ev_extract rfl rfl ?_
        | refine Ev_pick_t rfl rfl rfl ?_
        | refine Ev_pick_f rfl rfl rfl ?_
        | refine Ev_lssN rfl rfl ?_
        | refine Ev_leqN rfl rfl ?_
        | refine Ev_gtrN rfl rfl ?_
        | refine Ev_geqN rfl rfl ?_
        | refine Ev_eqlN rfl rfl ?_
        | refine Ev_neqN rfl rfl ?_
        | refine Ev_lss rfl rfl ?_
        | refine Ev_leq rfl rfl ?_
        | refine Ev_gtr rfl rfl ?_
        | refine Ev_geq rfl rfl ?_
        | refine Ev_eql rfl rfl ?_
        | refine Ev_neq rfl rfl ?_
        | refine Ev_seql rfl rfl ?_
        | refine Ev_sneq rfl rfl ?_
        | refine Ev_not rfl ?_
        | refine Ev_notb rfl ?_
        | refine Ev_nilCheck rfl ?_
        | refine Ev_fieldAddr rfl rfl rfl rfl rfl rfl ?_
        | refine Ev_len_str rfl rfl rfl rfl rfl ?_
        | refine Ev_len rfl rfl rfl rfl rfl rfl ?_
        | refine Ev_min rfl rfl rfl ?_
        | refine Ev_max rfl rfl rfl ?_
        | refine Ev_indexAddr rfl rfl rfl rfl rfl (by first | omega | (dsimp only; done) | (dsimp only; omega)) ?_
        | refine Ev_makeFunc rfl rfl ?_
        | refine Ev_conv_str rfl rfl rfl rfl rfl ?_
        | refine Ev_addN rfl rfl (by simp only [lim]; omega) ?_
        | refine Ev_subN rfl rfl (by simp only [lim]; omega) (by first | omega | (dsimp only; done) | (dsimp only; omega)) ?_
        | refine Ev_mulN rfl rfl (by simp only [lim]; omega) ?_
        | refine Ev_add rfl rfl (by simp only [inR]; omega) ?_
        | refine Ev_sub rfl rfl (by simp only [inR]; omega) ?_
        | refine Ev_mul rfl rfl (by simp only [inR]; omega) ?_
        | refine Ev_shrN (m := 6) (q := 64) rfl rfl rfl rfl ?_
        | refine Ev_shrN (m := 12) (q := 4096) rfl rfl rfl rfl ?_
        | refine Ev_shrN (m := 10) (q := 1024) rfl rfl rfl rfl ?_
        | refine Ev_shrN (m := 8) (q := 256) rfl rfl rfl rfl ?_
        | refine Ev_shrN (m := 4) (q := 16) rfl rfl rfl rfl ?_
        | refine Ev_shrN (m := 5) (q := 32) rfl rfl rfl rfl ?_
        | refine Ev_shrN (m := 7) (q := 128) rfl rfl rfl rfl ?_
        | refine Ev_shrN (m := 3) (q := 8) rfl rfl rfl rfl ?_
        | refine Ev_shrN (m := 18) (q := 262144) rfl rfl rfl rfl ?_
        | refine Ev_shlN (m := 6) (q := 64) rfl rfl rfl rfl (by simp only [lim]; omega) ?_
        | refine Ev_shlN (m := 12) (q := 4096) rfl rfl rfl rfl (by simp only [lim]; omega) ?_
        | refine Ev_shlN (m := 10) (q := 1024) rfl rfl rfl rfl (by simp only [lim]; omega) ?_
        | refine Ev_shlN (m := 8) (q := 256) rfl rfl rfl rfl (by simp only [lim]; omega) ?_
        | refine Ev_andN 3 8 rfl rfl rfl rfl (by simp only [lim]; omega) (by simp only [lim]; omega) ?_
        | refine Ev_andN 4 16 rfl rfl rfl rfl (by simp only [lim]; omega) (by simp only [lim]; omega) ?_
        | refine Ev_andN 5 32 rfl rfl rfl rfl (by simp only [lim]; omega) (by simp only [lim]; omega) ?_
        | refine Ev_andN 6 64 rfl rfl rfl rfl (by simp only [lim]; omega) (by simp only [lim]; omega) ?_
        | refine Ev_andN 10 1024 rfl rfl rfl rfl (by simp only [lim]; omega) (by simp only [lim]; omega) ?_
        | refine Ev_orN 4 rfl rfl rfl (by first | omega | (dsimp only; done) | (dsimp only; omega)) (by first | omega | (dsimp only; done) | (dsimp only; omega)) (by simp only [lim]; omega) ?_
        | refine Ev_orN 5 rfl rfl rfl (by first | omega | (dsimp only; done) | (dsimp only; omega)) (by first | omega | (dsimp only; done) | (dsimp only; omega)) (by simp only [lim]; omega) ?_
        | refine Ev_orN 6 rfl rfl rfl (by first | omega | (dsimp only; done) | (dsimp only; omega)) (by first | omega | (dsimp only; done) | (dsimp only; omega)) (by simp only [lim]; omega) ?_
        | refine Ev_orN 10 rfl rfl rfl (by first | omega | (dsimp only; done) | (dsimp only; omega)) (by first | omega | (dsimp only; done) | (dsimp only; omega)) (by simp only [lim]; omega) ?_
        | refine Ev_orN 12 rfl rfl rfl (by first | omega | (dsimp only; done) | (dsimp only; omega)) (by first | omega | (dsimp only; done) | (dsimp only; omega)) (by simp only [lim]; omega) ?_
        | refine Ev_orN 16 rfl rfl rfl (by first | omega | (dsimp only; done) | (dsimp only; omega)) (by first | omega | (dsimp only; done) | (dsimp only; omega)) (by simp only [lim]; omega) ?_
        | refine Ev_convN rfl rfl rfl rfl rfl (by simp only [lim]; omega) ?_
        | refine Ev_and8 rfl rfl (by first | omega | (dsimp only; done) | (dsimp only; omega)) (by first | omega | (dsimp only; done) | (dsimp only; omega)) (land_192 (by first | omega | (dsimp only; done) | (dsimp only; omega))) (by first | omega | (dsimp only; done) | (dsimp only; omega)) ?_
        | refine Ev_and8 rfl rfl (by first | omega | (dsimp only; done) | (dsimp only; omega)) (by first | omega | (dsimp only; done) | (dsimp only; omega)) (land_224 (by first | omega | (dsimp only; done) | (dsimp only; omega))) (by first | omega | (dsimp only; done) | (dsimp only; omega)) ?_
        | refine Ev_and8 rfl rfl (by first | omega | (dsimp only; done) | (dsimp only; omega)) (by first | omega | (dsimp only; done) | (dsimp only; omega)) (land_240 (by first | omega | (dsimp only; done) | (dsimp only; omega))) (by first | omega | (dsimp only; done) | (dsimp only; omega)) ?_
        | refine Ev_shr rfl rfl rfl rfl ?_
        | refine Ev_conv rfl rfl rfl rfl rfl (by simp only [inR]; omega) ?_
        | refine Ev_conv8 rfl rfl rfl rfl rfl ?_)
    refine W_inv (fun a : Nat × Nat => [(60, .ptr S5.n 0), (13, .int .i64 ((a.2 : Nat) : Int)), (7, vx)]) (JoinI S5.n (normS s) vx) (fun a => (normS s).length - a.1) ?_ (0, 0) ?_ ⟨rfl, rfl, rfl, trivial⟩
    · rintro ⟨pos, k⟩ T ⟨hokT, hnT, hit, hxT, heq⟩ back
      dsimp only at hit heq back
      repeat (
        first
          | refine W_seq ?_
          | refine WO_nil ?_
          | refine V_seq ?_
          | refine W_region ?_
          | refine W_drawn (by kernel_rfl) ?_
          | refine W_block ?_
          | refine W_scope ?_
          | refine W_skip ?_
          | refine W_ret ?_
          | refine W_exit ?_
          | refine W_label ?_
          | refine V_ret ?_
          | refine V_block ?_
          | refine V_block_x rfl ?_
          | refine V_block_y rfl ?_
          | refine V_seq_x ?_
          | refine V_loop_x ?_
          | refine W_cond_t rfl ?_
          | refine W_cond_f rfl ?_
          | refine WO_dst rfl rfl (by kernel_rfl) (by kernel_rfl) ?_
          | refine WO_no rfl rfl ?_
          | refine WO_guard_t rfl rfl rfl rfl rfl (by kernel_rfl) (by kernel_rfl) ?_
          | refine WO_guard_f rfl rfl rfl rfl rfl rfl (by kernel_rfl) (by kernel_rfl) ?_
          | refine WO_guard_x rfl rfl rfl rfl rfl (by kernel_rfl) (by kernel_rfl) ?_
          | refine Ev_move rfl ?_
          | refine Ev_assign rfl ?_
          | refine Ev_extract rfl rfl ?_
          | refine Ev_pick_t rfl rfl rfl ?_
          | refine Ev_pick_f rfl rfl rfl ?_
          | refine Ev_lssN rfl rfl ?_
          | refine Ev_leqN rfl rfl ?_
          | refine Ev_gtrN rfl rfl ?_
          | refine Ev_geqN rfl rfl ?_
          | refine Ev_eqlN rfl rfl ?_
          | refine Ev_neqN rfl rfl ?_
          | refine Ev_lss rfl rfl ?_
          | refine Ev_leq rfl rfl ?_
          | refine Ev_gtr rfl rfl ?_
          | refine Ev_geq rfl rfl ?_
          | refine Ev_eql rfl rfl ?_
          | refine Ev_neq rfl rfl ?_
          | refine Ev_seql rfl rfl ?_
          | refine Ev_sneq rfl rfl ?_
          | refine Ev_not rfl ?_
          | refine Ev_notb rfl ?_
          | refine Ev_nilCheck rfl ?_
          | refine Ev_fieldAddr rfl rfl rfl rfl rfl rfl ?_
          | refine Ev_len_str rfl rfl rfl rfl rfl ?_
          | refine Ev_len rfl rfl rfl rfl rfl rfl ?_
          | refine Ev_min rfl rfl rfl ?_
          | refine Ev_max rfl rfl rfl ?_
          | refine Ev_indexAddr rfl rfl rfl rfl rfl (by first | omega | (dsimp only; done) | (dsimp only; omega)) ?_
          | refine Ev_makeFunc rfl rfl ?_
          | refine Ev_conv_str rfl rfl rfl rfl rfl ?_
          | refine Ev_addN rfl rfl (by simp only [lim]; omega) ?_
          | refine Ev_subN rfl rfl (by simp only [lim]; omega) (by first | omega | (dsimp only; done) | (dsimp only; omega)) ?_
          | refine Ev_mulN rfl rfl (by simp only [lim]; omega) ?_
          | refine Ev_add rfl rfl (by simp only [inR]; omega) ?_
          | refine Ev_sub rfl rfl (by simp only [inR]; omega) ?_
          | refine Ev_mul rfl rfl (by simp only [inR]; omega) ?_
          | refine Ev_shrN (m := 6) (q := 64) rfl rfl rfl rfl ?_
          | refine Ev_shrN (m := 12) (q := 4096) rfl rfl rfl rfl ?_
          | refine Ev_shrN (m := 10) (q := 1024) rfl rfl rfl rfl ?_
          | refine Ev_shrN (m := 8) (q := 256) rfl rfl rfl rfl ?_
          | refine Ev_shrN (m := 4) (q := 16) rfl rfl rfl rfl ?_
          | refine Ev_shrN (m := 5) (q := 32) rfl rfl rfl rfl ?_
          | refine Ev_shrN (m := 7) (q := 128) rfl rfl rfl rfl ?_
          | refine Ev_shrN (m := 3) (q := 8) rfl rfl rfl rfl ?_
          | refine Ev_shrN (m := 18) (q := 262144) rfl rfl rfl rfl ?_
          | refine Ev_shlN (m := 6) (q := 64) rfl rfl rfl rfl (by simp only [lim]; omega) ?_
          | refine Ev_shlN (m := 12) (q := 4096) rfl rfl rfl rfl (by simp only [lim]; omega) ?_
          | refine Ev_shlN (m := 10) (q := 1024) rfl rfl rfl rfl (by simp only [lim]; omega) ?_
          | refine Ev_shlN (m := 8) (q := 256) rfl rfl rfl rfl (by simp only [lim]; omega) ?_
          | refine Ev_andN 3 8 rfl rfl rfl rfl (by simp only [lim]; omega) (by simp only [lim]; omega) ?_
          | refine Ev_andN 4 16 rfl rfl rfl rfl (by simp only [lim]; omega) (by simp only [lim]; omega) ?_
          | refine Ev_andN 5 32 rfl rfl rfl rfl (by simp only [lim]; omega) (by simp only [lim]; omega) ?_
          | refine Ev_andN 6 64 rfl rfl rfl rfl (by simp only [lim]; omega) (by simp only [lim]; omega) ?_
          | refine Ev_andN 10 1024 rfl rfl rfl rfl (by simp only [lim]; omega) (by simp only [lim]; omega) ?_
          | refine Ev_orN 4 rfl rfl rfl (by first | omega | (dsimp only; done) | (dsimp only; omega)) (by first | omega | (dsimp only; done) | (dsimp only; omega)) (by simp only [lim]; omega) ?_
          | refine Ev_orN 5 rfl rfl rfl (by first | omega | (dsimp only; done) | (dsimp only; omega)) (by first | omega | (dsimp only; done) | (dsimp only; omega)) (by simp only [lim]; omega) ?_
          | refine Ev_orN 6 rfl rfl rfl (by first | omega | (dsimp only; done) | (dsimp only; omega)) (by first | omega | (dsimp only; done) | (dsimp only; omega)) (by simp only [lim]; omega) ?_
          | refine Ev_orN 10 rfl rfl rfl (by first | omega | (dsimp only; done) | (dsimp only; omega)) (by first | omega | (dsimp only; done) | (dsimp only; omega)) (by simp only [lim]; omega) ?_
          | refine Ev_orN 12 rfl rfl rfl (by first | omega | (dsimp only; done) | (dsimp only; omega)) (by first | omega | (dsimp only; done) | (dsimp only; omega)) (by simp only [lim]; omega) ?_
          | refine Ev_orN 16 rfl rfl rfl (by first | omega | (dsimp only; done) | (dsimp only; omega)) (by first | omega | (dsimp only; done) | (dsimp only; omega)) (by simp only [lim]; omega) ?_
          | refine Ev_convN rfl rfl rfl rfl rfl (by simp only [lim]; omega) ?_
          | refine Ev_and8 rfl rfl (by first | omega | (dsimp only; done) | (dsimp only; omega)) (by first | omega | (dsimp only; done) | (dsimp only; omega)) (land_192 (by first | omega | (dsimp only; done) | (dsimp only; omega))) (by first | omega | (dsimp only; done) | (dsimp only; omega)) ?_
          | refine Ev_and8 rfl rfl (by first | omega | (dsimp only; done) | (dsimp only; omega)) (by first | omega | (dsimp only; done) | (dsimp only; omega)) (land_224 (by first | omega | (dsimp only; done) | (dsimp only; omega))) (by first | omega | (dsimp only; done) | (dsimp only; omega)) ?_
          | refine Ev_and8 rfl rfl (by first | omega | (dsimp only; done) | (dsimp only; omega)) (by first | omega | (dsimp only; done) | (dsimp only; omega)) (land_240 (by first | omega | (dsimp only; done) | (dsimp only; omega))) (by first | omega | (dsimp only; done) | (dsimp only; omega)) ?_
          | refine Ev_shr rfl rfl rfl rfl ?_
          | refine Ev_conv rfl rfl rfl rfl rfl (by simp only [inR]; omega) ?_
          | refine Ev_conv8 rfl rfl rfl rfl rfl ?_)
      by_cases hd : (normS s).drop pos = []
      · refine Ev_next_end rfl hit hd ?_
        have hk : k = (encS (normS s)).length := by rw [hd, encS_nil] at heq; simpa using heq
        repeat' (
          first
            | refine W_seq ?_
            | refine WO_nil ?_
            | refine V_seq ?_
            | refine W_region ?_
            | refine W_drawn (by kernel_rfl) ?_
            | refine W_block ?_
            | refine W_scope ?_
            | refine W_skip ?_
            | refine W_ret ?_
            | refine W_exit ?_
            | refine W_label ?_
            | refine V_ret ?_
            | refine V_block ?_
            | refine V_block_x rfl ?_
            | refine V_block_y rfl ?_
            | refine V_seq_x ?_
            | refine V_loop_x ?_
            | refine W_cond_t rfl ?_
            | refine W_cond_f rfl ?_
            | refine WO_dst rfl rfl (by kernel_rfl) (by kernel_rfl) ?_
            | refine WO_no rfl rfl ?_
            | refine WO_guard_t rfl rfl rfl rfl rfl (by kernel_rfl) (by kernel_rfl) ?_
            | refine WO_guard_f rfl rfl rfl rfl rfl rfl (by kernel_rfl) (by kernel_rfl) ?_
            | refine WO_guard_x rfl rfl rfl rfl rfl (by kernel_rfl) (by kernel_rfl) ?_
            | refine Ev_len rfl rfl rfl rfl rfl hxT.rd.len ?_
            | refine Ev_call rfl rfl (known_runs ?_)
            | refine Ev_move rfl ?_
            | refine Ev_assign rfl ?_
            | refine Ev_extract rfl rfl ?_
            | refine Ev_pick_t rfl rfl rfl ?_
            | refine Ev_pick_f rfl rfl rfl ?_
            | refine Ev_lssN rfl rfl ?_
            | refine Ev_leqN rfl rfl ?_
            | refine Ev_gtrN rfl rfl ?_
            | refine Ev_geqN rfl rfl ?_
            | refine Ev_eqlN rfl rfl ?_
            | refine Ev_neqN rfl rfl ?_
            | refine Ev_lss rfl rfl ?_
            | refine Ev_leq rfl rfl ?_
            | refine Ev_gtr rfl rfl ?_
            | refine Ev_geq rfl rfl ?_
            | refine Ev_eql rfl rfl ?_
            | refine Ev_neq rfl rfl ?_
            | refine Ev_seql rfl rfl ?_
            | refine Ev_sneq rfl rfl ?_
            | refine Ev_not rfl ?_
            | refine Ev_notb rfl ?_
            | refine Ev_nilCheck rfl ?_
            | refine Ev_fieldAddr rfl rfl rfl rfl rfl rfl ?_
            | refine Ev_len_str rfl rfl rfl rfl rfl ?_
            | refine Ev_len rfl rfl rfl rfl rfl rfl ?_
            | refine Ev_min rfl rfl rfl ?_
            | refine Ev_max rfl rfl rfl ?_
            | refine Ev_indexAddr rfl rfl rfl rfl rfl (by first | omega | (dsimp only; done) | (dsimp only; omega)) ?_
            | refine Ev_makeFunc rfl rfl ?_
            | refine Ev_conv_str rfl rfl rfl rfl rfl ?_
            | refine Ev_addN rfl rfl (by simp only [lim]; omega) ?_
            | refine Ev_subN rfl rfl (by simp only [lim]; omega) (by first | omega | (dsimp only; done) | (dsimp only; omega)) ?_
            | refine Ev_mulN rfl rfl (by simp only [lim]; omega) ?_
            | refine Ev_add rfl rfl (by simp only [inR]; omega) ?_
            | refine Ev_sub rfl rfl (by simp only [inR]; omega) ?_
            | refine Ev_mul rfl rfl (by simp only [inR]; omega) ?_
            | refine Ev_shrN (m := 6) (q := 64) rfl rfl rfl rfl ?_
            | refine Ev_shrN (m := 12) (q := 4096) rfl rfl rfl rfl ?_
            | refine Ev_shrN (m := 10) (q := 1024) rfl rfl rfl rfl ?_
            | refine Ev_shrN (m := 8) (q := 256) rfl rfl rfl rfl ?_
            | refine Ev_shrN (m := 4) (q := 16) rfl rfl rfl rfl ?_
            | refine Ev_shrN (m := 5) (q := 32) rfl rfl rfl rfl ?_
            | refine Ev_shrN (m := 7) (q := 128) rfl rfl rfl rfl ?_
            | refine Ev_shrN (m := 3) (q := 8) rfl rfl rfl rfl ?_
            | refine Ev_shrN (m := 18) (q := 262144) rfl rfl rfl rfl ?_
            | refine Ev_shlN (m := 6) (q := 64) rfl rfl rfl rfl (by simp only [lim]; omega) ?_
            | refine Ev_shlN (m := 12) (q := 4096) rfl rfl rfl rfl (by simp only [lim]; omega) ?_
            | refine Ev_shlN (m := 10) (q := 1024) rfl rfl rfl rfl (by simp only [lim]; omega) ?_
            | refine Ev_shlN (m := 8) (q := 256) rfl rfl rfl rfl (by simp only [lim]; omega) ?_
            | refine Ev_andN 3 8 rfl rfl rfl rfl (by simp only [lim]; omega) (by simp only [lim]; omega) ?_
            | refine Ev_andN 4 16 rfl rfl rfl rfl (by simp only [lim]; omega) (by simp only [lim]; omega) ?_
            | refine Ev_andN 5 32 rfl rfl rfl rfl (by simp only [lim]; omega) (by simp only [lim]; omega) ?_
            | refine Ev_andN 6 64 rfl rfl rfl rfl (by simp only [lim]; omega) (by simp only [lim]; omega) ?_
            | refine Ev_andN 10 1024 rfl rfl rfl rfl (by simp only [lim]; omega) (by simp only [lim]; omega) ?_
            | refine Ev_orN 4 rfl rfl rfl (by first | omega | (dsimp only; done) | (dsimp only; omega)) (by first | omega | (dsimp only; done) | (dsimp only; omega)) (by simp only [lim]; omega) ?_
            | refine Ev_orN 5 rfl rfl rfl (by first | omega | (dsimp only; done) | (dsimp only; omega)) (by first | omega | (dsimp only; done) | (dsimp only; omega)) (by simp only [lim]; omega) ?_
            | refine Ev_orN 6 rfl rfl rfl (by first | omega | (dsimp only; done) | (dsimp only; omega)) (by first | omega | (dsimp only; done) | (dsimp only; omega)) (by simp only [lim]; omega) ?_
            | refine Ev_orN 10 rfl rfl rfl (by first | omega | (dsimp only; done) | (dsimp only; omega)) (by first | omega | (dsimp only; done) | (dsimp only; omega)) (by simp only [lim]; omega) ?_
            | refine Ev_orN 12 rfl rfl rfl (by first | omega | (dsimp only; done) | (dsimp only; omega)) (by first | omega | (dsimp only; done) | (dsimp only; omega)) (by simp only [lim]; omega) ?_
            | refine Ev_orN 16 rfl rfl rfl (by first | omega | (dsimp only; done) | (dsimp only; omega)) (by first | omega | (dsimp only; done) | (dsimp only; omega)) (by simp only [lim]; omega) ?_
            | refine Ev_convN rfl rfl rfl rfl rfl (by simp only [lim]; omega) ?_
            | refine Ev_and8 rfl rfl (by first | omega | (dsimp only; done) | (dsimp only; omega)) (by first | omega | (dsimp only; done) | (dsimp only; omega)) (land_192 (by first | omega | (dsimp only; done) | (dsimp only; omega))) (by first | omega | (dsimp only; done) | (dsimp only; omega)) ?_
            | refine Ev_and8 rfl rfl (by first | omega | (dsimp only; done) | (dsimp only; omega)) (by first | omega | (dsimp only; done) | (dsimp only; omega)) (land_224 (by first | omega | (dsimp only; done) | (dsimp only; omega))) (by first | omega | (dsimp only; done) | (dsimp only; omega)) ?_
            | refine Ev_and8 rfl rfl (by first | omega | (dsimp only; done) | (dsimp only; omega)) (by first | omega | (dsimp only; done) | (dsimp only; omega)) (land_240 (by first | omega | (dsimp only; done) | (dsimp only; omega))) (by first | omega | (dsimp only; done) | (dsimp only; omega)) ?_
            | refine Ev_shr rfl rfl rfl rfl ?_
            | refine Ev_conv rfl rfl rfl rfl rfl (by simp only [inR]; omega) ?_
            | refine Ev_conv8 rfl rfl rfl rfl rfl ?_
            | (refine WO_guard_dt rfl rfl rfl rfl rfl (by kernel_rfl) (by kernel_rfl) (fun hg => ?_) (fun hg => ?_) <;> (try dsimp only at hg) <;> try (exfalso; omega))
            | (refine WO_guard_df rfl rfl rfl rfl rfl (by kernel_rfl) (by kernel_rfl) (fun hg => ?_) (fun hg => ?_) <;> (try dsimp only at hg) <;> try (exfalso; omega))
            | (refine W_cond rfl (fun hc => ?_) (fun hc => ?_) <;> (try dsimp only at hc) <;> try (exfalso; omega)))
        refine V_done rfl rfl ?_
        rfl
      · obtain ⟨c, w, hcw⟩ : ∃ c w, decodeR ((normS s).drop pos) = (c, w) := ⟨_, _, rfl⟩
        have hc : c < 1114112 := by have := dec_lt ((normS s).drop pos); rw [hcw] at this; exact this
        have hw : 1 ≤ w := by have := dec_pos ((normS s).drop pos); rw [hcw] at this; exact this
        have hpl : pos < (normS s).length := by
          rcases Nat.lt_or_ge pos (normS s).length with h | h
          · exact h
          · exact absurd (List.drop_eq_nil_of_le h) hd
        have heq' : k + ((enc1 c).length + (encS ((normS s).drop (pos + w))).length) = (encS (normS s)).length := by
          rw [← heq, encS_ne hd, hcw, List.drop_drop, List.length_append]
        have h6 := enc1_len c
        have hb : ∀ b, blkOf vx = some b → b < S5.n := fun b h => hx5.lt hok5 h
        refine Ev_next rfl hit hd hcw (by omega) ?_
        intro T1 hn1 hit1 hf1
        have hok1 : Sok T1 := by
          intro b x hb
          rw [hn1]
          by_cases h : b = S5.n
          · rw [h]; exact hokT _ _ hit
          · rw [hf1 b h] at hb; exact hokT b x hb
        have hxT1 : Ow T1 vx (encS (normS s)) := hxT.keep fun b h => hf1 b (by have := hb b h; omega)
        have hkk : k + 6 ≤ 9223372036854775807 := by omega
        repeat' (
          first
            | refine W_seq ?_
            | refine WO_nil ?_
            | refine V_seq ?_
            | refine W_region ?_
            | refine W_drawn (by kernel_rfl) ?_
            | refine W_block ?_
            | refine W_scope ?_
            | refine W_skip ?_
            | refine W_ret ?_
            | refine W_exit ?_
            | refine W_label ?_
            | refine V_ret ?_
            | refine V_block ?_
            | refine V_block_x rfl ?_
            | refine V_block_y rfl ?_
            | refine V_seq_x ?_
            | refine V_loop_x ?_
            | refine W_cond_t rfl ?_
            | refine W_cond_f rfl ?_
            | refine WO_dst rfl rfl (by kernel_rfl) (by kernel_rfl) ?_
            | refine WO_no rfl rfl ?_
            | refine WO_guard_t rfl rfl rfl rfl rfl (by kernel_rfl) (by kernel_rfl) ?_
            | refine WO_guard_f rfl rfl rfl rfl rfl rfl (by kernel_rfl) (by kernel_rfl) ?_
            | refine WO_guard_x rfl rfl rfl rfl rfl (by kernel_rfl) (by kernel_rfl) ?_
            | refine Ev_move rfl ?_
            | refine Ev_assign rfl ?_
            | refine Ev_extract rfl rfl ?_
            | refine Ev_pick_t rfl rfl rfl ?_
            | refine Ev_pick_f rfl rfl rfl ?_
            | refine Ev_lssN rfl rfl ?_
            | refine Ev_leqN rfl rfl ?_
            | refine Ev_gtrN rfl rfl ?_
            | refine Ev_geqN rfl rfl ?_
            | refine Ev_eqlN rfl rfl ?_
            | refine Ev_neqN rfl rfl ?_
            | refine Ev_lss rfl rfl ?_
            | refine Ev_leq rfl rfl ?_
            | refine Ev_gtr rfl rfl ?_
            | refine Ev_geq rfl rfl ?_
            | refine Ev_eql rfl rfl ?_
            | refine Ev_neq rfl rfl ?_
            | refine Ev_seql rfl rfl ?_
            | refine Ev_sneq rfl rfl ?_
            | refine Ev_not rfl ?_
            | refine Ev_notb rfl ?_
            | refine Ev_nilCheck rfl ?_
            | refine Ev_fieldAddr rfl rfl rfl rfl rfl rfl ?_
            | refine Ev_len_str rfl rfl rfl rfl rfl ?_
            | refine Ev_len rfl rfl rfl rfl rfl rfl ?_
            | refine Ev_min rfl rfl rfl ?_
            | refine Ev_max rfl rfl rfl ?_
            | refine Ev_indexAddr rfl rfl rfl rfl rfl (by first | omega | (dsimp only; done) | (dsimp only; omega)) ?_
            | refine Ev_makeFunc rfl rfl ?_
            | refine Ev_conv_str rfl rfl rfl rfl rfl ?_
            | refine Ev_addN rfl rfl (by simp only [lim]; omega) ?_
            | refine Ev_subN rfl rfl (by simp only [lim]; omega) (by first | omega | (dsimp only; done) | (dsimp only; omega)) ?_
            | refine Ev_mulN rfl rfl (by simp only [lim]; omega) ?_
            | refine Ev_add rfl rfl (by simp only [inR]; omega) ?_
            | refine Ev_sub rfl rfl (by simp only [inR]; omega) ?_
            | refine Ev_mul rfl rfl (by simp only [inR]; omega) ?_
            | refine Ev_shrN (m := 6) (q := 64) rfl rfl rfl rfl ?_
            | refine Ev_shrN (m := 12) (q := 4096) rfl rfl rfl rfl ?_
            | refine Ev_shrN (m := 10) (q := 1024) rfl rfl rfl rfl ?_
            | refine Ev_shrN (m := 8) (q := 256) rfl rfl rfl rfl ?_
            | refine Ev_shrN (m := 4) (q := 16) rfl rfl rfl rfl ?_
            | refine Ev_shrN (m := 5) (q := 32) rfl rfl rfl rfl ?_
            | refine Ev_shrN (m := 7) (q := 128) rfl rfl rfl rfl ?_
            | refine Ev_shrN (m := 3) (q := 8) rfl rfl rfl rfl ?_
            | refine Ev_shrN (m := 18) (q := 262144) rfl rfl rfl rfl ?_
            | refine Ev_shlN (m := 6) (q := 64) rfl rfl rfl rfl (by simp only [lim]; omega) ?_
            | refine Ev_shlN (m := 12) (q := 4096) rfl rfl rfl rfl (by simp only [lim]; omega) ?_
            | refine Ev_shlN (m := 10) (q := 1024) rfl rfl rfl rfl (by simp only [lim]; omega) ?_
            | refine Ev_shlN (m := 8) (q := 256) rfl rfl rfl rfl (by simp only [lim]; omega) ?_
            | refine Ev_andN 3 8 rfl rfl rfl rfl (by simp only [lim]; omega) (by simp only [lim]; omega) ?_
            | refine Ev_andN 4 16 rfl rfl rfl rfl (by simp only [lim]; omega) (by simp only [lim]; omega) ?_
            | refine Ev_andN 5 32 rfl rfl rfl rfl (by simp only [lim]; omega) (by simp only [lim]; omega) ?_
            | refine Ev_andN 6 64 rfl rfl rfl rfl (by simp only [lim]; omega) (by simp only [lim]; omega) ?_
            | refine Ev_andN 10 1024 rfl rfl rfl rfl (by simp only [lim]; omega) (by simp only [lim]; omega) ?_
            | refine Ev_orN 4 rfl rfl rfl (by first | omega | (dsimp only; done) | (dsimp only; omega)) (by first | omega | (dsimp only; done) | (dsimp only; omega)) (by simp only [lim]; omega) ?_
            | refine Ev_orN 5 rfl rfl rfl (by first | omega | (dsimp only; done) | (dsimp only; omega)) (by first | omega | (dsimp only; done) | (dsimp only; omega)) (by simp only [lim]; omega) ?_
            | refine Ev_orN 6 rfl rfl rfl (by first | omega | (dsimp only; done) | (dsimp only; omega)) (by first | omega | (dsimp only; done) | (dsimp only; omega)) (by simp only [lim]; omega) ?_
            | refine Ev_orN 10 rfl rfl rfl (by first | omega | (dsimp only; done) | (dsimp only; omega)) (by first | omega | (dsimp only; done) | (dsimp only; omega)) (by simp only [lim]; omega) ?_
            | refine Ev_orN 12 rfl rfl rfl (by first | omega | (dsimp only; done) | (dsimp only; omega)) (by first | omega | (dsimp only; done) | (dsimp only; omega)) (by simp only [lim]; omega) ?_
            | refine Ev_orN 16 rfl rfl rfl (by first | omega | (dsimp only; done) | (dsimp only; omega)) (by first | omega | (dsimp only; done) | (dsimp only; omega)) (by simp only [lim]; omega) ?_
            | refine Ev_convN rfl rfl rfl rfl rfl (by simp only [lim]; omega) ?_
            | refine Ev_and8 rfl rfl (by first | omega | (dsimp only; done) | (dsimp only; omega)) (by first | omega | (dsimp only; done) | (dsimp only; omega)) (land_192 (by first | omega | (dsimp only; done) | (dsimp only; omega))) (by first | omega | (dsimp only; done) | (dsimp only; omega)) ?_
            | refine Ev_and8 rfl rfl (by first | omega | (dsimp only; done) | (dsimp only; omega)) (by first | omega | (dsimp only; done) | (dsimp only; omega)) (land_224 (by first | omega | (dsimp only; done) | (dsimp only; omega))) (by first | omega | (dsimp only; done) | (dsimp only; omega)) ?_
            | refine Ev_and8 rfl rfl (by first | omega | (dsimp only; done) | (dsimp only; omega)) (by first | omega | (dsimp only; done) | (dsimp only; omega)) (land_240 (by first | omega | (dsimp only; done) | (dsimp only; omega))) (by first | omega | (dsimp only; done) | (dsimp only; omega)) ?_
            | refine Ev_shr rfl rfl rfl rfl ?_
            | refine Ev_conv rfl rfl rfl rfl rfl (by simp only [inR]; omega) ?_
            | refine Ev_conv8 rfl rfl rfl rfl rfl ?_
            | (refine WO_guard_dt rfl rfl rfl rfl rfl (by kernel_rfl) (by kernel_rfl) (fun hg => ?_) (fun hg => ?_) <;> (try dsimp only at hg) <;> try (exfalso; omega))
            | (refine WO_guard_df rfl rfl rfl rfl rfl (by kernel_rfl) (by kernel_rfl) (fun hg => ?_) (fun hg => ?_) <;> (try dsimp only at hg) <;> try (exfalso; omega))
            | (refine W_cond rfl (fun hc => ?_) (fun hc => ?_) <;> (try dsimp only at hc) <;> try (exfalso; omega)))
        all_goals
          first
          | (have he : (enc1 c).length = 1 := enc1_1 (by omega)
             refine back (pos + w, k + (enc1 c).length) T1 _ (by dsimp only; omega) ⟨hok1, by omega, hit1, hxT1, by dsimp only; omega⟩ ⟨rfl, by rw [he]; rfl, rfl, trivial⟩)
          | (have he : (enc1 c).length = 2 := enc1_2 (by omega)
             refine back (pos + w, k + (enc1 c).length) T1 _ (by dsimp only; omega) ⟨hok1, by omega, hit1, hxT1, by dsimp only; omega⟩ ⟨rfl, by rw [he]; rfl, rfl, trivial⟩)
          | (have he : (enc1 c).length = 3 := enc1_3 (by omega)
             refine back (pos + w, k + (enc1 c).length) T1 _ (by dsimp only; omega) ⟨hok1, by omega, hit1, hxT1, by dsimp only; omega⟩ ⟨rfl, by rw [he]; rfl, rfl, trivial⟩)
          | (have he : (enc1 c).length = 6 := enc1_6 (by omega)
             refine back (pos + w, k + (enc1 c).length) T1 _ (by dsimp only; omega) ⟨hok1, by omega, hit1, hxT1, by dsimp only; omega⟩ ⟨rfl, by rw [he]; rfl, rfl, trivial⟩)
    · exact ⟨hok6, by omega, hq6, hx6, by simp⟩
end Go.Proofs.YtnlfcoojlgdgaaaDoor
