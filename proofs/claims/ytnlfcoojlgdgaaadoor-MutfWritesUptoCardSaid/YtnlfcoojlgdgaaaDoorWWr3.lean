/- caraferef1.Number and Text: what is written. -/
import Derived.Test.YtnlfcoojlgdgaaaDoorWWr2
namespace Go.Proofs.YtnlfcoojlgdgaaaDoor
open GX
set_option maxHeartbeats 8000000
theorem byte64 (n : Int) {j : Nat} (h : j < 8) : n % 18446744073709551616 / ((2 ^ (8 * j) : Nat) : Int) % 256 = n / ((2 ^ (8 * j) : Nat) : Int) % 256 := by
  rcases (show j = 0 ∨ j = 1 ∨ j = 2 ∨ j = 3 ∨ j = 4 ∨ j = 5 ∨ j = 6 ∨ j = 7 by omega) with rfl | rfl | rfl | rfl | rfl | rfl | rfl | rfl <;> simp <;> omega
theorem rnumber_runs {S : St} {v : AV} {l : List Nat} {n b : Int} (hok : Sok S) (hv : Rd S v 1 (sbytes l) l.length) (hl : l.length ≤ 900000000) (hn : S.n + 18 ≤ 1000000000) :
    Runs X1 18 [v, .int .i64 n, .int .i64 b] S fun r S' => Fr S S' .nils 18 ∧ Ow S' r (l ++ numL n (sizeN b)) ∧ ∀ c, blkOf r = some c → S.n ≤ c := by
  have hsz := sizeN_le b
  refine Runs_fn (m := 30) (by kernel_rfl) Tryd.func18 rfl (by kernel_rfl) (by kernel_rfl) ?_
  repeat (
    first
      | refine W_seq ?_
      | refine WO_nil ?_
      | refine V_seq ?_
      | refine W_region ?_
      | refine WO_dst rfl rfl (by kernel_rfl) (by kernel_rfl) ?_
      | refine Ev_assign rfl ?_)
  refine Ev_buildSlice rfl rfl rfl rfl rfl rfl hok (by omega) ?_
  intro S1 hn1 hok1 hq1 hf1
  have hv1 := hv.keep (fun c h => hf1 c (hv.lt hok h))
  repeat (
    first
      | refine WO_dst rfl rfl (by kernel_rfl) (by kernel_rfl) ?_
      | refine Ev_move rfl ?_)
  refine Ev_append_gz (cs := []) (m := 0) rfl rfl rfl rfl rfl rfl rfl rfl rfl rfl (.inr ⟨rfl, rfl, S.n, 0, rfl, Rd_lit hq1 rfl (by kernel_rfl)⟩) hv1 (by first | exact sbytes_one l | (unfold sbytes; simp [AV.one])) hok1 (by omega) (by dsimp only; omega) (by omega) ?_
  intro v2 S2 hle2 hn2 hok2 hown2 hf2 hb2
  have hb2' : ∀ c, blkOf v2 = some c → S.n ≤ c := fun c hc => by
    rcases hb2 c hc with h | h
    · cases h; exact Nat.le_refl _
    · omega
  repeat (
    first
      | refine W_seq ?_
      | refine WO_nil ?_
      | refine V_seq ?_
      | refine W_region ?_
      | refine WO_dst rfl rfl (by kernel_rfl) (by kernel_rfl) ?_
      | refine Ev_move rfl ?_
      | refine Ev_assign rfl ?_)
  refine Ev_call rfl rfl ((width_runs b S2).mono ?_)
  rintro _ _ - ⟨rfl, rfl⟩
  repeat (
    first
      | refine WO_nil ?_
      | refine V_seq ?_
      | refine W_block ?_
      | refine WO_dst rfl rfl (by kernel_rfl) (by kernel_rfl) ?_
      | refine Ev_assign rfl ?_
      | refine Ev_subN rfl rfl (by simp only [lim]; omega) (by first | omega | (dsimp only; done) | (dsimp only; omega)) ?_)
  rename_i S2
  have hs6 : some (AV.int .i64 ((sizeN b - 1 : Nat) : Int)) = some (AV.int .i64 (((sizeN b : Nat) : Int) - 1)) := by congr 2; omega
  refine W_inv (fun a : Nat × AV × List Nat => [(8, .int .i64 (((a.1 : Nat) : Int) - 1)), (7, a.2.1), (1, .int .i64 n)]) (fun a T => Gz T a.2.1 5 1 (sbytes a.2.2) a.2.2.length ∧ a.2.2 ++ numL n a.1 = l ++ numL n (sizeN b) ∧ a.1 ≤ sizeN b ∧ Fr S T .nils (2 + 2 * (sizeN b - a.1)) ∧ ∀ c, blkOf a.2.1 = some c → S.n ≤ c) (fun a => a.1) ?_ (sizeN b, v2, l) ⟨hown2.eq rfl (by dsimp only; omega), rfl, Nat.le_refl _, ⟨by omega, by omega, hok2, fun c _ h => by rw [hf2 c (fun h => by cases h; omega) (by omega), hf1 c h]⟩, hb2'⟩ ⟨hs6, rfl, rfl, trivial⟩
  rintro ⟨j, v, l'⟩ T ⟨hwT, heq, hj, hF, hbT⟩ back
  dsimp only at hwT heq hj hF hbT back
  have hFn := hF.n; have hFl := hF.le
  have hll : l'.length + j = l.length + sizeN b := by have h := congrArg List.length heq; simpa only [List.length_append, numL_len] using h
  cases j with
  | zero =>
    show W X1 30 _ _ _ [(8, .int .i64 (-1)), (7, v), (1, .int .i64 n)] T
    repeat' (
      first
        | refine W_seq ?_
        | refine WO_nil ?_
        | refine V_seq ?_
        | refine W_region ?_
        | refine W_ret ?_
        | refine W_exit ?_
        | refine V_block_x rfl ?_
        | refine V_seq_x ?_
        | refine V_loop_x ?_
        | refine W_cond_f rfl ?_
        | refine WO_dst rfl rfl (by kernel_rfl) (by kernel_rfl) ?_
        | refine Ev_move rfl ?_
        | refine Ev_assign rfl ?_
        | refine Ev_geq rfl rfl ?_)
    refine V_done rfl rfl ?_
    refine ⟨⟨hF.le, by omega, hF.ok, hF.same⟩, ?_, hbT⟩
    have h9 := hwT.own (by omega)
    rw [← heq]; simp only [numL, List.append_nil]; exact h9
  | succ j =>
    have hjj : (((j + 1 : Nat) : Int) - 1) = ((j : Nat) : Int) := by omega
    show W X1 30 _ _ _ [(8, .int .i64 (((j + 1 : Nat) : Int) - 1)), (7, v), (1, .int .i64 n)] T
    rw [hjj]
    repeat' (
      first
        | refine W_seq ?_
        | refine WO_nil ?_
        | refine V_seq ?_
        | refine W_region ?_
        | refine W_block ?_
        | refine W_skip ?_
        | refine W_cond_t rfl ?_
        | refine WO_dst rfl rfl (by kernel_rfl) (by kernel_rfl) ?_
        | refine Ev_conv64 (a := n) rfl rfl rfl rfl rfl ?_
        | refine Ev_shrV rfl rfl (by simp only [Go.IntKind.bits]; omega) ?_
        | refine Ev_conv8i rfl rfl rfl rfl rfl ?_
        | refine Ev_move rfl ?_
        | refine Ev_geqN rfl rfl ?_
        | refine Ev_mulN rfl rfl (by simp only [lim]; omega) ?_
        | refine Ev_convN rfl rfl rfl rfl rfl (by simp only [lim]; omega) ?_)
    refine Ev_buildSlice rfl rfl rfl rfl rfl rfl hF.ok (by omega) ?_
    intro T1 gn1 gok1 gq1 gf1
    have ho1 := hwT.keep (fun b hb => gf1 b (hwT.lt hF.ok hb))
    repeat (
      refine WO_dst rfl rfl (by kernel_rfl) (by kernel_rfl) ?_)
    refine Ev_append_gz rfl rfl rfl rfl rfl rfl rfl rfl rfl rfl ho1 (Rd_lit gq1 rfl (by kernel_rfl)) rfl gok1 (by omega) (by dsimp only; omega) (by omega) ?_
    intro v3 T2 gle2 gn2 gok2 gown2 gf2 gb2
    repeat (
      first
        | refine WO_nil ?_
        | refine V_seq ?_
        | refine W_region ?_
        | refine V_block ?_
        | refine WO_dst rfl rfl (by kernel_rfl) (by kernel_rfl) ?_
        | refine Ev_move rfl ?_
        | refine Ev_assign rfl ?_
        | refine Ev_sub rfl rfl (by simp only [inR]; omega) ?_)
    refine back (j, v3, l' ++ [byteAt n j]) T2 _ (Nat.lt_succ_self j) ⟨?_, ?_, by omega, ⟨?_, ?_, gok2, fun c _ h => ?_⟩, fun c hc => ?_⟩ ⟨rfl, rfl, rfl, trivial⟩
    · refine gown2.eq ?_ (by simp)
      rw [sbytes_app]
      congr 1
      show [AV.int .u8 _] = [AV.int .u8 _]
      unfold byteAt
      rw [← byte64 n (by omega)]
      rfl
    · rw [← heq]; simp [numL]
    · first | omega | (dsimp only; omega)
    · first | omega | (dsimp only; omega)
    · rw [gf2 c (fun h2 => by have := hbT c h2; omega) (by omega), gf1 c (by omega), hF.same c (by simp [blkOf]) h]
    · rcases gb2 c hc with g | g
      · exact hbT c g
      · omega
theorem rtext_runs {S : St} {v : AV} {l s : List Nat} (hok : Sok S) (hv : Rd S v 1 (sbytes l) l.length) (hb : ∀ b ∈ s, b < 256) (hs : s.length ≤ 100000000) (hl : l.length ≤ 800000000) (hn : S.n + (4 * s.length + 22) ≤ 1000000000) :
    Runs X1 20 [v, .str s] S fun r S' => Fr S S' .nils (4 * s.length + 22) ∧ Ow S' r (l ++ textL s) ∧ ∀ c, blkOf r = some c → S.n ≤ c := by
  refine Runs_fn (m := 27) (by kernel_rfl) Tryd.func20 rfl (by kernel_rfl) (by kernel_rfl) ?_
  repeat (
    first
      | refine W_seq ?_
      | refine WO_nil ?_
      | refine V_seq ?_
      | refine W_region ?_
      | refine WO_dst rfl rfl (by kernel_rfl) (by kernel_rfl) ?_
      | refine Ev_move rfl ?_
      | refine Ev_assign rfl ?_)
  refine Ev_call rfl rfl ((renc_runs hok hb hs (by omega)).mono ?_)
  rintro _ S1 - ⟨hfr, vx, rfl, hx, hbx⟩
  have hn1 := hfr.n
  have hl1 := hfr.le
  have hv1 := hv.keep (fun c h => hfr.same c (by simp [blkOf]) (hv.lt hok h))
  by_cases hv' : vS s = true
  · rw [if_pos hv'] at hx ⊢
    repeat' (
      first
        | refine W_seq ?_
        | refine WO_nil ?_
        | refine V_seq ?_
        | refine W_region ?_
        | refine W_skip ?_
        | refine WO_dst rfl rfl (by kernel_rfl) (by kernel_rfl) ?_
        | refine WO_guard_t rfl rfl rfl rfl rfl (by kernel_rfl) (by kernel_rfl) ?_
        | refine Ev_len rfl rfl rfl rfl rfl hx.rd.len ?_
        | refine Ev_move rfl ?_
        | refine Ev_assign rfl ?_
        | refine Ev_extract rfl rfl ?_
        | refine Ev_pick_f rfl rfl rfl ?_
        | refine Ev_gtrN rfl rfl ?_
        | refine Ev_neqN rfl rfl ?_
        | (refine W_cond rfl (fun hc => ?_) (fun hc => ?_) <;> (try dsimp only at hc) <;> try (exfalso; first | omega | exact hc rfl)))
    · skip
      have htb : textB s = [] := by unfold textB; rw [if_neg (fun h => by have := h.2; omega)]
      refine Ev_call rfl rfl ((rnumber_runs hfr.ok hv1 (by omega) (by omega)).mono ?_)
      rintro r S2 - ⟨hF2, ho2, hb2⟩
      have hn2 := hF2.n
      have hl2 := hF2.le
      repeat (
        first
          | refine WO_nil ?_
          | refine V_seq ?_
          | refine W_ret ?_
          | refine V_ret ?_
          | refine WO_dst rfl rfl (by kernel_rfl) (by kernel_rfl) ?_
          | refine Ev_assign rfl ?_)
      refine V_done rfl rfl ?_
      refine ⟨⟨by omega, by omega, hF2.ok, fun c _ h => by rw [hF2.same c (by simp [blkOf]) (by omega), hfr.same c (by simp [blkOf]) h]⟩, ?_, fun c hc => by have := hb2 c hc; omega⟩
      unfold textL; rw [htb, List.append_nil]; rw [size2] at ho2; exact ho2
    · have htb : textB s = encS s := by unfold textB; rw [if_pos ⟨hv', by omega⟩]
      refine Ev_call rfl rfl ((rnumber_runs hfr.ok hv1 (by omega) (by omega)).mono ?_)
      rintro r S2 - ⟨hF2, ho2, hb2⟩
      have hn2 := hF2.n
      have hl2 := hF2.le
      have hx2 := hx.keep (fun c h => hF2.same c (by simp [blkOf]) (hx.lt hfr.ok h))
      have ho3 : Ow S2 r (l ++ numL ((encS s).length : Int) 2) := by rw [size2] at ho2; exact ho2
      repeat (
        first
          | refine WO_dst rfl rfl (by kernel_rfl) (by kernel_rfl) ?_
          | refine Ev_move rfl ?_)
      refine Ev_append rfl rfl rfl rfl rfl rfl rfl rfl rfl rfl ho3 hx2.rd (by first | exact sbytes_one _ | (unfold sbytes; simp [AV.one])) hF2.ok (by omega) (by simp only [List.length_append, numL_len]; omega) (by simp only [List.length_append, numL_len]; omega) ?_
      intro v3 S3 hle3 hn3 hok3 hown3 hf3 hb3
      repeat (
        first
          | refine WO_nil ?_
          | refine V_seq ?_
          | refine W_ret ?_
          | refine WO_dst rfl rfl (by kernel_rfl) (by kernel_rfl) ?_
          | refine Ev_assign rfl ?_)
      refine V_done rfl rfl ?_
      refine ⟨⟨by omega, by omega, hok3, fun c _ h => by rw [hf3 c (fun g => by have := hb2 c g; omega) (by omega), hF2.same c (by simp [blkOf]) (by omega), hfr.same c (by simp [blkOf]) h]⟩, ?_, fun c hc => ?_⟩
      · refine hown3.eq ?_ ?_
        · unfold textL; rw [htb, ← List.append_assoc, sbytes_app (l ++ _)]
        · unfold textL; rw [htb]; simp only [List.length_append]; omega
      · rcases hb3 c hc with h | h
        · have := hb2 c h; omega
        · omega
  · rw [if_neg hv'] at hx ⊢
    repeat' (
      first
        | refine W_seq ?_
        | refine WO_nil ?_
        | refine V_seq ?_
        | refine W_region ?_
        | refine W_cond_t rfl ?_
        | refine WO_dst rfl rfl (by kernel_rfl) (by kernel_rfl) ?_
        | refine WO_guard_f rfl rfl rfl rfl rfl rfl (by kernel_rfl) (by kernel_rfl) ?_
        | refine Ev_move rfl ?_
        | refine Ev_assign rfl ?_
        | refine Ev_extract rfl rfl ?_
        | refine Ev_pick_t rfl rfl rfl ?_
        | refine Ev_neqN rfl rfl ?_)
    have htb : textB s = [] := by unfold textB; rw [if_neg (fun h => hv' h.1)]
    refine Ev_call rfl rfl ((rnumber_runs hfr.ok hv1 (by omega) (by omega)).mono ?_)
    rintro r S2 - ⟨hF2, ho2, hb2⟩
    have hn2 := hF2.n
    have hl2 := hF2.le
    repeat (
      first
        | refine WO_nil ?_
        | refine V_seq ?_
        | refine W_ret ?_
        | refine V_ret ?_
        | refine WO_dst rfl rfl (by kernel_rfl) (by kernel_rfl) ?_
        | refine Ev_assign rfl ?_)
    refine V_done rfl rfl ?_
    refine ⟨⟨by omega, by omega, hF2.ok, fun c _ h => by rw [hF2.same c (by simp [blkOf]) (by omega), hfr.same c (by simp [blkOf]) h]⟩, ?_, fun c hc => by have := hb2 c hc; omega⟩
    unfold textL; rw [htb, List.append_nil]; rw [size2] at ho2; exact ho2
end Go.Proofs.YtnlfcoojlgdgaaaDoor
