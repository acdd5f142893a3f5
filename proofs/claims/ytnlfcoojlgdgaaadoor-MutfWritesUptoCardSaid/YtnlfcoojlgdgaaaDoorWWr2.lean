/- mutf.Writer's other functions, and caraferef1.Number and Text: what is written. -/
import Derived.Test.YtnlfcoojlgdgaaaDoorWWr
import Derived.Test.YtnlfcoojlgdgaaaDoorGXW7
namespace Go.Proofs.YtnlfcoojlgdgaaaDoor
open GX
set_option maxHeartbeats 8000000
theorem WrF.fr {S S' T : St} {p : Nat} {vb vb' v : AV} {k k' : Nat} (a : WrF S S' p vb vb' k) (b : Fr S' T v k') (h1 : ∀ c, blkOf v = some c → blkOf vb = some c ∨ S.n ≤ c) : WrF S T p vb vb' (k + k') := by
  refine ⟨Nat.le_trans a.le b.le, by have := a.n; have := b.n; omega, b.ok, fun c g1 g2 g3 => ?_, a.bk⟩
  have := a.le
  rw [b.same c (fun h => by rcases h1 c h with g | g; exact g2 g; omega) (by omega), a.same c g1 g2 g3]
theorem Wr.keep {S S' : St} {p : Nat} {vb : AV} {l : List Nat} (h : Wr S p vb l) (hp : S'.h.get p = S.h.get p) (hb : ∀ c, blkOf vb = some c → S'.h.get c = S.h.get c) : Wr S' p vb l :=
  ⟨by rw [hp]; exact h.at_, h.ow.keep hb, h.ne⟩
theorem Wr.fr {S S' : St} {p : Nat} {vb : AV} {l : List Nat} {k : Nat} (h : Wr S p vb l) (hok : Sok S) (a : Fr S S' .nils k) : Wr S' p vb l :=
  h.keep (a.same p (by simp [blkOf]) (hok _ _ h.at_)) (fun c hc => a.same c (by simp [blkOf]) (h.ow.lt hok hc))
theorem wbytes_runs {S : St} {p : Nat} {vb v : AV} {l b : List Nat} (hok : Sok S) (hw : Wr S p vb l) (hv : Rd S v 1 (sbytes b) b.length) (hl : l.length ≤ 1000000000) (hb : b.length ≤ 1000000000) (hn : S.n + 1 ≤ 1000000000) :
    Runs X1 21 [.ptr p 0, v] S fun _ S' => ∃ vb', Wr S' p vb' (l ++ b) ∧ WrF S S' p vb vb' 1 := by
  have hp : p < S.n := hok _ _ hw.at_
  refine Runs_fn (m := 13) (by kernel_rfl) Tryd.func21 rfl (by kernel_rfl) (by kernel_rfl) ?_
  repeat (
    first
      | refine W_region ?_
      | refine WO_dst rfl rfl (by kernel_rfl) (by kernel_rfl) ?_
      | refine Ev_load rfl rfl rfl hw.at_ rfl hw.ow.rd.self ?_
      | refine Ev_move rfl ?_
      | refine Ev_nilCheck rfl ?_
      | refine Ev_fieldAddr rfl rfl rfl rfl rfl rfl ?_)
  refine Ev_append rfl rfl rfl rfl rfl rfl rfl rfl rfl rfl hw.ow hv (by first | exact sbytes_one b | (unfold sbytes; simp [AV.one])) hok (by omega) (by dsimp only; omega) (by omega) ?_
  intro v2 S2 hle2 hn2 hok2 hown2 hf2 hb2
  have hp2 : S2.h.get p = some (.cells 79 [vb] false) := by rw [hf2 p hw.ne (by omega), hw.at_]
  repeat (
    first
      | refine WO_dst rfl rfl (by kernel_rfl) (by kernel_rfl) ?_
      | refine WO_no rfl rfl ?_
      | refine Ev_nilCheck rfl ?_
      | refine Ev_fieldAddr rfl rfl rfl rfl rfl rfl ?_)
  refine Ev_store_sl rfl rfl hown2.rd.sl rfl rfl hp2 (by simp) (by omega) ?_
  intro S3 hn3 hp3 hf3
  repeat (
    refine WO_nil ?_)
  refine V_done rfl rfl ?_
  have hne : blkOf v2 ≠ some p := by intro h; rcases hb2 _ h with g | g; exact hw.ne g; omega
  refine ⟨v2, ⟨hp3, ?_, hne⟩, ⟨by omega, by omega, Sok.upd hok2 (by omega) hn3 hp3 hf3, fun c h1 h2 h3 => by rw [hf3 c h1, hf2 c h2 (by omega)], hb2⟩⟩
  have h4 : Own S3 v2 5 1 (sbytes l ++ sbytes b) (l.length + b.length) := hown2.keep fun c hc => hf3 c (fun h => by subst h; exact hne hc)
  exact h4.eq (sbytes_app _ _).symm (by simp)
/-- a copy of a slice -/
theorem clone_runs {S : St} {v : AV} {b : List Nat} (hok : Sok S) (hv : Rd S v 1 (sbytes b) b.length) (hb : b.length ≤ 1000000000) (hn : S.n + 2 ≤ 1000000000) :
    Runs X1 51 [v] S fun r S' => Fr S S' .nils 2 ∧ Gz S' r 5 1 (sbytes b) b.length ∧ ∀ c, blkOf r = some c → S.n ≤ c := by
  refine Runs_fn (m := 8) (by kernel_rfl) Tryd.func51 rfl (by kernel_rfl) (by kernel_rfl) ?_
  repeat (
    first
      | refine W_seq ?_
      | refine WO_nil ?_
      | refine V_seq ?_
      | refine W_region ?_
      | refine WO_dst rfl rfl (by kernel_rfl) (by kernel_rfl) ?_
      | refine Ev_move rfl ?_
      | refine Ev_assign rfl ?_)
  refine Ev_eq_nils rfl rfl rfl rfl hv ?_
  intro q hq
  repeat (
    first
      | refine WO_nil ?_
      | refine V_seq ?_)
  refine W_condb rfl (fun hc => ?_) (fun hc => ?_)
  · have h0 := hq hc
    repeat (
      first
        | refine W_seq ?_
        | refine WO_nil ?_
        | refine V_seq ?_
        | refine W_region ?_
        | refine W_ret ?_
        | refine V_ret ?_
        | refine WO_dst rfl rfl (by kernel_rfl) (by kernel_rfl) ?_
        | refine Ev_assign rfl ?_)
    refine V_done rfl rfl ?_
    refine ⟨⟨Nat.le_refl _, by omega, hok, fun _ _ _ => rfl⟩, .inl (.inl ⟨rfl, h0.2, h0.1⟩), fun c hc => by cases hc⟩
  · repeat (
      first
        | refine W_seq ?_
        | refine V_seq ?_
        | refine W_region ?_
        | refine W_skip ?_
        | refine WO_dst rfl rfl (by kernel_rfl) (by kernel_rfl) ?_)
    refine Ev_buildSlice rfl rfl rfl rfl rfl rfl hok (by omega) ?_
    intro S1 hn1 hok1 hq1 hf1
    have hv1 := hv.keep (fun c h => hf1 c (hv.lt hok h))
    repeat (
      first
        | refine WO_dst rfl rfl (by kernel_rfl) (by kernel_rfl) ?_
        | refine Ev_move rfl ?_)
    refine Ev_append_gz (cs := []) (m := 0) rfl rfl rfl rfl rfl rfl rfl rfl rfl rfl (.inr ⟨rfl, rfl, S.n, 0, rfl, Rd_lit hq1 rfl (by kernel_rfl)⟩) hv1 (by first | exact sbytes_one b | (unfold sbytes; simp [AV.one])) hok1 (by omega) (by dsimp only; omega) (by omega) ?_
    intro v2 S2 hle2 hn2 hok2 hown2 hf2 hb2
    repeat (
      first
        | refine WO_nil ?_
        | refine V_seq ?_
        | refine W_ret ?_
        | refine WO_dst rfl rfl (by kernel_rfl) (by kernel_rfl) ?_
        | refine Ev_assign rfl ?_)
    refine V_done rfl rfl ?_
    refine ⟨⟨by omega, by omega, hok2, fun c _ h => by rw [hf2 c (fun h => by cases h; omega) (by omega), hf1 c h]⟩, hown2.eq rfl (by omega), fun c hc => ?_⟩
    rcases hb2 c hc with h | h
    · cases h; exact Nat.le_refl _
    · omega
theorem done_runs {S : St} {p : Nat} {vb : AV} {l : List Nat} (hok : Sok S) (hw : Wr S p vb l) (hl : l.length ≤ 1000000000) (hn : S.n + 2 ≤ 1000000000) :
    Runs X1 22 [.ptr p 0] S fun r S' => Fr S S' .nils 2 ∧ Gz S' r 5 1 (sbytes l) l.length ∧ ∀ c, blkOf r = some c → S.n ≤ c := by
  refine Runs_fn (m := 8) (by kernel_rfl) Tryd.func22 rfl (by kernel_rfl) (by kernel_rfl) ?_
  repeat (
    first
      | refine W_seq ?_
      | refine WO_nil ?_
      | refine V_seq ?_
      | refine W_region ?_
      | refine WO_dst rfl rfl (by kernel_rfl) (by kernel_rfl) ?_
      | refine Ev_load rfl rfl rfl hw.at_ rfl hw.ow.rd.self ?_
      | refine Ev_move rfl ?_
      | refine Ev_assign rfl ?_
      | refine Ev_nilCheck rfl ?_
      | refine Ev_fieldAddr rfl rfl rfl rfl rfl rfl ?_)
  refine Ev_call rfl rfl ((clone_runs hok hw.ow.rd hl hn).mono ?_)
  rintro v S' - ⟨h1, h2, h3⟩
  repeat (
    first
      | refine WO_nil ?_
      | refine V_seq ?_
      | refine W_ret ?_
      | refine WO_dst rfl rfl (by kernel_rfl) (by kernel_rfl) ?_
      | refine Ev_assign rfl ?_)
  refine V_done rfl rfl ?_
  exact ⟨h1, h2, h3⟩
theorem new_runs {S : St} (hok : Sok S) (hn : S.n + 1 ≤ 1000000000) :
    Runs X1 16 [] S fun r S' => r = .ptr S.n 0 ∧ S'.n = S.n + 1 ∧ Sok S' ∧ (∀ c, c < S.n → S'.h.get c = S.h.get c) ∧ Wr S' S.n .nils [] := by
  refine Runs_fn (m := 3) (by kernel_rfl) Tryd.func16 rfl (by kernel_rfl) (by kernel_rfl) ?_
  repeat (
    first
      | refine W_seq ?_
      | refine WO_nil ?_
      | refine V_seq ?_
      | refine W_region ?_
      | refine WO_dst rfl rfl (by kernel_rfl) (by kernel_rfl) ?_
      | refine Ev_assign rfl ?_)
  refine Ev_build (v := .agg [.nils]) rfl rfl ?_
  repeat (
    refine WO_dst rfl rfl (by kernel_rfl) (by kernel_rfl) ?_)
  refine Ev_box rfl hok (by omega) ?_
  intro S1 hn1 hok1 hq1 hf1
  repeat (
    first
      | refine WO_nil ?_
      | refine V_seq ?_
      | refine W_ret ?_
      | refine WO_dst rfl rfl (by kernel_rfl) (by kernel_rfl) ?_
      | refine Ev_assign rfl ?_)
  refine V_done rfl rfl ?_
  exact ⟨rfl, hn1, hok1, hf1, ⟨hq1, .inl ⟨rfl, rfl, rfl⟩, by intro h; cases h⟩⟩
/-- what is written of a string -/
noncomputable def textB (s : List Nat) : List Nat := if vS s = true ∧ (encS s).length ≤ 256 then encS s else []
noncomputable def textL (s : List Nat) : List Nat := numL ((textB s).length : Int) 2 ++ textB s
theorem textB_len (s : List Nat) : (textB s).length ≤ 256 := by unfold textB; split <;> simp_all
theorem size2 : sizeN 2 = 2 := by decide
theorem wtext_runs {S : St} {p : Nat} {vb : AV} {l s : List Nat} (hok : Sok S) (hw : Wr S p vb l) (hs : s.length ≤ 100000000) (hl : l.length ≤ 900000000) (hn : S.n + (4 * s.length + 18) ≤ 1000000000) :
    Runs X1 19 [.ptr p 0, .str s] S fun _ S' => ∃ vb', Wr S' p vb' (l ++ textL s) ∧ WrF S S' p vb vb' (4 * s.length + 18) := by
  have hp : p < S.n := hok _ _ hw.at_
  refine Runs_fn (m := 25) (by kernel_rfl) Tryd.func19 rfl (by kernel_rfl) (by kernel_rfl) ?_
  repeat (
    first
      | refine W_seq ?_
      | refine W_region ?_
      | refine WO_dst rfl rfl (by kernel_rfl) (by kernel_rfl) ?_
      | refine Ev_move rfl ?_)
  refine Ev_call rfl rfl ((enc_runs hok hs (by omega)).mono ?_)
  rintro _ S1 - ⟨hfr, vx, rfl, hx, hbx⟩
  have hw1 := hw.fr hok hfr
  have hF1 := (WrF.refl hok).fr (p := p) (vb := vb) (vb' := vb) hfr (fun c h => by cases h)
  have hn1 := hfr.n
  have hl1 := hfr.le
  by_cases hv : vS s = true
  · rw [if_pos hv] at hx ⊢
    repeat' (
      first
        | refine W_seq ?_
        | refine WO_nil ?_
        | refine V_seq ?_
        | refine W_region ?_
        | refine W_skip ?_
        | refine WO_dst rfl rfl (by kernel_rfl) (by kernel_rfl) ?_
        | refine WO_guard_t rfl rfl rfl rfl rfl (by kernel_rfl) (by kernel_rfl) ?_
        | refine Ev_len rfl rfl rfl rfl rfl hx.rd.len ?_
        | refine Ev_move rfl ?_
        | refine Ev_assign rfl ?_
        | refine Ev_extract rfl rfl ?_
        | refine Ev_pick_f rfl rfl rfl ?_
        | refine Ev_gtrN rfl rfl ?_
        | refine Ev_neqN rfl rfl ?_
        | refine Ev_len rfl rfl rfl rfl rfl rfl ?_
        | (refine W_cond rfl (fun hc => ?_) (fun hc => ?_) <;> (try dsimp only at hc) <;> try (exfalso; first | omega | exact hc rfl)))
    · have htb : textB s = [] := by unfold textB; rw [if_neg (fun h => by have := h.2; omega)]
      refine Ev_call rfl rfl ((number_runs hF1.ok hw1 (by omega) (by omega)).mono ?_)
      rintro _ S2 - ⟨vb2, hw2, hF2⟩
      have hn2 := hF2.n
      have hl2 := hF2.le
      have hrd : Rd S2 .nils 1 (sbytes []) ([] : List Nat).length := ⟨rfl, rfl, rfl, rfl, rfl, rfl⟩
      have hbl : ([] : List Nat).length ≤ 256 := by simp
      repeat (
        first
          | refine WO_nil ?_
          | refine V_seq ?_
          | refine W_region ?_
          | refine WO_dst rfl rfl (by kernel_rfl) (by kernel_rfl) ?_
          | refine Ev_move rfl ?_)
      refine Ev_call rfl rfl ((wbytes_runs hF2.ok hw2 hrd (by simp only [List.length_append, numL_len, size2]; omega) (by omega) (by omega)).mono ?_)
      rintro _ S3 - ⟨vb3, hw3, hF3⟩
      repeat (
        refine WO_nil ?_)
      refine V_done rfl rfl ?_
      refine ⟨vb3, ?_, ?_⟩
      · unfold textL; rw [htb, ← List.append_assoc]; rw [size2] at hw3; exact hw3
      · have h9 := (hF1.trans hF2).trans hF3
        exact ⟨h9.le, by have := h9.n; omega, h9.ok, h9.same, h9.bk⟩
    · have htb : textB s = (encS s) := by unfold textB; rw [if_pos ⟨hv, by omega⟩]
      refine Ev_call rfl rfl ((number_runs hF1.ok hw1 (by omega) (by omega)).mono ?_)
      rintro _ S2 - ⟨vb2, hw2, hF2⟩
      have hn2 := hF2.n
      have hl2 := hF2.le
      have hrd : Rd S2 vx 1 (sbytes (encS s)) ((encS s) : List Nat).length := hx.rd.keep fun c h => by
        have h5 := hbx c h
        have h6 := hx.lt hfr.ok h
        exact hF2.same c (by omega) (fun h7 => by have := hw.ow.lt hok h7; omega) h6
      have hbl : ((encS s) : List Nat).length ≤ 256 := by omega
      repeat (
        first
          | refine WO_nil ?_
          | refine V_seq ?_
          | refine W_region ?_
          | refine WO_dst rfl rfl (by kernel_rfl) (by kernel_rfl) ?_
          | refine Ev_move rfl ?_)
      refine Ev_call rfl rfl ((wbytes_runs hF2.ok hw2 hrd (by simp only [List.length_append, numL_len, size2]; omega) (by omega) (by omega)).mono ?_)
      rintro _ S3 - ⟨vb3, hw3, hF3⟩
      repeat (
        refine WO_nil ?_)
      refine V_done rfl rfl ?_
      refine ⟨vb3, ?_, ?_⟩
      · unfold textL; rw [htb, ← List.append_assoc]; rw [size2] at hw3; exact hw3
      · have h9 := (hF1.trans hF2).trans hF3
        exact ⟨h9.le, by have := h9.n; omega, h9.ok, h9.same, h9.bk⟩
  · rw [if_neg hv] at hx ⊢
    repeat' (
      first
        | refine W_seq ?_
        | refine WO_nil ?_
        | refine V_seq ?_
        | refine W_region ?_
        | refine W_cond_t rfl ?_
        | refine WO_dst rfl rfl (by kernel_rfl) (by kernel_rfl) ?_
        | refine WO_guard_f rfl rfl rfl rfl rfl rfl (by kernel_rfl) (by kernel_rfl) ?_
        | refine Ev_move rfl ?_
        | refine Ev_assign rfl ?_
        | refine Ev_extract rfl rfl ?_
        | refine Ev_pick_t rfl rfl rfl ?_
        | refine Ev_neqN rfl rfl ?_
        | refine Ev_len rfl rfl rfl rfl rfl rfl ?_)
    have htb : textB s = [] := by unfold textB; rw [if_neg (fun h => hv h.1)]
    refine Ev_call rfl rfl ((number_runs hF1.ok hw1 (by omega) (by omega)).mono ?_)
    rintro _ S2 - ⟨vb2, hw2, hF2⟩
    have hn2 := hF2.n
    have hl2 := hF2.le
    have hrd : Rd S2 .nils 1 (sbytes []) ([] : List Nat).length := ⟨rfl, rfl, rfl, rfl, rfl, rfl⟩
    have hbl : ([] : List Nat).length ≤ 256 := by simp
    repeat (
      first
        | refine WO_nil ?_
        | refine V_seq ?_
        | refine W_region ?_
        | refine WO_dst rfl rfl (by kernel_rfl) (by kernel_rfl) ?_
        | refine Ev_move rfl ?_)
    refine Ev_call rfl rfl ((wbytes_runs hF2.ok hw2 hrd (by simp only [List.length_append, numL_len, size2]; omega) (by omega) (by omega)).mono ?_)
    rintro _ S3 - ⟨vb3, hw3, hF3⟩
    repeat (
      refine WO_nil ?_)
    refine V_done rfl rfl ?_
    refine ⟨vb3, ?_, ?_⟩
    · unfold textL; rw [htb, ← List.append_assoc]; rw [size2] at hw3; exact hw3
    · have h9 := (hF1.trans hF2).trans hF3
      exact ⟨h9.le, by have := h9.n; omega, h9.ok, h9.same, h9.bk⟩
end Go.Proofs.YtnlfcoojlgdgaaaDoor
