/- caraferef1: valid, three, Encode. -/
import Derived.Test.YtnlfcoojlgdgaaaDoorWThy
import Derived.Test.YtnlfcoojlgdgaaaDoorWEnc
namespace Go.Proofs.YtnlfcoojlgdgaaaDoor
open GX
set_option maxHeartbeats 8000000
/-- what begins with a rune -/
theorem rune_dec {x : List Nat} (hne : x ≠ []) (h : ∀ b ∈ x, b < 256) (hv : ¬ ((decodeR x).1 = 65533 ∧ (decodeR x).2 = 1)) : x = runeL (decodeR x).1 ++ x.drop (decodeR x).2 := by
  cases x with
  | nil => exact absurd rfl hne
  | cons a t =>
    have ha : a < 256 := h a (by simp)
    unfold decodeR at hv ⊢
    dsimp only at hv ⊢
    by_cases h1 : a < 128
    · rw [if_pos h1] at hv ⊢
      unfold runeL
      rw [if_pos (by omega)]; rfl
    · rw [if_neg h1] at hv ⊢
      by_cases h2 : (a / 32 == 6 && t.getD 0 0 / 64 == 2) = true
      · rw [if_pos h2] at hv ⊢
        by_cases h3 : a % 32 * 64 + t.getD 0 0 % 64 ≥ 128
        · rw [if_pos h3] at hv ⊢
          cases t with
          | nil => simp at h2
          | cons b t =>
            simp only [List.getD_cons_zero, Bool.and_eq_true, beq_iff_eq] at h2 h3 ⊢
            unfold runeL
            rw [if_neg (by omega), if_pos (by omega)]
            simp
            omega
        · rw [if_neg h3] at hv; exact absurd ⟨rfl, rfl⟩ hv
      · rw [if_neg h2] at hv ⊢
        by_cases h4 : (a / 16 == 14 && t.getD 0 0 / 64 == 2 && t.getD 1 0 / 64 == 2) = true
        · rw [if_pos h4] at hv ⊢
          obtain ⟨z, hz⟩ : ∃ z, z = a % 16 * 4096 + t.getD 0 0 % 64 * 64 + t.getD 1 0 % 64 := ⟨_, rfl⟩
          rw [← hz] at hv ⊢
          by_cases h5 : (decide (z ≥ 2048) && Utf8.valid ((z : Nat) : Int)) = true
          · rw [if_pos h5] at hv ⊢
            simp only [Bool.and_eq_true, decide_eq_true_eq] at h5
            have ht : ∃ b c t', t = b :: c :: t' := by
              clear hz
              match t, h4 with
              | [], h4 => simp at h4
              | [b], h4 => simp at h4
              | b :: c :: t, _ => exact ⟨b, c, t, rfl⟩
            obtain ⟨b, c, t, rfl⟩ := ht
            simp only [List.getD_cons_zero, List.getD_cons_succ, Bool.and_eq_true, beq_iff_eq] at h4 hz ⊢
            unfold runeL
            rw [if_neg (by omega), if_neg (by omega), if_pos (by omega)]
            simp
            omega
          · rw [if_neg h5] at hv; exact absurd ⟨rfl, rfl⟩ hv
        · rw [if_neg h4] at hv ⊢
          by_cases h6 : (a / 8 == 30 && t.getD 0 0 / 64 == 2 && t.getD 1 0 / 64 == 2 && t.getD 2 0 / 64 == 2) = true
          · rw [if_pos h6] at hv ⊢
            obtain ⟨z, hz⟩ : ∃ z, z = a % 8 * 262144 + t.getD 0 0 % 64 * 4096 + t.getD 1 0 % 64 * 64 + t.getD 2 0 % 64 := ⟨_, rfl⟩
            rw [← hz] at hv ⊢
            by_cases h7 : (decide (z ≥ 65536) && Utf8.valid ((z : Nat) : Int)) = true
            · rw [if_pos h7] at hv ⊢
              simp only [Bool.and_eq_true, decide_eq_true_eq] at h7
              have hz2 : Utf8.valid ((z : Nat) : Int) = true := h7.2
              have ht : ∃ b c d t', t = b :: c :: d :: t' := by
                clear hz
                match t, h6 with
                | [], h6 => simp at h6
                | [b], h6 => simp at h6
                | [b, c], h6 => simp at h6
                | b :: c :: d :: t, _ => exact ⟨b, c, d, t, rfl⟩
              obtain ⟨b, c, d, t, rfl⟩ := ht
              simp only [List.getD_cons_zero, List.getD_cons_succ, Bool.and_eq_true, beq_iff_eq] at h6 hz ⊢
              unfold runeL
              rw [if_neg (by omega), if_neg (by omega), if_neg (by omega)]
              simp
              omega
            · rw [if_neg h7] at hv; exact absurd ⟨rfl, rfl⟩ hv
          · rw [if_neg h6] at hv; exact absurd ⟨rfl, rfl⟩ hv
theorem norm_of_valid : ∀ (n : Nat) {x : List Nat}, x.length ≤ n → (∀ b ∈ x, b < 256) → vS x = true → normS x = x
  | n, x, hn, hb, hv => by
    by_cases h0 : x = []
    · subst h0; unfold normS; rw [runesS_nil]; rfl
    · have hl : 0 < x.length := List.length_pos_iff.2 h0
      cases n with
      | zero => omega
      | succ n =>
        rw [vS_step hb h0] at hv
        split at hv
        · cases hv
        · rename_i h1
          have hx := rune_dec h0 hb h1
          have hp := dec_pos x
          have ih := norm_of_valid n (x := x.drop (decodeR x).2) (by rw [List.length_drop]; omega) (fun b h => hb b (List.mem_of_mem_drop h)) hv
          unfold normS at ih ⊢
          rw [runesS_ne h0]
          show runeL (decodeR x).1 ++ txt (runesS (x.drop (decodeR x).2)) = x
          rw [ih, ← hx]
theorem vS_iff {x : List Nat} (hb : ∀ b ∈ x, b < 256) : vS x = decide (normS x = x) := by
  by_cases h : vS x = true
  · rw [h, decide_eq_true (norm_of_valid _ (Nat.le_refl _) hb h)]
  · have h2 : ¬ normS x = x := fun h2 => h (by rw [← h2]; exact vS_norm x)
    rw [decide_eq_false h2]; simpa using h
theorem runes_rd {S : St} {s : List Nat} {q el : Nat} (h : S.h.get q = some (.cells el (runesFrom s.length s) true)) : Rd S (.slice q 0 (runesFrom s.length s).length (.op 1)) 1 (runesFrom s.length s) (runesFrom s.length s).length :=
  Rd_lit h (by rw [Nat.mul_one]) rfl
theorem runes_of (s : List Nat) : runesOf (runesFrom s.length s) = some (normS s) := by
  rw [runesFrom_eq (Nat.le_refl _), runesOf_eq runesS_ok]; rfl
theorem rvalid_runs {S : St} {s : List Nat} (hok : Sok S) (hn : S.n < 1000000000) (hb : ∀ b ∈ s, b < 256) : Runs X1 44 [.str s] S fun r S' => r = .bool (vS s) ∧ Fr S S' .nils 1 := by
  refine Runs_fn (m := 8) (by kernel_rfl) Tryd.func44 rfl (by kernel_rfl) (by kernel_rfl) ?_
  repeat (
    first
      | refine W_seq ?_
      | refine WO_nil ?_
      | refine V_seq ?_
      | refine W_region ?_
      | refine WO_dst rfl rfl (by kernel_rfl) (by kernel_rfl) ?_
      | refine Ev_move rfl ?_
      | refine Ev_assign rfl ?_)
  refine Ev_conv_runes rfl rfl rfl rfl rfl rfl rfl rfl hok (by omega) ?_
  intro S1 hn1 hok1 hq1 hf1
  repeat (
    refine WO_dst rfl rfl (by kernel_rfl) (by kernel_rfl) ?_)
  refine Ev_conv_to_str_r rfl rfl rfl rfl rfl rfl rfl (runes_rd hq1) (runes_of s) ?_
  repeat (
    first
      | refine WO_nil ?_
      | refine V_seq ?_
      | refine W_ret ?_
      | refine WO_dst rfl rfl (by kernel_rfl) (by kernel_rfl) ?_
      | refine Ev_move rfl ?_
      | refine Ev_assign rfl ?_
      | refine Ev_seql rfl rfl ?_)
  refine V_done rfl rfl ?_
  exact ⟨by rw [vS_iff hb]; rfl, by omega, by omega, hok1, fun c _ h => hf1 c h⟩
def three (n : Nat) : List Nat := [224 + n / 4096, 128 + n / 64 % 64, 128 + n % 64]
theorem three_runs {S : St} {n : Nat} (hok : Sok S) (hn : S.n < 1000000000) (hl : n < 65536) : Runs X1 45 [.int .i64 (n : Int)] S fun r S' => Fr S S' .nils 1 ∧ Rd S' r 1 (sbytes (three n)) 3 ∧ ∀ b, blkOf r = some b → S.n ≤ b := by
  refine Runs_fn (m := 17) (by kernel_rfl) Tryd.func45 rfl (by kernel_rfl) (by kernel_rfl) ?_
  repeat (
    first
      | refine W_seq ?_
      | refine WO_nil ?_
      | refine V_seq ?_
      | refine W_region ?_
      | refine WO_dst rfl rfl (by kernel_rfl) (by kernel_rfl) ?_
      | refine Ev_move rfl ?_
      | refine Ev_assign rfl ?_
      | refine Ev_shrN (m := 6) (q := 64) rfl rfl rfl rfl ?_
      | refine Ev_shrN (m := 12) (q := 4096) rfl rfl rfl rfl ?_
      | refine Ev_andN 6 64 rfl rfl rfl rfl (by simp only [lim]; omega) (by simp only [lim]; omega) ?_
      | refine Ev_orN 4 rfl rfl rfl (by first | omega | (dsimp only; done) | (dsimp only; omega)) (by first | omega | (dsimp only; done) | (dsimp only; omega)) (by simp only [lim]; omega) ?_
      | refine Ev_orN 6 rfl rfl rfl (by first | omega | (dsimp only; done) | (dsimp only; omega)) (by first | omega | (dsimp only; done) | (dsimp only; omega)) (by simp only [lim]; omega) ?_
      | refine Ev_convN rfl rfl rfl rfl rfl (by simp only [lim]; omega) ?_)
  refine Ev_buildSlice rfl rfl rfl rfl rfl rfl hok (by omega) ?_
  intro S1 hn1 hok1 hq1 hf1
  repeat (
    first
      | refine WO_nil ?_
      | refine V_seq ?_
      | refine W_ret ?_
      | refine WO_dst rfl rfl (by kernel_rfl) (by kernel_rfl) ?_
      | refine Ev_assign rfl ?_)
  refine V_done rfl rfl ?_
  refine ⟨⟨by omega, by omega, hok1, fun c _ h => hf1 c h⟩, ?_, fun b h => by cases h; exact Nat.le_refl _⟩
  refine (Rd_lit hq1 rfl (by kernel_rfl)).eq ?_ rfl
  simp [sbytes, three, lput, rep, AV.cells]
structure REncR (S0 : St) (s : List Nat) (r : AV) (S' : St) : Prop where
  fr : Fr S0 S' .nils (4 * s.length + 2)
  out : ∃ v, r = .tup [v, .int .i64 (if vS s = true then 0 else 12)] ∧ Ow S' v (if vS s = true then encS s else []) ∧ ∀ c, blkOf v = some c → S0.n ≤ c
theorem three_unit {n : Nat} (h : 2048 ≤ n) : three n = unitL n := by unfold three unitL; rw [if_neg (by omega), if_neg (by omega)]
structure REncI (S : St) (q : Nat) (s : List Nat) (a : Nat × AV × List Nat) (T : St) : Prop where
  le : a.1 ≤ s.length
  ok : Sok T
  it : T.h.get q = some (.sit s a.1)
  ow : Ow T a.2.1 a.2.2
  eq : a.2.2 ++ encS (s.drop a.1) = encS s
  len : a.2.2.length ≤ 6 * a.1
  lt : q < T.n
  n : T.n + 4 * (s.length - a.1) ≤ S.n + (4 * s.length + 2)
  fr : ∀ c, c < S.n → T.h.get c = S.h.get c
  bk : ∀ c, blkOf a.2.1 = some c → q < c
theorem renc_runs {S : St} {s : List Nat} (hok : Sok S) (hb : ∀ b ∈ s, b < 256) (hl : s.length ≤ 100000000) (hn : S.n + (4 * s.length + 2) ≤ 1000000000) : Runs X1 12 [.str s] S (REncR S s) := by
  refine Runs_fn (m := 66) (by kernel_rfl) Tryd.func12 rfl (by kernel_rfl) (by kernel_rfl) ?_
  repeat (
    first
      | refine W_seq ?_
      | refine WO_nil ?_
      | refine V_seq ?_
      | refine W_region ?_
      | refine WO_dst rfl rfl (by kernel_rfl) (by kernel_rfl) ?_
      | refine Ev_move rfl ?_
      | refine Ev_assign rfl ?_)
  refine Ev_call rfl rfl ((rvalid_runs hok (by omega) hb).mono ?_)
  rintro _ S0 - ⟨rfl, hle0, hn0, hok0, hf0⟩
  repeat (
    first
      | refine WO_nil ?_
      | refine V_seq ?_
      | refine WO_dst rfl rfl (by kernel_rfl) (by kernel_rfl) ?_
      | refine Ev_notb rfl ?_)
  refine W_condb rfl (fun hc => ?_) (fun hc => ?_)
  · have hv : vS s = false := by simpa using hc
    repeat (
      first
        | refine W_seq ?_
        | refine WO_nil ?_
        | refine V_seq ?_
        | refine W_region ?_
        | refine W_ret ?_
        | refine V_ret ?_
        | refine WO_dst rfl rfl (by kernel_rfl) (by kernel_rfl) ?_
        | refine Ev_assign rfl ?_)
    refine V_done rfl rfl ?_
    exact ⟨⟨by omega, by omega, hok0, fun c h1 h2 => hf0 c h1 h2⟩, .nils, by rw [hv]; rfl, by rw [hv]; exact .inl ⟨rfl, rfl, rfl⟩, fun c hc => by cases hc⟩
  · have hv : vS s = true := by simpa using hc
    repeat (
      first
        | refine W_seq ?_
        | refine WO_nil ?_
        | refine V_seq ?_
        | refine W_region ?_
        | refine W_skip ?_
        | refine WO_dst rfl rfl (by kernel_rfl) (by kernel_rfl) ?_
        | refine Ev_move rfl ?_
        | refine Ev_assign rfl ?_)
    refine Ev_range rfl rfl rfl hok0 (by omega) ?_
    intro S1 hn1 hok1 hq1 hf1
    have hfS : ∀ c, c < S.n → S1.h.get c = S.h.get c := fun c h => by rw [hf1 c (by omega), hf0 c (by simp [blkOf]) h]
    repeat (
      first
        | refine WO_nil ?_
        | refine V_seq ?_
        | refine W_block ?_)
    refine W_inv (fun a : Nat × AV × List Nat => [(12, .ptr S0.n 0), (4, a.2.1)]) (REncI S S0.n s) (fun a => s.length - a.1) ?_ (0, .nils, []) ?_ ⟨rfl, rfl, trivial⟩
    · rintro ⟨pos, v, l⟩ T ⟨hle, hokT, hit, how, heq, hlen, hlt, hnT, hfr, hbk⟩ back
      dsimp only at hle hit how heq hlen hnT hbk back
      repeat (
        first
          | refine W_seq ?_
          | refine W_region ?_
          | refine WO_dst rfl rfl (by kernel_rfl) (by kernel_rfl) ?_)
      by_cases hd : s.drop pos = []
      · refine Ev_next_end rfl hit hd ?_
        repeat (
          first
            | refine W_seq ?_
            | refine WO_nil ?_
            | refine V_seq ?_
            | refine W_region ?_
            | refine W_ret ?_
            | refine W_exit ?_
            | refine V_block_x rfl ?_
            | refine V_seq_x ?_
            | refine V_loop_x ?_
            | refine W_cond_f rfl ?_
            | refine WO_dst rfl rfl (by kernel_rfl) (by kernel_rfl) ?_
            | refine Ev_move rfl ?_
            | refine Ev_assign rfl ?_
            | refine Ev_extract rfl rfl ?_)
        refine V_done rfl rfl ?_
        refine ⟨⟨by omega, by omega, hokT, fun c _ h => hfr c h⟩, v, by rw [hv]; rfl, ?_, fun c hc => by have := hbk c hc; omega⟩
        rw [if_pos hv, ← heq, hd, encS_nil, List.append_nil]; exact how
      · obtain ⟨c, w, hcw⟩ : ∃ c w, decodeR (s.drop pos) = (c, w) := ⟨_, _, rfl⟩
        have hc : c < 1114112 := by have := dec_lt (s.drop pos); rw [hcw] at this; exact this
        have hwl : pos + w ≤ s.length := by have := dec_le hd; rw [hcw, List.length_drop] at this; dsimp only at this; omega
        have hw : 1 ≤ w := by have := dec_pos (s.drop pos); rw [hcw] at this; exact this
        have heq' : l ++ (enc1 c ++ encS (s.drop (pos + w))) = encS s := by
          rw [← heq, encS_ne hd, hcw, List.drop_drop]
        refine Ev_next rfl hit hd hcw (by omega) ?_
        intro T1 hn1 hit1 hf1
        have hok1 : Sok T1 := by
          intro b x hb
          rw [hn1]
          by_cases h : b = S0.n
          · omega
          · rw [hf1 b h] at hb; exact hokT b x hb
        have how1 : Ow T1 v l := how.keep fun b hb => hf1 b (by have := hbk b hb; omega)
        have hfrq : ∀ b, b < S.n → T1.h.get b = S.h.get b := fun b h => by rw [hf1 b (by omega)]; exact hfr b h
        have h6 := enc1_len c
        -- what is appended, and back
        have hI : ∀ (v3 : AV) (T3 : St), Sok T3 → Ow T3 v3 (l ++ enc1 c) → T1.n ≤ T3.n → T3.n ≤ T1.n + 4 → (∀ b, blkOf v ≠ some b → b < T1.n → T3.h.get b = T1.h.get b) → (∀ b, blkOf v3 = some b → blkOf v = some b ∨ T1.n ≤ b) → REncI S S0.n s (pos + w, v3, l ++ enc1 c) T3 := by
          intro v3 T3 hok3 how3 hle3 hn3 hf3 hb3
          refine ⟨hwl, hok3, ?_, how3, ?_, ?_, by omega, by dsimp only; omega, ?_, ?_⟩
          · rw [hf3 _ (by intro h; have := hbk _ h; omega) (by omega)]; exact hit1
          · dsimp only; rw [List.append_assoc]; exact heq'
          · dsimp only; rw [List.length_append]; omega
          · intro b hb
            rw [hf3 _ (by intro h; have := hbk _ h; omega) (by omega)]; exact hfrq b hb
          · intro b hb
            rcases hb3 b hb with h | h
            · exact hbk b h
            · omega
        repeat' (
          first
            | refine W_seq ?_
            | refine WO_nil ?_
            | refine V_seq ?_
            | refine W_region ?_
            | refine W_block ?_
            | refine W_skip ?_
            | refine W_cond_t rfl ?_
            | refine W_cond_f rfl ?_
            | refine WO_dst rfl rfl (by kernel_rfl) (by kernel_rfl) ?_
            | refine WO_guard_t rfl rfl rfl rfl rfl (by kernel_rfl) (by kernel_rfl) ?_
            | refine WO_guard_f rfl rfl rfl rfl rfl rfl (by kernel_rfl) (by kernel_rfl) ?_
            | refine Ev_move rfl ?_
            | refine Ev_assign rfl ?_
            | refine Ev_extract rfl rfl ?_
            | refine Ev_pick_t rfl rfl rfl ?_
            | refine Ev_pick_f rfl rfl rfl ?_
            | refine Ev_lssN rfl rfl ?_
            | refine Ev_gtrN rfl rfl ?_
            | refine Ev_addN rfl rfl (by simp only [lim]; omega) ?_
            | refine Ev_subN rfl rfl (by simp only [lim]; omega) (by first | omega | (dsimp only; done) | (dsimp only; omega)) ?_
            | refine Ev_shrN (m := 6) (q := 64) rfl rfl rfl rfl ?_
            | refine Ev_shrN (m := 10) (q := 1024) rfl rfl rfl rfl ?_
            | refine Ev_andN 6 64 rfl rfl rfl rfl (by simp only [lim]; omega) (by simp only [lim]; omega) ?_
            | refine Ev_orN 4 rfl rfl rfl (by first | omega | (dsimp only; done) | (dsimp only; omega)) (by first | omega | (dsimp only; done) | (dsimp only; omega)) (by simp only [lim]; omega) ?_
            | refine Ev_orN 5 rfl rfl rfl (by first | omega | (dsimp only; done) | (dsimp only; omega)) (by first | omega | (dsimp only; done) | (dsimp only; omega)) (by simp only [lim]; omega) ?_
            | refine Ev_orN 6 rfl rfl rfl (by first | omega | (dsimp only; done) | (dsimp only; omega)) (by first | omega | (dsimp only; done) | (dsimp only; omega)) (by simp only [lim]; omega) ?_
            | refine Ev_convN rfl rfl rfl rfl rfl (by simp only [lim]; omega) ?_
            | (refine WO_guard_dt rfl rfl rfl rfl rfl (by kernel_rfl) (by kernel_rfl) (fun hg => ?_) (fun hg => ?_) <;> (try dsimp only at hg) <;> try (exfalso; first | omega | exact hg rfl))
            | (refine W_cond rfl (fun hc => ?_) (fun hc => ?_) <;> (try dsimp only at hc) <;> try (exfalso; first | omega | exact hc rfl)))
        · have he : enc1 c = [c] := by unfold enc1 unitL; rw [if_neg (by omega), if_pos (by omega)]
          refine Ev_buildSlice rfl rfl rfl rfl rfl rfl hok1 (by omega) ?_
          intro S2 hn2 hok2 hq2 hf2
          repeat (
            refine WO_dst rfl rfl (by kernel_rfl) (by kernel_rfl) ?_)
          refine Ev_append rfl rfl rfl rfl rfl rfl rfl rfl rfl rfl (how1.keep (fun b h => hf2 b (how1.lt hok1 h))) (Rd_lit hq2 rfl (by kernel_rfl)) rfl hok2 (by omega) (by dsimp only; omega) (by omega) ?_
          intro v3 T3 hle3 hn3 hok3 how3 hf3 hb3
          repeat (
            first
              | refine WO_nil ?_
              | refine V_block ?_
              | refine WO_dst rfl rfl (by kernel_rfl) (by kernel_rfl) ?_
              | refine Ev_assign rfl ?_)
          refine back (pos + w, v3, l ++ enc1 c) T3 _ (by dsimp only; omega) (hI v3 T3 hok3 (how3.eq (by rw [he, sbytes_app]; simp [sbytes, lput, rep, AV.cells]) (by rw [he, List.length_append]; rfl)) (by omega) (by omega) (fun b h1 h2 => by rw [hf3 b h1 (by omega), hf2 b h2]) (fun b h => (hb3 b h).imp id (fun h => by omega))) ⟨rfl, rfl, trivial⟩
        · have he : enc1 c = [192 + c / 64, 128 + c % 64] := by unfold enc1 unitL; rw [if_neg (by omega), if_neg (by omega), if_pos (by omega)]
          refine Ev_buildSlice rfl rfl rfl rfl rfl rfl hok1 (by omega) ?_
          intro S2 hn2 hok2 hq2 hf2
          repeat (
            refine WO_dst rfl rfl (by kernel_rfl) (by kernel_rfl) ?_)
          refine Ev_append rfl rfl rfl rfl rfl rfl rfl rfl rfl rfl (how1.keep (fun b h => hf2 b (how1.lt hok1 h))) (Rd_lit hq2 rfl (by kernel_rfl)) rfl hok2 (by omega) (by dsimp only; omega) (by omega) ?_
          intro v3 T3 hle3 hn3 hok3 how3 hf3 hb3
          repeat (
            first
              | refine WO_nil ?_
              | refine V_block ?_
              | refine WO_dst rfl rfl (by kernel_rfl) (by kernel_rfl) ?_
              | refine Ev_assign rfl ?_)
          refine back (pos + w, v3, l ++ enc1 c) T3 _ (by dsimp only; omega) (hI v3 T3 hok3 (how3.eq (by rw [he, sbytes_app]; simp [sbytes, lput, rep, AV.cells]) (by rw [he, List.length_append]; rfl)) (by omega) (by omega) (fun b h1 h2 => by rw [hf3 b h1 (by omega), hf2 b h2]) (fun b h => (hb3 b h).imp id (fun h => by omega))) ⟨rfl, rfl, trivial⟩
        · have he : enc1 c = three c := by rw [three_unit (by omega)]; unfold enc1; rw [if_neg (by omega)]
          refine Ev_call rfl rfl ((three_runs hok1 (by omega) (by omega)).mono ?_)
          rintro v2 S2 - ⟨⟨hle2, hn2, hok2, hf2⟩, hrd2, hb2⟩
          repeat (
            refine WO_dst rfl rfl (by kernel_rfl) (by kernel_rfl) ?_)
          refine Ev_append rfl rfl rfl rfl rfl rfl rfl rfl rfl rfl (how1.keep (fun b h => hf2 b (by simp [blkOf]) (how1.lt hok1 h))) hrd2 (sbytes_one _) hok2 (by omega) (by dsimp only; omega) (by omega) ?_
          intro v3 T3 hle3 hn3 hok3 how3 hf3 hb3
          repeat (
            first
              | refine WO_nil ?_
              | refine V_block ?_
              | refine WO_dst rfl rfl (by kernel_rfl) (by kernel_rfl) ?_
              | refine Ev_assign rfl ?_)
          refine back (pos + w, v3, l ++ enc1 c) T3 _ (by dsimp only; omega) (hI v3 T3 hok3 (how3.eq (by rw [he, sbytes_app]) (by rw [he, List.length_append]; rfl)) (by omega) (by omega) (fun b h1 h2 => by rw [hf3 b h1 (by omega), hf2 b (by simp [blkOf]) h2]) (fun b h => (hb3 b h).imp id (fun h => by omega))) ⟨rfl, rfl, trivial⟩
        · obtain ⟨A, hA⟩ : ∃ A, A = 55296 + (c - 65536) / 1024 := ⟨_, rfl⟩
          obtain ⟨B, hB⟩ : ∃ B, B = 56320 + (c - 65536) % 1024 := ⟨_, rfl⟩
          have he : enc1 c = three A ++ three B := by rw [three_unit (by omega), three_unit (by omega), hA, hB]; unfold enc1; rw [if_pos (by omega)]
          refine Ev_call rfl rfl ((three_runs hok1 (by omega) (by dsimp only; omega)).mono ?_)
          rintro v2 S2 - ⟨⟨hle2, hn2, hok2, hf2⟩, hrd2, hb2⟩
          repeat (
            refine WO_dst rfl rfl (by kernel_rfl) (by kernel_rfl) ?_)
          refine Ev_append rfl rfl rfl rfl rfl rfl rfl rfl rfl rfl (how1.keep (fun b h => hf2 b (by simp [blkOf]) (how1.lt hok1 h))) hrd2 (sbytes_one _) hok2 (by omega) (by dsimp only; omega) (by omega) ?_
          intro v3 T3 hle3 hn3 hok3 how3 hf3 hb3
          repeat (
            first
              | refine WO_nil ?_
              | refine V_seq ?_
              | refine W_region ?_
              | refine WO_dst rfl rfl (by kernel_rfl) (by kernel_rfl) ?_
              | refine Ev_move rfl ?_
              | refine Ev_assign rfl ?_
              | refine Ev_addN rfl rfl (by simp only [lim]; omega) ?_
              | refine Ev_subN rfl rfl (by simp only [lim]; omega) (by first | omega | (dsimp only; done) | (dsimp only; omega)) ?_
              | refine Ev_andN 10 1024 rfl rfl rfl rfl (by simp only [lim]; omega) (by simp only [lim]; omega) ?_)
          refine Ev_call rfl rfl ((three_runs hok3 (by omega) (by dsimp only; omega)).mono ?_)
          rintro v4 S4 - ⟨⟨hle4, hn4, hok4, hf4⟩, hrd4, hb4⟩
          repeat (
            refine WO_dst rfl rfl (by kernel_rfl) (by kernel_rfl) ?_)
          refine Ev_append rfl rfl rfl rfl rfl rfl rfl rfl rfl rfl (how3.keep (fun b h => hf4 b (by simp [blkOf]) (how3.lt hok3 h))) hrd4 (sbytes_one _) hok4 (by omega) (by dsimp only; omega) (by omega) ?_
          intro v5 T5 hle5 hn5 hok5 how5 hf5 hb5
          repeat (
            first
              | refine WO_nil ?_
              | refine V_block ?_
              | refine WO_dst rfl rfl (by kernel_rfl) (by kernel_rfl) ?_
              | refine Ev_assign rfl ?_)
          refine back (pos + w, v5, l ++ enc1 c) T5 _ (by dsimp only; omega) (hI v5 T5 hok5 (how5.eq (by rw [he, hA, hB, sbytes_app, sbytes_app, List.append_assoc]) (by rw [he, List.length_append, List.length_append]; rfl)) (by omega) (by omega) (fun b h1 h2 => by rw [hf5 b (fun h => by rcases hb3 b h with h | h; exact h1 h; omega) (by omega), hf4 b (by simp [blkOf]) (by omega), hf3 b h1 (by omega), hf2 b (by simp [blkOf]) h2]) (fun b h => by
            rcases hb5 b h with h | h
            · exact (hb3 b h).imp id (fun h => by omega)
            · exact .inr (by omega))) ⟨rfl, rfl, trivial⟩
        · have he : enc1 c = [192 + c / 64, 128 + c % 64] := by unfold enc1 unitL; rw [if_neg (by omega), if_neg (by omega), if_pos (by omega)]
          refine Ev_buildSlice rfl rfl rfl rfl rfl rfl hok1 (by omega) ?_
          intro S2 hn2 hok2 hq2 hf2
          repeat (
            refine WO_dst rfl rfl (by kernel_rfl) (by kernel_rfl) ?_)
          refine Ev_append rfl rfl rfl rfl rfl rfl rfl rfl rfl rfl (how1.keep (fun b h => hf2 b (how1.lt hok1 h))) (Rd_lit hq2 rfl (by kernel_rfl)) rfl hok2 (by omega) (by dsimp only; omega) (by omega) ?_
          intro v3 T3 hle3 hn3 hok3 how3 hf3 hb3
          repeat (
            first
              | refine WO_nil ?_
              | refine V_block ?_
              | refine WO_dst rfl rfl (by kernel_rfl) (by kernel_rfl) ?_
              | refine Ev_assign rfl ?_)
          refine back (pos + w, v3, l ++ enc1 c) T3 _ (by dsimp only; omega) (hI v3 T3 hok3 (how3.eq (by rw [he, sbytes_app]; simp [sbytes, lput, rep, AV.cells]) (by rw [he, List.length_append]; rfl)) (by omega) (by omega) (fun b h1 h2 => by rw [hf3 b h1 (by omega), hf2 b h2]) (fun b h => (hb3 b h).imp id (fun h => by omega))) ⟨rfl, rfl, trivial⟩
    · exact ⟨by simp, hok1, hq1, .inl ⟨rfl, rfl, rfl⟩, by simp, by simp, by omega, by dsimp only; omega, hfS, fun c hc => by cases hc⟩
end Go.Proofs.YtnlfcoojlgdgaaaDoor
