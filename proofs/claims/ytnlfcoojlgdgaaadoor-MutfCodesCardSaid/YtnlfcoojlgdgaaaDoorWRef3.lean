/- caraferef1.Decode: what it answers. -/
import Derived.Test.YtnlfcoojlgdgaaaDoorWRef
import Derived.Test.YtnlfcoojlgdgaaaDoorWRef2
namespace Go.Proofs.YtnlfcoojlgdgaaaDoor
open GX
set_option maxHeartbeats 8000000
theorem uL_le {l : List Nat} (h : l ≠ []) : (uL l).2 ≤ l.length := by
  have : 0 < l.length := List.length_pos_iff.2 h
  unfold uL; (repeat' split) <;> dsimp only <;> omega
theorem uL_lt {l : List Nat} (h : ∀ c ∈ l, c < 256) : (uL l).1 < 65536 := by
  have h0 : l.getD 0 0 < 256 := getD_lt h (by omega)
  unfold uL; (repeat' split) <;> dsimp only <;> omega
def rl (l : List Nat) (h : Option Nat) : Option (List Nat) :=
  if _h : l = [] then (if h.isSome = true then none else some [])
  else if _h0 : (uL l).2 = 0 then none
  else if 56320 ≤ (uL l).1 ∧ (uL l).1 < 57344 ∧ h.isSome = true then (rl (l.drop (uL l).2) none).map (runeL (65536 + (h.getD 0 - 55296) * 1024 + ((uL l).1 - 56320)) ++ ·)
  else if h.isSome = true ∨ (56320 ≤ (uL l).1 ∧ (uL l).1 < 57344) then none
  else if 55296 ≤ (uL l).1 ∧ (uL l).1 < 56320 then rl (l.drop (uL l).2) (some (uL l).1)
  else (rl (l.drop (uL l).2) none).map (runeL (uL l).1 ++ ·)
termination_by l.length
decreasing_by
  all_goals
    have : 0 < l.length := List.length_pos_iff.2 _h
    simp only [List.length_drop]
    omega
theorem u_unit {r : Nat} (h : r < 65536) (t : List Nat) : uL (unitL r ++ t) = (r, (unitL r).length) := by
  unfold unitL
  split
  · rename_i h1
    show uL (r :: t) = _
    unfold uL
    rw [if_pos (by simp; omega)]; rfl
  · split
    · rename_i h1 h2
      show uL ((192 + r / 64) :: (128 + r % 64) :: t) = _
      unfold uL
      rw [if_neg (by simp; omega), if_pos (by simp; omega), if_pos (by simp; omega)]
      simp; omega
    · show uL ((224 + r / 4096) :: (128 + r / 64 % 64) :: (128 + r % 64) :: t) = _
      unfold uL
      rw [if_neg (by simp; omega), if_neg (by simp; omega), if_pos (by simp; omega), if_pos (by simp; omega)]
      simp; omega
theorem rl_enc1 {c : Nat} (h : okR c) (t : List Nat) : rl (enc1 c ++ t) none = (rl t none).map (runeL c ++ ·) := by
  unfold okR at h
  unfold enc1
  by_cases hc : 65535 < c
  · obtain ⟨A, hA⟩ : ∃ A, A = 55296 + (c - 65536) / 1024 := ⟨_, rfl⟩
    obtain ⟨B, hB⟩ : ∃ B, B = 56320 + (c - 65536) % 1024 := ⟨_, rfl⟩
    have he : 65536 + (A - 55296) * 1024 + (B - 56320) = c := by omega
    have l1 : (unitL A).length = 3 := by unfold unitL; rw [if_neg (by omega), if_neg (by omega)]; rfl
    have l2 : (unitL B).length = 3 := by unfold unitL; rw [if_neg (by omega), if_neg (by omega)]; rfl
    have o1 := u_unit (r := A) (by omega) (unitL B ++ t)
    have o2 := u_unit (r := B) (by omega) t
    rw [if_pos hc, ← hA, ← hB, List.append_assoc, rl, dif_neg (by simp [unitL_ne]), o1]
    dsimp only
    rw [dif_neg (by omega), if_neg (by simp), if_neg (by simp; omega), if_pos (by omega), List.drop_left, rl, dif_neg (by simp [unitL_ne]), o2]
    dsimp only
    rw [dif_neg (by omega), if_pos ⟨by omega, by omega, rfl⟩, List.drop_left]
    simp only [Option.getD_some]
    rw [he]
  · have o1 := u_unit (r := c) (by omega) t
    rw [if_neg hc, rl, dif_neg (by simp [unitL_ne]), o1]
    dsimp only
    have : 0 < (unitL c).length := List.length_pos_iff.2 (unitL_ne c)
    rw [dif_neg (by omega), if_neg (by simp), if_neg (by simp; omega), if_neg (by omega), List.drop_left]
theorem rl_encs {cs : List Nat} (h : ∀ c ∈ cs, okR c) : rl (cs.flatMap enc1) none = some (txt cs) := by
  induction cs with
  | nil => rw [List.flatMap_nil, rl]; rfl
  | cons c cs ih =>
    show rl (enc1 c ++ cs.flatMap enc1) none = _
    rw [rl_enc1 (h c (by simp)), ih fun d hd => h d (by simp [hd])]; rfl
theorem norm_of {z : List Nat} (hb : ∀ b ∈ z, b < 256) (h : vS z = true) : normS z = z := norm_of_valid _ (Nat.le_refl _) hb h
/-- the reference decodes what mutf decodes -/
theorem ref_dec {l : List Nat} (hb : ∀ b ∈ l, b < 256) {z : List Nat} (hz : rl l none = some z) (hzb : ∀ b ∈ z, b < 256) : decS l = if vS z = true ∧ encS z = l then some z else none := by
  split
  · rename_i h
    obtain ⟨h1, h2⟩ := h
    have := dec_norm z
    rw [norm_of hzb h1, h2] at this
    exact this
  · rename_i h
    cases hd : decS l with
    | none => rfl
    | some u =>
      exfalso
      obtain ⟨cs, k1, k2, k3⟩ := dec_back _ (Nat.le_refl _) hb hd
      have := rl_encs k1
      rw [← k3, hz] at this
      cases this
      obtain ⟨e1, e2, _⟩ := dec_then hb hd
      subst k2
      exact h ⟨e1, e2⟩
theorem ref_none {l : List Nat} (hb : ∀ b ∈ l, b < 256) (hz : rl l none = none) : decS l = none := by
  cases hd : decS l with
  | none => rfl
  | some u =>
    exfalso
    obtain ⟨cs, k1, k2, k3⟩ := dec_back _ (Nat.le_refl _) hb hd
    have := rl_encs k1
    rw [← k3, hz] at this
    cases this
structure RDecR (S : St) (l : List Nat) (r : AV) (S' : St) : Prop where
  fr : Fr S S' .nils (16 * l.length + 2)
  out : r = .tup [.str ((decS l).getD []), .int .i64 (if (decS l).isSome = true then 0 else 12)]
def hI : Option Nat → Int
  | none => -1
  | some m => (m : Int)
structure RDecI (S : St) (l : List Nat) (a : Nat × Option Nat × List Nat) (T : St) : Prop where
  same : T = S
  le : a.1 ≤ l.length
  eq : (rl (l.drop a.1) a.2.1).map (a.2.2 ++ ·) = rl l none
  hi : ∀ m, a.2.1 = some m → 55296 ≤ m ∧ m < 56320
  len : a.2.2.length ≤ 4 * a.1
  lt : ∀ c ∈ a.2.2, c < 256
theorem rdec_runs {S : St} {v : AV} {l : List Nat} (hok : Sok S) (hv : Br S v l) (hb : ∀ c ∈ l, c < 256) (hl : l.length ≤ 10000000) (hn : S.n ≤ 100000000) : Runs X1 14 [v] S (RDecR S l) := by
  refine Runs_fn (m := 88) (by kernel_rfl) Tryd.func14 rfl (by kernel_rfl) (by kernel_rfl) ?_
  repeat (
    first
      | refine W_seq ?_
      | refine WO_nil ?_
      | refine V_seq ?_
      | refine W_region ?_
      | refine W_drawn (by kernel_rfl) ?_
      | refine W_block ?_
      | refine W_scope ?_
      | refine W_skip ?_
      | refine W_ret ?_
      | refine W_exit ?_
      | refine W_label ?_
      | refine V_ret ?_
      | refine V_block ?_
      | refine V_block_x rfl ?_
      | refine V_block_y rfl ?_
      | refine V_seq_x ?_
      | refine V_loop_x ?_
      | refine W_cond_t rfl ?_
      | refine W_cond_f rfl ?_
      | refine WO_dst rfl rfl (by kernel_rfl) (by kernel_rfl) ?_
      | refine WO_no rfl rfl ?_
      | refine WO_guard_t rfl rfl rfl rfl rfl (by kernel_rfl) (by kernel_rfl) ?_
      | refine WO_guard_f rfl rfl rfl rfl rfl rfl (by kernel_rfl) (by kernel_rfl) ?_
      | refine WO_guard_x rfl rfl rfl rfl rfl (by kernel_rfl) (by kernel_rfl) ?_
      | refine Ev_move rfl ?_
      | refine Ev_assign rfl ?_
      | refine Ev_extract rfl rfl ?_
      | refine Ev_pick_t rfl rfl rfl ?_
      | refine Ev_pick_f rfl rfl rfl ?_
      | refine Ev_lssN rfl rfl ?_
      | refine Ev_leqN rfl rfl ?_
      | refine Ev_gtrN rfl rfl ?_
      | refine Ev_geqN rfl rfl ?_
      | refine Ev_eqlN rfl rfl ?_
      | refine Ev_neqN rfl rfl ?_
      | refine Ev_lss rfl rfl ?_
      | refine Ev_leq rfl rfl ?_
      | refine Ev_gtr rfl rfl ?_
      | refine Ev_geq rfl rfl ?_
      | refine Ev_eql rfl rfl ?_
      | refine Ev_neq rfl rfl ?_
      | refine Ev_seql rfl rfl ?_
      | refine Ev_sneq rfl rfl ?_
      | refine Ev_not rfl ?_
      | refine Ev_notb rfl ?_
      | refine Ev_nilCheck rfl ?_
      | refine Ev_fieldAddr rfl rfl rfl rfl rfl rfl ?_
      | refine Ev_len_str rfl rfl rfl rfl rfl ?_
      | refine Ev_len rfl rfl rfl rfl rfl rfl ?_
      | refine Ev_min rfl rfl rfl ?_
      | refine Ev_max rfl rfl rfl ?_
      | refine Ev_indexAddr rfl rfl rfl rfl rfl (by first | omega | (dsimp only; done) | (dsimp only; omega)) ?_
      | refine Ev_makeFunc rfl rfl ?_
      | refine Ev_conv_str rfl rfl rfl rfl rfl ?_
      | refine Ev_addN rfl rfl (by simp only [lim]; omega) ?_
      | refine Ev_subN rfl rfl (by simp only [lim]; omega) (by first | omega | (dsimp only; done) | (dsimp only; omega)) ?_
      | refine Ev_mulN rfl rfl (by simp only [lim]; omega) ?_
      | refine Ev_add rfl rfl (by simp only [inR]; omega) ?_
      | refine Ev_sub rfl rfl (by simp only [inR]; omega) ?_
      | refine Ev_mul rfl rfl (by simp only [inR]; omega) ?_
      | refine Ev_shrN (m := 6) (q := 64) rfl rfl rfl rfl ?_
      | refine Ev_shrN (m := 12) (q := 4096) rfl rfl rfl rfl ?_
      | refine Ev_shrN (m := 10) (q := 1024) rfl rfl rfl rfl ?_
      | refine Ev_shrN (m := 8) (q := 256) rfl rfl rfl rfl ?_
      | refine Ev_shrN (m := 4) (q := 16) rfl rfl rfl rfl ?_
      | refine Ev_shrN (m := 5) (q := 32) rfl rfl rfl rfl ?_
      | refine Ev_shrN (m := 7) (q := 128) rfl rfl rfl rfl ?_
      | refine Ev_shrN (m := 3) (q := 8) rfl rfl rfl rfl ?_
      | refine Ev_shrN (m := 18) (q := 262144) rfl rfl rfl rfl ?_
      | refine Ev_shlN (m := 6) (q := 64) rfl rfl rfl rfl (by simp only [lim]; omega) ?_
      | refine Ev_shlN (m := 12) (q := 4096) rfl rfl rfl rfl (by simp only [lim]; omega) ?_
      | refine Ev_shlN (m := 10) (q := 1024) rfl rfl rfl rfl (by simp only [lim]; omega) ?_
      | refine Ev_shlN (m := 8) (q := 256) rfl rfl rfl rfl (by simp only [lim]; omega) ?_
      | refine Ev_andN 3 8 rfl rfl rfl rfl (by simp only [lim]; omega) (by simp only [lim]; omega) ?_
      | refine Ev_andN 4 16 rfl rfl rfl rfl (by simp only [lim]; omega) (by simp only [lim]; omega) ?_
      | refine Ev_andN 5 32 rfl rfl rfl rfl (by simp only [lim]; omega) (by simp only [lim]; omega) ?_
      | refine Ev_andN 6 64 rfl rfl rfl rfl (by simp only [lim]; omega) (by simp only [lim]; omega) ?_
      | refine Ev_andN 10 1024 rfl rfl rfl rfl (by simp only [lim]; omega) (by simp only [lim]; omega) ?_
      | refine Ev_orN 4 rfl rfl rfl (by first | omega | (dsimp only; done) | (dsimp only; omega)) (by first | omega | (dsimp only; done) | (dsimp only; omega)) (by simp only [lim]; omega) ?_
      | refine Ev_orN 5 rfl rfl rfl (by first | omega | (dsimp only; done) | (dsimp only; omega)) (by first | omega | (dsimp only; done) | (dsimp only; omega)) (by simp only [lim]; omega) ?_
      | refine Ev_orN 6 rfl rfl rfl (by first | omega | (dsimp only; done) | (dsimp only; omega)) (by first | omega | (dsimp only; done) | (dsimp only; omega)) (by simp only [lim]; omega) ?_
      | refine Ev_orN 10 rfl rfl rfl (by first | omega | (dsimp only; done) | (dsimp only; omega)) (by first | omega | (dsimp only; done) | (dsimp only; omega)) (by simp only [lim]; omega) ?_
      | refine Ev_orN 12 rfl rfl rfl (by first | omega | (dsimp only; done) | (dsimp only; omega)) (by first | omega | (dsimp only; done) | (dsimp only; omega)) (by simp only [lim]; omega) ?_
      | refine Ev_orN 16 rfl rfl rfl (by first | omega | (dsimp only; done) | (dsimp only; omega)) (by first | omega | (dsimp only; done) | (dsimp only; omega)) (by simp only [lim]; omega) ?_
      | refine Ev_convN rfl rfl rfl rfl rfl (by simp only [lim]; omega) ?_
      | refine Ev_and8 rfl rfl (by first | omega | (dsimp only; done) | (dsimp only; omega)) (by first | omega | (dsimp only; done) | (dsimp only; omega)) (land_192 (by first | omega | (dsimp only; done) | (dsimp only; omega))) (by first | omega | (dsimp only; done) | (dsimp only; omega)) ?_
      | refine Ev_and8 rfl rfl (by first | omega | (dsimp only; done) | (dsimp only; omega)) (by first | omega | (dsimp only; done) | (dsimp only; omega)) (land_224 (by first | omega | (dsimp only; done) | (dsimp only; omega))) (by first | omega | (dsimp only; done) | (dsimp only; omega)) ?_
      | refine Ev_and8 rfl rfl (by first | omega | (dsimp only; done) | (dsimp only; omega)) (by first | omega | (dsimp only; done) | (dsimp only; omega)) (land_240 (by first | omega | (dsimp only; done) | (dsimp only; omega))) (by first | omega | (dsimp only; done) | (dsimp only; omega)) ?_
      | refine Ev_shr rfl rfl rfl rfl ?_
      | refine Ev_conv rfl rfl rfl rfl rfl (by simp only [inR]; omega) ?_
      | refine Ev_conv8 rfl rfl rfl rfl rfl ?_)
  refine W_inv (fun a : Nat × Option Nat × List Nat => [(6, .int .i64 ((a.1 : Nat) : Int)), (0, v), (4, .str a.2.2), (5, .int .i64 (hI a.2.1))]) (RDecI S l) (fun a => l.length - a.1) ?_ (0, none, []) ?_ ⟨rfl, rfl, rfl, rfl, trivial⟩
  · rintro ⟨k, h, acc⟩ T ⟨rfl, hle, heq, hhi, hlen, hlt⟩ back
    dsimp only at hle heq hhi hlen back
    have back' : ∀ (k2 : Nat) (h2 : Option Nat) (acc2 : List Nat) (l' : L), k < k2 → RDecI T l (k2, h2, acc2) T → sub [(6, .int .i64 ((k2 : Nat) : Int)), (0, v), (4, .str acc2), (5, .int .i64 (hI h2))] l' → _ := fun k2 h2 acc2 l' hk hI0 hs => back (k2, h2, acc2) T l' (by have := hI0.le; dsimp only at *; omega) hI0 hs
    by_cases hk : k < l.length
    · obtain ⟨n, w, hnw⟩ : ∃ n w, uL (l.drop k) = (n, w) := ⟨_, _, rfl⟩
      have hne : l.drop k ≠ [] := by intro h; rw [List.drop_eq_nil_iff] at h; omega
      have hbd : ∀ c ∈ l.drop k, c < 256 := fun c h => hb c (List.mem_of_mem_drop h)
      have hw : w ≤ l.length - k := by have := uL_le hne; rw [hnw, List.length_drop] at this; exact this
      have hn6 : n < 65536 := by have := uL_lt hbd; rw [hnw] at this; exact this
      have hrl := rl.eq_1 (l.drop k) h
      rw [dif_neg hne, hnw] at hrl
      dsimp only at hrl
      cases h with
      | none =>
        show W X1 88 _ _ _ [(6, .int .i64 ((k : Nat) : Int)), (0, v), (4, .str acc), (5, .int .i64 (-1))] T
        repeat' (
          first
            | refine W_seq ?_
            | refine WO_nil ?_
            | refine V_seq ?_
            | refine W_region ?_
            | refine W_drawn (by kernel_rfl) ?_
            | refine W_block ?_
            | refine W_scope ?_
            | refine W_skip ?_
            | refine W_ret ?_
            | refine W_exit ?_
            | refine W_label ?_
            | refine V_ret ?_
            | refine V_block ?_
            | refine V_block_x rfl ?_
            | refine V_block_y rfl ?_
            | refine V_seq_x ?_
            | refine V_loop_x ?_
            | refine W_cond_t rfl ?_
            | refine W_cond_f rfl ?_
            | refine WO_dst rfl rfl (by kernel_rfl) (by kernel_rfl) ?_
            | refine WO_no rfl rfl ?_
            | refine WO_guard_t rfl rfl rfl rfl rfl (by kernel_rfl) (by kernel_rfl) ?_
            | refine WO_guard_f rfl rfl rfl rfl rfl rfl (by kernel_rfl) (by kernel_rfl) ?_
            | refine WO_guard_x rfl rfl rfl rfl rfl (by kernel_rfl) (by kernel_rfl) ?_
            | refine Ev_len rfl rfl rfl rfl rfl hv.len ?_
            | (refine Ev_call rfl rfl ((runit_runs hv hb hk (by omega)).mono ?_); rintro _ _ - ⟨rfl, rfl⟩; rw [hnw]; dsimp only)
            | refine Ev_move rfl ?_
            | refine Ev_assign rfl ?_
            | refine Ev_extract rfl rfl ?_
            | refine Ev_pick_t rfl rfl rfl ?_
            | refine Ev_pick_f rfl rfl rfl ?_
            | refine Ev_lssN rfl rfl ?_
            | refine Ev_leqN rfl rfl ?_
            | refine Ev_gtrN rfl rfl ?_
            | refine Ev_geqN rfl rfl ?_
            | refine Ev_eqlN rfl rfl ?_
            | refine Ev_neqN rfl rfl ?_
            | refine Ev_lss rfl rfl ?_
            | refine Ev_leq rfl rfl ?_
            | refine Ev_gtr rfl rfl ?_
            | refine Ev_geq rfl rfl ?_
            | refine Ev_eql rfl rfl ?_
            | refine Ev_neq rfl rfl ?_
            | refine Ev_seql rfl rfl ?_
            | refine Ev_sneq rfl rfl ?_
            | refine Ev_not rfl ?_
            | refine Ev_notb rfl ?_
            | refine Ev_nilCheck rfl ?_
            | refine Ev_fieldAddr rfl rfl rfl rfl rfl rfl ?_
            | refine Ev_len_str rfl rfl rfl rfl rfl ?_
            | refine Ev_len rfl rfl rfl rfl rfl rfl ?_
            | refine Ev_min rfl rfl rfl ?_
            | refine Ev_max rfl rfl rfl ?_
            | refine Ev_indexAddr rfl rfl rfl rfl rfl (by first | omega | (dsimp only; done) | (dsimp only; omega)) ?_
            | refine Ev_makeFunc rfl rfl ?_
            | refine Ev_conv_str rfl rfl rfl rfl rfl ?_
            | refine Ev_addN rfl rfl (by simp only [lim]; omega) ?_
            | refine Ev_subN rfl rfl (by simp only [lim]; omega) (by first | omega | (dsimp only; done) | (dsimp only; omega)) ?_
            | refine Ev_mulN rfl rfl (by simp only [lim]; omega) ?_
            | refine Ev_add rfl rfl (by simp only [inR]; omega) ?_
            | refine Ev_sub rfl rfl (by simp only [inR]; omega) ?_
            | refine Ev_mul rfl rfl (by simp only [inR]; omega) ?_
            | refine Ev_shrN (m := 6) (q := 64) rfl rfl rfl rfl ?_
            | refine Ev_shrN (m := 12) (q := 4096) rfl rfl rfl rfl ?_
            | refine Ev_shrN (m := 10) (q := 1024) rfl rfl rfl rfl ?_
            | refine Ev_shrN (m := 8) (q := 256) rfl rfl rfl rfl ?_
            | refine Ev_shrN (m := 4) (q := 16) rfl rfl rfl rfl ?_
            | refine Ev_shrN (m := 5) (q := 32) rfl rfl rfl rfl ?_
            | refine Ev_shrN (m := 7) (q := 128) rfl rfl rfl rfl ?_
            | refine Ev_shrN (m := 3) (q := 8) rfl rfl rfl rfl ?_
            | refine Ev_shrN (m := 18) (q := 262144) rfl rfl rfl rfl ?_
            | refine Ev_shlN (m := 6) (q := 64) rfl rfl rfl rfl (by simp only [lim]; omega) ?_
            | refine Ev_shlN (m := 12) (q := 4096) rfl rfl rfl rfl (by simp only [lim]; omega) ?_
            | refine Ev_shlN (m := 10) (q := 1024) rfl rfl rfl rfl (by simp only [lim]; omega) ?_
            | refine Ev_shlN (m := 8) (q := 256) rfl rfl rfl rfl (by simp only [lim]; omega) ?_
            | refine Ev_andN 3 8 rfl rfl rfl rfl (by simp only [lim]; omega) (by simp only [lim]; omega) ?_
            | refine Ev_andN 4 16 rfl rfl rfl rfl (by simp only [lim]; omega) (by simp only [lim]; omega) ?_
            | refine Ev_andN 5 32 rfl rfl rfl rfl (by simp only [lim]; omega) (by simp only [lim]; omega) ?_
            | refine Ev_andN 6 64 rfl rfl rfl rfl (by simp only [lim]; omega) (by simp only [lim]; omega) ?_
            | refine Ev_andN 10 1024 rfl rfl rfl rfl (by simp only [lim]; omega) (by simp only [lim]; omega) ?_
            | refine Ev_orN 4 rfl rfl rfl (by first | omega | (dsimp only; done) | (dsimp only; omega)) (by first | omega | (dsimp only; done) | (dsimp only; omega)) (by simp only [lim]; omega) ?_
            | refine Ev_orN 5 rfl rfl rfl (by first | omega | (dsimp only; done) | (dsimp only; omega)) (by first | omega | (dsimp only; done) | (dsimp only; omega)) (by simp only [lim]; omega) ?_
            | refine Ev_orN 6 rfl rfl rfl (by first | omega | (dsimp only; done) | (dsimp only; omega)) (by first | omega | (dsimp only; done) | (dsimp only; omega)) (by simp only [lim]; omega) ?_
            | refine Ev_orN 10 rfl rfl rfl (by first | omega | (dsimp only; done) | (dsimp only; omega)) (by first | omega | (dsimp only; done) | (dsimp only; omega)) (by simp only [lim]; omega) ?_
            | refine Ev_orN 12 rfl rfl rfl (by first | omega | (dsimp only; done) | (dsimp only; omega)) (by first | omega | (dsimp only; done) | (dsimp only; omega)) (by simp only [lim]; omega) ?_
            | refine Ev_orN 16 rfl rfl rfl (by first | omega | (dsimp only; done) | (dsimp only; omega)) (by first | omega | (dsimp only; done) | (dsimp only; omega)) (by simp only [lim]; omega) ?_
            | refine Ev_convN rfl rfl rfl rfl rfl (by simp only [lim]; omega) ?_
            | refine Ev_and8 rfl rfl (by first | omega | (dsimp only; done) | (dsimp only; omega)) (by first | omega | (dsimp only; done) | (dsimp only; omega)) (land_192 (by first | omega | (dsimp only; done) | (dsimp only; omega))) (by first | omega | (dsimp only; done) | (dsimp only; omega)) ?_
            | refine Ev_and8 rfl rfl (by first | omega | (dsimp only; done) | (dsimp only; omega)) (by first | omega | (dsimp only; done) | (dsimp only; omega)) (land_224 (by first | omega | (dsimp only; done) | (dsimp only; omega))) (by first | omega | (dsimp only; done) | (dsimp only; omega)) ?_
            | refine Ev_and8 rfl rfl (by first | omega | (dsimp only; done) | (dsimp only; omega)) (by first | omega | (dsimp only; done) | (dsimp only; omega)) (land_240 (by first | omega | (dsimp only; done) | (dsimp only; omega))) (by first | omega | (dsimp only; done) | (dsimp only; omega)) ?_
            | refine Ev_shr rfl rfl rfl rfl ?_
            | refine Ev_conv rfl rfl rfl rfl rfl (by simp only [inR]; omega) ?_
            | refine Ev_conv8 rfl rfl rfl rfl rfl ?_
            | (refine WO_guard_dt rfl rfl rfl rfl rfl (by kernel_rfl) (by kernel_rfl) (fun hg => ?_) (fun hg => ?_) <;> (try dsimp only at hg) <;> try (exfalso; first | omega | exact hg rfl))
            | (refine WO_guard_df rfl rfl rfl rfl rfl (by kernel_rfl) (by kernel_rfl) (fun hg => ?_) (fun hg => ?_) <;> (try dsimp only at hg) <;> try (exfalso; first | omega | exact hg rfl))
            | (refine W_cond rfl (fun hc => ?_) (fun hc => ?_) <;> (try dsimp only at hc) <;> try (exfalso; first | omega | exact hc rfl)))
        · rw [dif_pos (by omega)] at hrl
          have hnone : rl l none = none := by rw [← heq, hrl]; rfl
          have hd := ref_none hb hnone
          refine V_done rfl rfl ?_
          exact ⟨⟨by omega, by omega, hok, fun _ _ _ => rfl⟩, by rw [hd]; rfl⟩
        · rw [dif_neg (by omega), if_neg (by simp), if_pos (.inr ⟨by omega, by omega⟩)] at hrl
          have hnone : rl l none = none := by rw [← heq, hrl]; rfl
          have hd := ref_none hb hnone
          refine V_done rfl rfl ?_
          exact ⟨⟨by omega, by omega, hok, fun _ _ _ => rfl⟩, by rw [hd]; rfl⟩
        · rw [dif_neg (by omega), if_neg (by simp), if_neg (by simp; omega), if_neg (by omega)] at hrl
          have hokR : okR (n) := by unfold okR; omega
          refine Ev_conv_rune rfl rfl rfl rfl rfl ?_
          rw [encodeR_runeL hokR]
          repeat (
            first
              | refine W_seq ?_
              | refine WO_nil ?_
              | refine V_seq ?_
              | refine W_region ?_
              | refine W_drawn (by kernel_rfl) ?_
              | refine W_block ?_
              | refine W_scope ?_
              | refine W_skip ?_
              | refine W_ret ?_
              | refine W_exit ?_
              | refine W_label ?_
              | refine V_ret ?_
              | refine V_block ?_
              | refine V_block_x rfl ?_
              | refine V_block_y rfl ?_
              | refine V_seq_x ?_
              | refine V_loop_x ?_
              | refine W_cond_t rfl ?_
              | refine W_cond_f rfl ?_
              | refine WO_dst rfl rfl (by kernel_rfl) (by kernel_rfl) ?_
              | refine WO_no rfl rfl ?_
              | refine WO_guard_t rfl rfl rfl rfl rfl (by kernel_rfl) (by kernel_rfl) ?_
              | refine WO_guard_f rfl rfl rfl rfl rfl rfl (by kernel_rfl) (by kernel_rfl) ?_
              | refine WO_guard_x rfl rfl rfl rfl rfl (by kernel_rfl) (by kernel_rfl) ?_
              | refine Ev_move rfl ?_
              | refine Ev_assign rfl ?_
              | refine Ev_extract rfl rfl ?_
              | refine Ev_pick_t rfl rfl rfl ?_
              | refine Ev_pick_f rfl rfl rfl ?_
              | refine Ev_lssN rfl rfl ?_
              | refine Ev_leqN rfl rfl ?_
              | refine Ev_gtrN rfl rfl ?_
              | refine Ev_geqN rfl rfl ?_
              | refine Ev_eqlN rfl rfl ?_
              | refine Ev_neqN rfl rfl ?_
              | refine Ev_lss rfl rfl ?_
              | refine Ev_leq rfl rfl ?_
              | refine Ev_gtr rfl rfl ?_
              | refine Ev_geq rfl rfl ?_
              | refine Ev_eql rfl rfl ?_
              | refine Ev_neq rfl rfl ?_
              | refine Ev_seql rfl rfl ?_
              | refine Ev_sneq rfl rfl ?_
              | refine Ev_not rfl ?_
              | refine Ev_notb rfl ?_
              | refine Ev_nilCheck rfl ?_
              | refine Ev_fieldAddr rfl rfl rfl rfl rfl rfl ?_
              | refine Ev_len_str rfl rfl rfl rfl rfl ?_
              | refine Ev_len rfl rfl rfl rfl rfl rfl ?_
              | refine Ev_min rfl rfl rfl ?_
              | refine Ev_max rfl rfl rfl ?_
              | refine Ev_indexAddr rfl rfl rfl rfl rfl (by first | omega | (dsimp only; done) | (dsimp only; omega)) ?_
              | refine Ev_makeFunc rfl rfl ?_
              | refine Ev_conv_str rfl rfl rfl rfl rfl ?_
              | refine Ev_addN rfl rfl (by simp only [lim]; omega) ?_
              | refine Ev_subN rfl rfl (by simp only [lim]; omega) (by first | omega | (dsimp only; done) | (dsimp only; omega)) ?_
              | refine Ev_mulN rfl rfl (by simp only [lim]; omega) ?_
              | refine Ev_add rfl rfl (by simp only [inR]; omega) ?_
              | refine Ev_sub rfl rfl (by simp only [inR]; omega) ?_
              | refine Ev_mul rfl rfl (by simp only [inR]; omega) ?_
              | refine Ev_shrN (m := 6) (q := 64) rfl rfl rfl rfl ?_
              | refine Ev_shrN (m := 12) (q := 4096) rfl rfl rfl rfl ?_
              | refine Ev_shrN (m := 10) (q := 1024) rfl rfl rfl rfl ?_
              | refine Ev_shrN (m := 8) (q := 256) rfl rfl rfl rfl ?_
              | refine Ev_shrN (m := 4) (q := 16) rfl rfl rfl rfl ?_
              | refine Ev_shrN (m := 5) (q := 32) rfl rfl rfl rfl ?_
              | refine Ev_shrN (m := 7) (q := 128) rfl rfl rfl rfl ?_
              | refine Ev_shrN (m := 3) (q := 8) rfl rfl rfl rfl ?_
              | refine Ev_shrN (m := 18) (q := 262144) rfl rfl rfl rfl ?_
              | refine Ev_shlN (m := 6) (q := 64) rfl rfl rfl rfl (by simp only [lim]; omega) ?_
              | refine Ev_shlN (m := 12) (q := 4096) rfl rfl rfl rfl (by simp only [lim]; omega) ?_
              | refine Ev_shlN (m := 10) (q := 1024) rfl rfl rfl rfl (by simp only [lim]; omega) ?_
              | refine Ev_shlN (m := 8) (q := 256) rfl rfl rfl rfl (by simp only [lim]; omega) ?_
              | refine Ev_andN 3 8 rfl rfl rfl rfl (by simp only [lim]; omega) (by simp only [lim]; omega) ?_
              | refine Ev_andN 4 16 rfl rfl rfl rfl (by simp only [lim]; omega) (by simp only [lim]; omega) ?_
              | refine Ev_andN 5 32 rfl rfl rfl rfl (by simp only [lim]; omega) (by simp only [lim]; omega) ?_
              | refine Ev_andN 6 64 rfl rfl rfl rfl (by simp only [lim]; omega) (by simp only [lim]; omega) ?_
              | refine Ev_andN 10 1024 rfl rfl rfl rfl (by simp only [lim]; omega) (by simp only [lim]; omega) ?_
              | refine Ev_orN 4 rfl rfl rfl (by first | omega | (dsimp only; done) | (dsimp only; omega)) (by first | omega | (dsimp only; done) | (dsimp only; omega)) (by simp only [lim]; omega) ?_
              | refine Ev_orN 5 rfl rfl rfl (by first | omega | (dsimp only; done) | (dsimp only; omega)) (by first | omega | (dsimp only; done) | (dsimp only; omega)) (by simp only [lim]; omega) ?_
              | refine Ev_orN 6 rfl rfl rfl (by first | omega | (dsimp only; done) | (dsimp only; omega)) (by first | omega | (dsimp only; done) | (dsimp only; omega)) (by simp only [lim]; omega) ?_
              | refine Ev_orN 10 rfl rfl rfl (by first | omega | (dsimp only; done) | (dsimp only; omega)) (by first | omega | (dsimp only; done) | (dsimp only; omega)) (by simp only [lim]; omega) ?_
              | refine Ev_orN 12 rfl rfl rfl (by first | omega | (dsimp only; done) | (dsimp only; omega)) (by first | omega | (dsimp only; done) | (dsimp only; omega)) (by simp only [lim]; omega) ?_
              | refine Ev_orN 16 rfl rfl rfl (by first | omega | (dsimp only; done) | (dsimp only; omega)) (by first | omega | (dsimp only; done) | (dsimp only; omega)) (by simp only [lim]; omega) ?_
              | refine Ev_convN rfl rfl rfl rfl rfl (by simp only [lim]; omega) ?_
              | refine Ev_and8 rfl rfl (by first | omega | (dsimp only; done) | (dsimp only; omega)) (by first | omega | (dsimp only; done) | (dsimp only; omega)) (land_192 (by first | omega | (dsimp only; done) | (dsimp only; omega))) (by first | omega | (dsimp only; done) | (dsimp only; omega)) ?_
              | refine Ev_and8 rfl rfl (by first | omega | (dsimp only; done) | (dsimp only; omega)) (by first | omega | (dsimp only; done) | (dsimp only; omega)) (land_224 (by first | omega | (dsimp only; done) | (dsimp only; omega))) (by first | omega | (dsimp only; done) | (dsimp only; omega)) ?_
              | refine Ev_and8 rfl rfl (by first | omega | (dsimp only; done) | (dsimp only; omega)) (by first | omega | (dsimp only; done) | (dsimp only; omega)) (land_240 (by first | omega | (dsimp only; done) | (dsimp only; omega))) (by first | omega | (dsimp only; done) | (dsimp only; omega)) ?_
              | refine Ev_shr rfl rfl rfl rfl ?_
              | refine Ev_conv rfl rfl rfl rfl rfl (by simp only [inR]; omega) ?_
              | refine Ev_conv8 rfl rfl rfl rfl rfl ?_)
          refine Ev_sadd rfl rfl (by have := runeL_len (n); omega) ?_
          repeat (
            first
              | refine W_seq ?_
              | refine WO_nil ?_
              | refine V_seq ?_
              | refine W_region ?_
              | refine W_drawn (by kernel_rfl) ?_
              | refine W_block ?_
              | refine W_scope ?_
              | refine W_skip ?_
              | refine W_ret ?_
              | refine W_exit ?_
              | refine W_label ?_
              | refine V_ret ?_
              | refine V_block ?_
              | refine V_block_x rfl ?_
              | refine V_block_y rfl ?_
              | refine V_seq_x ?_
              | refine V_loop_x ?_
              | refine W_cond_t rfl ?_
              | refine W_cond_f rfl ?_
              | refine WO_dst rfl rfl (by kernel_rfl) (by kernel_rfl) ?_
              | refine WO_no rfl rfl ?_
              | refine WO_guard_t rfl rfl rfl rfl rfl (by kernel_rfl) (by kernel_rfl) ?_
              | refine WO_guard_f rfl rfl rfl rfl rfl rfl (by kernel_rfl) (by kernel_rfl) ?_
              | refine WO_guard_x rfl rfl rfl rfl rfl (by kernel_rfl) (by kernel_rfl) ?_
              | refine Ev_move rfl ?_
              | refine Ev_assign rfl ?_
              | refine Ev_extract rfl rfl ?_
              | refine Ev_pick_t rfl rfl rfl ?_
              | refine Ev_pick_f rfl rfl rfl ?_
              | refine Ev_lssN rfl rfl ?_
              | refine Ev_leqN rfl rfl ?_
              | refine Ev_gtrN rfl rfl ?_
              | refine Ev_geqN rfl rfl ?_
              | refine Ev_eqlN rfl rfl ?_
              | refine Ev_neqN rfl rfl ?_
              | refine Ev_lss rfl rfl ?_
              | refine Ev_leq rfl rfl ?_
              | refine Ev_gtr rfl rfl ?_
              | refine Ev_geq rfl rfl ?_
              | refine Ev_eql rfl rfl ?_
              | refine Ev_neq rfl rfl ?_
              | refine Ev_seql rfl rfl ?_
              | refine Ev_sneq rfl rfl ?_
              | refine Ev_not rfl ?_
              | refine Ev_notb rfl ?_
              | refine Ev_nilCheck rfl ?_
              | refine Ev_fieldAddr rfl rfl rfl rfl rfl rfl ?_
              | refine Ev_len_str rfl rfl rfl rfl rfl ?_
              | refine Ev_len rfl rfl rfl rfl rfl rfl ?_
              | refine Ev_min rfl rfl rfl ?_
              | refine Ev_max rfl rfl rfl ?_
              | refine Ev_indexAddr rfl rfl rfl rfl rfl (by first | omega | (dsimp only; done) | (dsimp only; omega)) ?_
              | refine Ev_makeFunc rfl rfl ?_
              | refine Ev_conv_str rfl rfl rfl rfl rfl ?_
              | refine Ev_addN rfl rfl (by simp only [lim]; omega) ?_
              | refine Ev_subN rfl rfl (by simp only [lim]; omega) (by first | omega | (dsimp only; done) | (dsimp only; omega)) ?_
              | refine Ev_mulN rfl rfl (by simp only [lim]; omega) ?_
              | refine Ev_add rfl rfl (by simp only [inR]; omega) ?_
              | refine Ev_sub rfl rfl (by simp only [inR]; omega) ?_
              | refine Ev_mul rfl rfl (by simp only [inR]; omega) ?_
              | refine Ev_shrN (m := 6) (q := 64) rfl rfl rfl rfl ?_
              | refine Ev_shrN (m := 12) (q := 4096) rfl rfl rfl rfl ?_
              | refine Ev_shrN (m := 10) (q := 1024) rfl rfl rfl rfl ?_
              | refine Ev_shrN (m := 8) (q := 256) rfl rfl rfl rfl ?_
              | refine Ev_shrN (m := 4) (q := 16) rfl rfl rfl rfl ?_
              | refine Ev_shrN (m := 5) (q := 32) rfl rfl rfl rfl ?_
              | refine Ev_shrN (m := 7) (q := 128) rfl rfl rfl rfl ?_
              | refine Ev_shrN (m := 3) (q := 8) rfl rfl rfl rfl ?_
              | refine Ev_shrN (m := 18) (q := 262144) rfl rfl rfl rfl ?_
              | refine Ev_shlN (m := 6) (q := 64) rfl rfl rfl rfl (by simp only [lim]; omega) ?_
              | refine Ev_shlN (m := 12) (q := 4096) rfl rfl rfl rfl (by simp only [lim]; omega) ?_
              | refine Ev_shlN (m := 10) (q := 1024) rfl rfl rfl rfl (by simp only [lim]; omega) ?_
              | refine Ev_shlN (m := 8) (q := 256) rfl rfl rfl rfl (by simp only [lim]; omega) ?_
              | refine Ev_andN 3 8 rfl rfl rfl rfl (by simp only [lim]; omega) (by simp only [lim]; omega) ?_
              | refine Ev_andN 4 16 rfl rfl rfl rfl (by simp only [lim]; omega) (by simp only [lim]; omega) ?_
              | refine Ev_andN 5 32 rfl rfl rfl rfl (by simp only [lim]; omega) (by simp only [lim]; omega) ?_
              | refine Ev_andN 6 64 rfl rfl rfl rfl (by simp only [lim]; omega) (by simp only [lim]; omega) ?_
              | refine Ev_andN 10 1024 rfl rfl rfl rfl (by simp only [lim]; omega) (by simp only [lim]; omega) ?_
              | refine Ev_orN 4 rfl rfl rfl (by first | omega | (dsimp only; done) | (dsimp only; omega)) (by first | omega | (dsimp only; done) | (dsimp only; omega)) (by simp only [lim]; omega) ?_
              | refine Ev_orN 5 rfl rfl rfl (by first | omega | (dsimp only; done) | (dsimp only; omega)) (by first | omega | (dsimp only; done) | (dsimp only; omega)) (by simp only [lim]; omega) ?_
              | refine Ev_orN 6 rfl rfl rfl (by first | omega | (dsimp only; done) | (dsimp only; omega)) (by first | omega | (dsimp only; done) | (dsimp only; omega)) (by simp only [lim]; omega) ?_
              | refine Ev_orN 10 rfl rfl rfl (by first | omega | (dsimp only; done) | (dsimp only; omega)) (by first | omega | (dsimp only; done) | (dsimp only; omega)) (by simp only [lim]; omega) ?_
              | refine Ev_orN 12 rfl rfl rfl (by first | omega | (dsimp only; done) | (dsimp only; omega)) (by first | omega | (dsimp only; done) | (dsimp only; omega)) (by simp only [lim]; omega) ?_
              | refine Ev_orN 16 rfl rfl rfl (by first | omega | (dsimp only; done) | (dsimp only; omega)) (by first | omega | (dsimp only; done) | (dsimp only; omega)) (by simp only [lim]; omega) ?_
              | refine Ev_convN rfl rfl rfl rfl rfl (by simp only [lim]; omega) ?_
              | refine Ev_and8 rfl rfl (by first | omega | (dsimp only; done) | (dsimp only; omega)) (by first | omega | (dsimp only; done) | (dsimp only; omega)) (land_192 (by first | omega | (dsimp only; done) | (dsimp only; omega))) (by first | omega | (dsimp only; done) | (dsimp only; omega)) ?_
              | refine Ev_and8 rfl rfl (by first | omega | (dsimp only; done) | (dsimp only; omega)) (by first | omega | (dsimp only; done) | (dsimp only; omega)) (land_224 (by first | omega | (dsimp only; done) | (dsimp only; omega))) (by first | omega | (dsimp only; done) | (dsimp only; omega)) ?_
              | refine Ev_and8 rfl rfl (by first | omega | (dsimp only; done) | (dsimp only; omega)) (by first | omega | (dsimp only; done) | (dsimp only; omega)) (land_240 (by first | omega | (dsimp only; done) | (dsimp only; omega))) (by first | omega | (dsimp only; done) | (dsimp only; omega)) ?_
              | refine Ev_shr rfl rfl rfl rfl ?_
              | refine Ev_conv rfl rfl rfl rfl rfl (by simp only [inR]; omega) ?_
              | refine Ev_conv8 rfl rfl rfl rfl rfl ?_)
          refine back' (k + w) none (acc ++ runeL (n)) _ (by omega) ⟨rfl, by dsimp only; omega, ?_, fun m h => (by cases h), ?_, ?_⟩ ⟨rfl, rfl, rfl, rfl, trivial⟩
          · dsimp only
            rw [← heq, hrl, List.drop_drop, Option.map_map]
            congr 1; funext z; simp
          · dsimp only; rw [List.length_append]; have := runeL_len (n); omega
          · intro c h
            rcases List.mem_append.1 h with h | h
            · exact hlt c h
            · exact runeL_lt hokR c h
        · rw [dif_neg (by omega), if_neg (by simp), if_neg (by simp; omega), if_pos ⟨by omega, by omega⟩] at hrl
          refine back' (k + w) (some n) acc _ (by omega) ⟨rfl, by dsimp only; omega, ?_, fun m h => (by cases h; omega), by dsimp only; omega, hlt⟩ ⟨rfl, rfl, rfl, rfl, trivial⟩
          dsimp only
          rw [← heq, hrl, List.drop_drop]
        · rw [dif_neg (by omega), if_neg (by simp), if_neg (by simp; omega), if_neg (by omega)] at hrl
          have hokR : okR (n) := by unfold okR; omega
          refine Ev_conv_rune rfl rfl rfl rfl rfl ?_
          rw [encodeR_runeL hokR]
          repeat (
            first
              | refine W_seq ?_
              | refine WO_nil ?_
              | refine V_seq ?_
              | refine W_region ?_
              | refine W_drawn (by kernel_rfl) ?_
              | refine W_block ?_
              | refine W_scope ?_
              | refine W_skip ?_
              | refine W_ret ?_
              | refine W_exit ?_
              | refine W_label ?_
              | refine V_ret ?_
              | refine V_block ?_
              | refine V_block_x rfl ?_
              | refine V_block_y rfl ?_
              | refine V_seq_x ?_
              | refine V_loop_x ?_
              | refine W_cond_t rfl ?_
              | refine W_cond_f rfl ?_
              | refine WO_dst rfl rfl (by kernel_rfl) (by kernel_rfl) ?_
              | refine WO_no rfl rfl ?_
              | refine WO_guard_t rfl rfl rfl rfl rfl (by kernel_rfl) (by kernel_rfl) ?_
              | refine WO_guard_f rfl rfl rfl rfl rfl rfl (by kernel_rfl) (by kernel_rfl) ?_
              | refine WO_guard_x rfl rfl rfl rfl rfl (by kernel_rfl) (by kernel_rfl) ?_
              | refine Ev_move rfl ?_
              | refine Ev_assign rfl ?_
              | refine Ev_extract rfl rfl ?_
              | refine Ev_pick_t rfl rfl rfl ?_
              | refine Ev_pick_f rfl rfl rfl ?_
              | refine Ev_lssN rfl rfl ?_
              | refine Ev_leqN rfl rfl ?_
              | refine Ev_gtrN rfl rfl ?_
              | refine Ev_geqN rfl rfl ?_
              | refine Ev_eqlN rfl rfl ?_
              | refine Ev_neqN rfl rfl ?_
              | refine Ev_lss rfl rfl ?_
              | refine Ev_leq rfl rfl ?_
              | refine Ev_gtr rfl rfl ?_
              | refine Ev_geq rfl rfl ?_
              | refine Ev_eql rfl rfl ?_
              | refine Ev_neq rfl rfl ?_
              | refine Ev_seql rfl rfl ?_
              | refine Ev_sneq rfl rfl ?_
              | refine Ev_not rfl ?_
              | refine Ev_notb rfl ?_
              | refine Ev_nilCheck rfl ?_
              | refine Ev_fieldAddr rfl rfl rfl rfl rfl rfl ?_
              | refine Ev_len_str rfl rfl rfl rfl rfl ?_
              | refine Ev_len rfl rfl rfl rfl rfl rfl ?_
              | refine Ev_min rfl rfl rfl ?_
              | refine Ev_max rfl rfl rfl ?_
              | refine Ev_indexAddr rfl rfl rfl rfl rfl (by first | omega | (dsimp only; done) | (dsimp only; omega)) ?_
              | refine Ev_makeFunc rfl rfl ?_
              | refine Ev_conv_str rfl rfl rfl rfl rfl ?_
              | refine Ev_addN rfl rfl (by simp only [lim]; omega) ?_
              | refine Ev_subN rfl rfl (by simp only [lim]; omega) (by first | omega | (dsimp only; done) | (dsimp only; omega)) ?_
              | refine Ev_mulN rfl rfl (by simp only [lim]; omega) ?_
              | refine Ev_add rfl rfl (by simp only [inR]; omega) ?_
              | refine Ev_sub rfl rfl (by simp only [inR]; omega) ?_
              | refine Ev_mul rfl rfl (by simp only [inR]; omega) ?_
              | refine Ev_shrN (m := 6) (q := 64) rfl rfl rfl rfl ?_
              | refine Ev_shrN (m := 12) (q := 4096) rfl rfl rfl rfl ?_
              | refine Ev_shrN (m := 10) (q := 1024) rfl rfl rfl rfl ?_
              | refine Ev_shrN (m := 8) (q := 256) rfl rfl rfl rfl ?_
              | refine Ev_shrN (m := 4) (q := 16) rfl rfl rfl rfl ?_
              | refine Ev_shrN (m := 5) (q := 32) rfl rfl rfl rfl ?_
              | refine Ev_shrN (m := 7) (q := 128) rfl rfl rfl rfl ?_
              | refine Ev_shrN (m := 3) (q := 8) rfl rfl rfl rfl ?_
              | refine Ev_shrN (m := 18) (q := 262144) rfl rfl rfl rfl ?_
              | refine Ev_shlN (m := 6) (q := 64) rfl rfl rfl rfl (by simp only [lim]; omega) ?_
              | refine Ev_shlN (m := 12) (q := 4096) rfl rfl rfl rfl (by simp only [lim]; omega) ?_
              | refine Ev_shlN (m := 10) (q := 1024) rfl rfl rfl rfl (by simp only [lim]; omega) ?_
              | refine Ev_shlN (m := 8) (q := 256) rfl rfl rfl rfl (by simp only [lim]; omega) ?_
              | refine Ev_andN 3 8 rfl rfl rfl rfl (by simp only [lim]; omega) (by simp only [lim]; omega) ?_
              | refine Ev_andN 4 16 rfl rfl rfl rfl (by simp only [lim]; omega) (by simp only [lim]; omega) ?_
              | refine Ev_andN 5 32 rfl rfl rfl rfl (by simp only [lim]; omega) (by simp only [lim]; omega) ?_
              | refine Ev_andN 6 64 rfl rfl rfl rfl (by simp only [lim]; omega) (by simp only [lim]; omega) ?_
              | refine Ev_andN 10 1024 rfl rfl rfl rfl (by simp only [lim]; omega) (by simp only [lim]; omega) ?_
              | refine Ev_orN 4 rfl rfl rfl (by first | omega | (dsimp only; done) | (dsimp only; omega)) (by first | omega | (dsimp only; done) | (dsimp only; omega)) (by simp only [lim]; omega) ?_
              | refine Ev_orN 5 rfl rfl rfl (by first | omega | (dsimp only; done) | (dsimp only; omega)) (by first | omega | (dsimp only; done) | (dsimp only; omega)) (by simp only [lim]; omega) ?_
              | refine Ev_orN 6 rfl rfl rfl (by first | omega | (dsimp only; done) | (dsimp only; omega)) (by first | omega | (dsimp only; done) | (dsimp only; omega)) (by simp only [lim]; omega) ?_
              | refine Ev_orN 10 rfl rfl rfl (by first | omega | (dsimp only; done) | (dsimp only; omega)) (by first | omega | (dsimp only; done) | (dsimp only; omega)) (by simp only [lim]; omega) ?_
              | refine Ev_orN 12 rfl rfl rfl (by first | omega | (dsimp only; done) | (dsimp only; omega)) (by first | omega | (dsimp only; done) | (dsimp only; omega)) (by simp only [lim]; omega) ?_
              | refine Ev_orN 16 rfl rfl rfl (by first | omega | (dsimp only; done) | (dsimp only; omega)) (by first | omega | (dsimp only; done) | (dsimp only; omega)) (by simp only [lim]; omega) ?_
              | refine Ev_convN rfl rfl rfl rfl rfl (by simp only [lim]; omega) ?_
              | refine Ev_and8 rfl rfl (by first | omega | (dsimp only; done) | (dsimp only; omega)) (by first | omega | (dsimp only; done) | (dsimp only; omega)) (land_192 (by first | omega | (dsimp only; done) | (dsimp only; omega))) (by first | omega | (dsimp only; done) | (dsimp only; omega)) ?_
              | refine Ev_and8 rfl rfl (by first | omega | (dsimp only; done) | (dsimp only; omega)) (by first | omega | (dsimp only; done) | (dsimp only; omega)) (land_224 (by first | omega | (dsimp only; done) | (dsimp only; omega))) (by first | omega | (dsimp only; done) | (dsimp only; omega)) ?_
              | refine Ev_and8 rfl rfl (by first | omega | (dsimp only; done) | (dsimp only; omega)) (by first | omega | (dsimp only; done) | (dsimp only; omega)) (land_240 (by first | omega | (dsimp only; done) | (dsimp only; omega))) (by first | omega | (dsimp only; done) | (dsimp only; omega)) ?_
              | refine Ev_shr rfl rfl rfl rfl ?_
              | refine Ev_conv rfl rfl rfl rfl rfl (by simp only [inR]; omega) ?_
              | refine Ev_conv8 rfl rfl rfl rfl rfl ?_)
          refine Ev_sadd rfl rfl (by have := runeL_len (n); omega) ?_
          repeat (
            first
              | refine W_seq ?_
              | refine WO_nil ?_
              | refine V_seq ?_
              | refine W_region ?_
              | refine W_drawn (by kernel_rfl) ?_
              | refine W_block ?_
              | refine W_scope ?_
              | refine W_skip ?_
              | refine W_ret ?_
              | refine W_exit ?_
              | refine W_label ?_
              | refine V_ret ?_
              | refine V_block ?_
              | refine V_block_x rfl ?_
              | refine V_block_y rfl ?_
              | refine V_seq_x ?_
              | refine V_loop_x ?_
              | refine W_cond_t rfl ?_
              | refine W_cond_f rfl ?_
              | refine WO_dst rfl rfl (by kernel_rfl) (by kernel_rfl) ?_
              | refine WO_no rfl rfl ?_
              | refine WO_guard_t rfl rfl rfl rfl rfl (by kernel_rfl) (by kernel_rfl) ?_
              | refine WO_guard_f rfl rfl rfl rfl rfl rfl (by kernel_rfl) (by kernel_rfl) ?_
              | refine WO_guard_x rfl rfl rfl rfl rfl (by kernel_rfl) (by kernel_rfl) ?_
              | refine Ev_move rfl ?_
              | refine Ev_assign rfl ?_
              | refine Ev_extract rfl rfl ?_
              | refine Ev_pick_t rfl rfl rfl ?_
              | refine Ev_pick_f rfl rfl rfl ?_
              | refine Ev_lssN rfl rfl ?_
              | refine Ev_leqN rfl rfl ?_
              | refine Ev_gtrN rfl rfl ?_
              | refine Ev_geqN rfl rfl ?_
              | refine Ev_eqlN rfl rfl ?_
              | refine Ev_neqN rfl rfl ?_
              | refine Ev_lss rfl rfl ?_
              | refine Ev_leq rfl rfl ?_
              | refine Ev_gtr rfl rfl ?_
              | refine Ev_geq rfl rfl ?_
              | refine Ev_eql rfl rfl ?_
              | refine Ev_neq rfl rfl ?_
              | refine Ev_seql rfl rfl ?_
              | refine Ev_sneq rfl rfl ?_
              | refine Ev_not rfl ?_
              | refine Ev_notb rfl ?_
              | refine Ev_nilCheck rfl ?_
              | refine Ev_fieldAddr rfl rfl rfl rfl rfl rfl ?_
              | refine Ev_len_str rfl rfl rfl rfl rfl ?_
              | refine Ev_len rfl rfl rfl rfl rfl rfl ?_
              | refine Ev_min rfl rfl rfl ?_
              | refine Ev_max rfl rfl rfl ?_
              | refine Ev_indexAddr rfl rfl rfl rfl rfl (by first | omega | (dsimp only; done) | (dsimp only; omega)) ?_
              | refine Ev_makeFunc rfl rfl ?_
              | refine Ev_conv_str rfl rfl rfl rfl rfl ?_
              | refine Ev_addN rfl rfl (by simp only [lim]; omega) ?_
              | refine Ev_subN rfl rfl (by simp only [lim]; omega) (by first | omega | (dsimp only; done) | (dsimp only; omega)) ?_
              | refine Ev_mulN rfl rfl (by simp only [lim]; omega) ?_
              | refine Ev_add rfl rfl (by simp only [inR]; omega) ?_
              | refine Ev_sub rfl rfl (by simp only [inR]; omega) ?_
              | refine Ev_mul rfl rfl (by simp only [inR]; omega) ?_
              | refine Ev_shrN (m := 6) (q := 64) rfl rfl rfl rfl ?_
              | refine Ev_shrN (m := 12) (q := 4096) rfl rfl rfl rfl ?_
              | refine Ev_shrN (m := 10) (q := 1024) rfl rfl rfl rfl ?_
              | refine Ev_shrN (m := 8) (q := 256) rfl rfl rfl rfl ?_
              | refine Ev_shrN (m := 4) (q := 16) rfl rfl rfl rfl ?_
              | refine Ev_shrN (m := 5) (q := 32) rfl rfl rfl rfl ?_
              | refine Ev_shrN (m := 7) (q := 128) rfl rfl rfl rfl ?_
              | refine Ev_shrN (m := 3) (q := 8) rfl rfl rfl rfl ?_
              | refine Ev_shrN (m := 18) (q := 262144) rfl rfl rfl rfl ?_
              | refine Ev_shlN (m := 6) (q := 64) rfl rfl rfl rfl (by simp only [lim]; omega) ?_
              | refine Ev_shlN (m := 12) (q := 4096) rfl rfl rfl rfl (by simp only [lim]; omega) ?_
              | refine Ev_shlN (m := 10) (q := 1024) rfl rfl rfl rfl (by simp only [lim]; omega) ?_
              | refine Ev_shlN (m := 8) (q := 256) rfl rfl rfl rfl (by simp only [lim]; omega) ?_
              | refine Ev_andN 3 8 rfl rfl rfl rfl (by simp only [lim]; omega) (by simp only [lim]; omega) ?_
              | refine Ev_andN 4 16 rfl rfl rfl rfl (by simp only [lim]; omega) (by simp only [lim]; omega) ?_
              | refine Ev_andN 5 32 rfl rfl rfl rfl (by simp only [lim]; omega) (by simp only [lim]; omega) ?_
              | refine Ev_andN 6 64 rfl rfl rfl rfl (by simp only [lim]; omega) (by simp only [lim]; omega) ?_
              | refine Ev_andN 10 1024 rfl rfl rfl rfl (by simp only [lim]; omega) (by simp only [lim]; omega) ?_
              | refine Ev_orN 4 rfl rfl rfl (by first | omega | (dsimp only; done) | (dsimp only; omega)) (by first | omega | (dsimp only; done) | (dsimp only; omega)) (by simp only [lim]; omega) ?_
              | refine Ev_orN 5 rfl rfl rfl (by first | omega | (dsimp only; done) | (dsimp only; omega)) (by first | omega | (dsimp only; done) | (dsimp only; omega)) (by simp only [lim]; omega) ?_
              | refine Ev_orN 6 rfl rfl rfl (by first | omega | (dsimp only; done) | (dsimp only; omega)) (by first | omega | (dsimp only; done) | (dsimp only; omega)) (by simp only [lim]; omega) ?_
              | refine Ev_orN 10 rfl rfl rfl (by first | omega | (dsimp only; done) | (dsimp only; omega)) (by first | omega | (dsimp only; done) | (dsimp only; omega)) (by simp only [lim]; omega) ?_
              | refine Ev_orN 12 rfl rfl rfl (by first | omega | (dsimp only; done) | (dsimp only; omega)) (by first | omega | (dsimp only; done) | (dsimp only; omega)) (by simp only [lim]; omega) ?_
              | refine Ev_orN 16 rfl rfl rfl (by first | omega | (dsimp only; done) | (dsimp only; omega)) (by first | omega | (dsimp only; done) | (dsimp only; omega)) (by simp only [lim]; omega) ?_
              | refine Ev_convN rfl rfl rfl rfl rfl (by simp only [lim]; omega) ?_
              | refine Ev_and8 rfl rfl (by first | omega | (dsimp only; done) | (dsimp only; omega)) (by first | omega | (dsimp only; done) | (dsimp only; omega)) (land_192 (by first | omega | (dsimp only; done) | (dsimp only; omega))) (by first | omega | (dsimp only; done) | (dsimp only; omega)) ?_
              | refine Ev_and8 rfl rfl (by first | omega | (dsimp only; done) | (dsimp only; omega)) (by first | omega | (dsimp only; done) | (dsimp only; omega)) (land_224 (by first | omega | (dsimp only; done) | (dsimp only; omega))) (by first | omega | (dsimp only; done) | (dsimp only; omega)) ?_
              | refine Ev_and8 rfl rfl (by first | omega | (dsimp only; done) | (dsimp only; omega)) (by first | omega | (dsimp only; done) | (dsimp only; omega)) (land_240 (by first | omega | (dsimp only; done) | (dsimp only; omega))) (by first | omega | (dsimp only; done) | (dsimp only; omega)) ?_
              | refine Ev_shr rfl rfl rfl rfl ?_
              | refine Ev_conv rfl rfl rfl rfl rfl (by simp only [inR]; omega) ?_
              | refine Ev_conv8 rfl rfl rfl rfl rfl ?_)
          refine back' (k + w) none (acc ++ runeL (n)) _ (by omega) ⟨rfl, by dsimp only; omega, ?_, fun m h => (by cases h), ?_, ?_⟩ ⟨rfl, rfl, rfl, rfl, trivial⟩
          · dsimp only
            rw [← heq, hrl, List.drop_drop, Option.map_map]
            congr 1; funext z; simp
          · dsimp only; rw [List.length_append]; have := runeL_len (n); omega
          · intro c h
            rcases List.mem_append.1 h with h | h
            · exact hlt c h
            · exact runeL_lt hokR c h
      | some m =>
        have hm := hhi m rfl
        show W X1 88 _ _ _ [(6, .int .i64 ((k : Nat) : Int)), (0, v), (4, .str acc), (5, .int .i64 ((m : Nat) : Int))] T
        repeat' (
          first
            | refine W_seq ?_
            | refine WO_nil ?_
            | refine V_seq ?_
            | refine W_region ?_
            | refine W_drawn (by kernel_rfl) ?_
            | refine W_block ?_
            | refine W_scope ?_
            | refine W_skip ?_
            | refine W_ret ?_
            | refine W_exit ?_
            | refine W_label ?_
            | refine V_ret ?_
            | refine V_block ?_
            | refine V_block_x rfl ?_
            | refine V_block_y rfl ?_
            | refine V_seq_x ?_
            | refine V_loop_x ?_
            | refine W_cond_t rfl ?_
            | refine W_cond_f rfl ?_
            | refine WO_dst rfl rfl (by kernel_rfl) (by kernel_rfl) ?_
            | refine WO_no rfl rfl ?_
            | refine WO_guard_t rfl rfl rfl rfl rfl (by kernel_rfl) (by kernel_rfl) ?_
            | refine WO_guard_f rfl rfl rfl rfl rfl rfl (by kernel_rfl) (by kernel_rfl) ?_
            | refine WO_guard_x rfl rfl rfl rfl rfl (by kernel_rfl) (by kernel_rfl) ?_
            | refine Ev_len rfl rfl rfl rfl rfl hv.len ?_
            | (refine Ev_call rfl rfl ((runit_runs hv hb hk (by omega)).mono ?_); rintro _ _ - ⟨rfl, rfl⟩; rw [hnw]; dsimp only)
            | refine Ev_move rfl ?_
            | refine Ev_assign rfl ?_
            | refine Ev_extract rfl rfl ?_
            | refine Ev_pick_t rfl rfl rfl ?_
            | refine Ev_pick_f rfl rfl rfl ?_
            | refine Ev_lssN rfl rfl ?_
            | refine Ev_leqN rfl rfl ?_
            | refine Ev_gtrN rfl rfl ?_
            | refine Ev_geqN rfl rfl ?_
            | refine Ev_eqlN rfl rfl ?_
            | refine Ev_neqN rfl rfl ?_
            | refine Ev_lss rfl rfl ?_
            | refine Ev_leq rfl rfl ?_
            | refine Ev_gtr rfl rfl ?_
            | refine Ev_geq rfl rfl ?_
            | refine Ev_eql rfl rfl ?_
            | refine Ev_neq rfl rfl ?_
            | refine Ev_seql rfl rfl ?_
            | refine Ev_sneq rfl rfl ?_
            | refine Ev_not rfl ?_
            | refine Ev_notb rfl ?_
            | refine Ev_nilCheck rfl ?_
            | refine Ev_fieldAddr rfl rfl rfl rfl rfl rfl ?_
            | refine Ev_len_str rfl rfl rfl rfl rfl ?_
            | refine Ev_len rfl rfl rfl rfl rfl rfl ?_
            | refine Ev_min rfl rfl rfl ?_
            | refine Ev_max rfl rfl rfl ?_
            | refine Ev_indexAddr rfl rfl rfl rfl rfl (by first | omega | (dsimp only; done) | (dsimp only; omega)) ?_
            | refine Ev_makeFunc rfl rfl ?_
            | refine Ev_conv_str rfl rfl rfl rfl rfl ?_
            | refine Ev_addN rfl rfl (by simp only [lim]; omega) ?_
            | refine Ev_subN rfl rfl (by simp only [lim]; omega) (by first | omega | (dsimp only; done) | (dsimp only; omega)) ?_
            | refine Ev_mulN rfl rfl (by simp only [lim]; omega) ?_
            | refine Ev_add rfl rfl (by simp only [inR]; omega) ?_
            | refine Ev_sub rfl rfl (by simp only [inR]; omega) ?_
            | refine Ev_mul rfl rfl (by simp only [inR]; omega) ?_
            | refine Ev_shrN (m := 6) (q := 64) rfl rfl rfl rfl ?_
            | refine Ev_shrN (m := 12) (q := 4096) rfl rfl rfl rfl ?_
            | refine Ev_shrN (m := 10) (q := 1024) rfl rfl rfl rfl ?_
            | refine Ev_shrN (m := 8) (q := 256) rfl rfl rfl rfl ?_
            | refine Ev_shrN (m := 4) (q := 16) rfl rfl rfl rfl ?_
            | refine Ev_shrN (m := 5) (q := 32) rfl rfl rfl rfl ?_
            | refine Ev_shrN (m := 7) (q := 128) rfl rfl rfl rfl ?_
            | refine Ev_shrN (m := 3) (q := 8) rfl rfl rfl rfl ?_
            | refine Ev_shrN (m := 18) (q := 262144) rfl rfl rfl rfl ?_
            | refine Ev_shlN (m := 6) (q := 64) rfl rfl rfl rfl (by simp only [lim]; omega) ?_
            | refine Ev_shlN (m := 12) (q := 4096) rfl rfl rfl rfl (by simp only [lim]; omega) ?_
            | refine Ev_shlN (m := 10) (q := 1024) rfl rfl rfl rfl (by simp only [lim]; omega) ?_
            | refine Ev_shlN (m := 8) (q := 256) rfl rfl rfl rfl (by simp only [lim]; omega) ?_
            | refine Ev_andN 3 8 rfl rfl rfl rfl (by simp only [lim]; omega) (by simp only [lim]; omega) ?_
            | refine Ev_andN 4 16 rfl rfl rfl rfl (by simp only [lim]; omega) (by simp only [lim]; omega) ?_
            | refine Ev_andN 5 32 rfl rfl rfl rfl (by simp only [lim]; omega) (by simp only [lim]; omega) ?_
            | refine Ev_andN 6 64 rfl rfl rfl rfl (by simp only [lim]; omega) (by simp only [lim]; omega) ?_
            | refine Ev_andN 10 1024 rfl rfl rfl rfl (by simp only [lim]; omega) (by simp only [lim]; omega) ?_
            | refine Ev_orN 4 rfl rfl rfl (by first | omega | (dsimp only; done) | (dsimp only; omega)) (by first | omega | (dsimp only; done) | (dsimp only; omega)) (by simp only [lim]; omega) ?_
            | refine Ev_orN 5 rfl rfl rfl (by first | omega | (dsimp only; done) | (dsimp only; omega)) (by first | omega | (dsimp only; done) | (dsimp only; omega)) (by simp only [lim]; omega) ?_
            | refine Ev_orN 6 rfl rfl rfl (by first | omega | (dsimp only; done) | (dsimp only; omega)) (by first | omega | (dsimp only; done) | (dsimp only; omega)) (by simp only [lim]; omega) ?_
            | refine Ev_orN 10 rfl rfl rfl (by first | omega | (dsimp only; done) | (dsimp only; omega)) (by first | omega | (dsimp only; done) | (dsimp only; omega)) (by simp only [lim]; omega) ?_
            | refine Ev_orN 12 rfl rfl rfl (by first | omega | (dsimp only; done) | (dsimp only; omega)) (by first | omega | (dsimp only; done) | (dsimp only; omega)) (by simp only [lim]; omega) ?_
            | refine Ev_orN 16 rfl rfl rfl (by first | omega | (dsimp only; done) | (dsimp only; omega)) (by first | omega | (dsimp only; done) | (dsimp only; omega)) (by simp only [lim]; omega) ?_
            | refine Ev_convN rfl rfl rfl rfl rfl (by simp only [lim]; omega) ?_
            | refine Ev_and8 rfl rfl (by first | omega | (dsimp only; done) | (dsimp only; omega)) (by first | omega | (dsimp only; done) | (dsimp only; omega)) (land_192 (by first | omega | (dsimp only; done) | (dsimp only; omega))) (by first | omega | (dsimp only; done) | (dsimp only; omega)) ?_
            | refine Ev_and8 rfl rfl (by first | omega | (dsimp only; done) | (dsimp only; omega)) (by first | omega | (dsimp only; done) | (dsimp only; omega)) (land_224 (by first | omega | (dsimp only; done) | (dsimp only; omega))) (by first | omega | (dsimp only; done) | (dsimp only; omega)) ?_
            | refine Ev_and8 rfl rfl (by first | omega | (dsimp only; done) | (dsimp only; omega)) (by first | omega | (dsimp only; done) | (dsimp only; omega)) (land_240 (by first | omega | (dsimp only; done) | (dsimp only; omega))) (by first | omega | (dsimp only; done) | (dsimp only; omega)) ?_
            | refine Ev_shr rfl rfl rfl rfl ?_
            | refine Ev_conv rfl rfl rfl rfl rfl (by simp only [inR]; omega) ?_
            | refine Ev_conv8 rfl rfl rfl rfl rfl ?_
            | (refine WO_guard_dt rfl rfl rfl rfl rfl (by kernel_rfl) (by kernel_rfl) (fun hg => ?_) (fun hg => ?_) <;> (try dsimp only at hg) <;> try (exfalso; first | omega | exact hg rfl))
            | (refine WO_guard_df rfl rfl rfl rfl rfl (by kernel_rfl) (by kernel_rfl) (fun hg => ?_) (fun hg => ?_) <;> (try dsimp only at hg) <;> try (exfalso; first | omega | exact hg rfl))
            | (refine W_cond rfl (fun hc => ?_) (fun hc => ?_) <;> (try dsimp only at hc) <;> try (exfalso; first | omega | exact hc rfl)))
        · rw [dif_pos (by omega)] at hrl
          have hnone : rl l none = none := by rw [← heq, hrl]; rfl
          have hd := ref_none hb hnone
          refine V_done rfl rfl ?_
          exact ⟨⟨by omega, by omega, hok, fun _ _ _ => rfl⟩, by rw [hd]; rfl⟩
        · rw [dif_neg (by omega), if_pos ⟨by omega, by omega, rfl⟩, Option.getD_some] at hrl
          have hokR : okR (65536 + (m - 55296) * 1024 + (n - 56320)) := by unfold okR; omega
          refine Ev_conv_rune rfl rfl rfl rfl rfl ?_
          rw [encodeR_runeL hokR]
          repeat (
            first
              | refine W_seq ?_
              | refine WO_nil ?_
              | refine V_seq ?_
              | refine W_region ?_
              | refine W_drawn (by kernel_rfl) ?_
              | refine W_block ?_
              | refine W_scope ?_
              | refine W_skip ?_
              | refine W_ret ?_
              | refine W_exit ?_
              | refine W_label ?_
              | refine V_ret ?_
              | refine V_block ?_
              | refine V_block_x rfl ?_
              | refine V_block_y rfl ?_
              | refine V_seq_x ?_
              | refine V_loop_x ?_
              | refine W_cond_t rfl ?_
              | refine W_cond_f rfl ?_
              | refine WO_dst rfl rfl (by kernel_rfl) (by kernel_rfl) ?_
              | refine WO_no rfl rfl ?_
              | refine WO_guard_t rfl rfl rfl rfl rfl (by kernel_rfl) (by kernel_rfl) ?_
              | refine WO_guard_f rfl rfl rfl rfl rfl rfl (by kernel_rfl) (by kernel_rfl) ?_
              | refine WO_guard_x rfl rfl rfl rfl rfl (by kernel_rfl) (by kernel_rfl) ?_
              | refine Ev_move rfl ?_
              | refine Ev_assign rfl ?_
              | refine Ev_extract rfl rfl ?_
              | refine Ev_pick_t rfl rfl rfl ?_
              | refine Ev_pick_f rfl rfl rfl ?_
              | refine Ev_lssN rfl rfl ?_
              | refine Ev_leqN rfl rfl ?_
              | refine Ev_gtrN rfl rfl ?_
              | refine Ev_geqN rfl rfl ?_
              | refine Ev_eqlN rfl rfl ?_
              | refine Ev_neqN rfl rfl ?_
              | refine Ev_lss rfl rfl ?_
              | refine Ev_leq rfl rfl ?_
              | refine Ev_gtr rfl rfl ?_
              | refine Ev_geq rfl rfl ?_
              | refine Ev_eql rfl rfl ?_
              | refine Ev_neq rfl rfl ?_
              | refine Ev_seql rfl rfl ?_
              | refine Ev_sneq rfl rfl ?_
              | refine Ev_not rfl ?_
              | refine Ev_notb rfl ?_
              | refine Ev_nilCheck rfl ?_
              | refine Ev_fieldAddr rfl rfl rfl rfl rfl rfl ?_
              | refine Ev_len_str rfl rfl rfl rfl rfl ?_
              | refine Ev_len rfl rfl rfl rfl rfl rfl ?_
              | refine Ev_min rfl rfl rfl ?_
              | refine Ev_max rfl rfl rfl ?_
              | refine Ev_indexAddr rfl rfl rfl rfl rfl (by first | omega | (dsimp only; done) | (dsimp only; omega)) ?_
              | refine Ev_makeFunc rfl rfl ?_
              | refine Ev_conv_str rfl rfl rfl rfl rfl ?_
              | refine Ev_addN rfl rfl (by simp only [lim]; omega) ?_
              | refine Ev_subN rfl rfl (by simp only [lim]; omega) (by first | omega | (dsimp only; done) | (dsimp only; omega)) ?_
              | refine Ev_mulN rfl rfl (by simp only [lim]; omega) ?_
              | refine Ev_add rfl rfl (by simp only [inR]; omega) ?_
              | refine Ev_sub rfl rfl (by simp only [inR]; omega) ?_
              | refine Ev_mul rfl rfl (by simp only [inR]; omega) ?_
              | refine Ev_shrN (m := 6) (q := 64) rfl rfl rfl rfl ?_
              | refine Ev_shrN (m := 12) (q := 4096) rfl rfl rfl rfl ?_
              | refine Ev_shrN (m := 10) (q := 1024) rfl rfl rfl rfl ?_
              | refine Ev_shrN (m := 8) (q := 256) rfl rfl rfl rfl ?_
              | refine Ev_shrN (m := 4) (q := 16) rfl rfl rfl rfl ?_
              | refine Ev_shrN (m := 5) (q := 32) rfl rfl rfl rfl ?_
              | refine Ev_shrN (m := 7) (q := 128) rfl rfl rfl rfl ?_
              | refine Ev_shrN (m := 3) (q := 8) rfl rfl rfl rfl ?_
              | refine Ev_shrN (m := 18) (q := 262144) rfl rfl rfl rfl ?_
              | refine Ev_shlN (m := 6) (q := 64) rfl rfl rfl rfl (by simp only [lim]; omega) ?_
              | refine Ev_shlN (m := 12) (q := 4096) rfl rfl rfl rfl (by simp only [lim]; omega) ?_
              | refine Ev_shlN (m := 10) (q := 1024) rfl rfl rfl rfl (by simp only [lim]; omega) ?_
              | refine Ev_shlN (m := 8) (q := 256) rfl rfl rfl rfl (by simp only [lim]; omega) ?_
              | refine Ev_andN 3 8 rfl rfl rfl rfl (by simp only [lim]; omega) (by simp only [lim]; omega) ?_
              | refine Ev_andN 4 16 rfl rfl rfl rfl (by simp only [lim]; omega) (by simp only [lim]; omega) ?_
              | refine Ev_andN 5 32 rfl rfl rfl rfl (by simp only [lim]; omega) (by simp only [lim]; omega) ?_
              | refine Ev_andN 6 64 rfl rfl rfl rfl (by simp only [lim]; omega) (by simp only [lim]; omega) ?_
              | refine Ev_andN 10 1024 rfl rfl rfl rfl (by simp only [lim]; omega) (by simp only [lim]; omega) ?_
              | refine Ev_orN 4 rfl rfl rfl (by first | omega | (dsimp only; done) | (dsimp only; omega)) (by first | omega | (dsimp only; done) | (dsimp only; omega)) (by simp only [lim]; omega) ?_
              | refine Ev_orN 5 rfl rfl rfl (by first | omega | (dsimp only; done) | (dsimp only; omega)) (by first | omega | (dsimp only; done) | (dsimp only; omega)) (by simp only [lim]; omega) ?_
              | refine Ev_orN 6 rfl rfl rfl (by first | omega | (dsimp only; done) | (dsimp only; omega)) (by first | omega | (dsimp only; done) | (dsimp only; omega)) (by simp only [lim]; omega) ?_
              | refine Ev_orN 10 rfl rfl rfl (by first | omega | (dsimp only; done) | (dsimp only; omega)) (by first | omega | (dsimp only; done) | (dsimp only; omega)) (by simp only [lim]; omega) ?_
              | refine Ev_orN 12 rfl rfl rfl (by first | omega | (dsimp only; done) | (dsimp only; omega)) (by first | omega | (dsimp only; done) | (dsimp only; omega)) (by simp only [lim]; omega) ?_
              | refine Ev_orN 16 rfl rfl rfl (by first | omega | (dsimp only; done) | (dsimp only; omega)) (by first | omega | (dsimp only; done) | (dsimp only; omega)) (by simp only [lim]; omega) ?_
              | refine Ev_convN rfl rfl rfl rfl rfl (by simp only [lim]; omega) ?_
              | refine Ev_and8 rfl rfl (by first | omega | (dsimp only; done) | (dsimp only; omega)) (by first | omega | (dsimp only; done) | (dsimp only; omega)) (land_192 (by first | omega | (dsimp only; done) | (dsimp only; omega))) (by first | omega | (dsimp only; done) | (dsimp only; omega)) ?_
              | refine Ev_and8 rfl rfl (by first | omega | (dsimp only; done) | (dsimp only; omega)) (by first | omega | (dsimp only; done) | (dsimp only; omega)) (land_224 (by first | omega | (dsimp only; done) | (dsimp only; omega))) (by first | omega | (dsimp only; done) | (dsimp only; omega)) ?_
              | refine Ev_and8 rfl rfl (by first | omega | (dsimp only; done) | (dsimp only; omega)) (by first | omega | (dsimp only; done) | (dsimp only; omega)) (land_240 (by first | omega | (dsimp only; done) | (dsimp only; omega))) (by first | omega | (dsimp only; done) | (dsimp only; omega)) ?_
              | refine Ev_shr rfl rfl rfl rfl ?_
              | refine Ev_conv rfl rfl rfl rfl rfl (by simp only [inR]; omega) ?_
              | refine Ev_conv8 rfl rfl rfl rfl rfl ?_)
          refine Ev_sadd rfl rfl (by have := runeL_len (65536 + (m - 55296) * 1024 + (n - 56320)); omega) ?_
          repeat (
            first
              | refine W_seq ?_
              | refine WO_nil ?_
              | refine V_seq ?_
              | refine W_region ?_
              | refine W_drawn (by kernel_rfl) ?_
              | refine W_block ?_
              | refine W_scope ?_
              | refine W_skip ?_
              | refine W_ret ?_
              | refine W_exit ?_
              | refine W_label ?_
              | refine V_ret ?_
              | refine V_block ?_
              | refine V_block_x rfl ?_
              | refine V_block_y rfl ?_
              | refine V_seq_x ?_
              | refine V_loop_x ?_
              | refine W_cond_t rfl ?_
              | refine W_cond_f rfl ?_
              | refine WO_dst rfl rfl (by kernel_rfl) (by kernel_rfl) ?_
              | refine WO_no rfl rfl ?_
              | refine WO_guard_t rfl rfl rfl rfl rfl (by kernel_rfl) (by kernel_rfl) ?_
              | refine WO_guard_f rfl rfl rfl rfl rfl rfl (by kernel_rfl) (by kernel_rfl) ?_
              | refine WO_guard_x rfl rfl rfl rfl rfl (by kernel_rfl) (by kernel_rfl) ?_
              | refine Ev_move rfl ?_
              | refine Ev_assign rfl ?_
              | refine Ev_extract rfl rfl ?_
              | refine Ev_pick_t rfl rfl rfl ?_
              | refine Ev_pick_f rfl rfl rfl ?_
              | refine Ev_lssN rfl rfl ?_
              | refine Ev_leqN rfl rfl ?_
              | refine Ev_gtrN rfl rfl ?_
              | refine Ev_geqN rfl rfl ?_
              | refine Ev_eqlN rfl rfl ?_
              | refine Ev_neqN rfl rfl ?_
              | refine Ev_lss rfl rfl ?_
              | refine Ev_leq rfl rfl ?_
              | refine Ev_gtr rfl rfl ?_
              | refine Ev_geq rfl rfl ?_
              | refine Ev_eql rfl rfl ?_
              | refine Ev_neq rfl rfl ?_
              | refine Ev_seql rfl rfl ?_
              | refine Ev_sneq rfl rfl ?_
              | refine Ev_not rfl ?_
              | refine Ev_notb rfl ?_
              | refine Ev_nilCheck rfl ?_
              | refine Ev_fieldAddr rfl rfl rfl rfl rfl rfl ?_
              | refine Ev_len_str rfl rfl rfl rfl rfl ?_
              | refine Ev_len rfl rfl rfl rfl rfl rfl ?_
              | refine Ev_min rfl rfl rfl ?_
              | refine Ev_max rfl rfl rfl ?_
              | refine Ev_indexAddr rfl rfl rfl rfl rfl (by first | omega | (dsimp only; done) | (dsimp only; omega)) ?_
              | refine Ev_makeFunc rfl rfl ?_
              | refine Ev_conv_str rfl rfl rfl rfl rfl ?_
              | refine Ev_addN rfl rfl (by simp only [lim]; omega) ?_
              | refine Ev_subN rfl rfl (by simp only [lim]; omega) (by first | omega | (dsimp only; done) | (dsimp only; omega)) ?_
              | refine Ev_mulN rfl rfl (by simp only [lim]; omega) ?_
              | refine Ev_add rfl rfl (by simp only [inR]; omega) ?_
              | refine Ev_sub rfl rfl (by simp only [inR]; omega) ?_
              | refine Ev_mul rfl rfl (by simp only [inR]; omega) ?_
              | refine Ev_shrN (m := 6) (q := 64) rfl rfl rfl rfl ?_
              | refine Ev_shrN (m := 12) (q := 4096) rfl rfl rfl rfl ?_
              | refine Ev_shrN (m := 10) (q := 1024) rfl rfl rfl rfl ?_
              | refine Ev_shrN (m := 8) (q := 256) rfl rfl rfl rfl ?_
              | refine Ev_shrN (m := 4) (q := 16) rfl rfl rfl rfl ?_
              | refine Ev_shrN (m := 5) (q := 32) rfl rfl rfl rfl ?_
              | refine Ev_shrN (m := 7) (q := 128) rfl rfl rfl rfl ?_
              | refine Ev_shrN (m := 3) (q := 8) rfl rfl rfl rfl ?_
              | refine Ev_shrN (m := 18) (q := 262144) rfl rfl rfl rfl ?_
              | refine Ev_shlN (m := 6) (q := 64) rfl rfl rfl rfl (by simp only [lim]; omega) ?_
              | refine Ev_shlN (m := 12) (q := 4096) rfl rfl rfl rfl (by simp only [lim]; omega) ?_
              | refine Ev_shlN (m := 10) (q := 1024) rfl rfl rfl rfl (by simp only [lim]; omega) ?_
              | refine Ev_shlN (m := 8) (q := 256) rfl rfl rfl rfl (by simp only [lim]; omega) ?_
              | refine Ev_andN 3 8 rfl rfl rfl rfl (by simp only [lim]; omega) (by simp only [lim]; omega) ?_
              | refine Ev_andN 4 16 rfl rfl rfl rfl (by simp only [lim]; omega) (by simp only [lim]; omega) ?_
              | refine Ev_andN 5 32 rfl rfl rfl rfl (by simp only [lim]; omega) (by simp only [lim]; omega) ?_
              | refine Ev_andN 6 64 rfl rfl rfl rfl (by simp only [lim]; omega) (by simp only [lim]; omega) ?_
              | refine Ev_andN 10 1024 rfl rfl rfl rfl (by simp only [lim]; omega) (by simp only [lim]; omega) ?_
              | refine Ev_orN 4 rfl rfl rfl (by first | omega | (dsimp only; done) | (dsimp only; omega)) (by first | omega | (dsimp only; done) | (dsimp only; omega)) (by simp only [lim]; omega) ?_
              | refine Ev_orN 5 rfl rfl rfl (by first | omega | (dsimp only; done) | (dsimp only; omega)) (by first | omega | (dsimp only; done) | (dsimp only; omega)) (by simp only [lim]; omega) ?_
              | refine Ev_orN 6 rfl rfl rfl (by first | omega | (dsimp only; done) | (dsimp only; omega)) (by first | omega | (dsimp only; done) | (dsimp only; omega)) (by simp only [lim]; omega) ?_
              | refine Ev_orN 10 rfl rfl rfl (by first | omega | (dsimp only; done) | (dsimp only; omega)) (by first | omega | (dsimp only; done) | (dsimp only; omega)) (by simp only [lim]; omega) ?_
              | refine Ev_orN 12 rfl rfl rfl (by first | omega | (dsimp only; done) | (dsimp only; omega)) (by first | omega | (dsimp only; done) | (dsimp only; omega)) (by simp only [lim]; omega) ?_
              | refine Ev_orN 16 rfl rfl rfl (by first | omega | (dsimp only; done) | (dsimp only; omega)) (by first | omega | (dsimp only; done) | (dsimp only; omega)) (by simp only [lim]; omega) ?_
              | refine Ev_convN rfl rfl rfl rfl rfl (by simp only [lim]; omega) ?_
              | refine Ev_and8 rfl rfl (by first | omega | (dsimp only; done) | (dsimp only; omega)) (by first | omega | (dsimp only; done) | (dsimp only; omega)) (land_192 (by first | omega | (dsimp only; done) | (dsimp only; omega))) (by first | omega | (dsimp only; done) | (dsimp only; omega)) ?_
              | refine Ev_and8 rfl rfl (by first | omega | (dsimp only; done) | (dsimp only; omega)) (by first | omega | (dsimp only; done) | (dsimp only; omega)) (land_224 (by first | omega | (dsimp only; done) | (dsimp only; omega))) (by first | omega | (dsimp only; done) | (dsimp only; omega)) ?_
              | refine Ev_and8 rfl rfl (by first | omega | (dsimp only; done) | (dsimp only; omega)) (by first | omega | (dsimp only; done) | (dsimp only; omega)) (land_240 (by first | omega | (dsimp only; done) | (dsimp only; omega))) (by first | omega | (dsimp only; done) | (dsimp only; omega)) ?_
              | refine Ev_shr rfl rfl rfl rfl ?_
              | refine Ev_conv rfl rfl rfl rfl rfl (by simp only [inR]; omega) ?_
              | refine Ev_conv8 rfl rfl rfl rfl rfl ?_)
          refine back' (k + w) none (acc ++ runeL (65536 + (m - 55296) * 1024 + (n - 56320))) _ (by omega) ⟨rfl, by dsimp only; omega, ?_, fun m h => (by cases h), ?_, ?_⟩ ⟨rfl, rfl, rfl, rfl, trivial⟩
          · dsimp only
            rw [← heq, hrl, List.drop_drop, Option.map_map]
            congr 1; funext z; simp
          · dsimp only; rw [List.length_append]; have := runeL_len (65536 + (m - 55296) * 1024 + (n - 56320)); omega
          · intro c h
            rcases List.mem_append.1 h with h | h
            · exact hlt c h
            · exact runeL_lt hokR c h
        · rw [dif_neg (by omega), if_neg (by omega), if_pos (.inl rfl)] at hrl
          have hnone : rl l none = none := by rw [← heq, hrl]; rfl
          have hd := ref_none hb hnone
          refine V_done rfl rfl ?_
          exact ⟨⟨by omega, by omega, hok, fun _ _ _ => rfl⟩, by rw [hd]; rfl⟩
        · rw [dif_neg (by omega), if_neg (by omega), if_pos (.inl rfl)] at hrl
          have hnone : rl l none = none := by rw [← heq, hrl]; rfl
          have hd := ref_none hb hnone
          refine V_done rfl rfl ?_
          exact ⟨⟨by omega, by omega, hok, fun _ _ _ => rfl⟩, by rw [hd]; rfl⟩
    · have hkl : l.drop k = [] := List.drop_eq_nil_of_le (by omega)
      rw [hkl, rl, dif_pos rfl] at heq
      repeat' (
        first
          | refine W_seq ?_
          | refine WO_nil ?_
          | refine V_seq ?_
          | refine W_region ?_
          | refine W_drawn (by kernel_rfl) ?_
          | refine W_block ?_
          | refine W_scope ?_
          | refine W_skip ?_
          | refine W_ret ?_
          | refine W_exit ?_
          | refine W_label ?_
          | refine V_ret ?_
          | refine V_block ?_
          | refine V_block_x rfl ?_
          | refine V_block_y rfl ?_
          | refine V_seq_x ?_
          | refine V_loop_x ?_
          | refine W_cond_t rfl ?_
          | refine W_cond_f rfl ?_
          | refine WO_dst rfl rfl (by kernel_rfl) (by kernel_rfl) ?_
          | refine WO_no rfl rfl ?_
          | refine WO_guard_t rfl rfl rfl rfl rfl (by kernel_rfl) (by kernel_rfl) ?_
          | refine WO_guard_f rfl rfl rfl rfl rfl rfl (by kernel_rfl) (by kernel_rfl) ?_
          | refine WO_guard_x rfl rfl rfl rfl rfl (by kernel_rfl) (by kernel_rfl) ?_
          | refine Ev_len rfl rfl rfl rfl rfl hv.len ?_
          | refine Ev_move rfl ?_
          | refine Ev_assign rfl ?_
          | refine Ev_extract rfl rfl ?_
          | refine Ev_pick_t rfl rfl rfl ?_
          | refine Ev_pick_f rfl rfl rfl ?_
          | refine Ev_lssN rfl rfl ?_
          | refine Ev_leqN rfl rfl ?_
          | refine Ev_gtrN rfl rfl ?_
          | refine Ev_geqN rfl rfl ?_
          | refine Ev_eqlN rfl rfl ?_
          | refine Ev_neqN rfl rfl ?_
          | refine Ev_lss rfl rfl ?_
          | refine Ev_leq rfl rfl ?_
          | refine Ev_gtr rfl rfl ?_
          | refine Ev_geq rfl rfl ?_
          | refine Ev_eql rfl rfl ?_
          | refine Ev_neq rfl rfl ?_
          | refine Ev_seql rfl rfl ?_
          | refine Ev_sneq rfl rfl ?_
          | refine Ev_not rfl ?_
          | refine Ev_notb rfl ?_
          | refine Ev_nilCheck rfl ?_
          | refine Ev_fieldAddr rfl rfl rfl rfl rfl rfl ?_
          | refine Ev_len_str rfl rfl rfl rfl rfl ?_
          | refine Ev_len rfl rfl rfl rfl rfl rfl ?_
          | refine Ev_min rfl rfl rfl ?_
          | refine Ev_max rfl rfl rfl ?_
          | refine Ev_indexAddr rfl rfl rfl rfl rfl (by first | omega | (dsimp only; done) | (dsimp only; omega)) ?_
          | refine Ev_makeFunc rfl rfl ?_
          | refine Ev_conv_str rfl rfl rfl rfl rfl ?_
          | refine Ev_addN rfl rfl (by simp only [lim]; omega) ?_
          | refine Ev_subN rfl rfl (by simp only [lim]; omega) (by first | omega | (dsimp only; done) | (dsimp only; omega)) ?_
          | refine Ev_mulN rfl rfl (by simp only [lim]; omega) ?_
          | refine Ev_add rfl rfl (by simp only [inR]; omega) ?_
          | refine Ev_sub rfl rfl (by simp only [inR]; omega) ?_
          | refine Ev_mul rfl rfl (by simp only [inR]; omega) ?_
          | refine Ev_shrN (m := 6) (q := 64) rfl rfl rfl rfl ?_
          | refine Ev_shrN (m := 12) (q := 4096) rfl rfl rfl rfl ?_
          | refine Ev_shrN (m := 10) (q := 1024) rfl rfl rfl rfl ?_
          | refine Ev_shrN (m := 8) (q := 256) rfl rfl rfl rfl ?_
          | refine Ev_shrN (m := 4) (q := 16) rfl rfl rfl rfl ?_
          | refine Ev_shrN (m := 5) (q := 32) rfl rfl rfl rfl ?_
          | refine Ev_shrN (m := 7) (q := 128) rfl rfl rfl rfl ?_
          | refine Ev_shrN (m := 3) (q := 8) rfl rfl rfl rfl ?_
          | refine Ev_shrN (m := 18) (q := 262144) rfl rfl rfl rfl ?_
          | refine Ev_shlN (m := 6) (q := 64) rfl rfl rfl rfl (by simp only [lim]; omega) ?_
          | refine Ev_shlN (m := 12) (q := 4096) rfl rfl rfl rfl (by simp only [lim]; omega) ?_
          | refine Ev_shlN (m := 10) (q := 1024) rfl rfl rfl rfl (by simp only [lim]; omega) ?_
          | refine Ev_shlN (m := 8) (q := 256) rfl rfl rfl rfl (by simp only [lim]; omega) ?_
          | refine Ev_andN 3 8 rfl rfl rfl rfl (by simp only [lim]; omega) (by simp only [lim]; omega) ?_
          | refine Ev_andN 4 16 rfl rfl rfl rfl (by simp only [lim]; omega) (by simp only [lim]; omega) ?_
          | refine Ev_andN 5 32 rfl rfl rfl rfl (by simp only [lim]; omega) (by simp only [lim]; omega) ?_
          | refine Ev_andN 6 64 rfl rfl rfl rfl (by simp only [lim]; omega) (by simp only [lim]; omega) ?_
          | refine Ev_andN 10 1024 rfl rfl rfl rfl (by simp only [lim]; omega) (by simp only [lim]; omega) ?_
          | refine Ev_orN 4 rfl rfl rfl (by first | omega | (dsimp only; done) | (dsimp only; omega)) (by first | omega | (dsimp only; done) | (dsimp only; omega)) (by simp only [lim]; omega) ?_
          | refine Ev_orN 5 rfl rfl rfl (by first | omega | (dsimp only; done) | (dsimp only; omega)) (by first | omega | (dsimp only; done) | (dsimp only; omega)) (by simp only [lim]; omega) ?_
          | refine Ev_orN 6 rfl rfl rfl (by first | omega | (dsimp only; done) | (dsimp only; omega)) (by first | omega | (dsimp only; done) | (dsimp only; omega)) (by simp only [lim]; omega) ?_
          | refine Ev_orN 10 rfl rfl rfl (by first | omega | (dsimp only; done) | (dsimp only; omega)) (by first | omega | (dsimp only; done) | (dsimp only; omega)) (by simp only [lim]; omega) ?_
          | refine Ev_orN 12 rfl rfl rfl (by first | omega | (dsimp only; done) | (dsimp only; omega)) (by first | omega | (dsimp only; done) | (dsimp only; omega)) (by simp only [lim]; omega) ?_
          | refine Ev_orN 16 rfl rfl rfl (by first | omega | (dsimp only; done) | (dsimp only; omega)) (by first | omega | (dsimp only; done) | (dsimp only; omega)) (by simp only [lim]; omega) ?_
          | refine Ev_convN rfl rfl rfl rfl rfl (by simp only [lim]; omega) ?_
          | refine Ev_and8 rfl rfl (by first | omega | (dsimp only; done) | (dsimp only; omega)) (by first | omega | (dsimp only; done) | (dsimp only; omega)) (land_192 (by first | omega | (dsimp only; done) | (dsimp only; omega))) (by first | omega | (dsimp only; done) | (dsimp only; omega)) ?_
          | refine Ev_and8 rfl rfl (by first | omega | (dsimp only; done) | (dsimp only; omega)) (by first | omega | (dsimp only; done) | (dsimp only; omega)) (land_224 (by first | omega | (dsimp only; done) | (dsimp only; omega))) (by first | omega | (dsimp only; done) | (dsimp only; omega)) ?_
          | refine Ev_and8 rfl rfl (by first | omega | (dsimp only; done) | (dsimp only; omega)) (by first | omega | (dsimp only; done) | (dsimp only; omega)) (land_240 (by first | omega | (dsimp only; done) | (dsimp only; omega))) (by first | omega | (dsimp only; done) | (dsimp only; omega)) ?_
          | refine Ev_shr rfl rfl rfl rfl ?_
          | refine Ev_conv rfl rfl rfl rfl rfl (by simp only [inR]; omega) ?_
          | refine Ev_conv8 rfl rfl rfl rfl rfl ?_
          | (refine WO_guard_dt rfl rfl rfl rfl rfl (by kernel_rfl) (by kernel_rfl) (fun hg => ?_) (fun hg => ?_) <;> (try dsimp only at hg) <;> try (exfalso; first | omega | exact hg rfl))
          | (refine WO_guard_df rfl rfl rfl rfl rfl (by kernel_rfl) (by kernel_rfl) (fun hg => ?_) (fun hg => ?_) <;> (try dsimp only at hg) <;> try (exfalso; first | omega | exact hg rfl))
          | (refine W_cond rfl (fun hc => ?_) (fun hc => ?_) <;> (try dsimp only at hc) <;> try (exfalso; first | omega | exact hc rfl)))
      refine Ev_call rfl rfl ((renc_runs (s := acc) hok hlt (by omega) (by omega)).mono ?_)
      rintro _ S1 - ⟨⟨hle1, hn1, hok1, hf1⟩, vx, rfl, hx, hbx⟩
      have hv1 : Br S1 v l := hv.keep fun c h => hf1 c (by simp [blkOf]) (hv.lt hok h)
      have hfr : Fr T S1 .nils (16 * l.length + 2) := ⟨hle1, by omega, hok1, hf1⟩
      cases h with
      | some m =>
        have hd := ref_none hb (by rw [← heq]; rfl)
        repeat' (
          first
            | refine W_seq ?_
            | refine WO_nil ?_
            | refine V_seq ?_
            | refine W_region ?_
            | refine W_drawn (by kernel_rfl) ?_
            | refine W_block ?_
            | refine W_scope ?_
            | refine W_skip ?_
            | refine W_ret ?_
            | refine W_exit ?_
            | refine W_label ?_
            | refine V_ret ?_
            | refine V_block ?_
            | refine V_block_x rfl ?_
            | refine V_block_y rfl ?_
            | refine V_seq_x ?_
            | refine V_loop_x ?_
            | refine W_cond_t rfl ?_
            | refine W_cond_f rfl ?_
            | refine WO_dst rfl rfl (by kernel_rfl) (by kernel_rfl) ?_
            | refine WO_no rfl rfl ?_
            | refine WO_guard_t rfl rfl rfl rfl rfl (by kernel_rfl) (by kernel_rfl) ?_
            | refine WO_guard_f rfl rfl rfl rfl rfl rfl (by kernel_rfl) (by kernel_rfl) ?_
            | refine WO_guard_x rfl rfl rfl rfl rfl (by kernel_rfl) (by kernel_rfl) ?_
            | refine Ev_move rfl ?_
            | refine Ev_assign rfl ?_
            | refine Ev_extract rfl rfl ?_
            | refine Ev_pick_t rfl rfl rfl ?_
            | refine Ev_pick_f rfl rfl rfl ?_
            | refine Ev_lssN rfl rfl ?_
            | refine Ev_leqN rfl rfl ?_
            | refine Ev_gtrN rfl rfl ?_
            | refine Ev_geqN rfl rfl ?_
            | refine Ev_eqlN rfl rfl ?_
            | refine Ev_neqN rfl rfl ?_
            | refine Ev_lss rfl rfl ?_
            | refine Ev_leq rfl rfl ?_
            | refine Ev_gtr rfl rfl ?_
            | refine Ev_geq rfl rfl ?_
            | refine Ev_eql rfl rfl ?_
            | refine Ev_neq rfl rfl ?_
            | refine Ev_seql rfl rfl ?_
            | refine Ev_sneq rfl rfl ?_
            | refine Ev_not rfl ?_
            | refine Ev_notb rfl ?_
            | refine Ev_nilCheck rfl ?_
            | refine Ev_fieldAddr rfl rfl rfl rfl rfl rfl ?_
            | refine Ev_len_str rfl rfl rfl rfl rfl ?_
            | refine Ev_len rfl rfl rfl rfl rfl rfl ?_
            | refine Ev_min rfl rfl rfl ?_
            | refine Ev_max rfl rfl rfl ?_
            | refine Ev_indexAddr rfl rfl rfl rfl rfl (by first | omega | (dsimp only; done) | (dsimp only; omega)) ?_
            | refine Ev_makeFunc rfl rfl ?_
            | refine Ev_conv_str rfl rfl rfl rfl rfl ?_
            | refine Ev_addN rfl rfl (by simp only [lim]; omega) ?_
            | refine Ev_subN rfl rfl (by simp only [lim]; omega) (by first | omega | (dsimp only; done) | (dsimp only; omega)) ?_
            | refine Ev_mulN rfl rfl (by simp only [lim]; omega) ?_
            | refine Ev_add rfl rfl (by simp only [inR]; omega) ?_
            | refine Ev_sub rfl rfl (by simp only [inR]; omega) ?_
            | refine Ev_mul rfl rfl (by simp only [inR]; omega) ?_
            | refine Ev_shrN (m := 6) (q := 64) rfl rfl rfl rfl ?_
            | refine Ev_shrN (m := 12) (q := 4096) rfl rfl rfl rfl ?_
            | refine Ev_shrN (m := 10) (q := 1024) rfl rfl rfl rfl ?_
            | refine Ev_shrN (m := 8) (q := 256) rfl rfl rfl rfl ?_
            | refine Ev_shrN (m := 4) (q := 16) rfl rfl rfl rfl ?_
            | refine Ev_shrN (m := 5) (q := 32) rfl rfl rfl rfl ?_
            | refine Ev_shrN (m := 7) (q := 128) rfl rfl rfl rfl ?_
            | refine Ev_shrN (m := 3) (q := 8) rfl rfl rfl rfl ?_
            | refine Ev_shrN (m := 18) (q := 262144) rfl rfl rfl rfl ?_
            | refine Ev_shlN (m := 6) (q := 64) rfl rfl rfl rfl (by simp only [lim]; omega) ?_
            | refine Ev_shlN (m := 12) (q := 4096) rfl rfl rfl rfl (by simp only [lim]; omega) ?_
            | refine Ev_shlN (m := 10) (q := 1024) rfl rfl rfl rfl (by simp only [lim]; omega) ?_
            | refine Ev_shlN (m := 8) (q := 256) rfl rfl rfl rfl (by simp only [lim]; omega) ?_
            | refine Ev_andN 3 8 rfl rfl rfl rfl (by simp only [lim]; omega) (by simp only [lim]; omega) ?_
            | refine Ev_andN 4 16 rfl rfl rfl rfl (by simp only [lim]; omega) (by simp only [lim]; omega) ?_
            | refine Ev_andN 5 32 rfl rfl rfl rfl (by simp only [lim]; omega) (by simp only [lim]; omega) ?_
            | refine Ev_andN 6 64 rfl rfl rfl rfl (by simp only [lim]; omega) (by simp only [lim]; omega) ?_
            | refine Ev_andN 10 1024 rfl rfl rfl rfl (by simp only [lim]; omega) (by simp only [lim]; omega) ?_
            | refine Ev_orN 4 rfl rfl rfl (by first | omega | (dsimp only; done) | (dsimp only; omega)) (by first | omega | (dsimp only; done) | (dsimp only; omega)) (by simp only [lim]; omega) ?_
            | refine Ev_orN 5 rfl rfl rfl (by first | omega | (dsimp only; done) | (dsimp only; omega)) (by first | omega | (dsimp only; done) | (dsimp only; omega)) (by simp only [lim]; omega) ?_
            | refine Ev_orN 6 rfl rfl rfl (by first | omega | (dsimp only; done) | (dsimp only; omega)) (by first | omega | (dsimp only; done) | (dsimp only; omega)) (by simp only [lim]; omega) ?_
            | refine Ev_orN 10 rfl rfl rfl (by first | omega | (dsimp only; done) | (dsimp only; omega)) (by first | omega | (dsimp only; done) | (dsimp only; omega)) (by simp only [lim]; omega) ?_
            | refine Ev_orN 12 rfl rfl rfl (by first | omega | (dsimp only; done) | (dsimp only; omega)) (by first | omega | (dsimp only; done) | (dsimp only; omega)) (by simp only [lim]; omega) ?_
            | refine Ev_orN 16 rfl rfl rfl (by first | omega | (dsimp only; done) | (dsimp only; omega)) (by first | omega | (dsimp only; done) | (dsimp only; omega)) (by simp only [lim]; omega) ?_
            | refine Ev_convN rfl rfl rfl rfl rfl (by simp only [lim]; omega) ?_
            | refine Ev_and8 rfl rfl (by first | omega | (dsimp only; done) | (dsimp only; omega)) (by first | omega | (dsimp only; done) | (dsimp only; omega)) (land_192 (by first | omega | (dsimp only; done) | (dsimp only; omega))) (by first | omega | (dsimp only; done) | (dsimp only; omega)) ?_
            | refine Ev_and8 rfl rfl (by first | omega | (dsimp only; done) | (dsimp only; omega)) (by first | omega | (dsimp only; done) | (dsimp only; omega)) (land_224 (by first | omega | (dsimp only; done) | (dsimp only; omega))) (by first | omega | (dsimp only; done) | (dsimp only; omega)) ?_
            | refine Ev_and8 rfl rfl (by first | omega | (dsimp only; done) | (dsimp only; omega)) (by first | omega | (dsimp only; done) | (dsimp only; omega)) (land_240 (by first | omega | (dsimp only; done) | (dsimp only; omega))) (by first | omega | (dsimp only; done) | (dsimp only; omega)) ?_
            | refine Ev_shr rfl rfl rfl rfl ?_
            | refine Ev_conv rfl rfl rfl rfl rfl (by simp only [inR]; omega) ?_
            | refine Ev_conv8 rfl rfl rfl rfl rfl ?_
            | (refine WO_guard_dt rfl rfl rfl rfl rfl (by kernel_rfl) (by kernel_rfl) (fun hg => ?_) (fun hg => ?_) <;> (try dsimp only at hg) <;> try (exfalso; first | omega | exact hg rfl))
            | (refine WO_guard_df rfl rfl rfl rfl rfl (by kernel_rfl) (by kernel_rfl) (fun hg => ?_) (fun hg => ?_) <;> (try dsimp only at hg) <;> try (exfalso; first | omega | exact hg rfl))
            | (refine W_cond rfl (fun hc => ?_) (fun hc => ?_) <;> (try dsimp only at hc) <;> try (exfalso; first | omega | exact hc rfl)))
        refine V_done rfl rfl ?_
        exact ⟨hfr, by rw [hd]; rfl⟩
      | none =>
        have hz : rl l none = some acc := by rw [← heq]; simp
        have hd := ref_dec hb hz hlt
        cases hvs : vS acc with
        | false =>
          rw [hvs, if_neg (by simp)] at hd
          repeat' (
            first
              | refine W_seq ?_
              | refine WO_nil ?_
              | refine V_seq ?_
              | refine W_region ?_
              | refine W_drawn (by kernel_rfl) ?_
              | refine W_block ?_
              | refine W_scope ?_
              | refine W_skip ?_
              | refine W_ret ?_
              | refine W_exit ?_
              | refine W_label ?_
              | refine V_ret ?_
              | refine V_block ?_
              | refine V_block_x rfl ?_
              | refine V_block_y rfl ?_
              | refine V_seq_x ?_
              | refine V_loop_x ?_
              | refine W_cond_t rfl ?_
              | refine W_cond_f rfl ?_
              | refine WO_dst rfl rfl (by kernel_rfl) (by kernel_rfl) ?_
              | refine WO_no rfl rfl ?_
              | refine WO_guard_t rfl rfl rfl rfl rfl (by kernel_rfl) (by kernel_rfl) ?_
              | refine WO_guard_f rfl rfl rfl rfl rfl rfl (by kernel_rfl) (by kernel_rfl) ?_
              | refine WO_guard_x rfl rfl rfl rfl rfl (by kernel_rfl) (by kernel_rfl) ?_
              | refine Ev_move rfl ?_
              | refine Ev_assign rfl ?_
              | refine Ev_extract rfl rfl ?_
              | refine Ev_pick_t rfl rfl rfl ?_
              | refine Ev_pick_f rfl rfl rfl ?_
              | refine Ev_lssN rfl rfl ?_
              | refine Ev_leqN rfl rfl ?_
              | refine Ev_gtrN rfl rfl ?_
              | refine Ev_geqN rfl rfl ?_
              | refine Ev_eqlN rfl rfl ?_
              | refine Ev_neqN rfl rfl ?_
              | refine Ev_lss rfl rfl ?_
              | refine Ev_leq rfl rfl ?_
              | refine Ev_gtr rfl rfl ?_
              | refine Ev_geq rfl rfl ?_
              | refine Ev_eql rfl rfl ?_
              | refine Ev_neq rfl rfl ?_
              | refine Ev_seql rfl rfl ?_
              | refine Ev_sneq rfl rfl ?_
              | refine Ev_not rfl ?_
              | refine Ev_notb rfl ?_
              | refine Ev_nilCheck rfl ?_
              | refine Ev_fieldAddr rfl rfl rfl rfl rfl rfl ?_
              | refine Ev_len_str rfl rfl rfl rfl rfl ?_
              | refine Ev_len rfl rfl rfl rfl rfl rfl ?_
              | refine Ev_min rfl rfl rfl ?_
              | refine Ev_max rfl rfl rfl ?_
              | refine Ev_indexAddr rfl rfl rfl rfl rfl (by first | omega | (dsimp only; done) | (dsimp only; omega)) ?_
              | refine Ev_makeFunc rfl rfl ?_
              | refine Ev_conv_str rfl rfl rfl rfl rfl ?_
              | refine Ev_addN rfl rfl (by simp only [lim]; omega) ?_
              | refine Ev_subN rfl rfl (by simp only [lim]; omega) (by first | omega | (dsimp only; done) | (dsimp only; omega)) ?_
              | refine Ev_mulN rfl rfl (by simp only [lim]; omega) ?_
              | refine Ev_add rfl rfl (by simp only [inR]; omega) ?_
              | refine Ev_sub rfl rfl (by simp only [inR]; omega) ?_
              | refine Ev_mul rfl rfl (by simp only [inR]; omega) ?_
              | refine Ev_shrN (m := 6) (q := 64) rfl rfl rfl rfl ?_
              | refine Ev_shrN (m := 12) (q := 4096) rfl rfl rfl rfl ?_
              | refine Ev_shrN (m := 10) (q := 1024) rfl rfl rfl rfl ?_
              | refine Ev_shrN (m := 8) (q := 256) rfl rfl rfl rfl ?_
              | refine Ev_shrN (m := 4) (q := 16) rfl rfl rfl rfl ?_
              | refine Ev_shrN (m := 5) (q := 32) rfl rfl rfl rfl ?_
              | refine Ev_shrN (m := 7) (q := 128) rfl rfl rfl rfl ?_
              | refine Ev_shrN (m := 3) (q := 8) rfl rfl rfl rfl ?_
              | refine Ev_shrN (m := 18) (q := 262144) rfl rfl rfl rfl ?_
              | refine Ev_shlN (m := 6) (q := 64) rfl rfl rfl rfl (by simp only [lim]; omega) ?_
              | refine Ev_shlN (m := 12) (q := 4096) rfl rfl rfl rfl (by simp only [lim]; omega) ?_
              | refine Ev_shlN (m := 10) (q := 1024) rfl rfl rfl rfl (by simp only [lim]; omega) ?_
              | refine Ev_shlN (m := 8) (q := 256) rfl rfl rfl rfl (by simp only [lim]; omega) ?_
              | refine Ev_andN 3 8 rfl rfl rfl rfl (by simp only [lim]; omega) (by simp only [lim]; omega) ?_
              | refine Ev_andN 4 16 rfl rfl rfl rfl (by simp only [lim]; omega) (by simp only [lim]; omega) ?_
              | refine Ev_andN 5 32 rfl rfl rfl rfl (by simp only [lim]; omega) (by simp only [lim]; omega) ?_
              | refine Ev_andN 6 64 rfl rfl rfl rfl (by simp only [lim]; omega) (by simp only [lim]; omega) ?_
              | refine Ev_andN 10 1024 rfl rfl rfl rfl (by simp only [lim]; omega) (by simp only [lim]; omega) ?_
              | refine Ev_orN 4 rfl rfl rfl (by first | omega | (dsimp only; done) | (dsimp only; omega)) (by first | omega | (dsimp only; done) | (dsimp only; omega)) (by simp only [lim]; omega) ?_
              | refine Ev_orN 5 rfl rfl rfl (by first | omega | (dsimp only; done) | (dsimp only; omega)) (by first | omega | (dsimp only; done) | (dsimp only; omega)) (by simp only [lim]; omega) ?_
              | refine Ev_orN 6 rfl rfl rfl (by first | omega | (dsimp only; done) | (dsimp only; omega)) (by first | omega | (dsimp only; done) | (dsimp only; omega)) (by simp only [lim]; omega) ?_
              | refine Ev_orN 10 rfl rfl rfl (by first | omega | (dsimp only; done) | (dsimp only; omega)) (by first | omega | (dsimp only; done) | (dsimp only; omega)) (by simp only [lim]; omega) ?_
              | refine Ev_orN 12 rfl rfl rfl (by first | omega | (dsimp only; done) | (dsimp only; omega)) (by first | omega | (dsimp only; done) | (dsimp only; omega)) (by simp only [lim]; omega) ?_
              | refine Ev_orN 16 rfl rfl rfl (by first | omega | (dsimp only; done) | (dsimp only; omega)) (by first | omega | (dsimp only; done) | (dsimp only; omega)) (by simp only [lim]; omega) ?_
              | refine Ev_convN rfl rfl rfl rfl rfl (by simp only [lim]; omega) ?_
              | refine Ev_and8 rfl rfl (by first | omega | (dsimp only; done) | (dsimp only; omega)) (by first | omega | (dsimp only; done) | (dsimp only; omega)) (land_192 (by first | omega | (dsimp only; done) | (dsimp only; omega))) (by first | omega | (dsimp only; done) | (dsimp only; omega)) ?_
              | refine Ev_and8 rfl rfl (by first | omega | (dsimp only; done) | (dsimp only; omega)) (by first | omega | (dsimp only; done) | (dsimp only; omega)) (land_224 (by first | omega | (dsimp only; done) | (dsimp only; omega))) (by first | omega | (dsimp only; done) | (dsimp only; omega)) ?_
              | refine Ev_and8 rfl rfl (by first | omega | (dsimp only; done) | (dsimp only; omega)) (by first | omega | (dsimp only; done) | (dsimp only; omega)) (land_240 (by first | omega | (dsimp only; done) | (dsimp only; omega))) (by first | omega | (dsimp only; done) | (dsimp only; omega)) ?_
              | refine Ev_shr rfl rfl rfl rfl ?_
              | refine Ev_conv rfl rfl rfl rfl rfl (by simp only [inR]; omega) ?_
              | refine Ev_conv8 rfl rfl rfl rfl rfl ?_
              | (refine WO_guard_dt rfl rfl rfl rfl rfl (by kernel_rfl) (by kernel_rfl) (fun hg => ?_) (fun hg => ?_) <;> (try dsimp only at hg) <;> try (exfalso; first | omega | exact hg rfl))
              | (refine WO_guard_df rfl rfl rfl rfl rfl (by kernel_rfl) (by kernel_rfl) (fun hg => ?_) (fun hg => ?_) <;> (try dsimp only at hg) <;> try (exfalso; first | omega | exact hg rfl))
              | (refine W_cond rfl (fun hc => ?_) (fun hc => ?_) <;> (try dsimp only at hc) <;> try (exfalso; first | omega | exact hc rfl)))
          refine V_done rfl rfl ?_
          exact ⟨hfr, by rw [hd]; rfl⟩
        | true =>
          rw [hvs, if_pos rfl] at hx
          repeat' (
            first
              | refine W_seq ?_
              | refine WO_nil ?_
              | refine V_seq ?_
              | refine W_region ?_
              | refine W_drawn (by kernel_rfl) ?_
              | refine W_block ?_
              | refine W_scope ?_
              | refine W_skip ?_
              | refine W_ret ?_
              | refine W_exit ?_
              | refine W_label ?_
              | refine V_ret ?_
              | refine V_block ?_
              | refine V_block_x rfl ?_
              | refine V_block_y rfl ?_
              | refine V_seq_x ?_
              | refine V_loop_x ?_
              | refine W_cond_t rfl ?_
              | refine W_cond_f rfl ?_
              | refine WO_dst rfl rfl (by kernel_rfl) (by kernel_rfl) ?_
              | refine WO_no rfl rfl ?_
              | refine WO_guard_t rfl rfl rfl rfl rfl (by kernel_rfl) (by kernel_rfl) ?_
              | refine WO_guard_f rfl rfl rfl rfl rfl rfl (by kernel_rfl) (by kernel_rfl) ?_
              | refine WO_guard_x rfl rfl rfl rfl rfl (by kernel_rfl) (by kernel_rfl) ?_
              | refine Ev_conv_to_str rfl rfl rfl rfl rfl rfl rfl hx.rd (bytesOf_sbytes encS_lt) ?_
              | refine Ev_conv_to_str rfl rfl rfl rfl rfl rfl rfl hv1 (bytesOf_sbytes hb) ?_
              | refine Ev_move rfl ?_
              | refine Ev_assign rfl ?_
              | refine Ev_extract rfl rfl ?_
              | refine Ev_pick_t rfl rfl rfl ?_
              | refine Ev_pick_f rfl rfl rfl ?_
              | refine Ev_lssN rfl rfl ?_
              | refine Ev_leqN rfl rfl ?_
              | refine Ev_gtrN rfl rfl ?_
              | refine Ev_geqN rfl rfl ?_
              | refine Ev_eqlN rfl rfl ?_
              | refine Ev_neqN rfl rfl ?_
              | refine Ev_lss rfl rfl ?_
              | refine Ev_leq rfl rfl ?_
              | refine Ev_gtr rfl rfl ?_
              | refine Ev_geq rfl rfl ?_
              | refine Ev_eql rfl rfl ?_
              | refine Ev_neq rfl rfl ?_
              | refine Ev_seql rfl rfl ?_
              | refine Ev_sneq rfl rfl ?_
              | refine Ev_not rfl ?_
              | refine Ev_notb rfl ?_
              | refine Ev_nilCheck rfl ?_
              | refine Ev_fieldAddr rfl rfl rfl rfl rfl rfl ?_
              | refine Ev_len_str rfl rfl rfl rfl rfl ?_
              | refine Ev_len rfl rfl rfl rfl rfl rfl ?_
              | refine Ev_min rfl rfl rfl ?_
              | refine Ev_max rfl rfl rfl ?_
              | refine Ev_indexAddr rfl rfl rfl rfl rfl (by first | omega | (dsimp only; done) | (dsimp only; omega)) ?_
              | refine Ev_makeFunc rfl rfl ?_
              | refine Ev_conv_str rfl rfl rfl rfl rfl ?_
              | refine Ev_addN rfl rfl (by simp only [lim]; omega) ?_
              | refine Ev_subN rfl rfl (by simp only [lim]; omega) (by first | omega | (dsimp only; done) | (dsimp only; omega)) ?_
              | refine Ev_mulN rfl rfl (by simp only [lim]; omega) ?_
              | refine Ev_add rfl rfl (by simp only [inR]; omega) ?_
              | refine Ev_sub rfl rfl (by simp only [inR]; omega) ?_
              | refine Ev_mul rfl rfl (by simp only [inR]; omega) ?_
              | refine Ev_shrN (m := 6) (q := 64) rfl rfl rfl rfl ?_
              | refine Ev_shrN (m := 12) (q := 4096) rfl rfl rfl rfl ?_
              | refine Ev_shrN (m := 10) (q := 1024) rfl rfl rfl rfl ?_
              | refine Ev_shrN (m := 8) (q := 256) rfl rfl rfl rfl ?_
              | refine Ev_shrN (m := 4) (q := 16) rfl rfl rfl rfl ?_
              | refine Ev_shrN (m := 5) (q := 32) rfl rfl rfl rfl ?_
              | refine Ev_shrN (m := 7) (q := 128) rfl rfl rfl rfl ?_
              | refine Ev_shrN (m := 3) (q := 8) rfl rfl rfl rfl ?_
              | refine Ev_shrN (m := 18) (q := 262144) rfl rfl rfl rfl ?_
              | refine Ev_shlN (m := 6) (q := 64) rfl rfl rfl rfl (by simp only [lim]; omega) ?_
              | refine Ev_shlN (m := 12) (q := 4096) rfl rfl rfl rfl (by simp only [lim]; omega) ?_
              | refine Ev_shlN (m := 10) (q := 1024) rfl rfl rfl rfl (by simp only [lim]; omega) ?_
              | refine Ev_shlN (m := 8) (q := 256) rfl rfl rfl rfl (by simp only [lim]; omega) ?_
              | refine Ev_andN 3 8 rfl rfl rfl rfl (by simp only [lim]; omega) (by simp only [lim]; omega) ?_
              | refine Ev_andN 4 16 rfl rfl rfl rfl (by simp only [lim]; omega) (by simp only [lim]; omega) ?_
              | refine Ev_andN 5 32 rfl rfl rfl rfl (by simp only [lim]; omega) (by simp only [lim]; omega) ?_
              | refine Ev_andN 6 64 rfl rfl rfl rfl (by simp only [lim]; omega) (by simp only [lim]; omega) ?_
              | refine Ev_andN 10 1024 rfl rfl rfl rfl (by simp only [lim]; omega) (by simp only [lim]; omega) ?_
              | refine Ev_orN 4 rfl rfl rfl (by first | omega | (dsimp only; done) | (dsimp only; omega)) (by first | omega | (dsimp only; done) | (dsimp only; omega)) (by simp only [lim]; omega) ?_
              | refine Ev_orN 5 rfl rfl rfl (by first | omega | (dsimp only; done) | (dsimp only; omega)) (by first | omega | (dsimp only; done) | (dsimp only; omega)) (by simp only [lim]; omega) ?_
              | refine Ev_orN 6 rfl rfl rfl (by first | omega | (dsimp only; done) | (dsimp only; omega)) (by first | omega | (dsimp only; done) | (dsimp only; omega)) (by simp only [lim]; omega) ?_
              | refine Ev_orN 10 rfl rfl rfl (by first | omega | (dsimp only; done) | (dsimp only; omega)) (by first | omega | (dsimp only; done) | (dsimp only; omega)) (by simp only [lim]; omega) ?_
              | refine Ev_orN 12 rfl rfl rfl (by first | omega | (dsimp only; done) | (dsimp only; omega)) (by first | omega | (dsimp only; done) | (dsimp only; omega)) (by simp only [lim]; omega) ?_
              | refine Ev_orN 16 rfl rfl rfl (by first | omega | (dsimp only; done) | (dsimp only; omega)) (by first | omega | (dsimp only; done) | (dsimp only; omega)) (by simp only [lim]; omega) ?_
              | refine Ev_convN rfl rfl rfl rfl rfl (by simp only [lim]; omega) ?_
              | refine Ev_and8 rfl rfl (by first | omega | (dsimp only; done) | (dsimp only; omega)) (by first | omega | (dsimp only; done) | (dsimp only; omega)) (land_192 (by first | omega | (dsimp only; done) | (dsimp only; omega))) (by first | omega | (dsimp only; done) | (dsimp only; omega)) ?_
              | refine Ev_and8 rfl rfl (by first | omega | (dsimp only; done) | (dsimp only; omega)) (by first | omega | (dsimp only; done) | (dsimp only; omega)) (land_224 (by first | omega | (dsimp only; done) | (dsimp only; omega))) (by first | omega | (dsimp only; done) | (dsimp only; omega)) ?_
              | refine Ev_and8 rfl rfl (by first | omega | (dsimp only; done) | (dsimp only; omega)) (by first | omega | (dsimp only; done) | (dsimp only; omega)) (land_240 (by first | omega | (dsimp only; done) | (dsimp only; omega))) (by first | omega | (dsimp only; done) | (dsimp only; omega)) ?_
              | refine Ev_shr rfl rfl rfl rfl ?_
              | refine Ev_conv rfl rfl rfl rfl rfl (by simp only [inR]; omega) ?_
              | refine Ev_conv8 rfl rfl rfl rfl rfl ?_
              | (refine WO_guard_dt rfl rfl rfl rfl rfl (by kernel_rfl) (by kernel_rfl) (fun hg => ?_) (fun hg => ?_) <;> (try dsimp only at hg) <;> try (exfalso; first | omega | exact hg rfl))
              | (refine WO_guard_df rfl rfl rfl rfl rfl (by kernel_rfl) (by kernel_rfl) (fun hg => ?_) (fun hg => ?_) <;> (try dsimp only at hg) <;> try (exfalso; first | omega | exact hg rfl))
              | (refine W_cond rfl (fun hc => ?_) (fun hc => ?_) <;> (try dsimp only at hc) <;> try (exfalso; first | omega | exact hc rfl)))
          · rw [if_neg (fun h => hc h.2)] at hd
            refine V_done rfl rfl ?_
            exact ⟨hfr, by rw [hd]; rfl⟩
          · rw [if_pos ⟨hvs, Decidable.not_not.1 hc⟩] at hd
            refine V_done rfl rfl ?_
            exact ⟨hfr, by rw [hd]; rfl⟩
  · exact ⟨rfl, Nat.zero_le _, by cases h : rl l none <;> simp [h], fun m h => (by cases h), by simp, by simp⟩
end Go.Proofs.YtnlfcoojlgdgaaaDoor
