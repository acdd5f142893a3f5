/- What the row leans on, part 11: texts one behind the other. No condition. -/
import Derived.Test.YtnlfcoojlgdgaaaDoorMg10
import Derived.Lib.ValidLaws
import Derived.Test.YtnlfcoojlgdgaaaDoorMg9
import Derived.KernelRfl
/- Texts in mutf: what is encoded is decoded to itself, and the other way round. Plain. -/


namespace Go.Proofs.YtnlfcoojlgdgaaaDoor
open GX
set_option maxHeartbeats 4000000
/-! UTF-8 -/
theorem dec_rune {c : Nat} (h : okR c) (t : List Nat) : decodeR (runeL c ++ t) = (c, (runeL c).length) := by
  unfold okR at h
  unfold runeL
  split
  · rename_i h1
    show decodeR (c :: t) = _
    unfold decodeR
    dsimp only
    rw [if_pos (by omega)]; rfl
  · split
    · show decodeR ((192 + c / 64) :: (128 + c % 64) :: t) = _
      unfold decodeR
      dsimp only
      rw [if_neg (by omega), if_pos (by simp; omega)]
      have he : (192 + c / 64) % 32 * 64 + (128 + c % 64) % 64 = c := by omega
      simp only [List.getD_cons_zero]
      rw [he, if_pos (by omega)]; rfl
    · split
      · show decodeR ((224 + c / 4096) :: (128 + c / 64 % 64) :: (128 + c % 64) :: t) = _
        unfold decodeR
        dsimp only
        rw [if_neg (by omega), if_neg (by simp; omega), if_pos (by simp; omega)]
        have hv : Utf8.valid ((c : Nat) : Int) = true := by unfold Utf8.valid; simp; omega
        have he : (224 + c / 4096) % 16 * 4096 + (128 + c / 64 % 64) % 64 * 64 + (128 + c % 64) % 64 = c := by omega
        simp only [List.getD_cons_zero, List.getD_cons_succ]
        rw [he, if_pos (by rw [hv]; simp; omega)]; rfl
      · show decodeR ((240 + c / 262144) :: (128 + c / 4096 % 64) :: (128 + c / 64 % 64) :: (128 + c % 64) :: t) = _
        unfold decodeR
        dsimp only
        rw [if_neg (by omega), if_neg (by simp; omega), if_neg (by simp; omega), if_pos (by simp; omega)]
        have hv : Utf8.valid ((c : Nat) : Int) = true := by unfold Utf8.valid; simp; omega
        have he : (240 + c / 262144) % 8 * 262144 + (128 + c / 4096 % 64) % 64 * 4096 + (128 + c / 64 % 64) % 64 * 64 + (128 + c % 64) % 64 = c := by omega
        simp only [List.getD_cons_zero, List.getD_cons_succ]
        rw [he, if_pos (by rw [hv]; simp; omega)]; rfl
theorem runeL_ne (c : Nat) : runeL c ≠ [] := by unfold runeL; (repeat' split) <;> simp
theorem dec_ok (l : List Nat) : okR (decodeR l).1 := by
  unfold okR decodeR
  split
  · simp [Utf8.runeError]
  · dsimp only
    split
    · dsimp only; omega
    · split
      · split
        · dsimp only; omega
        · simp [Utf8.runeError]
      · split
        · split
          · rename_i h
            simp only [Bool.and_eq_true, Utf8.valid] at h
            dsimp only
            simp at h ⊢
            omega
          · simp [Utf8.runeError]
        · split
          · split
            · rename_i h
              simp only [Bool.and_eq_true, Utf8.valid] at h
              dsimp only
              simp at h ⊢
              omega
            · simp [Utf8.runeError]
          · simp [Utf8.runeError]
theorem runesS_ok {l : List Nat} : ∀ c ∈ runesS l, okR c := by
  induction l using runesS.induct with
  | case1 => rw [runesS_nil]; simp
  | case2 b t ih =>
    rw [runesS_ne (by simp)]
    intro c hc
    rcases List.mem_cons.1 hc with h | h
    · rw [h]; exact dec_ok _
    · exact ih c h
theorem runesS_rune {c : Nat} (h : okR c) (t : List Nat) : runesS (runeL c ++ t) = c :: runesS t := by
  rw [runesS_ne (by simp [runeL_ne]), dec_rune h, List.drop_left]
/-- the text of some runes -/
def txt (cs : List Nat) : List Nat := cs.flatMap runeL
theorem runesS_txt {cs : List Nat} (h : ∀ c ∈ cs, okR c) (t : List Nat) : runesS (txt cs ++ t) = cs ++ runesS t := by
  induction cs with
  | nil => rfl
  | cons c cs ih =>
    show runesS (runeL c ++ txt cs ++ t) = _
    rw [List.append_assoc, runesS_rune (h c (by simp)), ih fun d hd => h d (by simp [hd])]; rfl
theorem txt_lt {cs : List Nat} (h : ∀ c ∈ cs, okR c) : ∀ b ∈ txt cs, b < 256 := by
  intro b hb
  obtain ⟨c, hc, hb⟩ := List.mem_flatMap.1 hb
  exact runeL_lt (h c hc) b hb
theorem encS_txt {cs : List Nat} (h : ∀ c ∈ cs, okR c) (t : List Nat) : encS (txt cs ++ t) = cs.flatMap enc1 ++ encS t := by
  unfold encS; rw [runesS_txt h, List.flatMap_append]
theorem of_to {x : List Nat} (h : ∀ b ∈ x, b < 256) : (x.map UInt8.ofNat).map (·.toNat) = x := by
  rw [List.map_map]
  conv => rhs; rw [← List.map_id x]
  apply List.map_congr_left
  intro b hb
  have := h b hb
  simp
  omega
theorem decodeL_R {x : List Nat} (h : ∀ b ∈ x, b < 256) (hne : x ≠ []) : Lib.decodeL (x.map UInt8.ofNat) = decodeR x := by
  have hb : GX.bytes ⟨(x.map UInt8.ofNat).toArray⟩ = x := by
    unfold GX.bytes
    rw [show ((⟨(x.map UInt8.ofNat).toArray⟩ : ByteArray).data.toList) = x.map UInt8.ofNat from rfl, of_to h]
  have hs : 0 < (⟨(x.map UInt8.ofNat).toArray⟩ : ByteArray).size := by
    show 0 < (x.map UInt8.ofNat).toArray.size
    simp; exact List.length_pos_iff.2 hne
  have := decodeR_eq ⟨(x.map UInt8.ofNat).toArray⟩ 0 hs
  rw [hb, List.drop_zero] at this
  rw [this]; rfl
theorem vS_nil : vS [] = true := rfl
theorem vS_step {x : List Nat} (h : ∀ b ∈ x, b < 256) (hne : x ≠ []) : vS x = if (decodeR x).1 = 65533 ∧ (decodeR x).2 = 1 then false else vS (x.drop (decodeR x).2) := by
  unfold vS
  rw [Lib.validD_step _ (by simpa using hne), decodeL_R h hne, List.map_drop]
theorem vS_rune {c : Nat} (h : okR c) {t : List Nat} (ht : ∀ b ∈ t, b < 256) : vS (runeL c ++ t) = vS t := by
  rw [vS_step (fun b hb => (List.mem_append.1 hb).elim (runeL_lt h b) (ht b)) (by simp [runeL_ne]), dec_rune h, List.drop_left, if_neg]
  rintro ⟨h1, h2⟩
  dsimp only at h1 h2
  subst h1
  simp [runeL] at h2
theorem vS_txt {cs : List Nat} (h : ∀ c ∈ cs, okR c) {t : List Nat} (ht : ∀ b ∈ t, b < 256) : vS (txt cs ++ t) = vS t := by
  induction cs with
  | nil => rfl
  | cons c cs ih =>
    have h' : ∀ d ∈ cs, okR d := fun d hd => h d (by simp [hd])
    show vS (runeL c ++ txt cs ++ t) = _
    rw [List.append_assoc, vS_rune (h c (by simp)) (fun b hb => (List.mem_append.1 hb).elim (txt_lt h' b) (ht b)), ih h']
/-! mutf -/
theorem unitL_lt {r : Nat} (h : r < 65536) : ∀ b ∈ unitL r, b < 256 := by
  unfold unitL
  (repeat' split) <;> intro b hb <;> simp at hb <;> omega
theorem unitL_nz {r : Nat} : ∀ b ∈ unitL r, b ≠ 0 := by
  unfold unitL
  (repeat' split) <;> intro b hb <;> simp at hb <;> omega
theorem enc1_nz {c : Nat} : ∀ b ∈ enc1 c, b ≠ 0 := by
  unfold enc1
  split
  · intro b hb; exact (List.mem_append.1 hb).elim (unitL_nz b) (unitL_nz b)
  · exact unitL_nz
theorem enc1_lt {c : Nat} (h : c < 1114112) : ∀ b ∈ enc1 c, b < 256 := by
  unfold enc1
  split
  · intro b hb; exact (List.mem_append.1 hb).elim (unitL_lt (by omega) b) (unitL_lt (by omega) b)
  · exact unitL_lt (by omega)
theorem encS_nz {l : List Nat} : ∀ b ∈ encS l, b ≠ 0 := by
  intro b hb
  obtain ⟨c, _, hb⟩ := List.mem_flatMap.1 hb
  exact enc1_nz b hb
theorem encS_lt {l : List Nat} : ∀ b ∈ encS l, b < 256 := by
  intro b hb
  obtain ⟨c, hc, hb⟩ := List.mem_flatMap.1 hb
  exact enc1_lt (runesS_lt c hc) b hb
theorem unitL_ne (r : Nat) : unitL r ≠ [] := by unfold unitL; (repeat' split) <;> simp
theorem one_unit {r : Nat} (h : r < 65536) (t : List Nat) : oneL (unitL r ++ t) = (r, (unitL r).length) := by
  unfold unitL
  split
  · rename_i h1
    show oneL (r :: t) = _
    unfold oneL
    rw [if_pos (by simp; omega)]; rfl
  · split
    · rename_i h1 h2
      show oneL ((192 + r / 64) :: (128 + r % 64) :: t) = _
      unfold oneL
      rw [if_neg (by simp; omega), if_pos (by simp; omega), if_pos (by simp; omega)]
      simp; omega
    · show oneL ((224 + r / 4096) :: (128 + r / 64 % 64) :: (128 + r % 64) :: t) = _
      unfold oneL
      rw [if_neg (by simp; omega), if_neg (by simp; omega), if_pos (by simp; omega), if_pos (by simp; omega)]
      simp; omega
theorem dec_enc1 {c : Nat} (h : okR c) (t : List Nat) : decS (enc1 c ++ t) = (decS t).map (runeL c ++ ·) := by
  unfold okR at h
  unfold enc1
  by_cases hc : 65535 < c
  · obtain ⟨A, hA⟩ : ∃ A, A = 55296 + (c - 65536) / 1024 := ⟨_, rfl⟩
    obtain ⟨B, hB⟩ : ∃ B, B = 56320 + (c - 65536) % 1024 := ⟨_, rfl⟩
    have he : 65536 + (A - 55296) * 1024 + (B - 56320) = c := by omega
    have l1 : (unitL A).length = 3 := by unfold unitL; rw [if_neg (by omega), if_neg (by omega)]; rfl
    have l2 : (unitL B).length = 3 := by unfold unitL; rw [if_neg (by omega), if_neg (by omega)]; rfl
    have d1 : (unitL A ++ (unitL B ++ t)).drop (unitL A).length = unitL B ++ t := List.drop_left
    have d2 : (unitL A ++ (unitL B ++ t)).drop ((unitL A).length + (unitL B).length) = t := by rw [← List.drop_drop, d1, List.drop_left]
    have o1 := one_unit (r := A) (by omega) (unitL B ++ t)
    have o2 := one_unit (r := B) (by omega) t
    rw [if_pos hc, ← hA, ← hB, List.append_assoc, decS, dif_neg (by simp [unitL_ne]), o1]
    dsimp only
    rw [d1, o2]
    dsimp only
    rw [dif_neg (by omega), if_pos (by omega), if_neg (by omega), d2, he]
  · rw [if_neg hc, decS, dif_neg (by simp [unitL_ne]), one_unit (by omega)]
    dsimp only
    have : 0 < (unitL c).length := List.length_pos_iff.2 (unitL_ne c)
    rw [dif_neg (by omega), if_neg (by omega), List.drop_left]
theorem decS_nil : decS [] = some [] := by rw [decS]; rfl
theorem dec_encs {cs : List Nat} (h : ∀ c ∈ cs, okR c) : decS (cs.flatMap enc1) = some (txt cs) := by
  induction cs with
  | nil => exact decS_nil
  | cons c cs ih =>
    show decS (enc1 c ++ cs.flatMap enc1) = _
    rw [dec_enc1 (h c (by simp)), ih fun d hd => h d (by simp [hd])]; rfl
theorem unit_one {l : List Nat} (h : ∀ b ∈ l, b < 256) (hk : (oneL l).2 ≠ 0) : l = unitL (oneL l).1 ++ l.drop (oneL l).2 := by
  have g0 : l.getD 0 0 < 256 := getD_lt h (by omega)
  have g1 : l.getD 1 0 < 256 := getD_lt h (by omega)
  have g2 : l.getD 2 0 < 256 := getD_lt h (by omega)
  have c1 : 0 < l.length → ∃ a t, l = a :: t := fun h => by
    cases l with
    | nil => simp at h
    | cons a t => exact ⟨a, t, rfl⟩
  have c2 : 1 < l.length → ∃ a b t, l = a :: b :: t := fun h => by
    match l, h with
    | a :: b :: t, _ => exact ⟨a, b, t, rfl⟩
    | [a], h => simp at h
    | [], h => simp at h
  have c3 : 2 < l.length → ∃ a b c t, l = a :: b :: c :: t := fun h => by
    match l, h with
    | a :: b :: c :: t, _ => exact ⟨a, b, c, t, rfl⟩
    | [a, b], h => simp at h
    | [a], h => simp at h
    | [], h => simp at h
  unfold oneL at hk ⊢
  split
  · rename_i h1
    obtain ⟨a, t, rfl⟩ := c1 h1.1
    simp only [List.getD_cons_zero] at h1 ⊢
    unfold unitL
    rw [if_pos (by omega)]; rfl
  · rename_i h1
    rw [if_neg h1] at hk
    split
    · rename_i h2
      rw [if_pos h2] at hk
      split
      · rename_i h3
        obtain ⟨a, b, t, rfl⟩ := c2 h2.1
        simp only [List.getD_cons_zero, List.getD_cons_succ] at h1 h2 h3 g0 g1 ⊢
        unfold unitL
        rw [if_neg (by omega), if_pos (by omega)]
        simp
        omega
      · rename_i h3; rw [if_neg h3] at hk; exact absurd rfl hk
    · rename_i h2
      rw [if_neg h2] at hk
      split
      · rename_i h3
        rw [if_pos h3] at hk
        split
        · rename_i h4
          obtain ⟨a, b, c, t, rfl⟩ := c3 h3.1
          simp only [List.getD_cons_zero, List.getD_cons_succ] at h1 h2 h3 h4 g0 g1 g2 ⊢
          unfold unitL
          rw [if_neg (by omega), if_neg (by omega)]
          simp
          omega
        · rename_i h4; rw [if_neg h4] at hk; exact absurd rfl hk
      · rename_i h3; rw [if_neg h3] at hk; exact absurd rfl hk
/-- what is decoded is the text of runes that are encoded back -/
theorem dec_back : ∀ (n : Nat) {l u : List Nat}, l.length ≤ n → (∀ b ∈ l, b < 256) → decS l = some u → ∃ cs, (∀ c ∈ cs, okR c) ∧ u = txt cs ∧ l = cs.flatMap enc1
  | n, l, u, hn, hb, h => by
    rw [decS] at h
    by_cases h0 : l = []
    · rw [dif_pos h0] at h
      cases h
      exact ⟨[], by simp, rfl, h0⟩
    · rw [dif_neg h0] at h
      by_cases h1 : (oneL l).2 = 0 ∨ (56320 ≤ (oneL l).1 ∧ (oneL l).1 ≤ 57343)
      · rw [dif_pos h1] at h; cases h
      · rw [dif_neg h1] at h
        have hk : (oneL l).2 ≠ 0 := by omega
        have hu := unit_one hb hk
        have hb' : ∀ b ∈ l.drop (oneL l).2, b < 256 := fun b h => hb b (List.mem_of_mem_drop h)
        have hlen : 0 < l.length := List.length_pos_iff.2 h0
        have hr := oneL_lt hb
        cases n with
        | zero => omega
        | succ n =>
          split at h
          · rename_i h2
            split at h
            · cases h
            · rename_i h3
              obtain ⟨u', hu', rfl⟩ := Option.map_eq_some_iff.1 h
              have hu2 := unit_one hb' (by omega)
              obtain ⟨cs, k1, k2, k3⟩ := dec_back n (by rw [List.length_drop]; omega) (fun b h => hb b (List.mem_of_mem_drop h)) hu'
              have hr2 := oneL_lt hb'
              refine ⟨(65536 + ((oneL l).1 - 55296) * 1024 + ((oneL (l.drop (oneL l).2)).1 - 56320)) :: cs, ?_, by rw [k2]; rfl, ?_⟩
              · intro c hc
                rcases List.mem_cons.1 hc with h | h
                · rw [h]; unfold okR; omega
                · exact k1 c h
              · have he : enc1 (65536 + ((oneL l).1 - 55296) * 1024 + ((oneL (l.drop (oneL l).2)).1 - 56320)) = unitL (oneL l).1 ++ unitL (oneL (l.drop (oneL l).2)).1 := by
                  unfold enc1
                  have e1 : 55296 + (65536 + ((oneL l).1 - 55296) * 1024 + ((oneL (l.drop (oneL l).2)).1 - 56320) - 65536) / 1024 = (oneL l).1 := by omega
                  have e2 : 56320 + (65536 + ((oneL l).1 - 55296) * 1024 + ((oneL (l.drop (oneL l).2)).1 - 56320) - 65536) % 1024 = (oneL (l.drop (oneL l).2)).1 := by omega
                  rw [if_pos (by omega), e1, e2]
                rw [List.flatMap_cons, he, ← k3, ← List.drop_drop, List.append_assoc, ← hu2, ← hu]
          · rename_i h2
            obtain ⟨u', hu', rfl⟩ := Option.map_eq_some_iff.1 h
            obtain ⟨cs, k1, k2, k3⟩ := dec_back n (by rw [List.length_drop]; omega) hb' hu'
            refine ⟨(oneL l).1 :: cs, ?_, by rw [k2]; rfl, ?_⟩
            · intro c hc
              rcases List.mem_cons.1 hc with h | h
              · rw [h]; unfold okR; omega
              · exact k1 c h
            · rw [List.flatMap_cons, ← k3]
              have he : enc1 (oneL l).1 = unitL (oneL l).1 := by unfold enc1; rw [if_neg (by omega)]
              rw [he, ← hu]
/-- the text that a text's runes make -/
def normS (s : List Nat) : List Nat := txt (runesS s)
theorem runesOf_eq {cs : List Nat} (h : ∀ c ∈ cs, okR c) : runesOf (cs.map fun c => AV.int .i32 ((c : Nat) : Int)) = some (txt cs) := by
  induction cs with
  | nil => rfl
  | cons c cs ih =>
    show runesOf (AV.int .i32 ((c : Nat) : Int) :: cs.map fun c => AV.int .i32 ((c : Nat) : Int)) = _
    unfold runesOf
    rw [ih fun d hd => h d (by simp [hd]), encodeR_runeL (h c (by simp))]; rfl
theorem normS_lt (s : List Nat) : ∀ b ∈ normS s, b < 256 := txt_lt runesS_ok
theorem normS_len (s : List Nat) : (normS s).length ≤ 4 * s.length := by
  have h : ∀ cs : List Nat, (txt cs).length ≤ 4 * cs.length := by
    intro cs
    induction cs with
    | nil => simp [txt]
    | cons c cs ih =>
      show (runeL c ++ txt cs).length ≤ _
      have := runeL_len c
      simp only [List.length_append, List.length_cons]
      omega
  have h2 := h (runesS s)
  have := runesS_len (l := s)
  unfold normS
  omega
theorem vS_norm (s : List Nat) : vS (normS s) = true := by
  have := vS_txt (cs := runesS s) runesS_ok (t := []) (by simp)
  rw [List.append_nil] at this
  exact this
theorem encS_norm (s : List Nat) : encS (normS s) = (runesS s).flatMap enc1 := by
  have := encS_txt (cs := runesS s) runesS_ok []
  rw [List.append_nil, encS_nil, List.append_nil] at this
  exact this
theorem dec_norm (s : List Nat) : decS (encS (normS s)) = some (normS s) := by rw [encS_norm]; exact dec_encs runesS_ok
theorem dec_then {l u : List Nat} (hb : ∀ b ∈ l, b < 256) (h : decS l = some u) : vS u = true ∧ encS u = l ∧ ∀ b ∈ u, b < 256 := by
  obtain ⟨cs, k1, rfl, rfl⟩ := dec_back _ (Nat.le_refl _) hb h
  have h1 := vS_txt k1 (t := []) (by simp)
  have h2 := encS_txt k1 []
  rw [List.append_nil] at h1 h2
  rw [encS_nil, List.append_nil] at h2
  exact ⟨h1, h2, txt_lt k1⟩
end Go.Proofs.YtnlfcoojlgdgaaaDoor
/- mutf.unit: what it appends to bytes. -/

namespace Go.Proofs.YtnlfcoojlgdgaaaDoor
open GX
set_option maxHeartbeats 4000000
theorem unit_runs {S : St} {v : AV} {l : List Nat} {r : Nat} (hv : Ow S v l) (hok : Sok S) (hn : S.n + 2 ≤ 1000000000) (hl : l.length ≤ 1000000000) (hr : r < 65536) :
    Runs X1 43 [v, .int .i32 (r : Int)] S fun v' S' => Fr S S' v 2 ∧ Ow S' v' (l ++ unitL r) ∧ ∀ c, blkOf v' = some c → blkOf v = some c ∨ S.n ≤ c := by
  refine Runs_fn (m := 47) (by kernel_rfl) Tryd.func43 rfl (by kernel_rfl) (by kernel_rfl) ?_
  repeat' (
    first
      | refine W_seq ?_
      | refine WO_nil ?_
      | refine V_seq ?_
      | refine W_region ?_
      | refine W_drawn (by kernel_rfl) ?_
      | refine W_block ?_
      | refine W_scope ?_
      | refine W_skip ?_
      | refine W_ret ?_
      | refine W_exit ?_
      | refine W_label ?_
      | refine V_ret ?_
      | refine V_block ?_
      | refine V_block_x rfl ?_
      | refine V_block_y rfl ?_
      | refine V_seq_x ?_
      | refine V_loop_x ?_
      | refine W_cond_t rfl ?_
      | refine W_cond_f rfl ?_
      | refine WO_dst rfl rfl (by kernel_rfl) (by kernel_rfl) ?_
      | refine WO_no rfl rfl ?_
      | refine WO_guard_t rfl rfl rfl rfl rfl (by kernel_rfl) (by kernel_rfl) ?_
      | refine WO_guard_f rfl rfl rfl rfl rfl rfl (by kernel_rfl) (by kernel_rfl) ?_
      | refine WO_guard_x rfl rfl rfl rfl rfl (by kernel_rfl) (by kernel_rfl) ?_
      | refine Ev_move rfl ?_
      | refine Ev_assign rfl ?_
      | refine Ev_extract rfl rfl ?_
      | refine Ev_pick_t rfl rfl rfl ?_
      | refine Ev_pick_f rfl rfl rfl ?_
      | refine Ev_lssN rfl rfl ?_
      | refine Ev_leqN rfl rfl ?_
      | refine Ev_gtrN rfl rfl ?_
      | refine Ev_geqN rfl rfl ?_
      | refine Ev_eqlN rfl rfl ?_
      | refine Ev_neqN rfl rfl ?_
      | refine Ev_lss rfl rfl ?_
      | refine Ev_leq rfl rfl ?_
      | refine Ev_gtr rfl rfl ?_
      | refine Ev_geq rfl rfl ?_
      | refine Ev_eql rfl rfl ?_
      | refine Ev_neq rfl rfl ?_
      | refine Ev_seql rfl rfl ?_
      | refine Ev_sneq rfl rfl ?_
      | refine Ev_not rfl ?_
      | refine Ev_notb rfl ?_
      | refine Ev_nilCheck rfl ?_
      | refine Ev_fieldAddr rfl rfl rfl rfl rfl rfl ?_
      | refine Ev_len_str rfl rfl rfl rfl rfl ?_
      | refine Ev_len rfl rfl rfl rfl rfl rfl ?_
      | refine Ev_min rfl rfl rfl ?_
      | refine Ev_max rfl rfl rfl ?_
      | refine Ev_indexAddr rfl rfl rfl rfl rfl (by first | omega | (dsimp only; done) | (dsimp only; omega)) ?_
      | refine Ev_makeFunc rfl rfl ?_
      | refine Ev_conv_str rfl rfl rfl rfl rfl ?_
      | refine Ev_addN rfl rfl (by simp only [lim]; omega) ?_
      | refine Ev_subN rfl rfl (by simp only [lim]; omega) (by first | omega | (dsimp only; done) | (dsimp only; omega)) ?_
      | refine Ev_mulN rfl rfl (by simp only [lim]; omega) ?_
      | refine Ev_add rfl rfl (by simp only [inR]; omega) ?_
      | refine Ev_sub rfl rfl (by simp only [inR]; omega) ?_
      | refine Ev_mul rfl rfl (by simp only [inR]; omega) ?_
      | refine Ev_shrN (m := 6) (q := 64) rfl rfl rfl rfl ?_
      | refine Ev_shrN (m := 12) (q := 4096) rfl rfl rfl rfl ?_
      | refine Ev_shrN (m := 10) (q := 1024) rfl rfl rfl rfl ?_
      | refine Ev_shrN (m := 8) (q := 256) rfl rfl rfl rfl ?_
      | refine Ev_shrN (m := 4) (q := 16) rfl rfl rfl rfl ?_
      | refine Ev_shrN (m := 5) (q := 32) rfl rfl rfl rfl ?_
      | refine Ev_shrN (m := 7) (q := 128) rfl rfl rfl rfl ?_
      | refine Ev_shrN (m := 3) (q := 8) rfl rfl rfl rfl ?_
      | refine Ev_shrN (m := 18) (q := 262144) rfl rfl rfl rfl ?_
      | refine Ev_shlN (m := 6) (q := 64) rfl rfl rfl rfl (by simp only [lim]; omega) ?_
      | refine Ev_shlN (m := 12) (q := 4096) rfl rfl rfl rfl (by simp only [lim]; omega) ?_
      | refine Ev_shlN (m := 10) (q := 1024) rfl rfl rfl rfl (by simp only [lim]; omega) ?_
      | refine Ev_shlN (m := 8) (q := 256) rfl rfl rfl rfl (by simp only [lim]; omega) ?_
      | refine Ev_andN 3 8 rfl rfl rfl rfl (by simp only [lim]; omega) (by simp only [lim]; omega) ?_
      | refine Ev_andN 4 16 rfl rfl rfl rfl (by simp only [lim]; omega) (by simp only [lim]; omega) ?_
      | refine Ev_andN 5 32 rfl rfl rfl rfl (by simp only [lim]; omega) (by simp only [lim]; omega) ?_
      | refine Ev_andN 6 64 rfl rfl rfl rfl (by simp only [lim]; omega) (by simp only [lim]; omega) ?_
      | refine Ev_andN 10 1024 rfl rfl rfl rfl (by simp only [lim]; omega) (by simp only [lim]; omega) ?_
      | refine Ev_orN 4 rfl rfl rfl (by first | omega | (dsimp only; done) | (dsimp only; omega)) (by first | omega | (dsimp only; done) | (dsimp only; omega)) (by simp only [lim]; omega) ?_
      | refine Ev_orN 5 rfl rfl rfl (by first | omega | (dsimp only; done) | (dsimp only; omega)) (by first | omega | (dsimp only; done) | (dsimp only; omega)) (by simp only [lim]; omega) ?_
      | refine Ev_orN 6 rfl rfl rfl (by first | omega | (dsimp only; done) | (dsimp only; omega)) (by first | omega | (dsimp only; done) | (dsimp only; omega)) (by simp only [lim]; omega) ?_
      | refine Ev_orN 10 rfl rfl rfl (by first | omega | (dsimp only; done) | (dsimp only; omega)) (by first | omega | (dsimp only; done) | (dsimp only; omega)) (by simp only [lim]; omega) ?_
      | refine Ev_orN 12 rfl rfl rfl (by first | omega | (dsimp only; done) | (dsimp only; omega)) (by first | omega | (dsimp only; done) | (dsimp only; omega)) (by simp only [lim]; omega) ?_
      | refine Ev_orN 16 rfl rfl rfl (by first | omega | (dsimp only; done) | (dsimp only; omega)) (by first | omega | (dsimp only; done) | (dsimp only; omega)) (by simp only [lim]; omega) ?_
      | refine Ev_convN rfl rfl rfl rfl rfl (by simp only [lim]; omega) ?_
      | refine Ev_and8 rfl rfl (by first | omega | (dsimp only; done) | (dsimp only; omega)) (by first | omega | (dsimp only; done) | (dsimp only; omega)) (land_192 (by first | omega | (dsimp only; done) | (dsimp only; omega))) (by first | omega | (dsimp only; done) | (dsimp only; omega)) ?_
      | refine Ev_and8 rfl rfl (by first | omega | (dsimp only; done) | (dsimp only; omega)) (by first | omega | (dsimp only; done) | (dsimp only; omega)) (land_224 (by first | omega | (dsimp only; done) | (dsimp only; omega))) (by first | omega | (dsimp only; done) | (dsimp only; omega)) ?_
      | refine Ev_and8 rfl rfl (by first | omega | (dsimp only; done) | (dsimp only; omega)) (by first | omega | (dsimp only; done) | (dsimp only; omega)) (land_240 (by first | omega | (dsimp only; done) | (dsimp only; omega))) (by first | omega | (dsimp only; done) | (dsimp only; omega)) ?_
      | refine Ev_shr rfl rfl rfl rfl ?_
      | refine Ev_conv rfl rfl rfl rfl rfl (by simp only [inR]; omega) ?_
      | refine Ev_conv8 rfl rfl rfl rfl rfl ?_
      | (refine WO_guard_dt rfl rfl rfl rfl rfl (by kernel_rfl) (by kernel_rfl) (fun hg => ?_) (fun hg => ?_) <;> (try dsimp only at hg) <;> try (exfalso; omega))
      | (refine WO_guard_df rfl rfl rfl rfl rfl (by kernel_rfl) (by kernel_rfl) (fun hg => ?_) (fun hg => ?_) <;> (try dsimp only at hg) <;> try (exfalso; omega))
      | (refine W_cond rfl (fun hc => ?_) (fun hc => ?_) <;> (try dsimp only at hc) <;> try (exfalso; omega)))
  all_goals
    refine Ev_buildSlice rfl rfl rfl rfl rfl rfl hok (by omega) ?_
    intro S1 hn1 hok1 hq1 hf1
    repeat (
      first
        | refine W_seq ?_
        | refine WO_nil ?_
        | refine V_seq ?_
        | refine W_region ?_
        | refine W_drawn (by kernel_rfl) ?_
        | refine W_block ?_
        | refine W_scope ?_
        | refine W_skip ?_
        | refine W_ret ?_
        | refine W_exit ?_
        | refine W_label ?_
        | refine V_ret ?_
        | refine V_block ?_
        | refine V_block_x rfl ?_
        | refine V_block_y rfl ?_
        | refine V_seq_x ?_
        | refine V_loop_x ?_
        | refine W_cond_t rfl ?_
        | refine W_cond_f rfl ?_
        | refine WO_dst rfl rfl (by kernel_rfl) (by kernel_rfl) ?_
        | refine WO_no rfl rfl ?_
        | refine WO_guard_t rfl rfl rfl rfl rfl (by kernel_rfl) (by kernel_rfl) ?_
        | refine WO_guard_f rfl rfl rfl rfl rfl rfl (by kernel_rfl) (by kernel_rfl) ?_
        | refine WO_guard_x rfl rfl rfl rfl rfl (by kernel_rfl) (by kernel_rfl) ?_
        | refine Ev_move rfl ?_
        | refine Ev_assign rfl ?_
        | refine Ev_extract rfl rfl ?_
        | refine Ev_pick_t rfl rfl rfl ?_
        | refine Ev_pick_f rfl rfl rfl ?_
        | refine Ev_lssN rfl rfl ?_
        | refine Ev_leqN rfl rfl ?_
        | refine Ev_gtrN rfl rfl ?_
        | refine Ev_geqN rfl rfl ?_
        | refine Ev_eqlN rfl rfl ?_
        | refine Ev_neqN rfl rfl ?_
        | refine Ev_lss rfl rfl ?_
        | refine Ev_leq rfl rfl ?_
        | refine Ev_gtr rfl rfl ?_
        | refine Ev_geq rfl rfl ?_
        | refine Ev_eql rfl rfl ?_
        | refine Ev_neq rfl rfl ?_
        | refine Ev_seql rfl rfl ?_
        | refine Ev_sneq rfl rfl ?_
        | refine Ev_not rfl ?_
        | refine Ev_notb rfl ?_
        | refine Ev_nilCheck rfl ?_
        | refine Ev_fieldAddr rfl rfl rfl rfl rfl rfl ?_
        | refine Ev_len_str rfl rfl rfl rfl rfl ?_
        | refine Ev_len rfl rfl rfl rfl rfl rfl ?_
        | refine Ev_min rfl rfl rfl ?_
        | refine Ev_max rfl rfl rfl ?_
        | refine Ev_indexAddr rfl rfl rfl rfl rfl (by first | omega | (dsimp only; done) | (dsimp only; omega)) ?_
        | refine Ev_makeFunc rfl rfl ?_
        | refine Ev_conv_str rfl rfl rfl rfl rfl ?_
        | refine Ev_addN rfl rfl (by simp only [lim]; omega) ?_
        | refine Ev_subN rfl rfl (by simp only [lim]; omega) (by first | omega | (dsimp only; done) | (dsimp only; omega)) ?_
        | refine Ev_mulN rfl rfl (by simp only [lim]; omega) ?_
        | refine Ev_add rfl rfl (by simp only [inR]; omega) ?_
        | refine Ev_sub rfl rfl (by simp only [inR]; omega) ?_
        | refine Ev_mul rfl rfl (by simp only [inR]; omega) ?_
        | refine Ev_shrN (m := 6) (q := 64) rfl rfl rfl rfl ?_
        | refine Ev_shrN (m := 12) (q := 4096) rfl rfl rfl rfl ?_
        | refine Ev_shrN (m := 10) (q := 1024) rfl rfl rfl rfl ?_
        | refine Ev_shrN (m := 8) (q := 256) rfl rfl rfl rfl ?_
        | refine Ev_shrN (m := 4) (q := 16) rfl rfl rfl rfl ?_
        | refine Ev_shrN (m := 5) (q := 32) rfl rfl rfl rfl ?_
        | refine Ev_shrN (m := 7) (q := 128) rfl rfl rfl rfl ?_
        | refine Ev_shrN (m := 3) (q := 8) rfl rfl rfl rfl ?_
        | refine Ev_shrN (m := 18) (q := 262144) rfl rfl rfl rfl ?_
        | refine Ev_shlN (m := 6) (q := 64) rfl rfl rfl rfl (by simp only [lim]; omega) ?_
        | refine Ev_shlN (m := 12) (q := 4096) rfl rfl rfl rfl (by simp only [lim]; omega) ?_
        | refine Ev_shlN (m := 10) (q := 1024) rfl rfl rfl rfl (by simp only [lim]; omega) ?_
        | refine Ev_shlN (m := 8) (q := 256) rfl rfl rfl rfl (by simp only [lim]; omega) ?_
        | refine Ev_andN 3 8 rfl rfl rfl rfl (by simp only [lim]; omega) (by simp only [lim]; omega) ?_
        | refine Ev_andN 4 16 rfl rfl rfl rfl (by simp only [lim]; omega) (by simp only [lim]; omega) ?_
        | refine Ev_andN 5 32 rfl rfl rfl rfl (by simp only [lim]; omega) (by simp only [lim]; omega) ?_
        | refine Ev_andN 6 64 rfl rfl rfl rfl (by simp only [lim]; omega) (by simp only [lim]; omega) ?_
        | refine Ev_andN 10 1024 rfl rfl rfl rfl (by simp only [lim]; omega) (by simp only [lim]; omega) ?_
        | refine Ev_orN 4 rfl rfl rfl (by first | omega | (dsimp only; done) | (dsimp only; omega)) (by first | omega | (dsimp only; done) | (dsimp only; omega)) (by simp only [lim]; omega) ?_
        | refine Ev_orN 5 rfl rfl rfl (by first | omega | (dsimp only; done) | (dsimp only; omega)) (by first | omega | (dsimp only; done) | (dsimp only; omega)) (by simp only [lim]; omega) ?_
        | refine Ev_orN 6 rfl rfl rfl (by first | omega | (dsimp only; done) | (dsimp only; omega)) (by first | omega | (dsimp only; done) | (dsimp only; omega)) (by simp only [lim]; omega) ?_
        | refine Ev_orN 10 rfl rfl rfl (by first | omega | (dsimp only; done) | (dsimp only; omega)) (by first | omega | (dsimp only; done) | (dsimp only; omega)) (by simp only [lim]; omega) ?_
        | refine Ev_orN 12 rfl rfl rfl (by first | omega | (dsimp only; done) | (dsimp only; omega)) (by first | omega | (dsimp only; done) | (dsimp only; omega)) (by simp only [lim]; omega) ?_
        | refine Ev_orN 16 rfl rfl rfl (by first | omega | (dsimp only; done) | (dsimp only; omega)) (by first | omega | (dsimp only; done) | (dsimp only; omega)) (by simp only [lim]; omega) ?_
        | refine Ev_convN rfl rfl rfl rfl rfl (by simp only [lim]; omega) ?_
        | refine Ev_and8 rfl rfl (by first | omega | (dsimp only; done) | (dsimp only; omega)) (by first | omega | (dsimp only; done) | (dsimp only; omega)) (land_192 (by first | omega | (dsimp only; done) | (dsimp only; omega))) (by first | omega | (dsimp only; done) | (dsimp only; omega)) ?_
        | refine Ev_and8 rfl rfl (by first | omega | (dsimp only; done) | (dsimp only; omega)) (by first | omega | (dsimp only; done) | (dsimp only; omega)) (land_224 (by first | omega | (dsimp only; done) | (dsimp only; omega))) (by first | omega | (dsimp only; done) | (dsimp only; omega)) ?_
        | refine Ev_and8 rfl rfl (by first | omega | (dsimp only; done) | (dsimp only; omega)) (by first | omega | (dsimp only; done) | (dsimp only; omega)) (land_240 (by first | omega | (dsimp only; done) | (dsimp only; omega))) (by first | omega | (dsimp only; done) | (dsimp only; omega)) ?_
        | refine Ev_shr rfl rfl rfl rfl ?_
        | refine Ev_conv rfl rfl rfl rfl rfl (by simp only [inR]; omega) ?_
        | refine Ev_conv8 rfl rfl rfl rfl rfl ?_)
    refine Ev_append rfl rfl rfl rfl rfl rfl rfl rfl rfl rfl (hv.keep (fun b hb => hf1 b (hv.lt hok hb))) (Rd_lit hq1 rfl (by kernel_rfl)) rfl hok1 (by omega) (by dsimp only; omega) (by omega) ?_
    intro v2 S2 hle2 hn2 hok2 hown2 hf2 hb2
    repeat (
      first
        | refine W_seq ?_
        | refine WO_nil ?_
        | refine V_seq ?_
        | refine W_region ?_
        | refine W_drawn (by kernel_rfl) ?_
        | refine W_block ?_
        | refine W_scope ?_
        | refine W_skip ?_
        | refine W_ret ?_
        | refine W_exit ?_
        | refine W_label ?_
        | refine V_ret ?_
        | refine V_block ?_
        | refine V_block_x rfl ?_
        | refine V_block_y rfl ?_
        | refine V_seq_x ?_
        | refine V_loop_x ?_
        | refine W_cond_t rfl ?_
        | refine W_cond_f rfl ?_
        | refine WO_dst rfl rfl (by kernel_rfl) (by kernel_rfl) ?_
        | refine WO_no rfl rfl ?_
        | refine WO_guard_t rfl rfl rfl rfl rfl (by kernel_rfl) (by kernel_rfl) ?_
        | refine WO_guard_f rfl rfl rfl rfl rfl rfl (by kernel_rfl) (by kernel_rfl) ?_
        | refine WO_guard_x rfl rfl rfl rfl rfl (by kernel_rfl) (by kernel_rfl) ?_
        | refine Ev_move rfl ?_
        | refine Ev_assign rfl ?_
        | refine Ev_extract rfl rfl ?_
        | refine Ev_pick_t rfl rfl rfl ?_
        | refine Ev_pick_f rfl rfl rfl ?_
        | refine Ev_lssN rfl rfl ?_
        | refine Ev_leqN rfl rfl ?_
        | refine Ev_gtrN rfl rfl ?_
        | refine Ev_geqN rfl rfl ?_
        | refine Ev_eqlN rfl rfl ?_
        | refine Ev_neqN rfl rfl ?_
        | refine Ev_lss rfl rfl ?_
        | refine Ev_leq rfl rfl ?_
        | refine Ev_gtr rfl rfl ?_
        | refine Ev_geq rfl rfl ?_
        | refine Ev_eql rfl rfl ?_
        | refine Ev_neq rfl rfl ?_
        | refine Ev_seql rfl rfl ?_
        | refine Ev_sneq rfl rfl ?_
        | refine Ev_not rfl ?_
        | refine Ev_notb rfl ?_
        | refine Ev_nilCheck rfl ?_
        | refine Ev_fieldAddr rfl rfl rfl rfl rfl rfl ?_
        | refine Ev_len_str rfl rfl rfl rfl rfl ?_
        | refine Ev_len rfl rfl rfl rfl rfl rfl ?_
        | refine Ev_min rfl rfl rfl ?_
        | refine Ev_max rfl rfl rfl ?_
        | refine Ev_indexAddr rfl rfl rfl rfl rfl (by first | omega | (dsimp only; done) | (dsimp only; omega)) ?_
        | refine Ev_makeFunc rfl rfl ?_
        | refine Ev_conv_str rfl rfl rfl rfl rfl ?_
        | refine Ev_addN rfl rfl (by simp only [lim]; omega) ?_
        | refine Ev_subN rfl rfl (by simp only [lim]; omega) (by first | omega | (dsimp only; done) | (dsimp only; omega)) ?_
        | refine Ev_mulN rfl rfl (by simp only [lim]; omega) ?_
        | refine Ev_add rfl rfl (by simp only [inR]; omega) ?_
        | refine Ev_sub rfl rfl (by simp only [inR]; omega) ?_
        | refine Ev_mul rfl rfl (by simp only [inR]; omega) ?_
        | refine Ev_shrN (m := 6) (q := 64) rfl rfl rfl rfl ?_
        | refine Ev_shrN (m := 12) (q := 4096) rfl rfl rfl rfl ?_
        | refine Ev_shrN (m := 10) (q := 1024) rfl rfl rfl rfl ?_
        | refine Ev_shrN (m := 8) (q := 256) rfl rfl rfl rfl ?_
        | refine Ev_shrN (m := 4) (q := 16) rfl rfl rfl rfl ?_
        | refine Ev_shrN (m := 5) (q := 32) rfl rfl rfl rfl ?_
        | refine Ev_shrN (m := 7) (q := 128) rfl rfl rfl rfl ?_
        | refine Ev_shrN (m := 3) (q := 8) rfl rfl rfl rfl ?_
        | refine Ev_shrN (m := 18) (q := 262144) rfl rfl rfl rfl ?_
        | refine Ev_shlN (m := 6) (q := 64) rfl rfl rfl rfl (by simp only [lim]; omega) ?_
        | refine Ev_shlN (m := 12) (q := 4096) rfl rfl rfl rfl (by simp only [lim]; omega) ?_
        | refine Ev_shlN (m := 10) (q := 1024) rfl rfl rfl rfl (by simp only [lim]; omega) ?_
        | refine Ev_shlN (m := 8) (q := 256) rfl rfl rfl rfl (by simp only [lim]; omega) ?_
        | refine Ev_andN 3 8 rfl rfl rfl rfl (by simp only [lim]; omega) (by simp only [lim]; omega) ?_
        | refine Ev_andN 4 16 rfl rfl rfl rfl (by simp only [lim]; omega) (by simp only [lim]; omega) ?_
        | refine Ev_andN 5 32 rfl rfl rfl rfl (by simp only [lim]; omega) (by simp only [lim]; omega) ?_
        | refine Ev_andN 6 64 rfl rfl rfl rfl (by simp only [lim]; omega) (by simp only [lim]; omega) ?_
        | refine Ev_andN 10 1024 rfl rfl rfl rfl (by simp only [lim]; omega) (by simp only [lim]; omega) ?_
        | refine Ev_orN 4 rfl rfl rfl (by first | omega | (dsimp only; done) | (dsimp only; omega)) (by first | omega | (dsimp only; done) | (dsimp only; omega)) (by simp only [lim]; omega) ?_
        | refine Ev_orN 5 rfl rfl rfl (by first | omega | (dsimp only; done) | (dsimp only; omega)) (by first | omega | (dsimp only; done) | (dsimp only; omega)) (by simp only [lim]; omega) ?_
        | refine Ev_orN 6 rfl rfl rfl (by first | omega | (dsimp only; done) | (dsimp only; omega)) (by first | omega | (dsimp only; done) | (dsimp only; omega)) (by simp only [lim]; omega) ?_
        | refine Ev_orN 10 rfl rfl rfl (by first | omega | (dsimp only; done) | (dsimp only; omega)) (by first | omega | (dsimp only; done) | (dsimp only; omega)) (by simp only [lim]; omega) ?_
        | refine Ev_orN 12 rfl rfl rfl (by first | omega | (dsimp only; done) | (dsimp only; omega)) (by first | omega | (dsimp only; done) | (dsimp only; omega)) (by simp only [lim]; omega) ?_
        | refine Ev_orN 16 rfl rfl rfl (by first | omega | (dsimp only; done) | (dsimp only; omega)) (by first | omega | (dsimp only; done) | (dsimp only; omega)) (by simp only [lim]; omega) ?_
        | refine Ev_convN rfl rfl rfl rfl rfl (by simp only [lim]; omega) ?_
        | refine Ev_and8 rfl rfl (by first | omega | (dsimp only; done) | (dsimp only; omega)) (by first | omega | (dsimp only; done) | (dsimp only; omega)) (land_192 (by first | omega | (dsimp only; done) | (dsimp only; omega))) (by first | omega | (dsimp only; done) | (dsimp only; omega)) ?_
        | refine Ev_and8 rfl rfl (by first | omega | (dsimp only; done) | (dsimp only; omega)) (by first | omega | (dsimp only; done) | (dsimp only; omega)) (land_224 (by first | omega | (dsimp only; done) | (dsimp only; omega))) (by first | omega | (dsimp only; done) | (dsimp only; omega)) ?_
        | refine Ev_and8 rfl rfl (by first | omega | (dsimp only; done) | (dsimp only; omega)) (by first | omega | (dsimp only; done) | (dsimp only; omega)) (land_240 (by first | omega | (dsimp only; done) | (dsimp only; omega))) (by first | omega | (dsimp only; done) | (dsimp only; omega)) ?_
        | refine Ev_shr rfl rfl rfl rfl ?_
        | refine Ev_conv rfl rfl rfl rfl rfl (by simp only [inR]; omega) ?_
        | refine Ev_conv8 rfl rfl rfl rfl rfl ?_)
    refine V_done rfl rfl ?_
    refine ⟨⟨by omega, by omega, hok2, fun c h1 h2 => by rw [hf2 c h1 (by omega), hf1 c h2]⟩, ?_, fun c hc => (hb2 c hc).imp id (fun h => by omega)⟩
    refine hown2.eq ?_ ?_
    · simp [sbytes, unitL, *] <;> rfl
    · simp [unitL, *]
end Go.Proofs.YtnlfcoojlgdgaaaDoor
/- mutf.Encode: what it answers. -/

namespace Go.Proofs.YtnlfcoojlgdgaaaDoor
open GX
set_option maxHeartbeats 4000000
theorem valid_runs {s : List Nat} {S : St} (hl : s.length < 9223372036854775808) {R : AV → St → Prop} (h : R (.bool (vS s)) S) : Runs X1 42 [.str s] S R :=
  Runs_ext (g := extValid) rfl (by unfold extValid; dsimp only; rw [nblt, decide_eq_true hl]; rfl) (Nat.le_refl _) h
structure EncR (S0 : St) (s : List Nat) (r : AV) (S' : St) : Prop where
  fr : Fr S0 S' .nils (4 * s.length + 1)
  out : ∃ v, r = .tup [v, .int .i64 (if vS s = true then 0 else 12)] ∧ Ow S' v (if vS s = true then encS s else []) ∧ ∀ c, blkOf v = some c → S0.n ≤ c
structure EncI (S : St) (s : List Nat) (a : Nat × AV × List Nat) (T : St) : Prop where
  le : a.1 ≤ s.length
  ok : Sok T
  it : T.h.get S.n = some (.sit s a.1)
  ow : Ow T a.2.1 a.2.2
  eq : a.2.2 ++ encS (s.drop a.1) = encS s
  len : a.2.2.length ≤ 6 * a.1
  lt : S.n < T.n
  n : T.n + 4 * (s.length - a.1) ≤ S.n + (4 * s.length + 1)
  fr : ∀ c, c < S.n → T.h.get c = S.h.get c
  bk : ∀ c, blkOf a.2.1 = some c → S.n < c
theorem enc_runs {S : St} {s : List Nat} (hok : Sok S) (hl : s.length ≤ 100000000) (hn : S.n + (4 * s.length + 1) ≤ 1000000000) : Runs X1 11 [.str s] S (EncR S s) := by
  refine Runs_fn (m := 31) (by kernel_rfl) Tryd.func11 rfl (by kernel_rfl) (by kernel_rfl) ?_
  repeat (
    first
      | refine W_seq ?_
      | refine WO_nil ?_
      | refine V_seq ?_
      | refine W_region ?_
      | refine W_drawn (by kernel_rfl) ?_
      | refine W_block ?_
      | refine W_scope ?_
      | refine W_skip ?_
      | refine W_ret ?_
      | refine W_exit ?_
      | refine W_label ?_
      | refine V_ret ?_
      | refine V_block ?_
      | refine V_block_x rfl ?_
      | refine V_block_y rfl ?_
      | refine V_seq_x ?_
      | refine V_loop_x ?_
      | refine W_cond_t rfl ?_
      | refine W_cond_f rfl ?_
      | refine WO_dst rfl rfl (by kernel_rfl) (by kernel_rfl) ?_
      | refine WO_no rfl rfl ?_
      | refine WO_guard_t rfl rfl rfl rfl rfl (by kernel_rfl) (by kernel_rfl) ?_
      | refine WO_guard_f rfl rfl rfl rfl rfl rfl (by kernel_rfl) (by kernel_rfl) ?_
      | refine WO_guard_x rfl rfl rfl rfl rfl (by kernel_rfl) (by kernel_rfl) ?_
      | refine Ev_move rfl ?_
      | refine Ev_assign rfl ?_
      | refine Ev_extract rfl rfl ?_
      | refine Ev_pick_t rfl rfl rfl ?_
      | refine Ev_pick_f rfl rfl rfl ?_
      | refine Ev_lssN rfl rfl ?_
      | refine Ev_leqN rfl rfl ?_
      | refine Ev_gtrN rfl rfl ?_
      | refine Ev_geqN rfl rfl ?_
      | refine Ev_eqlN rfl rfl ?_
      | refine Ev_neqN rfl rfl ?_
      | refine Ev_lss rfl rfl ?_
      | refine Ev_leq rfl rfl ?_
      | refine Ev_gtr rfl rfl ?_
      | refine Ev_geq rfl rfl ?_
      | refine Ev_eql rfl rfl ?_
      | refine Ev_neq rfl rfl ?_
      | refine Ev_seql rfl rfl ?_
      | refine Ev_sneq rfl rfl ?_
      | refine Ev_not rfl ?_
      | refine Ev_notb rfl ?_
      | refine Ev_nilCheck rfl ?_
      | refine Ev_fieldAddr rfl rfl rfl rfl rfl rfl ?_
      | refine Ev_len_str rfl rfl rfl rfl rfl ?_
      | refine Ev_len rfl rfl rfl rfl rfl rfl ?_
      | refine Ev_min rfl rfl rfl ?_
      | refine Ev_max rfl rfl rfl ?_
      | refine Ev_indexAddr rfl rfl rfl rfl rfl (by first | omega | (dsimp only; done) | (dsimp only; omega)) ?_
      | refine Ev_makeFunc rfl rfl ?_
      | refine Ev_conv_str rfl rfl rfl rfl rfl ?_
      | refine Ev_addN rfl rfl (by simp only [lim]; omega) ?_
      | refine Ev_subN rfl rfl (by simp only [lim]; omega) (by first | omega | (dsimp only; done) | (dsimp only; omega)) ?_
      | refine Ev_mulN rfl rfl (by simp only [lim]; omega) ?_
      | refine Ev_add rfl rfl (by simp only [inR]; omega) ?_
      | refine Ev_sub rfl rfl (by simp only [inR]; omega) ?_
      | refine Ev_mul rfl rfl (by simp only [inR]; omega) ?_
      | refine Ev_shrN (m := 6) (q := 64) rfl rfl rfl rfl ?_
      | refine Ev_shrN (m := 12) (q := 4096) rfl rfl rfl rfl ?_
      | refine Ev_shrN (m := 10) (q := 1024) rfl rfl rfl rfl ?_
      | refine Ev_shrN (m := 8) (q := 256) rfl rfl rfl rfl ?_
      | refine Ev_shrN (m := 4) (q := 16) rfl rfl rfl rfl ?_
      | refine Ev_shrN (m := 5) (q := 32) rfl rfl rfl rfl ?_
      | refine Ev_shrN (m := 7) (q := 128) rfl rfl rfl rfl ?_
      | refine Ev_shrN (m := 3) (q := 8) rfl rfl rfl rfl ?_
      | refine Ev_shrN (m := 18) (q := 262144) rfl rfl rfl rfl ?_
      | refine Ev_shlN (m := 6) (q := 64) rfl rfl rfl rfl (by simp only [lim]; omega) ?_
      | refine Ev_shlN (m := 12) (q := 4096) rfl rfl rfl rfl (by simp only [lim]; omega) ?_
      | refine Ev_shlN (m := 10) (q := 1024) rfl rfl rfl rfl (by simp only [lim]; omega) ?_
      | refine Ev_shlN (m := 8) (q := 256) rfl rfl rfl rfl (by simp only [lim]; omega) ?_
      | refine Ev_andN 3 8 rfl rfl rfl rfl (by simp only [lim]; omega) (by simp only [lim]; omega) ?_
      | refine Ev_andN 4 16 rfl rfl rfl rfl (by simp only [lim]; omega) (by simp only [lim]; omega) ?_
      | refine Ev_andN 5 32 rfl rfl rfl rfl (by simp only [lim]; omega) (by simp only [lim]; omega) ?_
      | refine Ev_andN 6 64 rfl rfl rfl rfl (by simp only [lim]; omega) (by simp only [lim]; omega) ?_
      | refine Ev_andN 10 1024 rfl rfl rfl rfl (by simp only [lim]; omega) (by simp only [lim]; omega) ?_
      | refine Ev_orN 4 rfl rfl rfl (by first | omega | (dsimp only; done) | (dsimp only; omega)) (by first | omega | (dsimp only; done) | (dsimp only; omega)) (by simp only [lim]; omega) ?_
      | refine Ev_orN 5 rfl rfl rfl (by first | omega | (dsimp only; done) | (dsimp only; omega)) (by first | omega | (dsimp only; done) | (dsimp only; omega)) (by simp only [lim]; omega) ?_
      | refine Ev_orN 6 rfl rfl rfl (by first | omega | (dsimp only; done) | (dsimp only; omega)) (by first | omega | (dsimp only; done) | (dsimp only; omega)) (by simp only [lim]; omega) ?_
      | refine Ev_orN 10 rfl rfl rfl (by first | omega | (dsimp only; done) | (dsimp only; omega)) (by first | omega | (dsimp only; done) | (dsimp only; omega)) (by simp only [lim]; omega) ?_
      | refine Ev_orN 12 rfl rfl rfl (by first | omega | (dsimp only; done) | (dsimp only; omega)) (by first | omega | (dsimp only; done) | (dsimp only; omega)) (by simp only [lim]; omega) ?_
      | refine Ev_orN 16 rfl rfl rfl (by first | omega | (dsimp only; done) | (dsimp only; omega)) (by first | omega | (dsimp only; done) | (dsimp only; omega)) (by simp only [lim]; omega) ?_
      | refine Ev_convN rfl rfl rfl rfl rfl (by simp only [lim]; omega) ?_
      | refine Ev_and8 rfl rfl (by first | omega | (dsimp only; done) | (dsimp only; omega)) (by first | omega | (dsimp only; done) | (dsimp only; omega)) (land_192 (by first | omega | (dsimp only; done) | (dsimp only; omega))) (by first | omega | (dsimp only; done) | (dsimp only; omega)) ?_
      | refine Ev_and8 rfl rfl (by first | omega | (dsimp only; done) | (dsimp only; omega)) (by first | omega | (dsimp only; done) | (dsimp only; omega)) (land_224 (by first | omega | (dsimp only; done) | (dsimp only; omega))) (by first | omega | (dsimp only; done) | (dsimp only; omega)) ?_
      | refine Ev_and8 rfl rfl (by first | omega | (dsimp only; done) | (dsimp only; omega)) (by first | omega | (dsimp only; done) | (dsimp only; omega)) (land_240 (by first | omega | (dsimp only; done) | (dsimp only; omega))) (by first | omega | (dsimp only; done) | (dsimp only; omega)) ?_
      | refine Ev_shr rfl rfl rfl rfl ?_
      | refine Ev_conv rfl rfl rfl rfl rfl (by simp only [inR]; omega) ?_
      | refine Ev_conv8 rfl rfl rfl rfl rfl ?_)
  refine Ev_call rfl rfl (valid_runs (by omega) ?_)
  repeat (
    first
      | refine W_seq ?_
      | refine WO_nil ?_
      | refine V_seq ?_
      | refine W_region ?_
      | refine W_drawn (by kernel_rfl) ?_
      | refine W_block ?_
      | refine W_scope ?_
      | refine W_skip ?_
      | refine W_ret ?_
      | refine W_exit ?_
      | refine W_label ?_
      | refine V_ret ?_
      | refine V_block ?_
      | refine V_block_x rfl ?_
      | refine V_block_y rfl ?_
      | refine V_seq_x ?_
      | refine V_loop_x ?_
      | refine W_cond_t rfl ?_
      | refine W_cond_f rfl ?_
      | refine WO_dst rfl rfl (by kernel_rfl) (by kernel_rfl) ?_
      | refine WO_no rfl rfl ?_
      | refine WO_guard_t rfl rfl rfl rfl rfl (by kernel_rfl) (by kernel_rfl) ?_
      | refine WO_guard_f rfl rfl rfl rfl rfl rfl (by kernel_rfl) (by kernel_rfl) ?_
      | refine WO_guard_x rfl rfl rfl rfl rfl (by kernel_rfl) (by kernel_rfl) ?_
      | refine Ev_move rfl ?_
      | refine Ev_assign rfl ?_
      | refine Ev_extract rfl rfl ?_
      | refine Ev_pick_t rfl rfl rfl ?_
      | refine Ev_pick_f rfl rfl rfl ?_
      | refine Ev_lssN rfl rfl ?_
      | refine Ev_leqN rfl rfl ?_
      | refine Ev_gtrN rfl rfl ?_
      | refine Ev_geqN rfl rfl ?_
      | refine Ev_eqlN rfl rfl ?_
      | refine Ev_neqN rfl rfl ?_
      | refine Ev_lss rfl rfl ?_
      | refine Ev_leq rfl rfl ?_
      | refine Ev_gtr rfl rfl ?_
      | refine Ev_geq rfl rfl ?_
      | refine Ev_eql rfl rfl ?_
      | refine Ev_neq rfl rfl ?_
      | refine Ev_seql rfl rfl ?_
      | refine Ev_sneq rfl rfl ?_
      | refine Ev_not rfl ?_
      | refine Ev_notb rfl ?_
      | refine Ev_nilCheck rfl ?_
      | refine Ev_fieldAddr rfl rfl rfl rfl rfl rfl ?_
      | refine Ev_len_str rfl rfl rfl rfl rfl ?_
      | refine Ev_len rfl rfl rfl rfl rfl rfl ?_
      | refine Ev_min rfl rfl rfl ?_
      | refine Ev_max rfl rfl rfl ?_
      | refine Ev_indexAddr rfl rfl rfl rfl rfl (by first | omega | (dsimp only; done) | (dsimp only; omega)) ?_
      | refine Ev_makeFunc rfl rfl ?_
      | refine Ev_conv_str rfl rfl rfl rfl rfl ?_
      | refine Ev_addN rfl rfl (by simp only [lim]; omega) ?_
      | refine Ev_subN rfl rfl (by simp only [lim]; omega) (by first | omega | (dsimp only; done) | (dsimp only; omega)) ?_
      | refine Ev_mulN rfl rfl (by simp only [lim]; omega) ?_
      | refine Ev_add rfl rfl (by simp only [inR]; omega) ?_
      | refine Ev_sub rfl rfl (by simp only [inR]; omega) ?_
      | refine Ev_mul rfl rfl (by simp only [inR]; omega) ?_
      | refine Ev_shrN (m := 6) (q := 64) rfl rfl rfl rfl ?_
      | refine Ev_shrN (m := 12) (q := 4096) rfl rfl rfl rfl ?_
      | refine Ev_shrN (m := 10) (q := 1024) rfl rfl rfl rfl ?_
      | refine Ev_shrN (m := 8) (q := 256) rfl rfl rfl rfl ?_
      | refine Ev_shrN (m := 4) (q := 16) rfl rfl rfl rfl ?_
      | refine Ev_shrN (m := 5) (q := 32) rfl rfl rfl rfl ?_
      | refine Ev_shrN (m := 7) (q := 128) rfl rfl rfl rfl ?_
      | refine Ev_shrN (m := 3) (q := 8) rfl rfl rfl rfl ?_
      | refine Ev_shrN (m := 18) (q := 262144) rfl rfl rfl rfl ?_
      | refine Ev_shlN (m := 6) (q := 64) rfl rfl rfl rfl (by simp only [lim]; omega) ?_
      | refine Ev_shlN (m := 12) (q := 4096) rfl rfl rfl rfl (by simp only [lim]; omega) ?_
      | refine Ev_shlN (m := 10) (q := 1024) rfl rfl rfl rfl (by simp only [lim]; omega) ?_
      | refine Ev_shlN (m := 8) (q := 256) rfl rfl rfl rfl (by simp only [lim]; omega) ?_
      | refine Ev_andN 3 8 rfl rfl rfl rfl (by simp only [lim]; omega) (by simp only [lim]; omega) ?_
      | refine Ev_andN 4 16 rfl rfl rfl rfl (by simp only [lim]; omega) (by simp only [lim]; omega) ?_
      | refine Ev_andN 5 32 rfl rfl rfl rfl (by simp only [lim]; omega) (by simp only [lim]; omega) ?_
      | refine Ev_andN 6 64 rfl rfl rfl rfl (by simp only [lim]; omega) (by simp only [lim]; omega) ?_
      | refine Ev_andN 10 1024 rfl rfl rfl rfl (by simp only [lim]; omega) (by simp only [lim]; omega) ?_
      | refine Ev_orN 4 rfl rfl rfl (by first | omega | (dsimp only; done) | (dsimp only; omega)) (by first | omega | (dsimp only; done) | (dsimp only; omega)) (by simp only [lim]; omega) ?_
      | refine Ev_orN 5 rfl rfl rfl (by first | omega | (dsimp only; done) | (dsimp only; omega)) (by first | omega | (dsimp only; done) | (dsimp only; omega)) (by simp only [lim]; omega) ?_
      | refine Ev_orN 6 rfl rfl rfl (by first | omega | (dsimp only; done) | (dsimp only; omega)) (by first | omega | (dsimp only; done) | (dsimp only; omega)) (by simp only [lim]; omega) ?_
      | refine Ev_orN 10 rfl rfl rfl (by first | omega | (dsimp only; done) | (dsimp only; omega)) (by first | omega | (dsimp only; done) | (dsimp only; omega)) (by simp only [lim]; omega) ?_
      | refine Ev_orN 12 rfl rfl rfl (by first | omega | (dsimp only; done) | (dsimp only; omega)) (by first | omega | (dsimp only; done) | (dsimp only; omega)) (by simp only [lim]; omega) ?_
      | refine Ev_orN 16 rfl rfl rfl (by first | omega | (dsimp only; done) | (dsimp only; omega)) (by first | omega | (dsimp only; done) | (dsimp only; omega)) (by simp only [lim]; omega) ?_
      | refine Ev_convN rfl rfl rfl rfl rfl (by simp only [lim]; omega) ?_
      | refine Ev_and8 rfl rfl (by first | omega | (dsimp only; done) | (dsimp only; omega)) (by first | omega | (dsimp only; done) | (dsimp only; omega)) (land_192 (by first | omega | (dsimp only; done) | (dsimp only; omega))) (by first | omega | (dsimp only; done) | (dsimp only; omega)) ?_
      | refine Ev_and8 rfl rfl (by first | omega | (dsimp only; done) | (dsimp only; omega)) (by first | omega | (dsimp only; done) | (dsimp only; omega)) (land_224 (by first | omega | (dsimp only; done) | (dsimp only; omega))) (by first | omega | (dsimp only; done) | (dsimp only; omega)) ?_
      | refine Ev_and8 rfl rfl (by first | omega | (dsimp only; done) | (dsimp only; omega)) (by first | omega | (dsimp only; done) | (dsimp only; omega)) (land_240 (by first | omega | (dsimp only; done) | (dsimp only; omega))) (by first | omega | (dsimp only; done) | (dsimp only; omega)) ?_
      | refine Ev_shr rfl rfl rfl rfl ?_
      | refine Ev_conv rfl rfl rfl rfl rfl (by simp only [inR]; omega) ?_
      | refine Ev_conv8 rfl rfl rfl rfl rfl ?_)
  refine W_condb rfl (fun hc => ?_) (fun hc => ?_)
  · have hv : vS s = false := by simpa using hc
    repeat (
      first
        | refine W_seq ?_
        | refine WO_nil ?_
        | refine V_seq ?_
        | refine W_region ?_
        | refine W_drawn (by kernel_rfl) ?_
        | refine W_block ?_
        | refine W_scope ?_
        | refine W_skip ?_
        | refine W_ret ?_
        | refine W_exit ?_
        | refine W_label ?_
        | refine V_ret ?_
        | refine V_block ?_
        | refine V_block_x rfl ?_
        | refine V_block_y rfl ?_
        | refine V_seq_x ?_
        | refine V_loop_x ?_
        | refine W_cond_t rfl ?_
        | refine W_cond_f rfl ?_
        | refine WO_dst rfl rfl (by kernel_rfl) (by kernel_rfl) ?_
        | refine WO_no rfl rfl ?_
        | refine WO_guard_t rfl rfl rfl rfl rfl (by kernel_rfl) (by kernel_rfl) ?_
        | refine WO_guard_f rfl rfl rfl rfl rfl rfl (by kernel_rfl) (by kernel_rfl) ?_
        | refine WO_guard_x rfl rfl rfl rfl rfl (by kernel_rfl) (by kernel_rfl) ?_
        | refine Ev_move rfl ?_
        | refine Ev_assign rfl ?_
        | refine Ev_extract rfl rfl ?_
        | refine Ev_pick_t rfl rfl rfl ?_
        | refine Ev_pick_f rfl rfl rfl ?_
        | refine Ev_lssN rfl rfl ?_
        | refine Ev_leqN rfl rfl ?_
        | refine Ev_gtrN rfl rfl ?_
        | refine Ev_geqN rfl rfl ?_
        | refine Ev_eqlN rfl rfl ?_
        | refine Ev_neqN rfl rfl ?_
        | refine Ev_lss rfl rfl ?_
        | refine Ev_leq rfl rfl ?_
        | refine Ev_gtr rfl rfl ?_
        | refine Ev_geq rfl rfl ?_
        | refine Ev_eql rfl rfl ?_
        | refine Ev_neq rfl rfl ?_
        | refine Ev_seql rfl rfl ?_
        | refine Ev_sneq rfl rfl ?_
        | refine Ev_not rfl ?_
        | refine Ev_notb rfl ?_
        | refine Ev_nilCheck rfl ?_
        | refine Ev_fieldAddr rfl rfl rfl rfl rfl rfl ?_
        | refine Ev_len_str rfl rfl rfl rfl rfl ?_
        | refine Ev_len rfl rfl rfl rfl rfl rfl ?_
        | refine Ev_min rfl rfl rfl ?_
        | refine Ev_max rfl rfl rfl ?_
        | refine Ev_indexAddr rfl rfl rfl rfl rfl (by first | omega | (dsimp only; done) | (dsimp only; omega)) ?_
        | refine Ev_makeFunc rfl rfl ?_
        | refine Ev_conv_str rfl rfl rfl rfl rfl ?_
        | refine Ev_addN rfl rfl (by simp only [lim]; omega) ?_
        | refine Ev_subN rfl rfl (by simp only [lim]; omega) (by first | omega | (dsimp only; done) | (dsimp only; omega)) ?_
        | refine Ev_mulN rfl rfl (by simp only [lim]; omega) ?_
        | refine Ev_add rfl rfl (by simp only [inR]; omega) ?_
        | refine Ev_sub rfl rfl (by simp only [inR]; omega) ?_
        | refine Ev_mul rfl rfl (by simp only [inR]; omega) ?_
        | refine Ev_shrN (m := 6) (q := 64) rfl rfl rfl rfl ?_
        | refine Ev_shrN (m := 12) (q := 4096) rfl rfl rfl rfl ?_
        | refine Ev_shrN (m := 10) (q := 1024) rfl rfl rfl rfl ?_
        | refine Ev_shrN (m := 8) (q := 256) rfl rfl rfl rfl ?_
        | refine Ev_shrN (m := 4) (q := 16) rfl rfl rfl rfl ?_
        | refine Ev_shrN (m := 5) (q := 32) rfl rfl rfl rfl ?_
        | refine Ev_shrN (m := 7) (q := 128) rfl rfl rfl rfl ?_
        | refine Ev_shrN (m := 3) (q := 8) rfl rfl rfl rfl ?_
        | refine Ev_shrN (m := 18) (q := 262144) rfl rfl rfl rfl ?_
        | refine Ev_shlN (m := 6) (q := 64) rfl rfl rfl rfl (by simp only [lim]; omega) ?_
        | refine Ev_shlN (m := 12) (q := 4096) rfl rfl rfl rfl (by simp only [lim]; omega) ?_
        | refine Ev_shlN (m := 10) (q := 1024) rfl rfl rfl rfl (by simp only [lim]; omega) ?_
        | refine Ev_shlN (m := 8) (q := 256) rfl rfl rfl rfl (by simp only [lim]; omega) ?_
        | refine Ev_andN 3 8 rfl rfl rfl rfl (by simp only [lim]; omega) (by simp only [lim]; omega) ?_
        | refine Ev_andN 4 16 rfl rfl rfl rfl (by simp only [lim]; omega) (by simp only [lim]; omega) ?_
        | refine Ev_andN 5 32 rfl rfl rfl rfl (by simp only [lim]; omega) (by simp only [lim]; omega) ?_
        | refine Ev_andN 6 64 rfl rfl rfl rfl (by simp only [lim]; omega) (by simp only [lim]; omega) ?_
        | refine Ev_andN 10 1024 rfl rfl rfl rfl (by simp only [lim]; omega) (by simp only [lim]; omega) ?_
        | refine Ev_orN 4 rfl rfl rfl (by first | omega | (dsimp only; done) | (dsimp only; omega)) (by first | omega | (dsimp only; done) | (dsimp only; omega)) (by simp only [lim]; omega) ?_
        | refine Ev_orN 5 rfl rfl rfl (by first | omega | (dsimp only; done) | (dsimp only; omega)) (by first | omega | (dsimp only; done) | (dsimp only; omega)) (by simp only [lim]; omega) ?_
        | refine Ev_orN 6 rfl rfl rfl (by first | omega | (dsimp only; done) | (dsimp only; omega)) (by first | omega | (dsimp only; done) | (dsimp only; omega)) (by simp only [lim]; omega) ?_
        | refine Ev_orN 10 rfl rfl rfl (by first | omega | (dsimp only; done) | (dsimp only; omega)) (by first | omega | (dsimp only; done) | (dsimp only; omega)) (by simp only [lim]; omega) ?_
        | refine Ev_orN 12 rfl rfl rfl (by first | omega | (dsimp only; done) | (dsimp only; omega)) (by first | omega | (dsimp only; done) | (dsimp only; omega)) (by simp only [lim]; omega) ?_
        | refine Ev_orN 16 rfl rfl rfl (by first | omega | (dsimp only; done) | (dsimp only; omega)) (by first | omega | (dsimp only; done) | (dsimp only; omega)) (by simp only [lim]; omega) ?_
        | refine Ev_convN rfl rfl rfl rfl rfl (by simp only [lim]; omega) ?_
        | refine Ev_and8 rfl rfl (by first | omega | (dsimp only; done) | (dsimp only; omega)) (by first | omega | (dsimp only; done) | (dsimp only; omega)) (land_192 (by first | omega | (dsimp only; done) | (dsimp only; omega))) (by first | omega | (dsimp only; done) | (dsimp only; omega)) ?_
        | refine Ev_and8 rfl rfl (by first | omega | (dsimp only; done) | (dsimp only; omega)) (by first | omega | (dsimp only; done) | (dsimp only; omega)) (land_224 (by first | omega | (dsimp only; done) | (dsimp only; omega))) (by first | omega | (dsimp only; done) | (dsimp only; omega)) ?_
        | refine Ev_and8 rfl rfl (by first | omega | (dsimp only; done) | (dsimp only; omega)) (by first | omega | (dsimp only; done) | (dsimp only; omega)) (land_240 (by first | omega | (dsimp only; done) | (dsimp only; omega))) (by first | omega | (dsimp only; done) | (dsimp only; omega)) ?_
        | refine Ev_shr rfl rfl rfl rfl ?_
        | refine Ev_conv rfl rfl rfl rfl rfl (by simp only [inR]; omega) ?_
        | refine Ev_conv8 rfl rfl rfl rfl rfl ?_)
    refine V_done rfl rfl ?_
    exact ⟨⟨Nat.le_refl _, by omega, hok, fun _ _ _ => rfl⟩, .nils, by rw [hv]; rfl, by rw [hv]; exact .inl ⟨rfl, rfl, rfl⟩, fun c hc => by cases hc⟩
  · have hv : vS s = true := by simpa using hc
    repeat (
      first
        | refine W_seq ?_
        | refine WO_nil ?_
        | refine V_seq ?_
        | refine W_region ?_
        | refine W_drawn (by kernel_rfl) ?_
        | refine W_block ?_
        | refine W_scope ?_
        | refine W_skip ?_
        | refine W_ret ?_
        | refine W_exit ?_
        | refine W_label ?_
        | refine V_ret ?_
        | refine V_block ?_
        | refine V_block_x rfl ?_
        | refine V_block_y rfl ?_
        | refine V_seq_x ?_
        | refine V_loop_x ?_
        | refine W_cond_t rfl ?_
        | refine W_cond_f rfl ?_
        | refine WO_dst rfl rfl (by kernel_rfl) (by kernel_rfl) ?_
        | refine WO_no rfl rfl ?_
        | refine WO_guard_t rfl rfl rfl rfl rfl (by kernel_rfl) (by kernel_rfl) ?_
        | refine WO_guard_f rfl rfl rfl rfl rfl rfl (by kernel_rfl) (by kernel_rfl) ?_
        | refine WO_guard_x rfl rfl rfl rfl rfl (by kernel_rfl) (by kernel_rfl) ?_
        | refine Ev_move rfl ?_
        | refine Ev_assign rfl ?_
        | refine Ev_extract rfl rfl ?_
        | refine Ev_pick_t rfl rfl rfl ?_
        | refine Ev_pick_f rfl rfl rfl ?_
        | refine Ev_lssN rfl rfl ?_
        | refine Ev_leqN rfl rfl ?_
        | refine Ev_gtrN rfl rfl ?_
        | refine Ev_geqN rfl rfl ?_
        | refine Ev_eqlN rfl rfl ?_
        | refine Ev_neqN rfl rfl ?_
        | refine Ev_lss rfl rfl ?_
        | refine Ev_leq rfl rfl ?_
        | refine Ev_gtr rfl rfl ?_
        | refine Ev_geq rfl rfl ?_
        | refine Ev_eql rfl rfl ?_
        | refine Ev_neq rfl rfl ?_
        | refine Ev_seql rfl rfl ?_
        | refine Ev_sneq rfl rfl ?_
        | refine Ev_not rfl ?_
        | refine Ev_notb rfl ?_
        | refine Ev_nilCheck rfl ?_
        | refine Ev_fieldAddr rfl rfl rfl rfl rfl rfl ?_
        | refine Ev_len_str rfl rfl rfl rfl rfl ?_
        | refine Ev_len rfl rfl rfl rfl rfl rfl ?_
        | refine Ev_min rfl rfl rfl ?_
        | refine Ev_max rfl rfl rfl ?_
        | refine Ev_indexAddr rfl rfl rfl rfl rfl (by first | omega | (dsimp only; done) | (dsimp only; omega)) ?_
        | refine Ev_makeFunc rfl rfl ?_
        | refine Ev_conv_str rfl rfl rfl rfl rfl ?_
        | refine Ev_addN rfl rfl (by simp only [lim]; omega) ?_
        | refine Ev_subN rfl rfl (by simp only [lim]; omega) (by first | omega | (dsimp only; done) | (dsimp only; omega)) ?_
        | refine Ev_mulN rfl rfl (by simp only [lim]; omega) ?_
        | refine Ev_add rfl rfl (by simp only [inR]; omega) ?_
        | refine Ev_sub rfl rfl (by simp only [inR]; omega) ?_
        | refine Ev_mul rfl rfl (by simp only [inR]; omega) ?_
        | refine Ev_shrN (m := 6) (q := 64) rfl rfl rfl rfl ?_
        | refine Ev_shrN (m := 12) (q := 4096) rfl rfl rfl rfl ?_
        | refine Ev_shrN (m := 10) (q := 1024) rfl rfl rfl rfl ?_
        | refine Ev_shrN (m := 8) (q := 256) rfl rfl rfl rfl ?_
        | refine Ev_shrN (m := 4) (q := 16) rfl rfl rfl rfl ?_
        | refine Ev_shrN (m := 5) (q := 32) rfl rfl rfl rfl ?_
        | refine Ev_shrN (m := 7) (q := 128) rfl rfl rfl rfl ?_
        | refine Ev_shrN (m := 3) (q := 8) rfl rfl rfl rfl ?_
        | refine Ev_shrN (m := 18) (q := 262144) rfl rfl rfl rfl ?_
        | refine Ev_shlN (m := 6) (q := 64) rfl rfl rfl rfl (by simp only [lim]; omega) ?_
        | refine Ev_shlN (m := 12) (q := 4096) rfl rfl rfl rfl (by simp only [lim]; omega) ?_
        | refine Ev_shlN (m := 10) (q := 1024) rfl rfl rfl rfl (by simp only [lim]; omega) ?_
        | refine Ev_shlN (m := 8) (q := 256) rfl rfl rfl rfl (by simp only [lim]; omega) ?_
        | refine Ev_andN 3 8 rfl rfl rfl rfl (by simp only [lim]; omega) (by simp only [lim]; omega) ?_
        | refine Ev_andN 4 16 rfl rfl rfl rfl (by simp only [lim]; omega) (by simp only [lim]; omega) ?_
        | refine Ev_andN 5 32 rfl rfl rfl rfl (by simp only [lim]; omega) (by simp only [lim]; omega) ?_
        | refine Ev_andN 6 64 rfl rfl rfl rfl (by simp only [lim]; omega) (by simp only [lim]; omega) ?_
        | refine Ev_andN 10 1024 rfl rfl rfl rfl (by simp only [lim]; omega) (by simp only [lim]; omega) ?_
        | refine Ev_orN 4 rfl rfl rfl (by first | omega | (dsimp only; done) | (dsimp only; omega)) (by first | omega | (dsimp only; done) | (dsimp only; omega)) (by simp only [lim]; omega) ?_
        | refine Ev_orN 5 rfl rfl rfl (by first | omega | (dsimp only; done) | (dsimp only; omega)) (by first | omega | (dsimp only; done) | (dsimp only; omega)) (by simp only [lim]; omega) ?_
        | refine Ev_orN 6 rfl rfl rfl (by first | omega | (dsimp only; done) | (dsimp only; omega)) (by first | omega | (dsimp only; done) | (dsimp only; omega)) (by simp only [lim]; omega) ?_
        | refine Ev_orN 10 rfl rfl rfl (by first | omega | (dsimp only; done) | (dsimp only; omega)) (by first | omega | (dsimp only; done) | (dsimp only; omega)) (by simp only [lim]; omega) ?_
        | refine Ev_orN 12 rfl rfl rfl (by first | omega | (dsimp only; done) | (dsimp only; omega)) (by first | omega | (dsimp only; done) | (dsimp only; omega)) (by simp only [lim]; omega) ?_
        | refine Ev_orN 16 rfl rfl rfl (by first | omega | (dsimp only; done) | (dsimp only; omega)) (by first | omega | (dsimp only; done) | (dsimp only; omega)) (by simp only [lim]; omega) ?_
        | refine Ev_convN rfl rfl rfl rfl rfl (by simp only [lim]; omega) ?_
        | refine Ev_and8 rfl rfl (by first | omega | (dsimp only; done) | (dsimp only; omega)) (by first | omega | (dsimp only; done) | (dsimp only; omega)) (land_192 (by first | omega | (dsimp only; done) | (dsimp only; omega))) (by first | omega | (dsimp only; done) | (dsimp only; omega)) ?_
        | refine Ev_and8 rfl rfl (by first | omega | (dsimp only; done) | (dsimp only; omega)) (by first | omega | (dsimp only; done) | (dsimp only; omega)) (land_224 (by first | omega | (dsimp only; done) | (dsimp only; omega))) (by first | omega | (dsimp only; done) | (dsimp only; omega)) ?_
        | refine Ev_and8 rfl rfl (by first | omega | (dsimp only; done) | (dsimp only; omega)) (by first | omega | (dsimp only; done) | (dsimp only; omega)) (land_240 (by first | omega | (dsimp only; done) | (dsimp only; omega))) (by first | omega | (dsimp only; done) | (dsimp only; omega)) ?_
        | refine Ev_shr rfl rfl rfl rfl ?_
        | refine Ev_conv rfl rfl rfl rfl rfl (by simp only [inR]; omega) ?_
        | refine Ev_conv8 rfl rfl rfl rfl rfl ?_)
    refine Ev_range rfl rfl rfl hok (by omega) ?_
    intro S1 hn1 hok1 hq1 hf1
    repeat (
      first
        | refine W_seq ?_
        | refine WO_nil ?_
        | refine V_seq ?_
        | refine W_region ?_
        | refine W_drawn (by kernel_rfl) ?_
        | refine W_block ?_
        | refine W_scope ?_
        | refine W_skip ?_
        | refine W_ret ?_
        | refine W_exit ?_
        | refine W_label ?_
        | refine V_ret ?_
        | refine V_block ?_
        | refine V_block_x rfl ?_
        | refine V_block_y rfl ?_
        | refine V_seq_x ?_
        | refine V_loop_x ?_
        | refine W_cond_t rfl ?_
        | refine W_cond_f rfl ?_
        | refine WO_dst rfl rfl (by kernel_rfl) (by kernel_rfl) ?_
        | refine WO_no rfl rfl ?_
        | refine WO_guard_t rfl rfl rfl rfl rfl (by kernel_rfl) (by kernel_rfl) ?_
        | refine WO_guard_f rfl rfl rfl rfl rfl rfl (by kernel_rfl) (by kernel_rfl) ?_
        | refine WO_guard_x rfl rfl rfl rfl rfl (by kernel_rfl) (by kernel_rfl) ?_
        | refine Ev_move rfl ?_
        | refine Ev_assign rfl ?_
        | refine Ev_extract rfl rfl ?_
        | refine Ev_pick_t rfl rfl rfl ?_
        | refine Ev_pick_f rfl rfl rfl ?_
        | refine Ev_lssN rfl rfl ?_
        | refine Ev_leqN rfl rfl ?_
        | refine Ev_gtrN rfl rfl ?_
        | refine Ev_geqN rfl rfl ?_
        | refine Ev_eqlN rfl rfl ?_
        | refine Ev_neqN rfl rfl ?_
        | refine Ev_lss rfl rfl ?_
        | refine Ev_leq rfl rfl ?_
        | refine Ev_gtr rfl rfl ?_
        | refine Ev_geq rfl rfl ?_
        | refine Ev_eql rfl rfl ?_
        | refine Ev_neq rfl rfl ?_
        | refine Ev_seql rfl rfl ?_
        | refine Ev_sneq rfl rfl ?_
        | refine Ev_not rfl ?_
        | refine Ev_notb rfl ?_
        | refine Ev_nilCheck rfl ?_
        | refine Ev_fieldAddr rfl rfl rfl rfl rfl rfl ?_
        | refine Ev_len_str rfl rfl rfl rfl rfl ?_
        | refine Ev_len rfl rfl rfl rfl rfl rfl ?_
        | refine Ev_min rfl rfl rfl ?_
        | refine Ev_max rfl rfl rfl ?_
        | refine Ev_indexAddr rfl rfl rfl rfl rfl (by first | omega | (dsimp only; done) | (dsimp only; omega)) ?_
        | refine Ev_makeFunc rfl rfl ?_
        | refine Ev_conv_str rfl rfl rfl rfl rfl ?_
        | refine Ev_addN rfl rfl (by simp only [lim]; omega) ?_
        | refine Ev_subN rfl rfl (by simp only [lim]; omega) (by first | omega | (dsimp only; done) | (dsimp only; omega)) ?_
        | refine Ev_mulN rfl rfl (by simp only [lim]; omega) ?_
        | refine Ev_add rfl rfl (by simp only [inR]; omega) ?_
        | refine Ev_sub rfl rfl (by simp only [inR]; omega) ?_
        | refine Ev_mul rfl rfl (by simp only [inR]; omega) ?_
        | refine Ev_shrN (m := 6) (q := 64) rfl rfl rfl rfl ?_
        | refine Ev_shrN (m := 12) (q := 4096) rfl rfl rfl rfl ?_
        | refine Ev_shrN (m := 10) (q := 1024) rfl rfl rfl rfl ?_
        | refine Ev_shrN (m := 8) (q := 256) rfl rfl rfl rfl ?_
        | refine Ev_shrN (m := 4) (q := 16) rfl rfl rfl rfl ?_
        | refine Ev_shrN (m := 5) (q := 32) rfl rfl rfl rfl ?_
        | refine Ev_shrN (m := 7) (q := 128) rfl rfl rfl rfl ?_
        | refine Ev_shrN (m := 3) (q := 8) rfl rfl rfl rfl ?_
        | refine Ev_shrN (m := 18) (q := 262144) rfl rfl rfl rfl ?_
        | refine Ev_shlN (m := 6) (q := 64) rfl rfl rfl rfl (by simp only [lim]; omega) ?_
        | refine Ev_shlN (m := 12) (q := 4096) rfl rfl rfl rfl (by simp only [lim]; omega) ?_
        | refine Ev_shlN (m := 10) (q := 1024) rfl rfl rfl rfl (by simp only [lim]; omega) ?_
        | refine Ev_shlN (m := 8) (q := 256) rfl rfl rfl rfl (by simp only [lim]; omega) ?_
        | refine Ev_andN 3 8 rfl rfl rfl rfl (by simp only [lim]; omega) (by simp only [lim]; omega) ?_
        | refine Ev_andN 4 16 rfl rfl rfl rfl (by simp only [lim]; omega) (by simp only [lim]; omega) ?_
        | refine Ev_andN 5 32 rfl rfl rfl rfl (by simp only [lim]; omega) (by simp only [lim]; omega) ?_
        | refine Ev_andN 6 64 rfl rfl rfl rfl (by simp only [lim]; omega) (by simp only [lim]; omega) ?_
        | refine Ev_andN 10 1024 rfl rfl rfl rfl (by simp only [lim]; omega) (by simp only [lim]; omega) ?_
        | refine Ev_orN 4 rfl rfl rfl (by first | omega | (dsimp only; done) | (dsimp only; omega)) (by first | omega | (dsimp only; done) | (dsimp only; omega)) (by simp only [lim]; omega) ?_
        | refine Ev_orN 5 rfl rfl rfl (by first | omega | (dsimp only; done) | (dsimp only; omega)) (by first | omega | (dsimp only; done) | (dsimp only; omega)) (by simp only [lim]; omega) ?_
        | refine Ev_orN 6 rfl rfl rfl (by first | omega | (dsimp only; done) | (dsimp only; omega)) (by first | omega | (dsimp only; done) | (dsimp only; omega)) (by simp only [lim]; omega) ?_
        | refine Ev_orN 10 rfl rfl rfl (by first | omega | (dsimp only; done) | (dsimp only; omega)) (by first | omega | (dsimp only; done) | (dsimp only; omega)) (by simp only [lim]; omega) ?_
        | refine Ev_orN 12 rfl rfl rfl (by first | omega | (dsimp only; done) | (dsimp only; omega)) (by first | omega | (dsimp only; done) | (dsimp only; omega)) (by simp only [lim]; omega) ?_
        | refine Ev_orN 16 rfl rfl rfl (by first | omega | (dsimp only; done) | (dsimp only; omega)) (by first | omega | (dsimp only; done) | (dsimp only; omega)) (by simp only [lim]; omega) ?_
        | refine Ev_convN rfl rfl rfl rfl rfl (by simp only [lim]; omega) ?_
        | refine Ev_and8 rfl rfl (by first | omega | (dsimp only; done) | (dsimp only; omega)) (by first | omega | (dsimp only; done) | (dsimp only; omega)) (land_192 (by first | omega | (dsimp only; done) | (dsimp only; omega))) (by first | omega | (dsimp only; done) | (dsimp only; omega)) ?_
        | refine Ev_and8 rfl rfl (by first | omega | (dsimp only; done) | (dsimp only; omega)) (by first | omega | (dsimp only; done) | (dsimp only; omega)) (land_224 (by first | omega | (dsimp only; done) | (dsimp only; omega))) (by first | omega | (dsimp only; done) | (dsimp only; omega)) ?_
        | refine Ev_and8 rfl rfl (by first | omega | (dsimp only; done) | (dsimp only; omega)) (by first | omega | (dsimp only; done) | (dsimp only; omega)) (land_240 (by first | omega | (dsimp only; done) | (dsimp only; omega))) (by first | omega | (dsimp only; done) | (dsimp only; omega)) ?_
        | refine Ev_shr rfl rfl rfl rfl ?_
        | refine Ev_conv rfl rfl rfl rfl rfl (by simp only [inR]; omega) ?_
        | refine Ev_conv8 rfl rfl rfl rfl rfl ?_)
    refine W_inv (fun a : Nat × AV × List Nat => [(11, .ptr S.n 0), (4, a.2.1)]) (EncI S s) (fun a => s.length - a.1) ?_ (0, .nils, []) ?_ ⟨rfl, rfl, trivial⟩
    · rintro ⟨pos, v, l⟩ T ⟨hle, hokT, hit, how, heq, hlen, hlt, hnT, hfr, hbk⟩ back
      dsimp only at hle hit how heq hlen hnT hbk back
      repeat (
        first
          | refine W_seq ?_
          | refine WO_nil ?_
          | refine V_seq ?_
          | refine W_region ?_
          | refine W_drawn (by kernel_rfl) ?_
          | refine W_block ?_
          | refine W_scope ?_
          | refine W_skip ?_
          | refine W_ret ?_
          | refine W_exit ?_
          | refine W_label ?_
          | refine V_ret ?_
          | refine V_block ?_
          | refine V_block_x rfl ?_
          | refine V_block_y rfl ?_
          | refine V_seq_x ?_
          | refine V_loop_x ?_
          | refine W_cond_t rfl ?_
          | refine W_cond_f rfl ?_
          | refine WO_dst rfl rfl (by kernel_rfl) (by kernel_rfl) ?_
          | refine WO_no rfl rfl ?_
          | refine WO_guard_t rfl rfl rfl rfl rfl (by kernel_rfl) (by kernel_rfl) ?_
          | refine WO_guard_f rfl rfl rfl rfl rfl rfl (by kernel_rfl) (by kernel_rfl) ?_
          | refine WO_guard_x rfl rfl rfl rfl rfl (by kernel_rfl) (by kernel_rfl) ?_
          | refine Ev_move rfl ?_
          | refine Ev_assign rfl ?_
          | refine Ev_extract rfl rfl ?_
          | refine Ev_pick_t rfl rfl rfl ?_
          | refine Ev_pick_f rfl rfl rfl ?_
          | refine Ev_lssN rfl rfl ?_
          | refine Ev_leqN rfl rfl ?_
          | refine Ev_gtrN rfl rfl ?_
          | refine Ev_geqN rfl rfl ?_
          | refine Ev_eqlN rfl rfl ?_
          | refine Ev_neqN rfl rfl ?_
          | refine Ev_lss rfl rfl ?_
          | refine Ev_leq rfl rfl ?_
          | refine Ev_gtr rfl rfl ?_
          | refine Ev_geq rfl rfl ?_
          | refine Ev_eql rfl rfl ?_
          | refine Ev_neq rfl rfl ?_
          | refine Ev_seql rfl rfl ?_
          | refine Ev_sneq rfl rfl ?_
          | refine Ev_not rfl ?_
          | refine Ev_notb rfl ?_
          | refine Ev_nilCheck rfl ?_
          | refine Ev_fieldAddr rfl rfl rfl rfl rfl rfl ?_
          | refine Ev_len_str rfl rfl rfl rfl rfl ?_
          | refine Ev_len rfl rfl rfl rfl rfl rfl ?_
          | refine Ev_min rfl rfl rfl ?_
          | refine Ev_max rfl rfl rfl ?_
          | refine Ev_indexAddr rfl rfl rfl rfl rfl (by first | omega | (dsimp only; done) | (dsimp only; omega)) ?_
          | refine Ev_makeFunc rfl rfl ?_
          | refine Ev_conv_str rfl rfl rfl rfl rfl ?_
          | refine Ev_addN rfl rfl (by simp only [lim]; omega) ?_
          | refine Ev_subN rfl rfl (by simp only [lim]; omega) (by first | omega | (dsimp only; done) | (dsimp only; omega)) ?_
          | refine Ev_mulN rfl rfl (by simp only [lim]; omega) ?_
          | refine Ev_add rfl rfl (by simp only [inR]; omega) ?_
          | refine Ev_sub rfl rfl (by simp only [inR]; omega) ?_
          | refine Ev_mul rfl rfl (by simp only [inR]; omega) ?_
          | refine Ev_shrN (m := 6) (q := 64) rfl rfl rfl rfl ?_
          | refine Ev_shrN (m := 12) (q := 4096) rfl rfl rfl rfl ?_
          | refine Ev_shrN (m := 10) (q := 1024) rfl rfl rfl rfl ?_
          | refine Ev_shrN (m := 8) (q := 256) rfl rfl rfl rfl ?_
          | refine Ev_shrN (m := 4) (q := 16) rfl rfl rfl rfl ?_
          | refine Ev_shrN (m := 5) (q := 32) rfl rfl rfl rfl ?_
          | refine Ev_shrN (m := 7) (q := 128) rfl rfl rfl rfl ?_
          | refine Ev_shrN (m := 3) (q := 8) rfl rfl rfl rfl ?_
          | refine Ev_shrN (m := 18) (q := 262144) rfl rfl rfl rfl ?_
          | refine Ev_shlN (m := 6) (q := 64) rfl rfl rfl rfl (by simp only [lim]; omega) ?_
          | refine Ev_shlN (m := 12) (q := 4096) rfl rfl rfl rfl (by simp only [lim]; omega) ?_
          | refine Ev_shlN (m := 10) (q := 1024) rfl rfl rfl rfl (by simp only [lim]; omega) ?_
          | refine Ev_shlN (m := 8) (q := 256) rfl rfl rfl rfl (by simp only [lim]; omega) ?_
          | refine Ev_andN 3 8 rfl rfl rfl rfl (by simp only [lim]; omega) (by simp only [lim]; omega) ?_
          | refine Ev_andN 4 16 rfl rfl rfl rfl (by simp only [lim]; omega) (by simp only [lim]; omega) ?_
          | refine Ev_andN 5 32 rfl rfl rfl rfl (by simp only [lim]; omega) (by simp only [lim]; omega) ?_
          | refine Ev_andN 6 64 rfl rfl rfl rfl (by simp only [lim]; omega) (by simp only [lim]; omega) ?_
          | refine Ev_andN 10 1024 rfl rfl rfl rfl (by simp only [lim]; omega) (by simp only [lim]; omega) ?_
          | refine Ev_orN 4 rfl rfl rfl (by first | omega | (dsimp only; done) | (dsimp only; omega)) (by first | omega | (dsimp only; done) | (dsimp only; omega)) (by simp only [lim]; omega) ?_
          | refine Ev_orN 5 rfl rfl rfl (by first | omega | (dsimp only; done) | (dsimp only; omega)) (by first | omega | (dsimp only; done) | (dsimp only; omega)) (by simp only [lim]; omega) ?_
          | refine Ev_orN 6 rfl rfl rfl (by first | omega | (dsimp only; done) | (dsimp only; omega)) (by first | omega | (dsimp only; done) | (dsimp only; omega)) (by simp only [lim]; omega) ?_
          | refine Ev_orN 10 rfl rfl rfl (by first | omega | (dsimp only; done) | (dsimp only; omega)) (by first | omega | (dsimp only; done) | (dsimp only; omega)) (by simp only [lim]; omega) ?_
          | refine Ev_orN 12 rfl rfl rfl (by first | omega | (dsimp only; done) | (dsimp only; omega)) (by first | omega | (dsimp only; done) | (dsimp only; omega)) (by simp only [lim]; omega) ?_
          | refine Ev_orN 16 rfl rfl rfl (by first | omega | (dsimp only; done) | (dsimp only; omega)) (by first | omega | (dsimp only; done) | (dsimp only; omega)) (by simp only [lim]; omega) ?_
          | refine Ev_convN rfl rfl rfl rfl rfl (by simp only [lim]; omega) ?_
          | refine Ev_and8 rfl rfl (by first | omega | (dsimp only; done) | (dsimp only; omega)) (by first | omega | (dsimp only; done) | (dsimp only; omega)) (land_192 (by first | omega | (dsimp only; done) | (dsimp only; omega))) (by first | omega | (dsimp only; done) | (dsimp only; omega)) ?_
          | refine Ev_and8 rfl rfl (by first | omega | (dsimp only; done) | (dsimp only; omega)) (by first | omega | (dsimp only; done) | (dsimp only; omega)) (land_224 (by first | omega | (dsimp only; done) | (dsimp only; omega))) (by first | omega | (dsimp only; done) | (dsimp only; omega)) ?_
          | refine Ev_and8 rfl rfl (by first | omega | (dsimp only; done) | (dsimp only; omega)) (by first | omega | (dsimp only; done) | (dsimp only; omega)) (land_240 (by first | omega | (dsimp only; done) | (dsimp only; omega))) (by first | omega | (dsimp only; done) | (dsimp only; omega)) ?_
          | refine Ev_shr rfl rfl rfl rfl ?_
          | refine Ev_conv rfl rfl rfl rfl rfl (by simp only [inR]; omega) ?_
          | refine Ev_conv8 rfl rfl rfl rfl rfl ?_)
      by_cases hd : s.drop pos = []
      · refine Ev_next_end rfl hit hd ?_
        repeat (
          first
            | refine W_seq ?_
            | refine WO_nil ?_
            | refine V_seq ?_
            | refine W_region ?_
            | refine W_drawn (by kernel_rfl) ?_
            | refine W_block ?_
            | refine W_scope ?_
            | refine W_skip ?_
            | refine W_ret ?_
            | refine W_exit ?_
            | refine W_label ?_
            | refine V_ret ?_
            | refine V_block ?_
            | refine V_block_x rfl ?_
            | refine V_block_y rfl ?_
            | refine V_seq_x ?_
            | refine V_loop_x ?_
            | refine W_cond_t rfl ?_
            | refine W_cond_f rfl ?_
            | refine WO_dst rfl rfl (by kernel_rfl) (by kernel_rfl) ?_
            | refine WO_no rfl rfl ?_
            | refine WO_guard_t rfl rfl rfl rfl rfl (by kernel_rfl) (by kernel_rfl) ?_
            | refine WO_guard_f rfl rfl rfl rfl rfl rfl (by kernel_rfl) (by kernel_rfl) ?_
            | refine WO_guard_x rfl rfl rfl rfl rfl (by kernel_rfl) (by kernel_rfl) ?_
            | refine Ev_move rfl ?_
            | refine Ev_assign rfl ?_
            | refine Ev_extract rfl rfl ?_
            | refine Ev_pick_t rfl rfl rfl ?_
            | refine Ev_pick_f rfl rfl rfl ?_
            | refine Ev_lssN rfl rfl ?_
            | refine Ev_leqN rfl rfl ?_
            | refine Ev_gtrN rfl rfl ?_
            | refine Ev_geqN rfl rfl ?_
            | refine Ev_eqlN rfl rfl ?_
            | refine Ev_neqN rfl rfl ?_
            | refine Ev_lss rfl rfl ?_
            | refine Ev_leq rfl rfl ?_
            | refine Ev_gtr rfl rfl ?_
            | refine Ev_geq rfl rfl ?_
            | refine Ev_eql rfl rfl ?_
            | refine Ev_neq rfl rfl ?_
            | refine Ev_seql rfl rfl ?_
            | refine Ev_sneq rfl rfl ?_
            | refine Ev_not rfl ?_
            | refine Ev_notb rfl ?_
            | refine Ev_nilCheck rfl ?_
            | refine Ev_fieldAddr rfl rfl rfl rfl rfl rfl ?_
            | refine Ev_len_str rfl rfl rfl rfl rfl ?_
            | refine Ev_len rfl rfl rfl rfl rfl rfl ?_
            | refine Ev_min rfl rfl rfl ?_
            | refine Ev_max rfl rfl rfl ?_
            | refine Ev_indexAddr rfl rfl rfl rfl rfl (by first | omega | (dsimp only; done) | (dsimp only; omega)) ?_
            | refine Ev_makeFunc rfl rfl ?_
            | refine Ev_conv_str rfl rfl rfl rfl rfl ?_
            | refine Ev_addN rfl rfl (by simp only [lim]; omega) ?_
            | refine Ev_subN rfl rfl (by simp only [lim]; omega) (by first | omega | (dsimp only; done) | (dsimp only; omega)) ?_
            | refine Ev_mulN rfl rfl (by simp only [lim]; omega) ?_
            | refine Ev_add rfl rfl (by simp only [inR]; omega) ?_
            | refine Ev_sub rfl rfl (by simp only [inR]; omega) ?_
            | refine Ev_mul rfl rfl (by simp only [inR]; omega) ?_
            | refine Ev_shrN (m := 6) (q := 64) rfl rfl rfl rfl ?_
            | refine Ev_shrN (m := 12) (q := 4096) rfl rfl rfl rfl ?_
            | refine Ev_shrN (m := 10) (q := 1024) rfl rfl rfl rfl ?_
            | refine Ev_shrN (m := 8) (q := 256) rfl rfl rfl rfl ?_
            | refine Ev_shrN (m := 4) (q := 16) rfl rfl rfl rfl ?_
            | refine Ev_shrN (m := 5) (q := 32) rfl rfl rfl rfl ?_
            | refine Ev_shrN (m := 7) (q := 128) rfl rfl rfl rfl ?_
            | refine Ev_shrN (m := 3) (q := 8) rfl rfl rfl rfl ?_
            | refine Ev_shrN (m := 18) (q := 262144) rfl rfl rfl rfl ?_
            | refine Ev_shlN (m := 6) (q := 64) rfl rfl rfl rfl (by simp only [lim]; omega) ?_
            | refine Ev_shlN (m := 12) (q := 4096) rfl rfl rfl rfl (by simp only [lim]; omega) ?_
            | refine Ev_shlN (m := 10) (q := 1024) rfl rfl rfl rfl (by simp only [lim]; omega) ?_
            | refine Ev_shlN (m := 8) (q := 256) rfl rfl rfl rfl (by simp only [lim]; omega) ?_
            | refine Ev_andN 3 8 rfl rfl rfl rfl (by simp only [lim]; omega) (by simp only [lim]; omega) ?_
            | refine Ev_andN 4 16 rfl rfl rfl rfl (by simp only [lim]; omega) (by simp only [lim]; omega) ?_
            | refine Ev_andN 5 32 rfl rfl rfl rfl (by simp only [lim]; omega) (by simp only [lim]; omega) ?_
            | refine Ev_andN 6 64 rfl rfl rfl rfl (by simp only [lim]; omega) (by simp only [lim]; omega) ?_
            | refine Ev_andN 10 1024 rfl rfl rfl rfl (by simp only [lim]; omega) (by simp only [lim]; omega) ?_
            | refine Ev_orN 4 rfl rfl rfl (by first | omega | (dsimp only; done) | (dsimp only; omega)) (by first | omega | (dsimp only; done) | (dsimp only; omega)) (by simp only [lim]; omega) ?_
            | refine Ev_orN 5 rfl rfl rfl (by first | omega | (dsimp only; done) | (dsimp only; omega)) (by first | omega | (dsimp only; done) | (dsimp only; omega)) (by simp only [lim]; omega) ?_
            | refine Ev_orN 6 rfl rfl rfl (by first | omega | (dsimp only; done) | (dsimp only; omega)) (by first | omega | (dsimp only; done) | (dsimp only; omega)) (by simp only [lim]; omega) ?_
            | refine Ev_orN 10 rfl rfl rfl (by first | omega | (dsimp only; done) | (dsimp only; omega)) (by first | omega | (dsimp only; done) | (dsimp only; omega)) (by simp only [lim]; omega) ?_
            | refine Ev_orN 12 rfl rfl rfl (by first | omega | (dsimp only; done) | (dsimp only; omega)) (by first | omega | (dsimp only; done) | (dsimp only; omega)) (by simp only [lim]; omega) ?_
            | refine Ev_orN 16 rfl rfl rfl (by first | omega | (dsimp only; done) | (dsimp only; omega)) (by first | omega | (dsimp only; done) | (dsimp only; omega)) (by simp only [lim]; omega) ?_
            | refine Ev_convN rfl rfl rfl rfl rfl (by simp only [lim]; omega) ?_
            | refine Ev_and8 rfl rfl (by first | omega | (dsimp only; done) | (dsimp only; omega)) (by first | omega | (dsimp only; done) | (dsimp only; omega)) (land_192 (by first | omega | (dsimp only; done) | (dsimp only; omega))) (by first | omega | (dsimp only; done) | (dsimp only; omega)) ?_
            | refine Ev_and8 rfl rfl (by first | omega | (dsimp only; done) | (dsimp only; omega)) (by first | omega | (dsimp only; done) | (dsimp only; omega)) (land_224 (by first | omega | (dsimp only; done) | (dsimp only; omega))) (by first | omega | (dsimp only; done) | (dsimp only; omega)) ?_
            | refine Ev_and8 rfl rfl (by first | omega | (dsimp only; done) | (dsimp only; omega)) (by first | omega | (dsimp only; done) | (dsimp only; omega)) (land_240 (by first | omega | (dsimp only; done) | (dsimp only; omega))) (by first | omega | (dsimp only; done) | (dsimp only; omega)) ?_
            | refine Ev_shr rfl rfl rfl rfl ?_
            | refine Ev_conv rfl rfl rfl rfl rfl (by simp only [inR]; omega) ?_
            | refine Ev_conv8 rfl rfl rfl rfl rfl ?_)
        refine V_done rfl rfl ?_
        refine ⟨⟨by omega, by omega, hokT, fun c _ h => hfr c h⟩, v, by rw [hv]; rfl, ?_, fun c hc => by have := hbk c hc; omega⟩
        rw [if_pos hv, ← heq, hd, encS_nil, List.append_nil]; exact how
      · obtain ⟨c, w, hcw⟩ : ∃ c w, decodeR (s.drop pos) = (c, w) := ⟨_, _, rfl⟩
        have hc : c < 1114112 := by have := dec_lt (s.drop pos); rw [hcw] at this; exact this
        have hwl : pos + w ≤ s.length := by have := dec_le hd; rw [hcw, List.length_drop] at this; dsimp only at this; omega
        have hw : 1 ≤ w := by have := dec_pos (s.drop pos); rw [hcw] at this; exact this
        have hpl : pos < s.length := by
          rcases Nat.lt_or_ge pos s.length with h | h
          · exact h
          · exact absurd (List.drop_eq_nil_of_le h) hd
        have heq' : l ++ (enc1 c ++ encS (s.drop (pos + w))) = encS s := by
          rw [← heq, encS_ne hd, hcw, List.drop_drop]
        refine Ev_next rfl hit hd hcw (by omega) ?_
        intro T1 hn1 hit1 hf1
        have hok1 : Sok T1 := by
          intro b x hb
          rw [hn1]
          by_cases h : b = S.n
          · omega
          · rw [hf1 b h] at hb; exact hokT b x hb
        have how1 : Ow T1 v l := how.keep fun b hb => hf1 b (by have := hbk b hb; omega)
        repeat (
          first
            | refine W_seq ?_
            | refine WO_nil ?_
            | refine V_seq ?_
            | refine W_region ?_
            | refine W_drawn (by kernel_rfl) ?_
            | refine W_block ?_
            | refine W_scope ?_
            | refine W_skip ?_
            | refine W_ret ?_
            | refine W_exit ?_
            | refine W_label ?_
            | refine V_ret ?_
            | refine V_block ?_
            | refine V_block_x rfl ?_
            | refine V_block_y rfl ?_
            | refine V_seq_x ?_
            | refine V_loop_x ?_
            | refine W_cond_t rfl ?_
            | refine W_cond_f rfl ?_
            | refine WO_dst rfl rfl (by kernel_rfl) (by kernel_rfl) ?_
            | refine WO_no rfl rfl ?_
            | refine WO_guard_t rfl rfl rfl rfl rfl (by kernel_rfl) (by kernel_rfl) ?_
            | refine WO_guard_f rfl rfl rfl rfl rfl rfl (by kernel_rfl) (by kernel_rfl) ?_
            | refine WO_guard_x rfl rfl rfl rfl rfl (by kernel_rfl) (by kernel_rfl) ?_
            | refine Ev_move rfl ?_
            | refine Ev_assign rfl ?_
            | refine Ev_extract rfl rfl ?_
            | refine Ev_pick_t rfl rfl rfl ?_
            | refine Ev_pick_f rfl rfl rfl ?_
            | refine Ev_lssN rfl rfl ?_
            | refine Ev_leqN rfl rfl ?_
            | refine Ev_gtrN rfl rfl ?_
            | refine Ev_geqN rfl rfl ?_
            | refine Ev_eqlN rfl rfl ?_
            | refine Ev_neqN rfl rfl ?_
            | refine Ev_lss rfl rfl ?_
            | refine Ev_leq rfl rfl ?_
            | refine Ev_gtr rfl rfl ?_
            | refine Ev_geq rfl rfl ?_
            | refine Ev_eql rfl rfl ?_
            | refine Ev_neq rfl rfl ?_
            | refine Ev_seql rfl rfl ?_
            | refine Ev_sneq rfl rfl ?_
            | refine Ev_not rfl ?_
            | refine Ev_notb rfl ?_
            | refine Ev_nilCheck rfl ?_
            | refine Ev_fieldAddr rfl rfl rfl rfl rfl rfl ?_
            | refine Ev_len_str rfl rfl rfl rfl rfl ?_
            | refine Ev_len rfl rfl rfl rfl rfl rfl ?_
            | refine Ev_min rfl rfl rfl ?_
            | refine Ev_max rfl rfl rfl ?_
            | refine Ev_indexAddr rfl rfl rfl rfl rfl (by first | omega | (dsimp only; done) | (dsimp only; omega)) ?_
            | refine Ev_makeFunc rfl rfl ?_
            | refine Ev_conv_str rfl rfl rfl rfl rfl ?_
            | refine Ev_addN rfl rfl (by simp only [lim]; omega) ?_
            | refine Ev_subN rfl rfl (by simp only [lim]; omega) (by first | omega | (dsimp only; done) | (dsimp only; omega)) ?_
            | refine Ev_mulN rfl rfl (by simp only [lim]; omega) ?_
            | refine Ev_add rfl rfl (by simp only [inR]; omega) ?_
            | refine Ev_sub rfl rfl (by simp only [inR]; omega) ?_
            | refine Ev_mul rfl rfl (by simp only [inR]; omega) ?_
            | refine Ev_shrN (m := 6) (q := 64) rfl rfl rfl rfl ?_
            | refine Ev_shrN (m := 12) (q := 4096) rfl rfl rfl rfl ?_
            | refine Ev_shrN (m := 10) (q := 1024) rfl rfl rfl rfl ?_
            | refine Ev_shrN (m := 8) (q := 256) rfl rfl rfl rfl ?_
            | refine Ev_shrN (m := 4) (q := 16) rfl rfl rfl rfl ?_
            | refine Ev_shrN (m := 5) (q := 32) rfl rfl rfl rfl ?_
            | refine Ev_shrN (m := 7) (q := 128) rfl rfl rfl rfl ?_
            | refine Ev_shrN (m := 3) (q := 8) rfl rfl rfl rfl ?_
            | refine Ev_shrN (m := 18) (q := 262144) rfl rfl rfl rfl ?_
            | refine Ev_shlN (m := 6) (q := 64) rfl rfl rfl rfl (by simp only [lim]; omega) ?_
            | refine Ev_shlN (m := 12) (q := 4096) rfl rfl rfl rfl (by simp only [lim]; omega) ?_
            | refine Ev_shlN (m := 10) (q := 1024) rfl rfl rfl rfl (by simp only [lim]; omega) ?_
            | refine Ev_shlN (m := 8) (q := 256) rfl rfl rfl rfl (by simp only [lim]; omega) ?_
            | refine Ev_andN 3 8 rfl rfl rfl rfl (by simp only [lim]; omega) (by simp only [lim]; omega) ?_
            | refine Ev_andN 4 16 rfl rfl rfl rfl (by simp only [lim]; omega) (by simp only [lim]; omega) ?_
            | refine Ev_andN 5 32 rfl rfl rfl rfl (by simp only [lim]; omega) (by simp only [lim]; omega) ?_
            | refine Ev_andN 6 64 rfl rfl rfl rfl (by simp only [lim]; omega) (by simp only [lim]; omega) ?_
            | refine Ev_andN 10 1024 rfl rfl rfl rfl (by simp only [lim]; omega) (by simp only [lim]; omega) ?_
            | refine Ev_orN 4 rfl rfl rfl (by first | omega | (dsimp only; done) | (dsimp only; omega)) (by first | omega | (dsimp only; done) | (dsimp only; omega)) (by simp only [lim]; omega) ?_
            | refine Ev_orN 5 rfl rfl rfl (by first | omega | (dsimp only; done) | (dsimp only; omega)) (by first | omega | (dsimp only; done) | (dsimp only; omega)) (by simp only [lim]; omega) ?_
            | refine Ev_orN 6 rfl rfl rfl (by first | omega | (dsimp only; done) | (dsimp only; omega)) (by first | omega | (dsimp only; done) | (dsimp only; omega)) (by simp only [lim]; omega) ?_
            | refine Ev_orN 10 rfl rfl rfl (by first | omega | (dsimp only; done) | (dsimp only; omega)) (by first | omega | (dsimp only; done) | (dsimp only; omega)) (by simp only [lim]; omega) ?_
            | refine Ev_orN 12 rfl rfl rfl (by first | omega | (dsimp only; done) | (dsimp only; omega)) (by first | omega | (dsimp only; done) | (dsimp only; omega)) (by simp only [lim]; omega) ?_
            | refine Ev_orN 16 rfl rfl rfl (by first | omega | (dsimp only; done) | (dsimp only; omega)) (by first | omega | (dsimp only; done) | (dsimp only; omega)) (by simp only [lim]; omega) ?_
            | refine Ev_convN rfl rfl rfl rfl rfl (by simp only [lim]; omega) ?_
            | refine Ev_and8 rfl rfl (by first | omega | (dsimp only; done) | (dsimp only; omega)) (by first | omega | (dsimp only; done) | (dsimp only; omega)) (land_192 (by first | omega | (dsimp only; done) | (dsimp only; omega))) (by first | omega | (dsimp only; done) | (dsimp only; omega)) ?_
            | refine Ev_and8 rfl rfl (by first | omega | (dsimp only; done) | (dsimp only; omega)) (by first | omega | (dsimp only; done) | (dsimp only; omega)) (land_224 (by first | omega | (dsimp only; done) | (dsimp only; omega))) (by first | omega | (dsimp only; done) | (dsimp only; omega)) ?_
            | refine Ev_and8 rfl rfl (by first | omega | (dsimp only; done) | (dsimp only; omega)) (by first | omega | (dsimp only; done) | (dsimp only; omega)) (land_240 (by first | omega | (dsimp only; done) | (dsimp only; omega))) (by first | omega | (dsimp only; done) | (dsimp only; omega)) ?_
            | refine Ev_shr rfl rfl rfl rfl ?_
            | refine Ev_conv rfl rfl rfl rfl rfl (by simp only [inR]; omega) ?_
            | refine Ev_conv8 rfl rfl rfl rfl rfl ?_)
        refine W_cond rfl (fun hc1 => ?_) (fun hc1 => ?_)
        · dsimp only at hc1
          repeat (
            first
              | refine W_seq ?_
              | refine WO_nil ?_
              | refine V_seq ?_
              | refine W_region ?_
              | refine W_drawn (by kernel_rfl) ?_
              | refine W_block ?_
              | refine W_scope ?_
              | refine W_skip ?_
              | refine W_ret ?_
              | refine W_exit ?_
              | refine W_label ?_
              | refine V_ret ?_
              | refine V_block ?_
              | refine V_block_x rfl ?_
              | refine V_block_y rfl ?_
              | refine V_seq_x ?_
              | refine V_loop_x ?_
              | refine W_cond_t rfl ?_
              | refine W_cond_f rfl ?_
              | refine WO_dst rfl rfl (by kernel_rfl) (by kernel_rfl) ?_
              | refine WO_no rfl rfl ?_
              | refine WO_guard_t rfl rfl rfl rfl rfl (by kernel_rfl) (by kernel_rfl) ?_
              | refine WO_guard_f rfl rfl rfl rfl rfl rfl (by kernel_rfl) (by kernel_rfl) ?_
              | refine WO_guard_x rfl rfl rfl rfl rfl (by kernel_rfl) (by kernel_rfl) ?_
              | refine Ev_move rfl ?_
              | refine Ev_assign rfl ?_
              | refine Ev_extract rfl rfl ?_
              | refine Ev_pick_t rfl rfl rfl ?_
              | refine Ev_pick_f rfl rfl rfl ?_
              | refine Ev_lssN rfl rfl ?_
              | refine Ev_leqN rfl rfl ?_
              | refine Ev_gtrN rfl rfl ?_
              | refine Ev_geqN rfl rfl ?_
              | refine Ev_eqlN rfl rfl ?_
              | refine Ev_neqN rfl rfl ?_
              | refine Ev_lss rfl rfl ?_
              | refine Ev_leq rfl rfl ?_
              | refine Ev_gtr rfl rfl ?_
              | refine Ev_geq rfl rfl ?_
              | refine Ev_eql rfl rfl ?_
              | refine Ev_neq rfl rfl ?_
              | refine Ev_seql rfl rfl ?_
              | refine Ev_sneq rfl rfl ?_
              | refine Ev_not rfl ?_
              | refine Ev_notb rfl ?_
              | refine Ev_nilCheck rfl ?_
              | refine Ev_fieldAddr rfl rfl rfl rfl rfl rfl ?_
              | refine Ev_len_str rfl rfl rfl rfl rfl ?_
              | refine Ev_len rfl rfl rfl rfl rfl rfl ?_
              | refine Ev_min rfl rfl rfl ?_
              | refine Ev_max rfl rfl rfl ?_
              | refine Ev_indexAddr rfl rfl rfl rfl rfl (by first | omega | (dsimp only; done) | (dsimp only; omega)) ?_
              | refine Ev_makeFunc rfl rfl ?_
              | refine Ev_conv_str rfl rfl rfl rfl rfl ?_
              | refine Ev_addN rfl rfl (by simp only [lim]; omega) ?_
              | refine Ev_subN rfl rfl (by simp only [lim]; omega) (by first | omega | (dsimp only; done) | (dsimp only; omega)) ?_
              | refine Ev_mulN rfl rfl (by simp only [lim]; omega) ?_
              | refine Ev_add rfl rfl (by simp only [inR]; omega) ?_
              | refine Ev_sub rfl rfl (by simp only [inR]; omega) ?_
              | refine Ev_mul rfl rfl (by simp only [inR]; omega) ?_
              | refine Ev_shrN (m := 6) (q := 64) rfl rfl rfl rfl ?_
              | refine Ev_shrN (m := 12) (q := 4096) rfl rfl rfl rfl ?_
              | refine Ev_shrN (m := 10) (q := 1024) rfl rfl rfl rfl ?_
              | refine Ev_shrN (m := 8) (q := 256) rfl rfl rfl rfl ?_
              | refine Ev_shrN (m := 4) (q := 16) rfl rfl rfl rfl ?_
              | refine Ev_shrN (m := 5) (q := 32) rfl rfl rfl rfl ?_
              | refine Ev_shrN (m := 7) (q := 128) rfl rfl rfl rfl ?_
              | refine Ev_shrN (m := 3) (q := 8) rfl rfl rfl rfl ?_
              | refine Ev_shrN (m := 18) (q := 262144) rfl rfl rfl rfl ?_
              | refine Ev_shlN (m := 6) (q := 64) rfl rfl rfl rfl (by simp only [lim]; omega) ?_
              | refine Ev_shlN (m := 12) (q := 4096) rfl rfl rfl rfl (by simp only [lim]; omega) ?_
              | refine Ev_shlN (m := 10) (q := 1024) rfl rfl rfl rfl (by simp only [lim]; omega) ?_
              | refine Ev_shlN (m := 8) (q := 256) rfl rfl rfl rfl (by simp only [lim]; omega) ?_
              | refine Ev_andN 3 8 rfl rfl rfl rfl (by simp only [lim]; omega) (by simp only [lim]; omega) ?_
              | refine Ev_andN 4 16 rfl rfl rfl rfl (by simp only [lim]; omega) (by simp only [lim]; omega) ?_
              | refine Ev_andN 5 32 rfl rfl rfl rfl (by simp only [lim]; omega) (by simp only [lim]; omega) ?_
              | refine Ev_andN 6 64 rfl rfl rfl rfl (by simp only [lim]; omega) (by simp only [lim]; omega) ?_
              | refine Ev_andN 10 1024 rfl rfl rfl rfl (by simp only [lim]; omega) (by simp only [lim]; omega) ?_
              | refine Ev_orN 4 rfl rfl rfl (by first | omega | (dsimp only; done) | (dsimp only; omega)) (by first | omega | (dsimp only; done) | (dsimp only; omega)) (by simp only [lim]; omega) ?_
              | refine Ev_orN 5 rfl rfl rfl (by first | omega | (dsimp only; done) | (dsimp only; omega)) (by first | omega | (dsimp only; done) | (dsimp only; omega)) (by simp only [lim]; omega) ?_
              | refine Ev_orN 6 rfl rfl rfl (by first | omega | (dsimp only; done) | (dsimp only; omega)) (by first | omega | (dsimp only; done) | (dsimp only; omega)) (by simp only [lim]; omega) ?_
              | refine Ev_orN 10 rfl rfl rfl (by first | omega | (dsimp only; done) | (dsimp only; omega)) (by first | omega | (dsimp only; done) | (dsimp only; omega)) (by simp only [lim]; omega) ?_
              | refine Ev_orN 12 rfl rfl rfl (by first | omega | (dsimp only; done) | (dsimp only; omega)) (by first | omega | (dsimp only; done) | (dsimp only; omega)) (by simp only [lim]; omega) ?_
              | refine Ev_orN 16 rfl rfl rfl (by first | omega | (dsimp only; done) | (dsimp only; omega)) (by first | omega | (dsimp only; done) | (dsimp only; omega)) (by simp only [lim]; omega) ?_
              | refine Ev_convN rfl rfl rfl rfl rfl (by simp only [lim]; omega) ?_
              | refine Ev_and8 rfl rfl (by first | omega | (dsimp only; done) | (dsimp only; omega)) (by first | omega | (dsimp only; done) | (dsimp only; omega)) (land_192 (by first | omega | (dsimp only; done) | (dsimp only; omega))) (by first | omega | (dsimp only; done) | (dsimp only; omega)) ?_
              | refine Ev_and8 rfl rfl (by first | omega | (dsimp only; done) | (dsimp only; omega)) (by first | omega | (dsimp only; done) | (dsimp only; omega)) (land_224 (by first | omega | (dsimp only; done) | (dsimp only; omega))) (by first | omega | (dsimp only; done) | (dsimp only; omega)) ?_
              | refine Ev_and8 rfl rfl (by first | omega | (dsimp only; done) | (dsimp only; omega)) (by first | omega | (dsimp only; done) | (dsimp only; omega)) (land_240 (by first | omega | (dsimp only; done) | (dsimp only; omega))) (by first | omega | (dsimp only; done) | (dsimp only; omega)) ?_
              | refine Ev_shr rfl rfl rfl rfl ?_
              | refine Ev_conv rfl rfl rfl rfl rfl (by simp only [inR]; omega) ?_
              | refine Ev_conv8 rfl rfl rfl rfl rfl ?_)
          refine Ev_call rfl rfl ((unit_runs how1 hok1 (by omega) (by omega) (by dsimp only; omega)).mono ?_)
          rintro v2 T2 - ⟨hF2, how2, hb2⟩
          have hle2 := hF2.le; have hn2 := hF2.n
          repeat (
            first
              | refine W_seq ?_
              | refine WO_nil ?_
              | refine V_seq ?_
              | refine W_region ?_
              | refine W_drawn (by kernel_rfl) ?_
              | refine W_block ?_
              | refine W_scope ?_
              | refine W_skip ?_
              | refine W_ret ?_
              | refine W_exit ?_
              | refine W_label ?_
              | refine V_ret ?_
              | refine V_block ?_
              | refine V_block_x rfl ?_
              | refine V_block_y rfl ?_
              | refine V_seq_x ?_
              | refine V_loop_x ?_
              | refine W_cond_t rfl ?_
              | refine W_cond_f rfl ?_
              | refine WO_dst rfl rfl (by kernel_rfl) (by kernel_rfl) ?_
              | refine WO_no rfl rfl ?_
              | refine WO_guard_t rfl rfl rfl rfl rfl (by kernel_rfl) (by kernel_rfl) ?_
              | refine WO_guard_f rfl rfl rfl rfl rfl rfl (by kernel_rfl) (by kernel_rfl) ?_
              | refine WO_guard_x rfl rfl rfl rfl rfl (by kernel_rfl) (by kernel_rfl) ?_
              | refine Ev_move rfl ?_
              | refine Ev_assign rfl ?_
              | refine Ev_extract rfl rfl ?_
              | refine Ev_pick_t rfl rfl rfl ?_
              | refine Ev_pick_f rfl rfl rfl ?_
              | refine Ev_lssN rfl rfl ?_
              | refine Ev_leqN rfl rfl ?_
              | refine Ev_gtrN rfl rfl ?_
              | refine Ev_geqN rfl rfl ?_
              | refine Ev_eqlN rfl rfl ?_
              | refine Ev_neqN rfl rfl ?_
              | refine Ev_lss rfl rfl ?_
              | refine Ev_leq rfl rfl ?_
              | refine Ev_gtr rfl rfl ?_
              | refine Ev_geq rfl rfl ?_
              | refine Ev_eql rfl rfl ?_
              | refine Ev_neq rfl rfl ?_
              | refine Ev_seql rfl rfl ?_
              | refine Ev_sneq rfl rfl ?_
              | refine Ev_not rfl ?_
              | refine Ev_notb rfl ?_
              | refine Ev_nilCheck rfl ?_
              | refine Ev_fieldAddr rfl rfl rfl rfl rfl rfl ?_
              | refine Ev_len_str rfl rfl rfl rfl rfl ?_
              | refine Ev_len rfl rfl rfl rfl rfl rfl ?_
              | refine Ev_min rfl rfl rfl ?_
              | refine Ev_max rfl rfl rfl ?_
              | refine Ev_indexAddr rfl rfl rfl rfl rfl (by first | omega | (dsimp only; done) | (dsimp only; omega)) ?_
              | refine Ev_makeFunc rfl rfl ?_
              | refine Ev_conv_str rfl rfl rfl rfl rfl ?_
              | refine Ev_addN rfl rfl (by simp only [lim]; omega) ?_
              | refine Ev_subN rfl rfl (by simp only [lim]; omega) (by first | omega | (dsimp only; done) | (dsimp only; omega)) ?_
              | refine Ev_mulN rfl rfl (by simp only [lim]; omega) ?_
              | refine Ev_add rfl rfl (by simp only [inR]; omega) ?_
              | refine Ev_sub rfl rfl (by simp only [inR]; omega) ?_
              | refine Ev_mul rfl rfl (by simp only [inR]; omega) ?_
              | refine Ev_shrN (m := 6) (q := 64) rfl rfl rfl rfl ?_
              | refine Ev_shrN (m := 12) (q := 4096) rfl rfl rfl rfl ?_
              | refine Ev_shrN (m := 10) (q := 1024) rfl rfl rfl rfl ?_
              | refine Ev_shrN (m := 8) (q := 256) rfl rfl rfl rfl ?_
              | refine Ev_shrN (m := 4) (q := 16) rfl rfl rfl rfl ?_
              | refine Ev_shrN (m := 5) (q := 32) rfl rfl rfl rfl ?_
              | refine Ev_shrN (m := 7) (q := 128) rfl rfl rfl rfl ?_
              | refine Ev_shrN (m := 3) (q := 8) rfl rfl rfl rfl ?_
              | refine Ev_shrN (m := 18) (q := 262144) rfl rfl rfl rfl ?_
              | refine Ev_shlN (m := 6) (q := 64) rfl rfl rfl rfl (by simp only [lim]; omega) ?_
              | refine Ev_shlN (m := 12) (q := 4096) rfl rfl rfl rfl (by simp only [lim]; omega) ?_
              | refine Ev_shlN (m := 10) (q := 1024) rfl rfl rfl rfl (by simp only [lim]; omega) ?_
              | refine Ev_shlN (m := 8) (q := 256) rfl rfl rfl rfl (by simp only [lim]; omega) ?_
              | refine Ev_andN 3 8 rfl rfl rfl rfl (by simp only [lim]; omega) (by simp only [lim]; omega) ?_
              | refine Ev_andN 4 16 rfl rfl rfl rfl (by simp only [lim]; omega) (by simp only [lim]; omega) ?_
              | refine Ev_andN 5 32 rfl rfl rfl rfl (by simp only [lim]; omega) (by simp only [lim]; omega) ?_
              | refine Ev_andN 6 64 rfl rfl rfl rfl (by simp only [lim]; omega) (by simp only [lim]; omega) ?_
              | refine Ev_andN 10 1024 rfl rfl rfl rfl (by simp only [lim]; omega) (by simp only [lim]; omega) ?_
              | refine Ev_orN 4 rfl rfl rfl (by first | omega | (dsimp only; done) | (dsimp only; omega)) (by first | omega | (dsimp only; done) | (dsimp only; omega)) (by simp only [lim]; omega) ?_
              | refine Ev_orN 5 rfl rfl rfl (by first | omega | (dsimp only; done) | (dsimp only; omega)) (by first | omega | (dsimp only; done) | (dsimp only; omega)) (by simp only [lim]; omega) ?_
              | refine Ev_orN 6 rfl rfl rfl (by first | omega | (dsimp only; done) | (dsimp only; omega)) (by first | omega | (dsimp only; done) | (dsimp only; omega)) (by simp only [lim]; omega) ?_
              | refine Ev_orN 10 rfl rfl rfl (by first | omega | (dsimp only; done) | (dsimp only; omega)) (by first | omega | (dsimp only; done) | (dsimp only; omega)) (by simp only [lim]; omega) ?_
              | refine Ev_orN 12 rfl rfl rfl (by first | omega | (dsimp only; done) | (dsimp only; omega)) (by first | omega | (dsimp only; done) | (dsimp only; omega)) (by simp only [lim]; omega) ?_
              | refine Ev_orN 16 rfl rfl rfl (by first | omega | (dsimp only; done) | (dsimp only; omega)) (by first | omega | (dsimp only; done) | (dsimp only; omega)) (by simp only [lim]; omega) ?_
              | refine Ev_convN rfl rfl rfl rfl rfl (by simp only [lim]; omega) ?_
              | refine Ev_and8 rfl rfl (by first | omega | (dsimp only; done) | (dsimp only; omega)) (by first | omega | (dsimp only; done) | (dsimp only; omega)) (land_192 (by first | omega | (dsimp only; done) | (dsimp only; omega))) (by first | omega | (dsimp only; done) | (dsimp only; omega)) ?_
              | refine Ev_and8 rfl rfl (by first | omega | (dsimp only; done) | (dsimp only; omega)) (by first | omega | (dsimp only; done) | (dsimp only; omega)) (land_224 (by first | omega | (dsimp only; done) | (dsimp only; omega))) (by first | omega | (dsimp only; done) | (dsimp only; omega)) ?_
              | refine Ev_and8 rfl rfl (by first | omega | (dsimp only; done) | (dsimp only; omega)) (by first | omega | (dsimp only; done) | (dsimp only; omega)) (land_240 (by first | omega | (dsimp only; done) | (dsimp only; omega))) (by first | omega | (dsimp only; done) | (dsimp only; omega)) ?_
              | refine Ev_shr rfl rfl rfl rfl ?_
              | refine Ev_conv rfl rfl rfl rfl rfl (by simp only [inR]; omega) ?_
              | refine Ev_conv8 rfl rfl rfl rfl rfl ?_)
          refine Ev_call rfl rfl ((unit_runs how2 hF2.ok (by omega) (by have := unitL_len (55296 + (c - 65536) / 1024); simp only [List.length_append]; omega) (by dsimp only; omega)).mono ?_)
          rintro v3 T3 - ⟨hF3, how3, hb3⟩
          have hle3 := hF3.le; have hn3 := hF3.n
          repeat (
            first
              | refine W_seq ?_
              | refine WO_nil ?_
              | refine V_seq ?_
              | refine W_region ?_
              | refine W_drawn (by kernel_rfl) ?_
              | refine W_block ?_
              | refine W_scope ?_
              | refine W_skip ?_
              | refine W_ret ?_
              | refine W_exit ?_
              | refine W_label ?_
              | refine V_ret ?_
              | refine V_block ?_
              | refine V_block_x rfl ?_
              | refine V_block_y rfl ?_
              | refine V_seq_x ?_
              | refine V_loop_x ?_
              | refine W_cond_t rfl ?_
              | refine W_cond_f rfl ?_
              | refine WO_dst rfl rfl (by kernel_rfl) (by kernel_rfl) ?_
              | refine WO_no rfl rfl ?_
              | refine WO_guard_t rfl rfl rfl rfl rfl (by kernel_rfl) (by kernel_rfl) ?_
              | refine WO_guard_f rfl rfl rfl rfl rfl rfl (by kernel_rfl) (by kernel_rfl) ?_
              | refine WO_guard_x rfl rfl rfl rfl rfl (by kernel_rfl) (by kernel_rfl) ?_
              | refine Ev_move rfl ?_
              | refine Ev_assign rfl ?_
              | refine Ev_extract rfl rfl ?_
              | refine Ev_pick_t rfl rfl rfl ?_
              | refine Ev_pick_f rfl rfl rfl ?_
              | refine Ev_lssN rfl rfl ?_
              | refine Ev_leqN rfl rfl ?_
              | refine Ev_gtrN rfl rfl ?_
              | refine Ev_geqN rfl rfl ?_
              | refine Ev_eqlN rfl rfl ?_
              | refine Ev_neqN rfl rfl ?_
              | refine Ev_lss rfl rfl ?_
              | refine Ev_leq rfl rfl ?_
              | refine Ev_gtr rfl rfl ?_
              | refine Ev_geq rfl rfl ?_
              | refine Ev_eql rfl rfl ?_
              | refine Ev_neq rfl rfl ?_
              | refine Ev_seql rfl rfl ?_
              | refine Ev_sneq rfl rfl ?_
              | refine Ev_not rfl ?_
              | refine Ev_notb rfl ?_
              | refine Ev_nilCheck rfl ?_
              | refine Ev_fieldAddr rfl rfl rfl rfl rfl rfl ?_
              | refine Ev_len_str rfl rfl rfl rfl rfl ?_
              | refine Ev_len rfl rfl rfl rfl rfl rfl ?_
              | refine Ev_min rfl rfl rfl ?_
              | refine Ev_max rfl rfl rfl ?_
              | refine Ev_indexAddr rfl rfl rfl rfl rfl (by first | omega | (dsimp only; done) | (dsimp only; omega)) ?_
              | refine Ev_makeFunc rfl rfl ?_
              | refine Ev_conv_str rfl rfl rfl rfl rfl ?_
              | refine Ev_addN rfl rfl (by simp only [lim]; omega) ?_
              | refine Ev_subN rfl rfl (by simp only [lim]; omega) (by first | omega | (dsimp only; done) | (dsimp only; omega)) ?_
              | refine Ev_mulN rfl rfl (by simp only [lim]; omega) ?_
              | refine Ev_add rfl rfl (by simp only [inR]; omega) ?_
              | refine Ev_sub rfl rfl (by simp only [inR]; omega) ?_
              | refine Ev_mul rfl rfl (by simp only [inR]; omega) ?_
              | refine Ev_shrN (m := 6) (q := 64) rfl rfl rfl rfl ?_
              | refine Ev_shrN (m := 12) (q := 4096) rfl rfl rfl rfl ?_
              | refine Ev_shrN (m := 10) (q := 1024) rfl rfl rfl rfl ?_
              | refine Ev_shrN (m := 8) (q := 256) rfl rfl rfl rfl ?_
              | refine Ev_shrN (m := 4) (q := 16) rfl rfl rfl rfl ?_
              | refine Ev_shrN (m := 5) (q := 32) rfl rfl rfl rfl ?_
              | refine Ev_shrN (m := 7) (q := 128) rfl rfl rfl rfl ?_
              | refine Ev_shrN (m := 3) (q := 8) rfl rfl rfl rfl ?_
              | refine Ev_shrN (m := 18) (q := 262144) rfl rfl rfl rfl ?_
              | refine Ev_shlN (m := 6) (q := 64) rfl rfl rfl rfl (by simp only [lim]; omega) ?_
              | refine Ev_shlN (m := 12) (q := 4096) rfl rfl rfl rfl (by simp only [lim]; omega) ?_
              | refine Ev_shlN (m := 10) (q := 1024) rfl rfl rfl rfl (by simp only [lim]; omega) ?_
              | refine Ev_shlN (m := 8) (q := 256) rfl rfl rfl rfl (by simp only [lim]; omega) ?_
              | refine Ev_andN 3 8 rfl rfl rfl rfl (by simp only [lim]; omega) (by simp only [lim]; omega) ?_
              | refine Ev_andN 4 16 rfl rfl rfl rfl (by simp only [lim]; omega) (by simp only [lim]; omega) ?_
              | refine Ev_andN 5 32 rfl rfl rfl rfl (by simp only [lim]; omega) (by simp only [lim]; omega) ?_
              | refine Ev_andN 6 64 rfl rfl rfl rfl (by simp only [lim]; omega) (by simp only [lim]; omega) ?_
              | refine Ev_andN 10 1024 rfl rfl rfl rfl (by simp only [lim]; omega) (by simp only [lim]; omega) ?_
              | refine Ev_orN 4 rfl rfl rfl (by first | omega | (dsimp only; done) | (dsimp only; omega)) (by first | omega | (dsimp only; done) | (dsimp only; omega)) (by simp only [lim]; omega) ?_
              | refine Ev_orN 5 rfl rfl rfl (by first | omega | (dsimp only; done) | (dsimp only; omega)) (by first | omega | (dsimp only; done) | (dsimp only; omega)) (by simp only [lim]; omega) ?_
              | refine Ev_orN 6 rfl rfl rfl (by first | omega | (dsimp only; done) | (dsimp only; omega)) (by first | omega | (dsimp only; done) | (dsimp only; omega)) (by simp only [lim]; omega) ?_
              | refine Ev_orN 10 rfl rfl rfl (by first | omega | (dsimp only; done) | (dsimp only; omega)) (by first | omega | (dsimp only; done) | (dsimp only; omega)) (by simp only [lim]; omega) ?_
              | refine Ev_orN 12 rfl rfl rfl (by first | omega | (dsimp only; done) | (dsimp only; omega)) (by first | omega | (dsimp only; done) | (dsimp only; omega)) (by simp only [lim]; omega) ?_
              | refine Ev_orN 16 rfl rfl rfl (by first | omega | (dsimp only; done) | (dsimp only; omega)) (by first | omega | (dsimp only; done) | (dsimp only; omega)) (by simp only [lim]; omega) ?_
              | refine Ev_convN rfl rfl rfl rfl rfl (by simp only [lim]; omega) ?_
              | refine Ev_and8 rfl rfl (by first | omega | (dsimp only; done) | (dsimp only; omega)) (by first | omega | (dsimp only; done) | (dsimp only; omega)) (land_192 (by first | omega | (dsimp only; done) | (dsimp only; omega))) (by first | omega | (dsimp only; done) | (dsimp only; omega)) ?_
              | refine Ev_and8 rfl rfl (by first | omega | (dsimp only; done) | (dsimp only; omega)) (by first | omega | (dsimp only; done) | (dsimp only; omega)) (land_224 (by first | omega | (dsimp only; done) | (dsimp only; omega))) (by first | omega | (dsimp only; done) | (dsimp only; omega)) ?_
              | refine Ev_and8 rfl rfl (by first | omega | (dsimp only; done) | (dsimp only; omega)) (by first | omega | (dsimp only; done) | (dsimp only; omega)) (land_240 (by first | omega | (dsimp only; done) | (dsimp only; omega))) (by first | omega | (dsimp only; done) | (dsimp only; omega)) ?_
              | refine Ev_shr rfl rfl rfl rfl ?_
              | refine Ev_conv rfl rfl rfl rfl rfl (by simp only [inR]; omega) ?_
              | refine Ev_conv8 rfl rfl rfl rfl rfl ?_)
          have he1 : enc1 c = unitL (55296 + (c - 65536) / 1024) ++ unitL (56320 + (c - 65536) % 1024) := by unfold enc1; rw [if_pos hc1]
          have h6 := enc1_len c
          have hbk2 : ∀ b, blkOf v2 = some b → S.n < b := fun b hb => by
            rcases hb2 b hb with h | h
            · exact hbk b h
            · omega
          refine back (pos + w, v3, l ++ enc1 c) T3 _ (by dsimp only; omega) ⟨?_, hF3.ok, ?_, ?_, ?_, ?_, by omega, by dsimp only; omega, ?_, ?_⟩ ⟨rfl, rfl, trivial⟩
          · dsimp only; omega
          · rw [hF3.same _ (by intro h; have := hbk2 _ h; omega) (by omega), hF2.same _ (by intro h; have := hbk _ h; omega) (by omega)]; exact hit1
          · rw [he1]; exact how3.eq (by rw [List.append_assoc]) (by rw [List.append_assoc])
          · dsimp only; rw [List.append_assoc]; exact heq'
          · dsimp only; rw [List.length_append]; omega
          · intro b hb
            rw [hF3.same _ (by intro h; have := hbk2 _ h; omega) (by omega), hF2.same _ (by intro h; have := hbk _ h; omega) (by omega), hf1 b (by omega)]; exact hfr b hb
          · intro b hb
            rcases hb3 b hb with h | h
            · exact hbk2 b h
            · omega
        · dsimp only at hc1
          repeat (
            first
              | refine W_seq ?_
              | refine WO_nil ?_
              | refine V_seq ?_
              | refine W_region ?_
              | refine W_drawn (by kernel_rfl) ?_
              | refine W_block ?_
              | refine W_scope ?_
              | refine W_skip ?_
              | refine W_ret ?_
              | refine W_exit ?_
              | refine W_label ?_
              | refine V_ret ?_
              | refine V_block ?_
              | refine V_block_x rfl ?_
              | refine V_block_y rfl ?_
              | refine V_seq_x ?_
              | refine V_loop_x ?_
              | refine W_cond_t rfl ?_
              | refine W_cond_f rfl ?_
              | refine WO_dst rfl rfl (by kernel_rfl) (by kernel_rfl) ?_
              | refine WO_no rfl rfl ?_
              | refine WO_guard_t rfl rfl rfl rfl rfl (by kernel_rfl) (by kernel_rfl) ?_
              | refine WO_guard_f rfl rfl rfl rfl rfl rfl (by kernel_rfl) (by kernel_rfl) ?_
              | refine WO_guard_x rfl rfl rfl rfl rfl (by kernel_rfl) (by kernel_rfl) ?_
              | refine Ev_move rfl ?_
              | refine Ev_assign rfl ?_
              | refine Ev_extract rfl rfl ?_
              | refine Ev_pick_t rfl rfl rfl ?_
              | refine Ev_pick_f rfl rfl rfl ?_
              | refine Ev_lssN rfl rfl ?_
              | refine Ev_leqN rfl rfl ?_
              | refine Ev_gtrN rfl rfl ?_
              | refine Ev_geqN rfl rfl ?_
              | refine Ev_eqlN rfl rfl ?_
              | refine Ev_neqN rfl rfl ?_
              | refine Ev_lss rfl rfl ?_
              | refine Ev_leq rfl rfl ?_
              | refine Ev_gtr rfl rfl ?_
              | refine Ev_geq rfl rfl ?_
              | refine Ev_eql rfl rfl ?_
              | refine Ev_neq rfl rfl ?_
              | refine Ev_seql rfl rfl ?_
              | refine Ev_sneq rfl rfl ?_
              | refine Ev_not rfl ?_
              | refine Ev_notb rfl ?_
              | refine Ev_nilCheck rfl ?_
              | refine Ev_fieldAddr rfl rfl rfl rfl rfl rfl ?_
              | refine Ev_len_str rfl rfl rfl rfl rfl ?_
              | refine Ev_len rfl rfl rfl rfl rfl rfl ?_
              | refine Ev_min rfl rfl rfl ?_
              | refine Ev_max rfl rfl rfl ?_
              | refine Ev_indexAddr rfl rfl rfl rfl rfl (by first | omega | (dsimp only; done) | (dsimp only; omega)) ?_
              | refine Ev_makeFunc rfl rfl ?_
              | refine Ev_conv_str rfl rfl rfl rfl rfl ?_
              | refine Ev_addN rfl rfl (by simp only [lim]; omega) ?_
              | refine Ev_subN rfl rfl (by simp only [lim]; omega) (by first | omega | (dsimp only; done) | (dsimp only; omega)) ?_
              | refine Ev_mulN rfl rfl (by simp only [lim]; omega) ?_
              | refine Ev_add rfl rfl (by simp only [inR]; omega) ?_
              | refine Ev_sub rfl rfl (by simp only [inR]; omega) ?_
              | refine Ev_mul rfl rfl (by simp only [inR]; omega) ?_
              | refine Ev_shrN (m := 6) (q := 64) rfl rfl rfl rfl ?_
              | refine Ev_shrN (m := 12) (q := 4096) rfl rfl rfl rfl ?_
              | refine Ev_shrN (m := 10) (q := 1024) rfl rfl rfl rfl ?_
              | refine Ev_shrN (m := 8) (q := 256) rfl rfl rfl rfl ?_
              | refine Ev_shrN (m := 4) (q := 16) rfl rfl rfl rfl ?_
              | refine Ev_shrN (m := 5) (q := 32) rfl rfl rfl rfl ?_
              | refine Ev_shrN (m := 7) (q := 128) rfl rfl rfl rfl ?_
              | refine Ev_shrN (m := 3) (q := 8) rfl rfl rfl rfl ?_
              | refine Ev_shrN (m := 18) (q := 262144) rfl rfl rfl rfl ?_
              | refine Ev_shlN (m := 6) (q := 64) rfl rfl rfl rfl (by simp only [lim]; omega) ?_
              | refine Ev_shlN (m := 12) (q := 4096) rfl rfl rfl rfl (by simp only [lim]; omega) ?_
              | refine Ev_shlN (m := 10) (q := 1024) rfl rfl rfl rfl (by simp only [lim]; omega) ?_
              | refine Ev_shlN (m := 8) (q := 256) rfl rfl rfl rfl (by simp only [lim]; omega) ?_
              | refine Ev_andN 3 8 rfl rfl rfl rfl (by simp only [lim]; omega) (by simp only [lim]; omega) ?_
              | refine Ev_andN 4 16 rfl rfl rfl rfl (by simp only [lim]; omega) (by simp only [lim]; omega) ?_
              | refine Ev_andN 5 32 rfl rfl rfl rfl (by simp only [lim]; omega) (by simp only [lim]; omega) ?_
              | refine Ev_andN 6 64 rfl rfl rfl rfl (by simp only [lim]; omega) (by simp only [lim]; omega) ?_
              | refine Ev_andN 10 1024 rfl rfl rfl rfl (by simp only [lim]; omega) (by simp only [lim]; omega) ?_
              | refine Ev_orN 4 rfl rfl rfl (by first | omega | (dsimp only; done) | (dsimp only; omega)) (by first | omega | (dsimp only; done) | (dsimp only; omega)) (by simp only [lim]; omega) ?_
              | refine Ev_orN 5 rfl rfl rfl (by first | omega | (dsimp only; done) | (dsimp only; omega)) (by first | omega | (dsimp only; done) | (dsimp only; omega)) (by simp only [lim]; omega) ?_
              | refine Ev_orN 6 rfl rfl rfl (by first | omega | (dsimp only; done) | (dsimp only; omega)) (by first | omega | (dsimp only; done) | (dsimp only; omega)) (by simp only [lim]; omega) ?_
              | refine Ev_orN 10 rfl rfl rfl (by first | omega | (dsimp only; done) | (dsimp only; omega)) (by first | omega | (dsimp only; done) | (dsimp only; omega)) (by simp only [lim]; omega) ?_
              | refine Ev_orN 12 rfl rfl rfl (by first | omega | (dsimp only; done) | (dsimp only; omega)) (by first | omega | (dsimp only; done) | (dsimp only; omega)) (by simp only [lim]; omega) ?_
              | refine Ev_orN 16 rfl rfl rfl (by first | omega | (dsimp only; done) | (dsimp only; omega)) (by first | omega | (dsimp only; done) | (dsimp only; omega)) (by simp only [lim]; omega) ?_
              | refine Ev_convN rfl rfl rfl rfl rfl (by simp only [lim]; omega) ?_
              | refine Ev_and8 rfl rfl (by first | omega | (dsimp only; done) | (dsimp only; omega)) (by first | omega | (dsimp only; done) | (dsimp only; omega)) (land_192 (by first | omega | (dsimp only; done) | (dsimp only; omega))) (by first | omega | (dsimp only; done) | (dsimp only; omega)) ?_
              | refine Ev_and8 rfl rfl (by first | omega | (dsimp only; done) | (dsimp only; omega)) (by first | omega | (dsimp only; done) | (dsimp only; omega)) (land_224 (by first | omega | (dsimp only; done) | (dsimp only; omega))) (by first | omega | (dsimp only; done) | (dsimp only; omega)) ?_
              | refine Ev_and8 rfl rfl (by first | omega | (dsimp only; done) | (dsimp only; omega)) (by first | omega | (dsimp only; done) | (dsimp only; omega)) (land_240 (by first | omega | (dsimp only; done) | (dsimp only; omega))) (by first | omega | (dsimp only; done) | (dsimp only; omega)) ?_
              | refine Ev_shr rfl rfl rfl rfl ?_
              | refine Ev_conv rfl rfl rfl rfl rfl (by simp only [inR]; omega) ?_
              | refine Ev_conv8 rfl rfl rfl rfl rfl ?_)
          refine Ev_call rfl rfl ((unit_runs how1 hok1 (by omega) (by omega) (by omega)).mono ?_)
          rintro v3 T3 - ⟨hF3, how3, hb3⟩
          have hle3 := hF3.le; have hn3 := hF3.n
          repeat (
            first
              | refine W_seq ?_
              | refine WO_nil ?_
              | refine V_seq ?_
              | refine W_region ?_
              | refine W_drawn (by kernel_rfl) ?_
              | refine W_block ?_
              | refine W_scope ?_
              | refine W_skip ?_
              | refine W_ret ?_
              | refine W_exit ?_
              | refine W_label ?_
              | refine V_ret ?_
              | refine V_block ?_
              | refine V_block_x rfl ?_
              | refine V_block_y rfl ?_
              | refine V_seq_x ?_
              | refine V_loop_x ?_
              | refine W_cond_t rfl ?_
              | refine W_cond_f rfl ?_
              | refine WO_dst rfl rfl (by kernel_rfl) (by kernel_rfl) ?_
              | refine WO_no rfl rfl ?_
              | refine WO_guard_t rfl rfl rfl rfl rfl (by kernel_rfl) (by kernel_rfl) ?_
              | refine WO_guard_f rfl rfl rfl rfl rfl rfl (by kernel_rfl) (by kernel_rfl) ?_
              | refine WO_guard_x rfl rfl rfl rfl rfl (by kernel_rfl) (by kernel_rfl) ?_
              | refine Ev_move rfl ?_
              | refine Ev_assign rfl ?_
              | refine Ev_extract rfl rfl ?_
              | refine Ev_pick_t rfl rfl rfl ?_
              | refine Ev_pick_f rfl rfl rfl ?_
              | refine Ev_lssN rfl rfl ?_
              | refine Ev_leqN rfl rfl ?_
              | refine Ev_gtrN rfl rfl ?_
              | refine Ev_geqN rfl rfl ?_
              | refine Ev_eqlN rfl rfl ?_
              | refine Ev_neqN rfl rfl ?_
              | refine Ev_lss rfl rfl ?_
              | refine Ev_leq rfl rfl ?_
              | refine Ev_gtr rfl rfl ?_
              | refine Ev_geq rfl rfl ?_
              | refine Ev_eql rfl rfl ?_
              | refine Ev_neq rfl rfl ?_
              | refine Ev_seql rfl rfl ?_
              | refine Ev_sneq rfl rfl ?_
              | refine Ev_not rfl ?_
              | refine Ev_notb rfl ?_
              | refine Ev_nilCheck rfl ?_
              | refine Ev_fieldAddr rfl rfl rfl rfl rfl rfl ?_
              | refine Ev_len_str rfl rfl rfl rfl rfl ?_
              | refine Ev_len rfl rfl rfl rfl rfl rfl ?_
              | refine Ev_min rfl rfl rfl ?_
              | refine Ev_max rfl rfl rfl ?_
              | refine Ev_indexAddr rfl rfl rfl rfl rfl (by first | omega | (dsimp only; done) | (dsimp only; omega)) ?_
              | refine Ev_makeFunc rfl rfl ?_
              | refine Ev_conv_str rfl rfl rfl rfl rfl ?_
              | refine Ev_addN rfl rfl (by simp only [lim]; omega) ?_
              | refine Ev_subN rfl rfl (by simp only [lim]; omega) (by first | omega | (dsimp only; done) | (dsimp only; omega)) ?_
              | refine Ev_mulN rfl rfl (by simp only [lim]; omega) ?_
              | refine Ev_add rfl rfl (by simp only [inR]; omega) ?_
              | refine Ev_sub rfl rfl (by simp only [inR]; omega) ?_
              | refine Ev_mul rfl rfl (by simp only [inR]; omega) ?_
              | refine Ev_shrN (m := 6) (q := 64) rfl rfl rfl rfl ?_
              | refine Ev_shrN (m := 12) (q := 4096) rfl rfl rfl rfl ?_
              | refine Ev_shrN (m := 10) (q := 1024) rfl rfl rfl rfl ?_
              | refine Ev_shrN (m := 8) (q := 256) rfl rfl rfl rfl ?_
              | refine Ev_shrN (m := 4) (q := 16) rfl rfl rfl rfl ?_
              | refine Ev_shrN (m := 5) (q := 32) rfl rfl rfl rfl ?_
              | refine Ev_shrN (m := 7) (q := 128) rfl rfl rfl rfl ?_
              | refine Ev_shrN (m := 3) (q := 8) rfl rfl rfl rfl ?_
              | refine Ev_shrN (m := 18) (q := 262144) rfl rfl rfl rfl ?_
              | refine Ev_shlN (m := 6) (q := 64) rfl rfl rfl rfl (by simp only [lim]; omega) ?_
              | refine Ev_shlN (m := 12) (q := 4096) rfl rfl rfl rfl (by simp only [lim]; omega) ?_
              | refine Ev_shlN (m := 10) (q := 1024) rfl rfl rfl rfl (by simp only [lim]; omega) ?_
              | refine Ev_shlN (m := 8) (q := 256) rfl rfl rfl rfl (by simp only [lim]; omega) ?_
              | refine Ev_andN 3 8 rfl rfl rfl rfl (by simp only [lim]; omega) (by simp only [lim]; omega) ?_
              | refine Ev_andN 4 16 rfl rfl rfl rfl (by simp only [lim]; omega) (by simp only [lim]; omega) ?_
              | refine Ev_andN 5 32 rfl rfl rfl rfl (by simp only [lim]; omega) (by simp only [lim]; omega) ?_
              | refine Ev_andN 6 64 rfl rfl rfl rfl (by simp only [lim]; omega) (by simp only [lim]; omega) ?_
              | refine Ev_andN 10 1024 rfl rfl rfl rfl (by simp only [lim]; omega) (by simp only [lim]; omega) ?_
              | refine Ev_orN 4 rfl rfl rfl (by first | omega | (dsimp only; done) | (dsimp only; omega)) (by first | omega | (dsimp only; done) | (dsimp only; omega)) (by simp only [lim]; omega) ?_
              | refine Ev_orN 5 rfl rfl rfl (by first | omega | (dsimp only; done) | (dsimp only; omega)) (by first | omega | (dsimp only; done) | (dsimp only; omega)) (by simp only [lim]; omega) ?_
              | refine Ev_orN 6 rfl rfl rfl (by first | omega | (dsimp only; done) | (dsimp only; omega)) (by first | omega | (dsimp only; done) | (dsimp only; omega)) (by simp only [lim]; omega) ?_
              | refine Ev_orN 10 rfl rfl rfl (by first | omega | (dsimp only; done) | (dsimp only; omega)) (by first | omega | (dsimp only; done) | (dsimp only; omega)) (by simp only [lim]; omega) ?_
              | refine Ev_orN 12 rfl rfl rfl (by first | omega | (dsimp only; done) | (dsimp only; omega)) (by first | omega | (dsimp only; done) | (dsimp only; omega)) (by simp only [lim]; omega) ?_
              | refine Ev_orN 16 rfl rfl rfl (by first | omega | (dsimp only; done) | (dsimp only; omega)) (by first | omega | (dsimp only; done) | (dsimp only; omega)) (by simp only [lim]; omega) ?_
              | refine Ev_convN rfl rfl rfl rfl rfl (by simp only [lim]; omega) ?_
              | refine Ev_and8 rfl rfl (by first | omega | (dsimp only; done) | (dsimp only; omega)) (by first | omega | (dsimp only; done) | (dsimp only; omega)) (land_192 (by first | omega | (dsimp only; done) | (dsimp only; omega))) (by first | omega | (dsimp only; done) | (dsimp only; omega)) ?_
              | refine Ev_and8 rfl rfl (by first | omega | (dsimp only; done) | (dsimp only; omega)) (by first | omega | (dsimp only; done) | (dsimp only; omega)) (land_224 (by first | omega | (dsimp only; done) | (dsimp only; omega))) (by first | omega | (dsimp only; done) | (dsimp only; omega)) ?_
              | refine Ev_and8 rfl rfl (by first | omega | (dsimp only; done) | (dsimp only; omega)) (by first | omega | (dsimp only; done) | (dsimp only; omega)) (land_240 (by first | omega | (dsimp only; done) | (dsimp only; omega))) (by first | omega | (dsimp only; done) | (dsimp only; omega)) ?_
              | refine Ev_shr rfl rfl rfl rfl ?_
              | refine Ev_conv rfl rfl rfl rfl rfl (by simp only [inR]; omega) ?_
              | refine Ev_conv8 rfl rfl rfl rfl rfl ?_)
          have he1 : enc1 c = unitL c := by unfold enc1; rw [if_neg hc1]
          have h6 := enc1_len c
          refine back (pos + w, v3, l ++ enc1 c) T3 _ (by dsimp only; omega) ⟨?_, hF3.ok, ?_, ?_, ?_, ?_, by omega, by dsimp only; omega, ?_, ?_⟩ ⟨rfl, rfl, trivial⟩
          · dsimp only; omega
          · rw [hF3.same _ (by intro h; have := hbk _ h; omega) (by omega)]; exact hit1
          · rw [he1]; exact how3
          · dsimp only; rw [List.append_assoc]; exact heq'
          · dsimp only; rw [List.length_append]; omega
          · intro b hb
            rw [hF3.same _ (by intro h; have := hbk _ h; omega) (by omega), hf1 b (by omega)]; exact hfr b hb
          · intro b hb
            rcases hb3 b hb with h | h
            · exact hbk b h
            · omega
    · exact ⟨by simp, hok1, hq1, .inl ⟨rfl, rfl, rfl⟩, by simp, by simp, by omega, by dsimp only; omega, hf1, fun c hc => by cases hc⟩
end Go.Proofs.YtnlfcoojlgdgaaaDoor
/- caraferef1: valid, three, Encode. -/


namespace Go.Proofs.YtnlfcoojlgdgaaaDoor
open GX
set_option maxHeartbeats 8000000
/-- what begins with a rune -/
theorem rune_dec {x : List Nat} (hne : x ≠ []) (h : ∀ b ∈ x, b < 256) (hv : ¬ ((decodeR x).1 = 65533 ∧ (decodeR x).2 = 1)) : x = runeL (decodeR x).1 ++ x.drop (decodeR x).2 := by
  cases x with
  | nil => exact absurd rfl hne
  | cons a t =>
    have ha : a < 256 := h a (by simp)
    unfold decodeR at hv ⊢
    dsimp only at hv ⊢
    by_cases h1 : a < 128
    · rw [if_pos h1] at hv ⊢
      unfold runeL
      rw [if_pos (by omega)]; rfl
    · rw [if_neg h1] at hv ⊢
      by_cases h2 : (a / 32 == 6 && t.getD 0 0 / 64 == 2) = true
      · rw [if_pos h2] at hv ⊢
        by_cases h3 : a % 32 * 64 + t.getD 0 0 % 64 ≥ 128
        · rw [if_pos h3] at hv ⊢
          cases t with
          | nil => simp at h2
          | cons b t =>
            simp only [List.getD_cons_zero, Bool.and_eq_true, beq_iff_eq] at h2 h3 ⊢
            unfold runeL
            rw [if_neg (by omega), if_pos (by omega)]
            simp
            omega
        · rw [if_neg h3] at hv; exact absurd ⟨rfl, rfl⟩ hv
      · rw [if_neg h2] at hv ⊢
        by_cases h4 : (a / 16 == 14 && t.getD 0 0 / 64 == 2 && t.getD 1 0 / 64 == 2) = true
        · rw [if_pos h4] at hv ⊢
          obtain ⟨z, hz⟩ : ∃ z, z = a % 16 * 4096 + t.getD 0 0 % 64 * 64 + t.getD 1 0 % 64 := ⟨_, rfl⟩
          rw [← hz] at hv ⊢
          by_cases h5 : (decide (z ≥ 2048) && Utf8.valid ((z : Nat) : Int)) = true
          · rw [if_pos h5] at hv ⊢
            simp only [Bool.and_eq_true, decide_eq_true_eq] at h5
            have ht : ∃ b c t', t = b :: c :: t' := by
              clear hz
              match t, h4 with
              | [], h4 => simp at h4
              | [b], h4 => simp at h4
              | b :: c :: t, _ => exact ⟨b, c, t, rfl⟩
            obtain ⟨b, c, t, rfl⟩ := ht
            simp only [List.getD_cons_zero, List.getD_cons_succ, Bool.and_eq_true, beq_iff_eq] at h4 hz ⊢
            unfold runeL
            rw [if_neg (by omega), if_neg (by omega), if_pos (by omega)]
            simp
            omega
          · rw [if_neg h5] at hv; exact absurd ⟨rfl, rfl⟩ hv
        · rw [if_neg h4] at hv ⊢
          by_cases h6 : (a / 8 == 30 && t.getD 0 0 / 64 == 2 && t.getD 1 0 / 64 == 2 && t.getD 2 0 / 64 == 2) = true
          · rw [if_pos h6] at hv ⊢
            obtain ⟨z, hz⟩ : ∃ z, z = a % 8 * 262144 + t.getD 0 0 % 64 * 4096 + t.getD 1 0 % 64 * 64 + t.getD 2 0 % 64 := ⟨_, rfl⟩
            rw [← hz] at hv ⊢
            by_cases h7 : (decide (z ≥ 65536) && Utf8.valid ((z : Nat) : Int)) = true
            · rw [if_pos h7] at hv ⊢
              simp only [Bool.and_eq_true, decide_eq_true_eq] at h7
              have hz2 : Utf8.valid ((z : Nat) : Int) = true := h7.2
              have ht : ∃ b c d t', t = b :: c :: d :: t' := by
                clear hz
                match t, h6 with
                | [], h6 => simp at h6
                | [b], h6 => simp at h6
                | [b, c], h6 => simp at h6
                | b :: c :: d :: t, _ => exact ⟨b, c, d, t, rfl⟩
              obtain ⟨b, c, d, t, rfl⟩ := ht
              simp only [List.getD_cons_zero, List.getD_cons_succ, Bool.and_eq_true, beq_iff_eq] at h6 hz ⊢
              unfold runeL
              rw [if_neg (by omega), if_neg (by omega), if_neg (by omega)]
              simp
              omega
            · rw [if_neg h7] at hv; exact absurd ⟨rfl, rfl⟩ hv
          · rw [if_neg h6] at hv; exact absurd ⟨rfl, rfl⟩ hv
theorem norm_of_valid : ∀ (n : Nat) {x : List Nat}, x.length ≤ n → (∀ b ∈ x, b < 256) → vS x = true → normS x = x
  | n, x, hn, hb, hv => by
    by_cases h0 : x = []
    · subst h0; unfold normS; rw [runesS_nil]; rfl
    · have hl : 0 < x.length := List.length_pos_iff.2 h0
      cases n with
      | zero => omega
      | succ n =>
        rw [vS_step hb h0] at hv
        split at hv
        · cases hv
        · rename_i h1
          have hx := rune_dec h0 hb h1
          have hp := dec_pos x
          have ih := norm_of_valid n (x := x.drop (decodeR x).2) (by rw [List.length_drop]; omega) (fun b h => hb b (List.mem_of_mem_drop h)) hv
          unfold normS at ih ⊢
          rw [runesS_ne h0]
          show runeL (decodeR x).1 ++ txt (runesS (x.drop (decodeR x).2)) = x
          rw [ih, ← hx]
theorem vS_iff {x : List Nat} (hb : ∀ b ∈ x, b < 256) : vS x = decide (normS x = x) := by
  by_cases h : vS x = true
  · rw [h, decide_eq_true (norm_of_valid _ (Nat.le_refl _) hb h)]
  · have h2 : ¬ normS x = x := fun h2 => h (by rw [← h2]; exact vS_norm x)
    rw [decide_eq_false h2]; simpa using h
theorem runes_rd {S : St} {s : List Nat} {q el : Nat} (h : S.h.get q = some (.cells el (runesFrom s.length s) true)) : Rd S (.slice q 0 (runesFrom s.length s).length (.op 1)) 1 (runesFrom s.length s) (runesFrom s.length s).length :=
  Rd_lit h (by rw [Nat.mul_one]) rfl
theorem runes_of (s : List Nat) : runesOf (runesFrom s.length s) = some (normS s) := by
  rw [runesFrom_eq (Nat.le_refl _), runesOf_eq runesS_ok]; rfl
theorem rvalid_runs {S : St} {s : List Nat} (hok : Sok S) (hn : S.n < 1000000000) (hb : ∀ b ∈ s, b < 256) : Runs X1 44 [.str s] S fun r S' => r = .bool (vS s) ∧ Fr S S' .nils 1 := by
  refine Runs_fn (m := 8) (by kernel_rfl) Tryd.func44 rfl (by kernel_rfl) (by kernel_rfl) ?_
  repeat (
    first
      | refine W_seq ?_
      | refine WO_nil ?_
      | refine V_seq ?_
      | refine W_region ?_
      | refine WO_dst rfl rfl (by kernel_rfl) (by kernel_rfl) ?_
      | refine Ev_move rfl ?_
      | refine Ev_assign rfl ?_)
  refine Ev_conv_runes rfl rfl rfl rfl rfl rfl rfl rfl hok (by omega) ?_
  intro S1 hn1 hok1 hq1 hf1
  repeat (
    refine WO_dst rfl rfl (by kernel_rfl) (by kernel_rfl) ?_)
  refine Ev_conv_to_str_r rfl rfl rfl rfl rfl rfl rfl (runes_rd hq1) (runes_of s) ?_
  repeat (
    first
      | refine WO_nil ?_
      | refine V_seq ?_
      | refine W_ret ?_
      | refine WO_dst rfl rfl (by kernel_rfl) (by kernel_rfl) ?_
      | refine Ev_move rfl ?_
      | refine Ev_assign rfl ?_
      | refine Ev_seql rfl rfl ?_)
  refine V_done rfl rfl ?_
  exact ⟨by rw [vS_iff hb]; rfl, by omega, by omega, hok1, fun c _ h => hf1 c h⟩
def three (n : Nat) : List Nat := [224 + n / 4096, 128 + n / 64 % 64, 128 + n % 64]
theorem three_runs {S : St} {n : Nat} (hok : Sok S) (hn : S.n < 1000000000) (hl : n < 65536) : Runs X1 45 [.int .i64 (n : Int)] S fun r S' => Fr S S' .nils 1 ∧ Rd S' r 1 (sbytes (three n)) 3 ∧ ∀ b, blkOf r = some b → S.n ≤ b := by
  refine Runs_fn (m := 17) (by kernel_rfl) Tryd.func45 rfl (by kernel_rfl) (by kernel_rfl) ?_
  repeat (
    first
      | refine W_seq ?_
      | refine WO_nil ?_
      | refine V_seq ?_
      | refine W_region ?_
      | refine WO_dst rfl rfl (by kernel_rfl) (by kernel_rfl) ?_
      | refine Ev_move rfl ?_
      | refine Ev_assign rfl ?_
      | refine Ev_shrN (m := 6) (q := 64) rfl rfl rfl rfl ?_
      | refine Ev_shrN (m := 12) (q := 4096) rfl rfl rfl rfl ?_
      | refine Ev_andN 6 64 rfl rfl rfl rfl (by simp only [lim]; omega) (by simp only [lim]; omega) ?_
      | refine Ev_orN 4 rfl rfl rfl (by first | omega | (dsimp only; done) | (dsimp only; omega)) (by first | omega | (dsimp only; done) | (dsimp only; omega)) (by simp only [lim]; omega) ?_
      | refine Ev_orN 6 rfl rfl rfl (by first | omega | (dsimp only; done) | (dsimp only; omega)) (by first | omega | (dsimp only; done) | (dsimp only; omega)) (by simp only [lim]; omega) ?_
      | refine Ev_convN rfl rfl rfl rfl rfl (by simp only [lim]; omega) ?_)
  refine Ev_buildSlice rfl rfl rfl rfl rfl rfl hok (by omega) ?_
  intro S1 hn1 hok1 hq1 hf1
  repeat (
    first
      | refine WO_nil ?_
      | refine V_seq ?_
      | refine W_ret ?_
      | refine WO_dst rfl rfl (by kernel_rfl) (by kernel_rfl) ?_
      | refine Ev_assign rfl ?_)
  refine V_done rfl rfl ?_
  refine ⟨⟨by omega, by omega, hok1, fun c _ h => hf1 c h⟩, ?_, fun b h => by cases h; exact Nat.le_refl _⟩
  refine (Rd_lit hq1 rfl (by kernel_rfl)).eq ?_ rfl
  simp [sbytes, three, lput, rep, AV.cells]
structure REncR (S0 : St) (s : List Nat) (r : AV) (S' : St) : Prop where
  fr : Fr S0 S' .nils (4 * s.length + 2)
  out : ∃ v, r = .tup [v, .int .i64 (if vS s = true then 0 else 12)] ∧ Ow S' v (if vS s = true then encS s else []) ∧ ∀ c, blkOf v = some c → S0.n ≤ c
theorem three_unit {n : Nat} (h : 2048 ≤ n) : three n = unitL n := by unfold three unitL; rw [if_neg (by omega), if_neg (by omega)]
structure REncI (S : St) (q : Nat) (s : List Nat) (a : Nat × AV × List Nat) (T : St) : Prop where
  le : a.1 ≤ s.length
  ok : Sok T
  it : T.h.get q = some (.sit s a.1)
  ow : Ow T a.2.1 a.2.2
  eq : a.2.2 ++ encS (s.drop a.1) = encS s
  len : a.2.2.length ≤ 6 * a.1
  lt : q < T.n
  n : T.n + 4 * (s.length - a.1) ≤ S.n + (4 * s.length + 2)
  fr : ∀ c, c < S.n → T.h.get c = S.h.get c
  bk : ∀ c, blkOf a.2.1 = some c → q < c
theorem renc_runs {S : St} {s : List Nat} (hok : Sok S) (hb : ∀ b ∈ s, b < 256) (hl : s.length ≤ 100000000) (hn : S.n + (4 * s.length + 2) ≤ 1000000000) : Runs X1 12 [.str s] S (REncR S s) := by
  refine Runs_fn (m := 66) (by kernel_rfl) Tryd.func12 rfl (by kernel_rfl) (by kernel_rfl) ?_
  repeat (
    first
      | refine W_seq ?_
      | refine WO_nil ?_
      | refine V_seq ?_
      | refine W_region ?_
      | refine WO_dst rfl rfl (by kernel_rfl) (by kernel_rfl) ?_
      | refine Ev_move rfl ?_
      | refine Ev_assign rfl ?_)
  refine Ev_call rfl rfl ((rvalid_runs hok (by omega) hb).mono ?_)
  rintro _ S0 - ⟨rfl, hle0, hn0, hok0, hf0⟩
  repeat (
    first
      | refine WO_nil ?_
      | refine V_seq ?_
      | refine WO_dst rfl rfl (by kernel_rfl) (by kernel_rfl) ?_
      | refine Ev_notb rfl ?_)
  refine W_condb rfl (fun hc => ?_) (fun hc => ?_)
  · have hv : vS s = false := by simpa using hc
    repeat (
      first
        | refine W_seq ?_
        | refine WO_nil ?_
        | refine V_seq ?_
        | refine W_region ?_
        | refine W_ret ?_
        | refine V_ret ?_
        | refine WO_dst rfl rfl (by kernel_rfl) (by kernel_rfl) ?_
        | refine Ev_assign rfl ?_)
    refine V_done rfl rfl ?_
    exact ⟨⟨by omega, by omega, hok0, fun c h1 h2 => hf0 c h1 h2⟩, .nils, by rw [hv]; rfl, by rw [hv]; exact .inl ⟨rfl, rfl, rfl⟩, fun c hc => by cases hc⟩
  · have hv : vS s = true := by simpa using hc
    repeat (
      first
        | refine W_seq ?_
        | refine WO_nil ?_
        | refine V_seq ?_
        | refine W_region ?_
        | refine W_skip ?_
        | refine WO_dst rfl rfl (by kernel_rfl) (by kernel_rfl) ?_
        | refine Ev_move rfl ?_
        | refine Ev_assign rfl ?_)
    refine Ev_range rfl rfl rfl hok0 (by omega) ?_
    intro S1 hn1 hok1 hq1 hf1
    have hfS : ∀ c, c < S.n → S1.h.get c = S.h.get c := fun c h => by rw [hf1 c (by omega), hf0 c (by simp [blkOf]) h]
    repeat (
      first
        | refine WO_nil ?_
        | refine V_seq ?_
        | refine W_block ?_)
    refine W_inv (fun a : Nat × AV × List Nat => [(12, .ptr S0.n 0), (4, a.2.1)]) (REncI S S0.n s) (fun a => s.length - a.1) ?_ (0, .nils, []) ?_ ⟨rfl, rfl, trivial⟩
    · rintro ⟨pos, v, l⟩ T ⟨hle, hokT, hit, how, heq, hlen, hlt, hnT, hfr, hbk⟩ back
      dsimp only at hle hit how heq hlen hnT hbk back
      repeat (
        first
          | refine W_seq ?_
          | refine W_region ?_
          | refine WO_dst rfl rfl (by kernel_rfl) (by kernel_rfl) ?_)
      by_cases hd : s.drop pos = []
      · refine Ev_next_end rfl hit hd ?_
        repeat (
          first
            | refine W_seq ?_
            | refine WO_nil ?_
            | refine V_seq ?_
            | refine W_region ?_
            | refine W_ret ?_
            | refine W_exit ?_
            | refine V_block_x rfl ?_
            | refine V_seq_x ?_
            | refine V_loop_x ?_
            | refine W_cond_f rfl ?_
            | refine WO_dst rfl rfl (by kernel_rfl) (by kernel_rfl) ?_
            | refine Ev_move rfl ?_
            | refine Ev_assign rfl ?_
            | refine Ev_extract rfl rfl ?_)
        refine V_done rfl rfl ?_
        refine ⟨⟨by omega, by omega, hokT, fun c _ h => hfr c h⟩, v, by rw [hv]; rfl, ?_, fun c hc => by have := hbk c hc; omega⟩
        rw [if_pos hv, ← heq, hd, encS_nil, List.append_nil]; exact how
      · obtain ⟨c, w, hcw⟩ : ∃ c w, decodeR (s.drop pos) = (c, w) := ⟨_, _, rfl⟩
        have hc : c < 1114112 := by have := dec_lt (s.drop pos); rw [hcw] at this; exact this
        have hwl : pos + w ≤ s.length := by have := dec_le hd; rw [hcw, List.length_drop] at this; dsimp only at this; omega
        have hw : 1 ≤ w := by have := dec_pos (s.drop pos); rw [hcw] at this; exact this
        have heq' : l ++ (enc1 c ++ encS (s.drop (pos + w))) = encS s := by
          rw [← heq, encS_ne hd, hcw, List.drop_drop]
        refine Ev_next rfl hit hd hcw (by omega) ?_
        intro T1 hn1 hit1 hf1
        have hok1 : Sok T1 := by
          intro b x hb
          rw [hn1]
          by_cases h : b = S0.n
          · omega
          · rw [hf1 b h] at hb; exact hokT b x hb
        have how1 : Ow T1 v l := how.keep fun b hb => hf1 b (by have := hbk b hb; omega)
        have hfrq : ∀ b, b < S.n → T1.h.get b = S.h.get b := fun b h => by rw [hf1 b (by omega)]; exact hfr b h
        have h6 := enc1_len c
        -- what is appended, and back
        have hI : ∀ (v3 : AV) (T3 : St), Sok T3 → Ow T3 v3 (l ++ enc1 c) → T1.n ≤ T3.n → T3.n ≤ T1.n + 4 → (∀ b, blkOf v ≠ some b → b < T1.n → T3.h.get b = T1.h.get b) → (∀ b, blkOf v3 = some b → blkOf v = some b ∨ T1.n ≤ b) → REncI S S0.n s (pos + w, v3, l ++ enc1 c) T3 := by
          intro v3 T3 hok3 how3 hle3 hn3 hf3 hb3
          refine ⟨hwl, hok3, ?_, how3, ?_, ?_, by omega, by dsimp only; omega, ?_, ?_⟩
          · rw [hf3 _ (by intro h; have := hbk _ h; omega) (by omega)]; exact hit1
          · dsimp only; rw [List.append_assoc]; exact heq'
          · dsimp only; rw [List.length_append]; omega
          · intro b hb
            rw [hf3 _ (by intro h; have := hbk _ h; omega) (by omega)]; exact hfrq b hb
          · intro b hb
            rcases hb3 b hb with h | h
            · exact hbk b h
            · omega
        repeat' (
          first
            | refine W_seq ?_
            | refine WO_nil ?_
            | refine V_seq ?_
            | refine W_region ?_
            | refine W_block ?_
            | refine W_skip ?_
            | refine W_cond_t rfl ?_
            | refine W_cond_f rfl ?_
            | refine WO_dst rfl rfl (by kernel_rfl) (by kernel_rfl) ?_
            | refine WO_guard_t rfl rfl rfl rfl rfl (by kernel_rfl) (by kernel_rfl) ?_
            | refine WO_guard_f rfl rfl rfl rfl rfl rfl (by kernel_rfl) (by kernel_rfl) ?_
            | refine Ev_move rfl ?_
            | refine Ev_assign rfl ?_
            | refine Ev_extract rfl rfl ?_
            | refine Ev_pick_t rfl rfl rfl ?_
            | refine Ev_pick_f rfl rfl rfl ?_
            | refine Ev_lssN rfl rfl ?_
            | refine Ev_gtrN rfl rfl ?_
            | refine Ev_addN rfl rfl (by simp only [lim]; omega) ?_
            | refine Ev_subN rfl rfl (by simp only [lim]; omega) (by first | omega | (dsimp only; done) | (dsimp only; omega)) ?_
            | refine Ev_shrN (m := 6) (q := 64) rfl rfl rfl rfl ?_
            | refine Ev_shrN (m := 10) (q := 1024) rfl rfl rfl rfl ?_
            | refine Ev_andN 6 64 rfl rfl rfl rfl (by simp only [lim]; omega) (by simp only [lim]; omega) ?_
            | refine Ev_orN 4 rfl rfl rfl (by first | omega | (dsimp only; done) | (dsimp only; omega)) (by first | omega | (dsimp only; done) | (dsimp only; omega)) (by simp only [lim]; omega) ?_
            | refine Ev_orN 5 rfl rfl rfl (by first | omega | (dsimp only; done) | (dsimp only; omega)) (by first | omega | (dsimp only; done) | (dsimp only; omega)) (by simp only [lim]; omega) ?_
            | refine Ev_orN 6 rfl rfl rfl (by first | omega | (dsimp only; done) | (dsimp only; omega)) (by first | omega | (dsimp only; done) | (dsimp only; omega)) (by simp only [lim]; omega) ?_
            | refine Ev_convN rfl rfl rfl rfl rfl (by simp only [lim]; omega) ?_
            | (refine WO_guard_dt rfl rfl rfl rfl rfl (by kernel_rfl) (by kernel_rfl) (fun hg => ?_) (fun hg => ?_) <;> (try dsimp only at hg) <;> try (exfalso; first | omega | exact hg rfl))
            | (refine W_cond rfl (fun hc => ?_) (fun hc => ?_) <;> (try dsimp only at hc) <;> try (exfalso; first | omega | exact hc rfl)))
        · have he : enc1 c = [c] := by unfold enc1 unitL; rw [if_neg (by omega), if_pos (by omega)]
          refine Ev_buildSlice rfl rfl rfl rfl rfl rfl hok1 (by omega) ?_
          intro S2 hn2 hok2 hq2 hf2
          repeat (
            refine WO_dst rfl rfl (by kernel_rfl) (by kernel_rfl) ?_)
          refine Ev_append rfl rfl rfl rfl rfl rfl rfl rfl rfl rfl (how1.keep (fun b h => hf2 b (how1.lt hok1 h))) (Rd_lit hq2 rfl (by kernel_rfl)) rfl hok2 (by omega) (by dsimp only; omega) (by omega) ?_
          intro v3 T3 hle3 hn3 hok3 how3 hf3 hb3
          repeat (
            first
              | refine WO_nil ?_
              | refine V_block ?_
              | refine WO_dst rfl rfl (by kernel_rfl) (by kernel_rfl) ?_
              | refine Ev_assign rfl ?_)
          refine back (pos + w, v3, l ++ enc1 c) T3 _ (by dsimp only; omega) (hI v3 T3 hok3 (how3.eq (by rw [he, sbytes_app]; simp [sbytes, lput, rep, AV.cells]) (by rw [he, List.length_append]; rfl)) (by omega) (by omega) (fun b h1 h2 => by rw [hf3 b h1 (by omega), hf2 b h2]) (fun b h => (hb3 b h).imp id (fun h => by omega))) ⟨rfl, rfl, trivial⟩
        · have he : enc1 c = [192 + c / 64, 128 + c % 64] := by unfold enc1 unitL; rw [if_neg (by omega), if_neg (by omega), if_pos (by omega)]
          refine Ev_buildSlice rfl rfl rfl rfl rfl rfl hok1 (by omega) ?_
          intro S2 hn2 hok2 hq2 hf2
          repeat (
            refine WO_dst rfl rfl (by kernel_rfl) (by kernel_rfl) ?_)
          refine Ev_append rfl rfl rfl rfl rfl rfl rfl rfl rfl rfl (how1.keep (fun b h => hf2 b (how1.lt hok1 h))) (Rd_lit hq2 rfl (by kernel_rfl)) rfl hok2 (by omega) (by dsimp only; omega) (by omega) ?_
          intro v3 T3 hle3 hn3 hok3 how3 hf3 hb3
          repeat (
            first
              | refine WO_nil ?_
              | refine V_block ?_
              | refine WO_dst rfl rfl (by kernel_rfl) (by kernel_rfl) ?_
              | refine Ev_assign rfl ?_)
          refine back (pos + w, v3, l ++ enc1 c) T3 _ (by dsimp only; omega) (hI v3 T3 hok3 (how3.eq (by rw [he, sbytes_app]; simp [sbytes, lput, rep, AV.cells]) (by rw [he, List.length_append]; rfl)) (by omega) (by omega) (fun b h1 h2 => by rw [hf3 b h1 (by omega), hf2 b h2]) (fun b h => (hb3 b h).imp id (fun h => by omega))) ⟨rfl, rfl, trivial⟩
        · have he : enc1 c = three c := by rw [three_unit (by omega)]; unfold enc1; rw [if_neg (by omega)]
          refine Ev_call rfl rfl ((three_runs hok1 (by omega) (by omega)).mono ?_)
          rintro v2 S2 - ⟨⟨hle2, hn2, hok2, hf2⟩, hrd2, hb2⟩
          repeat (
            refine WO_dst rfl rfl (by kernel_rfl) (by kernel_rfl) ?_)
          refine Ev_append rfl rfl rfl rfl rfl rfl rfl rfl rfl rfl (how1.keep (fun b h => hf2 b (by simp [blkOf]) (how1.lt hok1 h))) hrd2 (sbytes_one _) hok2 (by omega) (by dsimp only; omega) (by omega) ?_
          intro v3 T3 hle3 hn3 hok3 how3 hf3 hb3
          repeat (
            first
              | refine WO_nil ?_
              | refine V_block ?_
              | refine WO_dst rfl rfl (by kernel_rfl) (by kernel_rfl) ?_
              | refine Ev_assign rfl ?_)
          refine back (pos + w, v3, l ++ enc1 c) T3 _ (by dsimp only; omega) (hI v3 T3 hok3 (how3.eq (by rw [he, sbytes_app]) (by rw [he, List.length_append]; rfl)) (by omega) (by omega) (fun b h1 h2 => by rw [hf3 b h1 (by omega), hf2 b (by simp [blkOf]) h2]) (fun b h => (hb3 b h).imp id (fun h => by omega))) ⟨rfl, rfl, trivial⟩
        · obtain ⟨A, hA⟩ : ∃ A, A = 55296 + (c - 65536) / 1024 := ⟨_, rfl⟩
          obtain ⟨B, hB⟩ : ∃ B, B = 56320 + (c - 65536) % 1024 := ⟨_, rfl⟩
          have he : enc1 c = three A ++ three B := by rw [three_unit (by omega), three_unit (by omega), hA, hB]; unfold enc1; rw [if_pos (by omega)]
          refine Ev_call rfl rfl ((three_runs hok1 (by omega) (by dsimp only; omega)).mono ?_)
          rintro v2 S2 - ⟨⟨hle2, hn2, hok2, hf2⟩, hrd2, hb2⟩
          repeat (
            refine WO_dst rfl rfl (by kernel_rfl) (by kernel_rfl) ?_)
          refine Ev_append rfl rfl rfl rfl rfl rfl rfl rfl rfl rfl (how1.keep (fun b h => hf2 b (by simp [blkOf]) (how1.lt hok1 h))) hrd2 (sbytes_one _) hok2 (by omega) (by dsimp only; omega) (by omega) ?_
          intro v3 T3 hle3 hn3 hok3 how3 hf3 hb3
          repeat (
            first
              | refine WO_nil ?_
              | refine V_seq ?_
              | refine W_region ?_
              | refine WO_dst rfl rfl (by kernel_rfl) (by kernel_rfl) ?_
              | refine Ev_move rfl ?_
              | refine Ev_assign rfl ?_
              | refine Ev_addN rfl rfl (by simp only [lim]; omega) ?_
              | refine Ev_subN rfl rfl (by simp only [lim]; omega) (by first | omega | (dsimp only; done) | (dsimp only; omega)) ?_
              | refine Ev_andN 10 1024 rfl rfl rfl rfl (by simp only [lim]; omega) (by simp only [lim]; omega) ?_)
          refine Ev_call rfl rfl ((three_runs hok3 (by omega) (by dsimp only; omega)).mono ?_)
          rintro v4 S4 - ⟨⟨hle4, hn4, hok4, hf4⟩, hrd4, hb4⟩
          repeat (
            refine WO_dst rfl rfl (by kernel_rfl) (by kernel_rfl) ?_)
          refine Ev_append rfl rfl rfl rfl rfl rfl rfl rfl rfl rfl (how3.keep (fun b h => hf4 b (by simp [blkOf]) (how3.lt hok3 h))) hrd4 (sbytes_one _) hok4 (by omega) (by dsimp only; omega) (by omega) ?_
          intro v5 T5 hle5 hn5 hok5 how5 hf5 hb5
          repeat (
            first
              | refine WO_nil ?_
              | refine V_block ?_
              | refine WO_dst rfl rfl (by kernel_rfl) (by kernel_rfl) ?_
              | refine Ev_assign rfl ?_)
          refine back (pos + w, v5, l ++ enc1 c) T5 _ (by dsimp only; omega) (hI v5 T5 hok5 (how5.eq (by rw [he, hA, hB, sbytes_app, sbytes_app, List.append_assoc]) (by rw [he, List.length_append, List.length_append]; rfl)) (by omega) (by omega) (fun b h1 h2 => by rw [hf5 b (fun h => by rcases hb3 b h with h | h; exact h1 h; omega) (by omega), hf4 b (by simp [blkOf]) (by omega), hf3 b h1 (by omega), hf2 b (by simp [blkOf]) h2]) (fun b h => by
            rcases hb5 b h with h | h
            · exact (hb3 b h).imp id (fun h => by omega)
            · exact .inr (by omega))) ⟨rfl, rfl, trivial⟩
        · have he : enc1 c = [192 + c / 64, 128 + c % 64] := by unfold enc1 unitL; rw [if_neg (by omega), if_neg (by omega), if_pos (by omega)]
          refine Ev_buildSlice rfl rfl rfl rfl rfl rfl hok1 (by omega) ?_
          intro S2 hn2 hok2 hq2 hf2
          repeat (
            refine WO_dst rfl rfl (by kernel_rfl) (by kernel_rfl) ?_)
          refine Ev_append rfl rfl rfl rfl rfl rfl rfl rfl rfl rfl (how1.keep (fun b h => hf2 b (how1.lt hok1 h))) (Rd_lit hq2 rfl (by kernel_rfl)) rfl hok2 (by omega) (by dsimp only; omega) (by omega) ?_
          intro v3 T3 hle3 hn3 hok3 how3 hf3 hb3
          repeat (
            first
              | refine WO_nil ?_
              | refine V_block ?_
              | refine WO_dst rfl rfl (by kernel_rfl) (by kernel_rfl) ?_
              | refine Ev_assign rfl ?_)
          refine back (pos + w, v3, l ++ enc1 c) T3 _ (by dsimp only; omega) (hI v3 T3 hok3 (how3.eq (by rw [he, sbytes_app]; simp [sbytes, lput, rep, AV.cells]) (by rw [he, List.length_append]; rfl)) (by omega) (by omega) (fun b h1 h2 => by rw [hf3 b h1 (by omega), hf2 b h2]) (fun b h => (hb3 b h).imp id (fun h => by omega))) ⟨rfl, rfl, trivial⟩
    · exact ⟨by simp, hok1, hq1, .inl ⟨rfl, rfl, rfl⟩, by simp, by simp, by omega, by dsimp only; omega, hfS, fun c hc => by cases hc⟩
end Go.Proofs.YtnlfcoojlgdgaaaDoor
/- GX: reasoning about runs: a piece of code on its own; parts of texts. -/

namespace GX
noncomputable section
open Go
section
variable {X : X} {n : Nat} {ks : List Kt} {Q : Ex → Env → St → Prop} {l : L} {S : St} {c : Code}
/-- a piece of code that ends as code does, and what is known behind it -/
def Mid (I : L → St → Prop) (x : Ex) (e : Env) (S : St) : Prop := x = .nor ∧ ∃ l', Ag l' e ∧ I l' S
theorem W_cut (I : L → St → Prop) (h : W X n c [] (Mid I) l S) (hk : ∀ l' S', I l' S' → V X n .nor ks Q l' S') : W X n c ks Q l S := by
  unfold W at h ⊢
  intro e he
  obtain ⟨f, x, e', S', h1, rfl, l', h2, h3⟩ := h e he
  have := hk l' S' h3
  unfold V at this
  exact ⟨f, .nor, e', S', h1, this e' h2⟩
theorem V_mid {I : L → St → Prop} (h : I l S) : V X n .nor [] (Mid I) l S := by
  unfold V
  intro e he
  exact ⟨rfl, l, he, h⟩
end
theorem str_hi {X : X} {t : Nat} {k : IntKind} {s : List Nat} {hi : Nat} (h : hi ≤ s.length) : aslice X t (.str s) none (some (.int k ((hi : Nat) : Int))) none = some (.str (s.take hi)) := by
  unfold aslice bounds
  have : bound (.int k ((hi : Nat) : Int)) s.length = some hi := by
    show (bif Nat.ble hi s.length then some hi else none) = _
    rw [nble, decide_eq_true h]; rfl
  dsimp only; rw [this]; rfl
theorem str_lo {X : X} {t : Nat} {k : IntKind} {s : List Nat} {lo : Nat} (h : lo ≤ s.length) : aslice X t (.str s) (some (.int k ((lo : Nat) : Int))) none none = some (.str (s.drop lo)) := by
  unfold aslice bounds
  have : bound (.int k ((lo : Nat) : Int)) s.length = some lo := by
    show (bif Nat.ble lo s.length then some lo else none) = _
    rw [nble, decide_eq_true h]; rfl
  dsimp only; rw [this]; dsimp only; rw [List.take_of_length_le (Nat.le_refl _)]
end
end GX
/- GX: a region that draws its order, where a read may come ahead of or behind a loud operation that leaves alone what it reads. -/

namespace GX
open Go
/-- is this read ordered with every operation that it might meet? -/
def rdStat (ms : List Nat) (sks : List Cls) (i : Nat) : Bool :=
  bef ms sks i isAll && (List.range sks.length).all (fun j => Nat.ble j i || !isLC (sks.getD j .pure) || inM ms j i)
noncomputable def seqB1 (ops : List Oper) (ms : List Nat) (sks : List Cls) (n : Nat) : List Oper → Nat → Bool
  | [], _ => true
  | o :: os, i => (looks ops o).all (fun t => Nat.blt t n && (match writer t ops 0 with | none => true | some j => inM ms i j || Nat.beq i j || inM ms j i)) &&
      (!isLC (sks.getD i .pure) || bef ms sks i isAll) && seqB1 ops ms sks n os (i + 1)
noncomputable def seqB (X : X) (n : Nat) (ops : List Oper) : Bool :=
  edgesOk ops 0 && dstsOk n ops && noSelect ops && Nat.blt n 1000001 && seqB1 ops (masks ops []) (ops.map (fun o => sk X o.op)) n ops 0
theorem seqB1_at {ops : List Oper} {ms : List Nat} {sks : List Cls} {n : Nat} : ∀ {os : List Oper} {i : Nat}, seqB1 ops ms sks n os i = true → ∀ k o, os[k]? = some o →
    (∀ t ∈ looks ops o, t < n ∧ ∀ j, writer t ops 0 = some j → inM ms (i + k) j = true ∨ i + k = j ∨ inM ms j (i + k) = true) ∧
    (isLC (sks.getD (i + k) .pure) = true → bef ms sks (i + k) isAll = true)
  | [], _, _, k, o, h => by simp at h
  | x :: os, i, h, k, o, hk => by
    unfold seqB1 at h
    simp only [Bool.and_eq_true] at h
    obtain ⟨⟨h1, h2⟩, h3⟩ := h
    cases k with
    | zero =>
      simp at hk; subst hk
      refine ⟨fun t ht => ?_, fun hl => by simp only [Nat.add_zero] at hl ⊢; rw [hl] at h2; simpa using h2⟩
      have := List.all_eq_true.1 h1 t ht
      simp only [Bool.and_eq_true, nblt, decide_eq_true_eq] at this
      refine ⟨this.1, fun j hj => ?_⟩
      have h4 := this.2
      rw [hj] at h4
      simp only [Bool.or_eq_true, nbeq, decide_eq_true_eq] at h4
      simp only [Nat.add_zero]
      rcases h4 with (h4 | h4) | h4
      · exact .inl h4
      · exact .inr (.inl h4)
      · exact .inr (.inr h4)
    | succ k =>
      have := seqB1_at h3 k o (by simpa using hk)
      rw [show i + (k + 1) = i + 1 + k by omega]
      exact this
/-- a read that looks at these blocks alone -/
def FP (X : X) (B : List Nat) (h0 : Tr AB) (e : Env) (op : Op) (v : AV) : Prop := ∀ H : Tr AB, (∀ b ∈ B, H.get b = h0.get b) → readOp X e H op = some v
/-- a run in the text's order, where reads that are not ordered look at blocks 'B' alone, and loud operations leave these alone -/
def RunB (X : X) (rec : Rec) (n : Nat) (all : List Oper) (B : List Nat) (h0 : Tr AB) : List Oper → Nat → Env → St → Env → St → Prop
  | [], _, e, S, e', S' => e' = e ∧ S' = S
  | o :: os, i, e, S, e', S' =>
    (wanted all e o = true ∧ ∃ v S1 e1, oper X rec e S o.op = some (v, S1) ∧ setDst n e o.dst v = some e1 ∧ rdv (cls X e o.op) v = true ∧
      (cls X e o.op = .read → rdStat (masks all []) (all.map (fun o => sk X o.op)) i = true ∨ FP X B h0 e o.op v) ∧
      (isLC (cls X e o.op) = true → ∀ b ∈ B, S1.h.get b = h0.get b) ∧ RunB X rec n all B h0 os (i + 1) e1 S1 e' S') ∨
    (wanted all e o = false ∧ ∃ e1, setDst n e o.dst (.tup []) = some e1 ∧ RunB X rec n all B h0 os (i + 1) e1 S e' S')
theorem RunB_le {X : X} {rec rec' : Rec} (hr : RecLe rec rec') {n : Nat} {all : List Oper} {B : List Nat} {h0 : Tr AB} : ∀ {os : List Oper} {i : Nat} {e : Env} {S : St} {e' S'}, RunB X rec n all B h0 os i e S e' S' → RunB X rec' n all B h0 os i e S e' S'
  | [], _, _, _, _, _, h => h
  | o :: os, i, e, S, e', S', h => by
    unfold RunB at h ⊢
    rcases h with ⟨hw, v, S1, e1, h1, h2, h3, h4, h5, h6⟩ | ⟨hw, e1, h1, h2⟩
    · exact .inl ⟨hw, v, S1, e1, oper_le hr h1, h2, h3, h4, h5, RunB_le hr h6⟩
    · exact .inr ⟨hw, e1, h1, RunB_le hr h2⟩
theorem RunB_n {X : X} {rec : Rec} {n : Nat} {all : List Oper} {B : List Nat} {h0 : Tr AB} : ∀ {os : List Oper} {i : Nat} {e : Env} {S : St} {e' S'}, RunB X rec n all B h0 os i e S e' S' → S.n ≤ S'.n
  | [], _, _, _, _, _, h => by unfold RunB at h; rw [h.2]; exact Nat.le_refl _
  | o :: os, i, e, S, e', S', h => by
    unfold RunB at h
    rcases h with ⟨_, v, S1, e1, h1, _, _, _, _, h6⟩ | ⟨_, e1, _, h2⟩
    · exact Nat.le_trans (oper_n h1) (RunB_n h6)
    · exact RunB_n h2
theorem hOf_kept {recs : List R} {b : Nat} {h0 : Tr AB} (hk : ∀ (k : Nat) (r : R) h' m, recs[k]? = some r → r.k = .ld h' m → h'.get b = h0.get b) : ∀ {js : List Nat} {h : Tr AB}, h.get b = h0.get b → (hOf recs h js).get b = h0.get b
  | [], _, h => h
  | j :: js, h, hh => by
    unfold hOf
    apply hOf_kept hk
    split
    · rename_i r hr
      split
      · rename_i h' m hk'
        exact hk j r h' m hr hk'
      · exact hh
    · exact hh
section
variable {X : X} {rec : Rec} {n : Nat} {ops : List Oper} {e : Env} {h0 : Tr AB}
def RFB (X : _root_.GX.X) (n : Nat) (ops : List Oper) (B : List Nat) (e : Env) (h0 : Tr AB) (recs : List R) (lds : List Nat) (i : Nat) (o : Oper) (r : R) : Prop :=
  r.k = .rd → ∃ l1 l2 ei, lds = l1 ++ l2 ∧ (∀ j ∈ l1, j < i) ∧ (∀ j ∈ l2, i < j) ∧ (∀ t ∈ looks ops o, lookT (masks ops []) ops (recs.take i) e i t = some (ei.at t)) ∧ (∀ t ∈ looks ops o, t < n) ∧
    sk X o.op = .read ∧ veq r.v r.v = true ∧ ((rdStat (masks ops []) (ops.map (fun o => sk X o.op)) i = true ∧ readOp X ei (gh (masks ops []) l1 (fun _ => true) (recs.take i) 0 (hOf (recs.take i) h0 l1)) o.op = some r.v) ∨ FP X B h0 ei o.op r.v)
theorem plan_seqB {B : List Nat} {N0 : Nat} (hB : ∀ b ∈ B, b < N0) (hn : n < 1000001) (hE : edgesOk ops 0 = true) (hD : dstsOk n ops = true) (hK : seqB1 ops (masks ops []) (ops.map (fun o => sk X o.op)) n ops 0 = true) :
    ∀ (os pre : List Oper) (acc : List R) (lds : List Nat) (S : St) (ei : Env) (e' : Env) (S' : St), ops = pre ++ os → acc.length = pre.length → putAll n pre acc e = some ei →
    (∀ (k : Nat) (r : R) b, acc[k]? = some r → r.k = .mk b → (ops.map (fun o => sk X o.op)).getD k .pure = .alloc ∧ N0 ≤ r.n0 ∧ r.n0 < 1000000000) →
    (∀ (k : Nat) (r : R) h' m, acc[k]? = some r → r.k = .ld h' m → ∀ b ∈ B, h'.get b = h0.get b) →
    N0 ≤ S.n →
    (∀ j ∈ lds, j < pre.length ∧ isLC ((ops.map (fun o => sk X o.op)).getD j .pure) = true) →
    lds.Pairwise (· < ·) →
    S.h = gh (masks ops []) lds (fun _ => true) acc 0 (hOf acc h0 lds) →
    RunB X rec n ops B h0 os pre.length ei S e' S' →
    ∃ tl l2, plan X rec n ops (masks ops []) e os pre.length acc lds (hOf acc h0 lds) S.n = some (acc ++ tl, lds ++ l2, S'.n) ∧
      (∀ j ∈ l2, pre.length ≤ j ∧ isLC ((ops.map (fun o => sk X o.op)).getD j .pure) = true) ∧ putAll n ops (acc ++ tl) e = some e' ∧
      S'.h = gh (masks ops []) (lds ++ l2) (fun _ => true) (acc ++ tl) 0 (hOf (acc ++ tl) h0 (lds ++ l2)) ∧ tl.length = os.length ∧ (lds ++ l2).Pairwise (· < ·) ∧ (∀ (k : Nat) (r : R) b, (acc ++ tl)[k]? = some r → r.k = .mk b → (ops.map (fun o => sk X o.op)).getD k .pure = .alloc ∧ N0 ≤ r.n0 ∧ r.n0 < 1000000000) ∧ (∀ (k : Nat) (r : R) h' m, (acc ++ tl)[k]? = some r → r.k = .ld h' m → ∀ b ∈ B, h'.get b = h0.get b) ∧
      ∀ (k : Nat) (o : Oper) (r : R), os[k]? = some o → tl[k]? = some r → RFB X n ops B e h0 (acc ++ tl) (lds ++ l2) (pre.length + k) o r
  | [], pre, acc, lds, S, ei, e', S', hp, hl, hput, hmk, hlb, _, _, hpw, hh, h => by
    unfold RunB at h
    obtain ⟨rfl, rfl⟩ := h
    refine ⟨[], [], ?_, fun j hj => by simp at hj, ?_, ?_, rfl, by simpa using hpw, by simpa using hmk, by simpa using hlb, fun k o r hk => by simp at hk⟩
    · simp [plan]
    · simp only [List.append_nil] at hp ⊢; rw [hp]; exact hput
    · simpa using hh
  | o :: os, pre, acc, lds, S, ei, e', S', hp, hl, hput, hmk, hlb, hN, hld, hpw, hh, h => by
    have ho : ops[pre.length]? = some o := by rw [hp]; simp
    have hsk : (ops.map (fun o => sk X o.op)).getD pre.length .pure = sk X o.op := by
      rw [List.getD_eq_getElem?_getD, List.getElem?_map, ho]; rfl
    obtain ⟨hk1, hk2⟩ := seqB1_at hK pre.length o ho
    simp only [Nat.zero_add] at hk1 hk2
    rw [hsk] at hk2
    have hlk := looks_seq hn hE hD hp hl hput hk1
    obtain ⟨re, hre, hag⟩ := renv_good (es := ei) hn hlk
    have hoe : OE re ei o.op := OE_of hag
    have hp' : ops = (pre ++ [o]) ++ os := by rw [hp]; simp
    -- what goes on behind
    have fin : ∀ (r : R) (ldn : List Nat) (S1 : St) (e1 : Env), setDst n ei o.dst r.v = some e1 → (∀ b, r.k = .mk b → sk X o.op = .alloc ∧ N0 ≤ r.n0 ∧ r.n0 < 1000000000) → (∀ h' m, r.k = .ld h' m → ∀ b ∈ B, h'.get b = h0.get b) → N0 ≤ S1.n → (ldn = [] ∨ ldn = [pre.length] ∧ isLC (sk X o.op) = true) →
        S1.h = gh (masks ops []) (lds ++ ldn) (fun _ => true) (acc ++ [r]) 0 (hOf (acc ++ [r]) h0 (lds ++ ldn)) →
        (r.k = .rd → ldn = [] ∧ sk X o.op = .read ∧ veq r.v r.v = true ∧ ((rdStat (masks ops []) (ops.map (fun o => sk X o.op)) pre.length = true ∧ readOp X ei S.h o.op = some r.v) ∨ FP X B h0 ei o.op r.v)) →
        RunB X rec n ops B h0 os (pre.length + 1) e1 S1 e' S' →
        plan X rec n ops (masks ops []) e (o :: os) pre.length acc lds (hOf acc h0 lds) S.n = plan X rec n ops (masks ops []) e os (pre.length + 1) (acc ++ [r]) (lds ++ ldn) (hOf (acc ++ [r]) h0 (lds ++ ldn)) S1.n →
        ∃ tl l2, plan X rec n ops (masks ops []) e (o :: os) pre.length acc lds (hOf acc h0 lds) S.n = some (acc ++ tl, lds ++ l2, S'.n) ∧
          (∀ j ∈ l2, pre.length ≤ j ∧ isLC ((ops.map (fun o => sk X o.op)).getD j .pure) = true) ∧ putAll n ops (acc ++ tl) e = some e' ∧
          S'.h = gh (masks ops []) (lds ++ l2) (fun _ => true) (acc ++ tl) 0 (hOf (acc ++ tl) h0 (lds ++ l2)) ∧ tl.length = (o :: os).length ∧ (lds ++ l2).Pairwise (· < ·) ∧ (∀ (k : Nat) (r : R) b, (acc ++ tl)[k]? = some r → r.k = .mk b → (ops.map (fun o => sk X o.op)).getD k .pure = .alloc ∧ N0 ≤ r.n0 ∧ r.n0 < 1000000000) ∧ (∀ (k : Nat) (r : R) h' m, (acc ++ tl)[k]? = some r → r.k = .ld h' m → ∀ b ∈ B, h'.get b = h0.get b) ∧
          ∀ (k : Nat) (o' : Oper) (r : R), (o :: os)[k]? = some o' → tl[k]? = some r → RFB X n ops B e h0 (acc ++ tl) (lds ++ l2) (pre.length + k) o' r := by
      intro r ldn S1 e1 hset hmk1 hlb1 hN1 hldn hh1 hrd hrun hplan
      obtain ⟨tl, l2, p1, p2, p3, p4, p5, ppw, pmk, plb, p6⟩ := plan_seqB hB hn hE hD hK os (pre ++ [o]) (acc ++ [r]) (lds ++ ldn) S1 e1 e' S' hp' (by simp [hl]) (putAll_snoc hput hset)
        (by
          intro k r' b hk hb
          by_cases hlt : k < acc.length
          · rw [List.getElem?_append_left hlt] at hk; exact hmk k r' b hk hb
          · have : k = acc.length := by
              have := (List.getElem?_eq_some_iff.1 hk).1
              simp at this; omega
            subst this
            simp at hk; subst hk
            rw [hl, hsk]; exact hmk1 b hb)
        (by
          intro k r' h' m hk hb
          by_cases hlt : k < acc.length
          · rw [List.getElem?_append_left hlt] at hk; exact hlb k r' h' m hk hb
          · have : k = acc.length := by
              have := (List.getElem?_eq_some_iff.1 hk).1
              simp at this; omega
            subst this
            simp at hk; subst hk
            exact hlb1 h' m hb)
        hN1
        (by
          intro j hj
          rw [List.mem_append] at hj
          rcases hj with hj | hj
          · have := hld j hj; exact ⟨by simp; omega, this.2⟩
          · rcases hldn with hq | ⟨hq, hq2⟩
            · rw [hq] at hj; simp at hj
            · rw [hq] at hj; simp at hj; subst hj; exact ⟨by simp, by rw [hsk]; exact hq2⟩)
        (by
          rw [List.pairwise_append]
          refine ⟨hpw, ?_, fun a ha b hb => ?_⟩
          · rcases hldn with hq | ⟨hq, _⟩ <;> rw [hq] <;> simp
          · rcases hldn with hq | ⟨hq, _⟩
            · rw [hq] at hb; simp at hb
            · rw [hq] at hb; simp at hb; subst hb; exact (hld a ha).1)
        hh1 (by rw [List.length_append, List.length_singleton]; exact hrun)
      rw [List.length_append, List.length_singleton] at p1
      refine ⟨r :: tl, ldn ++ l2, ?_, ?_, ?_, ?_, by simp [p5], by simpa using ppw, by simpa using pmk, by simpa using plb, ?_⟩
      · rw [hplan, p1]; simp
      · intro j hj
        rw [List.mem_append] at hj
        rcases hj with hj | hj
        · rcases hldn with hq | ⟨hq, hq2⟩
          · rw [hq] at hj; simp at hj
          · rw [hq] at hj; simp at hj; subst hj; exact ⟨Nat.le_refl _, by rw [hsk]; exact hq2⟩
        · have h1 := (p2 j hj).1; simp only [List.length_append, List.length_singleton] at h1; exact ⟨by omega, (p2 j hj).2⟩
      · rw [← p3]; simp
      · rw [p4]; simp
      · intro k o' r' hk hr'
        cases k with
        | zero =>
          simp at hk hr'; subst hk; subst hr'
          intro hrk
          obtain ⟨q1, q2, q4, q3⟩ := hrd hrk
          subst q1
          refine ⟨lds, l2, ei, by simp, fun j hj => by have := (hld j hj).1; simpa using this, fun j hj => by have := (p2 j hj).1; simp only [List.length_append, List.length_singleton] at this; omega, ?_, fun t ht => (hlk t ht).1, q2, q4, q3.imp (fun q => ⟨by simpa using q.1, ?_⟩) (fun q => q)⟩
          · intro t ht
            have : (acc ++ r :: tl).take (pre.length + 0) = acc := by rw [Nat.add_zero, ← hl]; simp
            rw [this]
            exact (hlk t ht).2
          · have : (acc ++ r :: tl).take (pre.length + 0) = acc := by rw [Nat.add_zero, ← hl]; simp
            rw [this, ← hh]; exact q.2
        | succ k =>
          have := p6 k o' r' (by simpa using hk) (by simpa using hr')
          simp only [List.length_append, List.length_singleton, List.append_assoc, List.singleton_append] at this
          rw [show pre.length + (k + 1) = pre.length + 1 + k by omega]
          exact this
    have hwc : wanted ops re o = wanted ops ei o := wanted_congr hag
    have hldlt : ∀ j ∈ lds, j < (acc).length := fun j hj => by rw [hl]; exact (hld j hj).1
    have hOfs : ∀ r : R, hOf (acc ++ [r]) h0 lds = hOf acc h0 lds := fun r => hOf_append hldlt
    have hgs : ∀ r : R, (∀ b, r.k ≠ .mk b) → gh (masks ops []) lds (fun _ => true) (acc ++ [r]) 0 (hOf (acc ++ [r]) h0 lds) = S.h := by
      intro r hr
      rw [hOfs, gh_snoc, ← hh]
      unfold ghStep
      split
      · rename_i b hb; exact absurd hb (hr b)
      · rfl
    have hgc : (∀ (k : Nat), k < pre.length → (ops.map (fun o => sk X o.op)).getD k .pure = .alloc → inM (masks ops []) pre.length k = true) → gh (masks ops []) lds (inM (masks ops []) pre.length) acc 0 (hOf acc h0 lds) = S.h := by
      intro hq
      rw [hh]
      apply gh_congr
      intro k r b h1 h2
      have hkl : k < pre.length := by have := (List.getElem?_eq_some_iff.1 h1).1; omega
      simp only [Nat.zero_add]
      exact hq k hkl (hmk k r b h1 h2).1
    have hgB : ∀ b ∈ B, (gh (masks ops []) lds (inM (masks ops []) pre.length) acc 0 (hOf acc h0 lds)).get b = h0.get b := by
      intro b hb
      rw [gh_miss (fun k r b' h1 h2 => (hmk k r b' h1 h2).2.2) (fun k r b' h1 h2 _ _ => by have := (hmk k r b' h1 h2).2.1; have := hB b hb; omega)]
      exact hOf_kept (fun k r h' m h1 h2 => hlb k r h' m h1 h2 b hb) rfl
    unfold RunB at h
    rcases h with ⟨hw, v, S1, e1, hop, he1, hb, hrdc, hlc, h⟩ | ⟨hw, e1, he1, h⟩
    case inr =>
      refine fin ⟨.tup [], S.n, .val⟩ [] S e1 he1 (fun b hb => by cases hb) (fun h' m hb => by cases hb) hN (.inl rfl) ?_ (fun hb => by cases hb) h ?_
      · rw [List.append_nil, hgs _ (fun b hb => by cases hb)]
      · conv => lhs; unfold plan
        rw [hre]; dsimp only; rw [hwc, hw]; simp only [cond_false, List.append_nil]
        rw [hOfs]
    case inl =>
      have hck := sk_ok hop
      have hclr : cls X re o.op = cls X ei o.op := cls_congr hoe
      have hN1 : N0 ≤ S1.n := Nat.le_trans hN (oper_n hop)
      have hloud : isLC (cls X ei o.op) = true →
        ∃ tl l2, plan X rec n ops (masks ops []) e (o :: os) pre.length acc lds (hOf acc h0 lds) S.n = some (acc ++ tl, lds ++ l2, S'.n) ∧
          (∀ j ∈ l2, pre.length ≤ j ∧ isLC ((ops.map (fun o => sk X o.op)).getD j .pure) = true) ∧ putAll n ops (acc ++ tl) e = some e' ∧
          S'.h = gh (masks ops []) (lds ++ l2) (fun _ => true) (acc ++ tl) 0 (hOf (acc ++ tl) h0 (lds ++ l2)) ∧ tl.length = (o :: os).length ∧ (lds ++ l2).Pairwise (· < ·) ∧ (∀ (k : Nat) (r : R) b, (acc ++ tl)[k]? = some r → r.k = .mk b → (ops.map (fun o => sk X o.op)).getD k .pure = .alloc ∧ N0 ≤ r.n0 ∧ r.n0 < 1000000000) ∧ (∀ (k : Nat) (r : R) h' m, (acc ++ tl)[k]? = some r → r.k = .ld h' m → ∀ b ∈ B, h'.get b = h0.get b) ∧
          ∀ (k : Nat) (o' : Oper) (r : R), (o :: os)[k]? = some o' → tl[k]? = some r → RFB X n ops B e h0 (acc ++ tl) (lds ++ l2) (pre.length + k) o' r := by
        intro hlc0
        have hs : cls X ei o.op = sk X o.op := by
          rcases hck with hq | hq
          · rw [hq] at hlc0; cases hlc0
          · exact hq
        have hlc1 := hlc hlc0
        rw [hs] at hlc0
        have hbef : bef (masks ops []) (ops.map (fun o => sk X o.op)) pre.length isAll = true := hk2 hlc0
        have hg := hgc (fun k hk hq => bef_at hbef hk (by rw [hq]; rfl))
        have hall : lds.all (fun j => inM (masks ops []) pre.length j) = true := by
          apply List.all_eq_true.2
          intro j hj
          obtain ⟨q1, q2⟩ := hld j hj
          exact bef_at hbef q1 (by cases hq : (ops.map (fun o => sk X o.op)).getD j .pure <;> rw [hq] at q2 <;> first | rfl | cases q2)
        have hop' : oper X rec re { h := gh (masks ops []) lds (inM (masks ops []) pre.length) acc 0 (hOf acc h0 lds), n := S.n } o.op = some (v, S1) := by
          rw [hg, oper_congr hoe]; exact hop
        refine fin ⟨v, S.n, .ld S1.h S1.n⟩ [pre.length] S1 e1 he1 (fun b hb => by cases hb) (fun h' m hb => by cases hb; exact hlc1) hN1 (.inr ⟨rfl, hlc0⟩) ?_ (fun hb => by cases hb) h ?_
        · rw [gh_snoc]
          have : hOf (acc ++ [(⟨v, S.n, .ld S1.h S1.n⟩ : R)]) h0 (lds ++ [pre.length]) = S1.h := hOf_snoc (r := ⟨v, S.n, .ld S1.h S1.n⟩) (m := S1.n) (by rw [← hl]; simp) rfl
          rw [this, gh_had (fun q r b h1 h2 => by
            have hkl : q < pre.length := by have := (List.getElem?_eq_some_iff.1 h1).1; omega
            rw [Nat.zero_add]
            exact bef_at hbef hkl (by rw [(hmk q r b h1 h2).1]; rfl))]
          rfl
        · conv => lhs; unfold plan
          rw [hre]; dsimp only; rw [hwc, hw]; simp only [cond_true]
          have : hOf (acc ++ [(⟨v, S.n, .ld S1.h S1.n⟩ : R)]) h0 (lds ++ [pre.length]) = S1.h := hOf_snoc (r := ⟨v, S.n, .ld S1.h S1.n⟩) (m := S1.n) (by rw [← hl]; simp) rfl
          rw [hclr, hs]
          cases hskc : sk X o.op with
          | loud => dsimp only; rw [hall]; simp only [cond_true]; rw [hop']; dsimp only; rw [this]
          | call => dsimp only; rw [hall]; simp only [cond_true]; rw [hop']; dsimp only; rw [this]
          | _ => rw [hskc] at hlc0; cases hlc0
      cases hc : cls X ei o.op with
      | loud => exact hloud (by rw [hc]; rfl)
      | call => exact hloud (by rw [hc]; rfl)
      | pure =>
        unfold oper at hop
        rw [hc] at hop
        dsimp only at hop
        split at hop
        · cases hop
        · rename_i v' hv
          cases hop
          refine fin ⟨v, S.n, .val⟩ [] S e1 he1 (fun b hb => by cases hb) (fun h' m hb => by cases hb) hN (.inl rfl) ?_ (fun hb => by cases hb) h ?_
          · rw [List.append_nil, hgs _ (fun b hb => by cases hb)]
          · conv => lhs; unfold plan
            rw [hre]; dsimp only; rw [hwc, hw]; simp only [cond_true, List.append_nil]
            rw [hclr, hc]; dsimp only; rw [pureOp_congr hoe, hv]; dsimp only; rw [hOfs]
      | read =>
        have hs : sk X o.op = .read := by
          rcases hck with hq | hq
          · rw [hq] at hc; cases hc
          · rw [← hq]; exact hc
        have hrdc' := hrdc hc
        unfold oper at hop
        rw [hc] at hop
        dsimp only at hop
        split at hop
        · cases hop
        · rename_i v' hv
          cases hop
          rw [hc] at hb
          have hrd2 : readOp X ei (gh (masks ops []) lds (inM (masks ops []) pre.length) acc 0 (hOf acc h0 lds)) o.op = some v := by
            rcases hrdc' with hst | hfp
            · have hst' := hst
              unfold rdStat at hst'
              rw [Bool.and_eq_true] at hst'
              rw [hgc (fun k hk hq => bef_at hst'.1 hk (by rw [hq]; rfl))]; exact hv
            · exact hfp _ hgB
          refine fin ⟨v, S.n, .rd⟩ [] S e1 he1 (fun b hb => by cases hb) (fun h' m hb => by cases hb) hN (.inl rfl) ?_ (fun _ => ⟨rfl, hs, hb, hrdc'.imp (fun q => ⟨q, hv⟩) (fun q => q)⟩) h ?_
          · rw [List.append_nil, hgs _ (fun b hb => by cases hb)]
          · conv => lhs; unfold plan
            rw [hre]; dsimp only; rw [hwc, hw]; simp only [cond_true, List.append_nil]
            rw [hclr, hc]; dsimp only; rw [readOp_congr hoe, hrd2]; dsimp only; rw [hOfs]
      | alloc =>
        have hs : sk X o.op = .alloc := by
          rcases hck with hq | hq
          · rw [hq] at hc; cases hc
          · rw [← hq]; exact hc
        unfold oper at hop
        rw [hc] at hop
        dsimp only at hop
        cases hlt : Nat.blt S.n 1000000000 with
        | false => rw [hlt] at hop; cases hop
        | true =>
          rw [hlt] at hop
          simp only [cond_true] at hop
          have hlt2 : S.n < 1000000000 := by rw [nblt, decide_eq_true_eq] at hlt; exact hlt
          split at hop
          · cases hop
          · rename_i b' v' hv
            cases hop
            refine fin ⟨v, S.n, .mk b'⟩ [] (S.new b') e1 he1 (fun _ _ => ⟨hs, hN, hlt2⟩) (fun h' m hb => by cases hb) hN1 (.inl rfl) ?_ (fun hb => by cases hb) h ?_
            · rw [List.append_nil, hOfs, gh_snoc, ← hh]
              unfold ghStep
              dsimp only
              have : lds.all (fun j => !inM (masks ops []) j (0 + acc.length)) = true := by
                apply List.all_eq_true.2
                intro j hj
                have h1 := (hld j hj).1
                cases hq : inM (masks ops []) j (0 + acc.length) with
                | false => rfl
                | true => have := inM_lt hE _ _ hq; omega
              rw [this]
              rfl
            · conv => lhs; unfold plan
              rw [hre]; dsimp only; rw [hwc, hw]; simp only [cond_true, List.append_nil]
              rw [hclr, hc]; dsimp only; rw [hlt]; simp only [cond_true]; rw [allocOp_congr hoe, hv]; dsimp only; rw [hOfs]
              rfl
/-- WHERE THE EDGES SAY ENOUGH but for reads that loud operations leave alone, a region that draws its order gives what the text's order gives. -/
theorem drawn_B {B : List Nat} {S : St} {e' : Env} {S' : St} (hB : ∀ b ∈ B, b < S.n) (hs : seqB X n ops = true) (h : RunB X rec n ops B S.h ops 0 e S e' S') : drawn X rec n ops e S = .ok .nor e' S' := by
  unfold seqB at hs
  simp only [Bool.and_eq_true, nblt, decide_eq_true_eq] at hs
  obtain ⟨⟨⟨⟨hE, hD⟩, hN⟩, hn⟩, hK⟩ := hs
  have hle := RunB_n h
  obtain ⟨tl, l2, p1, p2, p3, p4, p5, ppw, pmk, plb, p6⟩ := plan_seqB (h0 := S.h) (e := e) (B := B) (N0 := S.n) hB hn hE hD hK ops [] [] [] S e e' S' (by simp) rfl (by simp [putAll]) (fun k r b hk => by simp at hk) (fun k r h' m hk => by simp at hk) (Nat.le_refl _) (fun j hj => by simp at hj) List.Pairwise.nil (by simp [gh, hOf]) h
  simp only [List.nil_append, List.length_nil, hOf, Nat.zero_add] at p1 p2 p3 p4 p6 ppw pmk plb
  unfold drawn
  dsimp only
  rw [hE, hD, hN]
  simp only [Bool.and_self, cond_true]
  rw [p1]
  dsimp only
  have hrd : rdsOk X n ops (masks ops []) tl e S.h l2 ops 0 = true := by
    apply rdsOk_of
    intro i o ho
    have hi : i < ops.length := (List.getElem?_eq_some_iff.1 ho).1
    have hr : tl[i]? = some (tl[i]'(by omega)) := List.getElem?_eq_getElem _
    rw [Nat.zero_add]
    refine ⟨_, hr, fun hk => ?_⟩
    obtain ⟨l1, l3, ei, q1, q2, q3, q4, q5, q6, q8, q9⟩ := p6 i o _ ho hr hk
    have hlt : ∀ j, inM (masks ops []) i j = true → j < (tl.take i).length := fun j hj => by
      have := inM_lt hE _ _ hj
      simp; omega
    have htl : tl = tl.take i ++ tl.drop i := (List.take_append_drop i tl).symm
    obtain ⟨re, r1, r2⟩ := renv_good (ms := masks ops []) (ops := ops) (acc := tl) (e := e) (es := ei) (n := n) (i := i) hn (ts := looks ops o) (fun t ht => ⟨q5 t ht, by
      rw [htl, lookT_append hlt]; exact q4 t ht⟩)
    refine ⟨re, r1, rdOk_of fun a b hab => ?_⟩
    have hoe : OE re ei o.op := OE_of r2
    have hski : (ops.map (fun o => sk X o.op)).getD i .pure = sk X o.op := by
      rw [List.getD_eq_getElem?_getD, List.getElem?_map, ho]; rfl
    rw [List.nil_append]
    unfold rdOk.rd1
    cases hc : (a.all (fun j => !inM (masks ops []) j i) && l2.all (fun j => !inM (masks ops []) i j || a.contains j)) with
    | false => rfl
    | true =>
      simp only [cond_true]
      simp only [Bool.and_eq_true] at hc
      obtain ⟨c1, c2⟩ := hc
      rcases q9 with ⟨hst, q7⟩ | hfp
      case inr =>
        have hg : ∀ b ∈ B, (gh (masks ops []) a (inM (masks ops []) i) tl 0 (hOf tl S.h a)).get b = S.h.get b := by
          intro b hb
          rw [gh_miss (fun k r b' h1 h2 => (pmk k r b' h1 h2).2.2) (fun k r b' h1 h2 _ _ => by have := (pmk k r b' h1 h2).2.1; have := hB b hb; omega)]
          exact hOf_kept (fun k r h' m h1 h2 => plb k r h' m h1 h2 b hb) rfl
        rw [readOp_congr hoe, hfp _ hg]
        exact q8
      unfold rdStat at hst
      rw [Bool.and_eq_true] at hst
      obtain ⟨hk2, hk3⟩ := hst
      have hal : a = l1 := by
        have hpre : a ++ b = l1 ++ l3 := by rw [← hab, q1]
        have hin1 : ∀ j ∈ l1, j ∈ a := by
          intro j hj
          have hj2 : j ∈ l2 := by rw [q1]; exact List.mem_append_left _ hj
          have h1 := List.all_eq_true.1 c2 j hj2
          have h2 : inM (masks ops []) i j = true := by
            apply bef_at hk2 (q2 j hj)
            have := (p2 j hj2).2
            cases hq : (ops.map (fun o => sk X o.op)).getD j .pure <;> rw [hq] at this <;> first | rfl | cases this
          rw [h2] at h1
          simpa using h1
        have hin3 : ∀ j ∈ l3, j ∉ a := by
          intro j hj hja
          have hj2 : j ∈ l2 := by rw [q1]; exact List.mem_append_right _ hj
          have h1 := List.all_eq_true.1 c1 j hja
          have hjl : j < ops.length := by
            have := (p2 j hj2).2
            rw [List.getD_eq_getElem?_getD] at this
            by_cases hlt : j < ops.length
            · exact hlt
            · rw [List.getElem?_eq_none (by simpa using hlt)] at this; cases this
          have hl := (p2 j hj2).2
          have h3 := List.all_eq_true.1 hk3 j (by simpa using hjl)
          rw [hl, nble, decide_eq_false (by have := q3 j hj; omega)] at h3
          have : inM (masks ops []) j i = true := by simpa using h3
          rw [this] at h1
          cases h1
        rcases List.append_eq_append_iff.1 hpre with ⟨m, hm1, hm2⟩ | ⟨m, hm1, hm2⟩
        · -- l1 = a ++ m
          cases m with
          | nil => simpa using hm1.symm
          | cons y m =>
            exfalso
            have hy : y ∈ a := hin1 y (by rw [hm1]; simp)
            rw [q1, hm1, List.append_assoc, List.pairwise_append] at ppw
            have := ppw.2.2 y hy y (by simp)
            omega
        · cases m with
          | nil => simpa using hm1
          | cons y m =>
            exfalso
            exact hin3 y (by rw [hm2]; simp) (by rw [hm1]; simp)
      subst hal
      have hh : gh (masks ops []) a (inM (masks ops []) i) tl 0 (hOf tl S.h a) = gh (masks ops []) a (fun _ => true) (tl.take i) 0 (hOf (tl.take i) S.h a) := by
        conv => lhs; rw [htl]
        rw [gh_append (fun q hq => by
          cases hm : inM (masks ops []) i q with
          | false => rfl
          | true => have := hlt q hm; omega)]
        rw [hOf_append (fun j hj => by have := q2 j hj; simp; omega)]
        apply gh_congr
        intro k r b h1 h2
        rw [Nat.zero_add]
        have hki : k < i := by have := (List.getElem?_eq_some_iff.1 h1).1; simp at this; omega
        apply bef_at hk2 hki
        have : (ops.map (fun o => sk X o.op)).getD k .pure = .alloc := by
          have hkr : tl[k]? = some r := by rw [htl, List.getElem?_append_left (List.getElem?_eq_some_iff.1 h1).1]; exact h1
          exact (pmk k r b hkr h2).1
        rw [this]; rfl
      rw [hh, readOp_congr hoe, q7]
      exact q8
  rw [hrd]
  simp only [cond_true]
  rw [p3]
  dsimp only
  rw [nble, decide_eq_true hle]
  simp only [cond_true]
  rw [← p4]
end
end GX
/- GX: reasoning about runs: regions that draw their order, where a read may come ahead of or behind a loud operation that leaves alone what it reads. -/


namespace GX
noncomputable section
open Go
def WD (X : X) (n : Nat) (all : List Oper) (B : List Nat) (h0 : Tr AB) (os : List Oper) (i : Nat) (ks : List Kt) (Q : Ex → Env → St → Prop) (l : L) (S : St) : Prop :=
  ∀ e, Ag l e → ∃ f e' S', RunB X (exec X f) n all B h0 os i e S e' S' ∧ QK X n ks Q .nor e' S'
section
variable {X : X} {n : Nat} {ks : List Kt} {Q : Ex → Env → St → Prop} {l : L} {S : St} {B : List Nat} {h0 : Tr AB} {all os : List Oper} {o : Oper} {i : Nat}
theorem W_drawnB (B : List Nat) {id : Nat} {ops : Array Oper} (hB : ∀ b ∈ B, b < S.n) (hs : seqB X n ops.toList = true) (h : WD X n ops.toList B S.h ops.toList 0 ks Q l S) : W X n (.region id ops true) ks Q l S := by
  unfold W
  intro e he
  obtain ⟨f, e1, S1, h1, h2⟩ := h e he
  exact ⟨f + 1, .nor, e1, S1, by show step X (exec X f) n (.region id ops true) e S = _; unfold step; exact drawn_B hB hs h1, h2⟩
theorem WD_nil (h : V X n .nor ks Q l S) : WD X n all B h0 [] i ks Q l S := by
  unfold V at h
  exact fun e he => ⟨0, e, S, ⟨rfl, rfl⟩, h e he⟩
/-- a step -/
theorem WD_go {d : Nat} {C : AV → St → Prop} (hg : o.guard = none) (hd : o.dst = some d) (hn : Nat.blt d n = true) (hn' : Nat.blt n 1000001 = true)
    (h : Ev X l S o.op fun v S' => C v S' ∧ WD X n all B h0 os (i + 1) ks Q ((d, v) :: l) S')
    (hr : ∀ e v S', Ag l e → C v S' → cls X e o.op = .read → rdStat (masks all []) (all.map (fun o => sk X o.op)) i = true ∨ FP X B h0 e o.op v)
    (hlc : ∀ (rec : Rec) e v S', Ag l e → oper X rec e S o.op = some (v, S') → C v S' → isLC (cls X e o.op) = true → ∀ b ∈ B, S'.h.get b = h0.get b) : WD X n all B h0 (o :: os) i ks Q l S := by
  intro e he
  unfold Ev at h
  obtain ⟨f, v, S1, h1, h2, hC, h3⟩ := h e he
  rw [nblt, decide_eq_true_eq] at hn hn'
  obtain ⟨g, e2, S2, h4, h5⟩ := h3 _ (he.put hn' hn)
  refine ⟨max f g, e2, S2, .inl ⟨wanted_none hg, v, S1, e.put d v, oper_le (exec_le (Nat.le_max_left f g)) h1, ?_, h2, fun hc => hr e v S1 he hC hc, fun hc => hlc _ e v S1 he h1 hC hc, RunB_le (exec_le (Nat.le_max_right f g)) h4⟩, h5⟩
  rw [hd]; unfold setDst; dsimp only; rw [nblt, decide_eq_true hn]; rfl
def isPA : Cls → Bool | .pure => true | .alloc => true | _ => false
theorem WD_pa {d : Nat} (hg : o.guard = none) (hd : o.dst = some d) (hn : Nat.blt d n = true) (hn' : Nat.blt n 1000001 = true) (hsk : isPA (sk X o.op) = true)
    (h : Ev X l S o.op fun v S' => WD X n all B h0 os (i + 1) ks Q ((d, v) :: l) S') : WD X n all B h0 (o :: os) i ks Q l S := by
  intro e he
  unfold Ev at h
  obtain ⟨f, v, S1, h1, h2, h3⟩ := h e he
  rw [nblt, decide_eq_true_eq] at hn hn'
  obtain ⟨g, e2, S2, h4, h5⟩ := h3 _ (he.put hn' hn)
  have hck := sk_ok h1
  refine ⟨max f g, e2, S2, .inl ⟨wanted_none hg, v, S1, e.put d v, oper_le (exec_le (Nat.le_max_left f g)) h1, ?_, h2, fun hc => ?_, fun hc => ?_, RunB_le (exec_le (Nat.le_max_right f g)) h4⟩, h5⟩
  · rw [hd]; unfold setDst; dsimp only; rw [nblt, decide_eq_true hn]; rfl
  · rcases hck with hq | hq
    · rw [hq] at hc; cases hc
    · rw [hq] at hc; rw [hc] at hsk; cases hsk
  · rcases hck with hq | hq
    · rw [hq] at hc; cases hc
    · rw [hq] at hc
      exfalso
      cases hs : sk X o.op <;> rw [hs] at hc hsk <;> first | (cases hc; done) | (cases hsk; done)
/-- a read that is ordered with all loud operations -/
theorem WD_rs {d : Nat} (hg : o.guard = none) (hd : o.dst = some d) (hn : Nat.blt d n = true) (hn' : Nat.blt n 1000001 = true) (hsk : isLC (sk X o.op) = false) (hst : rdStat (masks all []) (all.map (fun o => sk X o.op)) i = true)
    (h : Ev X l S o.op fun v S' => WD X n all B h0 os (i + 1) ks Q ((d, v) :: l) S') : WD X n all B h0 (o :: os) i ks Q l S := by
  intro e he
  unfold Ev at h
  obtain ⟨f, v, S1, h1, h2, h3⟩ := h e he
  rw [nblt, decide_eq_true_eq] at hn hn'
  obtain ⟨g, e2, S2, h4, h5⟩ := h3 _ (he.put hn' hn)
  have hck := sk_ok h1
  refine ⟨max f g, e2, S2, .inl ⟨wanted_none hg, v, S1, e.put d v, oper_le (exec_le (Nat.le_max_left f g)) h1, ?_, h2, fun _ => .inl hst, fun hc => ?_, RunB_le (exec_le (Nat.le_max_right f g)) h4⟩, h5⟩
  · rw [hd]; unfold setDst; dsimp only; rw [nblt, decide_eq_true hn]; rfl
  · rcases hck with hq | hq
    · rw [hq] at hc; cases hc
    · rw [hq, hsk] at hc; cases hc
/-- a read that looks at the blocks 'B' alone -/
theorem WD_rf {d : Nat} {v : AV} (hg : o.guard = none) (hd : o.dst = some d) (hn : Nat.blt d n = true) (hn' : Nat.blt n 1000001 = true) (hS : ∀ b ∈ B, S.h.get b = h0.get b)
    (hfp : ∀ e, Ag l e → cls X e o.op = .read ∧ FP X B h0 e o.op v) (hvv : veq v v = true) (h : WD X n all B h0 os (i + 1) ks Q ((d, v) :: l) S) : WD X n all B h0 (o :: os) i ks Q l S := by
  intro e he
  obtain ⟨hc, hf⟩ := hfp e he
  rw [nblt, decide_eq_true_eq] at hn hn'
  obtain ⟨g, e2, S2, h4, h5⟩ := h _ (he.put hn' hn)
  refine ⟨g, e2, S2, .inl ⟨wanted_none hg, v, S, e.put d v, ?_, ?_, by rw [hc]; exact hvv, fun _ => .inr hf, fun hl => (by rw [hc] at hl; cases hl), h4⟩, h5⟩
  · unfold oper; rw [hc]; dsimp only; rw [hf S.h hS]
  · rw [hd]; unfold setDst; dsimp only; rw [nblt, decide_eq_true hn]; rfl
/-- a loud operation, or a call, that leaves 'B' alone -/
theorem WD_ld {d : Nat} (hg : o.guard = none) (hd : o.dst = some d) (hn : Nat.blt d n = true) (hn' : Nat.blt n 1000001 = true) (hsk : isLC (sk X o.op) = true)
    (h : Ev X l S o.op fun v S' => (∀ b ∈ B, S'.h.get b = h0.get b) ∧ WD X n all B h0 os (i + 1) ks Q ((d, v) :: l) S') : WD X n all B h0 (o :: os) i ks Q l S := by
  intro e he
  unfold Ev at h
  obtain ⟨f, v, S1, h1, h2, hB, h3⟩ := h e he
  rw [nblt, decide_eq_true_eq] at hn hn'
  obtain ⟨g, e2, S2, h4, h5⟩ := h3 _ (he.put hn' hn)
  have hck := sk_ok h1
  refine ⟨max f g, e2, S2, .inl ⟨wanted_none hg, v, S1, e.put d v, oper_le (exec_le (Nat.le_max_left f g)) h1, ?_, h2, fun hc => ?_, fun _ => hB, RunB_le (exec_le (Nat.le_max_right f g)) h4⟩, h5⟩
  · rw [hd]; unfold setDst; dsimp only; rw [nblt, decide_eq_true hn]; rfl
  · rcases hck with hq | hq
    · rw [hq] at hc; cases hc
    · rw [hq] at hc; rw [hc] at hsk; cases hsk
theorem WD_ld0 (hg : o.guard = none) (hd : o.dst = none) (hsk : isLC (sk X o.op) = true)
    (h : Ev X l S o.op fun _ S' => (∀ b ∈ B, S'.h.get b = h0.get b) ∧ WD X n all B h0 os (i + 1) ks Q l S') : WD X n all B h0 (o :: os) i ks Q l S := by
  intro e he
  unfold Ev at h
  obtain ⟨f, v, S1, h1, h2, hB, h3⟩ := h e he
  obtain ⟨g, e2, S2, h4, h5⟩ := h3 _ he
  have hck := sk_ok h1
  refine ⟨max f g, e2, S2, .inl ⟨wanted_none hg, v, S1, e, oper_le (exec_le (Nat.le_max_left f g)) h1, ?_, h2, fun hc => ?_, fun _ => hB, RunB_le (exec_le (Nat.le_max_right f g)) h4⟩, h5⟩
  · rw [hd]; rfl
  · rcases hck with hq | hq
    · rw [hq] at hc; cases hc
    · rw [hq] at hc; rw [hc] at hsk; cases hsk
theorem WD_guard {j d0 : Nat} {want : Bool} {p : Oper} {c : Bool} {d : Nat} (hg : o.guard = some (j, want)) (hp : all[j]? = some p) (hd0 : p.dst = some d0) (hl : lk l d0 = some (.bool c)) (hd : o.dst = some d) (hn : Nat.blt d n = true) (hn' : Nat.blt n 1000001 = true)
    (h1 : c = want → WD X n all B h0 ({ o with guard := none } :: os) i ks Q ((d0, .bool want) :: l) S) (h2 : c = (!want) → WD X n all B h0 os (i + 1) ks Q ((d, .tup []) :: (d0, .bool (!want)) :: l) S) : WD X n all B h0 (o :: os) i ks Q l S := by
  intro e he
  rw [nblt, decide_eq_true_eq] at hn hn'
  have hat : e.at d0 = .bool c := he d0 _ hl
  have hag : ∀ b, c = b → Ag ((d0, .bool b) :: l) e := by
    intro b hb t v ht
    unfold lk at ht
    rw [nbeq, cond_dec] at ht
    by_cases hh : d0 = t
    · subst hh; rw [if_pos rfl] at ht; cases ht; rw [hat, hb]
    · rw [if_neg hh] at ht; exact he t v ht
  have hw : wanted all e o = (c == want) := by unfold wanted; rw [hg]; dsimp only; rw [hp]; dsimp only; rw [hd0]; dsimp only; rw [hat]
  by_cases hc : c = want
  · obtain ⟨f, e2, S2, h3, h4⟩ := h1 hc e (hag want hc)
    refine ⟨f, e2, S2, ?_, h4⟩
    have hw' : wanted all e o = true := by rw [hw, hc]; cases want <;> rfl
    unfold RunB at h3 ⊢
    rcases h3 with ⟨_, h3⟩ | ⟨h3, _⟩
    · exact .inl ⟨hw', h3⟩
    · rw [wanted_none rfl] at h3; cases h3
  · have hc' : c = (!want) := by cases c <;> cases want <;> simp_all
    obtain ⟨f, e2, S2, h3, h4⟩ := h2 hc' _ ((hag _ hc').put hn' hn)
    refine ⟨f, e2, S2, ?_, h4⟩
    have hw' : wanted all e o = false := by rw [hw, hc']; cases want <;> rfl
    refine .inr ⟨hw', e.put d (.tup []), ?_, h3⟩
    rw [hd]; unfold setDst; dsimp only; rw [nblt, decide_eq_true hn]; rfl
theorem WD_guard_dt {j d0 : Nat} {q : Oper} {p : Prop} [Decidable p] {d : Nat} (hg : o.guard = some (j, true)) (hp : all[j]? = some q) (hd0 : q.dst = some d0) (hl : lk l d0 = some (.bool (decide p))) (hd : o.dst = some d) (hn : Nat.blt d n = true) (hn' : Nat.blt n 1000001 = true)
    (h1 : p → WD X n all B h0 ({ o with guard := none } :: os) i ks Q ((d0, .bool true) :: l) S) (h2 : ¬ p → WD X n all B h0 os (i + 1) ks Q ((d, .tup []) :: (d0, .bool false) :: l) S) : WD X n all B h0 (o :: os) i ks Q l S :=
  WD_guard hg hp hd0 hl hd hn hn' (fun h => h1 (of_decide_eq_true h)) (fun h => h2 (of_decide_eq_false h))
theorem WD_guard_df {j d0 : Nat} {q : Oper} {p : Prop} [Decidable p] {d : Nat} (hg : o.guard = some (j, false)) (hp : all[j]? = some q) (hd0 : q.dst = some d0) (hl : lk l d0 = some (.bool (decide p))) (hd : o.dst = some d) (hn : Nat.blt d n = true) (hn' : Nat.blt n 1000001 = true)
    (h1 : ¬ p → WD X n all B h0 ({ o with guard := none } :: os) i ks Q ((d0, .bool false) :: l) S) (h2 : p → WD X n all B h0 os (i + 1) ks Q ((d, .tup []) :: (d0, .bool true) :: l) S) : WD X n all B h0 (o :: os) i ks Q l S :=
  WD_guard hg hp hd0 hl hd hn hn' (fun h => h1 (of_decide_eq_false h)) (fun h => h2 (of_decide_eq_true h))
theorem WD_guard_t {j d0 : Nat} {want : Bool} {p : Oper} {d : Nat} (hg : o.guard = some (j, want)) (hp : all[j]? = some p) (hd0 : p.dst = some d0) (hl : lk l d0 = some (.bool want)) (hd : o.dst = some d) (hn : Nat.blt d n = true) (hn' : Nat.blt n 1000001 = true)
    (h1 : WD X n all B h0 ({ o with guard := none } :: os) i ks Q l S) : WD X n all B h0 (o :: os) i ks Q l S := by
  refine WD_guard hg hp hd0 hl hd hn hn' (fun _ => ?_) (fun h => ?_)
  · intro e he
    exact h1 e (fun t v ht => he t v (by
      unfold lk; rw [nbeq, cond_dec]
      by_cases hh : d0 = t
      · subst hh; rw [hl] at ht; cases ht; rw [if_pos rfl]
      · rw [if_neg hh]; exact ht))
  · cases want <;> cases h
theorem WD_skip {d : Nat} (hd : o.dst = some d) (hn : Nat.blt d n = true) (hn' : Nat.blt n 1000001 = true) (hw : ∀ e, Ag l e → wanted all e o = false) (h2 : WD X n all B h0 os (i + 1) ks Q ((d, .tup []) :: l) S) : WD X n all B h0 (o :: os) i ks Q l S := by
  intro e he
  rw [nblt, decide_eq_true_eq] at hn hn'
  obtain ⟨f, e2, S2, h3, h4⟩ := h2 _ (he.put hn' hn)
  refine ⟨f, e2, S2, .inr ⟨hw e he, e.put d (.tup []), ?_, h3⟩, h4⟩
  rw [hd]; unfold setDst; dsimp only; rw [nblt, decide_eq_true hn]; rfl
theorem WD_guard_f {j d0 : Nat} {want c : Bool} {p : Oper} {d : Nat} (hg : o.guard = some (j, want)) (hp : all[j]? = some p) (hd0 : p.dst = some d0) (hl : lk l d0 = some (.bool c)) (hc : (c == want) = false) (hd : o.dst = some d) (hn : Nat.blt d n = true) (hn' : Nat.blt n 1000001 = true)
    (h2 : WD X n all B h0 os (i + 1) ks Q ((d, .tup []) :: l) S) : WD X n all B h0 (o :: os) i ks Q l S :=
  WD_skip hd hn hn' (fun e he => by unfold wanted; rw [hg]; dsimp only; rw [hp]; dsimp only; rw [hd0]; dsimp only; rw [he d0 _ hl]; exact hc) h2
theorem WD_guard_x {j d0 : Nat} {want : Bool} {p : Oper} {d : Nat} (hg : o.guard = some (j, want)) (hp : all[j]? = some p) (hd0 : p.dst = some d0) (hl : lk l d0 = some (.tup [])) (hd : o.dst = some d) (hn : Nat.blt d n = true) (hn' : Nat.blt n 1000001 = true)
    (h2 : WD X n all B h0 os (i + 1) ks Q ((d, .tup []) :: l) S) : WD X n all B h0 (o :: os) i ks Q l S :=
  WD_skip hd hn hn' (fun e he => by unfold wanted; rw [hg]; dsimp only; rw [hp]; dsimp only; rw [hd0]; dsimp only; rw [he d0 _ hl]) h2
/-! footprints -/
theorem load_eq {e : Env} {H : Tr AB} {t : Nat} {x : Operand} {p : AV} {o : Nat} {i : TI} {cs : List AV} {v : AV} {m : Nat} (hx : opd e x = some p) (hi : X.ti t = some i) (hag : aggD i.desc = false) (hp : Pt { h := H, n := m } p cs o) (hv : cs[o]? = some v) : readOp X e H (.load t x) = some v := by
  have hlt := (List.getElem?_eq_some_iff.1 hv).1
  unfold readOp; dsimp only; rw [hx]
  rcases hp with ⟨b, o0, ty, cs0, sp, rfl, h2, h3, h4⟩ | rfl
  · dsimp only; unfold loadAt; rw [hi]; dsimp only
    split
    · rename_i h; rw [h] at hag; cases hag
    · rename_i h; rw [h] at hag; cases hag
    · rw [h2]; dsimp only; rw [h4 o hlt]; exact hv
  · dsimp only; unfold loadR; rw [hi]; dsimp only
    split
    · rename_i h; rw [h] at hag; cases hag
    · rename_i h; rw [h] at hag; cases hag
    · exact hv
theorem FP_load {t : Nat} {x : Operand} {p : AV} {o : Nat} {i : TI} {cs : List AV} {v : AV} (hx : od l x = some p) (hi : X.ti t = some i) (hag : aggD i.desc = false) (hS : ∀ b ∈ B, S.h.get b = h0.get b) (hb : ∀ b, blkOf p = some b → b ∈ B) (hp : Pt S p cs o) (hv : cs[o]? = some v) :
    ∀ e, Ag l e → cls X e (.load t x) = .read ∧ FP X B h0 e (.load t x) v := fun _ he =>
  ⟨rfl, fun H hH => load_eq (m := S.n) (od_ok he hx) hi hag (hp.keep fun b h => by show H.get b = _; rw [hH b (hb b h), hS b (hb b h)]) hv⟩
theorem conv_eq {e : Env} {H : Tr AB} {x : Operand} {s d el m m' : Nat} {si di ei : TI} {v : AV} {cs : List AV} {z : List Nat} (hx : opd e x = some v) (hs : X.ti s = some si) (hd : X.ti d = some di) (hdd : di.desc = .string) (hsd : si.desc = .slice el) (he' : X.ti el = some ei) (hk : ei.desc = .int .u8) (hrd : Rd { h := H, n := m' } v 1 cs m) (hz : bytesOf cs = some z) : readOp X e H (.convert s d x) = some (.str z) := by
  unfold readOp; dsimp only; rw [hx]; dsimp only; rw [hd]; dsimp only; rw [hs]; dsimp only; rw [hdd]; dsimp only; rw [hsd]; dsimp only; rw [he']; dsimp only; rw [hk]
  have h2 := hrd.cells
  have h3 := hrd.len
  have h4 := hrd.size
  cases v with
  | slice b o n k =>
    cases h3
    unfold srcCells at h2; dsimp only at h2 ⊢
    rw [Nat.mul_one] at h2; rw [h2]; dsimp only; rw [hz]
  | rsl cs0 n z0 =>
    cases h3
    have hz0 : z0 = 1 ∧ cs0.length = m * z0 := by have := hrd.cap; simpa [capW] using this
    obtain ⟨hz0, hl0⟩ := hz0
    subst hz0
    unfold srcCells at h2; dsimp only at h2 ⊢
    rw [nbeq, nble, ← Bool.decide_and, cond_dec] at h2
    split at h2
    · cases h2
      rw [List.take_of_length_le (by omega)] at hz
      rw [show Nat.beq 1 1 = true from rfl]
      simp only [cond_true]
      rw [hz]
    · cases h2
  | nils => cases h3; cases List.eq_nil_of_length_eq_zero (by omega : cs.length = 0); cases hz; rfl
  | emp => cases h3; cases List.eq_nil_of_length_eq_zero (by omega : cs.length = 0); cases hz; rfl
  | _ => have := hrd.sl; cases this
theorem FP_conv {x : Operand} {s d el m : Nat} {si di ei : TI} {v : AV} {cs : List AV} {z : List Nat} (hx : od l x = some v) (hs : X.ti s = some si) (hd : X.ti d = some di) (hdd : di.desc = .string) (hsd : si.desc = .slice el) (he' : X.ti el = some ei) (hk : ei.desc = .int .u8) (hS : ∀ b ∈ B, S.h.get b = h0.get b) (hb : ∀ b, blkOf v = some b → b ∈ B) (hrd : Rd S v 1 cs m) (hz : bytesOf cs = some z) :
    ∀ e, Ag l e → cls X e (.convert s d x) = .read ∧ FP X B h0 e (.convert s d x) (.str z) := fun _ he =>
  ⟨by unfold cls; dsimp only; rw [hs]; dsimp only; rw [hsd]; dsimp only; rw [hd]; dsimp only; rw [hdd], fun H hH => conv_eq (m' := S.n) (od_ok he hx) hs hd hdd hsd he' hk (hrd.keep fun b h => by show H.get b = _; rw [hH b (hb b h), hS b (hb b h)]) hz⟩
end
end
end GX
/- mutf.Writer, and caraferef1.Number, Text: what is written. -/


namespace Go.Proofs.YtnlfcoojlgdgaaaDoor
open GX
set_option maxHeartbeats 8000000
theorem sl_cells {v : AV} (h : isSl v = true) : v.cells = [v] := by cases v <;> first | rfl | cases h
theorem Sok.upd {S S' : St} {p : Nat} {b : AB} (h : Sok S) (hp : p < S.n) (hn : S'.n = S.n) (_ : S'.h.get p = some b) (hf : ∀ c, c ≠ p → S'.h.get c = S.h.get c) : Sok S' := by
  intro c x hx
  by_cases hc : c = p
  · rw [hc, hn]; exact hp
  · rw [hf c hc] at hx; rw [hn]; exact h c x hx
theorem sl_one {v : AV} (h : isSl v = true) : v.one = true := by cases v <;> first | rfl | cases h
section
variable {X : X} {l : L} {S : St} {R : AV → St → Prop} {x y : Operand}
open Go
theorem Ev_store_sl {t b o : Nat} {i : TI} {ty : Nat} {cs : List AV} {sp : Bool} {v : AV} (hx : od l x = some (.ptr b o)) (hy : od l y = some v) (hsl : isSl v = true) (hi : X.ti t = some i) (hz : Nat.beq 1 i.size = true) (hb : S.h.get b = some (.cells ty cs sp)) (hle : o + 1 ≤ cs.length) (hn : b < 1000000000)
    (hR : ∀ S', S'.n = S.n → S'.h.get b = some (.cells ty (lput cs o [v]) sp) → (∀ c, c ≠ b → S'.h.get c = S.h.get c) → R (.tup []) S') : Ev X l S (.store t x y) R := by
  have hc := sl_cells hsl
  refine Ev_store hx hy hi (by rw [hc]; exact hz) (by rw [hc]; simp [sl_one hsl]) hb (by rw [hc]; exact hle) hn ?_
  rw [hc]; exact hR
/-- a shift to the right by a number that is not a constant -/
theorem Ev_shrV {t u m : Nat} {k k' : IntKind} {a : Int} (hx : od l x = some (.int k a)) (hy : od l y = some (.int k' ((m : Nat) : Int))) (hm : m ≤ k.bits) (hR : R (.int k (a / ((2 ^ m : Nat) : Int))) S) : Ev X l S (.binOp .shr t x y u) R :=
  Ev_shr hx hy (by rw [nble]; exact decide_eq_true hm) rfl hR
/-- a number as a byte -/
theorem Ev_conv8i {s d : Nat} {k : IntKind} {a : Int} {di si : TI} (hx : od l x = some (.int k a)) (hs : X.ti s = some si) (hd : X.ti d = some di) (hsd : si.desc = .int k) (hdd : di.desc = .int .u8) (hR : R (.int .u8 (((a % 256).toNat : Nat) : Int)) S) : Ev X l S (.convert s d x) R :=
  Ev_convw hx hs hd hsd hdd (by rw [wrp_u8, show a % 256 = (((a % 256).toNat : Nat) : Int) by omega]; exact hR)
theorem Ev_conv64 {s d : Nat} {k : IntKind} {a : Int} {di si : TI} (hx : od l x = some (.int k a)) (hs : X.ti s = some si) (hd : X.ti d = some di) (hsd : si.desc = .int k) (hdd : di.desc = .int .u64) (hR : R (.int .u64 (a % 18446744073709551616)) S) : Ev X l S (.convert s d x) R :=
  Ev_convw hx hs hd hsd hdd (by rw [wrp_u64]; exact hR)
end
def byteAt (n : Int) (k : Nat) : Nat := (n / ((2 ^ (8 * k) : Nat) : Int) % 256).toNat
/-- a number's lowest bytes -/
def numL (n : Int) : Nat → List Nat
  | 0 => []
  | j + 1 => byteAt n j :: numL n j
theorem numL_len (n : Int) : ∀ j, (numL n j).length = j
  | 0 => rfl
  | j + 1 => by simp [numL, numL_len n j]
theorem byteAt_lt (n : Int) (k : Nat) : byteAt n k < 256 := by unfold byteAt; omega
theorem numL_lt (n : Int) : ∀ j, ∀ b ∈ numL n j, b < 256
  | 0 => by simp [numL]
  | j + 1 => by
    intro b hb
    rcases List.mem_cons.1 hb with h | h
    · rw [h]; exact byteAt_lt n j
    · exact numL_lt n j b h
def sizeN (b : Int) : Nat := (min (max b 1) 8).toNat
theorem sizeN_le (b : Int) : 1 ≤ sizeN b ∧ sizeN b ≤ 8 := by unfold sizeN; omega
theorem size_runs (n : Int) (S : St) : Runs X1 49 [.int .i64 n] S fun v S' => S' = S ∧ v = .int .i64 ((sizeN n : Nat) : Int) := by
  refine Runs_fn (m := 6) (by kernel_rfl) Tryd.func49 rfl (by kernel_rfl) (by kernel_rfl) ?_
  repeat (
    first
      | refine W_seq ?_
      | refine WO_nil ?_
      | refine V_seq ?_
      | refine W_region ?_
      | refine W_ret ?_
      | refine WO_dst rfl rfl (by kernel_rfl) (by kernel_rfl) ?_
      | refine Ev_move rfl ?_
      | refine Ev_assign rfl ?_
      | refine Ev_min rfl rfl rfl ?_
      | refine Ev_max rfl rfl rfl ?_)
  refine V_done rfl rfl ?_
  refine ⟨rfl, ?_⟩
  show AV.int .i64 (min (max n 1) 8) = _
  congr 1
  unfold sizeN
  omega
theorem width_runs (n : Int) (S : St) : Runs X1 50 [.int .i64 n] S fun v S' => S' = S ∧ v = .int .i64 ((sizeN n : Nat) : Int) := by
  refine Runs_fn (m := 8) (by kernel_rfl) Tryd.func50 rfl (by kernel_rfl) (by kernel_rfl) ?_
  repeat' (
    first
      | refine W_seq ?_
      | refine WO_nil ?_
      | refine V_seq ?_
      | refine W_region ?_
      | refine W_skip ?_
      | refine W_ret ?_
      | refine V_ret ?_
      | refine WO_dst rfl rfl (by kernel_rfl) (by kernel_rfl) ?_
      | refine Ev_move rfl ?_
      | refine Ev_assign rfl ?_
      | refine Ev_lss rfl rfl ?_
      | refine Ev_gtr rfl rfl ?_
      | (refine W_cond rfl (fun hc => ?_) (fun hc => ?_) <;> (try dsimp only at hc) <;> try (exfalso; first | omega | exact hc rfl)))
  all_goals
    refine V_done rfl rfl ?_
    refine ⟨rfl, ?_⟩
    show AV.int .i64 _ = _
    congr 1
    unfold sizeN
    omega
/-- a writer, and what was written -/
structure Wr (S : St) (p : Nat) (vb : AV) (l : List Nat) : Prop where
  at_ : S.h.get p = some (.cells 79 [vb] false)
  ow : Ow S vb l
  ne : blkOf vb ≠ some p
/-- what a writer's work leaves as it was -/
structure WrF (S S' : St) (p : Nat) (vb vb' : AV) (k : Nat) : Prop where
  le : S.n ≤ S'.n
  n : S'.n ≤ S.n + k
  ok : Sok S'
  same : ∀ c, c ≠ p → blkOf vb ≠ some c → c < S.n → S'.h.get c = S.h.get c
  bk : ∀ c, blkOf vb' = some c → blkOf vb = some c ∨ S.n ≤ c
theorem WrF.refl {S : St} {p : Nat} {vb : AV} (hok : Sok S) : WrF S S p vb vb 0 := ⟨Nat.le_refl _, Nat.le_refl _, hok, fun _ _ _ _ => rfl, fun _ h => .inl h⟩
theorem WrF.trans {S S1 S2 : St} {p : Nat} {v v1 v2 : AV} {k k1 : Nat} (a : WrF S S1 p v v1 k) (b : WrF S1 S2 p v1 v2 k1) : WrF S S2 p v v2 (k + k1) := by
  refine ⟨Nat.le_trans a.le b.le, by have := a.n; have := b.n; omega, b.ok, fun c h1 h2 h3 => ?_, fun c h => ?_⟩
  · rw [b.same c h1 (fun h => by rcases a.bk c h with g | g; exact h2 g; omega) (by have := a.le; omega), a.same c h1 h2 h3]
  · rcases b.bk c h with g | g
    · exact a.bk c g
    · exact .inr (by have := a.le; omega)
theorem number_runs {S : St} {p : Nat} {vb : AV} {l : List Nat} {n b : Int} (hok : Sok S) (hw : Wr S p vb l) (hl : l.length ≤ 1000000000) (hn : S.n + 16 ≤ 1000000000) :
    Runs X1 17 [.ptr p 0, .int .i64 n, .int .i64 b] S fun _ S' => ∃ vb', Wr S' p vb' (l ++ numL n (sizeN b)) ∧ WrF S S' p vb vb' 16 := by
  have hsz := sizeN_le b
  have hp : p < S.n := hok _ _ hw.at_
  refine Runs_fn (m := 28) (by kernel_rfl) Tryd.func17 rfl (by kernel_rfl) (by kernel_rfl) ?_
  repeat (
    first
      | refine W_seq ?_
      | refine W_region ?_
      | refine WO_dst rfl rfl (by kernel_rfl) (by kernel_rfl) ?_
      | refine Ev_move rfl ?_)
  refine Ev_call rfl rfl ((size_runs b S).mono ?_)
  rintro _ _ - ⟨rfl, rfl⟩
  repeat (
    first
      | refine WO_nil ?_
      | refine V_seq ?_
      | refine W_block ?_
      | refine WO_dst rfl rfl (by kernel_rfl) (by kernel_rfl) ?_
      | refine Ev_assign rfl ?_
      | refine Ev_subN rfl rfl (by simp only [lim]; omega) (by first | omega | (dsimp only; done) | (dsimp only; omega)) ?_)
  rename_i S
  have hs6 : some (AV.int .i64 ((sizeN b - 1 : Nat) : Int)) = some (AV.int .i64 (((sizeN b : Nat) : Int) - 1)) := by congr 2; omega
  refine W_inv (fun a : Nat × AV × List Nat => [(6, .int .i64 (((a.1 : Nat) : Int) - 1)), (0, .ptr p 0), (1, .int .i64 n)]) (fun a T => Wr T p a.2.1 a.2.2 ∧ a.2.2 ++ numL n a.1 = l ++ numL n (sizeN b) ∧ a.1 ≤ sizeN b ∧ WrF S T p vb a.2.1 (2 * (sizeN b - a.1))) (fun a => a.1) ?_ (sizeN b, vb, l) ⟨hw, rfl, Nat.le_refl _, by rw [Nat.sub_self]; exact WrF.refl hok⟩ ⟨hs6, rfl, rfl, trivial⟩
  rintro ⟨j, v, l'⟩ T ⟨hwT, heq, hj, hF⟩ back
  dsimp only at hwT heq hj hF back
  have hFn := hF.n; have hFl := hF.le
  have hll : l'.length ≤ 1000000008 := by have h := congrArg List.length heq; simp only [List.length_append, numL_len] at h; omega
  cases j with
  | zero =>
    show W X1 28 _ _ _ [(6, .int .i64 (-1)), (0, .ptr p 0), (1, .int .i64 n)] T
    repeat' (
      first
        | refine W_seq ?_
        | refine WO_nil ?_
        | refine V_seq ?_
        | refine W_region ?_
        | refine W_exit ?_
        | refine V_block_x rfl ?_
        | refine V_seq_x ?_
        | refine V_loop_x ?_
        | refine W_cond_f rfl ?_
        | refine WO_dst rfl rfl (by kernel_rfl) (by kernel_rfl) ?_
        | refine Ev_move rfl ?_
        | refine Ev_geq rfl rfl ?_)
    refine V_done rfl rfl ?_
    refine ⟨v, ?_, ⟨hF.le, by omega, hF.ok, hF.same, hF.bk⟩⟩
    rw [← heq]; simpa [numL] using hwT
  | succ j =>
    have hjj : (((j + 1 : Nat) : Int) - 1) = ((j : Nat) : Int) := by omega
    show W X1 28 _ _ _ [(6, .int .i64 (((j + 1 : Nat) : Int) - 1)), (0, .ptr p 0), (1, .int .i64 n)] T
    rw [hjj]
    repeat' (
      first
        | refine W_seq ?_
        | refine WO_nil ?_
        | refine V_seq ?_
        | refine W_region ?_
        | refine W_drawn (by kernel_rfl) ?_
        | refine W_block ?_
        | refine W_skip ?_
        | refine W_cond_t rfl ?_
        | refine WO_dst rfl rfl (by kernel_rfl) (by kernel_rfl) ?_
        | refine Ev_load rfl rfl rfl hwT.at_ rfl hwT.ow.rd.self ?_
        | refine Ev_shrV rfl rfl (by simp only [Go.IntKind.bits]; omega) ?_
        | refine Ev_conv8i rfl rfl rfl rfl rfl ?_
        | refine Ev_move rfl ?_
        | refine Ev_geqN rfl rfl ?_
        | refine Ev_nilCheck rfl ?_
        | refine Ev_fieldAddr rfl rfl rfl rfl rfl rfl ?_
        | refine Ev_mulN rfl rfl (by simp only [lim]; omega) ?_)
    refine Ev_buildSlice rfl rfl rfl rfl rfl rfl hF.ok (by omega) ?_
    intro S1 hn1 hok1 hq1 hf1
    have hpT : p < T.n := hF.ok _ _ hwT.at_
    have ho1 := hwT.ow.keep (fun b hb => hf1 b (hwT.ow.lt hF.ok hb))
    repeat (
      refine WO_dst rfl rfl (by kernel_rfl) (by kernel_rfl) ?_)
    refine Ev_append rfl rfl rfl rfl rfl rfl rfl rfl rfl rfl ho1 (Rd_lit hq1 rfl (by kernel_rfl)) rfl hok1 (by omega) (by dsimp only; omega) (by omega) ?_
    intro v2 S2 hle2 hn2 hok2 hown2 hf2 hb2
    have hp2 : S2.h.get p = some (.cells 79 [v] false) := by rw [hf2 p hwT.ne (by omega), hf1 p hpT, hwT.at_]
    repeat (
      first
        | refine WO_dst rfl rfl (by kernel_rfl) (by kernel_rfl) ?_
        | refine WO_no rfl rfl ?_
        | refine Ev_nilCheck rfl ?_
        | refine Ev_fieldAddr rfl rfl rfl rfl rfl rfl ?_)
    refine Ev_store_sl rfl rfl hown2.rd.sl rfl rfl hp2 (by simp) (by omega) ?_
    intro S3 hn3 hp3 hf3
    repeat (
      first
        | refine WO_nil ?_
        | refine V_seq ?_
        | refine W_region ?_
        | refine V_block ?_
        | refine WO_dst rfl rfl (by kernel_rfl) (by kernel_rfl) ?_
        | refine Ev_move rfl ?_
        | refine Ev_assign rfl ?_
        | refine Ev_sub rfl rfl (by simp only [inR]; omega) ?_)
    have hb2' : ∀ c, blkOf v2 = some c → blkOf v = some c ∨ T.n ≤ c := fun c hc => (hb2 c hc).imp id (fun h => by omega)
    refine back (j, v2, l' ++ [byteAt n j]) S3 _ (Nat.lt_succ_self j) ⟨⟨hp3, ?_, ?_⟩, ?_, by omega, ?_⟩ ⟨rfl, rfl, rfl, trivial⟩
    · have h4 : Own S3 v2 5 1 (sbytes l' ++ lput (rep [AV.int .u8 0] 1) 0 [AV.int .u8 ((byteAt n j : Nat) : Int)]) (l'.length + 1) := hown2.keep fun c hc => hf3 c (fun h => by subst h; rcases hb2' _ hc with g | g; exact hwT.ne g; omega)
      refine h4.eq ?_ (by simp)
      rw [sbytes_app]; rfl
    · intro h; rcases hb2' _ h with g | g; exact hwT.ne g; omega
    · rw [← heq]; simp [numL]
    · have hF2 : WrF T S3 p v v2 2 := ⟨by omega, by omega, Sok.upd hok2 (by omega) hn3 hp3 hf3, fun c h1 h2 h3 => by rw [hf3 c h1, hf2 c h2 (by omega), hf1 c h3], hb2'⟩
      have h5 := hF.trans hF2
      refine ⟨h5.le, ?_, h5.ok, h5.same, h5.bk⟩
      have := h5.n
      omega
end Go.Proofs.YtnlfcoojlgdgaaaDoor
/- GX: reasoning about runs: a slice that may be grown: owned, or made empty. -/

namespace GX
noncomputable section
open Go
/-- a slice that is owned, or an empty one that code has made -/
def Gz (S : St) (v : AV) (el sz : Nat) (cs : List AV) (m : Nat) : Prop :=
  Own S v el sz cs m ∨ (m = 0 ∧ cs = [] ∧ ∃ b o, v = .slice b o 0 (.ex 0) ∧ Rd S v sz [] 0)
theorem Gz.rd {S : St} {v : AV} {el sz m : Nat} {cs : List AV} (h : Gz S v el sz cs m) : Rd S v sz cs m := by
  rcases h with h | ⟨rfl, rfl, b, o, _, h⟩
  · exact h.rd
  · exact h
theorem Gz.keep {S S' : St} {v : AV} {el sz m : Nat} {cs : List AV} (h : Gz S v el sz cs m) (hk : ∀ b, blkOf v = some b → S'.h.get b = S.h.get b) : Gz S' v el sz cs m := by
  rcases h with h | ⟨rfl, rfl, b, o, hv, h⟩
  · exact .inl (h.keep hk)
  · exact .inr ⟨rfl, rfl, b, o, hv, h.keep hk⟩
theorem Gz.lt {S : St} {v : AV} {el sz m : Nat} {cs : List AV} (h : Gz S v el sz cs m) (hok : Sok S) {b : Nat} (hb : blkOf v = some b) : b < S.n := h.rd.lt hok hb
theorem Gz.own {S : St} {v : AV} {el sz m : Nat} {cs : List AV} (h : Gz S v el sz cs m) (hm : 0 < m) : Own S v el sz cs m := by
  rcases h with h | ⟨h, _⟩
  · exact h
  · omega
theorem Gz.eq {S : St} {v : AV} {el sz m m' : Nat} {cs cs' : List AV} (h : Gz S v el sz cs m) (hc : cs = cs') (hm : m = m') : Gz S v el sz cs' m' := by subst hc; subst hm; exact h
section
variable {X : X} {l : L} {S : St} {R : AV → St → Prop} {x y : Operand} {t t' : Nat}
theorem Ev_append_gz {xs : Array Operand} {ts : Array TypeId} {tr : List TypeId} {i i' ei : TI} {el m k : Nat} {vs vx : AV} {cs new : List AV} (hxs : xs.toList = [x, y]) (hts : ts.toList = t :: t' :: tr) (hi' : X.ti t' = some i') (hni : (match i'.desc with | .int _ => false | _ => true) = true)
    (hx : od l x = some vs) (hy : od l y = some vx) (hi : X.ti t = some i) (hd : i.desc = .slice el) (he' : X.ti el = some ei) (hz : (Nat.beq ei.size 0 || !(Nat.beq ei.zero.length ei.size)) = false)
    (hown : Gz S vs el ei.size cs m) (hnew : Rd S vx ei.size new k) (hone : new.all AV.one = true) (hok : Sok S) (hn : S.n < 1000000000) (hlim : (2 * (m + k) + 1000) * ei.bytes ≤ 140737488355328) (hlim2 : m + k ≤ 140737488355328)
    (hR : ∀ v' S', S.n ≤ S'.n → S'.n ≤ S.n + 1 → Sok S' → Gz S' v' el ei.size (cs ++ new) (m + k) → (∀ c, blkOf vs ≠ some c → c < S.n → S'.h.get c = S.h.get c) → (∀ c, blkOf v' = some c → blkOf vs = some c ∨ S.n ≤ c) → R v' S') :
    Ev X l S (.call { callee := .builtin .append, args := xs, argTypes := ts }) R := by
  rcases hown with h | ⟨rfl, rfl, b, o, rfl, h⟩
  · exact Ev_append hxs hts hi' hni hx hy hi hd he' hz h hnew hone hok hn hlim hlim2 (fun v' S' h1 h2 h3 h4 h5 h6 => hR v' S' h1 h2 h3 (.inl h4) h5 h6)
  · by_cases hk : k = 0
    · subst hk
      have hnil : new = [] := List.eq_nil_of_length_eq_zero (by rw [hnew.size]; omega)
      subst hnil
      have hrow : row S.h b o (0 * ei.size) = some [] := h.cells
      have hl := srcLen_of hnew.len
      have ha0 : aappend X S t (.slice b o 0 (.ex 0)) vx = (bif Nat.ble (0 + 0) 0 then
                (match storeAt S b (o + 0 * ei.size) [] with
                | none => none
                | some S => some (.slice b o (0 + 0) (.ex 0), S))
              else grow S el ei.size ei.bytes ([] ++ []) (0 + 0)) := by
        rw [app_eq hi hd he' hz hl hnew.cells]; unfold appBody; dsimp only; rw [hrow]; rfl
      unfold row at hrow
      split at hrow
      · rename_i ty cs sp hb
        rw [nble, cond_dec] at hrow
        split at hrow
        · rename_i hle
          have hbn : b < S.n := hok _ _ hb
          have hsame : ∀ c, (S.put b (.cells ty (lput cs (o + 0 * ei.size) []) sp)).h.get c = S.h.get c := by
            intro c
            rw [get_put (by omega), lput_nil]
            split
            · rename_i h; rw [h, hb]
            · rfl
          refine Ev_loud (S' := S.put b (.cells ty (lput cs (o + 0 * ei.size) []) sp)) (v := .slice b o 0 (.ex 0)) (fun e he => ⟨rfl, ?_⟩) (Nat.le_refl _) (hR _ _ (Nat.le_refl _) (Nat.le_succ _) ?_ (.inr ⟨rfl, rfl, b, o, rfl, ?_⟩) (fun c _ _ => hsame c) (fun c hc => .inl hc))
          · unfold loudOp; dsimp only; rw [hxs, hts]; dsimp only; rw [hi']; dsimp only
            split
            · rename_i hdd; rw [hdd] at hni; cases hni
            · rw [od_ok he hx, od_ok he hy]
              show aappend X S t (.slice b o 0 (.ex 0)) vx = _
              rw [ha0]
              unfold storeAt; rw [hb]; dsimp only
              rw [nble, nble, decide_eq_true (Nat.le_refl _), decide_eq_true (by simpa using hle)]; rfl
          · intro c x hc; rw [hsame] at hc; exact hok c x hc
          · exact h.keep (fun c _ => hsame c)
        · cases hrow
      · cases hrow
    · refine Ev_append_ex hxs hts hi' hni hx hy hi hd he' hz h hnew hok hn hlim hlim2 (fun v' S' h1 h2 h3 _ h5 h6 h7 => hR v' S' h1 h2 h3 ?_ (fun c _ hc => h6 c hc) (fun c hc => (h7 c hc).imp (fun h => by rw [h]; rfl) id))
      rcases h5 with h5 | h5
      · omega
      · exact .inl h5
/-- a slice, and nil -/
theorem Ev_eq_nils {t u : Nat} {i : TI} {el sz m : Nat} {v : AV} {cs : List AV} (hx : od l x = some v) (hy : od l y = some .nils) (hi : X.ti t = some i) (hd : i.desc = .slice el) (h : Rd S v sz cs m) (hR : ∀ b : Bool, (b = true → m = 0 ∧ cs = []) → R (.bool b) S) : Ev X l S (.binOp .eql t x y u) R := by
  have hsl := h.sl
  have hs := h.size
  have hlen := h.len
  have hae : ∃ b : Bool, aeq X 10 t v .nils = some b ∧ (b = true → v = .nils) := by
    unfold aeq; rw [hi]; dsimp only; rw [hd]
    cases v <;> first | exact ⟨_, rfl, fun h => by first | rfl | cases h⟩ | cases hsl
  obtain ⟨b, hb, hb2⟩ := hae
  refine Ev_bin hx hy (by cases v <;> first | rfl | cases hsl) ?_ (hR b (fun h => ?_))
  · unfold abin
    cases v <;> first | (dsimp only; rw [hb]; done) | cases hsl
  · have := hb2 h; subst this
    simp [slen] at hlen
    subst hlen
    exact ⟨rfl, List.eq_nil_of_length_eq_zero (by omega)⟩
/-- a pointer, and nil -/
theorem Ev_ptr_eql {t u b o el : Nat} {i : TI} (hx : od l x = some (.ptr b o)) (hy : od l y = some .nilp) (hi : X.ti t = some i) (hd : i.desc = .pointer el) (hR : R (.bool false) S) : Ev X l S (.binOp .eql t x y u) R := by
  refine Ev_pure (fun _ he => ⟨?_, ?_⟩) hR
  · unfold cls; dsimp only; rw [od_ok he hx]; dsimp only; rw [od_ok he hy]
  · unfold pureOp; dsimp only; rw [od_ok he hx]; dsimp only; rw [od_ok he hy]; dsimp only; unfold abin aeq; dsimp only; rw [hi]; dsimp only; rw [hd]
theorem Ev_ptr_neq {t u b o el : Nat} {i : TI} (hx : od l x = some (.ptr b o)) (hy : od l y = some .nilp) (hi : X.ti t = some i) (hd : i.desc = .pointer el) (hR : R (.bool true) S) : Ev X l S (.binOp .neq t x y u) R := by
  refine Ev_pure (fun _ he => ⟨?_, ?_⟩) hR
  · unfold cls; dsimp only; rw [od_ok he hx]; dsimp only; rw [od_ok he hy]
  · unfold pureOp; dsimp only; rw [od_ok he hx]; dsimp only; rw [od_ok he hy]; dsimp only; unfold abin aeq; dsimp only; rw [hi]; dsimp only; rw [hd]; rfl
end
end
end GX
/- mutf.Writer's other functions, and caraferef1.Number and Text: what is written. -/


namespace Go.Proofs.YtnlfcoojlgdgaaaDoor
open GX
set_option maxHeartbeats 8000000
theorem WrF.fr {S S' T : St} {p : Nat} {vb vb' v : AV} {k k' : Nat} (a : WrF S S' p vb vb' k) (b : Fr S' T v k') (h1 : ∀ c, blkOf v = some c → blkOf vb = some c ∨ S.n ≤ c) : WrF S T p vb vb' (k + k') := by
  refine ⟨Nat.le_trans a.le b.le, by have := a.n; have := b.n; omega, b.ok, fun c g1 g2 g3 => ?_, a.bk⟩
  have := a.le
  rw [b.same c (fun h => by rcases h1 c h with g | g; exact g2 g; omega) (by omega), a.same c g1 g2 g3]
theorem Wr.keep {S S' : St} {p : Nat} {vb : AV} {l : List Nat} (h : Wr S p vb l) (hp : S'.h.get p = S.h.get p) (hb : ∀ c, blkOf vb = some c → S'.h.get c = S.h.get c) : Wr S' p vb l :=
  ⟨by rw [hp]; exact h.at_, h.ow.keep hb, h.ne⟩
theorem Wr.fr {S S' : St} {p : Nat} {vb : AV} {l : List Nat} {k : Nat} (h : Wr S p vb l) (hok : Sok S) (a : Fr S S' .nils k) : Wr S' p vb l :=
  h.keep (a.same p (by simp [blkOf]) (hok _ _ h.at_)) (fun c hc => a.same c (by simp [blkOf]) (h.ow.lt hok hc))
theorem wbytes_runs {S : St} {p : Nat} {vb v : AV} {l b : List Nat} (hok : Sok S) (hw : Wr S p vb l) (hv : Rd S v 1 (sbytes b) b.length) (hl : l.length ≤ 1000000000) (hb : b.length ≤ 1000000000) (hn : S.n + 1 ≤ 1000000000) :
    Runs X1 21 [.ptr p 0, v] S fun _ S' => ∃ vb', Wr S' p vb' (l ++ b) ∧ WrF S S' p vb vb' 1 := by
  have hp : p < S.n := hok _ _ hw.at_
  refine Runs_fn (m := 13) (by kernel_rfl) Tryd.func21 rfl (by kernel_rfl) (by kernel_rfl) ?_
  repeat (
    first
      | refine W_region ?_
      | refine WO_dst rfl rfl (by kernel_rfl) (by kernel_rfl) ?_
      | refine Ev_load rfl rfl rfl hw.at_ rfl hw.ow.rd.self ?_
      | refine Ev_move rfl ?_
      | refine Ev_nilCheck rfl ?_
      | refine Ev_fieldAddr rfl rfl rfl rfl rfl rfl ?_)
  refine Ev_append rfl rfl rfl rfl rfl rfl rfl rfl rfl rfl hw.ow hv (by first | exact sbytes_one b | (unfold sbytes; simp [AV.one])) hok (by omega) (by dsimp only; omega) (by omega) ?_
  intro v2 S2 hle2 hn2 hok2 hown2 hf2 hb2
  have hp2 : S2.h.get p = some (.cells 79 [vb] false) := by rw [hf2 p hw.ne (by omega), hw.at_]
  repeat (
    first
      | refine WO_dst rfl rfl (by kernel_rfl) (by kernel_rfl) ?_
      | refine WO_no rfl rfl ?_
      | refine Ev_nilCheck rfl ?_
      | refine Ev_fieldAddr rfl rfl rfl rfl rfl rfl ?_)
  refine Ev_store_sl rfl rfl hown2.rd.sl rfl rfl hp2 (by simp) (by omega) ?_
  intro S3 hn3 hp3 hf3
  repeat (
    refine WO_nil ?_)
  refine V_done rfl rfl ?_
  have hne : blkOf v2 ≠ some p := by intro h; rcases hb2 _ h with g | g; exact hw.ne g; omega
  refine ⟨v2, ⟨hp3, ?_, hne⟩, ⟨by omega, by omega, Sok.upd hok2 (by omega) hn3 hp3 hf3, fun c h1 h2 h3 => by rw [hf3 c h1, hf2 c h2 (by omega)], hb2⟩⟩
  have h4 : Own S3 v2 5 1 (sbytes l ++ sbytes b) (l.length + b.length) := hown2.keep fun c hc => hf3 c (fun h => by subst h; exact hne hc)
  exact h4.eq (sbytes_app _ _).symm (by simp)
/-- a copy of a slice -/
theorem clone_runs {S : St} {v : AV} {b : List Nat} (hok : Sok S) (hv : Rd S v 1 (sbytes b) b.length) (hb : b.length ≤ 1000000000) (hn : S.n + 2 ≤ 1000000000) :
    Runs X1 51 [v] S fun r S' => Fr S S' .nils 2 ∧ Gz S' r 5 1 (sbytes b) b.length ∧ ∀ c, blkOf r = some c → S.n ≤ c := by
  refine Runs_fn (m := 8) (by kernel_rfl) Tryd.func51 rfl (by kernel_rfl) (by kernel_rfl) ?_
  repeat (
    first
      | refine W_seq ?_
      | refine WO_nil ?_
      | refine V_seq ?_
      | refine W_region ?_
      | refine WO_dst rfl rfl (by kernel_rfl) (by kernel_rfl) ?_
      | refine Ev_move rfl ?_
      | refine Ev_assign rfl ?_)
  refine Ev_eq_nils rfl rfl rfl rfl hv ?_
  intro q hq
  repeat (
    first
      | refine WO_nil ?_
      | refine V_seq ?_)
  refine W_condb rfl (fun hc => ?_) (fun hc => ?_)
  · have h0 := hq hc
    repeat (
      first
        | refine W_seq ?_
        | refine WO_nil ?_
        | refine V_seq ?_
        | refine W_region ?_
        | refine W_ret ?_
        | refine V_ret ?_
        | refine WO_dst rfl rfl (by kernel_rfl) (by kernel_rfl) ?_
        | refine Ev_assign rfl ?_)
    refine V_done rfl rfl ?_
    refine ⟨⟨Nat.le_refl _, by omega, hok, fun _ _ _ => rfl⟩, .inl (.inl ⟨rfl, h0.2, h0.1⟩), fun c hc => by cases hc⟩
  · repeat (
      first
        | refine W_seq ?_
        | refine V_seq ?_
        | refine W_region ?_
        | refine W_skip ?_
        | refine WO_dst rfl rfl (by kernel_rfl) (by kernel_rfl) ?_)
    refine Ev_buildSlice rfl rfl rfl rfl rfl rfl hok (by omega) ?_
    intro S1 hn1 hok1 hq1 hf1
    have hv1 := hv.keep (fun c h => hf1 c (hv.lt hok h))
    repeat (
      first
        | refine WO_dst rfl rfl (by kernel_rfl) (by kernel_rfl) ?_
        | refine Ev_move rfl ?_)
    refine Ev_append_gz (cs := []) (m := 0) rfl rfl rfl rfl rfl rfl rfl rfl rfl rfl (.inr ⟨rfl, rfl, S.n, 0, rfl, Rd_lit hq1 rfl (by kernel_rfl)⟩) hv1 (by first | exact sbytes_one b | (unfold sbytes; simp [AV.one])) hok1 (by omega) (by dsimp only; omega) (by omega) ?_
    intro v2 S2 hle2 hn2 hok2 hown2 hf2 hb2
    repeat (
      first
        | refine WO_nil ?_
        | refine V_seq ?_
        | refine W_ret ?_
        | refine WO_dst rfl rfl (by kernel_rfl) (by kernel_rfl) ?_
        | refine Ev_assign rfl ?_)
    refine V_done rfl rfl ?_
    refine ⟨⟨by omega, by omega, hok2, fun c _ h => by rw [hf2 c (fun h => by cases h; omega) (by omega), hf1 c h]⟩, hown2.eq rfl (by omega), fun c hc => ?_⟩
    rcases hb2 c hc with h | h
    · cases h; exact Nat.le_refl _
    · omega
theorem done_runs {S : St} {p : Nat} {vb : AV} {l : List Nat} (hok : Sok S) (hw : Wr S p vb l) (hl : l.length ≤ 1000000000) (hn : S.n + 2 ≤ 1000000000) :
    Runs X1 22 [.ptr p 0] S fun r S' => Fr S S' .nils 2 ∧ Gz S' r 5 1 (sbytes l) l.length ∧ ∀ c, blkOf r = some c → S.n ≤ c := by
  refine Runs_fn (m := 8) (by kernel_rfl) Tryd.func22 rfl (by kernel_rfl) (by kernel_rfl) ?_
  repeat (
    first
      | refine W_seq ?_
      | refine WO_nil ?_
      | refine V_seq ?_
      | refine W_region ?_
      | refine WO_dst rfl rfl (by kernel_rfl) (by kernel_rfl) ?_
      | refine Ev_load rfl rfl rfl hw.at_ rfl hw.ow.rd.self ?_
      | refine Ev_move rfl ?_
      | refine Ev_assign rfl ?_
      | refine Ev_nilCheck rfl ?_
      | refine Ev_fieldAddr rfl rfl rfl rfl rfl rfl ?_)
  refine Ev_call rfl rfl ((clone_runs hok hw.ow.rd hl hn).mono ?_)
  rintro v S' - ⟨h1, h2, h3⟩
  repeat (
    first
      | refine WO_nil ?_
      | refine V_seq ?_
      | refine W_ret ?_
      | refine WO_dst rfl rfl (by kernel_rfl) (by kernel_rfl) ?_
      | refine Ev_assign rfl ?_)
  refine V_done rfl rfl ?_
  exact ⟨h1, h2, h3⟩
theorem new_runs {S : St} (hok : Sok S) (hn : S.n + 1 ≤ 1000000000) :
    Runs X1 16 [] S fun r S' => r = .ptr S.n 0 ∧ S'.n = S.n + 1 ∧ Sok S' ∧ (∀ c, c < S.n → S'.h.get c = S.h.get c) ∧ Wr S' S.n .nils [] := by
  refine Runs_fn (m := 3) (by kernel_rfl) Tryd.func16 rfl (by kernel_rfl) (by kernel_rfl) ?_
  repeat (
    first
      | refine W_seq ?_
      | refine WO_nil ?_
      | refine V_seq ?_
      | refine W_region ?_
      | refine WO_dst rfl rfl (by kernel_rfl) (by kernel_rfl) ?_
      | refine Ev_assign rfl ?_)
  refine Ev_build (v := .agg [.nils]) rfl rfl ?_
  repeat (
    refine WO_dst rfl rfl (by kernel_rfl) (by kernel_rfl) ?_)
  refine Ev_box rfl hok (by omega) ?_
  intro S1 hn1 hok1 hq1 hf1
  repeat (
    first
      | refine WO_nil ?_
      | refine V_seq ?_
      | refine W_ret ?_
      | refine WO_dst rfl rfl (by kernel_rfl) (by kernel_rfl) ?_
      | refine Ev_assign rfl ?_)
  refine V_done rfl rfl ?_
  exact ⟨rfl, hn1, hok1, hf1, ⟨hq1, .inl ⟨rfl, rfl, rfl⟩, by intro h; cases h⟩⟩
/-- what is written of a string -/
noncomputable def textB (s : List Nat) : List Nat := if vS s = true ∧ (encS s).length ≤ 256 then encS s else []
noncomputable def textL (s : List Nat) : List Nat := numL ((textB s).length : Int) 2 ++ textB s
theorem textB_len (s : List Nat) : (textB s).length ≤ 256 := by unfold textB; split <;> simp_all
theorem size2 : sizeN 2 = 2 := by decide
theorem wtext_runs {S : St} {p : Nat} {vb : AV} {l s : List Nat} (hok : Sok S) (hw : Wr S p vb l) (hs : s.length ≤ 100000000) (hl : l.length ≤ 900000000) (hn : S.n + (4 * s.length + 18) ≤ 1000000000) :
    Runs X1 19 [.ptr p 0, .str s] S fun _ S' => ∃ vb', Wr S' p vb' (l ++ textL s) ∧ WrF S S' p vb vb' (4 * s.length + 18) := by
  have hp : p < S.n := hok _ _ hw.at_
  refine Runs_fn (m := 25) (by kernel_rfl) Tryd.func19 rfl (by kernel_rfl) (by kernel_rfl) ?_
  repeat (
    first
      | refine W_seq ?_
      | refine W_region ?_
      | refine WO_dst rfl rfl (by kernel_rfl) (by kernel_rfl) ?_
      | refine Ev_move rfl ?_)
  refine Ev_call rfl rfl ((enc_runs hok hs (by omega)).mono ?_)
  rintro _ S1 - ⟨hfr, vx, rfl, hx, hbx⟩
  have hw1 := hw.fr hok hfr
  have hF1 := (WrF.refl hok).fr (p := p) (vb := vb) (vb' := vb) hfr (fun c h => by cases h)
  have hn1 := hfr.n
  have hl1 := hfr.le
  by_cases hv : vS s = true
  · rw [if_pos hv] at hx ⊢
    repeat' (
      first
        | refine W_seq ?_
        | refine WO_nil ?_
        | refine V_seq ?_
        | refine W_region ?_
        | refine W_skip ?_
        | refine WO_dst rfl rfl (by kernel_rfl) (by kernel_rfl) ?_
        | refine WO_guard_t rfl rfl rfl rfl rfl (by kernel_rfl) (by kernel_rfl) ?_
        | refine Ev_len rfl rfl rfl rfl rfl hx.rd.len ?_
        | refine Ev_move rfl ?_
        | refine Ev_assign rfl ?_
        | refine Ev_extract rfl rfl ?_
        | refine Ev_pick_f rfl rfl rfl ?_
        | refine Ev_gtrN rfl rfl ?_
        | refine Ev_neqN rfl rfl ?_
        | refine Ev_len rfl rfl rfl rfl rfl rfl ?_
        | (refine W_cond rfl (fun hc => ?_) (fun hc => ?_) <;> (try dsimp only at hc) <;> try (exfalso; first | omega | exact hc rfl)))
    · have htb : textB s = [] := by unfold textB; rw [if_neg (fun h => by have := h.2; omega)]
      refine Ev_call rfl rfl ((number_runs hF1.ok hw1 (by omega) (by omega)).mono ?_)
      rintro _ S2 - ⟨vb2, hw2, hF2⟩
      have hn2 := hF2.n
      have hl2 := hF2.le
      have hrd : Rd S2 .nils 1 (sbytes []) ([] : List Nat).length := ⟨rfl, rfl, rfl, rfl, rfl, rfl⟩
      have hbl : ([] : List Nat).length ≤ 256 := by simp
      repeat (
        first
          | refine WO_nil ?_
          | refine V_seq ?_
          | refine W_region ?_
          | refine WO_dst rfl rfl (by kernel_rfl) (by kernel_rfl) ?_
          | refine Ev_move rfl ?_)
      refine Ev_call rfl rfl ((wbytes_runs hF2.ok hw2 hrd (by simp only [List.length_append, numL_len, size2]; omega) (by omega) (by omega)).mono ?_)
      rintro _ S3 - ⟨vb3, hw3, hF3⟩
      repeat (
        refine WO_nil ?_)
      refine V_done rfl rfl ?_
      refine ⟨vb3, ?_, ?_⟩
      · unfold textL; rw [htb, ← List.append_assoc]; rw [size2] at hw3; exact hw3
      · have h9 := (hF1.trans hF2).trans hF3
        exact ⟨h9.le, by have := h9.n; omega, h9.ok, h9.same, h9.bk⟩
    · have htb : textB s = (encS s) := by unfold textB; rw [if_pos ⟨hv, by omega⟩]
      refine Ev_call rfl rfl ((number_runs hF1.ok hw1 (by omega) (by omega)).mono ?_)
      rintro _ S2 - ⟨vb2, hw2, hF2⟩
      have hn2 := hF2.n
      have hl2 := hF2.le
      have hrd : Rd S2 vx 1 (sbytes (encS s)) ((encS s) : List Nat).length := hx.rd.keep fun c h => by
        have h5 := hbx c h
        have h6 := hx.lt hfr.ok h
        exact hF2.same c (by omega) (fun h7 => by have := hw.ow.lt hok h7; omega) h6
      have hbl : ((encS s) : List Nat).length ≤ 256 := by omega
      repeat (
        first
          | refine WO_nil ?_
          | refine V_seq ?_
          | refine W_region ?_
          | refine WO_dst rfl rfl (by kernel_rfl) (by kernel_rfl) ?_
          | refine Ev_move rfl ?_)
      refine Ev_call rfl rfl ((wbytes_runs hF2.ok hw2 hrd (by simp only [List.length_append, numL_len, size2]; omega) (by omega) (by omega)).mono ?_)
      rintro _ S3 - ⟨vb3, hw3, hF3⟩
      repeat (
        refine WO_nil ?_)
      refine V_done rfl rfl ?_
      refine ⟨vb3, ?_, ?_⟩
      · unfold textL; rw [htb, ← List.append_assoc]; rw [size2] at hw3; exact hw3
      · have h9 := (hF1.trans hF2).trans hF3
        exact ⟨h9.le, by have := h9.n; omega, h9.ok, h9.same, h9.bk⟩
  · rw [if_neg hv] at hx ⊢
    repeat' (
      first
        | refine W_seq ?_
        | refine WO_nil ?_
        | refine V_seq ?_
        | refine W_region ?_
        | refine W_cond_t rfl ?_
        | refine WO_dst rfl rfl (by kernel_rfl) (by kernel_rfl) ?_
        | refine WO_guard_f rfl rfl rfl rfl rfl rfl (by kernel_rfl) (by kernel_rfl) ?_
        | refine Ev_move rfl ?_
        | refine Ev_assign rfl ?_
        | refine Ev_extract rfl rfl ?_
        | refine Ev_pick_t rfl rfl rfl ?_
        | refine Ev_neqN rfl rfl ?_
        | refine Ev_len rfl rfl rfl rfl rfl rfl ?_)
    have htb : textB s = [] := by unfold textB; rw [if_neg (fun h => hv h.1)]
    refine Ev_call rfl rfl ((number_runs hF1.ok hw1 (by omega) (by omega)).mono ?_)
    rintro _ S2 - ⟨vb2, hw2, hF2⟩
    have hn2 := hF2.n
    have hl2 := hF2.le
    have hrd : Rd S2 .nils 1 (sbytes []) ([] : List Nat).length := ⟨rfl, rfl, rfl, rfl, rfl, rfl⟩
    have hbl : ([] : List Nat).length ≤ 256 := by simp
    repeat (
      first
        | refine WO_nil ?_
        | refine V_seq ?_
        | refine W_region ?_
        | refine WO_dst rfl rfl (by kernel_rfl) (by kernel_rfl) ?_
        | refine Ev_move rfl ?_)
    refine Ev_call rfl rfl ((wbytes_runs hF2.ok hw2 hrd (by simp only [List.length_append, numL_len, size2]; omega) (by omega) (by omega)).mono ?_)
    rintro _ S3 - ⟨vb3, hw3, hF3⟩
    repeat (
      refine WO_nil ?_)
    refine V_done rfl rfl ?_
    refine ⟨vb3, ?_, ?_⟩
    · unfold textL; rw [htb, ← List.append_assoc]; rw [size2] at hw3; exact hw3
    · have h9 := (hF1.trans hF2).trans hF3
      exact ⟨h9.le, by have := h9.n; omega, h9.ok, h9.same, h9.bk⟩
end Go.Proofs.YtnlfcoojlgdgaaaDoor
/- caraferef1.Number and Text: what is written. -/

namespace Go.Proofs.YtnlfcoojlgdgaaaDoor
open GX
set_option maxHeartbeats 8000000
theorem byte64 (n : Int) {j : Nat} (h : j < 8) : n % 18446744073709551616 / ((2 ^ (8 * j) : Nat) : Int) % 256 = n / ((2 ^ (8 * j) : Nat) : Int) % 256 := by
  rcases (show j = 0 ∨ j = 1 ∨ j = 2 ∨ j = 3 ∨ j = 4 ∨ j = 5 ∨ j = 6 ∨ j = 7 by omega) with rfl | rfl | rfl | rfl | rfl | rfl | rfl | rfl <;> simp <;> omega
theorem rnumber_runs {S : St} {v : AV} {l : List Nat} {n b : Int} (hok : Sok S) (hv : Rd S v 1 (sbytes l) l.length) (hl : l.length ≤ 900000000) (hn : S.n + 18 ≤ 1000000000) :
    Runs X1 18 [v, .int .i64 n, .int .i64 b] S fun r S' => Fr S S' .nils 18 ∧ Ow S' r (l ++ numL n (sizeN b)) ∧ ∀ c, blkOf r = some c → S.n ≤ c := by
  have hsz := sizeN_le b
  refine Runs_fn (m := 30) (by kernel_rfl) Tryd.func18 rfl (by kernel_rfl) (by kernel_rfl) ?_
  repeat (
    first
      | refine W_seq ?_
      | refine WO_nil ?_
      | refine V_seq ?_
      | refine W_region ?_
      | refine WO_dst rfl rfl (by kernel_rfl) (by kernel_rfl) ?_
      | refine Ev_assign rfl ?_)
  refine Ev_buildSlice rfl rfl rfl rfl rfl rfl hok (by omega) ?_
  intro S1 hn1 hok1 hq1 hf1
  have hv1 := hv.keep (fun c h => hf1 c (hv.lt hok h))
  repeat (
    first
      | refine WO_dst rfl rfl (by kernel_rfl) (by kernel_rfl) ?_
      | refine Ev_move rfl ?_)
  refine Ev_append_gz (cs := []) (m := 0) rfl rfl rfl rfl rfl rfl rfl rfl rfl rfl (.inr ⟨rfl, rfl, S.n, 0, rfl, Rd_lit hq1 rfl (by kernel_rfl)⟩) hv1 (by first | exact sbytes_one l | (unfold sbytes; simp [AV.one])) hok1 (by omega) (by dsimp only; omega) (by omega) ?_
  intro v2 S2 hle2 hn2 hok2 hown2 hf2 hb2
  have hb2' : ∀ c, blkOf v2 = some c → S.n ≤ c := fun c hc => by
    rcases hb2 c hc with h | h
    · cases h; exact Nat.le_refl _
    · omega
  repeat (
    first
      | refine W_seq ?_
      | refine WO_nil ?_
      | refine V_seq ?_
      | refine W_region ?_
      | refine WO_dst rfl rfl (by kernel_rfl) (by kernel_rfl) ?_
      | refine Ev_move rfl ?_
      | refine Ev_assign rfl ?_)
  refine Ev_call rfl rfl ((width_runs b S2).mono ?_)
  rintro _ _ - ⟨rfl, rfl⟩
  repeat (
    first
      | refine WO_nil ?_
      | refine V_seq ?_
      | refine W_block ?_
      | refine WO_dst rfl rfl (by kernel_rfl) (by kernel_rfl) ?_
      | refine Ev_assign rfl ?_
      | refine Ev_subN rfl rfl (by simp only [lim]; omega) (by first | omega | (dsimp only; done) | (dsimp only; omega)) ?_)
  rename_i S2
  have hs6 : some (AV.int .i64 ((sizeN b - 1 : Nat) : Int)) = some (AV.int .i64 (((sizeN b : Nat) : Int) - 1)) := by congr 2; omega
  refine W_inv (fun a : Nat × AV × List Nat => [(8, .int .i64 (((a.1 : Nat) : Int) - 1)), (7, a.2.1), (1, .int .i64 n)]) (fun a T => Gz T a.2.1 5 1 (sbytes a.2.2) a.2.2.length ∧ a.2.2 ++ numL n a.1 = l ++ numL n (sizeN b) ∧ a.1 ≤ sizeN b ∧ Fr S T .nils (2 + 2 * (sizeN b - a.1)) ∧ ∀ c, blkOf a.2.1 = some c → S.n ≤ c) (fun a => a.1) ?_ (sizeN b, v2, l) ⟨hown2.eq rfl (by dsimp only; omega), rfl, Nat.le_refl _, ⟨by omega, by omega, hok2, fun c _ h => by rw [hf2 c (fun h => by cases h; omega) (by omega), hf1 c h]⟩, hb2'⟩ ⟨hs6, rfl, rfl, trivial⟩
  rintro ⟨j, v, l'⟩ T ⟨hwT, heq, hj, hF, hbT⟩ back
  dsimp only at hwT heq hj hF hbT back
  have hFn := hF.n; have hFl := hF.le
  have hll : l'.length + j = l.length + sizeN b := by have h := congrArg List.length heq; simpa only [List.length_append, numL_len] using h
  cases j with
  | zero =>
    show W X1 30 _ _ _ [(8, .int .i64 (-1)), (7, v), (1, .int .i64 n)] T
    repeat' (
      first
        | refine W_seq ?_
        | refine WO_nil ?_
        | refine V_seq ?_
        | refine W_region ?_
        | refine W_ret ?_
        | refine W_exit ?_
        | refine V_block_x rfl ?_
        | refine V_seq_x ?_
        | refine V_loop_x ?_
        | refine W_cond_f rfl ?_
        | refine WO_dst rfl rfl (by kernel_rfl) (by kernel_rfl) ?_
        | refine Ev_move rfl ?_
        | refine Ev_assign rfl ?_
        | refine Ev_geq rfl rfl ?_)
    refine V_done rfl rfl ?_
    refine ⟨⟨hF.le, by omega, hF.ok, hF.same⟩, ?_, hbT⟩
    have h9 := hwT.own (by omega)
    rw [← heq]; simp only [numL, List.append_nil]; exact h9
  | succ j =>
    have hjj : (((j + 1 : Nat) : Int) - 1) = ((j : Nat) : Int) := by omega
    show W X1 30 _ _ _ [(8, .int .i64 (((j + 1 : Nat) : Int) - 1)), (7, v), (1, .int .i64 n)] T
    rw [hjj]
    repeat' (
      first
        | refine W_seq ?_
        | refine WO_nil ?_
        | refine V_seq ?_
        | refine W_region ?_
        | refine W_block ?_
        | refine W_skip ?_
        | refine W_cond_t rfl ?_
        | refine WO_dst rfl rfl (by kernel_rfl) (by kernel_rfl) ?_
        | refine Ev_conv64 (a := n) rfl rfl rfl rfl rfl ?_
        | refine Ev_shrV rfl rfl (by simp only [Go.IntKind.bits]; omega) ?_
        | refine Ev_conv8i rfl rfl rfl rfl rfl ?_
        | refine Ev_move rfl ?_
        | refine Ev_geqN rfl rfl ?_
        | refine Ev_mulN rfl rfl (by simp only [lim]; omega) ?_
        | refine Ev_convN rfl rfl rfl rfl rfl (by simp only [lim]; omega) ?_)
    refine Ev_buildSlice rfl rfl rfl rfl rfl rfl hF.ok (by omega) ?_
    intro T1 gn1 gok1 gq1 gf1
    have ho1 := hwT.keep (fun b hb => gf1 b (hwT.lt hF.ok hb))
    repeat (
      refine WO_dst rfl rfl (by kernel_rfl) (by kernel_rfl) ?_)
    refine Ev_append_gz rfl rfl rfl rfl rfl rfl rfl rfl rfl rfl ho1 (Rd_lit gq1 rfl (by kernel_rfl)) rfl gok1 (by omega) (by dsimp only; omega) (by omega) ?_
    intro v3 T2 gle2 gn2 gok2 gown2 gf2 gb2
    repeat (
      first
        | refine WO_nil ?_
        | refine V_seq ?_
        | refine W_region ?_
        | refine V_block ?_
        | refine WO_dst rfl rfl (by kernel_rfl) (by kernel_rfl) ?_
        | refine Ev_move rfl ?_
        | refine Ev_assign rfl ?_
        | refine Ev_sub rfl rfl (by simp only [inR]; omega) ?_)
    refine back (j, v3, l' ++ [byteAt n j]) T2 _ (Nat.lt_succ_self j) ⟨?_, ?_, by omega, ⟨?_, ?_, gok2, fun c _ h => ?_⟩, fun c hc => ?_⟩ ⟨rfl, rfl, rfl, trivial⟩
    · refine gown2.eq ?_ (by simp)
      rw [sbytes_app]
      congr 1
      show [AV.int .u8 _] = [AV.int .u8 _]
      unfold byteAt
      rw [← byte64 n (by omega)]
      rfl
    · rw [← heq]; simp [numL]
    · first | omega | (dsimp only; omega)
    · first | omega | (dsimp only; omega)
    · rw [gf2 c (fun h2 => by have := hbT c h2; omega) (by omega), gf1 c (by omega), hF.same c (by simp [blkOf]) h]
    · rcases gb2 c hc with g | g
      · exact hbT c g
      · omega
theorem rtext_runs {S : St} {v : AV} {l s : List Nat} (hok : Sok S) (hv : Rd S v 1 (sbytes l) l.length) (hb : ∀ b ∈ s, b < 256) (hs : s.length ≤ 100000000) (hl : l.length ≤ 800000000) (hn : S.n + (4 * s.length + 22) ≤ 1000000000) :
    Runs X1 20 [v, .str s] S fun r S' => Fr S S' .nils (4 * s.length + 22) ∧ Ow S' r (l ++ textL s) ∧ ∀ c, blkOf r = some c → S.n ≤ c := by
  refine Runs_fn (m := 27) (by kernel_rfl) Tryd.func20 rfl (by kernel_rfl) (by kernel_rfl) ?_
  repeat (
    first
      | refine W_seq ?_
      | refine WO_nil ?_
      | refine V_seq ?_
      | refine W_region ?_
      | refine WO_dst rfl rfl (by kernel_rfl) (by kernel_rfl) ?_
      | refine Ev_move rfl ?_
      | refine Ev_assign rfl ?_)
  refine Ev_call rfl rfl ((renc_runs hok hb hs (by omega)).mono ?_)
  rintro _ S1 - ⟨hfr, vx, rfl, hx, hbx⟩
  have hn1 := hfr.n
  have hl1 := hfr.le
  have hv1 := hv.keep (fun c h => hfr.same c (by simp [blkOf]) (hv.lt hok h))
  by_cases hv' : vS s = true
  · rw [if_pos hv'] at hx ⊢
    repeat' (
      first
        | refine W_seq ?_
        | refine WO_nil ?_
        | refine V_seq ?_
        | refine W_region ?_
        | refine W_skip ?_
        | refine WO_dst rfl rfl (by kernel_rfl) (by kernel_rfl) ?_
        | refine WO_guard_t rfl rfl rfl rfl rfl (by kernel_rfl) (by kernel_rfl) ?_
        | refine Ev_len rfl rfl rfl rfl rfl hx.rd.len ?_
        | refine Ev_move rfl ?_
        | refine Ev_assign rfl ?_
        | refine Ev_extract rfl rfl ?_
        | refine Ev_pick_f rfl rfl rfl ?_
        | refine Ev_gtrN rfl rfl ?_
        | refine Ev_neqN rfl rfl ?_
        | (refine W_cond rfl (fun hc => ?_) (fun hc => ?_) <;> (try dsimp only at hc) <;> try (exfalso; first | omega | exact hc rfl)))
    · skip
      have htb : textB s = [] := by unfold textB; rw [if_neg (fun h => by have := h.2; omega)]
      refine Ev_call rfl rfl ((rnumber_runs hfr.ok hv1 (by omega) (by omega)).mono ?_)
      rintro r S2 - ⟨hF2, ho2, hb2⟩
      have hn2 := hF2.n
      have hl2 := hF2.le
      repeat (
        first
          | refine WO_nil ?_
          | refine V_seq ?_
          | refine W_ret ?_
          | refine V_ret ?_
          | refine WO_dst rfl rfl (by kernel_rfl) (by kernel_rfl) ?_
          | refine Ev_assign rfl ?_)
      refine V_done rfl rfl ?_
      refine ⟨⟨by omega, by omega, hF2.ok, fun c _ h => by rw [hF2.same c (by simp [blkOf]) (by omega), hfr.same c (by simp [blkOf]) h]⟩, ?_, fun c hc => by have := hb2 c hc; omega⟩
      unfold textL; rw [htb, List.append_nil]; rw [size2] at ho2; exact ho2
    · have htb : textB s = encS s := by unfold textB; rw [if_pos ⟨hv', by omega⟩]
      refine Ev_call rfl rfl ((rnumber_runs hfr.ok hv1 (by omega) (by omega)).mono ?_)
      rintro r S2 - ⟨hF2, ho2, hb2⟩
      have hn2 := hF2.n
      have hl2 := hF2.le
      have hx2 := hx.keep (fun c h => hF2.same c (by simp [blkOf]) (hx.lt hfr.ok h))
      have ho3 : Ow S2 r (l ++ numL ((encS s).length : Int) 2) := by rw [size2] at ho2; exact ho2
      repeat (
        first
          | refine WO_dst rfl rfl (by kernel_rfl) (by kernel_rfl) ?_
          | refine Ev_move rfl ?_)
      refine Ev_append rfl rfl rfl rfl rfl rfl rfl rfl rfl rfl ho3 hx2.rd (by first | exact sbytes_one _ | (unfold sbytes; simp [AV.one])) hF2.ok (by omega) (by simp only [List.length_append, numL_len]; omega) (by simp only [List.length_append, numL_len]; omega) ?_
      intro v3 S3 hle3 hn3 hok3 hown3 hf3 hb3
      repeat (
        first
          | refine WO_nil ?_
          | refine V_seq ?_
          | refine W_ret ?_
          | refine WO_dst rfl rfl (by kernel_rfl) (by kernel_rfl) ?_
          | refine Ev_assign rfl ?_)
      refine V_done rfl rfl ?_
      refine ⟨⟨by omega, by omega, hok3, fun c _ h => by rw [hf3 c (fun g => by have := hb2 c g; omega) (by omega), hF2.same c (by simp [blkOf]) (by omega), hfr.same c (by simp [blkOf]) h]⟩, ?_, fun c hc => ?_⟩
      · refine hown3.eq ?_ ?_
        · unfold textL; rw [htb, ← List.append_assoc, sbytes_app (l ++ _)]
        · unfold textL; rw [htb]; simp only [List.length_append]; omega
      · rcases hb3 c hc with h | h
        · have := hb2 c h; omega
        · omega
  · rw [if_neg hv'] at hx ⊢
    repeat' (
      first
        | refine W_seq ?_
        | refine WO_nil ?_
        | refine V_seq ?_
        | refine W_region ?_
        | refine W_cond_t rfl ?_
        | refine WO_dst rfl rfl (by kernel_rfl) (by kernel_rfl) ?_
        | refine WO_guard_f rfl rfl rfl rfl rfl rfl (by kernel_rfl) (by kernel_rfl) ?_
        | refine Ev_move rfl ?_
        | refine Ev_assign rfl ?_
        | refine Ev_extract rfl rfl ?_
        | refine Ev_pick_t rfl rfl rfl ?_
        | refine Ev_neqN rfl rfl ?_)
    have htb : textB s = [] := by unfold textB; rw [if_neg (fun h => hv' h.1)]
    refine Ev_call rfl rfl ((rnumber_runs hfr.ok hv1 (by omega) (by omega)).mono ?_)
    rintro r S2 - ⟨hF2, ho2, hb2⟩
    have hn2 := hF2.n
    have hl2 := hF2.le
    repeat (
      first
        | refine WO_nil ?_
        | refine V_seq ?_
        | refine W_ret ?_
        | refine V_ret ?_
        | refine WO_dst rfl rfl (by kernel_rfl) (by kernel_rfl) ?_
        | refine Ev_assign rfl ?_)
    refine V_done rfl rfl ?_
    refine ⟨⟨by omega, by omega, hF2.ok, fun c _ h => by rw [hF2.same c (by simp [blkOf]) (by omega), hfr.same c (by simp [blkOf]) h]⟩, ?_, fun c hc => by have := hb2 c hc; omega⟩
    unfold textL; rw [htb, List.append_nil]; rw [size2] at ho2; exact ho2
end Go.Proofs.YtnlfcoojlgdgaaaDoor
/- carafelaw1.MutfWrites. (NODRAWN) -/


namespace Go.Proofs.YtnlfcoojlgdgaaaDoor
open GX
set_option maxHeartbeats 16000000
structure PartA where
  kind : Int
  bytes : Int
  n : Int
  text : List Nat
  raw : AV
  rawb : List Nat
def PartA.cells (p : PartA) : List AV := [.int .i64 p.kind, .int .i64 p.bytes, .int .i64 p.n, .str p.text, p.raw]
structure PartA.Good (p : PartA) : Prop where
  tb : ∀ b ∈ p.text, b < 256
  tl : p.text.length ≤ 1048576
  rl : p.rawb.length ≤ 1048576
  rb : ∀ b ∈ p.rawb, b < 256
  rd : ∀ S, Rd S p.raw 1 (sbytes p.rawb) p.rawb.length
theorem flat_len : ∀ (ps : List PartA), (ps.flatMap PartA.cells).length = 5 * ps.length
  | [] => rfl
  | p :: ps => by simp only [List.flatMap_cons, List.length_append, flat_len ps, PartA.cells, List.length_cons, List.length_nil]; omega
theorem flat_get : ∀ (ps : List PartA) (i : Nat) (h : i < ps.length), ((ps.flatMap PartA.cells).drop (i * 5)).take 5 = (ps[i]).cells
  | p :: ps, 0, _ => by simp [PartA.cells]
  | p :: ps, i + 1, h => by
    have e : (i + 1) * 5 = 5 + i * 5 := by omega
    rw [e, ← List.drop_drop, List.flatMap_cons, List.drop_append_of_le_length (by simp [PartA.cells])]
    have e2 : p.cells.drop 5 = [] := by simp [PartA.cells]
    rw [e2, List.nil_append]
    exact flat_get ps i (by simpa using h)
theorem PartA.veqs {p : PartA} (h : p.Good) : GX.veqs p.cells p.cells = true := by
  have h1 := (h.rd { h := .leaf, n := 0 }).self
  simp [PartA.cells, GX.veqs, veq_int, veq_str, h1]
theorem PartA.ones {p : PartA} (h : p.Good) : p.cells.all AV.one = true := by
  have h1 := sl_one (h.rd { h := .leaf, n := 0 }).sl
  simp only [PartA.cells, List.all_cons, List.all_nil, h1]; rfl
/-- the writer, and what was to be written -/
structure LM (p : Nat) (T : St) (vb w : AV) (l l' : List Nat) : Prop where
  ok : Sok T
  wr : Wr T p vb l
  ow : Ow T w l'
  np : blkOf w ≠ some p
  nv : ∀ c, blkOf w = some c → blkOf vb ≠ some c
theorem LM.fr {p : Nat} {T T' : St} {vb w : AV} {l l' : List Nat} {k : Nat} (h : LM p T vb w l l') (a : Fr T T' .nils k) : LM p T' vb w l l' :=
  ⟨a.ok, h.wr.fr h.ok a, h.ow.keep (fun c hc => a.same c (by simp [blkOf]) (h.ow.lt h.ok hc)), h.np, h.nv⟩
theorem LM.wf {p : Nat} {T T' : St} {vb vb' w : AV} {l l' l2 : List Nat} {k : Nat} (h : LM p T vb w l l') (a : WrF T T' p vb vb' k) (b : Wr T' p vb' l2) : LM p T' vb' w l2 l' :=
  ⟨a.ok, b, h.ow.keep (fun c hc => a.same c (fun g => h.np (by rw [hc, g])) (h.nv c hc) (h.ow.lt h.ok hc)), h.np, fun c hc g => by
    rcases a.bk c g with g2 | g2
    · exact h.nv c hc g2
    · have := h.ow.lt h.ok hc; omega⟩
theorem LM.of {p : Nat} {T T' : St} {vb w w' : AV} {l l' l2 : List Nat} {k : Nat} (h : LM p T vb w l l') (a : Fr T T' w k) (b : Ow T' w' l2) (hb : ∀ c, blkOf w' = some c → blkOf w = some c ∨ T.n ≤ c) : LM p T' vb w' l l2 := by
  refine ⟨a.ok, h.wr.keep (a.same p h.np (h.ok _ _ h.wr.at_)) (fun c hc => a.same c (fun g => h.nv c g hc) (h.wr.ow.lt h.ok hc)), b, fun g => ?_, fun c hc g => ?_⟩
  · rcases hb p g with g2 | g2
    · exact h.np g2
    · have := h.ok _ _ h.wr.at_; omega
  · rcases hb c hc with g2 | g2
    · exact h.nv c g2 g
    · have := h.wr.ow.lt h.ok g; omega
theorem Fr.any {T T' : St} {w : AV} {k : Nat} (a : Fr T T' .nils k) : Fr T T' w k := ⟨a.le, a.n, a.ok, fun c _ h => a.same c (by simp [blkOf]) h⟩
theorem textB_lt (s : List Nat) : ∀ b ∈ textB s, b < 256 := by
  unfold textB
  split
  · exact encS_lt
  · simp
theorem textL_lt (s : List Nat) : ∀ b ∈ textL s, b < 256 := by
  intro b hb
  unfold textL at hb
  rcases List.mem_append.1 hb with h | h
  · exact numL_lt _ _ b h
  · exact textB_lt s b h
theorem textL_len (s : List Nat) : (textL s).length ≤ 258 := by
  have := textB_len s
  unfold textL
  simp only [List.length_append, numL_len]; omega
theorem known_true {S : St} {R : AV → St → Prop} (h : R (.bool true) S) : Runs X1 15 [] S R := Runs_ext (g := extTrue) rfl rfl (Nat.le_refl _) h
theorem writes_runs {S : St} {av : AV} {ps : List PartA} (hok : Sok S) (hav : ∀ S, Rd S av 5 (ps.flatMap PartA.cells) ps.length) (hgood : ∀ p ∈ ps, p.Good) (hn : S.n ≤ 1000) :
    Runs X1 6 [av] S fun r _ => r = .bool true := by
  refine Runs_fn (m := 69) (by kernel_rfl) Tryd.func6 rfl (by kernel_rfl) (by kernel_rfl) ?_
  repeat (
    first
      | refine W_seq ?_
      | refine WO_nil ?_
      | refine V_seq ?_
      | refine W_region ?_
      | refine WO_dst rfl rfl (by kernel_rfl) (by kernel_rfl) ?_
      | refine Ev_assign rfl ?_)
  refine Ev_call rfl rfl ((new_runs hok (by omega)).mono ?_)
  rintro _ S1 - ⟨rfl, hn1, hok1, hf1, hw1⟩
  repeat (
    first
      | refine W_seq ?_
      | refine WO_nil ?_
      | refine V_seq ?_
      | refine W_region ?_
      | refine W_skip ?_
      | refine W_block ?_
      | refine W_cond_f rfl ?_
      | refine WO_dst rfl rfl (by kernel_rfl) (by kernel_rfl) ?_
      | refine Ev_move rfl ?_
      | refine Ev_assign rfl ?_
      | refine Ev_ptr_eql rfl rfl rfl rfl ?_)
  refine W_inv (fun a : Nat × AV × AV × List Nat => [(5, .int .i64 ((a.1 : Nat) : Int)), (4, a.2.2.1), (3, .ptr S.n 0), (0, av)]) (fun a T => LM S.n T a.2.1 a.2.2.1 a.2.2.2 a.2.2.2 ∧ (∀ b ∈ a.2.2.2, b < 256) ∧ a.1 ≤ 30 ∧ a.2.2.2.length ≤ 1048577 * a.1 ∧ T.n ≤ S.n + 1 + 9500000 * a.1 ∧ S.n < T.n) (fun a => 31 - a.1) ?_ (0, .nils, .nils, []) ⟨⟨hok1, hw1, .inl ⟨rfl, rfl, rfl⟩, by simp [blkOf], fun c h => by cases h⟩, by simp, by simp, by simp, by dsimp only; omega, by omega⟩ ⟨rfl, rfl, rfl, rfl, trivial⟩
  rintro ⟨i, vb, w, l⟩ T ⟨hL, hlb, hi, hll, hTn, hTl⟩ back
  dsimp only at hL hlb hi hll hTn hTl back
  repeat' (
    first
      | refine W_seq ?_
      | refine WO_nil ?_
      | refine V_seq ?_
      | refine W_region ?_
      | refine W_skip ?_
      | refine W_block ?_
      | refine W_exit ?_
      | refine V_block_x rfl ?_
      | refine V_seq_x ?_
      | refine V_loop_x ?_
      | refine W_cond_f rfl ?_
      | refine WO_dst rfl rfl (by kernel_rfl) (by kernel_rfl) ?_
      | refine WO_guard_t rfl rfl rfl rfl rfl (by kernel_rfl) (by kernel_rfl) ?_
      | refine WO_guard_f rfl rfl rfl rfl rfl rfl (by kernel_rfl) (by kernel_rfl) ?_
      | refine Ev_len rfl rfl rfl rfl rfl (hav T).len ?_
      | refine Ev_move rfl ?_
      | refine Ev_pick_t rfl rfl rfl ?_
      | refine Ev_pick_f rfl rfl rfl ?_
      | refine Ev_lssN rfl rfl ?_
      | (refine WO_guard_dt rfl rfl rfl rfl rfl (by kernel_rfl) (by kernel_rfl) (fun hg => ?_) (fun hg => ?_) <;> (try dsimp only at hg) <;> try (exfalso; first | omega | exact hg rfl))
      | (refine W_cond rfl (fun hc => ?_) (fun hc => ?_) <;> (try dsimp only at hc) <;> try (exfalso; first | omega | exact hc rfl)))
  · obtain ⟨P, hP⟩ : ∃ P, P = ps[i] := ⟨_, rfl⟩
    have hG : P.Good := hgood P (by rw [hP]; exact List.getElem_mem _)
    have hlt := flat_get ps i hg
    rw [← hP] at hlt
    refine Ev_indexAddr_rd rfl rfl rfl rfl rfl (hav T) hg ?_
    intro q hq
    repeat (
      first
        | refine WO_dst rfl rfl (by kernel_rfl) (by kernel_rfl) ?_
        | refine Ev_load_pt_agg rfl rfl rfl hq (by rw [flat_len]; dsimp only; omega) hlt (PartA.veqs hG) ?_)
    refine Ev_alloc_ rfl hL.ok (by omega) ?_
    intro T2 gn2 gok2 gq2 gf2
    repeat (
      refine WO_no rfl rfl ?_)
    refine Ev_store rfl rfl rfl rfl (PartA.ones hG) gq2 (by simp [PartA.cells, AV.cells]) (by omega) ?_
    intro T3 gn3 gq3 gf3
    have h6 : T3.h.get T.n = some (.cells 40 P.cells false) := by rw [gq3]; rfl
    have hF3 : Fr T T3 .nils 1 := ⟨by omega, by omega, Sok.upd gok2 (by omega) gn3 gq3 gf3, fun c _ h => by rw [gf3 c (by omega), gf2 c h]⟩
    have hL3 := hL.fr hF3
    repeat' (
      first
        | refine W_seq ?_
        | refine WO_nil ?_
        | refine V_seq ?_
        | refine W_region ?_
        | refine W_skip ?_
        | refine W_block ?_
        | refine V_block ?_
        | refine WO_dst rfl rfl (by kernel_rfl) (by kernel_rfl) ?_
        | refine Ev_load rfl rfl rfl h6 rfl (veq_int _ _) ?_
        | refine Ev_move rfl ?_
        | refine Ev_assign rfl ?_
        | refine Ev_eql rfl rfl ?_
        | refine Ev_fieldAddr rfl rfl rfl rfl rfl rfl ?_
        | refine Ev_addN rfl rfl (by simp only [lim]; omega) ?_
        | (refine W_cond rfl (fun hc => ?_) (fun hc => ?_) <;> (try dsimp only at hc) <;> try (exfalso; first | omega | exact hc rfl)))
    · refine Ev_call rfl rfl ((number_runs hL3.ok hL3.wr (by omega) (by omega)).mono ?_)
      rintro _ T4 - ⟨vb4, hw4, hF4⟩
      have hL4 := hL3.wf hF4 hw4
      have h64 : T4.h.get T.n = some (.cells 40 P.cells false) := by rw [hF4.same T.n (by omega) (fun g => by have := hL.wr.ow.lt hL.ok g; omega) (by omega)]; exact h6
      have gn4 := hF4.n
      have gl4 := hF4.le
      repeat (
        first
          | refine WO_nil ?_
          | refine V_seq ?_
          | refine W_region ?_
          | refine WO_dst rfl rfl (by kernel_rfl) (by kernel_rfl) ?_
          | refine Ev_load rfl rfl rfl h64 rfl (veq_int _ _) ?_
          | refine Ev_move rfl ?_
          | refine Ev_fieldAddr rfl rfl rfl rfl rfl rfl ?_)
      refine Ev_call rfl rfl ((rnumber_runs hL4.ok hL4.ow.rd (by omega) (by omega)).mono ?_)
      rintro w5 T5 - ⟨hF5, ho5, hb5⟩
      have hL5 := hL4.of hF5.any ho5 (fun c hc => .inr (hb5 c hc))
      have gn5 := hF5.n
      have gl5 := hF5.le
      repeat (
        first
          | refine WO_nil ?_
          | refine V_seq ?_
          | refine W_region ?_
          | refine V_block ?_
          | refine WO_dst rfl rfl (by kernel_rfl) (by kernel_rfl) ?_
          | refine Ev_move rfl ?_
          | refine Ev_assign rfl ?_
          | refine Ev_addN rfl rfl (by simp only [lim]; omega) ?_)
      have hsz := sizeN_le P.bytes
      refine back (i + 1, vb4, w5, _) T5 _ (by dsimp only; omega) ⟨hL5, ?_, by dsimp only; omega, ?_, by dsimp only; omega, by omega⟩ ⟨rfl, rfl, rfl, rfl, trivial⟩
      · intro b hb
        rcases List.mem_append.1 hb with h | h
        · exact hlb b h
        · exact numL_lt _ _ b h
      · simp only [List.length_append, numL_len]; omega
    · have gtl := hG.tl
      repeat (
        first
          | refine WO_dst rfl rfl (by kernel_rfl) (by kernel_rfl) ?_
          | refine Ev_load rfl rfl rfl h6 rfl (veq_str _) ?_)
      refine Ev_call rfl rfl ((wtext_runs hL3.ok hL3.wr (by omega) (by omega) (by omega)).mono ?_)
      rintro _ T4 - ⟨vb4, hw4, hF4⟩
      have hL4 := hL3.wf hF4 hw4
      have h64 : T4.h.get T.n = some (.cells 40 P.cells false) := by rw [hF4.same T.n (by omega) (fun g => by have := hL.wr.ow.lt hL.ok g; omega) (by omega)]; exact h6
      have gn4 := hF4.n
      have gl4 := hF4.le
      repeat (
        first
          | refine WO_nil ?_
          | refine V_seq ?_
          | refine W_region ?_
          | refine WO_dst rfl rfl (by kernel_rfl) (by kernel_rfl) ?_
          | refine Ev_load rfl rfl rfl h64 rfl (veq_str _) ?_
          | refine Ev_move rfl ?_
          | refine Ev_fieldAddr rfl rfl rfl rfl rfl rfl ?_)
      refine Ev_call rfl rfl ((rtext_runs hL4.ok hL4.ow.rd hG.tb (by omega) (by omega) (by omega)).mono ?_)
      rintro w5 T5 - ⟨hF5, ho5, hb5⟩
      have hL5 := hL4.of hF5.any ho5 (fun c hc => .inr (hb5 c hc))
      have gn5 := hF5.n
      have gl5 := hF5.le
      repeat (
        first
          | refine WO_nil ?_
          | refine V_seq ?_
          | refine W_region ?_
          | refine V_block ?_
          | refine WO_dst rfl rfl (by kernel_rfl) (by kernel_rfl) ?_
          | refine Ev_move rfl ?_
          | refine Ev_assign rfl ?_
          | refine Ev_addN rfl rfl (by simp only [lim]; omega) ?_)
      have htl := textL_len P.text
      refine back (i + 1, vb4, w5, _) T5 _ (by dsimp only; omega) ⟨hL5, ?_, by dsimp only; omega, ?_, by dsimp only; omega, by omega⟩ ⟨rfl, rfl, rfl, rfl, trivial⟩
      · intro b hb
        rcases List.mem_append.1 hb with h | h
        · exact hlb b h
        · exact textL_lt P.text b h
      · simp only [List.length_append]; omega
    · have grl := hG.rl
      repeat (
        first
          | refine WO_dst rfl rfl (by kernel_rfl) (by kernel_rfl) ?_
          | refine Ev_load rfl rfl rfl h6 rfl (hG.rd T3).self ?_)
      refine Ev_call rfl rfl ((wbytes_runs hL3.ok hL3.wr (hG.rd T3) (by omega) (by omega) (by omega)).mono ?_)
      rintro _ T4 - ⟨vb4, hw4, hF4⟩
      have hL4 := hL3.wf hF4 hw4
      have h64 : T4.h.get T.n = some (.cells 40 P.cells false) := by rw [hF4.same T.n (by omega) (fun g => by have := hL.wr.ow.lt hL.ok g; omega) (by omega)]; exact h6
      have gn4 := hF4.n
      have gl4 := hF4.le
      repeat (
        first
          | refine WO_nil ?_
          | refine V_seq ?_
          | refine W_region ?_
          | refine WO_dst rfl rfl (by kernel_rfl) (by kernel_rfl) ?_
          | refine Ev_load rfl rfl rfl h64 rfl (hG.rd T4).self ?_
          | refine Ev_move rfl ?_
          | refine Ev_fieldAddr rfl rfl rfl rfl rfl rfl ?_)
      refine Ev_append rfl rfl rfl rfl rfl rfl rfl rfl rfl rfl hL4.ow (hG.rd T4) (by first | exact sbytes_one _ | (unfold sbytes; simp [AV.one])) hL4.ok (by omega) (by dsimp only; omega) (by omega) ?_
      intro w5 T5 gl5 gn5 gok5 ho5 gf5 hb5
      have hF5 : Fr T4 T5 w 1 := ⟨gl5, gn5, gok5, gf5⟩
      have ho5' : Ow T5 w5 (l ++ P.rawb) := ho5.eq (sbytes_app _ _).symm (by simp)
      have hL5 := hL4.of hF5 ho5' hb5
      repeat (
        first
          | refine WO_nil ?_
          | refine V_seq ?_
          | refine W_region ?_
          | refine V_block ?_
          | refine WO_dst rfl rfl (by kernel_rfl) (by kernel_rfl) ?_
          | refine Ev_move rfl ?_
          | refine Ev_assign rfl ?_
          | refine Ev_addN rfl rfl (by simp only [lim]; omega) ?_)
      refine back (i + 1, vb4, w5, _) T5 _ (by dsimp only; omega) ⟨hL5, ?_, by dsimp only; omega, ?_, by dsimp only; omega, by omega⟩ ⟨rfl, rfl, rfl, rfl, trivial⟩
      · intro b hb
        rcases List.mem_append.1 hb with h | h
        · exact hlb b h
        · exact hG.rb b h
      · simp only [List.length_append]; omega
    · have gl5 : T.n ≤ T3.n := hF3.le
      have gn5 := hF3.n
      exact back (i + 1, vb, w, l) T3 _ (by dsimp only; omega) ⟨hL3, hlb, by dsimp only; omega, by dsimp only; omega, by dsimp only; omega, by omega⟩ ⟨rfl, rfl, rfl, rfl, trivial⟩
  all_goals
    obtain ⟨B, hB⟩ : ∃ B : List Nat, ∀ b, b ∈ B ↔ blkOf w = some b := ⟨(blkOf w).toList, by simp⟩
    refine W_drawnB B (fun b hb => hL.ow.lt hL.ok ((hB b).1 hb)) (by kernel_rfl) ?_
    repeat (
      first
        | refine WD_pa rfl rfl (by kernel_rfl) (by kernel_rfl) rfl ?_
        | refine Ev_move rfl ?_)
    refine WD_ld rfl rfl (by kernel_rfl) (by kernel_rfl) (by kernel_rfl) ?_
    refine Ev_call rfl rfl ((done_runs hL.ok hL.wr (by omega) (by omega)).mono ?_)
    rintro v S2 - ⟨hF, hz, hbv⟩
    have hS : ∀ b ∈ B, S2.h.get b = T.h.get b := fun b hb => hF.same b (by simp [blkOf]) (hL.ow.lt hL.ok ((hB b).1 hb))
    refine ⟨hS, ?_⟩
    refine WD_rs rfl rfl (by kernel_rfl) (by kernel_rfl) (by kernel_rfl) (by kernel_rfl) ?_
    refine Ev_conv_to_str rfl rfl rfl rfl rfl rfl rfl hz.rd (bytesOf_sbytes hlb) ?_
    repeat (
      first
        | refine WD_pa rfl rfl (by kernel_rfl) (by kernel_rfl) rfl ?_
        | refine Ev_move rfl ?_)
    have hw2 := hL.ow.keep (fun b hb => hS b ((hB b).2 hb))
    refine WD_rf rfl rfl (by kernel_rfl) (by kernel_rfl) hS (FP_conv rfl rfl rfl rfl rfl rfl rfl hS (fun b hb => (hB b).2 hb) hw2.rd (bytesOf_sbytes hlb)) (veq_str _) ?_
    repeat' (
      first
        | refine WD_pa rfl rfl (by kernel_rfl) (by kernel_rfl) rfl ?_
        | refine Ev_move rfl ?_
        | refine Ev_seql rfl rfl ?_
        | (refine WD_guard_dt rfl rfl rfl rfl rfl (by kernel_rfl) (by kernel_rfl) (fun hg => ?_) (fun hg => ?_) <;> (try dsimp only at hg) <;> try (exfalso; first | omega | exact hg rfl)))
    refine WD_ld rfl rfl (by kernel_rfl) (by kernel_rfl) (by kernel_rfl) ?_
    refine Ev_call rfl rfl (known_true ?_)
    refine ⟨hS, ?_⟩
    repeat (
      first
        | refine WD_nil ?_
        | refine WD_pa rfl rfl (by kernel_rfl) (by kernel_rfl) rfl ?_
        | refine V_seq ?_
        | refine W_ret ?_
        | refine Ev_assign rfl ?_
        | refine Ev_pick_t rfl rfl rfl ?_)
    repeat (
      refine W_seq ?_)
    refine V_done rfl rfl ?_
    rfl
end Go.Proofs.YtnlfcoojlgdgaaaDoor
