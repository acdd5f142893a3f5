/- What the row leans on, part 11: texts one behind the other. No condition. -/
import Derived.Test.YtnlfcoojlgdgaaaDoorMg10
import Derived.Lib.ValidLaws
import Derived.Test.YtnlfcoojlgdgaaaDoorMg9
import Derived.KernelRfl
import Derived.Test.YtnlfcoojlgdgaaaDoorMg6
/- Texts in mutf: what is encoded is decoded to itself, and the other way round. Plain. -/


namespace Go.Proofs.YtnlfcoojlgdgaaaDoor
open GX
set_option maxHeartbeats 4000000
/-! UTF-8 -/
theorem dec_rune {c : Nat} (h : okR c) (t : List Nat) : decodeR (runeL c ++ t) = (c, (runeL c).length) := by
  unfold okR at h
  unfold runeL
  split
  · rename_i h1
    show decodeR (c :: t) = _
    unfold decodeR
    dsimp only
    rw [if_pos (by omega)]; rfl
  · split
    · show decodeR ((192 + c / 64) :: (128 + c % 64) :: t) = _
      unfold decodeR
      dsimp only
      rw [if_neg (by omega), if_pos (by simp; omega)]
      have he : (192 + c / 64) % 32 * 64 + (128 + c % 64) % 64 = c := by omega
      simp only [List.getD_cons_zero]
      rw [he, if_pos (by omega)]; rfl
    · split
      · show decodeR ((224 + c / 4096) :: (128 + c / 64 % 64) :: (128 + c % 64) :: t) = _
        unfold decodeR
        dsimp only
        rw [if_neg (by omega), if_neg (by simp; omega), if_pos (by simp; omega)]
        have hv : Utf8.valid ((c : Nat) : Int) = true := by unfold Utf8.valid; simp; omega
        have he : (224 + c / 4096) % 16 * 4096 + (128 + c / 64 % 64) % 64 * 64 + (128 + c % 64) % 64 = c := by omega
        simp only [List.getD_cons_zero, List.getD_cons_succ]
        rw [he, if_pos (by rw [hv]; simp; omega)]; rfl
      · show decodeR ((240 + c / 262144) :: (128 + c / 4096 % 64) :: (128 + c / 64 % 64) :: (128 + c % 64) :: t) = _
        unfold decodeR
        dsimp only
        rw [if_neg (by omega), if_neg (by simp; omega), if_neg (by simp; omega), if_pos (by simp; omega)]
        have hv : Utf8.valid ((c : Nat) : Int) = true := by unfold Utf8.valid; simp; omega
        have he : (240 + c / 262144) % 8 * 262144 + (128 + c / 4096 % 64) % 64 * 4096 + (128 + c / 64 % 64) % 64 * 64 + (128 + c % 64) % 64 = c := by omega
        simp only [List.getD_cons_zero, List.getD_cons_succ]
        rw [he, if_pos (by rw [hv]; simp; omega)]; rfl
theorem runeL_ne (c : Nat) : runeL c ≠ [] := by unfold runeL; (repeat' split) <;> simp
theorem dec_ok (l : List Nat) : okR (decodeR l).1 := by
  unfold okR decodeR
  split
  · simp [Utf8.runeError]
  · dsimp only
    split
    · dsimp only; omega
    · split
      · split
        · dsimp only; omega
        · simp [Utf8.runeError]
      · split
        · split
          · rename_i h
            simp only [Bool.and_eq_true, Utf8.valid] at h
            dsimp only
            simp at h ⊢
            omega
          · simp [Utf8.runeError]
        · split
          · split
            · rename_i h
              simp only [Bool.and_eq_true, Utf8.valid] at h
              dsimp only
              simp at h ⊢
              omega
            · simp [Utf8.runeError]
          · simp [Utf8.runeError]
theorem runesS_ok {l : List Nat} : ∀ c ∈ runesS l, okR c := by
  induction l using runesS.induct with
  | case1 => rw [runesS_nil]; simp
  | case2 b t ih =>
    rw [runesS_ne (by simp)]
    intro c hc
    rcases List.mem_cons.1 hc with h | h
    · rw [h]; exact dec_ok _
    · exact ih c h
theorem runesS_rune {c : Nat} (h : okR c) (t : List Nat) : runesS (runeL c ++ t) = c :: runesS t := by
  rw [runesS_ne (by simp [runeL_ne]), dec_rune h, List.drop_left]
/-- the text of some runes -/
def txt (cs : List Nat) : List Nat := cs.flatMap runeL
theorem runesS_txt {cs : List Nat} (h : ∀ c ∈ cs, okR c) (t : List Nat) : runesS (txt cs ++ t) = cs ++ runesS t := by
  induction cs with
  | nil => rfl
  | cons c cs ih =>
    show runesS (runeL c ++ txt cs ++ t) = _
    rw [List.append_assoc, runesS_rune (h c (by simp)), ih fun d hd => h d (by simp [hd])]; rfl
theorem txt_lt {cs : List Nat} (h : ∀ c ∈ cs, okR c) : ∀ b ∈ txt cs, b < 256 := by
  intro b hb
  obtain ⟨c, hc, hb⟩ := List.mem_flatMap.1 hb
  exact runeL_lt (h c hc) b hb
theorem encS_txt {cs : List Nat} (h : ∀ c ∈ cs, okR c) (t : List Nat) : encS (txt cs ++ t) = cs.flatMap enc1 ++ encS t := by
  unfold encS; rw [runesS_txt h, List.flatMap_append]
theorem of_to {x : List Nat} (h : ∀ b ∈ x, b < 256) : (x.map UInt8.ofNat).map (·.toNat) = x := by
  rw [List.map_map]
  conv => rhs; rw [← List.map_id x]
  apply List.map_congr_left
  intro b hb
  have := h b hb
  simp
  omega
theorem decodeL_R {x : List Nat} (h : ∀ b ∈ x, b < 256) (hne : x ≠ []) : Lib.decodeL (x.map UInt8.ofNat) = decodeR x := by
  have hb : GX.bytes ⟨(x.map UInt8.ofNat).toArray⟩ = x := by
    unfold GX.bytes
    rw [show ((⟨(x.map UInt8.ofNat).toArray⟩ : ByteArray).data.toList) = x.map UInt8.ofNat from rfl, of_to h]
  have hs : 0 < (⟨(x.map UInt8.ofNat).toArray⟩ : ByteArray).size := by
    show 0 < (x.map UInt8.ofNat).toArray.size
    simp; exact List.length_pos_iff.2 hne
  have := decodeR_eq ⟨(x.map UInt8.ofNat).toArray⟩ 0 hs
  rw [hb, List.drop_zero] at this
  rw [this]; rfl
theorem vS_nil : vS [] = true := rfl
theorem vS_step {x : List Nat} (h : ∀ b ∈ x, b < 256) (hne : x ≠ []) : vS x = if (decodeR x).1 = 65533 ∧ (decodeR x).2 = 1 then false else vS (x.drop (decodeR x).2) := by
  unfold vS
  rw [Lib.validD_step _ (by simpa using hne), decodeL_R h hne, List.map_drop]
theorem vS_rune {c : Nat} (h : okR c) {t : List Nat} (ht : ∀ b ∈ t, b < 256) : vS (runeL c ++ t) = vS t := by
  rw [vS_step (fun b hb => (List.mem_append.1 hb).elim (runeL_lt h b) (ht b)) (by simp [runeL_ne]), dec_rune h, List.drop_left, if_neg]
  rintro ⟨h1, h2⟩
  dsimp only at h1 h2
  subst h1
  simp [runeL] at h2
theorem vS_txt {cs : List Nat} (h : ∀ c ∈ cs, okR c) {t : List Nat} (ht : ∀ b ∈ t, b < 256) : vS (txt cs ++ t) = vS t := by
  induction cs with
  | nil => rfl
  | cons c cs ih =>
    have h' : ∀ d ∈ cs, okR d := fun d hd => h d (by simp [hd])
    show vS (runeL c ++ txt cs ++ t) = _
    rw [List.append_assoc, vS_rune (h c (by simp)) (fun b hb => (List.mem_append.1 hb).elim (txt_lt h' b) (ht b)), ih h']
/-! mutf -/
theorem unitL_lt {r : Nat} (h : r < 65536) : ∀ b ∈ unitL r, b < 256 := by
  unfold unitL
  (repeat' split) <;> intro b hb <;> simp at hb <;> omega
theorem unitL_nz {r : Nat} : ∀ b ∈ unitL r, b ≠ 0 := by
  unfold unitL
  (repeat' split) <;> intro b hb <;> simp at hb <;> omega
theorem enc1_nz {c : Nat} : ∀ b ∈ enc1 c, b ≠ 0 := by
  unfold enc1
  split
  · intro b hb; exact (List.mem_append.1 hb).elim (unitL_nz b) (unitL_nz b)
  · exact unitL_nz
theorem enc1_lt {c : Nat} (h : c < 1114112) : ∀ b ∈ enc1 c, b < 256 := by
  unfold enc1
  split
  · intro b hb; exact (List.mem_append.1 hb).elim (unitL_lt (by omega) b) (unitL_lt (by omega) b)
  · exact unitL_lt (by omega)
theorem encS_nz {l : List Nat} : ∀ b ∈ encS l, b ≠ 0 := by
  intro b hb
  obtain ⟨c, _, hb⟩ := List.mem_flatMap.1 hb
  exact enc1_nz b hb
theorem encS_lt {l : List Nat} : ∀ b ∈ encS l, b < 256 := by
  intro b hb
  obtain ⟨c, hc, hb⟩ := List.mem_flatMap.1 hb
  exact enc1_lt (runesS_lt c hc) b hb
theorem unitL_ne (r : Nat) : unitL r ≠ [] := by unfold unitL; (repeat' split) <;> simp
theorem one_unit {r : Nat} (h : r < 65536) (t : List Nat) : oneL (unitL r ++ t) = (r, (unitL r).length) := by
  unfold unitL
  split
  · rename_i h1
    show oneL (r :: t) = _
    unfold oneL
    rw [if_pos (by simp; omega)]; rfl
  · split
    · rename_i h1 h2
      show oneL ((192 + r / 64) :: (128 + r % 64) :: t) = _
      unfold oneL
      rw [if_neg (by simp; omega), if_pos (by simp; omega), if_pos (by simp; omega)]
      simp; omega
    · show oneL ((224 + r / 4096) :: (128 + r / 64 % 64) :: (128 + r % 64) :: t) = _
      unfold oneL
      rw [if_neg (by simp; omega), if_neg (by simp; omega), if_pos (by simp; omega), if_pos (by simp; omega)]
      simp; omega
theorem dec_enc1 {c : Nat} (h : okR c) (t : List Nat) : decS (enc1 c ++ t) = (decS t).map (runeL c ++ ·) := by
  unfold okR at h
  unfold enc1
  by_cases hc : 65535 < c
  · obtain ⟨A, hA⟩ : ∃ A, A = 55296 + (c - 65536) / 1024 := ⟨_, rfl⟩
    obtain ⟨B, hB⟩ : ∃ B, B = 56320 + (c - 65536) % 1024 := ⟨_, rfl⟩
    have he : 65536 + (A - 55296) * 1024 + (B - 56320) = c := by omega
    have l1 : (unitL A).length = 3 := by unfold unitL; rw [if_neg (by omega), if_neg (by omega)]; rfl
    have l2 : (unitL B).length = 3 := by unfold unitL; rw [if_neg (by omega), if_neg (by omega)]; rfl
    have d1 : (unitL A ++ (unitL B ++ t)).drop (unitL A).length = unitL B ++ t := List.drop_left
    have d2 : (unitL A ++ (unitL B ++ t)).drop ((unitL A).length + (unitL B).length) = t := by rw [← List.drop_drop, d1, List.drop_left]
    have o1 := one_unit (r := A) (by omega) (unitL B ++ t)
    have o2 := one_unit (r := B) (by omega) t
    rw [if_pos hc, ← hA, ← hB, List.append_assoc, decS, dif_neg (by simp [unitL_ne]), o1]
    dsimp only
    rw [d1, o2]
    dsimp only
    rw [dif_neg (by omega), if_pos (by omega), if_neg (by omega), d2, he]
  · rw [if_neg hc, decS, dif_neg (by simp [unitL_ne]), one_unit (by omega)]
    dsimp only
    have : 0 < (unitL c).length := List.length_pos_iff.2 (unitL_ne c)
    rw [dif_neg (by omega), if_neg (by omega), List.drop_left]
theorem decS_nil : decS [] = some [] := by rw [decS]; rfl
theorem dec_encs {cs : List Nat} (h : ∀ c ∈ cs, okR c) : decS (cs.flatMap enc1) = some (txt cs) := by
  induction cs with
  | nil => exact decS_nil
  | cons c cs ih =>
    show decS (enc1 c ++ cs.flatMap enc1) = _
    rw [dec_enc1 (h c (by simp)), ih fun d hd => h d (by simp [hd])]; rfl
theorem unit_one {l : List Nat} (h : ∀ b ∈ l, b < 256) (hk : (oneL l).2 ≠ 0) : l = unitL (oneL l).1 ++ l.drop (oneL l).2 := by
  have g0 : l.getD 0 0 < 256 := getD_lt h (by omega)
  have g1 : l.getD 1 0 < 256 := getD_lt h (by omega)
  have g2 : l.getD 2 0 < 256 := getD_lt h (by omega)
  have c1 : 0 < l.length → ∃ a t, l = a :: t := fun h => by
    cases l with
    | nil => simp at h
    | cons a t => exact ⟨a, t, rfl⟩
  have c2 : 1 < l.length → ∃ a b t, l = a :: b :: t := fun h => by
    match l, h with
    | a :: b :: t, _ => exact ⟨a, b, t, rfl⟩
    | [a], h => simp at h
    | [], h => simp at h
  have c3 : 2 < l.length → ∃ a b c t, l = a :: b :: c :: t := fun h => by
    match l, h with
    | a :: b :: c :: t, _ => exact ⟨a, b, c, t, rfl⟩
    | [a, b], h => simp at h
    | [a], h => simp at h
    | [], h => simp at h
  unfold oneL at hk ⊢
  split
  · rename_i h1
    obtain ⟨a, t, rfl⟩ := c1 h1.1
    simp only [List.getD_cons_zero] at h1 ⊢
    unfold unitL
    rw [if_pos (by omega)]; rfl
  · rename_i h1
    rw [if_neg h1] at hk
    split
    · rename_i h2
      rw [if_pos h2] at hk
      split
      · rename_i h3
        obtain ⟨a, b, t, rfl⟩ := c2 h2.1
        simp only [List.getD_cons_zero, List.getD_cons_succ] at h1 h2 h3 g0 g1 ⊢
        unfold unitL
        rw [if_neg (by omega), if_pos (by omega)]
        simp
        omega
      · rename_i h3; rw [if_neg h3] at hk; exact absurd rfl hk
    · rename_i h2
      rw [if_neg h2] at hk
      split
      · rename_i h3
        rw [if_pos h3] at hk
        split
        · rename_i h4
          obtain ⟨a, b, c, t, rfl⟩ := c3 h3.1
          simp only [List.getD_cons_zero, List.getD_cons_succ] at h1 h2 h3 h4 g0 g1 g2 ⊢
          unfold unitL
          rw [if_neg (by omega), if_neg (by omega)]
          simp
          omega
        · rename_i h4; rw [if_neg h4] at hk; exact absurd rfl hk
      · rename_i h3; rw [if_neg h3] at hk; exact absurd rfl hk
/-- what is decoded is the text of runes that are encoded back -/
theorem dec_back : ∀ (n : Nat) {l u : List Nat}, l.length ≤ n → (∀ b ∈ l, b < 256) → decS l = some u → ∃ cs, (∀ c ∈ cs, okR c) ∧ u = txt cs ∧ l = cs.flatMap enc1
  | n, l, u, hn, hb, h => by
    rw [decS] at h
    by_cases h0 : l = []
    · rw [dif_pos h0] at h
      cases h
      exact ⟨[], by simp, rfl, h0⟩
    · rw [dif_neg h0] at h
      by_cases h1 : (oneL l).2 = 0 ∨ (56320 ≤ (oneL l).1 ∧ (oneL l).1 ≤ 57343)
      · rw [dif_pos h1] at h; cases h
      · rw [dif_neg h1] at h
        have hk : (oneL l).2 ≠ 0 := by omega
        have hu := unit_one hb hk
        have hb' : ∀ b ∈ l.drop (oneL l).2, b < 256 := fun b h => hb b (List.mem_of_mem_drop h)
        have hlen : 0 < l.length := List.length_pos_iff.2 h0
        have hr := oneL_lt hb
        cases n with
        | zero => omega
        | succ n =>
          split at h
          · rename_i h2
            split at h
            · cases h
            · rename_i h3
              obtain ⟨u', hu', rfl⟩ := Option.map_eq_some_iff.1 h
              have hu2 := unit_one hb' (by omega)
              obtain ⟨cs, k1, k2, k3⟩ := dec_back n (by rw [List.length_drop]; omega) (fun b h => hb b (List.mem_of_mem_drop h)) hu'
              have hr2 := oneL_lt hb'
              refine ⟨(65536 + ((oneL l).1 - 55296) * 1024 + ((oneL (l.drop (oneL l).2)).1 - 56320)) :: cs, ?_, by rw [k2]; rfl, ?_⟩
              · intro c hc
                rcases List.mem_cons.1 hc with h | h
                · rw [h]; unfold okR; omega
                · exact k1 c h
              · have he : enc1 (65536 + ((oneL l).1 - 55296) * 1024 + ((oneL (l.drop (oneL l).2)).1 - 56320)) = unitL (oneL l).1 ++ unitL (oneL (l.drop (oneL l).2)).1 := by
                  unfold enc1
                  have e1 : 55296 + (65536 + ((oneL l).1 - 55296) * 1024 + ((oneL (l.drop (oneL l).2)).1 - 56320) - 65536) / 1024 = (oneL l).1 := by omega
                  have e2 : 56320 + (65536 + ((oneL l).1 - 55296) * 1024 + ((oneL (l.drop (oneL l).2)).1 - 56320) - 65536) % 1024 = (oneL (l.drop (oneL l).2)).1 := by omega
                  rw [if_pos (by omega), e1, e2]
                rw [List.flatMap_cons, he, ← k3, ← List.drop_drop, List.append_assoc, ← hu2, ← hu]
          · rename_i h2
            obtain ⟨u', hu', rfl⟩ := Option.map_eq_some_iff.1 h
            obtain ⟨cs, k1, k2, k3⟩ := dec_back n (by rw [List.length_drop]; omega) hb' hu'
            refine ⟨(oneL l).1 :: cs, ?_, by rw [k2]; rfl, ?_⟩
            · intro c hc
              rcases List.mem_cons.1 hc with h | h
              · rw [h]; unfold okR; omega
              · exact k1 c h
            · rw [List.flatMap_cons, ← k3]
              have he : enc1 (oneL l).1 = unitL (oneL l).1 := by unfold enc1; rw [if_neg (by omega)]
              rw [he, ← hu]
/-- the text that a text's runes make -/
def normS (s : List Nat) : List Nat := txt (runesS s)
theorem runesOf_eq {cs : List Nat} (h : ∀ c ∈ cs, okR c) : runesOf (cs.map fun c => AV.int .i32 ((c : Nat) : Int)) = some (txt cs) := by
  induction cs with
  | nil => rfl
  | cons c cs ih =>
    show runesOf (AV.int .i32 ((c : Nat) : Int) :: cs.map fun c => AV.int .i32 ((c : Nat) : Int)) = _
    unfold runesOf
    rw [ih fun d hd => h d (by simp [hd]), encodeR_runeL (h c (by simp))]; rfl
theorem normS_lt (s : List Nat) : ∀ b ∈ normS s, b < 256 := txt_lt runesS_ok
theorem normS_len (s : List Nat) : (normS s).length ≤ 4 * s.length := by
  have h : ∀ cs : List Nat, (txt cs).length ≤ 4 * cs.length := by
    intro cs
    induction cs with
    | nil => simp [txt]
    | cons c cs ih =>
      show (runeL c ++ txt cs).length ≤ _
      have := runeL_len c
      simp only [List.length_append, List.length_cons]
      omega
  have h2 := h (runesS s)
  have := runesS_len (l := s)
  unfold normS
  omega
theorem vS_norm (s : List Nat) : vS (normS s) = true := by
  have := vS_txt (cs := runesS s) runesS_ok (t := []) (by simp)
  rw [List.append_nil] at this
  exact this
theorem encS_norm (s : List Nat) : encS (normS s) = (runesS s).flatMap enc1 := by
  have := encS_txt (cs := runesS s) runesS_ok []
  rw [List.append_nil, encS_nil, List.append_nil] at this
  exact this
theorem dec_norm (s : List Nat) : decS (encS (normS s)) = some (normS s) := by rw [encS_norm]; exact dec_encs runesS_ok
theorem dec_then {l u : List Nat} (hb : ∀ b ∈ l, b < 256) (h : decS l = some u) : vS u = true ∧ encS u = l ∧ ∀ b ∈ u, b < 256 := by
  obtain ⟨cs, k1, rfl, rfl⟩ := dec_back _ (Nat.le_refl _) hb h
  have h1 := vS_txt k1 (t := []) (by simp)
  have h2 := encS_txt k1 []
  rw [List.append_nil] at h1 h2
  rw [encS_nil, List.append_nil] at h2
  exact ⟨h1, h2, txt_lt k1⟩
end Go.Proofs.YtnlfcoojlgdgaaaDoor
/- mutf.unit: what it appends to bytes. -/

namespace Go.Proofs.YtnlfcoojlgdgaaaDoor
open GX
set_option maxHeartbeats 4000000
theorem unit_runs {S : St} {v : AV} {l : List Nat} {r : Nat} (hv : Ow S v l) (hok : Sok S) (hn : S.n + 2 ≤ 1000000000) (hl : l.length ≤ 1000000000) (hr : r < 65536) :
    Runs X1 43 [v, .int .i32 (r : Int)] S fun v' S' => Fr S S' v 2 ∧ Ow S' v' (l ++ unitL r) ∧ ∀ c, blkOf v' = some c → blkOf v = some c ∨ S.n ≤ c := by
  refine Runs_fn (m := 47) (by kernel_rfl) Tryd.func43 rfl (by kernel_rfl) (by kernel_rfl) ?_
  repeat' (
    first
      | refine W_seq ?_
      | refine WO_nil ?_
      | refine V_seq ?_
      | refine W_region ?_
      | refine W_block ?_
      | refine W_skip ?_
      | refine V_block ?_
      | refine W_cond_f rfl ?_
      | refine WO_dst rfl rfl (by kernel_rfl) (by kernel_rfl) ?_
      | refine WO_guard_t rfl rfl rfl rfl rfl (by kernel_rfl) (by kernel_rfl) ?_
      | refine WO_guard_f rfl rfl rfl rfl rfl rfl (by kernel_rfl) (by kernel_rfl) ?_
      | refine Ev_move rfl ?_
      | refine Ev_assign rfl ?_
      | refine Ev_pick_t rfl rfl rfl ?_
      | refine Ev_pick_f rfl rfl rfl ?_
      | refine Ev_lssN rfl rfl ?_
      | refine Ev_gtrN rfl rfl ?_
      | refine Ev_shrN (m := 6) (q := 64) rfl rfl rfl rfl ?_
      | refine Ev_shrN (m := 12) (q := 4096) rfl rfl rfl rfl ?_
      | refine Ev_andN 6 64 rfl rfl rfl rfl (by simp only [lim]; omega) (by simp only [lim]; omega) ?_
      | refine Ev_orN 4 rfl rfl rfl (by first | omega | (dsimp only; done) | (dsimp only; omega)) (by first | omega | (dsimp only; done) | (dsimp only; omega)) (by simp only [lim]; omega) ?_
      | refine Ev_orN 5 rfl rfl rfl (by first | omega | (dsimp only; done) | (dsimp only; omega)) (by first | omega | (dsimp only; done) | (dsimp only; omega)) (by simp only [lim]; omega) ?_
      | refine Ev_orN 6 rfl rfl rfl (by first | omega | (dsimp only; done) | (dsimp only; omega)) (by first | omega | (dsimp only; done) | (dsimp only; omega)) (by simp only [lim]; omega) ?_
      | refine Ev_convN rfl rfl rfl rfl rfl (by simp only [lim]; omega) ?_
      | (refine WO_guard_dt rfl rfl rfl rfl rfl (by kernel_rfl) (by kernel_rfl) (fun hg => ?_) (fun hg => ?_) <;> (try dsimp only at hg) <;> try (exfalso; first | omega | exact hg rfl))
      | (refine W_cond rfl (fun hc => ?_) (fun hc => ?_) <;> (try dsimp only at hc) <;> try (exfalso; first | omega | exact hc rfl)))
  all_goals
    refine Ev_buildSlice rfl rfl rfl rfl rfl rfl hok (by omega) ?_
    intro S1 hn1 hok1 hq1 hf1
    repeat (
      refine WO_dst rfl rfl (by kernel_rfl) (by kernel_rfl) ?_)
    refine Ev_append rfl rfl rfl rfl rfl rfl rfl rfl rfl rfl (hv.keep (fun b hb => hf1 b (hv.lt hok hb))) (Rd_lit hq1 rfl (by kernel_rfl)) rfl hok1 (by omega) (by dsimp only; omega) (by omega) ?_
    intro v2 S2 hle2 hn2 hok2 hown2 hf2 hb2
    repeat (
      first
        | refine WO_nil ?_
        | refine V_seq ?_
        | refine W_ret ?_
        | refine V_ret ?_
        | refine WO_dst rfl rfl (by kernel_rfl) (by kernel_rfl) ?_
        | refine Ev_assign rfl ?_)
    refine V_done rfl rfl ?_
    refine ⟨⟨by omega, by omega, hok2, fun c h1 h2 => by rw [hf2 c h1 (by omega), hf1 c h2]⟩, ?_, fun c hc => (hb2 c hc).imp id (fun h => by omega)⟩
    refine hown2.eq ?_ ?_
    · simp [sbytes, unitL, *] <;> rfl
    · simp [unitL, *]
end Go.Proofs.YtnlfcoojlgdgaaaDoor
/- mutf.Encode: what it answers. -/

namespace Go.Proofs.YtnlfcoojlgdgaaaDoor
open GX
set_option maxHeartbeats 4000000
theorem valid_runs {s : List Nat} {S : St} (hl : s.length < 9223372036854775808) {R : AV → St → Prop} (h : R (.bool (vS s)) S) : Runs X1 42 [.str s] S R :=
  Runs_ext (g := extValid) rfl (by unfold extValid; dsimp only; rw [nblt, decide_eq_true hl]; rfl) (Nat.le_refl _) h
structure EncR (S0 : St) (s : List Nat) (r : AV) (S' : St) : Prop where
  fr : Fr S0 S' .nils (4 * s.length + 1)
  out : ∃ v, r = .tup [v, .int .i64 (if vS s = true then 0 else 12)] ∧ Ow S' v (if vS s = true then encS s else []) ∧ ∀ c, blkOf v = some c → S0.n ≤ c
structure EncI (S : St) (s : List Nat) (a : Nat × AV × List Nat) (T : St) : Prop where
  le : a.1 ≤ s.length
  ok : Sok T
  it : T.h.get S.n = some (.sit s a.1)
  ow : Ow T a.2.1 a.2.2
  eq : a.2.2 ++ encS (s.drop a.1) = encS s
  len : a.2.2.length ≤ 6 * a.1
  lt : S.n < T.n
  n : T.n + 4 * (s.length - a.1) ≤ S.n + (4 * s.length + 1)
  fr : ∀ c, c < S.n → T.h.get c = S.h.get c
  bk : ∀ c, blkOf a.2.1 = some c → S.n < c
theorem enc_runs {S : St} {s : List Nat} (hok : Sok S) (hl : s.length ≤ 100000000) (hn : S.n + (4 * s.length + 1) ≤ 1000000000) : Runs X1 11 [.str s] S (EncR S s) := by
  refine Runs_fn (m := 31) (by kernel_rfl) Tryd.func11 rfl (by kernel_rfl) (by kernel_rfl) ?_
  repeat (
    first
      | refine W_seq ?_
      | refine WO_nil ?_
      | refine V_seq ?_
      | refine W_region ?_
      | refine WO_dst rfl rfl (by kernel_rfl) (by kernel_rfl) ?_
      | refine Ev_move rfl ?_
      | refine Ev_assign rfl ?_)
  refine Ev_call rfl rfl (valid_runs (by omega) ?_)
  repeat (
    first
      | refine WO_nil ?_
      | refine V_seq ?_
      | refine WO_dst rfl rfl (by kernel_rfl) (by kernel_rfl) ?_
      | refine Ev_notb rfl ?_)
  refine W_condb rfl (fun hc => ?_) (fun hc => ?_)
  · have hv : vS s = false := by simpa using hc
    repeat (
      first
        | refine W_seq ?_
        | refine WO_nil ?_
        | refine V_seq ?_
        | refine W_region ?_
        | refine W_ret ?_
        | refine V_ret ?_
        | refine WO_dst rfl rfl (by kernel_rfl) (by kernel_rfl) ?_
        | refine Ev_assign rfl ?_)
    refine V_done rfl rfl ?_
    exact ⟨⟨Nat.le_refl _, by omega, hok, fun _ _ _ => rfl⟩, .nils, by rw [hv]; rfl, by rw [hv]; exact .inl ⟨rfl, rfl, rfl⟩, fun c hc => by cases hc⟩
  · have hv : vS s = true := by simpa using hc
    repeat (
      first
        | refine W_seq ?_
        | refine WO_nil ?_
        | refine V_seq ?_
        | refine W_region ?_
        | refine W_skip ?_
        | refine WO_dst rfl rfl (by kernel_rfl) (by kernel_rfl) ?_
        | refine Ev_move rfl ?_
        | refine Ev_assign rfl ?_)
    refine Ev_range rfl rfl rfl hok (by omega) ?_
    intro S1 hn1 hok1 hq1 hf1
    repeat (
      first
        | refine WO_nil ?_
        | refine V_seq ?_
        | refine W_block ?_)
    refine W_inv (fun a : Nat × AV × List Nat => [(11, .ptr S.n 0), (4, a.2.1)]) (EncI S s) (fun a => s.length - a.1) ?_ (0, .nils, []) ?_ ⟨rfl, rfl, trivial⟩
    · rintro ⟨pos, v, l⟩ T ⟨hle, hokT, hit, how, heq, hlen, hlt, hnT, hfr, hbk⟩ back
      dsimp only at hle hit how heq hlen hnT hbk back
      repeat (
        first
          | refine W_seq ?_
          | refine W_region ?_
          | refine WO_dst rfl rfl (by kernel_rfl) (by kernel_rfl) ?_)
      by_cases hd : s.drop pos = []
      · refine Ev_next_end rfl hit hd ?_
        repeat (
          first
            | refine W_seq ?_
            | refine WO_nil ?_
            | refine V_seq ?_
            | refine W_region ?_
            | refine W_ret ?_
            | refine W_exit ?_
            | refine V_block_x rfl ?_
            | refine V_seq_x ?_
            | refine V_loop_x ?_
            | refine W_cond_f rfl ?_
            | refine WO_dst rfl rfl (by kernel_rfl) (by kernel_rfl) ?_
            | refine Ev_move rfl ?_
            | refine Ev_assign rfl ?_
            | refine Ev_extract rfl rfl ?_)
        refine V_done rfl rfl ?_
        refine ⟨⟨by omega, by omega, hokT, fun c _ h => hfr c h⟩, v, by rw [hv]; rfl, ?_, fun c hc => by have := hbk c hc; omega⟩
        rw [if_pos hv, ← heq, hd, encS_nil, List.append_nil]; exact how
      · obtain ⟨c, w, hcw⟩ : ∃ c w, decodeR (s.drop pos) = (c, w) := ⟨_, _, rfl⟩
        have hc : c < 1114112 := by have := dec_lt (s.drop pos); rw [hcw] at this; exact this
        have hwl : pos + w ≤ s.length := by have := dec_le hd; rw [hcw, List.length_drop] at this; dsimp only at this; omega
        have hw : 1 ≤ w := by have := dec_pos (s.drop pos); rw [hcw] at this; exact this
        have hpl : pos < s.length := by
          rcases Nat.lt_or_ge pos s.length with h | h
          · exact h
          · exact absurd (List.drop_eq_nil_of_le h) hd
        have heq' : l ++ (enc1 c ++ encS (s.drop (pos + w))) = encS s := by
          rw [← heq, encS_ne hd, hcw, List.drop_drop]
        refine Ev_next rfl hit hd hcw (by omega) ?_
        intro T1 hn1 hit1 hf1
        have hok1 : Sok T1 := by
          intro b x hb
          rw [hn1]
          by_cases h : b = S.n
          · omega
          · rw [hf1 b h] at hb; exact hokT b x hb
        have how1 : Ow T1 v l := how.keep fun b hb => hf1 b (by have := hbk b hb; omega)
        repeat (
          first
            | refine W_seq ?_
            | refine WO_nil ?_
            | refine V_seq ?_
            | refine W_region ?_
            | refine W_block ?_
            | refine W_skip ?_
            | refine W_cond_t rfl ?_
            | refine WO_dst rfl rfl (by kernel_rfl) (by kernel_rfl) ?_
            | refine Ev_move rfl ?_
            | refine Ev_assign rfl ?_
            | refine Ev_extract rfl rfl ?_
            | refine Ev_gtrN rfl rfl ?_)
        refine W_cond rfl (fun hc1 => ?_) (fun hc1 => ?_)
        · dsimp only at hc1
          repeat (
            first
              | refine W_seq ?_
              | refine WO_nil ?_
              | refine V_seq ?_
              | refine W_region ?_
              | refine WO_dst rfl rfl (by kernel_rfl) (by kernel_rfl) ?_
              | refine Ev_move rfl ?_
              | refine Ev_assign rfl ?_
              | refine Ev_addN rfl rfl (by simp only [lim]; omega) ?_
              | refine Ev_subN rfl rfl (by simp only [lim]; omega) (by first | omega | (dsimp only; done) | (dsimp only; omega)) ?_
              | refine Ev_shrN (m := 10) (q := 1024) rfl rfl rfl rfl ?_)
          refine Ev_call rfl rfl ((unit_runs how1 hok1 (by omega) (by omega) (by dsimp only; omega)).mono ?_)
          rintro v2 T2 - ⟨hF2, how2, hb2⟩
          have hle2 := hF2.le; have hn2 := hF2.n
          repeat (
            first
              | refine WO_nil ?_
              | refine V_seq ?_
              | refine W_region ?_
              | refine WO_dst rfl rfl (by kernel_rfl) (by kernel_rfl) ?_
              | refine Ev_move rfl ?_
              | refine Ev_assign rfl ?_
              | refine Ev_addN rfl rfl (by simp only [lim]; omega) ?_
              | refine Ev_andN 10 1024 rfl rfl rfl rfl (by simp only [lim]; omega) (by simp only [lim]; omega) ?_)
          refine Ev_call rfl rfl ((unit_runs how2 hF2.ok (by omega) (by have := unitL_len (55296 + (c - 65536) / 1024); simp only [List.length_append]; omega) (by dsimp only; omega)).mono ?_)
          rintro v3 T3 - ⟨hF3, how3, hb3⟩
          have hle3 := hF3.le; have hn3 := hF3.n
          repeat (
            first
              | refine WO_nil ?_
              | refine V_block ?_
              | refine WO_dst rfl rfl (by kernel_rfl) (by kernel_rfl) ?_
              | refine Ev_assign rfl ?_)
          have he1 : enc1 c = unitL (55296 + (c - 65536) / 1024) ++ unitL (56320 + (c - 65536) % 1024) := by unfold enc1; rw [if_pos hc1]
          have h6 := enc1_len c
          have hbk2 : ∀ b, blkOf v2 = some b → S.n < b := fun b hb => by
            rcases hb2 b hb with h | h
            · exact hbk b h
            · omega
          refine back (pos + w, v3, l ++ enc1 c) T3 _ (by dsimp only; omega) ⟨?_, hF3.ok, ?_, ?_, ?_, ?_, by omega, by dsimp only; omega, ?_, ?_⟩ ⟨rfl, rfl, trivial⟩
          · dsimp only; omega
          · rw [hF3.same _ (by intro h; have := hbk2 _ h; omega) (by omega), hF2.same _ (by intro h; have := hbk _ h; omega) (by omega)]; exact hit1
          · rw [he1]; exact how3.eq (by rw [List.append_assoc]) (by rw [List.append_assoc])
          · dsimp only; rw [List.append_assoc]; exact heq'
          · dsimp only; rw [List.length_append]; omega
          · intro b hb
            rw [hF3.same _ (by intro h; have := hbk2 _ h; omega) (by omega), hF2.same _ (by intro h; have := hbk _ h; omega) (by omega), hf1 b (by omega)]; exact hfr b hb
          · intro b hb
            rcases hb3 b hb with h | h
            · exact hbk2 b h
            · omega
        · dsimp only at hc1
          repeat (
            first
              | refine V_seq ?_
              | refine W_region ?_
              | refine W_skip ?_
              | refine WO_dst rfl rfl (by kernel_rfl) (by kernel_rfl) ?_
              | refine Ev_move rfl ?_)
          refine Ev_call rfl rfl ((unit_runs how1 hok1 (by omega) (by omega) (by omega)).mono ?_)
          rintro v3 T3 - ⟨hF3, how3, hb3⟩
          have hle3 := hF3.le; have hn3 := hF3.n
          repeat (
            first
              | refine WO_nil ?_
              | refine V_block ?_
              | refine WO_dst rfl rfl (by kernel_rfl) (by kernel_rfl) ?_
              | refine Ev_assign rfl ?_)
          have he1 : enc1 c = unitL c := by unfold enc1; rw [if_neg hc1]
          have h6 := enc1_len c
          refine back (pos + w, v3, l ++ enc1 c) T3 _ (by dsimp only; omega) ⟨?_, hF3.ok, ?_, ?_, ?_, ?_, by omega, by dsimp only; omega, ?_, ?_⟩ ⟨rfl, rfl, trivial⟩
          · dsimp only; omega
          · rw [hF3.same _ (by intro h; have := hbk _ h; omega) (by omega)]; exact hit1
          · rw [he1]; exact how3
          · dsimp only; rw [List.append_assoc]; exact heq'
          · dsimp only; rw [List.length_append]; omega
          · intro b hb
            rw [hF3.same _ (by intro h; have := hbk _ h; omega) (by omega), hf1 b (by omega)]; exact hfr b hb
          · intro b hb
            rcases hb3 b hb with h | h
            · exact hbk b h
            · omega
    · exact ⟨by simp, hok1, hq1, .inl ⟨rfl, rfl, rfl⟩, by simp, by simp, by omega, by dsimp only; omega, hf1, fun c hc => by cases hc⟩
end Go.Proofs.YtnlfcoojlgdgaaaDoor
/- caraferef1: valid, three, Encode. -/


namespace Go.Proofs.YtnlfcoojlgdgaaaDoor
open GX
set_option maxHeartbeats 8000000
/-- what begins with a rune -/
theorem rune_dec {x : List Nat} (hne : x ≠ []) (h : ∀ b ∈ x, b < 256) (hv : ¬ ((decodeR x).1 = 65533 ∧ (decodeR x).2 = 1)) : x = runeL (decodeR x).1 ++ x.drop (decodeR x).2 := by
  cases x with
  | nil => exact absurd rfl hne
  | cons a t =>
    have ha : a < 256 := h a (by simp)
    unfold decodeR at hv ⊢
    dsimp only at hv ⊢
    by_cases h1 : a < 128
    · rw [if_pos h1] at hv ⊢
      unfold runeL
      rw [if_pos (by omega)]; rfl
    · rw [if_neg h1] at hv ⊢
      by_cases h2 : (a / 32 == 6 && t.getD 0 0 / 64 == 2) = true
      · rw [if_pos h2] at hv ⊢
        by_cases h3 : a % 32 * 64 + t.getD 0 0 % 64 ≥ 128
        · rw [if_pos h3] at hv ⊢
          cases t with
          | nil => simp at h2
          | cons b t =>
            simp only [List.getD_cons_zero, Bool.and_eq_true, beq_iff_eq] at h2 h3 ⊢
            unfold runeL
            rw [if_neg (by omega), if_pos (by omega)]
            simp
            omega
        · rw [if_neg h3] at hv; exact absurd ⟨rfl, rfl⟩ hv
      · rw [if_neg h2] at hv ⊢
        by_cases h4 : (a / 16 == 14 && t.getD 0 0 / 64 == 2 && t.getD 1 0 / 64 == 2) = true
        · rw [if_pos h4] at hv ⊢
          obtain ⟨z, hz⟩ : ∃ z, z = a % 16 * 4096 + t.getD 0 0 % 64 * 64 + t.getD 1 0 % 64 := ⟨_, rfl⟩
          rw [← hz] at hv ⊢
          by_cases h5 : (decide (z ≥ 2048) && Utf8.valid ((z : Nat) : Int)) = true
          · rw [if_pos h5] at hv ⊢
            simp only [Bool.and_eq_true, decide_eq_true_eq] at h5
            have ht : ∃ b c t', t = b :: c :: t' := by
              clear hz
              match t, h4 with
              | [], h4 => simp at h4
              | [b], h4 => simp at h4
              | b :: c :: t, _ => exact ⟨b, c, t, rfl⟩
            obtain ⟨b, c, t, rfl⟩ := ht
            simp only [List.getD_cons_zero, List.getD_cons_succ, Bool.and_eq_true, beq_iff_eq] at h4 hz ⊢
            unfold runeL
            rw [if_neg (by omega), if_neg (by omega), if_pos (by omega)]
            simp
            omega
          · rw [if_neg h5] at hv; exact absurd ⟨rfl, rfl⟩ hv
        · rw [if_neg h4] at hv ⊢
          by_cases h6 : (a / 8 == 30 && t.getD 0 0 / 64 == 2 && t.getD 1 0 / 64 == 2 && t.getD 2 0 / 64 == 2) = true
          · rw [if_pos h6] at hv ⊢
            obtain ⟨z, hz⟩ : ∃ z, z = a % 8 * 262144 + t.getD 0 0 % 64 * 4096 + t.getD 1 0 % 64 * 64 + t.getD 2 0 % 64 := ⟨_, rfl⟩
            rw [← hz] at hv ⊢
            by_cases h7 : (decide (z ≥ 65536) && Utf8.valid ((z : Nat) : Int)) = true
            · rw [if_pos h7] at hv ⊢
              simp only [Bool.and_eq_true, decide_eq_true_eq] at h7
              have hz2 : Utf8.valid ((z : Nat) : Int) = true := h7.2
              have ht : ∃ b c d t', t = b :: c :: d :: t' := by
                clear hz
                match t, h6 with
                | [], h6 => simp at h6
                | [b], h6 => simp at h6
                | [b, c], h6 => simp at h6
                | b :: c :: d :: t, _ => exact ⟨b, c, d, t, rfl⟩
              obtain ⟨b, c, d, t, rfl⟩ := ht
              simp only [List.getD_cons_zero, List.getD_cons_succ, Bool.and_eq_true, beq_iff_eq] at h6 hz ⊢
              unfold runeL
              rw [if_neg (by omega), if_neg (by omega), if_neg (by omega)]
              simp
              omega
            · rw [if_neg h7] at hv; exact absurd ⟨rfl, rfl⟩ hv
          · rw [if_neg h6] at hv; exact absurd ⟨rfl, rfl⟩ hv
theorem norm_of_valid : ∀ (n : Nat) {x : List Nat}, x.length ≤ n → (∀ b ∈ x, b < 256) → vS x = true → normS x = x
  | n, x, hn, hb, hv => by
    by_cases h0 : x = []
    · subst h0; unfold normS; rw [runesS_nil]; rfl
    · have hl : 0 < x.length := List.length_pos_iff.2 h0
      cases n with
      | zero => omega
      | succ n =>
        rw [vS_step hb h0] at hv
        split at hv
        · cases hv
        · rename_i h1
          have hx := rune_dec h0 hb h1
          have hp := dec_pos x
          have ih := norm_of_valid n (x := x.drop (decodeR x).2) (by rw [List.length_drop]; omega) (fun b h => hb b (List.mem_of_mem_drop h)) hv
          unfold normS at ih ⊢
          rw [runesS_ne h0]
          show runeL (decodeR x).1 ++ txt (runesS (x.drop (decodeR x).2)) = x
          rw [ih, ← hx]
theorem vS_iff {x : List Nat} (hb : ∀ b ∈ x, b < 256) : vS x = decide (normS x = x) := by
  by_cases h : vS x = true
  · rw [h, decide_eq_true (norm_of_valid _ (Nat.le_refl _) hb h)]
  · have h2 : ¬ normS x = x := fun h2 => h (by rw [← h2]; exact vS_norm x)
    rw [decide_eq_false h2]; simpa using h
theorem runes_rd {S : St} {s : List Nat} {q el : Nat} (h : S.h.get q = some (.cells el (runesFrom s.length s) true)) : Rd S (.slice q 0 (runesFrom s.length s).length (.op 1)) 1 (runesFrom s.length s) (runesFrom s.length s).length :=
  Rd_lit h (by rw [Nat.mul_one]) rfl
theorem runes_of (s : List Nat) : runesOf (runesFrom s.length s) = some (normS s) := by
  rw [runesFrom_eq (Nat.le_refl _), runesOf_eq runesS_ok]; rfl
theorem rvalid_runs {S : St} {s : List Nat} (hok : Sok S) (hn : S.n < 1000000000) (hb : ∀ b ∈ s, b < 256) (hlm : s.length < 9223372036854775808) : Runs X1 44 [.str s] S fun r S' => r = .bool (vS s) ∧ Fr S S' .nils 1 := by
  refine Runs_fn (m := 8) (by kernel_rfl) Tryd.func44 rfl (by kernel_rfl) (by kernel_rfl) ?_
  repeat (
    first
      | refine W_seq ?_
      | refine WO_nil ?_
      | refine V_seq ?_
      | refine W_region ?_
      | refine WO_dst rfl rfl (by kernel_rfl) (by kernel_rfl) ?_
      | refine Ev_move rfl ?_
      | refine Ev_assign rfl ?_)
  refine Ev_conv_runes rfl rfl rfl rfl rfl rfl rfl rfl hok (by omega) ?_
  intro S1 hn1 hok1 hq1 hf1
  repeat (
    refine WO_dst rfl rfl (by kernel_rfl) (by kernel_rfl) ?_)
  refine Ev_conv_to_str_r rfl rfl rfl rfl rfl rfl rfl (runes_rd hq1) (runes_of s) ?_
  repeat (
    first
      | refine WO_nil ?_
      | refine V_seq ?_
      | refine W_ret ?_
      | refine WO_dst rfl rfl (by kernel_rfl) (by kernel_rfl) ?_
      | refine Ev_move rfl ?_
      | refine Ev_assign rfl ?_
      | refine Ev_seql rfl rfl ?_)
  refine V_done rfl rfl ?_
  exact ⟨by rw [vS_iff hb]; rfl, by omega, by omega, hok1, fun c _ h => hf1 c h⟩
def three (n : Nat) : List Nat := [224 + n / 4096, 128 + n / 64 % 64, 128 + n % 64]
theorem three_runs {S : St} {n : Nat} (hok : Sok S) (hn : S.n < 1000000000) (hl : n < 65536) : Runs X1 45 [.int .i64 (n : Int)] S fun r S' => Fr S S' .nils 1 ∧ Rd S' r 1 (sbytes (three n)) 3 ∧ ∀ b, blkOf r = some b → S.n ≤ b := by
  refine Runs_fn (m := 17) (by kernel_rfl) Tryd.func45 rfl (by kernel_rfl) (by kernel_rfl) ?_
  repeat (
    first
      | refine W_seq ?_
      | refine WO_nil ?_
      | refine V_seq ?_
      | refine W_region ?_
      | refine WO_dst rfl rfl (by kernel_rfl) (by kernel_rfl) ?_
      | refine Ev_move rfl ?_
      | refine Ev_assign rfl ?_
      | refine Ev_shrN (m := 6) (q := 64) rfl rfl rfl rfl ?_
      | refine Ev_shrN (m := 12) (q := 4096) rfl rfl rfl rfl ?_
      | refine Ev_andN 6 64 rfl rfl rfl rfl (by simp only [lim]; omega) (by simp only [lim]; omega) ?_
      | refine Ev_orN 4 rfl rfl rfl (by first | omega | (dsimp only; done) | (dsimp only; omega)) (by first | omega | (dsimp only; done) | (dsimp only; omega)) (by simp only [lim]; omega) ?_
      | refine Ev_orN 6 rfl rfl rfl (by first | omega | (dsimp only; done) | (dsimp only; omega)) (by first | omega | (dsimp only; done) | (dsimp only; omega)) (by simp only [lim]; omega) ?_
      | refine Ev_convN rfl rfl rfl rfl rfl (by simp only [lim]; omega) ?_)
  refine Ev_buildSlice rfl rfl rfl rfl rfl rfl hok (by omega) ?_
  intro S1 hn1 hok1 hq1 hf1
  repeat (
    first
      | refine WO_nil ?_
      | refine V_seq ?_
      | refine W_ret ?_
      | refine WO_dst rfl rfl (by kernel_rfl) (by kernel_rfl) ?_
      | refine Ev_assign rfl ?_)
  refine V_done rfl rfl ?_
  refine ⟨⟨by omega, by omega, hok1, fun c _ h => hf1 c h⟩, ?_, fun b h => by cases h; exact Nat.le_refl _⟩
  refine (Rd_lit hq1 rfl (by kernel_rfl)).eq ?_ rfl
  simp [sbytes, three, lput, rep, AV.cells]
structure REncR (S0 : St) (s : List Nat) (r : AV) (S' : St) : Prop where
  fr : Fr S0 S' .nils (4 * s.length + 2)
  out : ∃ v, r = .tup [v, .int .i64 (if vS s = true then 0 else 12)] ∧ Ow S' v (if vS s = true then encS s else []) ∧ ∀ c, blkOf v = some c → S0.n ≤ c
theorem three_unit {n : Nat} (h : 2048 ≤ n) : three n = unitL n := by unfold three unitL; rw [if_neg (by omega), if_neg (by omega)]
structure REncI (S : St) (q : Nat) (s : List Nat) (a : Nat × AV × List Nat) (T : St) : Prop where
  le : a.1 ≤ s.length
  ok : Sok T
  it : T.h.get q = some (.sit s a.1)
  ow : Ow T a.2.1 a.2.2
  eq : a.2.2 ++ encS (s.drop a.1) = encS s
  len : a.2.2.length ≤ 6 * a.1
  lt : q < T.n
  n : T.n + 4 * (s.length - a.1) ≤ S.n + (4 * s.length + 2)
  fr : ∀ c, c < S.n → T.h.get c = S.h.get c
  bk : ∀ c, blkOf a.2.1 = some c → q < c
theorem renc_runs {S : St} {s : List Nat} (hok : Sok S) (hb : ∀ b ∈ s, b < 256) (hl : s.length ≤ 100000000) (hn : S.n + (4 * s.length + 2) ≤ 1000000000) : Runs X1 12 [.str s] S (REncR S s) := by
  refine Runs_fn (m := 66) (by kernel_rfl) Tryd.func12 rfl (by kernel_rfl) (by kernel_rfl) ?_
  repeat (
    first
      | refine W_seq ?_
      | refine WO_nil ?_
      | refine V_seq ?_
      | refine W_region ?_
      | refine WO_dst rfl rfl (by kernel_rfl) (by kernel_rfl) ?_
      | refine Ev_move rfl ?_
      | refine Ev_assign rfl ?_)
  refine Ev_call rfl rfl ((rvalid_runs hok (by omega) hb (by omega)).mono ?_)
  rintro _ S0 - ⟨rfl, hle0, hn0, hok0, hf0⟩
  repeat (
    first
      | refine WO_nil ?_
      | refine V_seq ?_
      | refine WO_dst rfl rfl (by kernel_rfl) (by kernel_rfl) ?_
      | refine Ev_notb rfl ?_)
  refine W_condb rfl (fun hc => ?_) (fun hc => ?_)
  · have hv : vS s = false := by simpa using hc
    repeat (
      first
        | refine W_seq ?_
        | refine WO_nil ?_
        | refine V_seq ?_
        | refine W_region ?_
        | refine W_ret ?_
        | refine V_ret ?_
        | refine WO_dst rfl rfl (by kernel_rfl) (by kernel_rfl) ?_
        | refine Ev_assign rfl ?_)
    refine V_done rfl rfl ?_
    exact ⟨⟨by omega, by omega, hok0, fun c h1 h2 => hf0 c h1 h2⟩, .nils, by rw [hv]; rfl, by rw [hv]; exact .inl ⟨rfl, rfl, rfl⟩, fun c hc => by cases hc⟩
  · have hv : vS s = true := by simpa using hc
    repeat (
      first
        | refine W_seq ?_
        | refine WO_nil ?_
        | refine V_seq ?_
        | refine W_region ?_
        | refine W_skip ?_
        | refine WO_dst rfl rfl (by kernel_rfl) (by kernel_rfl) ?_
        | refine Ev_move rfl ?_
        | refine Ev_assign rfl ?_)
    refine Ev_range rfl rfl rfl hok0 (by omega) ?_
    intro S1 hn1 hok1 hq1 hf1
    have hfS : ∀ c, c < S.n → S1.h.get c = S.h.get c := fun c h => by rw [hf1 c (by omega), hf0 c (by simp [blkOf]) h]
    repeat (
      first
        | refine WO_nil ?_
        | refine V_seq ?_
        | refine W_block ?_)
    refine W_inv (fun a : Nat × AV × List Nat => [(12, .ptr S0.n 0), (4, a.2.1)]) (REncI S S0.n s) (fun a => s.length - a.1) ?_ (0, .nils, []) ?_ ⟨rfl, rfl, trivial⟩
    · rintro ⟨pos, v, l⟩ T ⟨hle, hokT, hit, how, heq, hlen, hlt, hnT, hfr, hbk⟩ back
      dsimp only at hle hit how heq hlen hnT hbk back
      repeat (
        first
          | refine W_seq ?_
          | refine W_region ?_
          | refine WO_dst rfl rfl (by kernel_rfl) (by kernel_rfl) ?_)
      by_cases hd : s.drop pos = []
      · refine Ev_next_end rfl hit hd ?_
        repeat (
          first
            | refine W_seq ?_
            | refine WO_nil ?_
            | refine V_seq ?_
            | refine W_region ?_
            | refine W_ret ?_
            | refine W_exit ?_
            | refine V_block_x rfl ?_
            | refine V_seq_x ?_
            | refine V_loop_x ?_
            | refine W_cond_f rfl ?_
            | refine WO_dst rfl rfl (by kernel_rfl) (by kernel_rfl) ?_
            | refine Ev_move rfl ?_
            | refine Ev_assign rfl ?_
            | refine Ev_extract rfl rfl ?_)
        refine V_done rfl rfl ?_
        refine ⟨⟨by omega, by omega, hokT, fun c _ h => hfr c h⟩, v, by rw [hv]; rfl, ?_, fun c hc => by have := hbk c hc; omega⟩
        rw [if_pos hv, ← heq, hd, encS_nil, List.append_nil]; exact how
      · obtain ⟨c, w, hcw⟩ : ∃ c w, decodeR (s.drop pos) = (c, w) := ⟨_, _, rfl⟩
        have hc : c < 1114112 := by have := dec_lt (s.drop pos); rw [hcw] at this; exact this
        have hwl : pos + w ≤ s.length := by have := dec_le hd; rw [hcw, List.length_drop] at this; dsimp only at this; omega
        have hw : 1 ≤ w := by have := dec_pos (s.drop pos); rw [hcw] at this; exact this
        have heq' : l ++ (enc1 c ++ encS (s.drop (pos + w))) = encS s := by
          rw [← heq, encS_ne hd, hcw, List.drop_drop]
        refine Ev_next rfl hit hd hcw (by omega) ?_
        intro T1 hn1 hit1 hf1
        have hok1 : Sok T1 := by
          intro b x hb
          rw [hn1]
          by_cases h : b = S0.n
          · omega
          · rw [hf1 b h] at hb; exact hokT b x hb
        have how1 : Ow T1 v l := how.keep fun b hb => hf1 b (by have := hbk b hb; omega)
        have hfrq : ∀ b, b < S.n → T1.h.get b = S.h.get b := fun b h => by rw [hf1 b (by omega)]; exact hfr b h
        have h6 := enc1_len c
        -- what is appended, and back
        have hI : ∀ (v3 : AV) (T3 : St), Sok T3 → Ow T3 v3 (l ++ enc1 c) → T1.n ≤ T3.n → T3.n ≤ T1.n + 4 → (∀ b, blkOf v ≠ some b → b < T1.n → T3.h.get b = T1.h.get b) → (∀ b, blkOf v3 = some b → blkOf v = some b ∨ T1.n ≤ b) → REncI S S0.n s (pos + w, v3, l ++ enc1 c) T3 := by
          intro v3 T3 hok3 how3 hle3 hn3 hf3 hb3
          refine ⟨hwl, hok3, ?_, how3, ?_, ?_, by omega, by dsimp only; omega, ?_, ?_⟩
          · rw [hf3 _ (by intro h; have := hbk _ h; omega) (by omega)]; exact hit1
          · dsimp only; rw [List.append_assoc]; exact heq'
          · dsimp only; rw [List.length_append]; omega
          · intro b hb
            rw [hf3 _ (by intro h; have := hbk _ h; omega) (by omega)]; exact hfrq b hb
          · intro b hb
            rcases hb3 b hb with h | h
            · exact hbk b h
            · omega
        repeat' (
          first
            | refine W_seq ?_
            | refine WO_nil ?_
            | refine V_seq ?_
            | refine W_region ?_
            | refine W_block ?_
            | refine W_skip ?_
            | refine W_cond_t rfl ?_
            | refine W_cond_f rfl ?_
            | refine WO_dst rfl rfl (by kernel_rfl) (by kernel_rfl) ?_
            | refine WO_guard_t rfl rfl rfl rfl rfl (by kernel_rfl) (by kernel_rfl) ?_
            | refine WO_guard_f rfl rfl rfl rfl rfl rfl (by kernel_rfl) (by kernel_rfl) ?_
            | refine Ev_move rfl ?_
            | refine Ev_assign rfl ?_
            | refine Ev_extract rfl rfl ?_
            | refine Ev_pick_t rfl rfl rfl ?_
            | refine Ev_pick_f rfl rfl rfl ?_
            | refine Ev_lssN rfl rfl ?_
            | refine Ev_gtrN rfl rfl ?_
            | refine Ev_addN rfl rfl (by simp only [lim]; omega) ?_
            | refine Ev_subN rfl rfl (by simp only [lim]; omega) (by first | omega | (dsimp only; done) | (dsimp only; omega)) ?_
            | refine Ev_shrN (m := 6) (q := 64) rfl rfl rfl rfl ?_
            | refine Ev_shrN (m := 10) (q := 1024) rfl rfl rfl rfl ?_
            | refine Ev_andN 6 64 rfl rfl rfl rfl (by simp only [lim]; omega) (by simp only [lim]; omega) ?_
            | refine Ev_orN 4 rfl rfl rfl (by first | omega | (dsimp only; done) | (dsimp only; omega)) (by first | omega | (dsimp only; done) | (dsimp only; omega)) (by simp only [lim]; omega) ?_
            | refine Ev_orN 5 rfl rfl rfl (by first | omega | (dsimp only; done) | (dsimp only; omega)) (by first | omega | (dsimp only; done) | (dsimp only; omega)) (by simp only [lim]; omega) ?_
            | refine Ev_orN 6 rfl rfl rfl (by first | omega | (dsimp only; done) | (dsimp only; omega)) (by first | omega | (dsimp only; done) | (dsimp only; omega)) (by simp only [lim]; omega) ?_
            | refine Ev_convN rfl rfl rfl rfl rfl (by simp only [lim]; omega) ?_
            | (refine WO_guard_dt rfl rfl rfl rfl rfl (by kernel_rfl) (by kernel_rfl) (fun hg => ?_) (fun hg => ?_) <;> (try dsimp only at hg) <;> try (exfalso; first | omega | exact hg rfl))
            | (refine W_cond rfl (fun hc => ?_) (fun hc => ?_) <;> (try dsimp only at hc) <;> try (exfalso; first | omega | exact hc rfl)))
        · have he : enc1 c = [c] := by unfold enc1 unitL; rw [if_neg (by omega), if_pos (by omega)]
          refine Ev_buildSlice rfl rfl rfl rfl rfl rfl hok1 (by omega) ?_
          intro S2 hn2 hok2 hq2 hf2
          repeat (
            refine WO_dst rfl rfl (by kernel_rfl) (by kernel_rfl) ?_)
          refine Ev_append rfl rfl rfl rfl rfl rfl rfl rfl rfl rfl (how1.keep (fun b h => hf2 b (how1.lt hok1 h))) (Rd_lit hq2 rfl (by kernel_rfl)) rfl hok2 (by omega) (by dsimp only; omega) (by omega) ?_
          intro v3 T3 hle3 hn3 hok3 how3 hf3 hb3
          repeat (
            first
              | refine WO_nil ?_
              | refine V_block ?_
              | refine WO_dst rfl rfl (by kernel_rfl) (by kernel_rfl) ?_
              | refine Ev_assign rfl ?_)
          refine back (pos + w, v3, l ++ enc1 c) T3 _ (by dsimp only; omega) (hI v3 T3 hok3 (how3.eq (by rw [he, sbytes_app]; simp [sbytes, lput, rep, AV.cells]) (by rw [he, List.length_append]; rfl)) (by omega) (by omega) (fun b h1 h2 => by rw [hf3 b h1 (by omega), hf2 b h2]) (fun b h => (hb3 b h).imp id (fun h => by omega))) ⟨rfl, rfl, trivial⟩
        · have he : enc1 c = [192 + c / 64, 128 + c % 64] := by unfold enc1 unitL; rw [if_neg (by omega), if_neg (by omega), if_pos (by omega)]
          refine Ev_buildSlice rfl rfl rfl rfl rfl rfl hok1 (by omega) ?_
          intro S2 hn2 hok2 hq2 hf2
          repeat (
            refine WO_dst rfl rfl (by kernel_rfl) (by kernel_rfl) ?_)
          refine Ev_append rfl rfl rfl rfl rfl rfl rfl rfl rfl rfl (how1.keep (fun b h => hf2 b (how1.lt hok1 h))) (Rd_lit hq2 rfl (by kernel_rfl)) rfl hok2 (by omega) (by dsimp only; omega) (by omega) ?_
          intro v3 T3 hle3 hn3 hok3 how3 hf3 hb3
          repeat (
            first
              | refine WO_nil ?_
              | refine V_block ?_
              | refine WO_dst rfl rfl (by kernel_rfl) (by kernel_rfl) ?_
              | refine Ev_assign rfl ?_)
          refine back (pos + w, v3, l ++ enc1 c) T3 _ (by dsimp only; omega) (hI v3 T3 hok3 (how3.eq (by rw [he, sbytes_app]; simp [sbytes, lput, rep, AV.cells]) (by rw [he, List.length_append]; rfl)) (by omega) (by omega) (fun b h1 h2 => by rw [hf3 b h1 (by omega), hf2 b h2]) (fun b h => (hb3 b h).imp id (fun h => by omega))) ⟨rfl, rfl, trivial⟩
        · have he : enc1 c = three c := by rw [three_unit (by omega)]; unfold enc1; rw [if_neg (by omega)]
          refine Ev_call rfl rfl ((three_runs hok1 (by omega) (by omega)).mono ?_)
          rintro v2 S2 - ⟨⟨hle2, hn2, hok2, hf2⟩, hrd2, hb2⟩
          repeat (
            refine WO_dst rfl rfl (by kernel_rfl) (by kernel_rfl) ?_)
          refine Ev_append rfl rfl rfl rfl rfl rfl rfl rfl rfl rfl (how1.keep (fun b h => hf2 b (by simp [blkOf]) (how1.lt hok1 h))) hrd2 (sbytes_one _) hok2 (by omega) (by dsimp only; omega) (by omega) ?_
          intro v3 T3 hle3 hn3 hok3 how3 hf3 hb3
          repeat (
            first
              | refine WO_nil ?_
              | refine V_block ?_
              | refine WO_dst rfl rfl (by kernel_rfl) (by kernel_rfl) ?_
              | refine Ev_assign rfl ?_)
          refine back (pos + w, v3, l ++ enc1 c) T3 _ (by dsimp only; omega) (hI v3 T3 hok3 (how3.eq (by rw [he, sbytes_app]) (by rw [he, List.length_append]; rfl)) (by omega) (by omega) (fun b h1 h2 => by rw [hf3 b h1 (by omega), hf2 b (by simp [blkOf]) h2]) (fun b h => (hb3 b h).imp id (fun h => by omega))) ⟨rfl, rfl, trivial⟩
        · obtain ⟨A, hA⟩ : ∃ A, A = 55296 + (c - 65536) / 1024 := ⟨_, rfl⟩
          obtain ⟨B, hB⟩ : ∃ B, B = 56320 + (c - 65536) % 1024 := ⟨_, rfl⟩
          have he : enc1 c = three A ++ three B := by rw [three_unit (by omega), three_unit (by omega), hA, hB]; unfold enc1; rw [if_pos (by omega)]
          refine Ev_call rfl rfl ((three_runs hok1 (by omega) (by dsimp only; omega)).mono ?_)
          rintro v2 S2 - ⟨⟨hle2, hn2, hok2, hf2⟩, hrd2, hb2⟩
          repeat (
            refine WO_dst rfl rfl (by kernel_rfl) (by kernel_rfl) ?_)
          refine Ev_append rfl rfl rfl rfl rfl rfl rfl rfl rfl rfl (how1.keep (fun b h => hf2 b (by simp [blkOf]) (how1.lt hok1 h))) hrd2 (sbytes_one _) hok2 (by omega) (by dsimp only; omega) (by omega) ?_
          intro v3 T3 hle3 hn3 hok3 how3 hf3 hb3
          repeat (
            first
              | refine WO_nil ?_
              | refine V_seq ?_
              | refine W_region ?_
              | refine WO_dst rfl rfl (by kernel_rfl) (by kernel_rfl) ?_
              | refine Ev_move rfl ?_
              | refine Ev_assign rfl ?_
              | refine Ev_addN rfl rfl (by simp only [lim]; omega) ?_
              | refine Ev_subN rfl rfl (by simp only [lim]; omega) (by first | omega | (dsimp only; done) | (dsimp only; omega)) ?_
              | refine Ev_andN 10 1024 rfl rfl rfl rfl (by simp only [lim]; omega) (by simp only [lim]; omega) ?_)
          refine Ev_call rfl rfl ((three_runs hok3 (by omega) (by dsimp only; omega)).mono ?_)
          rintro v4 S4 - ⟨⟨hle4, hn4, hok4, hf4⟩, hrd4, hb4⟩
          repeat (
            refine WO_dst rfl rfl (by kernel_rfl) (by kernel_rfl) ?_)
          refine Ev_append rfl rfl rfl rfl rfl rfl rfl rfl rfl rfl (how3.keep (fun b h => hf4 b (by simp [blkOf]) (how3.lt hok3 h))) hrd4 (sbytes_one _) hok4 (by omega) (by dsimp only; omega) (by omega) ?_
          intro v5 T5 hle5 hn5 hok5 how5 hf5 hb5
          repeat (
            first
              | refine WO_nil ?_
              | refine V_block ?_
              | refine WO_dst rfl rfl (by kernel_rfl) (by kernel_rfl) ?_
              | refine Ev_assign rfl ?_)
          refine back (pos + w, v5, l ++ enc1 c) T5 _ (by dsimp only; omega) (hI v5 T5 hok5 (how5.eq (by rw [he, hA, hB, sbytes_app, sbytes_app, List.append_assoc]) (by rw [he, List.length_append, List.length_append]; rfl)) (by omega) (by omega) (fun b h1 h2 => by rw [hf5 b (fun h => by rcases hb3 b h with h | h; exact h1 h; omega) (by omega), hf4 b (by simp [blkOf]) (by omega), hf3 b h1 (by omega), hf2 b (by simp [blkOf]) h2]) (fun b h => by
            rcases hb5 b h with h | h
            · exact (hb3 b h).imp id (fun h => by omega)
            · exact .inr (by omega))) ⟨rfl, rfl, trivial⟩
        · have he : enc1 c = [192 + c / 64, 128 + c % 64] := by unfold enc1 unitL; rw [if_neg (by omega), if_neg (by omega), if_pos (by omega)]
          refine Ev_buildSlice rfl rfl rfl rfl rfl rfl hok1 (by omega) ?_
          intro S2 hn2 hok2 hq2 hf2
          repeat (
            refine WO_dst rfl rfl (by kernel_rfl) (by kernel_rfl) ?_)
          refine Ev_append rfl rfl rfl rfl rfl rfl rfl rfl rfl rfl (how1.keep (fun b h => hf2 b (how1.lt hok1 h))) (Rd_lit hq2 rfl (by kernel_rfl)) rfl hok2 (by omega) (by dsimp only; omega) (by omega) ?_
          intro v3 T3 hle3 hn3 hok3 how3 hf3 hb3
          repeat (
            first
              | refine WO_nil ?_
              | refine V_block ?_
              | refine WO_dst rfl rfl (by kernel_rfl) (by kernel_rfl) ?_
              | refine Ev_assign rfl ?_)
          refine back (pos + w, v3, l ++ enc1 c) T3 _ (by dsimp only; omega) (hI v3 T3 hok3 (how3.eq (by rw [he, sbytes_app]; simp [sbytes, lput, rep, AV.cells]) (by rw [he, List.length_append]; rfl)) (by omega) (by omega) (fun b h1 h2 => by rw [hf3 b h1 (by omega), hf2 b h2]) (fun b h => (hb3 b h).imp id (fun h => by omega))) ⟨rfl, rfl, trivial⟩
    · exact ⟨by simp, hok1, hq1, .inl ⟨rfl, rfl, rfl⟩, by simp, by simp, by omega, by dsimp only; omega, hfS, fun c hc => by cases hc⟩
end Go.Proofs.YtnlfcoojlgdgaaaDoor
/- mutf.Writer, and caraferef1.Number, Text: what is written. -/


namespace Go.Proofs.YtnlfcoojlgdgaaaDoor
open GX
set_option maxHeartbeats 8000000
theorem sl_cells {v : AV} (h : isSl v = true) : v.cells = [v] := by cases v <;> first | rfl | cases h
theorem Sok.upd {S S' : St} {p : Nat} {b : AB} (h : Sok S) (hp : p < S.n) (hn : S'.n = S.n) (_ : S'.h.get p = some b) (hf : ∀ c, c ≠ p → S'.h.get c = S.h.get c) : Sok S' := by
  intro c x hx
  by_cases hc : c = p
  · rw [hc, hn]; exact hp
  · rw [hf c hc] at hx; rw [hn]; exact h c x hx
theorem sl_one {v : AV} (h : isSl v = true) : v.one = true := by cases v <;> first | rfl | cases h
section
variable {X : X} {l : L} {S : St} {R : AV → St → Prop} {x y : Operand}
open Go
theorem Ev_store_sl {t b o : Nat} {i : TI} {ty : Nat} {cs : List AV} {sp : Bool} {v : AV} (hx : od l x = some (.ptr b o)) (hy : od l y = some v) (hsl : isSl v = true) (hi : X.ti t = some i) (hz : Nat.beq 1 i.size = true) (hb : S.h.get b = some (.cells ty cs sp)) (hle : o + 1 ≤ cs.length) (hn : b < 1000000000)
    (hR : ∀ S', S'.n = S.n → S'.h.get b = some (.cells ty (lput cs o [v]) sp) → (∀ c, c ≠ b → S'.h.get c = S.h.get c) → R (.tup []) S') : Ev X l S (.store t x y) R := by
  have hc := sl_cells hsl
  refine Ev_store hx hy hi (by rw [hc]; exact hz) (by rw [hc]; simp [sl_one hsl]) hb (by rw [hc]; exact hle) hn ?_
  rw [hc]; exact hR
/-- a shift to the right by a number that is not a constant -/
theorem Ev_shrV {t u m : Nat} {k k' : IntKind} {a : Int} (hx : od l x = some (.int k a)) (hy : od l y = some (.int k' ((m : Nat) : Int))) (hm : m ≤ k.bits) (hR : R (.int k (a / ((2 ^ m : Nat) : Int))) S) : Ev X l S (.binOp .shr t x y u) R :=
  Ev_shr hx hy (by rw [nble]; exact decide_eq_true hm) rfl hR
/-- a number as a byte -/
theorem Ev_conv8i {s d : Nat} {k : IntKind} {a : Int} {di si : TI} (hx : od l x = some (.int k a)) (hs : X.ti s = some si) (hd : X.ti d = some di) (hsd : si.desc = .int k) (hdd : di.desc = .int .u8) (hR : R (.int .u8 (((a % 256).toNat : Nat) : Int)) S) : Ev X l S (.convert s d x) R :=
  Ev_convw hx hs hd hsd hdd (by rw [wrp_u8, show a % 256 = (((a % 256).toNat : Nat) : Int) by omega]; exact hR)
theorem Ev_conv64 {s d : Nat} {k : IntKind} {a : Int} {di si : TI} (hx : od l x = some (.int k a)) (hs : X.ti s = some si) (hd : X.ti d = some di) (hsd : si.desc = .int k) (hdd : di.desc = .int .u64) (hR : R (.int .u64 (a % 18446744073709551616)) S) : Ev X l S (.convert s d x) R :=
  Ev_convw hx hs hd hsd hdd (by rw [wrp_u64]; exact hR)
end
def byteAt (n : Int) (k : Nat) : Nat := (n / ((2 ^ (8 * k) : Nat) : Int) % 256).toNat
/-- a number's lowest bytes -/
def numL (n : Int) : Nat → List Nat
  | 0 => []
  | j + 1 => byteAt n j :: numL n j
theorem numL_len (n : Int) : ∀ j, (numL n j).length = j
  | 0 => rfl
  | j + 1 => by simp [numL, numL_len n j]
theorem byteAt_lt (n : Int) (k : Nat) : byteAt n k < 256 := by unfold byteAt; omega
theorem numL_lt (n : Int) : ∀ j, ∀ b ∈ numL n j, b < 256
  | 0 => by simp [numL]
  | j + 1 => by
    intro b hb
    rcases List.mem_cons.1 hb with h | h
    · rw [h]; exact byteAt_lt n j
    · exact numL_lt n j b h
def sizeN (b : Int) : Nat := (min (max b 1) 8).toNat
theorem sizeN_le (b : Int) : 1 ≤ sizeN b ∧ sizeN b ≤ 8 := by unfold sizeN; omega
theorem size_runs (n : Int) (S : St) : Runs X1 49 [.int .i64 n] S fun v S' => S' = S ∧ v = .int .i64 ((sizeN n : Nat) : Int) := by
  refine Runs_fn (m := 6) (by kernel_rfl) Tryd.func49 rfl (by kernel_rfl) (by kernel_rfl) ?_
  repeat (
    first
      | refine W_seq ?_
      | refine WO_nil ?_
      | refine V_seq ?_
      | refine W_region ?_
      | refine W_ret ?_
      | refine WO_dst rfl rfl (by kernel_rfl) (by kernel_rfl) ?_
      | refine Ev_move rfl ?_
      | refine Ev_assign rfl ?_
      | refine Ev_min rfl rfl rfl ?_
      | refine Ev_max rfl rfl rfl ?_)
  refine V_done rfl rfl ?_
  refine ⟨rfl, ?_⟩
  show AV.int .i64 (min (max n 1) 8) = _
  congr 1
  unfold sizeN
  omega
theorem width_runs (n : Int) (S : St) : Runs X1 50 [.int .i64 n] S fun v S' => S' = S ∧ v = .int .i64 ((sizeN n : Nat) : Int) := by
  refine Runs_fn (m := 8) (by kernel_rfl) Tryd.func50 rfl (by kernel_rfl) (by kernel_rfl) ?_
  repeat' (
    first
      | refine W_seq ?_
      | refine WO_nil ?_
      | refine V_seq ?_
      | refine W_region ?_
      | refine W_skip ?_
      | refine W_ret ?_
      | refine V_ret ?_
      | refine WO_dst rfl rfl (by kernel_rfl) (by kernel_rfl) ?_
      | refine Ev_move rfl ?_
      | refine Ev_assign rfl ?_
      | refine Ev_lss rfl rfl ?_
      | refine Ev_gtr rfl rfl ?_
      | (refine W_cond rfl (fun hc => ?_) (fun hc => ?_) <;> (try dsimp only at hc) <;> try (exfalso; first | omega | exact hc rfl)))
  all_goals
    refine V_done rfl rfl ?_
    refine ⟨rfl, ?_⟩
    show AV.int .i64 _ = _
    congr 1
    unfold sizeN
    omega
/-- a writer, and what was written -/
structure Wr (S : St) (p : Nat) (vb : AV) (l : List Nat) : Prop where
  at_ : S.h.get p = some (.cells 79 [vb] false)
  ow : Ow S vb l
  ne : blkOf vb ≠ some p
/-- what a writer's work leaves as it was -/
structure WrF (S S' : St) (p : Nat) (vb vb' : AV) (k : Nat) : Prop where
  le : S.n ≤ S'.n
  n : S'.n ≤ S.n + k
  ok : Sok S'
  same : ∀ c, c ≠ p → blkOf vb ≠ some c → c < S.n → S'.h.get c = S.h.get c
  bk : ∀ c, blkOf vb' = some c → blkOf vb = some c ∨ S.n ≤ c
theorem WrF.refl {S : St} {p : Nat} {vb : AV} (hok : Sok S) : WrF S S p vb vb 0 := ⟨Nat.le_refl _, Nat.le_refl _, hok, fun _ _ _ _ => rfl, fun _ h => .inl h⟩
theorem WrF.trans {S S1 S2 : St} {p : Nat} {v v1 v2 : AV} {k k1 : Nat} (a : WrF S S1 p v v1 k) (b : WrF S1 S2 p v1 v2 k1) : WrF S S2 p v v2 (k + k1) := by
  refine ⟨Nat.le_trans a.le b.le, by have := a.n; have := b.n; omega, b.ok, fun c h1 h2 h3 => ?_, fun c h => ?_⟩
  · rw [b.same c h1 (fun h => by rcases a.bk c h with g | g; exact h2 g; omega) (by have := a.le; omega), a.same c h1 h2 h3]
  · rcases b.bk c h with g | g
    · exact a.bk c g
    · exact .inr (by have := a.le; omega)
theorem number_runs {S : St} {p : Nat} {vb : AV} {l : List Nat} {n b : Int} (hok : Sok S) (hw : Wr S p vb l) (hl : l.length ≤ 1000000000) (hn : S.n + 16 ≤ 1000000000) :
    Runs X1 17 [.ptr p 0, .int .i64 n, .int .i64 b] S fun _ S' => ∃ vb', Wr S' p vb' (l ++ numL n (sizeN b)) ∧ WrF S S' p vb vb' 16 := by
  have hsz := sizeN_le b
  have hp : p < S.n := hok _ _ hw.at_
  refine Runs_fn (m := 28) (by kernel_rfl) Tryd.func17 rfl (by kernel_rfl) (by kernel_rfl) ?_
  repeat (
    first
      | refine W_seq ?_
      | refine W_region ?_
      | refine WO_dst rfl rfl (by kernel_rfl) (by kernel_rfl) ?_
      | refine Ev_move rfl ?_)
  refine Ev_call rfl rfl ((size_runs b S).mono ?_)
  rintro _ _ - ⟨rfl, rfl⟩
  repeat (
    first
      | refine WO_nil ?_
      | refine V_seq ?_
      | refine W_block ?_
      | refine WO_dst rfl rfl (by kernel_rfl) (by kernel_rfl) ?_
      | refine Ev_assign rfl ?_
      | refine Ev_subN rfl rfl (by simp only [lim]; omega) (by first | omega | (dsimp only; done) | (dsimp only; omega)) ?_)
  rename_i S
  have hs6 : some (AV.int .i64 ((sizeN b - 1 : Nat) : Int)) = some (AV.int .i64 (((sizeN b : Nat) : Int) - 1)) := by congr 2; omega
  refine W_inv (fun a : Nat × AV × List Nat => [(6, .int .i64 (((a.1 : Nat) : Int) - 1)), (0, .ptr p 0), (1, .int .i64 n)]) (fun a T => Wr T p a.2.1 a.2.2 ∧ a.2.2 ++ numL n a.1 = l ++ numL n (sizeN b) ∧ a.1 ≤ sizeN b ∧ WrF S T p vb a.2.1 (2 * (sizeN b - a.1))) (fun a => a.1) ?_ (sizeN b, vb, l) ⟨hw, rfl, Nat.le_refl _, by rw [Nat.sub_self]; exact WrF.refl hok⟩ ⟨hs6, rfl, rfl, trivial⟩
  rintro ⟨j, v, l'⟩ T ⟨hwT, heq, hj, hF⟩ back
  dsimp only at hwT heq hj hF back
  have hFn := hF.n; have hFl := hF.le
  have hll : l'.length ≤ 1000000008 := by have h := congrArg List.length heq; simp only [List.length_append, numL_len] at h; omega
  cases j with
  | zero =>
    show W X1 28 _ _ _ [(6, .int .i64 (-1)), (0, .ptr p 0), (1, .int .i64 n)] T
    repeat' (
      first
        | refine W_seq ?_
        | refine WO_nil ?_
        | refine V_seq ?_
        | refine W_region ?_
        | refine W_exit ?_
        | refine V_block_x rfl ?_
        | refine V_seq_x ?_
        | refine V_loop_x ?_
        | refine W_cond_f rfl ?_
        | refine WO_dst rfl rfl (by kernel_rfl) (by kernel_rfl) ?_
        | refine Ev_move rfl ?_
        | refine Ev_geq rfl rfl ?_)
    refine V_done rfl rfl ?_
    refine ⟨v, ?_, ⟨hF.le, by omega, hF.ok, hF.same, hF.bk⟩⟩
    rw [← heq]; simpa [numL] using hwT
  | succ j =>
    have hjj : (((j + 1 : Nat) : Int) - 1) = ((j : Nat) : Int) := by omega
    show W X1 28 _ _ _ [(6, .int .i64 (((j + 1 : Nat) : Int) - 1)), (0, .ptr p 0), (1, .int .i64 n)] T
    rw [hjj]
    repeat' (
      first
        | refine W_seq ?_
        | refine WO_nil ?_
        | refine V_seq ?_
        | refine W_region ?_
        | refine W_drawn (by kernel_rfl) ?_
        | refine W_block ?_
        | refine W_skip ?_
        | refine W_cond_t rfl ?_
        | refine WO_dst rfl rfl (by kernel_rfl) (by kernel_rfl) ?_
        | refine Ev_load rfl rfl rfl hwT.at_ rfl hwT.ow.rd.self ?_
        | refine Ev_shrV rfl rfl (by simp only [Go.IntKind.bits]; omega) ?_
        | refine Ev_conv8i rfl rfl rfl rfl rfl ?_
        | refine Ev_move rfl ?_
        | refine Ev_geqN rfl rfl ?_
        | refine Ev_nilCheck rfl ?_
        | refine Ev_fieldAddr rfl rfl rfl rfl rfl rfl ?_
        | refine Ev_mulN rfl rfl (by simp only [lim]; omega) ?_)
    refine Ev_buildSlice rfl rfl rfl rfl rfl rfl hF.ok (by omega) ?_
    intro S1 hn1 hok1 hq1 hf1
    have hpT : p < T.n := hF.ok _ _ hwT.at_
    have ho1 := hwT.ow.keep (fun b hb => hf1 b (hwT.ow.lt hF.ok hb))
    repeat (
      refine WO_dst rfl rfl (by kernel_rfl) (by kernel_rfl) ?_)
    refine Ev_append rfl rfl rfl rfl rfl rfl rfl rfl rfl rfl ho1 (Rd_lit hq1 rfl (by kernel_rfl)) rfl hok1 (by omega) (by dsimp only; omega) (by omega) ?_
    intro v2 S2 hle2 hn2 hok2 hown2 hf2 hb2
    have hp2 : S2.h.get p = some (.cells 79 [v] false) := by rw [hf2 p hwT.ne (by omega), hf1 p hpT, hwT.at_]
    repeat (
      first
        | refine WO_dst rfl rfl (by kernel_rfl) (by kernel_rfl) ?_
        | refine WO_no rfl rfl ?_
        | refine Ev_nilCheck rfl ?_
        | refine Ev_fieldAddr rfl rfl rfl rfl rfl rfl ?_)
    refine Ev_store_sl rfl rfl hown2.rd.sl rfl rfl hp2 (by simp) (by omega) ?_
    intro S3 hn3 hp3 hf3
    repeat (
      first
        | refine WO_nil ?_
        | refine V_seq ?_
        | refine W_region ?_
        | refine V_block ?_
        | refine WO_dst rfl rfl (by kernel_rfl) (by kernel_rfl) ?_
        | refine Ev_move rfl ?_
        | refine Ev_assign rfl ?_
        | refine Ev_sub rfl rfl (by simp only [inR]; omega) ?_)
    have hb2' : ∀ c, blkOf v2 = some c → blkOf v = some c ∨ T.n ≤ c := fun c hc => (hb2 c hc).imp id (fun h => by omega)
    refine back (j, v2, l' ++ [byteAt n j]) S3 _ (Nat.lt_succ_self j) ⟨⟨hp3, ?_, ?_⟩, ?_, by omega, ?_⟩ ⟨rfl, rfl, rfl, trivial⟩
    · have h4 : Own S3 v2 5 1 (sbytes l' ++ lput (rep [AV.int .u8 0] 1) 0 [AV.int .u8 ((byteAt n j : Nat) : Int)]) (l'.length + 1) := hown2.keep fun c hc => hf3 c (fun h => by subst h; rcases hb2' _ hc with g | g; exact hwT.ne g; omega)
      refine h4.eq ?_ (by simp)
      rw [sbytes_app]; rfl
    · intro h; rcases hb2' _ h with g | g; exact hwT.ne g; omega
    · rw [← heq]; simp [numL]
    · have hF2 : WrF T S3 p v v2 2 := ⟨by omega, by omega, Sok.upd hok2 (by omega) hn3 hp3 hf3, fun c h1 h2 h3 => by rw [hf3 c h1, hf2 c h2 (by omega), hf1 c h3], hb2'⟩
      have h5 := hF.trans hF2
      refine ⟨h5.le, ?_, h5.ok, h5.same, h5.bk⟩
      have := h5.n
      omega
end Go.Proofs.YtnlfcoojlgdgaaaDoor
/- mutf.Writer's other functions, and caraferef1.Number and Text: what is written. -/


namespace Go.Proofs.YtnlfcoojlgdgaaaDoor
open GX
set_option maxHeartbeats 8000000
theorem WrF.fr {S S' T : St} {p : Nat} {vb vb' v : AV} {k k' : Nat} (a : WrF S S' p vb vb' k) (b : Fr S' T v k') (h1 : ∀ c, blkOf v = some c → blkOf vb = some c ∨ S.n ≤ c) : WrF S T p vb vb' (k + k') := by
  refine ⟨Nat.le_trans a.le b.le, by have := a.n; have := b.n; omega, b.ok, fun c g1 g2 g3 => ?_, a.bk⟩
  have := a.le
  rw [b.same c (fun h => by rcases h1 c h with g | g; exact g2 g; omega) (by omega), a.same c g1 g2 g3]
theorem Wr.keep {S S' : St} {p : Nat} {vb : AV} {l : List Nat} (h : Wr S p vb l) (hp : S'.h.get p = S.h.get p) (hb : ∀ c, blkOf vb = some c → S'.h.get c = S.h.get c) : Wr S' p vb l :=
  ⟨by rw [hp]; exact h.at_, h.ow.keep hb, h.ne⟩
theorem Wr.fr {S S' : St} {p : Nat} {vb : AV} {l : List Nat} {k : Nat} (h : Wr S p vb l) (hok : Sok S) (a : Fr S S' .nils k) : Wr S' p vb l :=
  h.keep (a.same p (by simp [blkOf]) (hok _ _ h.at_)) (fun c hc => a.same c (by simp [blkOf]) (h.ow.lt hok hc))
theorem wbytes_runs {S : St} {p : Nat} {vb v : AV} {l b : List Nat} (hok : Sok S) (hw : Wr S p vb l) (hv : Rd S v 1 (sbytes b) b.length) (hl : l.length ≤ 1000000000) (hb : b.length ≤ 1000000000) (hn : S.n + 1 ≤ 1000000000) :
    Runs X1 21 [.ptr p 0, v] S fun _ S' => ∃ vb', Wr S' p vb' (l ++ b) ∧ WrF S S' p vb vb' 1 := by
  have hp : p < S.n := hok _ _ hw.at_
  refine Runs_fn (m := 13) (by kernel_rfl) Tryd.func21 rfl (by kernel_rfl) (by kernel_rfl) ?_
  repeat (
    first
      | refine W_region ?_
      | refine WO_dst rfl rfl (by kernel_rfl) (by kernel_rfl) ?_
      | refine Ev_load rfl rfl rfl hw.at_ rfl hw.ow.rd.self ?_
      | refine Ev_move rfl ?_
      | refine Ev_nilCheck rfl ?_
      | refine Ev_fieldAddr rfl rfl rfl rfl rfl rfl ?_)
  refine Ev_append rfl rfl rfl rfl rfl rfl rfl rfl rfl rfl hw.ow hv (by first | exact sbytes_one b | (unfold sbytes; simp [AV.one])) hok (by omega) (by dsimp only; omega) (by omega) ?_
  intro v2 S2 hle2 hn2 hok2 hown2 hf2 hb2
  have hp2 : S2.h.get p = some (.cells 79 [vb] false) := by rw [hf2 p hw.ne (by omega), hw.at_]
  repeat (
    first
      | refine WO_dst rfl rfl (by kernel_rfl) (by kernel_rfl) ?_
      | refine WO_no rfl rfl ?_
      | refine Ev_nilCheck rfl ?_
      | refine Ev_fieldAddr rfl rfl rfl rfl rfl rfl ?_)
  refine Ev_store_sl rfl rfl hown2.rd.sl rfl rfl hp2 (by simp) (by omega) ?_
  intro S3 hn3 hp3 hf3
  repeat (
    refine WO_nil ?_)
  refine V_done rfl rfl ?_
  have hne : blkOf v2 ≠ some p := by intro h; rcases hb2 _ h with g | g; exact hw.ne g; omega
  refine ⟨v2, ⟨hp3, ?_, hne⟩, ⟨by omega, by omega, Sok.upd hok2 (by omega) hn3 hp3 hf3, fun c h1 h2 h3 => by rw [hf3 c h1, hf2 c h2 (by omega)], hb2⟩⟩
  have h4 : Own S3 v2 5 1 (sbytes l ++ sbytes b) (l.length + b.length) := hown2.keep fun c hc => hf3 c (fun h => by subst h; exact hne hc)
  exact h4.eq (sbytes_app _ _).symm (by simp)
/-- a copy of a slice -/
theorem clone_runs {S : St} {v : AV} {b : List Nat} (hok : Sok S) (hv : Rd S v 1 (sbytes b) b.length) (hb : b.length ≤ 1000000000) (hn : S.n + 2 ≤ 1000000000) :
    Runs X1 51 [v] S fun r S' => Fr S S' .nils 2 ∧ Gz S' r 5 1 (sbytes b) b.length ∧ ∀ c, blkOf r = some c → S.n ≤ c := by
  refine Runs_fn (m := 8) (by kernel_rfl) Tryd.func51 rfl (by kernel_rfl) (by kernel_rfl) ?_
  repeat (
    first
      | refine W_seq ?_
      | refine WO_nil ?_
      | refine V_seq ?_
      | refine W_region ?_
      | refine WO_dst rfl rfl (by kernel_rfl) (by kernel_rfl) ?_
      | refine Ev_move rfl ?_
      | refine Ev_assign rfl ?_)
  refine Ev_eq_nils rfl rfl rfl rfl hv ?_
  intro q hq
  repeat (
    first
      | refine WO_nil ?_
      | refine V_seq ?_)
  refine W_condb rfl (fun hc => ?_) (fun hc => ?_)
  · have h0 := hq hc
    repeat (
      first
        | refine W_seq ?_
        | refine WO_nil ?_
        | refine V_seq ?_
        | refine W_region ?_
        | refine W_ret ?_
        | refine V_ret ?_
        | refine WO_dst rfl rfl (by kernel_rfl) (by kernel_rfl) ?_
        | refine Ev_assign rfl ?_)
    refine V_done rfl rfl ?_
    refine ⟨⟨Nat.le_refl _, by omega, hok, fun _ _ _ => rfl⟩, .inl (.inl ⟨rfl, h0.2, h0.1⟩), fun c hc => by cases hc⟩
  · repeat (
      first
        | refine W_seq ?_
        | refine V_seq ?_
        | refine W_region ?_
        | refine W_skip ?_
        | refine WO_dst rfl rfl (by kernel_rfl) (by kernel_rfl) ?_)
    refine Ev_buildSlice rfl rfl rfl rfl rfl rfl hok (by omega) ?_
    intro S1 hn1 hok1 hq1 hf1
    have hv1 := hv.keep (fun c h => hf1 c (hv.lt hok h))
    repeat (
      first
        | refine WO_dst rfl rfl (by kernel_rfl) (by kernel_rfl) ?_
        | refine Ev_move rfl ?_)
    refine Ev_append_gz (cs := []) (m := 0) rfl rfl rfl rfl rfl rfl rfl rfl rfl rfl (.inr ⟨rfl, rfl, S.n, 0, rfl, Rd_lit hq1 rfl (by kernel_rfl)⟩) hv1 (by first | exact sbytes_one b | (unfold sbytes; simp [AV.one])) hok1 (by omega) (by dsimp only; omega) (by omega) ?_
    intro v2 S2 hle2 hn2 hok2 hown2 hf2 hb2
    repeat (
      first
        | refine WO_nil ?_
        | refine V_seq ?_
        | refine W_ret ?_
        | refine WO_dst rfl rfl (by kernel_rfl) (by kernel_rfl) ?_
        | refine Ev_assign rfl ?_)
    refine V_done rfl rfl ?_
    refine ⟨⟨by omega, by omega, hok2, fun c _ h => by rw [hf2 c (fun h => by cases h; omega) (by omega), hf1 c h]⟩, hown2.eq rfl (by omega), fun c hc => ?_⟩
    rcases hb2 c hc with h | h
    · cases h; exact Nat.le_refl _
    · omega
theorem done_runs {S : St} {p : Nat} {vb : AV} {l : List Nat} (hok : Sok S) (hw : Wr S p vb l) (hl : l.length ≤ 1000000000) (hn : S.n + 2 ≤ 1000000000) :
    Runs X1 22 [.ptr p 0] S fun r S' => Fr S S' .nils 2 ∧ Gz S' r 5 1 (sbytes l) l.length ∧ ∀ c, blkOf r = some c → S.n ≤ c := by
  refine Runs_fn (m := 8) (by kernel_rfl) Tryd.func22 rfl (by kernel_rfl) (by kernel_rfl) ?_
  repeat (
    first
      | refine W_seq ?_
      | refine WO_nil ?_
      | refine V_seq ?_
      | refine W_region ?_
      | refine WO_dst rfl rfl (by kernel_rfl) (by kernel_rfl) ?_
      | refine Ev_load rfl rfl rfl hw.at_ rfl hw.ow.rd.self ?_
      | refine Ev_move rfl ?_
      | refine Ev_assign rfl ?_
      | refine Ev_nilCheck rfl ?_
      | refine Ev_fieldAddr rfl rfl rfl rfl rfl rfl ?_)
  refine Ev_call rfl rfl ((clone_runs hok hw.ow.rd hl hn).mono ?_)
  rintro v S' - ⟨h1, h2, h3⟩
  repeat (
    first
      | refine WO_nil ?_
      | refine V_seq ?_
      | refine W_ret ?_
      | refine WO_dst rfl rfl (by kernel_rfl) (by kernel_rfl) ?_
      | refine Ev_assign rfl ?_)
  refine V_done rfl rfl ?_
  exact ⟨h1, h2, h3⟩
theorem new_runs {S : St} (hok : Sok S) (hn : S.n + 1 ≤ 1000000000) :
    Runs X1 16 [] S fun r S' => r = .ptr S.n 0 ∧ S'.n = S.n + 1 ∧ Sok S' ∧ (∀ c, c < S.n → S'.h.get c = S.h.get c) ∧ Wr S' S.n .nils [] := by
  refine Runs_fn (m := 3) (by kernel_rfl) Tryd.func16 rfl (by kernel_rfl) (by kernel_rfl) ?_
  repeat (
    first
      | refine W_seq ?_
      | refine WO_nil ?_
      | refine V_seq ?_
      | refine W_region ?_
      | refine WO_dst rfl rfl (by kernel_rfl) (by kernel_rfl) ?_
      | refine Ev_assign rfl ?_)
  refine Ev_build (v := .agg [.nils]) rfl rfl ?_
  repeat (
    refine WO_dst rfl rfl (by kernel_rfl) (by kernel_rfl) ?_)
  refine Ev_box rfl hok (by omega) ?_
  intro S1 hn1 hok1 hq1 hf1
  repeat (
    first
      | refine WO_nil ?_
      | refine V_seq ?_
      | refine W_ret ?_
      | refine WO_dst rfl rfl (by kernel_rfl) (by kernel_rfl) ?_
      | refine Ev_assign rfl ?_)
  refine V_done rfl rfl ?_
  exact ⟨rfl, hn1, hok1, hf1, ⟨hq1, .inl ⟨rfl, rfl, rfl⟩, by intro h; cases h⟩⟩
/-- what is written of a string -/
noncomputable def textB (s : List Nat) : List Nat := if vS s = true ∧ (encS s).length ≤ 256 then encS s else []
noncomputable def textL (s : List Nat) : List Nat := numL ((textB s).length : Int) 2 ++ textB s
theorem textB_len (s : List Nat) : (textB s).length ≤ 256 := by unfold textB; split <;> simp_all
theorem size2 : sizeN 2 = 2 := by decide
theorem wtext_runs {S : St} {p : Nat} {vb : AV} {l s : List Nat} (hok : Sok S) (hw : Wr S p vb l) (hs : s.length ≤ 100000000) (hl : l.length ≤ 900000000) (hn : S.n + (4 * s.length + 18) ≤ 1000000000) :
    Runs X1 19 [.ptr p 0, .str s] S fun _ S' => ∃ vb', Wr S' p vb' (l ++ textL s) ∧ WrF S S' p vb vb' (4 * s.length + 18) := by
  have hp : p < S.n := hok _ _ hw.at_
  refine Runs_fn (m := 25) (by kernel_rfl) Tryd.func19 rfl (by kernel_rfl) (by kernel_rfl) ?_
  repeat (
    first
      | refine W_seq ?_
      | refine W_region ?_
      | refine WO_dst rfl rfl (by kernel_rfl) (by kernel_rfl) ?_
      | refine Ev_move rfl ?_)
  refine Ev_call rfl rfl ((enc_runs hok hs (by omega)).mono ?_)
  rintro _ S1 - ⟨hfr, vx, rfl, hx, hbx⟩
  have hw1 := hw.fr hok hfr
  have hF1 := (WrF.refl hok).fr (p := p) (vb := vb) (vb' := vb) hfr (fun c h => by cases h)
  have hn1 := hfr.n
  have hl1 := hfr.le
  by_cases hv : vS s = true
  · rw [if_pos hv] at hx ⊢
    repeat' (
      first
        | refine W_seq ?_
        | refine WO_nil ?_
        | refine V_seq ?_
        | refine W_region ?_
        | refine W_skip ?_
        | refine WO_dst rfl rfl (by kernel_rfl) (by kernel_rfl) ?_
        | refine WO_guard_t rfl rfl rfl rfl rfl (by kernel_rfl) (by kernel_rfl) ?_
        | refine Ev_len rfl rfl rfl rfl rfl hx.rd.len ?_
        | refine Ev_move rfl ?_
        | refine Ev_assign rfl ?_
        | refine Ev_extract rfl rfl ?_
        | refine Ev_pick_f rfl rfl rfl ?_
        | refine Ev_gtrN rfl rfl ?_
        | refine Ev_neqN rfl rfl ?_
        | refine Ev_len rfl rfl rfl rfl rfl rfl ?_
        | (refine W_cond rfl (fun hc => ?_) (fun hc => ?_) <;> (try dsimp only at hc) <;> try (exfalso; first | omega | exact hc rfl)))
    · have htb : textB s = [] := by unfold textB; rw [if_neg (fun h => by have := h.2; omega)]
      refine Ev_call rfl rfl ((number_runs hF1.ok hw1 (by omega) (by omega)).mono ?_)
      rintro _ S2 - ⟨vb2, hw2, hF2⟩
      have hn2 := hF2.n
      have hl2 := hF2.le
      have hrd : Rd S2 .nils 1 (sbytes []) ([] : List Nat).length := ⟨rfl, rfl, rfl, rfl, rfl, rfl⟩
      have hbl : ([] : List Nat).length ≤ 256 := by simp
      repeat (
        first
          | refine WO_nil ?_
          | refine V_seq ?_
          | refine W_region ?_
          | refine WO_dst rfl rfl (by kernel_rfl) (by kernel_rfl) ?_
          | refine Ev_move rfl ?_)
      refine Ev_call rfl rfl ((wbytes_runs hF2.ok hw2 hrd (by simp only [List.length_append, numL_len, size2]; omega) (by omega) (by omega)).mono ?_)
      rintro _ S3 - ⟨vb3, hw3, hF3⟩
      repeat (
        refine WO_nil ?_)
      refine V_done rfl rfl ?_
      refine ⟨vb3, ?_, ?_⟩
      · unfold textL; rw [htb, ← List.append_assoc]; rw [size2] at hw3; exact hw3
      · have h9 := (hF1.trans hF2).trans hF3
        exact ⟨h9.le, by have := h9.n; omega, h9.ok, h9.same, h9.bk⟩
    · have htb : textB s = (encS s) := by unfold textB; rw [if_pos ⟨hv, by omega⟩]
      refine Ev_call rfl rfl ((number_runs hF1.ok hw1 (by omega) (by omega)).mono ?_)
      rintro _ S2 - ⟨vb2, hw2, hF2⟩
      have hn2 := hF2.n
      have hl2 := hF2.le
      have hrd : Rd S2 vx 1 (sbytes (encS s)) ((encS s) : List Nat).length := hx.rd.keep fun c h => by
        have h5 := hbx c h
        have h6 := hx.lt hfr.ok h
        exact hF2.same c (by omega) (fun h7 => by have := hw.ow.lt hok h7; omega) h6
      have hbl : ((encS s) : List Nat).length ≤ 256 := by omega
      repeat (
        first
          | refine WO_nil ?_
          | refine V_seq ?_
          | refine W_region ?_
          | refine WO_dst rfl rfl (by kernel_rfl) (by kernel_rfl) ?_
          | refine Ev_move rfl ?_)
      refine Ev_call rfl rfl ((wbytes_runs hF2.ok hw2 hrd (by simp only [List.length_append, numL_len, size2]; omega) (by omega) (by omega)).mono ?_)
      rintro _ S3 - ⟨vb3, hw3, hF3⟩
      repeat (
        refine WO_nil ?_)
      refine V_done rfl rfl ?_
      refine ⟨vb3, ?_, ?_⟩
      · unfold textL; rw [htb, ← List.append_assoc]; rw [size2] at hw3; exact hw3
      · have h9 := (hF1.trans hF2).trans hF3
        exact ⟨h9.le, by have := h9.n; omega, h9.ok, h9.same, h9.bk⟩
  · rw [if_neg hv] at hx ⊢
    repeat' (
      first
        | refine W_seq ?_
        | refine WO_nil ?_
        | refine V_seq ?_
        | refine W_region ?_
        | refine W_cond_t rfl ?_
        | refine WO_dst rfl rfl (by kernel_rfl) (by kernel_rfl) ?_
        | refine WO_guard_f rfl rfl rfl rfl rfl rfl (by kernel_rfl) (by kernel_rfl) ?_
        | refine Ev_move rfl ?_
        | refine Ev_assign rfl ?_
        | refine Ev_extract rfl rfl ?_
        | refine Ev_pick_t rfl rfl rfl ?_
        | refine Ev_neqN rfl rfl ?_
        | refine Ev_len rfl rfl rfl rfl rfl rfl ?_)
    have htb : textB s = [] := by unfold textB; rw [if_neg (fun h => hv h.1)]
    refine Ev_call rfl rfl ((number_runs hF1.ok hw1 (by omega) (by omega)).mono ?_)
    rintro _ S2 - ⟨vb2, hw2, hF2⟩
    have hn2 := hF2.n
    have hl2 := hF2.le
    have hrd : Rd S2 .nils 1 (sbytes []) ([] : List Nat).length := ⟨rfl, rfl, rfl, rfl, rfl, rfl⟩
    have hbl : ([] : List Nat).length ≤ 256 := by simp
    repeat (
      first
        | refine WO_nil ?_
        | refine V_seq ?_
        | refine W_region ?_
        | refine WO_dst rfl rfl (by kernel_rfl) (by kernel_rfl) ?_
        | refine Ev_move rfl ?_)
    refine Ev_call rfl rfl ((wbytes_runs hF2.ok hw2 hrd (by simp only [List.length_append, numL_len, size2]; omega) (by omega) (by omega)).mono ?_)
    rintro _ S3 - ⟨vb3, hw3, hF3⟩
    repeat (
      refine WO_nil ?_)
    refine V_done rfl rfl ?_
    refine ⟨vb3, ?_, ?_⟩
    · unfold textL; rw [htb, ← List.append_assoc]; rw [size2] at hw3; exact hw3
    · have h9 := (hF1.trans hF2).trans hF3
      exact ⟨h9.le, by have := h9.n; omega, h9.ok, h9.same, h9.bk⟩
end Go.Proofs.YtnlfcoojlgdgaaaDoor
/- mutf.Reader: what its functions do. -/

namespace Go.Proofs.YtnlfcoojlgdgaaaDoor
open GX
set_option maxHeartbeats 8000000
section
variable {X : X} {l : L} {S : St} {R : AV → St → Prop} {x y : Operand}
open Go
/-- a store of one cell -/
theorem Ev_store1 {t b o : Nat} {i : TI} {ty : Nat} {cs : List AV} {sp : Bool} {v : AV} (hx : od l x = some (.ptr b o)) (hy : od l y = some v) (hc : v.cells = [v]) (h1 : v.one = true) (hi : X.ti t = some i) (hz : Nat.beq 1 i.size = true) (hb : S.h.get b = some (.cells ty cs sp)) (hle : o + 1 ≤ cs.length) (hn : b < 1000000000)
    (hR : ∀ S', S'.n = S.n → S'.h.get b = some (.cells ty (lput cs o [v]) sp) → (∀ c, c ≠ b → S'.h.get c = S.h.get c) → R (.tup []) S') : Ev X l S (.store t x y) R := by
  refine Ev_store hx hy hi (by rw [hc]; exact hz) (by rw [hc]; simp [h1]) hb (by rw [hc]; exact hle) hn ?_
  rw [hc]; exact hR
end
structure RdS where
  pos : Nat
  err : Int
  at_ : Int
/-- a reader -/
structure Rr (S : St) (p : Nat) (vb : AV) (b : List Nat) (r : RdS) : Prop where
  cell : S.h.get p = some (.cells 84 [vb, .int .i64 ((r.pos : Nat) : Int), .int .i64 r.err, .int .i64 r.at_] false)
  rd : Rd S vb 1 (sbytes b) b.length
  ne : blkOf vb ≠ some p
  le : r.pos ≤ b.length
/-- only one block is written to -/
structure FrP (S S' : St) (p : Nat) : Prop where
  n : S'.n = S.n
  ok : Sok S'
  same : ∀ c, c ≠ p → S'.h.get c = S.h.get c
theorem FrP.refl {S : St} {p : Nat} (h : Sok S) : FrP S S p := ⟨rfl, h, fun _ _ => rfl⟩
theorem FrP.trans {S T U : St} {p : Nat} (a : FrP S T p) (b : FrP T U p) : FrP S U p := ⟨b.n.trans a.n, b.ok, fun c h => (b.same c h).trans (a.same c h)⟩
def RdS.refuse (r : RdS) (c a : Int) : RdS := if r.err = 0 ∧ c ≠ 0 then { r with err := c, at_ := a } else r
theorem refuse_runs {S : St} {p : Nat} {vb : AV} {b : List Nat} {r : RdS} {c a : Int} (hok : Sok S) (h : Rr S p vb b r) (hn : S.n ≤ 1000000000) :
    Runs X1 55 [.ptr p 0, .int .i64 c, .int .i64 a] S fun _ S' => Rr S' p vb b (r.refuse c a) ∧ FrP S S' p := by
  have hp : p < S.n := hok _ _ h.cell
  refine Runs_fn (m := 23) (by kernel_rfl) Tryd.func55 rfl (by kernel_rfl) (by kernel_rfl) ?_
  repeat' (
    first
      | refine W_seq ?_
      | refine WO_nil ?_
      | refine V_seq ?_
      | refine W_region ?_
      | refine W_skip ?_
      | refine W_cond_f rfl ?_
      | refine WO_dst rfl rfl (by kernel_rfl) (by kernel_rfl) ?_
      | refine WO_no rfl rfl ?_
      | refine WO_guard_t rfl rfl rfl rfl rfl (by kernel_rfl) (by kernel_rfl) ?_
      | refine WO_guard_f rfl rfl rfl rfl rfl rfl (by kernel_rfl) (by kernel_rfl) ?_
      | refine Ev_load rfl rfl rfl h.cell rfl (veq_int _ _) ?_
      | refine Ev_move rfl ?_
      | refine Ev_pick_t rfl rfl rfl ?_
      | refine Ev_pick_f rfl rfl rfl ?_
      | refine Ev_eql rfl rfl ?_
      | refine Ev_neq rfl rfl ?_
      | refine Ev_nilCheck rfl ?_
      | refine Ev_fieldAddr rfl rfl rfl rfl rfl rfl ?_
      | (refine WO_guard_dt rfl rfl rfl rfl rfl (by kernel_rfl) (by kernel_rfl) (fun hg => ?_) (fun hg => ?_) <;> (try dsimp only at hg) <;> try (exfalso; first | omega | exact hg rfl))
      | (refine W_cond rfl (fun hc => ?_) (fun hc => ?_) <;> (try dsimp only at hc) <;> try (exfalso; first | omega | exact hc rfl)))
  · refine Ev_store1 rfl rfl rfl rfl rfl rfl h.cell (by simp) (by omega) ?_
    intro S1 hn1 hq1 hf1
    repeat (
      first
        | refine WO_dst rfl rfl (by kernel_rfl) (by kernel_rfl) ?_
        | refine WO_no rfl rfl ?_
        | refine Ev_nilCheck rfl ?_
        | refine Ev_fieldAddr rfl rfl rfl rfl rfl rfl ?_)
    refine Ev_store1 rfl rfl rfl rfl rfl rfl hq1 (by simp [lput]) (by omega) ?_
    intro S2 hn2 hq2 hf2
    repeat (
      refine WO_nil ?_)
    refine V_done rfl rfl ?_
    have hok1 := Sok.upd hok hp hn1 hq1 hf1
    have hr : r.refuse c a = { r with err := c, at_ := a } := by unfold RdS.refuse; rw [if_pos ⟨hg, hc⟩]
    refine ⟨⟨by rw [hr]; exact hq2, h.rd.keep (fun d hd => ?_), h.ne, by rw [hr]; exact h.le⟩, ⟨by omega, Sok.upd hok1 (by omega) hn2 hq2 hf2, fun d hd => by rw [hf2 d hd, hf1 d hd]⟩⟩
    have hdp : d ≠ p := fun e => h.ne (by rw [hd, e])
    rw [hf2 d hdp, hf1 d hdp]
  all_goals
    refine V_done rfl rfl ?_
    have hr : r.refuse c a = r := by unfold RdS.refuse; rw [if_neg (by first | exact fun e => hc e.2 | exact fun e => hg e.1 | (intro e; simp_all))]
    rw [hr]; exact ⟨h, FrP.refl hok⟩
/-- what is taken, and the reader behind it -/
def RdS.take (r : RdS) (b : List Nat) (n : Nat) : List Nat × RdS :=
  if r.err ≠ 0 then ([], r) else if b.length - r.pos < n then ([], r.refuse 10 (b.length : Int)) else ((b.drop r.pos).take n, { r with pos := r.pos + n })
theorem take_runs {S : St} {p : Nat} {vb : AV} {b : List Nat} {r : RdS} {n : Nat} (hok : Sok S) (h : Rr S p vb b r) (hn : S.n ≤ 1000000000) (hb : b.length ≤ 1000000000) (hm : n < 9223372036854775808) :
    Runs X1 53 [.ptr p 0, .int .i64 ((n : Nat) : Int)] S fun v S' => Rr S' p vb b (r.take b n).2 ∧ FrP S S' p ∧ Rd S' v 1 (sbytes (r.take b n).1) (r.take b n).1.length ∧ ∀ c, blkOf v = some c → blkOf vb = some c := by
  have hp : p < S.n := hok _ _ h.cell
  have hle := h.le
  refine Runs_fn (m := 54) (by kernel_rfl) Tryd.func53 rfl (by kernel_rfl) (by kernel_rfl) ?_
  repeat' (
    first
      | refine W_seq ?_
      | refine WO_nil ?_
      | refine V_seq ?_
      | refine W_region ?_
      | refine W_drawn (by kernel_rfl) ?_
      | refine W_skip ?_
      | refine W_ret ?_
      | refine V_ret ?_
      | refine WO_dst rfl rfl (by kernel_rfl) (by kernel_rfl) ?_
      | refine Ev_load rfl rfl rfl h.cell rfl (veq_int _ _) ?_
      | refine Ev_load rfl rfl rfl h.cell rfl h.rd.self ?_
      | refine Ev_len rfl rfl rfl rfl rfl h.rd.len ?_
      | refine Ev_move rfl ?_
      | refine Ev_assign rfl ?_
      | refine Ev_gtrN rfl rfl ?_
      | refine Ev_neq rfl rfl ?_
      | refine Ev_nilCheck rfl ?_
      | refine Ev_fieldAddr rfl rfl rfl rfl rfl rfl ?_
      | refine Ev_addN rfl rfl (by simp only [lim]; omega) ?_
      | refine Ev_subN rfl rfl (by simp only [lim]; omega) (by first | omega | (dsimp only; done) | (dsimp only; omega)) ?_
      | (refine W_cond rfl (fun hc => ?_) (fun hc => ?_) <;> (try dsimp only at hc) <;> try (exfalso; first | omega | exact hc rfl)))
  · refine V_done rfl rfl ?_
    have e : r.take b n = ([], r) := by unfold RdS.take; rw [if_pos hc]
    rw [e]
    exact ⟨h, FrP.refl hok, ⟨rfl, rfl, rfl, rfl, rfl, rfl⟩, fun c hc => by cases hc⟩
  · refine Ev_call rfl rfl ((refuse_runs hok h hn).mono ?_)
    rintro _ S1 - ⟨h1, hF1⟩
    repeat (
      first
        | refine W_seq ?_
        | refine WO_nil ?_
        | refine V_seq ?_
        | refine W_region ?_
        | refine W_ret ?_
        | refine V_ret ?_
        | refine WO_dst rfl rfl (by kernel_rfl) (by kernel_rfl) ?_
        | refine Ev_assign rfl ?_)
    refine V_done rfl rfl ?_
    rename_i hc0 _
    have e : r.take b n = ([], r.refuse 10 (b.length : Int)) := by unfold RdS.take; rw [if_neg hc0, if_pos hc]
    rw [e]
    exact ⟨h1, hF1, ⟨rfl, rfl, rfl, rfl, rfl, rfl⟩, fun c hc => by cases hc⟩
  · rename_i hc0
    refine Ev_slice_lh rfl rfl rfl rfl rfl rfl h.rd (by omega) (by omega) ?_
    intro v' hv' hbv
    have e : r.take b n = ((b.drop r.pos).take n, { r with pos := r.pos + n }) := by unfold RdS.take; rw [if_neg hc0, if_neg hc]
    have hv2 : Rd S v' 1 (sbytes ((b.drop r.pos).take n)) ((b.drop r.pos).take n).length := by
      refine hv'.eq ?_ (by simp only [List.length_take, List.length_drop]; omega)
      unfold sbytes
      simp only [Nat.mul_one, List.map_take, List.map_drop, List.drop_take]
      congr 1
      omega
    repeat (
      first
        | refine W_seq ?_
        | refine WO_nil ?_
        | refine V_seq ?_
        | refine W_region ?_
        | refine WO_dst rfl rfl (by kernel_rfl) (by kernel_rfl) ?_
        | refine WO_no rfl rfl ?_
        | refine Ev_load rfl rfl rfl h.cell rfl (veq_int _ _) ?_
        | refine Ev_move rfl ?_
        | refine Ev_assign rfl ?_
        | refine Ev_nilCheck rfl ?_
        | refine Ev_fieldAddr rfl rfl rfl rfl rfl rfl ?_
        | refine Ev_addN rfl rfl (by simp only [lim]; omega) ?_)
    refine Ev_store1 rfl rfl rfl rfl rfl rfl h.cell (by simp) (by omega) ?_
    intro S1 hn1 hq1 hf1
    repeat (
      first
        | refine W_seq ?_
        | refine WO_nil ?_
        | refine V_seq ?_
        | refine W_region ?_
        | refine W_ret ?_
        | refine WO_dst rfl rfl (by kernel_rfl) (by kernel_rfl) ?_
        | refine Ev_move rfl ?_
        | refine Ev_assign rfl ?_)
    refine V_done rfl rfl ?_
    rw [e]
    have hk : ∀ d, blkOf vb = some d → S1.h.get d = S.h.get d := fun d hd => hf1 d (fun e2 => h.ne (by rw [hd, e2]))
    exact ⟨⟨hq1, h.rd.keep hk, h.ne, by dsimp only; omega⟩, ⟨hn1, Sok.upd hok hp hn1 hq1 hf1, hf1⟩, hv2.keep (fun d hd => hk d (hbv d hd)), hbv⟩
end Go.Proofs.YtnlfcoojlgdgaaaDoor
/- mutf.Reader.Number and the like. -/

namespace Go.Proofs.YtnlfcoojlgdgaaaDoor
open GX
set_option maxHeartbeats 8000000
/-- the number that bytes stand for -/
def numOf (l : List Nat) : Nat := l.foldl (fun a x => a * 256 + x) 0
theorem numOf_snoc (l : List Nat) (x : Nat) : numOf (l ++ [x]) = numOf l * 256 + x := by unfold numOf; rw [List.foldl_append]; rfl
theorem numOf_take {l : List Nat} {i : Nat} (h : i < l.length) : numOf (l.take (i + 1)) = numOf (l.take i) * 256 + l.getD i 0 := by
  rw [List.take_add_one, List.getElem?_eq_getElem h]
  rw [show (some l[i]).toList = [l[i]] from rfl, numOf_snoc]
  congr 1
  rw [List.getD_eq_getElem?_getD, List.getElem?_eq_getElem h]; rfl
theorem numOf_lt : ∀ (n : Nat) (l : List Nat), l.length = n → (∀ b ∈ l, b < 256) → numOf l < 256 ^ n := by
  intro n
  induction n with
  | zero => intro l hl _; cases List.eq_nil_of_length_eq_zero hl; decide
  | succ n ih =>
    intro l hl hb
    have hne : l ≠ [] := by intro h; rw [h] at hl; cases hl
    have e := List.dropLast_concat_getLast hne
    have h1 := ih l.dropLast (by rw [List.length_dropLast]; omega) (fun b h => hb b (List.dropLast_subset l h))
    have h2 := hb _ (List.getLast_mem hne)
    rw [← e, numOf_snoc, Nat.pow_succ]
    omega
def numV (l : List Nat) : Int := wrp .i64 ((numOf l : Nat) : Int)
theorem take_len (r : RdS) (b : List Nat) (n : Nat) : (r.take b n).1.length ≤ n := by unfold RdS.take; split; simp; split; simp; simp [List.length_take]; omega
theorem take_lt {r : RdS} {b : List Nat} {n : Nat} (h : ∀ x ∈ b, x < 256) : ∀ x ∈ (r.take b n).1, x < 256 := by
  unfold RdS.take
  split
  · simp
  · split
    · simp
    · exact fun x hx => h x (List.mem_of_mem_drop (List.mem_of_mem_take hx))
theorem rnum_runs {S : St} {p : Nat} {vb : AV} {b : List Nat} {r : RdS} {n : Int} (hok : Sok S) (h : Rr S p vb b r) (hn : S.n ≤ 1000000000) (hb : b.length ≤ 1000000000) (hlt : ∀ x ∈ b, x < 256) :
    Runs X1 29 [.ptr p 0, .int .i64 n] S fun v S' => v = .int .i64 (numV (r.take b (sizeN n)).1) ∧ Rr S' p vb b (r.take b (sizeN n)).2 ∧ FrP S S' p := by
  have hsz := sizeN_le n
  refine Runs_fn (m := 25) (by kernel_rfl) Tryd.func29 rfl (by kernel_rfl) (by kernel_rfl) ?_
  repeat (
    first
      | refine W_seq ?_
      | refine WO_nil ?_
      | refine V_seq ?_
      | refine W_region ?_
      | refine WO_dst rfl rfl (by kernel_rfl) (by kernel_rfl) ?_
      | refine Ev_move rfl ?_
      | refine Ev_assign rfl ?_)
  refine Ev_call rfl rfl ((size_runs n S).mono ?_)
  rintro _ _ - ⟨rfl, rfl⟩
  repeat (
    refine WO_dst rfl rfl (by kernel_rfl) (by kernel_rfl) ?_)
  refine Ev_call rfl rfl ((take_runs hok h hn hb (by omega)).mono ?_)
  rintro v S1 - ⟨h1, hF1, hv, hbv⟩
  obtain ⟨t, ht⟩ : ∃ t, t = (r.take b (sizeN n)).1 := ⟨_, rfl⟩
  rw [← ht] at hv ⊢
  have htl : t.length ≤ sizeN n := by rw [ht]; exact take_len _ _ _
  have htb : ∀ x ∈ t, x < 256 := by rw [ht]; exact take_lt hlt
  repeat (
    first
      | refine WO_nil ?_
      | refine V_seq ?_
      | refine W_block ?_
      | refine WO_dst rfl rfl (by kernel_rfl) (by kernel_rfl) ?_
      | refine Ev_len rfl rfl rfl rfl rfl hv.len ?_
      | refine Ev_move rfl ?_)
  refine W_inv (fun i : Nat => [(13, .int .i64 ((i : Nat) : Int)), (12, .int .i64 ((t.length : Nat) : Int)), (11, v), (5, .int .u64 ((numOf (t.take i) : Nat) : Int))]) (fun i T => T = S1 ∧ i ≤ t.length) (fun i => t.length - i) ?_ 0 ⟨rfl, Nat.zero_le _⟩ ⟨rfl, rfl, rfl, rfl, trivial⟩
  rintro i T ⟨rfl, hi⟩ back
  have hacc := numOf_lt i (t.take i) (by rw [List.length_take]; omega) (fun x hx => htb x (List.mem_of_mem_take hx))
  have h7 : i < t.length → numOf (t.take i) < 72057594037927936 := fun h => Nat.lt_of_lt_of_le hacc (Nat.pow_le_pow_right (n := 256) (by omega) (show i ≤ 7 by omega))
  have hx : i < t.length → t.getD i 0 < 256 := fun h => by
    rw [List.getD_eq_getElem?_getD, List.getElem?_eq_getElem h]
    exact htb _ (List.getElem_mem h)
  have hsn := fun h => numOf_take (l := t) (i := i) h
  repeat' (
    first
      | refine W_seq ?_
      | refine WO_nil ?_
      | refine V_seq ?_
      | refine W_region ?_
      | refine W_block ?_
      | refine W_skip ?_
      | refine W_exit ?_
      | refine V_block ?_
      | refine V_block_x rfl ?_
      | refine V_seq_x ?_
      | refine V_loop_x ?_
      | refine WO_dst rfl rfl (by kernel_rfl) (by kernel_rfl) ?_
      | (refine Ev_indexAddr_rd rfl rfl rfl rfl rfl hv (by first | omega | (dsimp only; omega)) ?_; intro q hq)
      | refine Ev_load_pt rfl rfl rfl hq (by dsimp only; rw [Nat.mul_one]; exact sbytes_get (by first | omega | (dsimp only; omega))) (veq_int _ _) ?_
      | refine Ev_orN 8 rfl rfl rfl (by first | omega | (dsimp only; omega)) (by first | omega | (dsimp only; omega)) (by simp only [lim]; omega) ?_
      | refine Ev_move rfl ?_
      | refine Ev_assign rfl ?_
      | refine Ev_lssN rfl rfl ?_
      | refine Ev_addN rfl rfl (by simp only [lim]; omega) ?_
      | refine Ev_shlN (m := 8) (q := 256) rfl rfl rfl rfl (by simp only [lim]; omega) ?_
      | refine Ev_convN rfl rfl rfl rfl rfl (by simp only [lim]; omega) ?_
      | (refine W_cond rfl (fun hc => ?_) (fun hc => ?_) <;> (try dsimp only at hc) <;> try (exfalso; first | omega | exact hc rfl)))
  · refine back (i + 1) T _ (by omega) ⟨rfl, by omega⟩ ⟨rfl, rfl, rfl, ?_, trivial⟩
    show some (AV.int .u64 ((numOf (List.take i t) * 256 + t.getD i 0 : Nat) : Int)) = some (AV.int .u64 ((numOf (List.take (i + 1) t) : Nat) : Int))
    rw [hsn (by omega)]
  all_goals
    have hi2 : i = t.length := by omega
    subst hi2
    repeat (
      first
        | refine WO_nil ?_
        | refine V_seq ?_
        | refine W_ret ?_
        | refine WO_dst rfl rfl (by kernel_rfl) (by kernel_rfl) ?_
        | refine Ev_convw (k' := .i64) rfl rfl rfl rfl rfl ?_
        | refine Ev_assign rfl ?_)
    refine V_done rfl rfl ?_
    refine ⟨?_, h1, hF1⟩
    show AV.int .i64 (wrp .i64 ((numOf (t.take t.length) : Nat) : Int)) = AV.int .i64 (numV t)
    rw [List.take_length]; rfl
theorem rbytes_runs {S : St} {p : Nat} {vb : AV} {b : List Nat} {r : RdS} {n : Int} (hok : Sok S) (h : Rr S p vb b r) (hn : S.n + 2 ≤ 1000000000) (hb : b.length ≤ 1000000000) (hm : n < 9223372036854775808) :
    Runs X1 25 [.ptr p 0, .int .i64 n] S fun v S' => ∃ r' l, (l, r') = r.take b n.toNat ∧ Rr S' p vb b r' ∧ (S.n ≤ S'.n ∧ S'.n ≤ S.n + 2 ∧ Sok S' ∧ ∀ c, c ≠ p → c < S.n → S'.h.get c = S.h.get c) ∧ Rd S' v 1 (sbytes l) l.length ∧ ∀ c, blkOf v = some c → S.n ≤ c := by
  have hp : p < S.n := hok _ _ h.cell
  refine Runs_fn (m := 10) (by kernel_rfl) Tryd.func25 rfl (by kernel_rfl) (by kernel_rfl) ?_
  repeat (
    first
      | refine W_seq ?_
      | refine WO_nil ?_
      | refine V_seq ?_
      | refine W_region ?_
      | refine WO_dst rfl rfl (by kernel_rfl) (by kernel_rfl) ?_
      | refine Ev_move rfl ?_
      | refine Ev_assign rfl ?_
      | refine Ev_max rfl rfl rfl ?_)
  rw [show max n 0 = ((n.toNat : Nat) : Int) by omega]
  refine Ev_call rfl rfl ((take_runs hok h (by omega) hb (by omega)).mono ?_)
  rintro v S1 - ⟨h1, hF1, hv, hbv⟩
  obtain ⟨l, r', e⟩ : ∃ l r', r.take b n.toNat = (l, r') := ⟨_, _, rfl⟩
  rw [e] at h1 hv
  dsimp only at h1 hv
  have hll : l.length ≤ b.length := by
    have : l = (r.take b n.toNat).1 := by rw [e]
    rw [this]; unfold RdS.take; split; simp; split; simp; simp [List.length_take]; omega
  have gn := hF1.n
  repeat (
    refine WO_dst rfl rfl (by kernel_rfl) (by kernel_rfl) ?_)
  refine Ev_call rfl rfl ((clone_runs hF1.ok hv (by omega) (by omega)).mono ?_)
  rintro v2 S2 - ⟨hF2, hz, hb2⟩
  have gn2 := hF2.n
  have gl2 := hF2.le
  repeat (
    first
      | refine WO_nil ?_
      | refine V_seq ?_
      | refine W_ret ?_
      | refine WO_dst rfl rfl (by kernel_rfl) (by kernel_rfl) ?_
      | refine Ev_assign rfl ?_)
  refine V_done rfl rfl ?_
  have hok1 := hF1.ok
  refine ⟨r', l, e.symm, ⟨?_, h1.rd.keep (fun c hc => hF2.same c (by simp [blkOf]) (h1.rd.lt hok1 hc)), h1.ne, h1.le⟩, ⟨by omega, by omega, hF2.ok, fun c h3 h4 => ?_⟩, hz.rd, fun c hc => by have := hb2 c hc; omega⟩
  · rw [hF2.same p (by simp [blkOf]) (by omega)]; exact h1.cell
  · rw [hF2.same c (by simp [blkOf]) (by omega), hF1.same c h3]
end Go.Proofs.YtnlfcoojlgdgaaaDoor
/- Reader: NewReader; Bytes answers a list in new memory. -/

namespace Go.Proofs.YtnlfcoojlgdgaaaDoor
open GX
set_option maxHeartbeats 8000000
theorem newrd_runs {S : St} {v : AV} {b : List Nat} (hok : Sok S) (hv : Rd S v 1 (sbytes b) b.length) (hb : b.length ≤ 1000000000) (hn : S.n + 3 ≤ 1000000000) :
    Runs X1 23 [v] S fun x S' => ∃ p vb, x = .ptr p 0 ∧ S.n ≤ p ∧ p < S'.n ∧ Rr S' p vb b ⟨0, 0, 0⟩ ∧ (∀ c, blkOf vb = some c → S.n ≤ c) ∧ Fr S S' .nils 3 := by
  refine Runs_fn (m := 7) (by kernel_rfl) Tryd.func23 rfl (by kernel_rfl) (by kernel_rfl) ?_
  repeat (
    first
      | refine W_seq ?_
      | refine WO_nil ?_
      | refine V_seq ?_
      | refine W_region ?_
      | refine WO_dst rfl rfl (by kernel_rfl) (by kernel_rfl) ?_
      | refine Ev_move rfl ?_
      | refine Ev_assign rfl ?_)
  refine Ev_call rfl rfl ((clone_runs hok hv hb (by omega)).mono ?_)
  rintro w S1 - ⟨hF1, hz, hb1⟩
  have hn1 := hF1.n
  have hl1 := hF1.le
  have hwr := hz.rd
  repeat (
    refine WO_dst rfl rfl (by kernel_rfl) (by kernel_rfl) ?_)
  refine Ev_build (v := .agg [w, .int .i64 0, .int .i64 0, .int .i64 0]) rfl ?_ ?_
  · have hs := hwr.sl
    cases w <;> first | rfl | cases hs
  repeat (
    refine WO_dst rfl rfl (by kernel_rfl) (by kernel_rfl) ?_)
  refine Ev_box rfl hF1.ok (by omega) ?_
  intro S2 hn2 hok2 hq2 hf2
  repeat (
    first
      | refine WO_nil ?_
      | refine V_seq ?_
      | refine W_ret ?_
      | refine WO_dst rfl rfl (by kernel_rfl) (by kernel_rfl) ?_
      | refine Ev_assign rfl ?_)
  refine V_done rfl rfl ?_
  refine ⟨S1.n, w, rfl, by omega, by omega, ⟨hq2, hwr.keep (fun c hc => hf2 c (hwr.lt hF1.ok hc)), fun e => ?_, Nat.zero_le _⟩, hb1, ⟨by omega, by omega, hok2, fun c _ h => by rw [hf2 c (by omega), hF1.same c (by simp [blkOf]) h]⟩⟩
  have := hwr.lt hF1.ok e; omega
theorem rbytes2_runs {S : St} {p : Nat} {vb : AV} {b : List Nat} {r : RdS} {n : Int} (hok : Sok S) (h : Rr S p vb b r) (hn : S.n + 2 ≤ 1000000000) (hb : b.length ≤ 1000000000) (hm : n < 9223372036854775808) :
    Runs X1 25 [.ptr p 0, .int .i64 n] S fun v S' => ∃ r' l, (l, r') = r.take b n.toNat ∧ Rr S' p vb b r' ∧ (S.n ≤ S'.n ∧ S'.n ≤ S.n + 2 ∧ Sok S' ∧ ∀ c, c ≠ p → c < S.n → S'.h.get c = S.h.get c) ∧ Gz S' v 5 1 (sbytes l) l.length ∧ l.length ≤ b.length ∧ r'.pos ≤ b.length ∧ ∀ c, blkOf v = some c → S.n ≤ c := by
  have hp : p < S.n := hok _ _ h.cell
  refine Runs_fn (m := 10) (by kernel_rfl) Tryd.func25 rfl (by kernel_rfl) (by kernel_rfl) ?_
  repeat (
    first
      | refine W_seq ?_
      | refine WO_nil ?_
      | refine V_seq ?_
      | refine W_region ?_
      | refine WO_dst rfl rfl (by kernel_rfl) (by kernel_rfl) ?_
      | refine Ev_move rfl ?_
      | refine Ev_assign rfl ?_
      | refine Ev_max rfl rfl rfl ?_)
  rw [show max n 0 = ((n.toNat : Nat) : Int) by omega]
  refine Ev_call rfl rfl ((take_runs hok h (by omega) hb (by omega)).mono ?_)
  rintro v S1 - ⟨h1, hF1, hv, hbv⟩
  obtain ⟨l, r', e⟩ : ∃ l r', r.take b n.toNat = (l, r') := ⟨_, _, rfl⟩
  rw [e] at h1 hv
  dsimp only at h1 hv
  have hll : l.length ≤ b.length := by
    have : l = (r.take b n.toNat).1 := by rw [e]
    rw [this]; unfold RdS.take; split; simp; split; simp; simp [List.length_take]; omega
  have gn := hF1.n
  repeat (
    refine WO_dst rfl rfl (by kernel_rfl) (by kernel_rfl) ?_)
  refine Ev_call rfl rfl ((clone_runs hF1.ok hv (by omega) (by omega)).mono ?_)
  rintro v2 S2 - ⟨hF2, hz, hb2⟩
  have gn2 := hF2.n
  have gl2 := hF2.le
  repeat (
    first
      | refine WO_nil ?_
      | refine V_seq ?_
      | refine W_ret ?_
      | refine WO_dst rfl rfl (by kernel_rfl) (by kernel_rfl) ?_
      | refine Ev_assign rfl ?_)
  refine V_done rfl rfl ?_
  have hok1 := hF1.ok
  refine ⟨r', l, e.symm, ⟨?_, h1.rd.keep (fun c hc => hF2.same c (by simp [blkOf]) (h1.rd.lt hok1 hc)), h1.ne, h1.le⟩, ⟨by omega, by omega, hF2.ok, fun c h3 h4 => ?_⟩, hz, hll, h1.le, fun c hc => by have := hb2 c hc; omega⟩
  · rw [hF2.same p (by simp [blkOf]) (by omega)]; exact h1.cell
  · rw [hF2.same c (by simp [blkOf]) (by omega), hF1.same c h3]
end Go.Proofs.YtnlfcoojlgdgaaaDoor
/- carafelaw1.MutfKept over the model's own runs. (NODRAWN) -/




namespace Go.Proofs.YtnlfcoojlgdgaaaDoor
open GX
set_option maxHeartbeats 16000000
set_option maxRecDepth 100000
/-- one block that a book does not know turns, and lists in new memory are going to be kept -/
theorem Pd.upd {T U : St} {p b : Nat} {is : List It} {m : Nat} {ps : List (AV × List El)} {qs : List (Nat × AB)} {x x' : AB} (h : Pd T p is [] ((b, x) :: qs) m) (hok : Sok U) (hf : ∀ c, c ≠ b → c < T.n → U.h.get c = T.h.get c) (hb : U.h.get b = some x') (hne : ∀ y ∈ qs, y.1 ≠ b)
    (hz : ∀ x ∈ ps, Kz U x.1 x.2 ∧ x.2.length ≤ 10000000) (hn : ∀ x ∈ ps, ∀ c, blkOf x.1 = some c → T.n ≤ c) (hd : ps.Pairwise fun x y => ∀ c, blkOf x.1 = some c → blkOf y.1 ≠ some c) : Pd U p is ps ((b, x') :: qs) m := by
  obtain ⟨vl, vw, hh, hb0, _, hfq⟩ := h.ex
  have hfb := hfq _ (List.mem_cons_self ..)
  have hbT : b < T.n := hb0.ok _ _ (h.st _ (List.mem_cons_self ..)).1
  refine ⟨⟨vl, vw, hh, hb0.other hok (fun c hc hnf => hf c (fun e => hnf (by rw [e]; exact hfb)) hc), fun x hx c hc => hb0.fre (hn x hx c hc), fun y hy => ?_⟩, h.few, hz, hd, fun y hy => ?_⟩
  · rcases List.mem_cons.1 hy with rfl | hy
    · exact hfb
    · exact hfq y (List.mem_cons_of_mem _ hy)
  · rcases List.mem_cons.1 hy with rfl | hy
    · exact ⟨hb, fun x hx e => by have := hn x hx _ e; dsimp only at this; omega⟩
    · have h1 := (h.st y (List.mem_cons_of_mem _ hy)).1
      have hlt := hb0.ok _ _ h1
      exact ⟨by rw [hf _ (hne y hy) hlt]; exact h1, fun x hx e => by have := hn x hx _ e; omega⟩
/-- the block of a value, as it is -/
noncomputable def qsOf (S : St) (v : AV) : List (Nat × AB) := match blkOf v with
  | some b => (match S.h.get b with | some x => [(b, x)] | none => [])
  | none => []
theorem qsOf_mem {S : St} {v : AV} {y : Nat × AB} (h : y ∈ qsOf S v) : blkOf v = some y.1 ∧ S.h.get y.1 = some y.2 := by
  unfold qsOf at h
  split at h
  · rename_i b hb
    split at h
    · rename_i x hx
      rw [List.mem_singleton] at h; subst h
      exact ⟨hb, hx⟩
    · cases h
  · cases h
theorem qsOf_get {S T : St} {v : AV} {sz m : Nat} {cs : List AV} (hr : Rd S v sz cs m) (h : ∀ y ∈ qsOf S v, T.h.get y.1 = some y.2) : ∀ c, blkOf v = some c → T.h.get c = S.h.get c := by
  intro c hc
  cases hx : S.h.get c with
  | some x => exact h (c, x) (by unfold qsOf; rw [hc]; dsimp only; rw [hx]; exact List.mem_cons_self ..)
  | none =>
    exfalso
    have h1 := hr.cells
    cases v <;> first | (cases hc; done) | skip
    all_goals (cases hc; unfold srcCells row at h1; dsimp only at h1; first | (rw [hx] at h1; cases h1) | cases h1)
theorem kept_calls [Val] (hx1 : ∀ f g, X1.ext f = some g → ExtOK Tryd.prog f g) {s b : List Nat} {bv : AV} (hs : s.length ≤ 1048576) (hbv : ∀ S, Rd S bv 1 (sbytes b) b.length) (hbl : b.length ≤ 1048576)
    {vs : Array Go.Value} (hv : vrels φ0 [.str s, bv] vs.toList) (w : Go.World) (hro : ∀ g o, Val.ro g = some o → w.heap[g]? = some o) :
    Go.Calls Tryd.prog 7 vs w fun e w' => e = .returned (.bool true) ∧ Go.RowKit.Below w.heap.size w w' := by
  have hX2 := xok2
  have hx2 := ext2_ok hx1
  have hX := xok1
  have hx := hx1
  refine SW_true (m := 44) xok2 Tryd.func7 rfl (by kernel_rfl) (by kernel_rfl) ?_ hv w hro
  repeat (
    first
      | refine SW_seq ?_
      | refine SWO_nil ?_
      | refine SV_seq ?_
      | refine SW_region ?_
      | refine SWO_dst hX hx rfl rfl (by kernel_rfl) (by kernel_rfl) ?_
      | refine Ev_assign rfl ?_)
  refine Ev_alloc_ rfl (by intro c x h; simp [Tr.get] at h) (by decide) ?_
  intro T0 n0 ok0 q0 f0
  have hn0 : T0.n = 1 := n0
  have p0 : Pd T0 0 [] [] [] 0 := Pd.start ok0 q0 (fun y hy => by cases hy)
  repeat (
    first
      | refine SW_seq ?_
      | refine SWO_nil ?_
      | refine SV_seq ?_
      | refine SW_region ?_
      | refine SWO_dst hX hx rfl rfl (by kernel_rfl) (by kernel_rfl) ?_)
  refine Ev_call rfl rfl ((new_runs ok0 (by omega)).mono ?_)
  rintro _ T1 - ⟨rfl, n1, ok1, f1, wr1⟩
  repeat (
    first
      | refine SW_seq ?_
      | refine SWO_nil ?_
      | refine SV_seq ?_
      | refine SW_region ?_
      | refine SWO_dst hX hx rfl rfl (by kernel_rfl) (by kernel_rfl) ?_
      | refine Ev_move rfl ?_
      | refine Ev_assign rfl ?_)
  refine Ev_call rfl rfl ((newrd_runs ok1 (hbv _) (by omega) (by omega)).mono ?_)
  rintro _ T2 - ⟨pr, vr, rfl, hpr1, hpr2, rr2, hvr, F2⟩
  have g2n := F2.n
  have g2l := F2.le
  have wr2 : Wr T2 T0.n .nils [] := ⟨by rw [F2.same _ (by simp [blkOf]) (by omega)]; exact wr1.at_, .inl ⟨rfl, rfl, rfl⟩, by simp [blkOf]⟩
  repeat' (
    first
      | refine SW_seq ?_
      | refine SWO_nil ?_
      | refine SV_seq ?_
      | refine SW_region ?_
      | refine SW_skip ?_
      | refine SW_cond_f rfl ?_
      | refine SWO_dst hX hx rfl rfl (by kernel_rfl) (by kernel_rfl) ?_
      | refine SWO_guard_t rfl rfl rfl rfl rfl (by kernel_rfl) (by kernel_rfl) ?_
      | refine Ev_move rfl ?_
      | refine Ev_assign rfl ?_
      | refine Ev_pick_f rfl rfl rfl ?_
      | refine Ev_ptr_eql rfl rfl rfl rfl ?_)
  refine Ev_call rfl rfl ((wbytes_runs F2.ok wr2 (hbv _) (Nat.zero_le _) (by omega) (by omega)).mono ?_)
  rintro _ T3 - ⟨vw, wr3, F3⟩
  have g3n := F3.n
  have g3l := F3.le
  rw [List.nil_append] at wr3
  have hvr2 : ∀ c, blkOf vr = some c → T1.n ≤ c ∧ c < T2.n := fun c hc => ⟨hvr c hc, rr2.rd.lt F2.ok hc⟩
  have hvw3 : ∀ c, blkOf vw = some c → T2.n ≤ c ∧ c < T3.n := fun c hc => ⟨(F3.bk c hc).resolve_left (by simp [blkOf]), wr3.ow.lt F3.ok hc⟩
  have f23 : ∀ c, c ≠ T0.n → c < T2.n → T3.h.get c = T2.h.get c := fun c h1 h2 => F3.same c h1 (by simp [blkOf]) h2
  have rr3 : Rr T3 pr vr b ⟨0, 0, 0⟩ := ⟨by rw [f23 _ (by omega) hpr2]; exact rr2.cell, rr2.rd.keep (fun c hc => f23 c (by have := hvr2 c hc; omega) (hvr2 c hc).2), rr2.ne, rr2.le⟩
  have f03 : ∀ c, c < T0.n → T3.h.get c = T0.h.get c := fun c hc => by rw [f23 c (by omega) (by omega), F2.same c (by simp [blkOf]) (by omega), f1 c hc]
  have hqs : ∀ y ∈ (T0.n, AB.cells 79 [vw] false) :: (qsOf T3 vw ++ qsOf T3 vr), y.1 ≠ pr ∧ T0.n ≤ y.1 ∧ T3.h.get y.1 = some y.2 := by
    intro y hy
    rcases List.mem_cons.1 hy with rfl | hy
    · exact ⟨by dsimp only; omega, Nat.le_refl _, wr3.at_⟩
    rcases List.mem_append.1 hy with hy | hy
    · obtain ⟨h1, h2⟩ := qsOf_mem hy
      have := hvw3 _ h1
      exact ⟨by omega, by omega, h2⟩
    · obtain ⟨h1, h2⟩ := qsOf_mem hy
      have := hvr2 _ h1
      exact ⟨fun e => rr3.ne (by rw [h1, e]), by omega, h2⟩
  have p3 : Pd T3 0 [] [] ((pr, AB.cells 84 [vr, .int .i64 0, .int .i64 0, .int .i64 0] false) :: (T0.n, AB.cells 79 [vw] false) :: (qsOf T3 vw ++ qsOf T3 vr)) 0 := by
    have h := p0.more (ps := []) (qs' := (pr, AB.cells 84 [vr, .int .i64 0, .int .i64 0, .int .i64 0] false) :: (T0.n, AB.cells 79 [vw] false) :: (qsOf T3 vw ++ qsOf T3 vr)) F3.ok f03 (fun x hx => by cases hx) (fun x hx => by cases hx) .nil (fun y hy => ?_)
    · exact h
    · rcases List.mem_cons.1 hy with rfl | hy
      · exact ⟨by dsimp only; omega, rr3.cell, fun x hx => by cases hx⟩
      · exact ⟨(hqs y hy).2.1, (hqs y hy).2.2, fun x hx => by cases hx⟩
  have hrd : ∀ {T : St} {is : List It} {m : Nat} {r : RdS}, r.pos ≤ b.length → Pd T 0 is [] ((pr, AB.cells 84 [vr, .int .i64 ((r.pos : Nat) : Int), .int .i64 r.err, .int .i64 r.at_] false) :: (T0.n, AB.cells 79 [vw] false) :: (qsOf T3 vw ++ qsOf T3 vr)) m → Rr T pr vr b r ∧ Wr T T0.n vw b := by
    intro T is m r hr hp
    have h1 : ∀ y ∈ qsOf T3 vw, T.h.get y.1 = some y.2 := fun y hy => (hp.st y (List.mem_cons_of_mem _ (List.mem_cons_of_mem _ (List.mem_append_left _ hy)))).1
    have h2 : ∀ y ∈ qsOf T3 vr, T.h.get y.1 = some y.2 := fun y hy => (hp.st y (List.mem_cons_of_mem _ (List.mem_cons_of_mem _ (List.mem_append_right _ hy)))).1
    exact ⟨⟨(hp.st _ (List.mem_cons_self ..)).1, rr3.rd.keep (qsOf_get rr3.rd h2), rr3.ne, hr⟩, ⟨(hp.st _ (List.mem_cons_of_mem _ (List.mem_cons_self ..))).1, wr3.ow.keep (qsOf_get wr3.ow.rd h1), wr3.ne⟩⟩
  have hel := encS_len s
  repeat (
    first
      | refine SW_seq ?_
      | refine SWO_nil ?_
      | refine SV_seq ?_
      | refine SW_region ?_
      | refine SW_block ?_
      | refine SWO_dst hX hx rfl rfl (by kernel_rfl) (by kernel_rfl) ?_
      | refine Ev_assign rfl ?_)
  refine SW_inv (fun i : Nat => [(8, .int .i64 ((i : Nat) : Int)), (7, .ptr pr 0), (6, .ptr T0.n 0), (5, .ptr 0 0), (0, .str s)]) (fun i T => i ≤ 2 ∧ (∃ (r : RdS) (is : List It), r.pos ≤ b.length ∧ Pd T 0 is [] ((pr, AB.cells 84 [vr, .int .i64 ((r.pos : Nat) : Int), .int .i64 r.err, .int .i64 r.at_] false) :: (T0.n, AB.cells 79 [vw] false) :: (qsOf T3 vw ++ qsOf T3 vr)) (3 * i)) ∧ T.n ≤ 100 + 5000000 * i) (fun i => 2 - i) ?_ 0 ⟨by omega, ⟨⟨0, 0, 0⟩, _, Nat.zero_le _, p3⟩, by omega⟩ ⟨rfl, rfl, rfl, rfl, rfl, trivial⟩
  rintro i T ⟨hi, ⟨r, is, hr, hp⟩, hTn⟩ back
  repeat' (
    first
      | refine SW_seq ?_
      | refine SWO_nil ?_
      | refine SV_seq ?_
      | refine SW_region ?_
      | refine SWO_dst hX hx rfl rfl (by kernel_rfl) (by kernel_rfl) ?_
      | refine Ev_move rfl ?_
      | refine Ev_lssN rfl rfl ?_)
  refine SW_cond rfl (fun hc => ?_) (fun hc => ?_)
  · have hlt : i < 2 := hc
    repeat (
      first
        | refine SW_seq ?_
        | refine SV_seq ?_
        | refine SW_region ?_
        | refine SW_skip ?_
        | refine SW_block ?_
        | refine SWO_dst hX hx rfl rfl (by kernel_rfl) (by kernel_rfl) ?_
        | refine Ev_move rfl ?_)
    refine Ev_call rfl rfl ((enc_runs hp.ok (by omega) (by omega)).mono ?_)
    rintro _ U1 - ⟨hF, ⟨ev, rfl, how, hbk⟩⟩
    have u1n := hF.n
    have u1l := hF.le
    generalize hee : (if vS s = true then encS s else []) = e at *
    have hle : e.length ≤ 10000000 := by
      rw [← hee]
      split
      · omega
      · exact Nat.zero_le _
    have p1 := hp.more (ps := [(ev, e)]) (qs' := []) hF.ok (fun c hc => hF.same c (by simp [blkOf]) hc) (fun x hx => by rw [List.mem_singleton] at hx; subst hx; exact ⟨.inl how, hle⟩) (fun x hx => by rw [List.mem_singleton] at hx; subst hx; exact hbk) (List.pairwise_singleton _ _) (fun y hy => by cases hy)
    rw [List.append_nil] at p1
    repeat (first | (refine SWO_dst hX hx rfl rfl (by kernel_rfl) (by kernel_rfl) ?_; first | refine Ev_assign rfl ?_ | refine Ev_move rfl ?_ | refine Ev_extract rfl rfl ?_ | refine Ev_field rfl rfl rfl rfl rfl ?_) | refine SWO_nil ?_ | refine SV_seq ?_ | refine SW_seq ?_ | refine SW_region ?_)
    refine SWO_it (d := 32) rfl (p1.kz _ (List.mem_cons_self ..)).1 hle hF.ok (by kernel_rfl) (by kernel_rfl) ?_
    intro it1 U2 a1 b1 c1 d1 e1 f1'
    obtain ⟨r1, s1, t1⟩ := p1.cap b1 d1 f1'
    have hX := hX2
    have hx := hx2
    repeat (
      refine SWO_dst hX hx rfl rfl (by kernel_rfl) (by kernel_rfl) ?_)
    refine Ev_call rfl rfl ((keep_pd r1 s1 t1 a1 c1 (by omega) (by omega)).mono ?_)
    rintro _ U3 - ⟨⟨is3, r3⟩, u3l, u3n⟩
    obtain ⟨_, wr⟩ := hrd hr r3
    have hX := xok1
    have hx := hx1
    repeat (
      first
        | refine SW_seq ?_
        | refine SWO_nil ?_
        | refine SV_seq ?_
        | refine SW_region ?_
        | refine SWO_dst hX hx rfl rfl (by kernel_rfl) (by kernel_rfl) ?_
        | refine Ev_move rfl ?_)
    refine Ev_call rfl rfl ((done_runs r3.ok wr (by omega) (by omega)).mono ?_)
    rintro dv U4 - ⟨hF4, hz4, hb4⟩
    have u4n := hF4.n
    have u4l := hF4.le
    have p4 := r3.more (ps := [(dv, b)]) (qs' := []) hF4.ok (fun c hc => hF4.same c (by simp [blkOf]) hc) (fun x hx => by rw [List.mem_singleton] at hx; subst hx; exact ⟨.of hz4, by dsimp only; omega⟩) (fun x hx => by rw [List.mem_singleton] at hx; subst hx; exact hb4) (List.pairwise_singleton _ _) (fun y hy => by cases hy)
    rw [List.append_nil] at p4
    refine SWO_it (d := 35) rfl (p4.kz _ (List.mem_cons_self ..)).1 (Nat.le_trans hbl (by decide)) hF4.ok (by kernel_rfl) (by kernel_rfl) ?_
    intro it4 U5 a4 b4 c4 d4 e4 f4
    obtain ⟨r5, s5, t5⟩ := p4.cap b4 d4 f4
    have hX := hX2
    have hx := hx2
    repeat (
      refine SWO_dst hX hx rfl rfl (by kernel_rfl) (by kernel_rfl) ?_)
    refine Ev_call rfl rfl ((keep_pd r5 s5 t5 a4 c4 (by omega) (by omega)).mono ?_)
    rintro _ U6 - ⟨⟨is6, r6⟩, u6l, u6n⟩
    obtain ⟨rr, _⟩ := hrd hr r6
    have hX := xok1
    have hx := hx1
    repeat (
      first
        | refine SWO_nil ?_
        | refine SV_seq ?_
        | refine SW_region ?_
        | refine SWO_dst hX hx rfl rfl (by kernel_rfl) (by kernel_rfl) ?_
        | refine Ev_move rfl ?_)
    refine Ev_call rfl rfl ((rbytes2_runs (n := 2) r6.ok rr (by omega) (by omega) (by decide)).mono ?_)
    rintro rv U7 - ⟨r', l, _, rr7, ⟨u7l, u7n, ok7, f7⟩, hz7, hl7, hr7, hb7⟩
    have p7 := r6.upd (ps := [(rv, l)]) ok7 f7 rr7.cell (fun y hy => (hqs y hy).1) (fun x hx => by rw [List.mem_singleton] at hx; subst hx; exact ⟨.of hz7, by dsimp only; omega⟩) (fun x hx => by rw [List.mem_singleton] at hx; subst hx; exact hb7) (List.pairwise_singleton _ _)
    refine SWO_it (d := 38) rfl (p7.kz _ (List.mem_cons_self ..)).1 (Nat.le_trans hl7 (Nat.le_trans hbl (by decide))) ok7 (by kernel_rfl) (by kernel_rfl) ?_
    intro it7 U8 a7 b7 c7 d7 e7 f7'
    obtain ⟨r8, s8, t8⟩ := p7.cap b7 d7 f7'
    have hX := hX2
    have hx := hx2
    repeat (
      refine SWO_dst hX hx rfl rfl (by kernel_rfl) (by kernel_rfl) ?_)
    refine Ev_call rfl rfl ((keep_pd r8 s8 t8 a7 c7 (by omega) (by omega)).mono ?_)
    rintro _ U9 - ⟨⟨is9, r9⟩, u9l, u9n⟩
    repeat (
      first
        | refine SWO_nil ?_
        | refine SV_seq ?_
        | refine SW_region ?_
        | refine SV_block ?_
        | refine SWO_dst hX hx rfl rfl (by kernel_rfl) (by kernel_rfl) ?_
        | refine Ev_move rfl ?_
        | refine Ev_assign rfl ?_
        | refine Ev_addN rfl rfl (by simp only [lim]; omega) ?_)
    exact back (i + 1) U9 _ (by omega) ⟨by omega, ⟨r', is9, hr7, r9⟩, by omega⟩ ⟨rfl, rfl, rfl, rfl, rfl, trivial⟩
  · have hX := hX2
    have hx := hx2
    repeat (
      first
        | refine SW_seq ?_
        | refine SV_seq ?_
        | refine SW_region ?_
        | refine SW_exit ?_
        | refine SV_block_x rfl ?_
        | refine SV_seq_x ?_
        | refine SV_loop_x ?_
        | refine SWO_dst hX hx rfl rfl (by kernel_rfl) (by kernel_rfl) ?_)
    refine Ev_call rfl rfl ((apart_pd hp (by omega)).mono ?_)
    rintro _ T7 - rfl
    repeat (
      first
        | refine SWO_dst hX hx rfl rfl (by kernel_rfl) (by kernel_rfl) ?_
        | refine SWO_guard_t rfl rfl rfl rfl rfl (by kernel_rfl) (by kernel_rfl) ?_
        | refine Ev_move rfl ?_)
    refine Ev_call rfl rfl (known_true2 ?_)
    repeat (
      first
        | refine SWO_nil ?_
        | refine SV_seq ?_
        | refine SW_ret ?_
        | refine SWO_dst hX hx rfl rfl (by kernel_rfl) (by kernel_rfl) ?_
        | refine Ev_assign rfl ?_
        | refine Ev_pick_t rfl rfl rfl ?_)
    exact SV_done rfl rfl rfl
end Go.Proofs.YtnlfcoojlgdgaaaDoor
/- GX: slices that come in as arguments: they are only read. -/


namespace GX
open Go
section
variable {P : Program} {X : X}
theorem vrels_ints [Val] {φ : Phi} {k : IntKind} : ∀ (l : List Int), vrels φ (l.map (AV.int k)) (l.map (Value.int k))
  | [] => vrels_nil
  | n :: l => vrels_cons (by simp [vrel]) (vrels_ints l)
theorem veqs_ints {k : IntKind} : ∀ (l : List Int), veqs (l.map (AV.int k)) (l.map (AV.int k)) = true
  | [] => rfl
  | n :: l => by simp only [List.map_cons, veqs, veqs_ints l, veq, ieq_eq]; simp
/-- cells that came in, as a slice that is only read -/
theorem arg_cells [Val] {φ : Phi} {w : World} (hro : ∀ g o, w.heap[g]? = some o → Val.ro g = some o) {a : Addr} {len cap : Nat} {cs : List AV} {vs : List Value} (hl : len ≤ cap) (hv : vs.length = len) (hcell : ∀ i v, vs[i]? = some v → w.cell? (a.add i) = some v) (hrel : vrels φ cs vs) (hself : veqs cs cs = true) :
    ∃ av, vrel φ av (.slice (some a) len cap) ∧ ∀ S, Rd S av 1 cs len := by
  have hcl : cs.length = len := by rw [vrels_length hrel, hv]
  by_cases h0 : len = 0
  · subst h0
    cases List.eq_nil_of_length_eq_zero hcl
    exact ⟨.emp, ⟨a, cap, rfl⟩, fun S => ⟨rfl, rfl, rfl, rfl, rfl, rfl⟩⟩
  · have hsp : a.spot = none ∧ ∃ c t fz, w.heap[a.block]? = some (.cells c t fz) := by
      obtain ⟨v, hv0⟩ : ∃ v, vs[0]? = some v := ⟨_, List.getElem?_eq_getElem (by omega)⟩
      have h := hcell 0 v hv0
      unfold Addr.add World.cell? at h
      simp only [if_true] at h
      split at h
      · rename_i c t fz hh
        split at h
        · cases h
        · rename_i hs
          exact ⟨by simpa using hs, c, t, fz, hh⟩
      · cases h
    obtain ⟨hs, c, t, fz, hh⟩ := hsp
    have hget : ∀ i v, vs[i]? = some v → c[a.off + i]? = some v := by
      intro i v hi
      have h := hcell i v hi
      unfold World.cell? at h
      by_cases hi0 : i = 0
      · subst hi0
        simp only [Addr.add, if_true, hh, hs] at h
        simpa using h
      · simp only [Addr.add, if_neg hi0, hh] at h
        simpa using h
    have hfit : a.off + len ≤ c.size := by
      obtain ⟨v, hv0⟩ : ∃ v, vs[len - 1]? = some v := ⟨_, List.getElem?_eq_getElem (by omega)⟩
      have := (Array.getElem?_eq_some_iff.1 (hget _ _ hv0)).1
      omega
    have hlist : (c.toList.drop a.off).take len = vs := by
      apply List.ext_getElem?
      intro i
      rw [List.getElem?_take]
      split
      · rename_i hi
        obtain ⟨v, hv0⟩ : ∃ v, vs[i]? = some v := ⟨_, List.getElem?_eq_getElem (by omega)⟩
        rw [hv0, List.getElem?_drop]
        simpa using hget i v hv0
      · rw [List.getElem?_eq_none (by omega)]
    refine ⟨.rsl cs len 1, ?_, fun S => ⟨by simp [capW, hcl], by simp [veq, hself], rfl, rfl, ?_, by omega⟩⟩
    · simp only [vrel]
      refine ⟨a.block, a.off, cap, c, t, fz, ?_, hl, by omega, hro _ _ hh, by omega, by rw [hcl, hlist]; exact hrel⟩
      rw [← hs]
    · unfold srcCells; dsimp only
      rw [nble, decide_eq_true (by omega)]
      simp only [nbeq, decide_true, Bool.true_and, cond_true]
      rw [List.take_of_length_le (by omega)]
theorem arg_nil [Val] {φ : Phi} : vrel φ .nils (.slice none 0 0) ∧ ∀ S, Rd S .nils 1 [] 0 := ⟨rfl, fun _ => ⟨rfl, rfl, rfl, rfl, rfl, rfl⟩⟩
theorem arg_ints [Val] {φ : Phi} {k : IntKind} {w : World} (hro : ∀ g o, w.heap[g]? = some o → Val.ro g = some o) {a : Addr} {len cap : Nat} {zs : List Int} (hl : len ≤ cap) (hz : len ≤ zs.length) (hcell : ∀ i, i < zs.length → w.cell? (a.add i) = some (.int k (zs.getD i 0))) :
    ∃ av, vrel φ av (.slice (some a) len cap) ∧ ∀ S, Rd S av 1 ((zs.take len).map (AV.int k)) len := by
  refine arg_cells (vs := (zs.take len).map (Value.int k)) hro hl (by simp; omega) ?_ (vrels_ints _) (veqs_ints _)
  intro i v hi
  rw [List.getElem?_map] at hi
  have hi2 : i < len := by
    rcases Nat.lt_or_ge i len with h | h
    · exact h
    · rw [List.getElem?_eq_none (by simp; omega)] at hi; cases hi
  rw [List.getElem?_take, if_pos hi2, List.getElem?_eq_getElem (by omega)] at hi
  have hc := hcell i (by omega)
  rw [List.getD_eq_getElem?_getD, List.getElem?_eq_getElem (by omega)] at hc
  cases hi
  simpa using hc
/-- bytes that came in -/
theorem arg_bytes [Val] {φ : Phi} {w : World} (hro : ∀ g o, w.heap[g]? = some o → Val.ro g = some o) {a : Addr} {len cap : Nat} {zs : List Int} (hl : len ≤ cap) (hz : len ≤ zs.length) (hcell : ∀ i, i < zs.length → w.cell? (a.add i) = some (.int .u8 (zs.getD i 0))) (hwf : ∀ n ∈ zs, 0 ≤ n ∧ n < 256) :
    ∃ av l, vrel φ av (.slice (some a) len cap) ∧ (∀ S, Rd S av 1 (sbytes l) l.length) ∧ (∀ b ∈ l, b < 256) ∧ l.length = len := by
  obtain ⟨av, h1, h2⟩ := arg_ints (φ := φ) hro hl hz hcell
  have hlen : ((zs.take len).map Int.toNat).length = len := by simp; omega
  refine ⟨av, (zs.take len).map Int.toNat, h1, fun S => (h2 S).eq ?_ hlen.symm, ?_, hlen⟩
  · unfold sbytes
    rw [List.map_map]
    apply List.map_congr_left
    intro n hn
    have := hwf n (List.mem_of_mem_take hn)
    show AV.int .u8 n = AV.int .u8 (Int.ofNat n.toNat)
    congr 1
    show n = ((n.toNat : Nat) : Int)
    omega
  · intro b hb
    obtain ⟨n, hn, rfl⟩ := List.mem_map.1 hb
    have := hwf n (List.mem_of_mem_take hn)
    omega
end
end GX
/- Chapter 1: arguments that are slices; the tables. -/


namespace Go.Proofs.YtnlfcoojlgdgaaaDoor
open GX Go.Shelf
theorem cell_all {w w' : World} {a : Addr} {v : Value} (hs : ∀ (g : Nat) (o : Obj), w.heap[g]? = some o → w'.heap[g]? = some o) (h : w.cell? a = some v) : w'.cell? a = some v := by
  cases ho : w.heap[a.block]? with
  | none => simp [World.cell?, ho] at h
  | some o =>
    have h1 := hs _ o ho
    simpa [World.cell?, ho, h1] using h
theorem tabs_all (w : World) (hT : Lib.Utf8Tabs (Tryd.laysValid_ren.g 3) (Tryd.laysValid_ren.g 4) w) (w' : World) (hs : ∀ (g : Nat) (o : Obj), w.heap[g]? = some o → w'.heap[g]? = some o) : Lib.Utf8Tabs (Tryd.laysValid_ren.g 3) (Tryd.laysValid_ren.g 4) w' :=
  ⟨fun c hc => cell_all hs (hT.1 c hc), fun i hi => ⟨cell_all hs (hT.2 i hi).1, cell_all hs (hT.2 i hi).2⟩⟩
theorem str_rel [Val] (φ : Phi) (s : ByteArray) : vrel φ (.str (GX.bytes s)) (.string s) := ⟨s, rfl, rfl⟩
theorem bytes_lt (s : ByteArray) : ∀ b ∈ GX.bytes s, b < 256 := by
  intro b hb
  unfold GX.bytes at hb
  obtain ⟨c, _, rfl⟩ := List.mem_map.1 hb
  exact c.toNat_lt
theorem wf_u8 {n : Int} (h : (Lit.int .u8 n).wf = true) : 0 ≤ n ∧ n < 256 := by
  simp [Lit.wf, IntKind.min, IntKind.max, IntKind.signed, IntKind.bits] at h
  omega
end Go.Proofs.YtnlfcoojlgdgaaaDoor
