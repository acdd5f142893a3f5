/- What the row leans on, part 13: texts one behind the other. No condition. -/
import Derived.Test.YthhbnnnokmefoaaDoorMg12
import Derived.Lib.ValidLaws
import Derived.Test.YthhbnnnokmefoaaDoorMg11
import Derived.Test.YthhbnnnokmefoaaDoorMg10
import Derived.KernelRfl
/- Texts in mutf: what is encoded is decoded to itself, and the other way round. Plain. -/


namespace Go.Proofs.YthhbnnnokmefoaaDoor
open GX
set_option maxHeartbeats 4000000
/-! UTF-8 -/
theorem dec_rune {c : Nat} (h : okR c) (t : List Nat) : decodeR (runeL c ++ t) = (c, (runeL c).length) := by
  unfold okR at h
  unfold runeL
  split
  · rename_i h1
    show decodeR (c :: t) = _
    unfold decodeR
    dsimp only
    rw [if_pos (by omega)]; rfl
  · split
    · show decodeR ((192 + c / 64) :: (128 + c % 64) :: t) = _
      unfold decodeR
      dsimp only
      rw [if_neg (by omega), if_pos (by simp; omega)]
      have he : (192 + c / 64) % 32 * 64 + (128 + c % 64) % 64 = c := by omega
      simp only [List.getD_cons_zero]
      rw [he, if_pos (by omega)]; rfl
    · split
      · show decodeR ((224 + c / 4096) :: (128 + c / 64 % 64) :: (128 + c % 64) :: t) = _
        unfold decodeR
        dsimp only
        rw [if_neg (by omega), if_neg (by simp; omega), if_pos (by simp; omega)]
        have hv : Utf8.valid ((c : Nat) : Int) = true := by unfold Utf8.valid; simp; omega
        have he : (224 + c / 4096) % 16 * 4096 + (128 + c / 64 % 64) % 64 * 64 + (128 + c % 64) % 64 = c := by omega
        simp only [List.getD_cons_zero, List.getD_cons_succ]
        rw [he, if_pos (by rw [hv]; simp; omega)]; rfl
      · show decodeR ((240 + c / 262144) :: (128 + c / 4096 % 64) :: (128 + c / 64 % 64) :: (128 + c % 64) :: t) = _
        unfold decodeR
        dsimp only
        rw [if_neg (by omega), if_neg (by simp; omega), if_neg (by simp; omega), if_pos (by simp; omega)]
        have hv : Utf8.valid ((c : Nat) : Int) = true := by unfold Utf8.valid; simp; omega
        have he : (240 + c / 262144) % 8 * 262144 + (128 + c / 4096 % 64) % 64 * 4096 + (128 + c / 64 % 64) % 64 * 64 + (128 + c % 64) % 64 = c := by omega
        simp only [List.getD_cons_zero, List.getD_cons_succ]
        rw [he, if_pos (by rw [hv]; simp; omega)]; rfl
theorem runeL_ne (c : Nat) : runeL c ≠ [] := by unfold runeL; (repeat' split) <;> simp
theorem dec_ok (l : List Nat) : okR (decodeR l).1 := by
  unfold okR decodeR
  split
  · simp [Utf8.runeError]
  · dsimp only
    split
    · dsimp only; omega
    · split
      · split
        · dsimp only; omega
        · simp [Utf8.runeError]
      · split
        · split
          · rename_i h
            simp only [Bool.and_eq_true, Utf8.valid] at h
            dsimp only
            simp at h ⊢
            omega
          · simp [Utf8.runeError]
        · split
          · split
            · rename_i h
              simp only [Bool.and_eq_true, Utf8.valid] at h
              dsimp only
              simp at h ⊢
              omega
            · simp [Utf8.runeError]
          · simp [Utf8.runeError]
theorem runesS_ok {l : List Nat} : ∀ c ∈ runesS l, okR c := by
  induction l using runesS.induct with
  | case1 => rw [runesS_nil]; simp
  | case2 b t ih =>
    rw [runesS_ne (by simp)]
    intro c hc
    rcases List.mem_cons.1 hc with h | h
    · rw [h]; exact dec_ok _
    · exact ih c h
theorem runesS_rune {c : Nat} (h : okR c) (t : List Nat) : runesS (runeL c ++ t) = c :: runesS t := by
  rw [runesS_ne (by simp [runeL_ne]), dec_rune h, List.drop_left]
/-- the text of some runes -/
def txt (cs : List Nat) : List Nat := cs.flatMap runeL
theorem runesS_txt {cs : List Nat} (h : ∀ c ∈ cs, okR c) (t : List Nat) : runesS (txt cs ++ t) = cs ++ runesS t := by
  induction cs with
  | nil => rfl
  | cons c cs ih =>
    show runesS (runeL c ++ txt cs ++ t) = _
    rw [List.append_assoc, runesS_rune (h c (by simp)), ih fun d hd => h d (by simp [hd])]; rfl
theorem txt_lt {cs : List Nat} (h : ∀ c ∈ cs, okR c) : ∀ b ∈ txt cs, b < 256 := by
  intro b hb
  obtain ⟨c, hc, hb⟩ := List.mem_flatMap.1 hb
  exact runeL_lt (h c hc) b hb
theorem encS_txt {cs : List Nat} (h : ∀ c ∈ cs, okR c) (t : List Nat) : encS (txt cs ++ t) = cs.flatMap enc1 ++ encS t := by
  unfold encS; rw [runesS_txt h, List.flatMap_append]
theorem of_to {x : List Nat} (h : ∀ b ∈ x, b < 256) : (x.map UInt8.ofNat).map (·.toNat) = x := by
  rw [List.map_map]
  conv => rhs; rw [← List.map_id x]
  apply List.map_congr_left
  intro b hb
  have := h b hb
  simp
  omega
theorem decodeL_R {x : List Nat} (h : ∀ b ∈ x, b < 256) (hne : x ≠ []) : Lib.decodeL (x.map UInt8.ofNat) = decodeR x := by
  have hb : GX.bytes ⟨(x.map UInt8.ofNat).toArray⟩ = x := by
    unfold GX.bytes
    rw [show ((⟨(x.map UInt8.ofNat).toArray⟩ : ByteArray).data.toList) = x.map UInt8.ofNat from rfl, of_to h]
  have hs : 0 < (⟨(x.map UInt8.ofNat).toArray⟩ : ByteArray).size := by
    show 0 < (x.map UInt8.ofNat).toArray.size
    simp; exact List.length_pos_iff.2 hne
  have := decodeR_eq ⟨(x.map UInt8.ofNat).toArray⟩ 0 hs
  rw [hb, List.drop_zero] at this
  rw [this]; rfl
theorem vS_nil : vS [] = true := rfl
theorem vS_step {x : List Nat} (h : ∀ b ∈ x, b < 256) (hne : x ≠ []) : vS x = if (decodeR x).1 = 65533 ∧ (decodeR x).2 = 1 then false else vS (x.drop (decodeR x).2) := by
  unfold vS
  rw [Lib.validD_step _ (by simpa using hne), decodeL_R h hne, List.map_drop]
theorem vS_rune {c : Nat} (h : okR c) {t : List Nat} (ht : ∀ b ∈ t, b < 256) : vS (runeL c ++ t) = vS t := by
  rw [vS_step (fun b hb => (List.mem_append.1 hb).elim (runeL_lt h b) (ht b)) (by simp [runeL_ne]), dec_rune h, List.drop_left, if_neg]
  rintro ⟨h1, h2⟩
  dsimp only at h1 h2
  subst h1
  simp [runeL] at h2
theorem vS_txt {cs : List Nat} (h : ∀ c ∈ cs, okR c) {t : List Nat} (ht : ∀ b ∈ t, b < 256) : vS (txt cs ++ t) = vS t := by
  induction cs with
  | nil => rfl
  | cons c cs ih =>
    have h' : ∀ d ∈ cs, okR d := fun d hd => h d (by simp [hd])
    show vS (runeL c ++ txt cs ++ t) = _
    rw [List.append_assoc, vS_rune (h c (by simp)) (fun b hb => (List.mem_append.1 hb).elim (txt_lt h' b) (ht b)), ih h']
/-! mutf -/
theorem unitL_lt {r : Nat} (h : r < 65536) : ∀ b ∈ unitL r, b < 256 := by
  unfold unitL
  (repeat' split) <;> intro b hb <;> simp at hb <;> omega
theorem unitL_nz {r : Nat} : ∀ b ∈ unitL r, b ≠ 0 := by
  unfold unitL
  (repeat' split) <;> intro b hb <;> simp at hb <;> omega
theorem enc1_nz {c : Nat} : ∀ b ∈ enc1 c, b ≠ 0 := by
  unfold enc1
  split
  · intro b hb; exact (List.mem_append.1 hb).elim (unitL_nz b) (unitL_nz b)
  · exact unitL_nz
theorem enc1_lt {c : Nat} (h : c < 1114112) : ∀ b ∈ enc1 c, b < 256 := by
  unfold enc1
  split
  · intro b hb; exact (List.mem_append.1 hb).elim (unitL_lt (by omega) b) (unitL_lt (by omega) b)
  · exact unitL_lt (by omega)
theorem encS_nz {l : List Nat} : ∀ b ∈ encS l, b ≠ 0 := by
  intro b hb
  obtain ⟨c, _, hb⟩ := List.mem_flatMap.1 hb
  exact enc1_nz b hb
theorem encS_lt {l : List Nat} : ∀ b ∈ encS l, b < 256 := by
  intro b hb
  obtain ⟨c, hc, hb⟩ := List.mem_flatMap.1 hb
  exact enc1_lt (runesS_lt c hc) b hb
theorem unitL_ne (r : Nat) : unitL r ≠ [] := by unfold unitL; (repeat' split) <;> simp
theorem one_unit {r : Nat} (h : r < 65536) (t : List Nat) : oneL (unitL r ++ t) = (r, (unitL r).length) := by
  unfold unitL
  split
  · rename_i h1
    show oneL (r :: t) = _
    unfold oneL
    rw [if_pos (by simp; omega)]; rfl
  · split
    · rename_i h1 h2
      show oneL ((192 + r / 64) :: (128 + r % 64) :: t) = _
      unfold oneL
      rw [if_neg (by simp; omega), if_pos (by simp; omega), if_pos (by simp; omega)]
      simp; omega
    · show oneL ((224 + r / 4096) :: (128 + r / 64 % 64) :: (128 + r % 64) :: t) = _
      unfold oneL
      rw [if_neg (by simp; omega), if_neg (by simp; omega), if_pos (by simp; omega), if_pos (by simp; omega)]
      simp; omega
theorem dec_enc1 {c : Nat} (h : okR c) (t : List Nat) : decS (enc1 c ++ t) = (decS t).map (runeL c ++ ·) := by
  unfold okR at h
  unfold enc1
  by_cases hc : 65535 < c
  · obtain ⟨A, hA⟩ : ∃ A, A = 55296 + (c - 65536) / 1024 := ⟨_, rfl⟩
    obtain ⟨B, hB⟩ : ∃ B, B = 56320 + (c - 65536) % 1024 := ⟨_, rfl⟩
    have he : 65536 + (A - 55296) * 1024 + (B - 56320) = c := by omega
    have l1 : (unitL A).length = 3 := by unfold unitL; rw [if_neg (by omega), if_neg (by omega)]; rfl
    have l2 : (unitL B).length = 3 := by unfold unitL; rw [if_neg (by omega), if_neg (by omega)]; rfl
    have d1 : (unitL A ++ (unitL B ++ t)).drop (unitL A).length = unitL B ++ t := List.drop_left
    have d2 : (unitL A ++ (unitL B ++ t)).drop ((unitL A).length + (unitL B).length) = t := by rw [← List.drop_drop, d1, List.drop_left]
    have o1 := one_unit (r := A) (by omega) (unitL B ++ t)
    have o2 := one_unit (r := B) (by omega) t
    rw [if_pos hc, ← hA, ← hB, List.append_assoc, decS, dif_neg (by simp [unitL_ne]), o1]
    dsimp only
    rw [d1, o2]
    dsimp only
    rw [dif_neg (by omega), if_pos (by omega), if_neg (by omega), d2, he]
  · rw [if_neg hc, decS, dif_neg (by simp [unitL_ne]), one_unit (by omega)]
    dsimp only
    have : 0 < (unitL c).length := List.length_pos_iff.2 (unitL_ne c)
    rw [dif_neg (by omega), if_neg (by omega), List.drop_left]
theorem decS_nil : decS [] = some [] := by rw [decS]; rfl
theorem dec_encs {cs : List Nat} (h : ∀ c ∈ cs, okR c) : decS (cs.flatMap enc1) = some (txt cs) := by
  induction cs with
  | nil => exact decS_nil
  | cons c cs ih =>
    show decS (enc1 c ++ cs.flatMap enc1) = _
    rw [dec_enc1 (h c (by simp)), ih fun d hd => h d (by simp [hd])]; rfl
theorem unit_one {l : List Nat} (h : ∀ b ∈ l, b < 256) (hk : (oneL l).2 ≠ 0) : l = unitL (oneL l).1 ++ l.drop (oneL l).2 := by
  have g0 : l.getD 0 0 < 256 := getD_lt h (by omega)
  have g1 : l.getD 1 0 < 256 := getD_lt h (by omega)
  have g2 : l.getD 2 0 < 256 := getD_lt h (by omega)
  have c1 : 0 < l.length → ∃ a t, l = a :: t := fun h => by
    cases l with
    | nil => simp at h
    | cons a t => exact ⟨a, t, rfl⟩
  have c2 : 1 < l.length → ∃ a b t, l = a :: b :: t := fun h => by
    match l, h with
    | a :: b :: t, _ => exact ⟨a, b, t, rfl⟩
    | [a], h => simp at h
    | [], h => simp at h
  have c3 : 2 < l.length → ∃ a b c t, l = a :: b :: c :: t := fun h => by
    match l, h with
    | a :: b :: c :: t, _ => exact ⟨a, b, c, t, rfl⟩
    | [a, b], h => simp at h
    | [a], h => simp at h
    | [], h => simp at h
  unfold oneL at hk ⊢
  split
  · rename_i h1
    obtain ⟨a, t, rfl⟩ := c1 h1.1
    simp only [List.getD_cons_zero] at h1 ⊢
    unfold unitL
    rw [if_pos (by omega)]; rfl
  · rename_i h1
    rw [if_neg h1] at hk
    split
    · rename_i h2
      rw [if_pos h2] at hk
      split
      · rename_i h3
        obtain ⟨a, b, t, rfl⟩ := c2 h2.1
        simp only [List.getD_cons_zero, List.getD_cons_succ] at h1 h2 h3 g0 g1 ⊢
        unfold unitL
        rw [if_neg (by omega), if_pos (by omega)]
        simp
        omega
      · rename_i h3; rw [if_neg h3] at hk; exact absurd rfl hk
    · rename_i h2
      rw [if_neg h2] at hk
      split
      · rename_i h3
        rw [if_pos h3] at hk
        split
        · rename_i h4
          obtain ⟨a, b, c, t, rfl⟩ := c3 h3.1
          simp only [List.getD_cons_zero, List.getD_cons_succ] at h1 h2 h3 h4 g0 g1 g2 ⊢
          unfold unitL
          rw [if_neg (by omega), if_neg (by omega)]
          simp
          omega
        · rename_i h4; rw [if_neg h4] at hk; exact absurd rfl hk
      · rename_i h3; rw [if_neg h3] at hk; exact absurd rfl hk
/-- what is decoded is the text of runes that are encoded back -/
theorem dec_back : ∀ (n : Nat) {l u : List Nat}, l.length ≤ n → (∀ b ∈ l, b < 256) → decS l = some u → ∃ cs, (∀ c ∈ cs, okR c) ∧ u = txt cs ∧ l = cs.flatMap enc1
  | n, l, u, hn, hb, h => by
    rw [decS] at h
    by_cases h0 : l = []
    · rw [dif_pos h0] at h
      cases h
      exact ⟨[], by simp, rfl, h0⟩
    · rw [dif_neg h0] at h
      by_cases h1 : (oneL l).2 = 0 ∨ (56320 ≤ (oneL l).1 ∧ (oneL l).1 ≤ 57343)
      · rw [dif_pos h1] at h; cases h
      · rw [dif_neg h1] at h
        have hk : (oneL l).2 ≠ 0 := by omega
        have hu := unit_one hb hk
        have hb' : ∀ b ∈ l.drop (oneL l).2, b < 256 := fun b h => hb b (List.mem_of_mem_drop h)
        have hlen : 0 < l.length := List.length_pos_iff.2 h0
        have hr := oneL_lt hb
        cases n with
        | zero => omega
        | succ n =>
          split at h
          · rename_i h2
            split at h
            · cases h
            · rename_i h3
              obtain ⟨u', hu', rfl⟩ := Option.map_eq_some_iff.1 h
              have hu2 := unit_one hb' (by omega)
              obtain ⟨cs, k1, k2, k3⟩ := dec_back n (by rw [List.length_drop]; omega) (fun b h => hb b (List.mem_of_mem_drop h)) hu'
              have hr2 := oneL_lt hb'
              refine ⟨(65536 + ((oneL l).1 - 55296) * 1024 + ((oneL (l.drop (oneL l).2)).1 - 56320)) :: cs, ?_, by rw [k2]; rfl, ?_⟩
              · intro c hc
                rcases List.mem_cons.1 hc with h | h
                · rw [h]; unfold okR; omega
                · exact k1 c h
              · have he : enc1 (65536 + ((oneL l).1 - 55296) * 1024 + ((oneL (l.drop (oneL l).2)).1 - 56320)) = unitL (oneL l).1 ++ unitL (oneL (l.drop (oneL l).2)).1 := by
                  unfold enc1
                  have e1 : 55296 + (65536 + ((oneL l).1 - 55296) * 1024 + ((oneL (l.drop (oneL l).2)).1 - 56320) - 65536) / 1024 = (oneL l).1 := by omega
                  have e2 : 56320 + (65536 + ((oneL l).1 - 55296) * 1024 + ((oneL (l.drop (oneL l).2)).1 - 56320) - 65536) % 1024 = (oneL (l.drop (oneL l).2)).1 := by omega
                  rw [if_pos (by omega), e1, e2]
                rw [List.flatMap_cons, he, ← k3, ← List.drop_drop, List.append_assoc, ← hu2, ← hu]
          · rename_i h2
            obtain ⟨u', hu', rfl⟩ := Option.map_eq_some_iff.1 h
            obtain ⟨cs, k1, k2, k3⟩ := dec_back n (by rw [List.length_drop]; omega) hb' hu'
            refine ⟨(oneL l).1 :: cs, ?_, by rw [k2]; rfl, ?_⟩
            · intro c hc
              rcases List.mem_cons.1 hc with h | h
              · rw [h]; unfold okR; omega
              · exact k1 c h
            · rw [List.flatMap_cons, ← k3]
              have he : enc1 (oneL l).1 = unitL (oneL l).1 := by unfold enc1; rw [if_neg (by omega)]
              rw [he, ← hu]
/-- the text that a text's runes make -/
def normS (s : List Nat) : List Nat := txt (runesS s)
theorem runesOf_eq {cs : List Nat} (h : ∀ c ∈ cs, okR c) : runesOf (cs.map fun c => AV.int .i32 ((c : Nat) : Int)) = some (txt cs) := by
  induction cs with
  | nil => rfl
  | cons c cs ih =>
    show runesOf (AV.int .i32 ((c : Nat) : Int) :: cs.map fun c => AV.int .i32 ((c : Nat) : Int)) = _
    unfold runesOf
    rw [ih fun d hd => h d (by simp [hd]), encodeR_runeL (h c (by simp))]; rfl
theorem normS_lt (s : List Nat) : ∀ b ∈ normS s, b < 256 := txt_lt runesS_ok
theorem normS_len (s : List Nat) : (normS s).length ≤ 4 * s.length := by
  have h : ∀ cs : List Nat, (txt cs).length ≤ 4 * cs.length := by
    intro cs
    induction cs with
    | nil => simp [txt]
    | cons c cs ih =>
      show (runeL c ++ txt cs).length ≤ _
      have := runeL_len c
      simp only [List.length_append, List.length_cons]
      omega
  have h2 := h (runesS s)
  have := runesS_len (l := s)
  unfold normS
  omega
theorem vS_norm (s : List Nat) : vS (normS s) = true := by
  have := vS_txt (cs := runesS s) runesS_ok (t := []) (by simp)
  rw [List.append_nil] at this
  exact this
theorem encS_norm (s : List Nat) : encS (normS s) = (runesS s).flatMap enc1 := by
  have := encS_txt (cs := runesS s) runesS_ok []
  rw [List.append_nil, encS_nil, List.append_nil] at this
  exact this
theorem dec_norm (s : List Nat) : decS (encS (normS s)) = some (normS s) := by rw [encS_norm]; exact dec_encs runesS_ok
theorem dec_then {l u : List Nat} (hb : ∀ b ∈ l, b < 256) (h : decS l = some u) : vS u = true ∧ encS u = l ∧ ∀ b ∈ u, b < 256 := by
  obtain ⟨cs, k1, rfl, rfl⟩ := dec_back _ (Nat.le_refl _) hb h
  have h1 := vS_txt k1 (t := []) (by simp)
  have h2 := encS_txt k1 []
  rw [List.append_nil] at h1 h2
  rw [encS_nil, List.append_nil] at h2
  exact ⟨h1, h2, txt_lt k1⟩
end Go.Proofs.YthhbnnnokmefoaaDoor
/- mutf.unit: what it appends to bytes. -/

namespace Go.Proofs.YthhbnnnokmefoaaDoor
open GX
set_option maxHeartbeats 4000000
theorem unit_runs {S : St} {v : AV} {l : List Nat} {r : Nat} (hv : Ow S v l) (hok : Sok S) (hn : S.n + 2 ≤ 1000000000) (hl : l.length ≤ 1000000000) (hr : r < 65536) :
    Runs X1 76 [v, .int .i32 (r : Int)] S fun v' S' => Fr S S' v 2 ∧ Ow S' v' (l ++ unitL r) ∧ ∀ c, blkOf v' = some c → blkOf v = some c ∨ S.n ≤ c := by
  refine Runs_fn (m := 47) (by kernel_rfl) Tryd.func76 rfl (by kernel_rfl) (by kernel_rfl) ?_
  repeat' (
    first
      | refine W_seq ?_
      | refine WO_nil ?_
      | refine V_seq ?_
      | refine W_region ?_
      | refine W_block ?_
      | refine W_skip ?_
      | refine V_block ?_
      | refine W_cond_f rfl ?_
      | refine WO_dst rfl rfl (by kernel_rfl) (by kernel_rfl) ?_
      | refine WO_guard_t rfl rfl rfl rfl rfl (by kernel_rfl) (by kernel_rfl) ?_
      | refine WO_guard_f rfl rfl rfl rfl rfl rfl (by kernel_rfl) (by kernel_rfl) ?_
      | refine Ev_move rfl ?_
      | refine Ev_assign rfl ?_
      | refine Ev_pick_t rfl rfl rfl ?_
      | refine Ev_pick_f rfl rfl rfl ?_
      | refine Ev_lssN rfl rfl ?_
      | refine Ev_gtrN rfl rfl ?_
      | refine Ev_shrN (m := 6) (q := 64) rfl rfl rfl rfl ?_
      | refine Ev_shrN (m := 12) (q := 4096) rfl rfl rfl rfl ?_
      | refine Ev_andN 6 64 rfl rfl rfl rfl (by simp only [lim]; omega) (by simp only [lim]; omega) ?_
      | refine Ev_orN 4 rfl rfl rfl (by first | omega | (dsimp only; done) | (dsimp only; omega)) (by first | omega | (dsimp only; done) | (dsimp only; omega)) (by simp only [lim]; omega) ?_
      | refine Ev_orN 5 rfl rfl rfl (by first | omega | (dsimp only; done) | (dsimp only; omega)) (by first | omega | (dsimp only; done) | (dsimp only; omega)) (by simp only [lim]; omega) ?_
      | refine Ev_orN 6 rfl rfl rfl (by first | omega | (dsimp only; done) | (dsimp only; omega)) (by first | omega | (dsimp only; done) | (dsimp only; omega)) (by simp only [lim]; omega) ?_
      | refine Ev_convN rfl rfl rfl rfl rfl (by simp only [lim]; omega) ?_
      | (refine WO_guard_dt rfl rfl rfl rfl rfl (by kernel_rfl) (by kernel_rfl) (fun hg => ?_) (fun hg => ?_) <;> (try dsimp only at hg) <;> try (exfalso; first | omega | exact hg rfl))
      | (refine W_cond rfl (fun hc => ?_) (fun hc => ?_) <;> (try dsimp only at hc) <;> try (exfalso; first | omega | exact hc rfl)))
  all_goals
    refine Ev_buildSlice rfl rfl rfl rfl rfl rfl hok (by omega) ?_
    intro S1 hn1 hok1 hq1 hf1
    repeat (
      refine WO_dst rfl rfl (by kernel_rfl) (by kernel_rfl) ?_)
    refine Ev_append rfl rfl rfl rfl rfl rfl rfl rfl rfl rfl (hv.keep (fun b hb => hf1 b (hv.lt hok hb))) (Rd_lit hq1 rfl (by kernel_rfl)) rfl hok1 (by omega) (by dsimp only; omega) (by omega) ?_
    intro v2 S2 hle2 hn2 hok2 hown2 hf2 hb2
    repeat (
      first
        | refine WO_nil ?_
        | refine V_seq ?_
        | refine W_ret ?_
        | refine V_ret ?_
        | refine WO_dst rfl rfl (by kernel_rfl) (by kernel_rfl) ?_
        | refine Ev_assign rfl ?_)
    refine V_done rfl rfl ?_
    refine ⟨⟨by omega, by omega, hok2, fun c h1 h2 => by rw [hf2 c h1 (by omega), hf1 c h2]⟩, ?_, fun c hc => (hb2 c hc).imp id (fun h => by omega)⟩
    refine hown2.eq ?_ ?_
    · simp [sbytes, unitL, *] <;> rfl
    · simp [unitL, *]
end Go.Proofs.YthhbnnnokmefoaaDoor
/- mutf.Encode: what it answers. -/

namespace Go.Proofs.YthhbnnnokmefoaaDoor
open GX
set_option maxHeartbeats 4000000
theorem valid_runs {s : List Nat} {S : St} (hl : s.length < 9223372036854775808) {R : AV → St → Prop} (h : R (.bool (vS s)) S) : Runs X1 75 [.str s] S R :=
  Runs_ext (g := extValid) rfl (by unfold extValid; dsimp only; rw [nblt, decide_eq_true hl]; rfl) (Nat.le_refl _) h
structure EncR (S0 : St) (s : List Nat) (r : AV) (S' : St) : Prop where
  fr : Fr S0 S' .nils (4 * s.length + 1)
  out : ∃ v, r = .tup [v, .int .i64 (if vS s = true then 0 else 12)] ∧ Ow S' v (if vS s = true then encS s else []) ∧ ∀ c, blkOf v = some c → S0.n ≤ c
structure EncI (S : St) (s : List Nat) (a : Nat × AV × List Nat) (T : St) : Prop where
  le : a.1 ≤ s.length
  ok : Sok T
  it : T.h.get S.n = some (.sit s a.1)
  ow : Ow T a.2.1 a.2.2
  eq : a.2.2 ++ encS (s.drop a.1) = encS s
  len : a.2.2.length ≤ 6 * a.1
  lt : S.n < T.n
  n : T.n + 4 * (s.length - a.1) ≤ S.n + (4 * s.length + 1)
  fr : ∀ c, c < S.n → T.h.get c = S.h.get c
  bk : ∀ c, blkOf a.2.1 = some c → S.n < c
theorem enc_runs {S : St} {s : List Nat} (hok : Sok S) (hl : s.length ≤ 100000000) (hn : S.n + (4 * s.length + 1) ≤ 1000000000) : Runs X1 60 [.str s] S (EncR S s) := by
  refine Runs_fn (m := 31) (by kernel_rfl) Tryd.func60 rfl (by kernel_rfl) (by kernel_rfl) ?_
  repeat (
    first
      | refine W_seq ?_
      | refine WO_nil ?_
      | refine V_seq ?_
      | refine W_region ?_
      | refine WO_dst rfl rfl (by kernel_rfl) (by kernel_rfl) ?_
      | refine Ev_move rfl ?_
      | refine Ev_assign rfl ?_)
  refine Ev_call rfl rfl (valid_runs (by omega) ?_)
  repeat (
    first
      | refine WO_nil ?_
      | refine V_seq ?_
      | refine WO_dst rfl rfl (by kernel_rfl) (by kernel_rfl) ?_
      | refine Ev_notb rfl ?_)
  refine W_condb rfl (fun hc => ?_) (fun hc => ?_)
  · have hv : vS s = false := by simpa using hc
    repeat (
      first
        | refine W_seq ?_
        | refine WO_nil ?_
        | refine V_seq ?_
        | refine W_region ?_
        | refine W_ret ?_
        | refine V_ret ?_
        | refine WO_dst rfl rfl (by kernel_rfl) (by kernel_rfl) ?_
        | refine Ev_assign rfl ?_)
    refine V_done rfl rfl ?_
    exact ⟨⟨Nat.le_refl _, by omega, hok, fun _ _ _ => rfl⟩, .nils, by rw [hv]; rfl, by rw [hv]; exact .inl ⟨rfl, rfl, rfl⟩, fun c hc => by cases hc⟩
  · have hv : vS s = true := by simpa using hc
    repeat (
      first
        | refine W_seq ?_
        | refine WO_nil ?_
        | refine V_seq ?_
        | refine W_region ?_
        | refine W_skip ?_
        | refine WO_dst rfl rfl (by kernel_rfl) (by kernel_rfl) ?_
        | refine Ev_move rfl ?_
        | refine Ev_assign rfl ?_)
    refine Ev_range rfl rfl rfl hok (by omega) ?_
    intro S1 hn1 hok1 hq1 hf1
    repeat (
      first
        | refine WO_nil ?_
        | refine V_seq ?_
        | refine W_block ?_)
    refine W_inv (fun a : Nat × AV × List Nat => [(11, .ptr S.n 0), (4, a.2.1)]) (EncI S s) (fun a => s.length - a.1) ?_ (0, .nils, []) ?_ ⟨rfl, rfl, trivial⟩
    · rintro ⟨pos, v, l⟩ T ⟨hle, hokT, hit, how, heq, hlen, hlt, hnT, hfr, hbk⟩ back
      dsimp only at hle hit how heq hlen hnT hbk back
      repeat (
        first
          | refine W_seq ?_
          | refine W_region ?_
          | refine WO_dst rfl rfl (by kernel_rfl) (by kernel_rfl) ?_)
      by_cases hd : s.drop pos = []
      · refine Ev_next_end rfl hit hd ?_
        repeat (
          first
            | refine W_seq ?_
            | refine WO_nil ?_
            | refine V_seq ?_
            | refine W_region ?_
            | refine W_ret ?_
            | refine W_exit ?_
            | refine V_block_x rfl ?_
            | refine V_seq_x ?_
            | refine V_loop_x ?_
            | refine W_cond_f rfl ?_
            | refine WO_dst rfl rfl (by kernel_rfl) (by kernel_rfl) ?_
            | refine Ev_move rfl ?_
            | refine Ev_assign rfl ?_
            | refine Ev_extract rfl rfl ?_)
        refine V_done rfl rfl ?_
        refine ⟨⟨by omega, by omega, hokT, fun c _ h => hfr c h⟩, v, by rw [hv]; rfl, ?_, fun c hc => by have := hbk c hc; omega⟩
        rw [if_pos hv, ← heq, hd, encS_nil, List.append_nil]; exact how
      · obtain ⟨c, w, hcw⟩ : ∃ c w, decodeR (s.drop pos) = (c, w) := ⟨_, _, rfl⟩
        have hc : c < 1114112 := by have := dec_lt (s.drop pos); rw [hcw] at this; exact this
        have hwl : pos + w ≤ s.length := by have := dec_le hd; rw [hcw, List.length_drop] at this; dsimp only at this; omega
        have hw : 1 ≤ w := by have := dec_pos (s.drop pos); rw [hcw] at this; exact this
        have hpl : pos < s.length := by
          rcases Nat.lt_or_ge pos s.length with h | h
          · exact h
          · exact absurd (List.drop_eq_nil_of_le h) hd
        have heq' : l ++ (enc1 c ++ encS (s.drop (pos + w))) = encS s := by
          rw [← heq, encS_ne hd, hcw, List.drop_drop]
        refine Ev_next rfl hit hd hcw (by omega) ?_
        intro T1 hn1 hit1 hf1
        have hok1 : Sok T1 := by
          intro b x hb
          rw [hn1]
          by_cases h : b = S.n
          · omega
          · rw [hf1 b h] at hb; exact hokT b x hb
        have how1 : Ow T1 v l := how.keep fun b hb => hf1 b (by have := hbk b hb; omega)
        repeat (
          first
            | refine W_seq ?_
            | refine WO_nil ?_
            | refine V_seq ?_
            | refine W_region ?_
            | refine W_block ?_
            | refine W_skip ?_
            | refine W_cond_t rfl ?_
            | refine WO_dst rfl rfl (by kernel_rfl) (by kernel_rfl) ?_
            | refine Ev_move rfl ?_
            | refine Ev_assign rfl ?_
            | refine Ev_extract rfl rfl ?_
            | refine Ev_gtrN rfl rfl ?_)
        refine W_cond rfl (fun hc1 => ?_) (fun hc1 => ?_)
        · dsimp only at hc1
          repeat (
            first
              | refine W_seq ?_
              | refine WO_nil ?_
              | refine V_seq ?_
              | refine W_region ?_
              | refine WO_dst rfl rfl (by kernel_rfl) (by kernel_rfl) ?_
              | refine Ev_move rfl ?_
              | refine Ev_assign rfl ?_
              | refine Ev_addN rfl rfl (by simp only [lim]; omega) ?_
              | refine Ev_subN rfl rfl (by simp only [lim]; omega) (by first | omega | (dsimp only; done) | (dsimp only; omega)) ?_
              | refine Ev_shrN (m := 10) (q := 1024) rfl rfl rfl rfl ?_)
          refine Ev_call rfl rfl ((unit_runs how1 hok1 (by omega) (by omega) (by dsimp only; omega)).mono ?_)
          rintro v2 T2 - ⟨hF2, how2, hb2⟩
          have hle2 := hF2.le; have hn2 := hF2.n
          repeat (
            first
              | refine WO_nil ?_
              | refine V_seq ?_
              | refine W_region ?_
              | refine WO_dst rfl rfl (by kernel_rfl) (by kernel_rfl) ?_
              | refine Ev_move rfl ?_
              | refine Ev_assign rfl ?_
              | refine Ev_addN rfl rfl (by simp only [lim]; omega) ?_
              | refine Ev_andN 10 1024 rfl rfl rfl rfl (by simp only [lim]; omega) (by simp only [lim]; omega) ?_)
          refine Ev_call rfl rfl ((unit_runs how2 hF2.ok (by omega) (by have := unitL_len (55296 + (c - 65536) / 1024); simp only [List.length_append]; omega) (by dsimp only; omega)).mono ?_)
          rintro v3 T3 - ⟨hF3, how3, hb3⟩
          have hle3 := hF3.le; have hn3 := hF3.n
          repeat (
            first
              | refine WO_nil ?_
              | refine V_block ?_
              | refine WO_dst rfl rfl (by kernel_rfl) (by kernel_rfl) ?_
              | refine Ev_assign rfl ?_)
          have he1 : enc1 c = unitL (55296 + (c - 65536) / 1024) ++ unitL (56320 + (c - 65536) % 1024) := by unfold enc1; rw [if_pos hc1]
          have h6 := enc1_len c
          have hbk2 : ∀ b, blkOf v2 = some b → S.n < b := fun b hb => by
            rcases hb2 b hb with h | h
            · exact hbk b h
            · omega
          refine back (pos + w, v3, l ++ enc1 c) T3 _ (by dsimp only; omega) ⟨?_, hF3.ok, ?_, ?_, ?_, ?_, by omega, by dsimp only; omega, ?_, ?_⟩ ⟨rfl, rfl, trivial⟩
          · dsimp only; omega
          · rw [hF3.same _ (by intro h; have := hbk2 _ h; omega) (by omega), hF2.same _ (by intro h; have := hbk _ h; omega) (by omega)]; exact hit1
          · rw [he1]; exact how3.eq (by rw [List.append_assoc]) (by rw [List.append_assoc])
          · dsimp only; rw [List.append_assoc]; exact heq'
          · dsimp only; rw [List.length_append]; omega
          · intro b hb
            rw [hF3.same _ (by intro h; have := hbk2 _ h; omega) (by omega), hF2.same _ (by intro h; have := hbk _ h; omega) (by omega), hf1 b (by omega)]; exact hfr b hb
          · intro b hb
            rcases hb3 b hb with h | h
            · exact hbk2 b h
            · omega
        · dsimp only at hc1
          repeat (
            first
              | refine V_seq ?_
              | refine W_region ?_
              | refine W_skip ?_
              | refine WO_dst rfl rfl (by kernel_rfl) (by kernel_rfl) ?_
              | refine Ev_move rfl ?_)
          refine Ev_call rfl rfl ((unit_runs how1 hok1 (by omega) (by omega) (by omega)).mono ?_)
          rintro v3 T3 - ⟨hF3, how3, hb3⟩
          have hle3 := hF3.le; have hn3 := hF3.n
          repeat (
            first
              | refine WO_nil ?_
              | refine V_block ?_
              | refine WO_dst rfl rfl (by kernel_rfl) (by kernel_rfl) ?_
              | refine Ev_assign rfl ?_)
          have he1 : enc1 c = unitL c := by unfold enc1; rw [if_neg hc1]
          have h6 := enc1_len c
          refine back (pos + w, v3, l ++ enc1 c) T3 _ (by dsimp only; omega) ⟨?_, hF3.ok, ?_, ?_, ?_, ?_, by omega, by dsimp only; omega, ?_, ?_⟩ ⟨rfl, rfl, trivial⟩
          · dsimp only; omega
          · rw [hF3.same _ (by intro h; have := hbk _ h; omega) (by omega)]; exact hit1
          · rw [he1]; exact how3
          · dsimp only; rw [List.append_assoc]; exact heq'
          · dsimp only; rw [List.length_append]; omega
          · intro b hb
            rw [hF3.same _ (by intro h; have := hbk _ h; omega) (by omega), hf1 b (by omega)]; exact hfr b hb
          · intro b hb
            rcases hb3 b hb with h | h
            · exact hbk b h
            · omega
    · exact ⟨by simp, hok1, hq1, .inl ⟨rfl, rfl, rfl⟩, by simp, by simp, by omega, by dsimp only; omega, hf1, fun c hc => by cases hc⟩
end Go.Proofs.YthhbnnnokmefoaaDoor
/- caraferef1: valid, three, Encode. -/


namespace Go.Proofs.YthhbnnnokmefoaaDoor
open GX
set_option maxHeartbeats 8000000
/-- what begins with a rune -/
theorem rune_dec {x : List Nat} (hne : x ≠ []) (h : ∀ b ∈ x, b < 256) (hv : ¬ ((decodeR x).1 = 65533 ∧ (decodeR x).2 = 1)) : x = runeL (decodeR x).1 ++ x.drop (decodeR x).2 := by
  cases x with
  | nil => exact absurd rfl hne
  | cons a t =>
    have ha : a < 256 := h a (by simp)
    unfold decodeR at hv ⊢
    dsimp only at hv ⊢
    by_cases h1 : a < 128
    · rw [if_pos h1] at hv ⊢
      unfold runeL
      rw [if_pos (by omega)]; rfl
    · rw [if_neg h1] at hv ⊢
      by_cases h2 : (a / 32 == 6 && t.getD 0 0 / 64 == 2) = true
      · rw [if_pos h2] at hv ⊢
        by_cases h3 : a % 32 * 64 + t.getD 0 0 % 64 ≥ 128
        · rw [if_pos h3] at hv ⊢
          cases t with
          | nil => simp at h2
          | cons b t =>
            simp only [List.getD_cons_zero, Bool.and_eq_true, beq_iff_eq] at h2 h3 ⊢
            unfold runeL
            rw [if_neg (by omega), if_pos (by omega)]
            simp
            omega
        · rw [if_neg h3] at hv; exact absurd ⟨rfl, rfl⟩ hv
      · rw [if_neg h2] at hv ⊢
        by_cases h4 : (a / 16 == 14 && t.getD 0 0 / 64 == 2 && t.getD 1 0 / 64 == 2) = true
        · rw [if_pos h4] at hv ⊢
          obtain ⟨z, hz⟩ : ∃ z, z = a % 16 * 4096 + t.getD 0 0 % 64 * 64 + t.getD 1 0 % 64 := ⟨_, rfl⟩
          rw [← hz] at hv ⊢
          by_cases h5 : (decide (z ≥ 2048) && Utf8.valid ((z : Nat) : Int)) = true
          · rw [if_pos h5] at hv ⊢
            simp only [Bool.and_eq_true, decide_eq_true_eq] at h5
            have ht : ∃ b c t', t = b :: c :: t' := by
              clear hz
              match t, h4 with
              | [], h4 => simp at h4
              | [b], h4 => simp at h4
              | b :: c :: t, _ => exact ⟨b, c, t, rfl⟩
            obtain ⟨b, c, t, rfl⟩ := ht
            simp only [List.getD_cons_zero, List.getD_cons_succ, Bool.and_eq_true, beq_iff_eq] at h4 hz ⊢
            unfold runeL
            rw [if_neg (by omega), if_neg (by omega), if_pos (by omega)]
            simp
            omega
          · rw [if_neg h5] at hv; exact absurd ⟨rfl, rfl⟩ hv
        · rw [if_neg h4] at hv ⊢
          by_cases h6 : (a / 8 == 30 && t.getD 0 0 / 64 == 2 && t.getD 1 0 / 64 == 2 && t.getD 2 0 / 64 == 2) = true
          · rw [if_pos h6] at hv ⊢
            obtain ⟨z, hz⟩ : ∃ z, z = a % 8 * 262144 + t.getD 0 0 % 64 * 4096 + t.getD 1 0 % 64 * 64 + t.getD 2 0 % 64 := ⟨_, rfl⟩
            rw [← hz] at hv ⊢
            by_cases h7 : (decide (z ≥ 65536) && Utf8.valid ((z : Nat) : Int)) = true
            · rw [if_pos h7] at hv ⊢
              simp only [Bool.and_eq_true, decide_eq_true_eq] at h7
              have hz2 : Utf8.valid ((z : Nat) : Int) = true := h7.2
              have ht : ∃ b c d t', t = b :: c :: d :: t' := by
                clear hz
                match t, h6 with
                | [], h6 => simp at h6
                | [b], h6 => simp at h6
                | [b, c], h6 => simp at h6
                | b :: c :: d :: t, _ => exact ⟨b, c, d, t, rfl⟩
              obtain ⟨b, c, d, t, rfl⟩ := ht
              simp only [List.getD_cons_zero, List.getD_cons_succ, Bool.and_eq_true, beq_iff_eq] at h6 hz ⊢
              unfold runeL
              rw [if_neg (by omega), if_neg (by omega), if_neg (by omega)]
              simp
              omega
            · rw [if_neg h7] at hv; exact absurd ⟨rfl, rfl⟩ hv
          · rw [if_neg h6] at hv; exact absurd ⟨rfl, rfl⟩ hv
theorem norm_of_valid : ∀ (n : Nat) {x : List Nat}, x.length ≤ n → (∀ b ∈ x, b < 256) → vS x = true → normS x = x
  | n, x, hn, hb, hv => by
    by_cases h0 : x = []
    · subst h0; unfold normS; rw [runesS_nil]; rfl
    · have hl : 0 < x.length := List.length_pos_iff.2 h0
      cases n with
      | zero => omega
      | succ n =>
        rw [vS_step hb h0] at hv
        split at hv
        · cases hv
        · rename_i h1
          have hx := rune_dec h0 hb h1
          have hp := dec_pos x
          have ih := norm_of_valid n (x := x.drop (decodeR x).2) (by rw [List.length_drop]; omega) (fun b h => hb b (List.mem_of_mem_drop h)) hv
          unfold normS at ih ⊢
          rw [runesS_ne h0]
          show runeL (decodeR x).1 ++ txt (runesS (x.drop (decodeR x).2)) = x
          rw [ih, ← hx]
theorem vS_iff {x : List Nat} (hb : ∀ b ∈ x, b < 256) : vS x = decide (normS x = x) := by
  by_cases h : vS x = true
  · rw [h, decide_eq_true (norm_of_valid _ (Nat.le_refl _) hb h)]
  · have h2 : ¬ normS x = x := fun h2 => h (by rw [← h2]; exact vS_norm x)
    rw [decide_eq_false h2]; simpa using h
theorem runes_rd {S : St} {s : List Nat} {q el : Nat} (h : S.h.get q = some (.cells el (runesFrom s.length s) true)) : Rd S (.slice q 0 (runesFrom s.length s).length (.op 1)) 1 (runesFrom s.length s) (runesFrom s.length s).length :=
  Rd_lit h (by rw [Nat.mul_one]) rfl
theorem runes_of (s : List Nat) : runesOf (runesFrom s.length s) = some (normS s) := by
  rw [runesFrom_eq (Nat.le_refl _), runesOf_eq runesS_ok]; rfl
theorem rvalid_runs {S : St} {s : List Nat} (hok : Sok S) (hn : S.n < 1000000000) (hb : ∀ b ∈ s, b < 256) : Runs X1 77 [.str s] S fun r S' => r = .bool (vS s) ∧ Fr S S' .nils 1 := by
  refine Runs_fn (m := 8) (by kernel_rfl) Tryd.func77 rfl (by kernel_rfl) (by kernel_rfl) ?_
  repeat (
    first
      | refine W_seq ?_
      | refine WO_nil ?_
      | refine V_seq ?_
      | refine W_region ?_
      | refine WO_dst rfl rfl (by kernel_rfl) (by kernel_rfl) ?_
      | refine Ev_move rfl ?_
      | refine Ev_assign rfl ?_)
  refine Ev_conv_runes rfl rfl rfl rfl rfl rfl rfl rfl hok (by omega) ?_
  intro S1 hn1 hok1 hq1 hf1
  repeat (
    refine WO_dst rfl rfl (by kernel_rfl) (by kernel_rfl) ?_)
  refine Ev_conv_to_str_r rfl rfl rfl rfl rfl rfl rfl (runes_rd hq1) (runes_of s) ?_
  repeat (
    first
      | refine WO_nil ?_
      | refine V_seq ?_
      | refine W_ret ?_
      | refine WO_dst rfl rfl (by kernel_rfl) (by kernel_rfl) ?_
      | refine Ev_move rfl ?_
      | refine Ev_assign rfl ?_
      | refine Ev_seql rfl rfl ?_)
  refine V_done rfl rfl ?_
  exact ⟨by rw [vS_iff hb]; rfl, by omega, by omega, hok1, fun c _ h => hf1 c h⟩
def three (n : Nat) : List Nat := [224 + n / 4096, 128 + n / 64 % 64, 128 + n % 64]
theorem three_runs {S : St} {n : Nat} (hok : Sok S) (hn : S.n < 1000000000) (hl : n < 65536) : Runs X1 78 [.int .i64 (n : Int)] S fun r S' => Fr S S' .nils 1 ∧ Rd S' r 1 (sbytes (three n)) 3 ∧ ∀ b, blkOf r = some b → S.n ≤ b := by
  refine Runs_fn (m := 17) (by kernel_rfl) Tryd.func78 rfl (by kernel_rfl) (by kernel_rfl) ?_
  repeat (
    first
      | refine W_seq ?_
      | refine WO_nil ?_
      | refine V_seq ?_
      | refine W_region ?_
      | refine WO_dst rfl rfl (by kernel_rfl) (by kernel_rfl) ?_
      | refine Ev_move rfl ?_
      | refine Ev_assign rfl ?_
      | refine Ev_shrN (m := 6) (q := 64) rfl rfl rfl rfl ?_
      | refine Ev_shrN (m := 12) (q := 4096) rfl rfl rfl rfl ?_
      | refine Ev_andN 6 64 rfl rfl rfl rfl (by simp only [lim]; omega) (by simp only [lim]; omega) ?_
      | refine Ev_orN 4 rfl rfl rfl (by first | omega | (dsimp only; done) | (dsimp only; omega)) (by first | omega | (dsimp only; done) | (dsimp only; omega)) (by simp only [lim]; omega) ?_
      | refine Ev_orN 6 rfl rfl rfl (by first | omega | (dsimp only; done) | (dsimp only; omega)) (by first | omega | (dsimp only; done) | (dsimp only; omega)) (by simp only [lim]; omega) ?_
      | refine Ev_convN rfl rfl rfl rfl rfl (by simp only [lim]; omega) ?_)
  refine Ev_buildSlice rfl rfl rfl rfl rfl rfl hok (by omega) ?_
  intro S1 hn1 hok1 hq1 hf1
  repeat (
    first
      | refine WO_nil ?_
      | refine V_seq ?_
      | refine W_ret ?_
      | refine WO_dst rfl rfl (by kernel_rfl) (by kernel_rfl) ?_
      | refine Ev_assign rfl ?_)
  refine V_done rfl rfl ?_
  refine ⟨⟨by omega, by omega, hok1, fun c _ h => hf1 c h⟩, ?_, fun b h => by cases h; exact Nat.le_refl _⟩
  refine (Rd_lit hq1 rfl (by kernel_rfl)).eq ?_ rfl
  simp [sbytes, three, lput, rep, AV.cells]
structure REncR (S0 : St) (s : List Nat) (r : AV) (S' : St) : Prop where
  fr : Fr S0 S' .nils (4 * s.length + 2)
  out : ∃ v, r = .tup [v, .int .i64 (if vS s = true then 0 else 12)] ∧ Ow S' v (if vS s = true then encS s else []) ∧ ∀ c, blkOf v = some c → S0.n ≤ c
theorem three_unit {n : Nat} (h : 2048 ≤ n) : three n = unitL n := by unfold three unitL; rw [if_neg (by omega), if_neg (by omega)]
structure REncI (S : St) (q : Nat) (s : List Nat) (a : Nat × AV × List Nat) (T : St) : Prop where
  le : a.1 ≤ s.length
  ok : Sok T
  it : T.h.get q = some (.sit s a.1)
  ow : Ow T a.2.1 a.2.2
  eq : a.2.2 ++ encS (s.drop a.1) = encS s
  len : a.2.2.length ≤ 6 * a.1
  lt : q < T.n
  n : T.n + 4 * (s.length - a.1) ≤ S.n + (4 * s.length + 2)
  fr : ∀ c, c < S.n → T.h.get c = S.h.get c
  bk : ∀ c, blkOf a.2.1 = some c → q < c
theorem renc_runs {S : St} {s : List Nat} (hok : Sok S) (hb : ∀ b ∈ s, b < 256) (hl : s.length ≤ 100000000) (hn : S.n + (4 * s.length + 2) ≤ 1000000000) : Runs X1 62 [.str s] S (REncR S s) := by
  refine Runs_fn (m := 66) (by kernel_rfl) Tryd.func62 rfl (by kernel_rfl) (by kernel_rfl) ?_
  repeat (
    first
      | refine W_seq ?_
      | refine WO_nil ?_
      | refine V_seq ?_
      | refine W_region ?_
      | refine WO_dst rfl rfl (by kernel_rfl) (by kernel_rfl) ?_
      | refine Ev_move rfl ?_
      | refine Ev_assign rfl ?_)
  refine Ev_call rfl rfl ((rvalid_runs hok (by omega) hb).mono ?_)
  rintro _ S0 - ⟨rfl, hle0, hn0, hok0, hf0⟩
  repeat (
    first
      | refine WO_nil ?_
      | refine V_seq ?_
      | refine WO_dst rfl rfl (by kernel_rfl) (by kernel_rfl) ?_
      | refine Ev_notb rfl ?_)
  refine W_condb rfl (fun hc => ?_) (fun hc => ?_)
  · have hv : vS s = false := by simpa using hc
    repeat (
      first
        | refine W_seq ?_
        | refine WO_nil ?_
        | refine V_seq ?_
        | refine W_region ?_
        | refine W_ret ?_
        | refine V_ret ?_
        | refine WO_dst rfl rfl (by kernel_rfl) (by kernel_rfl) ?_
        | refine Ev_assign rfl ?_)
    refine V_done rfl rfl ?_
    exact ⟨⟨by omega, by omega, hok0, fun c h1 h2 => hf0 c h1 h2⟩, .nils, by rw [hv]; rfl, by rw [hv]; exact .inl ⟨rfl, rfl, rfl⟩, fun c hc => by cases hc⟩
  · have hv : vS s = true := by simpa using hc
    repeat (
      first
        | refine W_seq ?_
        | refine WO_nil ?_
        | refine V_seq ?_
        | refine W_region ?_
        | refine W_skip ?_
        | refine WO_dst rfl rfl (by kernel_rfl) (by kernel_rfl) ?_
        | refine Ev_move rfl ?_
        | refine Ev_assign rfl ?_)
    refine Ev_range rfl rfl rfl hok0 (by omega) ?_
    intro S1 hn1 hok1 hq1 hf1
    have hfS : ∀ c, c < S.n → S1.h.get c = S.h.get c := fun c h => by rw [hf1 c (by omega), hf0 c (by simp [blkOf]) h]
    repeat (
      first
        | refine WO_nil ?_
        | refine V_seq ?_
        | refine W_block ?_)
    refine W_inv (fun a : Nat × AV × List Nat => [(12, .ptr S0.n 0), (4, a.2.1)]) (REncI S S0.n s) (fun a => s.length - a.1) ?_ (0, .nils, []) ?_ ⟨rfl, rfl, trivial⟩
    · rintro ⟨pos, v, l⟩ T ⟨hle, hokT, hit, how, heq, hlen, hlt, hnT, hfr, hbk⟩ back
      dsimp only at hle hit how heq hlen hnT hbk back
      repeat (
        first
          | refine W_seq ?_
          | refine W_region ?_
          | refine WO_dst rfl rfl (by kernel_rfl) (by kernel_rfl) ?_)
      by_cases hd : s.drop pos = []
      · refine Ev_next_end rfl hit hd ?_
        repeat (
          first
            | refine W_seq ?_
            | refine WO_nil ?_
            | refine V_seq ?_
            | refine W_region ?_
            | refine W_ret ?_
            | refine W_exit ?_
            | refine V_block_x rfl ?_
            | refine V_seq_x ?_
            | refine V_loop_x ?_
            | refine W_cond_f rfl ?_
            | refine WO_dst rfl rfl (by kernel_rfl) (by kernel_rfl) ?_
            | refine Ev_move rfl ?_
            | refine Ev_assign rfl ?_
            | refine Ev_extract rfl rfl ?_)
        refine V_done rfl rfl ?_
        refine ⟨⟨by omega, by omega, hokT, fun c _ h => hfr c h⟩, v, by rw [hv]; rfl, ?_, fun c hc => by have := hbk c hc; omega⟩
        rw [if_pos hv, ← heq, hd, encS_nil, List.append_nil]; exact how
      · obtain ⟨c, w, hcw⟩ : ∃ c w, decodeR (s.drop pos) = (c, w) := ⟨_, _, rfl⟩
        have hc : c < 1114112 := by have := dec_lt (s.drop pos); rw [hcw] at this; exact this
        have hwl : pos + w ≤ s.length := by have := dec_le hd; rw [hcw, List.length_drop] at this; dsimp only at this; omega
        have hw : 1 ≤ w := by have := dec_pos (s.drop pos); rw [hcw] at this; exact this
        have heq' : l ++ (enc1 c ++ encS (s.drop (pos + w))) = encS s := by
          rw [← heq, encS_ne hd, hcw, List.drop_drop]
        refine Ev_next rfl hit hd hcw (by omega) ?_
        intro T1 hn1 hit1 hf1
        have hok1 : Sok T1 := by
          intro b x hb
          rw [hn1]
          by_cases h : b = S0.n
          · omega
          · rw [hf1 b h] at hb; exact hokT b x hb
        have how1 : Ow T1 v l := how.keep fun b hb => hf1 b (by have := hbk b hb; omega)
        have hfrq : ∀ b, b < S.n → T1.h.get b = S.h.get b := fun b h => by rw [hf1 b (by omega)]; exact hfr b h
        have h6 := enc1_len c
        -- what is appended, and back
        have hI : ∀ (v3 : AV) (T3 : St), Sok T3 → Ow T3 v3 (l ++ enc1 c) → T1.n ≤ T3.n → T3.n ≤ T1.n + 4 → (∀ b, blkOf v ≠ some b → b < T1.n → T3.h.get b = T1.h.get b) → (∀ b, blkOf v3 = some b → blkOf v = some b ∨ T1.n ≤ b) → REncI S S0.n s (pos + w, v3, l ++ enc1 c) T3 := by
          intro v3 T3 hok3 how3 hle3 hn3 hf3 hb3
          refine ⟨hwl, hok3, ?_, how3, ?_, ?_, by omega, by dsimp only; omega, ?_, ?_⟩
          · rw [hf3 _ (by intro h; have := hbk _ h; omega) (by omega)]; exact hit1
          · dsimp only; rw [List.append_assoc]; exact heq'
          · dsimp only; rw [List.length_append]; omega
          · intro b hb
            rw [hf3 _ (by intro h; have := hbk _ h; omega) (by omega)]; exact hfrq b hb
          · intro b hb
            rcases hb3 b hb with h | h
            · exact hbk b h
            · omega
        repeat' (
          first
            | refine W_seq ?_
            | refine WO_nil ?_
            | refine V_seq ?_
            | refine W_region ?_
            | refine W_block ?_
            | refine W_skip ?_
            | refine W_cond_t rfl ?_
            | refine W_cond_f rfl ?_
            | refine WO_dst rfl rfl (by kernel_rfl) (by kernel_rfl) ?_
            | refine WO_guard_t rfl rfl rfl rfl rfl (by kernel_rfl) (by kernel_rfl) ?_
            | refine WO_guard_f rfl rfl rfl rfl rfl rfl (by kernel_rfl) (by kernel_rfl) ?_
            | refine Ev_move rfl ?_
            | refine Ev_assign rfl ?_
            | refine Ev_extract rfl rfl ?_
            | refine Ev_pick_t rfl rfl rfl ?_
            | refine Ev_pick_f rfl rfl rfl ?_
            | refine Ev_lssN rfl rfl ?_
            | refine Ev_gtrN rfl rfl ?_
            | refine Ev_addN rfl rfl (by simp only [lim]; omega) ?_
            | refine Ev_subN rfl rfl (by simp only [lim]; omega) (by first | omega | (dsimp only; done) | (dsimp only; omega)) ?_
            | refine Ev_shrN (m := 6) (q := 64) rfl rfl rfl rfl ?_
            | refine Ev_shrN (m := 10) (q := 1024) rfl rfl rfl rfl ?_
            | refine Ev_andN 6 64 rfl rfl rfl rfl (by simp only [lim]; omega) (by simp only [lim]; omega) ?_
            | refine Ev_orN 4 rfl rfl rfl (by first | omega | (dsimp only; done) | (dsimp only; omega)) (by first | omega | (dsimp only; done) | (dsimp only; omega)) (by simp only [lim]; omega) ?_
            | refine Ev_orN 5 rfl rfl rfl (by first | omega | (dsimp only; done) | (dsimp only; omega)) (by first | omega | (dsimp only; done) | (dsimp only; omega)) (by simp only [lim]; omega) ?_
            | refine Ev_orN 6 rfl rfl rfl (by first | omega | (dsimp only; done) | (dsimp only; omega)) (by first | omega | (dsimp only; done) | (dsimp only; omega)) (by simp only [lim]; omega) ?_
            | refine Ev_convN rfl rfl rfl rfl rfl (by simp only [lim]; omega) ?_
            | (refine WO_guard_dt rfl rfl rfl rfl rfl (by kernel_rfl) (by kernel_rfl) (fun hg => ?_) (fun hg => ?_) <;> (try dsimp only at hg) <;> try (exfalso; first | omega | exact hg rfl))
            | (refine W_cond rfl (fun hc => ?_) (fun hc => ?_) <;> (try dsimp only at hc) <;> try (exfalso; first | omega | exact hc rfl)))
        · have he : enc1 c = [c] := by unfold enc1 unitL; rw [if_neg (by omega), if_pos (by omega)]
          refine Ev_buildSlice rfl rfl rfl rfl rfl rfl hok1 (by omega) ?_
          intro S2 hn2 hok2 hq2 hf2
          repeat (
            refine WO_dst rfl rfl (by kernel_rfl) (by kernel_rfl) ?_)
          refine Ev_append rfl rfl rfl rfl rfl rfl rfl rfl rfl rfl (how1.keep (fun b h => hf2 b (how1.lt hok1 h))) (Rd_lit hq2 rfl (by kernel_rfl)) rfl hok2 (by omega) (by dsimp only; omega) (by omega) ?_
          intro v3 T3 hle3 hn3 hok3 how3 hf3 hb3
          repeat (
            first
              | refine WO_nil ?_
              | refine V_block ?_
              | refine WO_dst rfl rfl (by kernel_rfl) (by kernel_rfl) ?_
              | refine Ev_assign rfl ?_)
          refine back (pos + w, v3, l ++ enc1 c) T3 _ (by dsimp only; omega) (hI v3 T3 hok3 (how3.eq (by rw [he, sbytes_app]; simp [sbytes, lput, rep, AV.cells]) (by rw [he, List.length_append]; rfl)) (by omega) (by omega) (fun b h1 h2 => by rw [hf3 b h1 (by omega), hf2 b h2]) (fun b h => (hb3 b h).imp id (fun h => by omega))) ⟨rfl, rfl, trivial⟩
        · have he : enc1 c = [192 + c / 64, 128 + c % 64] := by unfold enc1 unitL; rw [if_neg (by omega), if_neg (by omega), if_pos (by omega)]
          refine Ev_buildSlice rfl rfl rfl rfl rfl rfl hok1 (by omega) ?_
          intro S2 hn2 hok2 hq2 hf2
          repeat (
            refine WO_dst rfl rfl (by kernel_rfl) (by kernel_rfl) ?_)
          refine Ev_append rfl rfl rfl rfl rfl rfl rfl rfl rfl rfl (how1.keep (fun b h => hf2 b (how1.lt hok1 h))) (Rd_lit hq2 rfl (by kernel_rfl)) rfl hok2 (by omega) (by dsimp only; omega) (by omega) ?_
          intro v3 T3 hle3 hn3 hok3 how3 hf3 hb3
          repeat (
            first
              | refine WO_nil ?_
              | refine V_block ?_
              | refine WO_dst rfl rfl (by kernel_rfl) (by kernel_rfl) ?_
              | refine Ev_assign rfl ?_)
          refine back (pos + w, v3, l ++ enc1 c) T3 _ (by dsimp only; omega) (hI v3 T3 hok3 (how3.eq (by rw [he, sbytes_app]; simp [sbytes, lput, rep, AV.cells]) (by rw [he, List.length_append]; rfl)) (by omega) (by omega) (fun b h1 h2 => by rw [hf3 b h1 (by omega), hf2 b h2]) (fun b h => (hb3 b h).imp id (fun h => by omega))) ⟨rfl, rfl, trivial⟩
        · have he : enc1 c = three c := by rw [three_unit (by omega)]; unfold enc1; rw [if_neg (by omega)]
          refine Ev_call rfl rfl ((three_runs hok1 (by omega) (by omega)).mono ?_)
          rintro v2 S2 - ⟨⟨hle2, hn2, hok2, hf2⟩, hrd2, hb2⟩
          repeat (
            refine WO_dst rfl rfl (by kernel_rfl) (by kernel_rfl) ?_)
          refine Ev_append rfl rfl rfl rfl rfl rfl rfl rfl rfl rfl (how1.keep (fun b h => hf2 b (by simp [blkOf]) (how1.lt hok1 h))) hrd2 (sbytes_one _) hok2 (by omega) (by dsimp only; omega) (by omega) ?_
          intro v3 T3 hle3 hn3 hok3 how3 hf3 hb3
          repeat (
            first
              | refine WO_nil ?_
              | refine V_block ?_
              | refine WO_dst rfl rfl (by kernel_rfl) (by kernel_rfl) ?_
              | refine Ev_assign rfl ?_)
          refine back (pos + w, v3, l ++ enc1 c) T3 _ (by dsimp only; omega) (hI v3 T3 hok3 (how3.eq (by rw [he, sbytes_app]) (by rw [he, List.length_append]; rfl)) (by omega) (by omega) (fun b h1 h2 => by rw [hf3 b h1 (by omega), hf2 b (by simp [blkOf]) h2]) (fun b h => (hb3 b h).imp id (fun h => by omega))) ⟨rfl, rfl, trivial⟩
        · obtain ⟨A, hA⟩ : ∃ A, A = 55296 + (c - 65536) / 1024 := ⟨_, rfl⟩
          obtain ⟨B, hB⟩ : ∃ B, B = 56320 + (c - 65536) % 1024 := ⟨_, rfl⟩
          have he : enc1 c = three A ++ three B := by rw [three_unit (by omega), three_unit (by omega), hA, hB]; unfold enc1; rw [if_pos (by omega)]
          refine Ev_call rfl rfl ((three_runs hok1 (by omega) (by dsimp only; omega)).mono ?_)
          rintro v2 S2 - ⟨⟨hle2, hn2, hok2, hf2⟩, hrd2, hb2⟩
          repeat (
            refine WO_dst rfl rfl (by kernel_rfl) (by kernel_rfl) ?_)
          refine Ev_append rfl rfl rfl rfl rfl rfl rfl rfl rfl rfl (how1.keep (fun b h => hf2 b (by simp [blkOf]) (how1.lt hok1 h))) hrd2 (sbytes_one _) hok2 (by omega) (by dsimp only; omega) (by omega) ?_
          intro v3 T3 hle3 hn3 hok3 how3 hf3 hb3
          repeat (
            first
              | refine WO_nil ?_
              | refine V_seq ?_
              | refine W_region ?_
              | refine WO_dst rfl rfl (by kernel_rfl) (by kernel_rfl) ?_
              | refine Ev_move rfl ?_
              | refine Ev_assign rfl ?_
              | refine Ev_addN rfl rfl (by simp only [lim]; omega) ?_
              | refine Ev_subN rfl rfl (by simp only [lim]; omega) (by first | omega | (dsimp only; done) | (dsimp only; omega)) ?_
              | refine Ev_andN 10 1024 rfl rfl rfl rfl (by simp only [lim]; omega) (by simp only [lim]; omega) ?_)
          refine Ev_call rfl rfl ((three_runs hok3 (by omega) (by dsimp only; omega)).mono ?_)
          rintro v4 S4 - ⟨⟨hle4, hn4, hok4, hf4⟩, hrd4, hb4⟩
          repeat (
            refine WO_dst rfl rfl (by kernel_rfl) (by kernel_rfl) ?_)
          refine Ev_append rfl rfl rfl rfl rfl rfl rfl rfl rfl rfl (how3.keep (fun b h => hf4 b (by simp [blkOf]) (how3.lt hok3 h))) hrd4 (sbytes_one _) hok4 (by omega) (by dsimp only; omega) (by omega) ?_
          intro v5 T5 hle5 hn5 hok5 how5 hf5 hb5
          repeat (
            first
              | refine WO_nil ?_
              | refine V_block ?_
              | refine WO_dst rfl rfl (by kernel_rfl) (by kernel_rfl) ?_
              | refine Ev_assign rfl ?_)
          refine back (pos + w, v5, l ++ enc1 c) T5 _ (by dsimp only; omega) (hI v5 T5 hok5 (how5.eq (by rw [he, hA, hB, sbytes_app, sbytes_app, List.append_assoc]) (by rw [he, List.length_append, List.length_append]; rfl)) (by omega) (by omega) (fun b h1 h2 => by rw [hf5 b (fun h => by rcases hb3 b h with h | h; exact h1 h; omega) (by omega), hf4 b (by simp [blkOf]) (by omega), hf3 b h1 (by omega), hf2 b (by simp [blkOf]) h2]) (fun b h => by
            rcases hb5 b h with h | h
            · exact (hb3 b h).imp id (fun h => by omega)
            · exact .inr (by omega))) ⟨rfl, rfl, trivial⟩
        · have he : enc1 c = [192 + c / 64, 128 + c % 64] := by unfold enc1 unitL; rw [if_neg (by omega), if_neg (by omega), if_pos (by omega)]
          refine Ev_buildSlice rfl rfl rfl rfl rfl rfl hok1 (by omega) ?_
          intro S2 hn2 hok2 hq2 hf2
          repeat (
            refine WO_dst rfl rfl (by kernel_rfl) (by kernel_rfl) ?_)
          refine Ev_append rfl rfl rfl rfl rfl rfl rfl rfl rfl rfl (how1.keep (fun b h => hf2 b (how1.lt hok1 h))) (Rd_lit hq2 rfl (by kernel_rfl)) rfl hok2 (by omega) (by dsimp only; omega) (by omega) ?_
          intro v3 T3 hle3 hn3 hok3 how3 hf3 hb3
          repeat (
            first
              | refine WO_nil ?_
              | refine V_block ?_
              | refine WO_dst rfl rfl (by kernel_rfl) (by kernel_rfl) ?_
              | refine Ev_assign rfl ?_)
          refine back (pos + w, v3, l ++ enc1 c) T3 _ (by dsimp only; omega) (hI v3 T3 hok3 (how3.eq (by rw [he, sbytes_app]; simp [sbytes, lput, rep, AV.cells]) (by rw [he, List.length_append]; rfl)) (by omega) (by omega) (fun b h1 h2 => by rw [hf3 b h1 (by omega), hf2 b h2]) (fun b h => (hb3 b h).imp id (fun h => by omega))) ⟨rfl, rfl, trivial⟩
    · exact ⟨by simp, hok1, hq1, .inl ⟨rfl, rfl, rfl⟩, by simp, by simp, by omega, by dsimp only; omega, hfS, fun c hc => by cases hc⟩
end Go.Proofs.YthhbnnnokmefoaaDoor
/- mutf.Writer, and caraferef1.Number, Text: what is written. -/


namespace Go.Proofs.YthhbnnnokmefoaaDoor
open GX
set_option maxHeartbeats 8000000
theorem sl_cells {v : AV} (h : isSl v = true) : v.cells = [v] := by cases v <;> first | rfl | cases h
theorem Sok.upd {S S' : St} {p : Nat} {b : AB} (h : Sok S) (hp : p < S.n) (hn : S'.n = S.n) (_ : S'.h.get p = some b) (hf : ∀ c, c ≠ p → S'.h.get c = S.h.get c) : Sok S' := by
  intro c x hx
  by_cases hc : c = p
  · rw [hc, hn]; exact hp
  · rw [hf c hc] at hx; rw [hn]; exact h c x hx
theorem sl_one {v : AV} (h : isSl v = true) : v.one = true := by cases v <;> first | rfl | cases h
section
variable {X : X} {l : L} {S : St} {R : AV → St → Prop} {x y : Operand}
open Go
theorem Ev_store_sl {t b o : Nat} {i : TI} {ty : Nat} {cs : List AV} {sp : Bool} {v : AV} (hx : od l x = some (.ptr b o)) (hy : od l y = some v) (hsl : isSl v = true) (hi : X.ti t = some i) (hz : Nat.beq 1 i.size = true) (hb : S.h.get b = some (.cells ty cs sp)) (hle : o + 1 ≤ cs.length) (hn : b < 1000000000)
    (hR : ∀ S', S'.n = S.n → S'.h.get b = some (.cells ty (lput cs o [v]) sp) → (∀ c, c ≠ b → S'.h.get c = S.h.get c) → R (.tup []) S') : Ev X l S (.store t x y) R := by
  have hc := sl_cells hsl
  refine Ev_store hx hy hi (by rw [hc]; exact hz) (by rw [hc]; simp [sl_one hsl]) hb (by rw [hc]; exact hle) hn ?_
  rw [hc]; exact hR
/-- a shift to the right by a number that is not a constant -/
theorem Ev_shrV {t u m : Nat} {k k' : IntKind} {a : Int} (hx : od l x = some (.int k a)) (hy : od l y = some (.int k' ((m : Nat) : Int))) (hm : m ≤ k.bits) (hR : R (.int k (a / ((2 ^ m : Nat) : Int))) S) : Ev X l S (.binOp .shr t x y u) R :=
  Ev_shr hx hy (by rw [nble]; exact decide_eq_true hm) rfl hR
/-- a number as a byte -/
theorem Ev_conv8i {s d : Nat} {k : IntKind} {a : Int} {di si : TI} (hx : od l x = some (.int k a)) (hs : X.ti s = some si) (hd : X.ti d = some di) (hsd : si.desc = .int k) (hdd : di.desc = .int .u8) (hR : R (.int .u8 (((a % 256).toNat : Nat) : Int)) S) : Ev X l S (.convert s d x) R :=
  Ev_convw hx hs hd hsd hdd (by rw [wrp_u8, show a % 256 = (((a % 256).toNat : Nat) : Int) by omega]; exact hR)
theorem Ev_conv64 {s d : Nat} {k : IntKind} {a : Int} {di si : TI} (hx : od l x = some (.int k a)) (hs : X.ti s = some si) (hd : X.ti d = some di) (hsd : si.desc = .int k) (hdd : di.desc = .int .u64) (hR : R (.int .u64 (a % 18446744073709551616)) S) : Ev X l S (.convert s d x) R :=
  Ev_convw hx hs hd hsd hdd (by rw [wrp_u64]; exact hR)
end
def byteAt (n : Int) (k : Nat) : Nat := (n / ((2 ^ (8 * k) : Nat) : Int) % 256).toNat
/-- a number's lowest bytes -/
def numL (n : Int) : Nat → List Nat
  | 0 => []
  | j + 1 => byteAt n j :: numL n j
theorem numL_len (n : Int) : ∀ j, (numL n j).length = j
  | 0 => rfl
  | j + 1 => by simp [numL, numL_len n j]
theorem byteAt_lt (n : Int) (k : Nat) : byteAt n k < 256 := by unfold byteAt; omega
theorem numL_lt (n : Int) : ∀ j, ∀ b ∈ numL n j, b < 256
  | 0 => by simp [numL]
  | j + 1 => by
    intro b hb
    rcases List.mem_cons.1 hb with h | h
    · rw [h]; exact byteAt_lt n j
    · exact numL_lt n j b h
def sizeN (b : Int) : Nat := (min (max b 1) 8).toNat
theorem sizeN_le (b : Int) : 1 ≤ sizeN b ∧ sizeN b ≤ 8 := by unfold sizeN; omega
theorem size_runs (n : Int) (S : St) : Runs X1 59 [.int .i64 n] S fun v S' => S' = S ∧ v = .int .i64 ((sizeN n : Nat) : Int) := by
  refine Runs_fn (m := 6) (by kernel_rfl) Tryd.func59 rfl (by kernel_rfl) (by kernel_rfl) ?_
  repeat (
    first
      | refine W_seq ?_
      | refine WO_nil ?_
      | refine V_seq ?_
      | refine W_region ?_
      | refine W_ret ?_
      | refine WO_dst rfl rfl (by kernel_rfl) (by kernel_rfl) ?_
      | refine Ev_move rfl ?_
      | refine Ev_assign rfl ?_
      | refine Ev_min rfl rfl rfl ?_
      | refine Ev_max rfl rfl rfl ?_)
  refine V_done rfl rfl ?_
  refine ⟨rfl, ?_⟩
  show AV.int .i64 (min (max n 1) 8) = _
  congr 1
  unfold sizeN
  omega
theorem width_runs (n : Int) (S : St) : Runs X1 61 [.int .i64 n] S fun v S' => S' = S ∧ v = .int .i64 ((sizeN n : Nat) : Int) := by
  refine Runs_fn (m := 8) (by kernel_rfl) Tryd.func61 rfl (by kernel_rfl) (by kernel_rfl) ?_
  repeat' (
    first
      | refine W_seq ?_
      | refine WO_nil ?_
      | refine V_seq ?_
      | refine W_region ?_
      | refine W_skip ?_
      | refine W_ret ?_
      | refine V_ret ?_
      | refine WO_dst rfl rfl (by kernel_rfl) (by kernel_rfl) ?_
      | refine Ev_move rfl ?_
      | refine Ev_assign rfl ?_
      | refine Ev_lss rfl rfl ?_
      | refine Ev_gtr rfl rfl ?_
      | (refine W_cond rfl (fun hc => ?_) (fun hc => ?_) <;> (try dsimp only at hc) <;> try (exfalso; first | omega | exact hc rfl)))
  all_goals
    refine V_done rfl rfl ?_
    refine ⟨rfl, ?_⟩
    show AV.int .i64 _ = _
    congr 1
    unfold sizeN
    omega
/-- a writer, and what was written -/
structure Wr (S : St) (p : Nat) (vb : AV) (l : List Nat) : Prop where
  at_ : S.h.get p = some (.cells 73 [vb] false)
  ow : Ow S vb l
  ne : blkOf vb ≠ some p
/-- what a writer's work leaves as it was -/
structure WrF (S S' : St) (p : Nat) (vb vb' : AV) (k : Nat) : Prop where
  le : S.n ≤ S'.n
  n : S'.n ≤ S.n + k
  ok : Sok S'
  same : ∀ c, c ≠ p → blkOf vb ≠ some c → c < S.n → S'.h.get c = S.h.get c
  bk : ∀ c, blkOf vb' = some c → blkOf vb = some c ∨ S.n ≤ c
theorem WrF.refl {S : St} {p : Nat} {vb : AV} (hok : Sok S) : WrF S S p vb vb 0 := ⟨Nat.le_refl _, Nat.le_refl _, hok, fun _ _ _ _ => rfl, fun _ h => .inl h⟩
theorem WrF.trans {S S1 S2 : St} {p : Nat} {v v1 v2 : AV} {k k1 : Nat} (a : WrF S S1 p v v1 k) (b : WrF S1 S2 p v1 v2 k1) : WrF S S2 p v v2 (k + k1) := by
  refine ⟨Nat.le_trans a.le b.le, by have := a.n; have := b.n; omega, b.ok, fun c h1 h2 h3 => ?_, fun c h => ?_⟩
  · rw [b.same c h1 (fun h => by rcases a.bk c h with g | g; exact h2 g; omega) (by have := a.le; omega), a.same c h1 h2 h3]
  · rcases b.bk c h with g | g
    · exact a.bk c g
    · exact .inr (by have := a.le; omega)
theorem number_runs {S : St} {p : Nat} {vb : AV} {l : List Nat} {n b : Int} (hok : Sok S) (hw : Wr S p vb l) (hl : l.length ≤ 1000000000) (hn : S.n + 16 ≤ 1000000000) :
    Runs X1 37 [.ptr p 0, .int .i64 n, .int .i64 b] S fun _ S' => ∃ vb', Wr S' p vb' (l ++ numL n (sizeN b)) ∧ WrF S S' p vb vb' 16 := by
  have hsz := sizeN_le b
  have hp : p < S.n := hok _ _ hw.at_
  refine Runs_fn (m := 28) (by kernel_rfl) Tryd.func37 rfl (by kernel_rfl) (by kernel_rfl) ?_
  repeat (
    first
      | refine W_seq ?_
      | refine W_region ?_
      | refine WO_dst rfl rfl (by kernel_rfl) (by kernel_rfl) ?_
      | refine Ev_move rfl ?_)
  refine Ev_call rfl rfl ((size_runs b S).mono ?_)
  rintro _ _ - ⟨rfl, rfl⟩
  repeat (
    first
      | refine WO_nil ?_
      | refine V_seq ?_
      | refine W_block ?_
      | refine WO_dst rfl rfl (by kernel_rfl) (by kernel_rfl) ?_
      | refine Ev_assign rfl ?_
      | refine Ev_subN rfl rfl (by simp only [lim]; omega) (by first | omega | (dsimp only; done) | (dsimp only; omega)) ?_)
  rename_i S
  have hs6 : some (AV.int .i64 ((sizeN b - 1 : Nat) : Int)) = some (AV.int .i64 (((sizeN b : Nat) : Int) - 1)) := by congr 2; omega
  refine W_inv (fun a : Nat × AV × List Nat => [(6, .int .i64 (((a.1 : Nat) : Int) - 1)), (0, .ptr p 0), (1, .int .i64 n)]) (fun a T => Wr T p a.2.1 a.2.2 ∧ a.2.2 ++ numL n a.1 = l ++ numL n (sizeN b) ∧ a.1 ≤ sizeN b ∧ WrF S T p vb a.2.1 (2 * (sizeN b - a.1))) (fun a => a.1) ?_ (sizeN b, vb, l) ⟨hw, rfl, Nat.le_refl _, by rw [Nat.sub_self]; exact WrF.refl hok⟩ ⟨hs6, rfl, rfl, trivial⟩
  rintro ⟨j, v, l'⟩ T ⟨hwT, heq, hj, hF⟩ back
  dsimp only at hwT heq hj hF back
  have hFn := hF.n; have hFl := hF.le
  have hll : l'.length ≤ 1000000008 := by have h := congrArg List.length heq; simp only [List.length_append, numL_len] at h; omega
  cases j with
  | zero =>
    show W X1 28 _ _ _ [(6, .int .i64 (-1)), (0, .ptr p 0), (1, .int .i64 n)] T
    repeat' (
      first
        | refine W_seq ?_
        | refine WO_nil ?_
        | refine V_seq ?_
        | refine W_region ?_
        | refine W_exit ?_
        | refine V_block_x rfl ?_
        | refine V_seq_x ?_
        | refine V_loop_x ?_
        | refine W_cond_f rfl ?_
        | refine WO_dst rfl rfl (by kernel_rfl) (by kernel_rfl) ?_
        | refine Ev_move rfl ?_
        | refine Ev_geq rfl rfl ?_)
    refine V_done rfl rfl ?_
    refine ⟨v, ?_, ⟨hF.le, by omega, hF.ok, hF.same, hF.bk⟩⟩
    rw [← heq]; simpa [numL] using hwT
  | succ j =>
    have hjj : (((j + 1 : Nat) : Int) - 1) = ((j : Nat) : Int) := by omega
    show W X1 28 _ _ _ [(6, .int .i64 (((j + 1 : Nat) : Int) - 1)), (0, .ptr p 0), (1, .int .i64 n)] T
    rw [hjj]
    repeat' (
      first
        | refine W_seq ?_
        | refine WO_nil ?_
        | refine V_seq ?_
        | refine W_region ?_
        | refine W_drawn (by kernel_rfl) ?_
        | refine W_block ?_
        | refine W_skip ?_
        | refine W_cond_t rfl ?_
        | refine WO_dst rfl rfl (by kernel_rfl) (by kernel_rfl) ?_
        | refine Ev_load rfl rfl rfl hwT.at_ rfl hwT.ow.rd.self ?_
        | refine Ev_shrV rfl rfl (by simp only [Go.IntKind.bits]; omega) ?_
        | refine Ev_conv8i rfl rfl rfl rfl rfl ?_
        | refine Ev_move rfl ?_
        | refine Ev_geqN rfl rfl ?_
        | refine Ev_nilCheck rfl ?_
        | refine Ev_fieldAddr rfl rfl rfl rfl rfl rfl ?_
        | refine Ev_mulN rfl rfl (by simp only [lim]; omega) ?_)
    refine Ev_buildSlice rfl rfl rfl rfl rfl rfl hF.ok (by omega) ?_
    intro S1 hn1 hok1 hq1 hf1
    have hpT : p < T.n := hF.ok _ _ hwT.at_
    have ho1 := hwT.ow.keep (fun b hb => hf1 b (hwT.ow.lt hF.ok hb))
    repeat (
      refine WO_dst rfl rfl (by kernel_rfl) (by kernel_rfl) ?_)
    refine Ev_append rfl rfl rfl rfl rfl rfl rfl rfl rfl rfl ho1 (Rd_lit hq1 rfl (by kernel_rfl)) rfl hok1 (by omega) (by dsimp only; omega) (by omega) ?_
    intro v2 S2 hle2 hn2 hok2 hown2 hf2 hb2
    have hp2 : S2.h.get p = some (.cells 73 [v] false) := by rw [hf2 p hwT.ne (by omega), hf1 p hpT, hwT.at_]
    repeat (
      first
        | refine WO_dst rfl rfl (by kernel_rfl) (by kernel_rfl) ?_
        | refine WO_no rfl rfl ?_
        | refine Ev_nilCheck rfl ?_
        | refine Ev_fieldAddr rfl rfl rfl rfl rfl rfl ?_)
    refine Ev_store_sl rfl rfl hown2.rd.sl rfl rfl hp2 (by simp) (by omega) ?_
    intro S3 hn3 hp3 hf3
    repeat (
      first
        | refine WO_nil ?_
        | refine V_seq ?_
        | refine W_region ?_
        | refine V_block ?_
        | refine WO_dst rfl rfl (by kernel_rfl) (by kernel_rfl) ?_
        | refine Ev_move rfl ?_
        | refine Ev_assign rfl ?_
        | refine Ev_sub rfl rfl (by simp only [inR]; omega) ?_)
    have hb2' : ∀ c, blkOf v2 = some c → blkOf v = some c ∨ T.n ≤ c := fun c hc => (hb2 c hc).imp id (fun h => by omega)
    refine back (j, v2, l' ++ [byteAt n j]) S3 _ (Nat.lt_succ_self j) ⟨⟨hp3, ?_, ?_⟩, ?_, by omega, ?_⟩ ⟨rfl, rfl, rfl, trivial⟩
    · have h4 : Own S3 v2 5 1 (sbytes l' ++ lput (rep [AV.int .u8 0] 1) 0 [AV.int .u8 ((byteAt n j : Nat) : Int)]) (l'.length + 1) := hown2.keep fun c hc => hf3 c (fun h => by subst h; rcases hb2' _ hc with g | g; exact hwT.ne g; omega)
      refine h4.eq ?_ (by simp)
      rw [sbytes_app]; rfl
    · intro h; rcases hb2' _ h with g | g; exact hwT.ne g; omega
    · rw [← heq]; simp [numL]
    · have hF2 : WrF T S3 p v v2 2 := ⟨by omega, by omega, Sok.upd hok2 (by omega) hn3 hp3 hf3, fun c h1 h2 h3 => by rw [hf3 c h1, hf2 c h2 (by omega), hf1 c h3], hb2'⟩
      have h5 := hF.trans hF2
      refine ⟨h5.le, ?_, h5.ok, h5.same, h5.bk⟩
      have := h5.n
      omega
end Go.Proofs.YthhbnnnokmefoaaDoor
/- mutf.Writer's other functions, and caraferef1.Number and Text: what is written. -/


namespace Go.Proofs.YthhbnnnokmefoaaDoor
open GX
set_option maxHeartbeats 8000000
theorem WrF.fr {S S' T : St} {p : Nat} {vb vb' v : AV} {k k' : Nat} (a : WrF S S' p vb vb' k) (b : Fr S' T v k') (h1 : ∀ c, blkOf v = some c → blkOf vb = some c ∨ S.n ≤ c) : WrF S T p vb vb' (k + k') := by
  refine ⟨Nat.le_trans a.le b.le, by have := a.n; have := b.n; omega, b.ok, fun c g1 g2 g3 => ?_, a.bk⟩
  have := a.le
  rw [b.same c (fun h => by rcases h1 c h with g | g; exact g2 g; omega) (by omega), a.same c g1 g2 g3]
theorem Wr.keep {S S' : St} {p : Nat} {vb : AV} {l : List Nat} (h : Wr S p vb l) (hp : S'.h.get p = S.h.get p) (hb : ∀ c, blkOf vb = some c → S'.h.get c = S.h.get c) : Wr S' p vb l :=
  ⟨by rw [hp]; exact h.at_, h.ow.keep hb, h.ne⟩
theorem Wr.fr {S S' : St} {p : Nat} {vb : AV} {l : List Nat} {k : Nat} (h : Wr S p vb l) (hok : Sok S) (a : Fr S S' .nils k) : Wr S' p vb l :=
  h.keep (a.same p (by simp [blkOf]) (hok _ _ h.at_)) (fun c hc => a.same c (by simp [blkOf]) (h.ow.lt hok hc))
theorem wbytes_runs {S : St} {p : Nat} {vb v : AV} {l b : List Nat} (hok : Sok S) (hw : Wr S p vb l) (hv : Rd S v 1 (sbytes b) b.length) (hl : l.length ≤ 1000000000) (hb : b.length ≤ 1000000000) (hn : S.n + 1 ≤ 1000000000) :
    Runs X1 33 [.ptr p 0, v] S fun _ S' => ∃ vb', Wr S' p vb' (l ++ b) ∧ WrF S S' p vb vb' 1 := by
  have hp : p < S.n := hok _ _ hw.at_
  refine Runs_fn (m := 13) (by kernel_rfl) Tryd.func33 rfl (by kernel_rfl) (by kernel_rfl) ?_
  repeat (
    first
      | refine W_region ?_
      | refine WO_dst rfl rfl (by kernel_rfl) (by kernel_rfl) ?_
      | refine Ev_load rfl rfl rfl hw.at_ rfl hw.ow.rd.self ?_
      | refine Ev_move rfl ?_
      | refine Ev_nilCheck rfl ?_
      | refine Ev_fieldAddr rfl rfl rfl rfl rfl rfl ?_)
  refine Ev_append rfl rfl rfl rfl rfl rfl rfl rfl rfl rfl hw.ow hv (by first | exact sbytes_one b | (unfold sbytes; simp [AV.one])) hok (by omega) (by dsimp only; omega) (by omega) ?_
  intro v2 S2 hle2 hn2 hok2 hown2 hf2 hb2
  have hp2 : S2.h.get p = some (.cells 73 [vb] false) := by rw [hf2 p hw.ne (by omega), hw.at_]
  repeat (
    first
      | refine WO_dst rfl rfl (by kernel_rfl) (by kernel_rfl) ?_
      | refine WO_no rfl rfl ?_
      | refine Ev_nilCheck rfl ?_
      | refine Ev_fieldAddr rfl rfl rfl rfl rfl rfl ?_)
  refine Ev_store_sl rfl rfl hown2.rd.sl rfl rfl hp2 (by simp) (by omega) ?_
  intro S3 hn3 hp3 hf3
  repeat (
    refine WO_nil ?_)
  refine V_done rfl rfl ?_
  have hne : blkOf v2 ≠ some p := by intro h; rcases hb2 _ h with g | g; exact hw.ne g; omega
  refine ⟨v2, ⟨hp3, ?_, hne⟩, ⟨by omega, by omega, Sok.upd hok2 (by omega) hn3 hp3 hf3, fun c h1 h2 h3 => by rw [hf3 c h1, hf2 c h2 (by omega)], hb2⟩⟩
  have h4 : Own S3 v2 5 1 (sbytes l ++ sbytes b) (l.length + b.length) := hown2.keep fun c hc => hf3 c (fun h => by subst h; exact hne hc)
  exact h4.eq (sbytes_app _ _).symm (by simp)
/-- a copy of a slice -/
theorem clone_runs {S : St} {v : AV} {b : List Nat} (hok : Sok S) (hv : Rd S v 1 (sbytes b) b.length) (hb : b.length ≤ 1000000000) (hn : S.n + 2 ≤ 1000000000) :
    Runs X1 41 [v] S fun r S' => Fr S S' .nils 2 ∧ Gz S' r 5 1 (sbytes b) b.length ∧ ∀ c, blkOf r = some c → S.n ≤ c := by
  refine Runs_fn (m := 8) (by kernel_rfl) Tryd.func41 rfl (by kernel_rfl) (by kernel_rfl) ?_
  repeat (
    first
      | refine W_seq ?_
      | refine WO_nil ?_
      | refine V_seq ?_
      | refine W_region ?_
      | refine WO_dst rfl rfl (by kernel_rfl) (by kernel_rfl) ?_
      | refine Ev_move rfl ?_
      | refine Ev_assign rfl ?_)
  refine Ev_eq_nils rfl rfl rfl rfl hv ?_
  intro q hq
  repeat (
    first
      | refine WO_nil ?_
      | refine V_seq ?_)
  refine W_condb rfl (fun hc => ?_) (fun hc => ?_)
  · have h0 := hq hc
    repeat (
      first
        | refine W_seq ?_
        | refine WO_nil ?_
        | refine V_seq ?_
        | refine W_region ?_
        | refine W_ret ?_
        | refine V_ret ?_
        | refine WO_dst rfl rfl (by kernel_rfl) (by kernel_rfl) ?_
        | refine Ev_assign rfl ?_)
    refine V_done rfl rfl ?_
    refine ⟨⟨Nat.le_refl _, by omega, hok, fun _ _ _ => rfl⟩, .inl (.inl ⟨rfl, h0.2, h0.1⟩), fun c hc => by cases hc⟩
  · repeat (
      first
        | refine W_seq ?_
        | refine V_seq ?_
        | refine W_region ?_
        | refine W_skip ?_
        | refine WO_dst rfl rfl (by kernel_rfl) (by kernel_rfl) ?_)
    refine Ev_buildSlice rfl rfl rfl rfl rfl rfl hok (by omega) ?_
    intro S1 hn1 hok1 hq1 hf1
    have hv1 := hv.keep (fun c h => hf1 c (hv.lt hok h))
    repeat (
      first
        | refine WO_dst rfl rfl (by kernel_rfl) (by kernel_rfl) ?_
        | refine Ev_move rfl ?_)
    refine Ev_append_gz (cs := []) (m := 0) rfl rfl rfl rfl rfl rfl rfl rfl rfl rfl (.inr ⟨rfl, rfl, S.n, 0, rfl, Rd_lit hq1 rfl (by kernel_rfl)⟩) hv1 (by first | exact sbytes_one b | (unfold sbytes; simp [AV.one])) hok1 (by omega) (by dsimp only; omega) (by omega) ?_
    intro v2 S2 hle2 hn2 hok2 hown2 hf2 hb2
    repeat (
      first
        | refine WO_nil ?_
        | refine V_seq ?_
        | refine W_ret ?_
        | refine WO_dst rfl rfl (by kernel_rfl) (by kernel_rfl) ?_
        | refine Ev_assign rfl ?_)
    refine V_done rfl rfl ?_
    refine ⟨⟨by omega, by omega, hok2, fun c _ h => by rw [hf2 c (fun h => by cases h; omega) (by omega), hf1 c h]⟩, hown2.eq rfl (by omega), fun c hc => ?_⟩
    rcases hb2 c hc with h | h
    · cases h; exact Nat.le_refl _
    · omega
theorem done_runs {S : St} {p : Nat} {vb : AV} {l : List Nat} (hok : Sok S) (hw : Wr S p vb l) (hl : l.length ≤ 1000000000) (hn : S.n + 2 ≤ 1000000000) :
    Runs X1 14 [.ptr p 0] S fun r S' => Fr S S' .nils 2 ∧ Gz S' r 5 1 (sbytes l) l.length ∧ ∀ c, blkOf r = some c → S.n ≤ c := by
  refine Runs_fn (m := 8) (by kernel_rfl) Tryd.func14 rfl (by kernel_rfl) (by kernel_rfl) ?_
  repeat (
    first
      | refine W_seq ?_
      | refine WO_nil ?_
      | refine V_seq ?_
      | refine W_region ?_
      | refine WO_dst rfl rfl (by kernel_rfl) (by kernel_rfl) ?_
      | refine Ev_load rfl rfl rfl hw.at_ rfl hw.ow.rd.self ?_
      | refine Ev_move rfl ?_
      | refine Ev_assign rfl ?_
      | refine Ev_nilCheck rfl ?_
      | refine Ev_fieldAddr rfl rfl rfl rfl rfl rfl ?_)
  refine Ev_call rfl rfl ((clone_runs hok hw.ow.rd hl hn).mono ?_)
  rintro v S' - ⟨h1, h2, h3⟩
  repeat (
    first
      | refine WO_nil ?_
      | refine V_seq ?_
      | refine W_ret ?_
      | refine WO_dst rfl rfl (by kernel_rfl) (by kernel_rfl) ?_
      | refine Ev_assign rfl ?_)
  refine V_done rfl rfl ?_
  exact ⟨h1, h2, h3⟩
theorem new_runs {S : St} (hok : Sok S) (hn : S.n + 1 ≤ 1000000000) :
    Runs X1 11 [] S fun r S' => r = .ptr S.n 0 ∧ S'.n = S.n + 1 ∧ Sok S' ∧ (∀ c, c < S.n → S'.h.get c = S.h.get c) ∧ Wr S' S.n .nils [] := by
  refine Runs_fn (m := 3) (by kernel_rfl) Tryd.func11 rfl (by kernel_rfl) (by kernel_rfl) ?_
  repeat (
    first
      | refine W_seq ?_
      | refine WO_nil ?_
      | refine V_seq ?_
      | refine W_region ?_
      | refine WO_dst rfl rfl (by kernel_rfl) (by kernel_rfl) ?_
      | refine Ev_assign rfl ?_)
  refine Ev_build (v := .agg [.nils]) rfl rfl ?_
  repeat (
    refine WO_dst rfl rfl (by kernel_rfl) (by kernel_rfl) ?_)
  refine Ev_box rfl hok (by omega) ?_
  intro S1 hn1 hok1 hq1 hf1
  repeat (
    first
      | refine WO_nil ?_
      | refine V_seq ?_
      | refine W_ret ?_
      | refine WO_dst rfl rfl (by kernel_rfl) (by kernel_rfl) ?_
      | refine Ev_assign rfl ?_)
  refine V_done rfl rfl ?_
  exact ⟨rfl, hn1, hok1, hf1, ⟨hq1, .inl ⟨rfl, rfl, rfl⟩, by intro h; cases h⟩⟩
/-- what is written of a string -/
noncomputable def textB (s : List Nat) : List Nat := if vS s = true ∧ (encS s).length ≤ 256 then encS s else []
noncomputable def textL (s : List Nat) : List Nat := numL ((textB s).length : Int) 2 ++ textB s
theorem textB_len (s : List Nat) : (textB s).length ≤ 256 := by unfold textB; split <;> simp_all
theorem size2 : sizeN 2 = 2 := by decide
theorem wtext_runs {S : St} {p : Nat} {vb : AV} {l s : List Nat} (hok : Sok S) (hw : Wr S p vb l) (hs : s.length ≤ 100000000) (hl : l.length ≤ 900000000) (hn : S.n + (4 * s.length + 18) ≤ 1000000000) :
    Runs X1 38 [.ptr p 0, .str s] S fun _ S' => ∃ vb', Wr S' p vb' (l ++ textL s) ∧ WrF S S' p vb vb' (4 * s.length + 18) := by
  have hp : p < S.n := hok _ _ hw.at_
  refine Runs_fn (m := 25) (by kernel_rfl) Tryd.func38 rfl (by kernel_rfl) (by kernel_rfl) ?_
  repeat (
    first
      | refine W_seq ?_
      | refine W_region ?_
      | refine WO_dst rfl rfl (by kernel_rfl) (by kernel_rfl) ?_
      | refine Ev_move rfl ?_)
  refine Ev_call rfl rfl ((enc_runs hok hs (by omega)).mono ?_)
  rintro _ S1 - ⟨hfr, vx, rfl, hx, hbx⟩
  have hw1 := hw.fr hok hfr
  have hF1 := (WrF.refl hok).fr (p := p) (vb := vb) (vb' := vb) hfr (fun c h => by cases h)
  have hn1 := hfr.n
  have hl1 := hfr.le
  by_cases hv : vS s = true
  · rw [if_pos hv] at hx ⊢
    repeat' (
      first
        | refine W_seq ?_
        | refine WO_nil ?_
        | refine V_seq ?_
        | refine W_region ?_
        | refine W_skip ?_
        | refine WO_dst rfl rfl (by kernel_rfl) (by kernel_rfl) ?_
        | refine WO_guard_t rfl rfl rfl rfl rfl (by kernel_rfl) (by kernel_rfl) ?_
        | refine Ev_len rfl rfl rfl rfl rfl hx.rd.len ?_
        | refine Ev_move rfl ?_
        | refine Ev_assign rfl ?_
        | refine Ev_extract rfl rfl ?_
        | refine Ev_pick_f rfl rfl rfl ?_
        | refine Ev_gtrN rfl rfl ?_
        | refine Ev_neqN rfl rfl ?_
        | refine Ev_len rfl rfl rfl rfl rfl rfl ?_
        | (refine W_cond rfl (fun hc => ?_) (fun hc => ?_) <;> (try dsimp only at hc) <;> try (exfalso; first | omega | exact hc rfl)))
    · have htb : textB s = [] := by unfold textB; rw [if_neg (fun h => by have := h.2; omega)]
      refine Ev_call rfl rfl ((number_runs hF1.ok hw1 (by omega) (by omega)).mono ?_)
      rintro _ S2 - ⟨vb2, hw2, hF2⟩
      have hn2 := hF2.n
      have hl2 := hF2.le
      have hrd : Rd S2 .nils 1 (sbytes []) ([] : List Nat).length := ⟨rfl, rfl, rfl, rfl, rfl, rfl⟩
      have hbl : ([] : List Nat).length ≤ 256 := by simp
      repeat (
        first
          | refine WO_nil ?_
          | refine V_seq ?_
          | refine W_region ?_
          | refine WO_dst rfl rfl (by kernel_rfl) (by kernel_rfl) ?_
          | refine Ev_move rfl ?_)
      refine Ev_call rfl rfl ((wbytes_runs hF2.ok hw2 hrd (by simp only [List.length_append, numL_len, size2]; omega) (by omega) (by omega)).mono ?_)
      rintro _ S3 - ⟨vb3, hw3, hF3⟩
      repeat (
        refine WO_nil ?_)
      refine V_done rfl rfl ?_
      refine ⟨vb3, ?_, ?_⟩
      · unfold textL; rw [htb, ← List.append_assoc]; rw [size2] at hw3; exact hw3
      · have h9 := (hF1.trans hF2).trans hF3
        exact ⟨h9.le, by have := h9.n; omega, h9.ok, h9.same, h9.bk⟩
    · have htb : textB s = (encS s) := by unfold textB; rw [if_pos ⟨hv, by omega⟩]
      refine Ev_call rfl rfl ((number_runs hF1.ok hw1 (by omega) (by omega)).mono ?_)
      rintro _ S2 - ⟨vb2, hw2, hF2⟩
      have hn2 := hF2.n
      have hl2 := hF2.le
      have hrd : Rd S2 vx 1 (sbytes (encS s)) ((encS s) : List Nat).length := hx.rd.keep fun c h => by
        have h5 := hbx c h
        have h6 := hx.lt hfr.ok h
        exact hF2.same c (by omega) (fun h7 => by have := hw.ow.lt hok h7; omega) h6
      have hbl : ((encS s) : List Nat).length ≤ 256 := by omega
      repeat (
        first
          | refine WO_nil ?_
          | refine V_seq ?_
          | refine W_region ?_
          | refine WO_dst rfl rfl (by kernel_rfl) (by kernel_rfl) ?_
          | refine Ev_move rfl ?_)
      refine Ev_call rfl rfl ((wbytes_runs hF2.ok hw2 hrd (by simp only [List.length_append, numL_len, size2]; omega) (by omega) (by omega)).mono ?_)
      rintro _ S3 - ⟨vb3, hw3, hF3⟩
      repeat (
        refine WO_nil ?_)
      refine V_done rfl rfl ?_
      refine ⟨vb3, ?_, ?_⟩
      · unfold textL; rw [htb, ← List.append_assoc]; rw [size2] at hw3; exact hw3
      · have h9 := (hF1.trans hF2).trans hF3
        exact ⟨h9.le, by have := h9.n; omega, h9.ok, h9.same, h9.bk⟩
  · rw [if_neg hv] at hx ⊢
    repeat' (
      first
        | refine W_seq ?_
        | refine WO_nil ?_
        | refine V_seq ?_
        | refine W_region ?_
        | refine W_cond_t rfl ?_
        | refine WO_dst rfl rfl (by kernel_rfl) (by kernel_rfl) ?_
        | refine WO_guard_f rfl rfl rfl rfl rfl rfl (by kernel_rfl) (by kernel_rfl) ?_
        | refine Ev_move rfl ?_
        | refine Ev_assign rfl ?_
        | refine Ev_extract rfl rfl ?_
        | refine Ev_pick_t rfl rfl rfl ?_
        | refine Ev_neqN rfl rfl ?_
        | refine Ev_len rfl rfl rfl rfl rfl rfl ?_)
    have htb : textB s = [] := by unfold textB; rw [if_neg (fun h => hv h.1)]
    refine Ev_call rfl rfl ((number_runs hF1.ok hw1 (by omega) (by omega)).mono ?_)
    rintro _ S2 - ⟨vb2, hw2, hF2⟩
    have hn2 := hF2.n
    have hl2 := hF2.le
    have hrd : Rd S2 .nils 1 (sbytes []) ([] : List Nat).length := ⟨rfl, rfl, rfl, rfl, rfl, rfl⟩
    have hbl : ([] : List Nat).length ≤ 256 := by simp
    repeat (
      first
        | refine WO_nil ?_
        | refine V_seq ?_
        | refine W_region ?_
        | refine WO_dst rfl rfl (by kernel_rfl) (by kernel_rfl) ?_
        | refine Ev_move rfl ?_)
    refine Ev_call rfl rfl ((wbytes_runs hF2.ok hw2 hrd (by simp only [List.length_append, numL_len, size2]; omega) (by omega) (by omega)).mono ?_)
    rintro _ S3 - ⟨vb3, hw3, hF3⟩
    repeat (
      refine WO_nil ?_)
    refine V_done rfl rfl ?_
    refine ⟨vb3, ?_, ?_⟩
    · unfold textL; rw [htb, ← List.append_assoc]; rw [size2] at hw3; exact hw3
    · have h9 := (hF1.trans hF2).trans hF3
      exact ⟨h9.le, by have := h9.n; omega, h9.ok, h9.same, h9.bk⟩
end Go.Proofs.YthhbnnnokmefoaaDoor
/- pool.Write. -/



namespace Go.Proofs.YthhbnnnokmefoaaDoor
open GX
set_option maxHeartbeats 16000000
theorem field_len {s : List Nat} (h : fieldP s) : s.length ≤ 67 := by
  rcases field_iff.1 h with ⟨t, rfl, rfl | ⟨n, rfl, hn⟩⟩ | rfl | ⟨n, rfl, hn⟩
  · decide
  · have := hn.1.2; simp; omega
  · decide
  · have := hn.1.2; simp; omega
theorem right_len {c : CnA} (h : rightP c) : c.cl.length ≤ 67 ∧ c.nm.length ≤ 64 ∧ c.ds.length ≤ 256 := by
  rcases h with ⟨_, h1, h2, h3⟩ | ⟨_, _, h1, h2, h3⟩ | ⟨_, _, h1, _, h2, h3⟩ | ⟨_, h1, _, h2, h3⟩
  · rw [h1, h2, h3]; simp
  · rw [h2, h3]
    rcases h1 with ⟨_, h1⟩ | h1
    · have := field_len h1; simp; omega
    · have := h1.1.2; simp; omega
  · have := h2.1.2; have := h3.1.2; omega
  · have := h2.1.2; have := h3.1.2; have := field_len h1; omega
/-- a constant's bytes -/
noncomputable def constL (c : CnA) : List Nat := numL c.kind 1 ++ (if c.kind = 3 then numL c.n 4 else if c.kind = 9 ∨ c.kind = 10 then textL c.cl ++ (textL c.nm ++ textL c.ds) else textL c.cl)
noncomputable def poolL (cs : List CnA) : List Nat := numL (cs.length : Int) 2 ++ cs.flatMap constL
theorem size1 : sizeN 1 = 1 := by decide
theorem size4 : sizeN 4 = 4 := by decide
theorem textL_len (s : List Nat) : (textL s).length ≤ 258 := by
  have := textB_len s
  unfold textL
  simp only [List.length_append, numL_len]; omega
theorem constL_len (c : CnA) : (constL c).length ≤ 800 := by
  have h1 := textL_len c.cl
  have h2 := textL_len c.nm
  have h3 := textL_len c.ds
  unfold constL
  split
  · simp only [List.length_append, numL_len]; omega
  · split
    · simp only [List.length_append, numL_len]; omega
    · simp only [List.length_append, numL_len]; omega
theorem consts_len : ∀ (cs : List CnA), (cs.flatMap constL).length ≤ 800 * cs.length
  | [] => by simp
  | c :: cs => by
    have := constL_len c
    have := consts_len cs
    simp only [List.flatMap_cons, List.length_append, List.length_cons]; omega
/-- a writer beside constants -/
structure LW (T : St) (p : Nat) (vb v : AV) (l : List Nat) (cs : List CnA) : Prop where
  ok : Sok T
  wr : Wr T p vb l
  cs : Cs T v cs
  vp : blkOf v ≠ some p
  vv : ∀ b, blkOf v = some b → blkOf vb ≠ some b
theorem LW.fr {T U : St} {p k : Nat} {vb v : AV} {l : List Nat} {cs : List CnA} (h : LW T p vb v l cs) (a : Fr T U .nils k) : LW U p vb v l cs :=
  ⟨a.ok, h.wr.fr h.ok a, h.cs.keep (fun c hc => a.same c (by simp [blkOf]) (h.cs.lt h.ok hc)), h.vp, h.vv⟩
theorem LW.wf {T U : St} {p k : Nat} {vb vb' v : AV} {l l' : List Nat} {cs : List CnA} (h : LW T p vb v l cs) (a : WrF T U p vb vb' k) (b : Wr U p vb' l') : LW U p vb' v l' cs :=
  ⟨a.ok, b, h.cs.keep (fun c hc => a.same c (fun e => h.vp (by rw [hc, e])) (fun e => h.vv c hc e) (h.cs.lt h.ok hc)), h.vp, fun b hb e => by
    rcases a.bk b e with g | g
    · exact h.vv b hb g
    · have := h.cs.lt h.ok hb; omega⟩
theorem pwrite_runs {S : St} {p : Nat} {vb v : AV} {l : List Nat} {cs : List CnA} (h : LW S p vb v l cs) (hgood : ∀ c ∈ cs, c.Good) (hright : ∀ c ∈ cs, rightP c) (hlen : cs.length ≤ 256) (hll : l.length ≤ 10000000) (hn : S.n ≤ 800000000) :
    Runs X1 12 [.ptr p 0, v] S fun r S' => r = .int .i64 0 ∧ ∃ vb', LW S' p vb' v (l ++ poolL cs) cs ∧ WrF S S' p vb vb' 3000000 := by
  refine Runs_fn (m := 60) (by kernel_rfl) Tryd.func12 rfl (by kernel_rfl) (by kernel_rfl) ?_
  repeat' (
    first
      | refine W_seq ?_
      | refine WO_nil ?_
      | refine V_seq ?_
      | refine W_region ?_
      | refine W_block ?_
      | refine W_cond_f rfl ?_
      | refine WO_dst rfl rfl (by kernel_rfl) (by kernel_rfl) ?_
      | refine Ev_len rfl rfl rfl rfl rfl h.cs.len ?_
      | refine Ev_move rfl ?_
      | refine Ev_assign rfl ?_
      | refine Ev_gtrN rfl rfl ?_
      | refine Ev_ptr_eql rfl rfl rfl rfl ?_
      | (refine W_cond rfl (fun hc => ?_) (fun hc => ?_) <;> (try dsimp only at hc) <;> try (exfalso; first | omega | exact hc rfl)))
  have hnr : decide (¬ ∀ c ∈ cs, rightP c) = false := decide_eq_false (fun g => g hright)
  refine Ev_call rfl rfl ((contains_runs h.ok h.cs hgood (by omega) (by omega)).mono ?_)
  rintro _ T0 - ⟨rfl, hF0⟩
  rw [hnr]
  have h0 := h.fr hF0
  have gn0 := hF0.n
  have gl0 := hF0.le
  have hW0 := (WrF.refl (p := p) (vb := vb) h.ok).fr (p := p) (vb := vb) (vb' := vb) hF0 (fun c h => by cases h)
  repeat' (
    first
      | refine W_seq ?_
      | refine WO_nil ?_
      | refine V_seq ?_
      | refine W_region ?_
      | refine W_skip ?_
      | refine V_block ?_
      | refine W_cond_f rfl ?_
      | refine WO_dst rfl rfl (by kernel_rfl) (by kernel_rfl) ?_
      | refine Ev_len rfl rfl rfl rfl rfl h0.cs.len ?_
      | refine Ev_move rfl ?_
      | refine Ev_assign rfl ?_)
  refine Ev_call rfl rfl ((number_runs h0.ok h0.wr (by omega) (by omega)).mono ?_)
  rintro _ T1 - ⟨vb1, hw1, hF1⟩
  rw [size2] at hw1
  have h1 := h0.wf hF1 hw1
  have hW1 := hW0.trans hF1
  have gn1 := hF1.n
  have gl1 := hF1.le
  repeat' (
    first
      | refine W_seq ?_
      | refine WO_nil ?_
      | refine V_seq ?_
      | refine W_region ?_
      | refine W_block ?_
      | refine WO_dst rfl rfl (by kernel_rfl) (by kernel_rfl) ?_
      | refine Ev_len rfl rfl rfl rfl rfl h1.cs.len ?_
      | refine Ev_move rfl ?_)
  refine W_inv (fun a : Nat × AV => [(23, .int .i64 ((a.1 : Nat) : Int)), (22, .int .i64 ((cs.length : Nat) : Int)), (21, v), (0, .ptr p 0)]) (fun a T => LW T p a.2 v (l ++ numL (cs.length : Int) 2 ++ (cs.take a.1).flatMap constL) cs ∧ WrF S T p vb a.2 (8000 + 2000 * a.1) ∧ a.1 ≤ cs.length) (fun a => cs.length - a.1) ?_ (0, vb1) ⟨by simpa using h1, ⟨hW1.le, by have := hW1.n; dsimp only; omega, hW1.ok, hW1.same, hW1.bk⟩, Nat.zero_le _⟩ ⟨rfl, rfl, rfl, rfl, trivial⟩
  rintro ⟨i, vb2⟩ T ⟨h2, hW2, hi⟩ back
  dsimp only at h2 hW2 hi back
  have gn2 := hW2.n
  have gl2 := hW2.le
  have hll2 : (l ++ numL (cs.length : Int) 2 ++ (cs.take i).flatMap constL).length ≤ 10300000 := by
    have := consts_len (cs.take i)
    have h3 : (cs.take i).length ≤ 256 := by rw [List.length_take]; omega
    simp only [List.length_append, numL_len]; omega
  repeat' (
    first
      | refine W_seq ?_
      | refine WO_nil ?_
      | refine V_seq ?_
      | refine W_region ?_
      | refine W_block ?_
      | refine W_skip ?_
      | refine W_ret ?_
      | refine W_exit ?_
      | refine V_block_x rfl ?_
      | refine V_seq_x ?_
      | refine V_loop_x ?_
      | refine WO_dst rfl rfl (by kernel_rfl) (by kernel_rfl) ?_
      | refine Ev_assign rfl ?_
      | refine Ev_lssN rfl rfl ?_
      | (refine W_cond rfl (fun hc => ?_) (fun hc => ?_) <;> (try dsimp only at hc) <;> try (exfalso; first | omega | exact hc rfl)))
  · have hlt : i < cs.length := by assumption
    obtain ⟨c, hc⟩ : ∃ c, c = cs[i] := ⟨_, rfl⟩
    have hcm : c ∈ cs := by rw [hc]; exact List.getElem_mem _
    have hcg := hgood c hcm
    have hcr := hright c hcm
    have hcl := right_len hcr
    have hcell := cellsC_get cs i hlt
    rw [← hc] at hcell
    have hnext : (cs.take (i + 1)).flatMap constL = (cs.take i).flatMap constL ++ constL c := by
      rw [List.take_succ_eq_append_getElem hlt, List.flatMap_append, ← hc]; simp
    obtain ⟨L, hL⟩ : ∃ L, L = l ++ numL (cs.length : Int) 2 ++ (cs.take i).flatMap constL := ⟨_, rfl⟩
    rw [← hL] at h2 hll2
    refine Ev_indexAddr_rd rfl rfl rfl rfl rfl h2.cs hlt ?_
    intro q hq
    repeat (
      refine WO_dst rfl rfl (by kernel_rfl) (by kernel_rfl) ?_)
    refine Ev_load_pt_agg rfl rfl rfl hq (by rw [cellsC_len]; dsimp only; omega) hcell (CnA.veqs c) ?_
    repeat (
      refine WO_dst rfl rfl (by kernel_rfl) (by kernel_rfl) ?_)
    refine Ev_alloc_ rfl h2.ok (by omega) ?_
    intro T3 gn3 gok3 gq3 gf3
    repeat (
      refine WO_no rfl rfl ?_)
    refine Ev_store rfl rfl rfl rfl (CnA.ones c) gq3 (by simp [CnA.cells, AV.cells]) (by omega) ?_
    intro T4 gn4 gq4 gf4
    have hF4 : Fr T T4 .nils 1 := ⟨by omega, by omega, sok_upd gok3 (by omega) gn4 gq4 gf4, fun c _ h => by rw [gf4 c (by omega), gf3 c h]⟩
    have h4 := h2.fr hF4
    have hW4 := hW2.fr hF4 (fun c h => by cases h)
    have hb4 : T4.h.get T.n = some (.cells 24 c.cells false) := gq4
    have hpT := h2.ok _ _ h2.wr.at_
    have hvT : ∀ {U : St} {l' : List Nat} {vb' : AV}, LW U p vb' v l' cs → (∀ c, blkOf vb' = some c → blkOf vb2 = some c ∨ T.n < c) → blkOf vb' ≠ some T.n := fun hU hb e => by
      rcases hb _ e with g | g
      · have := h2.wr.ow.lt h2.ok g; omega
      · omega
    have hk1 := hcg.k1
    repeat (
      first
        | refine W_seq ?_
        | refine WO_nil ?_
        | refine V_seq ?_
        | refine W_region ?_
        | refine WO_dst rfl rfl (by kernel_rfl) (by kernel_rfl) ?_
        | refine Ev_load rfl rfl rfl hb4 rfl (veq_int _ _) ?_
        | refine Ev_move rfl ?_
        | refine Ev_fieldAddr rfl rfl rfl rfl rfl rfl ?_)
    refine Ev_call rfl rfl ((number_runs h4.ok h4.wr (by omega) (by omega)).mono ?_)
    rintro _ T5 - ⟨vb5, hw5, hF5⟩
    rw [size1] at hw5
    have h5 := h4.wf hF5 hw5
    have gn5 := hF5.n
    have gl5 := hF5.le
    have hb5 : T5.h.get T.n = some (.cells 24 c.cells false) := by rw [hF5.same T.n (by omega) (fun g => by have := h2.wr.ow.lt h2.ok g; omega) (by omega)]; exact hb4
    have hW5 := hW4.trans hF5
    have ht1 := textL_len c.cl
    have ht2 := textL_len c.nm
    have ht3 := textL_len c.ds
    repeat' (
      first
        | refine W_seq ?_
        | refine WO_nil ?_
        | refine V_seq ?_
        | refine W_region ?_
        | refine W_block ?_
        | refine W_skip ?_
        | refine WO_dst rfl rfl (by kernel_rfl) (by kernel_rfl) ?_
        | refine Ev_load rfl rfl rfl hb5 rfl (veq_int _ _) ?_
        | refine Ev_move rfl ?_
        | refine Ev_assign rfl ?_
        | refine Ev_eql rfl rfl ?_
        | refine Ev_fieldAddr rfl rfl rfl rfl rfl rfl ?_
        | (refine W_cond rfl (fun hc => ?_) (fun hc => ?_) <;> (try dsimp only at hc) <;> try (exfalso; first | omega | exact hc rfl)))
    · have hn1 := hcg.n1
      have hn2 := hcg.n2
      refine Ev_conv (k' := .i64) rfl rfl rfl rfl rfl (by simp only [inR]; omega) ?_
      repeat (
        refine WO_dst rfl rfl (by kernel_rfl) (by kernel_rfl) ?_)
      refine Ev_call rfl rfl ((number_runs h5.ok h5.wr (by simp only [List.length_append, numL_len]; omega) (by omega)).mono ?_)
      rintro _ T6 - ⟨vb6, hw6, hF6⟩
      rw [size4] at hw6
      have h6 := h5.wf hF6 hw6
      have hW6 := hW5.trans hF6
      have e : constL c = numL c.kind 1 ++ numL c.n 4 := by unfold constL; rw [if_pos (by assumption)]
      repeat' (
        first
          | refine WO_nil ?_
          | refine V_seq ?_
          | refine W_region ?_
          | refine V_block ?_
          | refine WO_dst rfl rfl (by kernel_rfl) (by kernel_rfl) ?_
          | refine Ev_move rfl ?_
          | refine Ev_addN rfl rfl (by simp only [lim]; omega) ?_)
      refine back (i + 1, vb6) T6 _ (by dsimp only; omega) ⟨?_, ⟨hW6.le, by have := hW6.n; dsimp only; omega, hW6.ok, hW6.same, hW6.bk⟩, by dsimp only; omega⟩ ⟨rfl, rfl, rfl, rfl, trivial⟩
      dsimp only
      rw [hnext, e, ← List.append_assoc, ← hL, ← List.append_assoc]
      exact h6
    · have e : constL c = numL c.kind 1 ++ (textL c.cl ++ (textL c.nm ++ textL c.ds)) := by unfold constL; rw [if_neg (by assumption), if_pos (by omega)]
      refine Ev_load rfl rfl rfl hb5 rfl (veq_str _) ?_
      repeat (
        refine WO_dst rfl rfl (by kernel_rfl) (by kernel_rfl) ?_)
      refine Ev_call rfl rfl ((wtext_runs h5.ok h5.wr (by omega) (by simp only [List.length_append, numL_len]; omega) (by omega)).mono ?_)
      rintro _ T6 - ⟨vb6, hw6, hF6⟩
      have h6 := h5.wf hF6 hw6
      have gn6 := hF6.n
      have gl6 := hF6.le
      have hW6 := hW5.trans hF6
      have hb6 : T6.h.get T.n = some (.cells 24 c.cells false) := by rw [hF6.same T.n (by omega) (fun g => by rcases hF5.bk _ g with g | g; have := h2.wr.ow.lt h2.ok g; omega; omega) (by omega)]; exact hb5
      repeat (
        first
          | refine W_seq ?_
          | refine WO_nil ?_
          | refine V_seq ?_
          | refine W_region ?_
          | refine WO_dst rfl rfl (by kernel_rfl) (by kernel_rfl) ?_
          | refine Ev_load rfl rfl rfl hb6 rfl (veq_str _) ?_
          | refine Ev_move rfl ?_
          | refine Ev_fieldAddr rfl rfl rfl rfl rfl rfl ?_)
      refine Ev_call rfl rfl ((wtext_runs h6.ok h6.wr (by omega) (by simp only [List.length_append, numL_len]; omega) (by omega)).mono ?_)
      rintro _ T7 - ⟨vb7, hw7, hF7⟩
      have h7 := h6.wf hF7 hw7
      have gn7 := hF7.n
      have gl7 := hF7.le
      have hW7 := hW6.trans hF7
      have hb7 : T7.h.get T.n = some (.cells 24 c.cells false) := by rw [hF7.same T.n (by omega) (fun g => by rcases hF6.bk _ g with g | g; (rcases hF5.bk _ g with g | g; have := h2.wr.ow.lt h2.ok g; omega; omega); omega) (by omega)]; exact hb6
      repeat (
        first
          | refine WO_nil ?_
          | refine V_seq ?_
          | refine W_region ?_
          | refine WO_dst rfl rfl (by kernel_rfl) (by kernel_rfl) ?_
          | refine Ev_load rfl rfl rfl hb7 rfl (veq_str _) ?_
          | refine Ev_move rfl ?_
          | refine Ev_fieldAddr rfl rfl rfl rfl rfl rfl ?_)
      refine Ev_call rfl rfl ((wtext_runs h7.ok h7.wr (by omega) (by simp only [List.length_append, numL_len]; omega) (by omega)).mono ?_)
      rintro _ T8 - ⟨vb8, hw8, hF8⟩
      have h8 := h7.wf hF8 hw8
      have hW8 := hW7.trans hF8
      repeat' (
        first
          | refine WO_nil ?_
          | refine V_seq ?_
          | refine W_region ?_
          | refine V_block ?_
          | refine WO_dst rfl rfl (by kernel_rfl) (by kernel_rfl) ?_
          | refine Ev_move rfl ?_
          | refine Ev_addN rfl rfl (by simp only [lim]; omega) ?_)
      refine back (i + 1, vb8) T8 _ (by dsimp only; omega) ⟨?_, ⟨hW8.le, by have := hW8.n; dsimp only; omega, hW8.ok, hW8.same, hW8.bk⟩, by dsimp only; omega⟩ ⟨rfl, rfl, rfl, rfl, trivial⟩
      dsimp only
      rw [hnext, e, ← List.append_assoc, ← hL, ← List.append_assoc, ← List.append_assoc, ← List.append_assoc]
      exact h8
    · have e : constL c = numL c.kind 1 ++ (textL c.cl ++ (textL c.nm ++ textL c.ds)) := by unfold constL; rw [if_neg (by assumption), if_pos (by omega)]
      refine Ev_load rfl rfl rfl hb5 rfl (veq_str _) ?_
      repeat (
        refine WO_dst rfl rfl (by kernel_rfl) (by kernel_rfl) ?_)
      refine Ev_call rfl rfl ((wtext_runs h5.ok h5.wr (by omega) (by simp only [List.length_append, numL_len]; omega) (by omega)).mono ?_)
      rintro _ T6 - ⟨vb6, hw6, hF6⟩
      have h6 := h5.wf hF6 hw6
      have gn6 := hF6.n
      have gl6 := hF6.le
      have hW6 := hW5.trans hF6
      have hb6 : T6.h.get T.n = some (.cells 24 c.cells false) := by rw [hF6.same T.n (by omega) (fun g => by rcases hF5.bk _ g with g | g; have := h2.wr.ow.lt h2.ok g; omega; omega) (by omega)]; exact hb5
      repeat (
        first
          | refine W_seq ?_
          | refine WO_nil ?_
          | refine V_seq ?_
          | refine W_region ?_
          | refine WO_dst rfl rfl (by kernel_rfl) (by kernel_rfl) ?_
          | refine Ev_load rfl rfl rfl hb6 rfl (veq_str _) ?_
          | refine Ev_move rfl ?_
          | refine Ev_fieldAddr rfl rfl rfl rfl rfl rfl ?_)
      refine Ev_call rfl rfl ((wtext_runs h6.ok h6.wr (by omega) (by simp only [List.length_append, numL_len]; omega) (by omega)).mono ?_)
      rintro _ T7 - ⟨vb7, hw7, hF7⟩
      have h7 := h6.wf hF7 hw7
      have gn7 := hF7.n
      have gl7 := hF7.le
      have hW7 := hW6.trans hF7
      have hb7 : T7.h.get T.n = some (.cells 24 c.cells false) := by rw [hF7.same T.n (by omega) (fun g => by rcases hF6.bk _ g with g | g; (rcases hF5.bk _ g with g | g; have := h2.wr.ow.lt h2.ok g; omega; omega); omega) (by omega)]; exact hb6
      repeat (
        first
          | refine WO_nil ?_
          | refine V_seq ?_
          | refine W_region ?_
          | refine WO_dst rfl rfl (by kernel_rfl) (by kernel_rfl) ?_
          | refine Ev_load rfl rfl rfl hb7 rfl (veq_str _) ?_
          | refine Ev_move rfl ?_
          | refine Ev_fieldAddr rfl rfl rfl rfl rfl rfl ?_)
      refine Ev_call rfl rfl ((wtext_runs h7.ok h7.wr (by omega) (by simp only [List.length_append, numL_len]; omega) (by omega)).mono ?_)
      rintro _ T8 - ⟨vb8, hw8, hF8⟩
      have h8 := h7.wf hF8 hw8
      have hW8 := hW7.trans hF8
      repeat' (
        first
          | refine WO_nil ?_
          | refine V_seq ?_
          | refine W_region ?_
          | refine V_block ?_
          | refine WO_dst rfl rfl (by kernel_rfl) (by kernel_rfl) ?_
          | refine Ev_move rfl ?_
          | refine Ev_addN rfl rfl (by simp only [lim]; omega) ?_)
      refine back (i + 1, vb8) T8 _ (by dsimp only; omega) ⟨?_, ⟨hW8.le, by have := hW8.n; dsimp only; omega, hW8.ok, hW8.same, hW8.bk⟩, by dsimp only; omega⟩ ⟨rfl, rfl, rfl, rfl, trivial⟩
      dsimp only
      rw [hnext, e, ← List.append_assoc, ← hL, ← List.append_assoc, ← List.append_assoc, ← List.append_assoc]
      exact h8
    · have e : constL c = numL c.kind 1 ++ textL c.cl := by unfold constL; rw [if_neg (by assumption), if_neg (by omega)]
      refine Ev_load rfl rfl rfl hb5 rfl (veq_str _) ?_
      repeat (
        refine WO_dst rfl rfl (by kernel_rfl) (by kernel_rfl) ?_)
      refine Ev_call rfl rfl ((wtext_runs h5.ok h5.wr (by omega) (by simp only [List.length_append, numL_len]; omega) (by omega)).mono ?_)
      rintro _ T6 - ⟨vb6, hw6, hF6⟩
      have h6 := h5.wf hF6 hw6
      have hW6 := hW5.trans hF6
      repeat' (
        first
          | refine WO_nil ?_
          | refine V_seq ?_
          | refine W_region ?_
          | refine V_block ?_
          | refine WO_dst rfl rfl (by kernel_rfl) (by kernel_rfl) ?_
          | refine Ev_move rfl ?_
          | refine Ev_addN rfl rfl (by simp only [lim]; omega) ?_)
      refine back (i + 1, vb6) T6 _ (by dsimp only; omega) ⟨?_, ⟨hW6.le, by have := hW6.n; dsimp only; omega, hW6.ok, hW6.same, hW6.bk⟩, by dsimp only; omega⟩ ⟨rfl, rfl, rfl, rfl, trivial⟩
      dsimp only
      rw [hnext, e, ← List.append_assoc, ← hL, ← List.append_assoc]
      exact h6
  · have hi2 : i = cs.length := by omega
    have htk : cs.take i = cs := List.take_of_length_le (by omega)
    rw [htk] at h2
    refine V_done rfl rfl ⟨rfl, vb2, ?_, ⟨hW2.le, by omega, hW2.ok, hW2.same, hW2.bk⟩⟩
    unfold poolL
    rw [← List.append_assoc]; exact h2
end Go.Proofs.YthhbnnnokmefoaaDoor
/- mutf.Reader: what its functions do. -/

namespace Go.Proofs.YthhbnnnokmefoaaDoor
open GX
set_option maxHeartbeats 8000000
section
variable {X : X} {l : L} {S : St} {R : AV → St → Prop} {x y : Operand}
open Go
/-- a store of one cell -/
theorem Ev_store1 {t b o : Nat} {i : TI} {ty : Nat} {cs : List AV} {sp : Bool} {v : AV} (hx : od l x = some (.ptr b o)) (hy : od l y = some v) (hc : v.cells = [v]) (h1 : v.one = true) (hi : X.ti t = some i) (hz : Nat.beq 1 i.size = true) (hb : S.h.get b = some (.cells ty cs sp)) (hle : o + 1 ≤ cs.length) (hn : b < 1000000000)
    (hR : ∀ S', S'.n = S.n → S'.h.get b = some (.cells ty (lput cs o [v]) sp) → (∀ c, c ≠ b → S'.h.get c = S.h.get c) → R (.tup []) S') : Ev X l S (.store t x y) R := by
  refine Ev_store hx hy hi (by rw [hc]; exact hz) (by rw [hc]; simp [h1]) hb (by rw [hc]; exact hle) hn ?_
  rw [hc]; exact hR
end
structure RdS where
  pos : Nat
  err : Int
  at_ : Int
/-- a reader -/
structure Rr (S : St) (p : Nat) (vb : AV) (b : List Nat) (r : RdS) : Prop where
  cell : S.h.get p = some (.cells 89 [vb, .int .i64 ((r.pos : Nat) : Int), .int .i64 r.err, .int .i64 r.at_] false)
  rd : Rd S vb 1 (sbytes b) b.length
  ne : blkOf vb ≠ some p
  le : r.pos ≤ b.length
/-- only one block is written to -/
structure FrP (S S' : St) (p : Nat) : Prop where
  n : S'.n = S.n
  ok : Sok S'
  same : ∀ c, c ≠ p → S'.h.get c = S.h.get c
theorem FrP.refl {S : St} {p : Nat} (h : Sok S) : FrP S S p := ⟨rfl, h, fun _ _ => rfl⟩
theorem FrP.trans {S T U : St} {p : Nat} (a : FrP S T p) (b : FrP T U p) : FrP S U p := ⟨b.n.trans a.n, b.ok, fun c h => (b.same c h).trans (a.same c h)⟩
def RdS.refuse (r : RdS) (c a : Int) : RdS := if r.err = 0 ∧ c ≠ 0 then { r with err := c, at_ := a } else r
theorem refuse_runs {S : St} {p : Nat} {vb : AV} {b : List Nat} {r : RdS} {c a : Int} (hok : Sok S) (h : Rr S p vb b r) (hn : S.n ≤ 1000000000) :
    Runs X1 70 [.ptr p 0, .int .i64 c, .int .i64 a] S fun _ S' => Rr S' p vb b (r.refuse c a) ∧ FrP S S' p := by
  have hp : p < S.n := hok _ _ h.cell
  refine Runs_fn (m := 23) (by kernel_rfl) Tryd.func70 rfl (by kernel_rfl) (by kernel_rfl) ?_
  repeat' (
    first
      | refine W_seq ?_
      | refine WO_nil ?_
      | refine V_seq ?_
      | refine W_region ?_
      | refine W_skip ?_
      | refine W_cond_f rfl ?_
      | refine WO_dst rfl rfl (by kernel_rfl) (by kernel_rfl) ?_
      | refine WO_no rfl rfl ?_
      | refine WO_guard_t rfl rfl rfl rfl rfl (by kernel_rfl) (by kernel_rfl) ?_
      | refine WO_guard_f rfl rfl rfl rfl rfl rfl (by kernel_rfl) (by kernel_rfl) ?_
      | refine Ev_load rfl rfl rfl h.cell rfl (veq_int _ _) ?_
      | refine Ev_move rfl ?_
      | refine Ev_pick_t rfl rfl rfl ?_
      | refine Ev_pick_f rfl rfl rfl ?_
      | refine Ev_eql rfl rfl ?_
      | refine Ev_neq rfl rfl ?_
      | refine Ev_nilCheck rfl ?_
      | refine Ev_fieldAddr rfl rfl rfl rfl rfl rfl ?_
      | (refine WO_guard_dt rfl rfl rfl rfl rfl (by kernel_rfl) (by kernel_rfl) (fun hg => ?_) (fun hg => ?_) <;> (try dsimp only at hg) <;> try (exfalso; first | omega | exact hg rfl))
      | (refine W_cond rfl (fun hc => ?_) (fun hc => ?_) <;> (try dsimp only at hc) <;> try (exfalso; first | omega | exact hc rfl)))
  · refine Ev_store1 rfl rfl rfl rfl rfl rfl h.cell (by simp) (by omega) ?_
    intro S1 hn1 hq1 hf1
    repeat (
      first
        | refine WO_dst rfl rfl (by kernel_rfl) (by kernel_rfl) ?_
        | refine WO_no rfl rfl ?_
        | refine Ev_nilCheck rfl ?_
        | refine Ev_fieldAddr rfl rfl rfl rfl rfl rfl ?_)
    refine Ev_store1 rfl rfl rfl rfl rfl rfl hq1 (by simp [lput]) (by omega) ?_
    intro S2 hn2 hq2 hf2
    repeat (
      refine WO_nil ?_)
    refine V_done rfl rfl ?_
    have hok1 := Sok.upd hok hp hn1 hq1 hf1
    have hr : r.refuse c a = { r with err := c, at_ := a } := by unfold RdS.refuse; rw [if_pos ⟨hg, hc⟩]
    refine ⟨⟨by rw [hr]; exact hq2, h.rd.keep (fun d hd => ?_), h.ne, by rw [hr]; exact h.le⟩, ⟨by omega, Sok.upd hok1 (by omega) hn2 hq2 hf2, fun d hd => by rw [hf2 d hd, hf1 d hd]⟩⟩
    have hdp : d ≠ p := fun e => h.ne (by rw [hd, e])
    rw [hf2 d hdp, hf1 d hdp]
  all_goals
    refine V_done rfl rfl ?_
    have hr : r.refuse c a = r := by unfold RdS.refuse; rw [if_neg (by first | exact fun e => hc e.2 | exact fun e => hg e.1 | (intro e; simp_all))]
    rw [hr]; exact ⟨h, FrP.refl hok⟩
/-- what is taken, and the reader behind it -/
def RdS.take (r : RdS) (b : List Nat) (n : Nat) : List Nat × RdS :=
  if r.err ≠ 0 then ([], r) else if b.length - r.pos < n then ([], r.refuse 10 (b.length : Int)) else ((b.drop r.pos).take n, { r with pos := r.pos + n })
theorem take_runs {S : St} {p : Nat} {vb : AV} {b : List Nat} {r : RdS} {n : Nat} (hok : Sok S) (h : Rr S p vb b r) (hn : S.n ≤ 1000000000) (hb : b.length ≤ 1000000000) (hm : n < 9223372036854775808) :
    Runs X1 69 [.ptr p 0, .int .i64 ((n : Nat) : Int)] S fun v S' => Rr S' p vb b (r.take b n).2 ∧ FrP S S' p ∧ Rd S' v 1 (sbytes (r.take b n).1) (r.take b n).1.length ∧ ∀ c, blkOf v = some c → blkOf vb = some c := by
  have hp : p < S.n := hok _ _ h.cell
  have hle := h.le
  refine Runs_fn (m := 54) (by kernel_rfl) Tryd.func69 rfl (by kernel_rfl) (by kernel_rfl) ?_
  repeat' (
    first
      | refine W_seq ?_
      | refine WO_nil ?_
      | refine V_seq ?_
      | refine W_region ?_
      | refine W_drawn (by kernel_rfl) ?_
      | refine W_skip ?_
      | refine W_ret ?_
      | refine V_ret ?_
      | refine WO_dst rfl rfl (by kernel_rfl) (by kernel_rfl) ?_
      | refine Ev_load rfl rfl rfl h.cell rfl (veq_int _ _) ?_
      | refine Ev_load rfl rfl rfl h.cell rfl h.rd.self ?_
      | refine Ev_len rfl rfl rfl rfl rfl h.rd.len ?_
      | refine Ev_move rfl ?_
      | refine Ev_assign rfl ?_
      | refine Ev_gtrN rfl rfl ?_
      | refine Ev_neq rfl rfl ?_
      | refine Ev_nilCheck rfl ?_
      | refine Ev_fieldAddr rfl rfl rfl rfl rfl rfl ?_
      | refine Ev_addN rfl rfl (by simp only [lim]; omega) ?_
      | refine Ev_subN rfl rfl (by simp only [lim]; omega) (by first | omega | (dsimp only; done) | (dsimp only; omega)) ?_
      | (refine W_cond rfl (fun hc => ?_) (fun hc => ?_) <;> (try dsimp only at hc) <;> try (exfalso; first | omega | exact hc rfl)))
  · refine V_done rfl rfl ?_
    have e : r.take b n = ([], r) := by unfold RdS.take; rw [if_pos hc]
    rw [e]
    exact ⟨h, FrP.refl hok, ⟨rfl, rfl, rfl, rfl, rfl, rfl⟩, fun c hc => by cases hc⟩
  · refine Ev_call rfl rfl ((refuse_runs hok h hn).mono ?_)
    rintro _ S1 - ⟨h1, hF1⟩
    repeat (
      first
        | refine W_seq ?_
        | refine WO_nil ?_
        | refine V_seq ?_
        | refine W_region ?_
        | refine W_ret ?_
        | refine V_ret ?_
        | refine WO_dst rfl rfl (by kernel_rfl) (by kernel_rfl) ?_
        | refine Ev_assign rfl ?_)
    refine V_done rfl rfl ?_
    rename_i hc0 _
    have e : r.take b n = ([], r.refuse 10 (b.length : Int)) := by unfold RdS.take; rw [if_neg hc0, if_pos hc]
    rw [e]
    exact ⟨h1, hF1, ⟨rfl, rfl, rfl, rfl, rfl, rfl⟩, fun c hc => by cases hc⟩
  · rename_i hc0
    refine Ev_slice_lh rfl rfl rfl rfl rfl rfl h.rd (by omega) (by omega) ?_
    intro v' hv' hbv
    have e : r.take b n = ((b.drop r.pos).take n, { r with pos := r.pos + n }) := by unfold RdS.take; rw [if_neg hc0, if_neg hc]
    have hv2 : Rd S v' 1 (sbytes ((b.drop r.pos).take n)) ((b.drop r.pos).take n).length := by
      refine hv'.eq ?_ (by simp only [List.length_take, List.length_drop]; omega)
      unfold sbytes
      simp only [Nat.mul_one, List.map_take, List.map_drop, List.drop_take]
      congr 1
      omega
    repeat (
      first
        | refine W_seq ?_
        | refine WO_nil ?_
        | refine V_seq ?_
        | refine W_region ?_
        | refine WO_dst rfl rfl (by kernel_rfl) (by kernel_rfl) ?_
        | refine WO_no rfl rfl ?_
        | refine Ev_load rfl rfl rfl h.cell rfl (veq_int _ _) ?_
        | refine Ev_move rfl ?_
        | refine Ev_assign rfl ?_
        | refine Ev_nilCheck rfl ?_
        | refine Ev_fieldAddr rfl rfl rfl rfl rfl rfl ?_
        | refine Ev_addN rfl rfl (by simp only [lim]; omega) ?_)
    refine Ev_store1 rfl rfl rfl rfl rfl rfl h.cell (by simp) (by omega) ?_
    intro S1 hn1 hq1 hf1
    repeat (
      first
        | refine W_seq ?_
        | refine WO_nil ?_
        | refine V_seq ?_
        | refine W_region ?_
        | refine W_ret ?_
        | refine WO_dst rfl rfl (by kernel_rfl) (by kernel_rfl) ?_
        | refine Ev_move rfl ?_
        | refine Ev_assign rfl ?_)
    refine V_done rfl rfl ?_
    rw [e]
    have hk : ∀ d, blkOf vb = some d → S1.h.get d = S.h.get d := fun d hd => hf1 d (fun e2 => h.ne (by rw [hd, e2]))
    exact ⟨⟨hq1, h.rd.keep hk, h.ne, by dsimp only; omega⟩, ⟨hn1, Sok.upd hok hp hn1 hq1 hf1, hf1⟩, hv2.keep (fun d hd => hk d (hbv d hd)), hbv⟩
end Go.Proofs.YthhbnnnokmefoaaDoor
/- mutf.Reader.Number and the like. -/

namespace Go.Proofs.YthhbnnnokmefoaaDoor
open GX
set_option maxHeartbeats 8000000
/-- the number that bytes stand for -/
def numOf (l : List Nat) : Nat := l.foldl (fun a x => a * 256 + x) 0
theorem numOf_snoc (l : List Nat) (x : Nat) : numOf (l ++ [x]) = numOf l * 256 + x := by unfold numOf; rw [List.foldl_append]; rfl
theorem numOf_take {l : List Nat} {i : Nat} (h : i < l.length) : numOf (l.take (i + 1)) = numOf (l.take i) * 256 + l.getD i 0 := by
  rw [List.take_add_one, List.getElem?_eq_getElem h]
  rw [show (some l[i]).toList = [l[i]] from rfl, numOf_snoc]
  congr 1
  rw [List.getD_eq_getElem?_getD, List.getElem?_eq_getElem h]; rfl
theorem numOf_lt : ∀ (n : Nat) (l : List Nat), l.length = n → (∀ b ∈ l, b < 256) → numOf l < 256 ^ n := by
  intro n
  induction n with
  | zero => intro l hl _; cases List.eq_nil_of_length_eq_zero hl; decide
  | succ n ih =>
    intro l hl hb
    have hne : l ≠ [] := by intro h; rw [h] at hl; cases hl
    have e := List.dropLast_concat_getLast hne
    have h1 := ih l.dropLast (by rw [List.length_dropLast]; omega) (fun b h => hb b (List.dropLast_subset l h))
    have h2 := hb _ (List.getLast_mem hne)
    rw [← e, numOf_snoc, Nat.pow_succ]
    omega
def numV (l : List Nat) : Int := wrp .i64 ((numOf l : Nat) : Int)
theorem take_len (r : RdS) (b : List Nat) (n : Nat) : (r.take b n).1.length ≤ n := by unfold RdS.take; split; simp; split; simp; simp [List.length_take]; omega
theorem take_lt {r : RdS} {b : List Nat} {n : Nat} (h : ∀ x ∈ b, x < 256) : ∀ x ∈ (r.take b n).1, x < 256 := by
  unfold RdS.take
  split
  · simp
  · split
    · simp
    · exact fun x hx => h x (List.mem_of_mem_drop (List.mem_of_mem_take hx))
theorem rnum_runs {S : St} {p : Nat} {vb : AV} {b : List Nat} {r : RdS} {n : Int} (hok : Sok S) (h : Rr S p vb b r) (hn : S.n ≤ 1000000000) (hb : b.length ≤ 1000000000) (hlt : ∀ x ∈ b, x < 256) :
    Runs X1 52 [.ptr p 0, .int .i64 n] S fun v S' => v = .int .i64 (numV (r.take b (sizeN n)).1) ∧ Rr S' p vb b (r.take b (sizeN n)).2 ∧ FrP S S' p := by
  have hsz := sizeN_le n
  refine Runs_fn (m := 25) (by kernel_rfl) Tryd.func52 rfl (by kernel_rfl) (by kernel_rfl) ?_
  repeat (
    first
      | refine W_seq ?_
      | refine WO_nil ?_
      | refine V_seq ?_
      | refine W_region ?_
      | refine WO_dst rfl rfl (by kernel_rfl) (by kernel_rfl) ?_
      | refine Ev_move rfl ?_
      | refine Ev_assign rfl ?_)
  refine Ev_call rfl rfl ((size_runs n S).mono ?_)
  rintro _ _ - ⟨rfl, rfl⟩
  repeat (
    refine WO_dst rfl rfl (by kernel_rfl) (by kernel_rfl) ?_)
  refine Ev_call rfl rfl ((take_runs hok h hn hb (by omega)).mono ?_)
  rintro v S1 - ⟨h1, hF1, hv, hbv⟩
  obtain ⟨t, ht⟩ : ∃ t, t = (r.take b (sizeN n)).1 := ⟨_, rfl⟩
  rw [← ht] at hv ⊢
  have htl : t.length ≤ sizeN n := by rw [ht]; exact take_len _ _ _
  have htb : ∀ x ∈ t, x < 256 := by rw [ht]; exact take_lt hlt
  repeat (
    first
      | refine WO_nil ?_
      | refine V_seq ?_
      | refine W_block ?_
      | refine WO_dst rfl rfl (by kernel_rfl) (by kernel_rfl) ?_
      | refine Ev_len rfl rfl rfl rfl rfl hv.len ?_
      | refine Ev_move rfl ?_)
  refine W_inv (fun i : Nat => [(13, .int .i64 ((i : Nat) : Int)), (12, .int .i64 ((t.length : Nat) : Int)), (11, v), (5, .int .u64 ((numOf (t.take i) : Nat) : Int))]) (fun i T => T = S1 ∧ i ≤ t.length) (fun i => t.length - i) ?_ 0 ⟨rfl, Nat.zero_le _⟩ ⟨rfl, rfl, rfl, rfl, trivial⟩
  rintro i T ⟨rfl, hi⟩ back
  have hacc := numOf_lt i (t.take i) (by rw [List.length_take]; omega) (fun x hx => htb x (List.mem_of_mem_take hx))
  have h7 : i < t.length → numOf (t.take i) < 72057594037927936 := fun h => Nat.lt_of_lt_of_le hacc (Nat.pow_le_pow_right (n := 256) (by omega) (show i ≤ 7 by omega))
  have hx : i < t.length → t.getD i 0 < 256 := fun h => by
    rw [List.getD_eq_getElem?_getD, List.getElem?_eq_getElem h]
    exact htb _ (List.getElem_mem h)
  have hsn := fun h => numOf_take (l := t) (i := i) h
  repeat' (
    first
      | refine W_seq ?_
      | refine WO_nil ?_
      | refine V_seq ?_
      | refine W_region ?_
      | refine W_block ?_
      | refine W_skip ?_
      | refine W_exit ?_
      | refine V_block ?_
      | refine V_block_x rfl ?_
      | refine V_seq_x ?_
      | refine V_loop_x ?_
      | refine WO_dst rfl rfl (by kernel_rfl) (by kernel_rfl) ?_
      | (refine Ev_indexAddr_rd rfl rfl rfl rfl rfl hv (by first | omega | (dsimp only; omega)) ?_; intro q hq)
      | refine Ev_load_pt rfl rfl rfl hq (by dsimp only; rw [Nat.mul_one]; exact sbytes_get (by first | omega | (dsimp only; omega))) (veq_int _ _) ?_
      | refine Ev_orN 8 rfl rfl rfl (by first | omega | (dsimp only; omega)) (by first | omega | (dsimp only; omega)) (by simp only [lim]; omega) ?_
      | refine Ev_move rfl ?_
      | refine Ev_assign rfl ?_
      | refine Ev_lssN rfl rfl ?_
      | refine Ev_addN rfl rfl (by simp only [lim]; omega) ?_
      | refine Ev_shlN (m := 8) (q := 256) rfl rfl rfl rfl (by simp only [lim]; omega) ?_
      | refine Ev_convN rfl rfl rfl rfl rfl (by simp only [lim]; omega) ?_
      | (refine W_cond rfl (fun hc => ?_) (fun hc => ?_) <;> (try dsimp only at hc) <;> try (exfalso; first | omega | exact hc rfl)))
  · refine back (i + 1) T _ (by omega) ⟨rfl, by omega⟩ ⟨rfl, rfl, rfl, ?_, trivial⟩
    show some (AV.int .u64 ((numOf (List.take i t) * 256 + t.getD i 0 : Nat) : Int)) = some (AV.int .u64 ((numOf (List.take (i + 1) t) : Nat) : Int))
    rw [hsn (by omega)]
  all_goals
    have hi2 : i = t.length := by omega
    subst hi2
    repeat (
      first
        | refine WO_nil ?_
        | refine V_seq ?_
        | refine W_ret ?_
        | refine WO_dst rfl rfl (by kernel_rfl) (by kernel_rfl) ?_
        | refine Ev_convw (k' := .i64) rfl rfl rfl rfl rfl ?_
        | refine Ev_assign rfl ?_)
    refine V_done rfl rfl ?_
    refine ⟨?_, h1, hF1⟩
    show AV.int .i64 (wrp .i64 ((numOf (t.take t.length) : Nat) : Int)) = AV.int .i64 (numV t)
    rw [List.take_length]; rfl
end Go.Proofs.YthhbnnnokmefoaaDoor
/- mutf.Reader's other functions. -/


namespace Go.Proofs.YthhbnnnokmefoaaDoor
open GX
set_option maxHeartbeats 8000000
theorem fail_runs {S : St} {p : Nat} {vb : AV} {b : List Nat} {r : RdS} {c : Int} (hok : Sok S) (h : Rr S p vb b r) (hn : S.n ≤ 1000000000) :
    Runs X1 53 [.ptr p 0, .int .i64 c] S fun _ S' => Rr S' p vb b (r.refuse c (r.pos : Int)) ∧ FrP S S' p := by
  refine Runs_fn (m := 11) (by kernel_rfl) Tryd.func53 rfl (by kernel_rfl) (by kernel_rfl) ?_
  repeat (
    first
      | refine W_region ?_
      | refine WO_dst rfl rfl (by kernel_rfl) (by kernel_rfl) ?_
      | refine Ev_load rfl rfl rfl h.cell rfl (veq_int _ _) ?_
      | refine Ev_move rfl ?_
      | refine Ev_nilCheck rfl ?_
      | refine Ev_fieldAddr rfl rfl rfl rfl rfl rfl ?_)
  refine Ev_call rfl rfl ((refuse_runs hok h hn).mono ?_)
  rintro _ S1 - ⟨h1, hF1⟩
  repeat (
    refine WO_nil ?_)
  refine V_done rfl rfl ?_
  exact ⟨h1, hF1⟩
/-- what the end says -/
def RdS.endOf (r : RdS) (b : List Nat) : Int × Int := if r.err ≠ 0 then (r.err, r.at_) else if r.pos < b.length then (11, (r.pos : Int)) else (0, 0)
theorem end_runs {S : St} {p : Nat} {vb : AV} {b : List Nat} {r : RdS} (h : Rr S p vb b r) :
    Runs X1 31 [.ptr p 0] S fun v S' => S' = S ∧ v = .tup [.int .i64 (r.endOf b).1, .int .i64 (r.endOf b).2] := by
  refine Runs_fn (m := 33) (by kernel_rfl) Tryd.func31 rfl (by kernel_rfl) (by kernel_rfl) ?_
  repeat' (
    first
      | refine W_seq ?_
      | refine WO_nil ?_
      | refine V_seq ?_
      | refine W_region ?_
      | refine W_drawn (by kernel_rfl) ?_
      | refine W_block ?_
      | refine W_skip ?_
      | refine W_ret ?_
      | refine V_ret ?_
      | refine V_block ?_
      | refine WO_dst rfl rfl (by kernel_rfl) (by kernel_rfl) ?_
      | refine Ev_load rfl rfl rfl h.cell rfl (veq_int _ _) ?_
      | refine Ev_load rfl rfl rfl h.cell rfl h.rd.self ?_
      | refine Ev_len rfl rfl rfl rfl rfl h.rd.len ?_
      | refine Ev_move rfl ?_
      | refine Ev_assign rfl ?_
      | refine Ev_lssN rfl rfl ?_
      | refine Ev_neq rfl rfl ?_
      | refine Ev_nilCheck rfl ?_
      | refine Ev_fieldAddr rfl rfl rfl rfl rfl rfl ?_
      | (refine W_cond rfl (fun hc => ?_) (fun hc => ?_) <;> (try dsimp only at hc) <;> try (exfalso; first | omega | exact hc rfl)))
  · refine V_done rfl rfl ?_
    refine ⟨rfl, ?_⟩
    unfold RdS.endOf; rw [if_pos (by assumption)]; rfl
  · refine V_done rfl rfl ?_
    refine ⟨rfl, ?_⟩
    unfold RdS.endOf; rw [if_neg (by assumption), if_pos (by assumption)]; rfl
  · refine V_done rfl rfl ?_
    refine ⟨rfl, ?_⟩
    unfold RdS.endOf; rw [if_neg (by assumption), if_neg (by assumption)]; rfl
def RdS.left (r : RdS) (b : List Nat) : Nat := if r.err ≠ 0 then 0 else b.length - r.pos
theorem left_runs {S : St} {p : Nat} {vb : AV} {b : List Nat} {r : RdS} (hb : b.length ≤ 1000000000) (h : Rr S p vb b r) :
    Runs X1 34 [.ptr p 0] S fun v S' => S' = S ∧ v = .int .i64 ((r.left b : Nat) : Int) := by
  have hle := h.le
  refine Runs_fn (m := 18) (by kernel_rfl) Tryd.func34 rfl (by kernel_rfl) (by kernel_rfl) ?_
  repeat' (
    first
      | refine W_seq ?_
      | refine WO_nil ?_
      | refine V_seq ?_
      | refine W_region ?_
      | refine W_drawn (by kernel_rfl) ?_
      | refine W_skip ?_
      | refine W_ret ?_
      | refine V_ret ?_
      | refine WO_dst rfl rfl (by kernel_rfl) (by kernel_rfl) ?_
      | refine Ev_load rfl rfl rfl h.cell rfl (veq_int _ _) ?_
      | refine Ev_load rfl rfl rfl h.cell rfl h.rd.self ?_
      | refine Ev_len rfl rfl rfl rfl rfl h.rd.len ?_
      | refine Ev_move rfl ?_
      | refine Ev_assign rfl ?_
      | refine Ev_neq rfl rfl ?_
      | refine Ev_nilCheck rfl ?_
      | refine Ev_fieldAddr rfl rfl rfl rfl rfl rfl ?_
      | refine Ev_subN rfl rfl (by simp only [lim]; omega) (by first | omega | (dsimp only; done) | (dsimp only; omega)) ?_
      | (refine W_cond rfl (fun hc => ?_) (fun hc => ?_) <;> (try dsimp only at hc) <;> try (exfalso; first | omega | exact hc rfl)))
  · refine V_done rfl rfl ?_
    refine ⟨rfl, ?_⟩
    unfold RdS.left; rw [if_pos (by assumption)]; rfl
  · refine V_done rfl rfl ?_
    refine ⟨rfl, ?_⟩
    unfold RdS.left; rw [if_neg (by assumption)]; rfl
end Go.Proofs.YthhbnnnokmefoaaDoor
/- mutf.Reader.Text, NewReader. -/

namespace Go.Proofs.YthhbnnnokmefoaaDoor
open GX
set_option maxHeartbeats 8000000
/-- one block is written to, others are made -/
structure FrQ (S S' : St) (p k : Nat) : Prop where
  le : S.n ≤ S'.n
  n : S'.n ≤ S.n + k
  ok : Sok S'
  same : ∀ c, c ≠ p → c < S.n → S'.h.get c = S.h.get c
theorem FrP.q {S S' : St} {p : Nat} (a : FrP S S' p) : FrQ S S' p 0 := ⟨Nat.le_of_eq a.n.symm, Nat.le_of_eq a.n, a.ok, fun c h _ => a.same c h⟩
theorem Fr.q {S S' : St} {p k : Nat} (a : Fr S S' .nils k) : FrQ S S' p k := ⟨a.le, a.n, a.ok, fun c _ h => a.same c (by simp [blkOf]) h⟩
theorem FrQ.trans {S T U : St} {p k k' : Nat} (a : FrQ S T p k) (b : FrQ T U p k') : FrQ S U p (k + k') := by
  refine ⟨Nat.le_trans a.le b.le, by have := a.n; have := b.n; omega, b.ok, fun c h1 h2 => ?_⟩
  have := a.le
  rw [b.same c h1 (by omega), a.same c h1 h2]
theorem Rr.fr {S S' : St} {p : Nat} {vb : AV} {b : List Nat} {r : RdS} {k : Nat} (h : Rr S p vb b r) (hok : Sok S) (a : Fr S S' .nils k) : Rr S' p vb b r :=
  ⟨by rw [a.same p (by simp [blkOf]) (hok _ _ h.cell)]; exact h.cell, h.rd.keep (fun c hc => a.same c (by simp [blkOf]) (h.rd.lt hok hc)), h.ne, h.le⟩
theorem numV_small {l : List Nat} (h : numOf l < 65536) : numV l = ((numOf l : Nat) : Int) := by
  unfold numV
  exact wrp_in (by simp only [inR]; omega)
theorem refuse_err {r : RdS} {c a : Int} (hc : c ≠ 0) : (r.refuse c a).err ≠ 0 := by
  unfold RdS.refuse; split
  · exact hc
  · rename_i h; exact fun e => h ⟨e, hc⟩
theorem take_err {r : RdS} {b : List Nat} {n : Nat} (h : r.err ≠ 0) : r.take b n = ([], r) := by unfold RdS.take; rw [if_pos h]
noncomputable def RdS.text (r : RdS) (b : List Nat) : List Nat × RdS :=
  let x := r.take b 2
  let r2 := if 256 < numOf x.1 then x.2.refuse 3 (x.2.pos : Int) else x.2
  let y := r2.take b (numOf x.1)
  ((decS y.1).getD [], y.2.refuse (if (decS y.1).isSome = true then 0 else 12) (y.2.pos : Int))
theorem rdtext_runs {S : St} {p : Nat} {vb : AV} {b : List Nat} {r : RdS} (hok : Sok S) (h : Rr S p vb b r) (hb : b.length ≤ 1000000000) (hn : S.n ≤ 900000000) (hlt : ∀ x ∈ b, x < 256) :
    Runs X1 54 [.ptr p 0] S fun v S' => v = .str (r.text b).1 ∧ Rr S' p vb b (r.text b).2 ∧ FrQ S S' p 2000 := by
  refine Runs_fn (m := 31) (by kernel_rfl) Tryd.func54 rfl (by kernel_rfl) (by kernel_rfl) ?_
  repeat (
    first
      | refine W_seq ?_
      | refine WO_nil ?_
      | refine V_seq ?_
      | refine W_region ?_
      | refine WO_dst rfl rfl (by kernel_rfl) (by kernel_rfl) ?_
      | refine Ev_move rfl ?_
      | refine Ev_assign rfl ?_)
  refine Ev_call rfl rfl ((rnum_runs hok h (by omega) (by omega) hlt).mono ?_)
  rintro _ S1 - ⟨rfl, h1, hF1⟩
  rw [size2] at h1 ⊢
  have hx2 := take_len r b 2
  have hxb := take_lt (r := r) (n := 2) hlt
  have hnl := numOf_lt _ _ rfl hxb
  have hpw : 256 ^ (r.take b 2).1.length ≤ 65536 := Nat.pow_le_pow_right (n := 256) (by omega) hx2
  rw [numV_small (by omega)]
  obtain ⟨m, hm⟩ : ∃ m, m = numOf (r.take b 2).1 := ⟨_, rfl⟩
  obtain ⟨r1, hr1⟩ : ∃ r1, r1 = (r.take b 2).2 := ⟨_, rfl⟩
  rw [← hm] at hnl ⊢
  rw [← hr1] at h1
  have hn1 := hF1.n
  repeat' (
    first
      | refine W_seq ?_
      | refine WO_nil ?_
      | refine V_seq ?_
      | refine W_region ?_
      | refine W_skip ?_
      | refine WO_dst rfl rfl (by kernel_rfl) (by kernel_rfl) ?_
      | refine Ev_load rfl rfl rfl h1.cell rfl (veq_int _ _) ?_
      | refine Ev_move rfl ?_
      | refine Ev_assign rfl ?_
      | refine Ev_gtrN rfl rfl ?_
      | refine Ev_nilCheck rfl ?_
      | refine Ev_fieldAddr rfl rfl rfl rfl rfl rfl ?_
      | (refine W_cond rfl (fun hc => ?_) (fun hc => ?_) <;> (try dsimp only at hc) <;> try (exfalso; first | omega | exact hc rfl)))
  · refine Ev_call rfl rfl ((refuse_runs hF1.ok h1 (by omega)).mono ?_)
    rintro _ S2 - ⟨h2, hF2⟩
    have hn2 := hF2.n
    repeat (
      first
        | refine W_seq ?_
        | refine WO_nil ?_
        | refine V_seq ?_
        | refine W_region ?_
        | refine WO_dst rfl rfl (by kernel_rfl) (by kernel_rfl) ?_
        | refine Ev_move rfl ?_)
    refine Ev_call rfl rfl ((take_runs hF2.ok h2 (by omega) (by omega) (by omega)).mono ?_)
    rintro v S3 - ⟨h3, hF3, hv3, -⟩
    obtain ⟨u, hu⟩ : ∃ u, u = (RdS.take (r1.refuse 3 (r1.pos : Int)) b m).1 := ⟨_, rfl⟩
    obtain ⟨r3, hr3⟩ : ∃ r3, r3 = (RdS.take (r1.refuse 3 (r1.pos : Int)) b m).2 := ⟨_, rfl⟩
    rw [← hu] at hv3
    rw [← hr3] at h3
    have hul : u.length ≤ 256 := by rw [hu, take_err (refuse_err (by decide))]; simp
    have hub : ∀ x ∈ u, x < 256 := by rw [hu]; exact take_lt hlt
    have hn3 := hF3.n
    repeat (
      refine WO_dst rfl rfl (by kernel_rfl) (by kernel_rfl) ?_)
    refine Ev_call rfl rfl ((dec_runs hF3.ok hv3 hub (by omega) (by omega)).mono ?_)
    rintro _ S4 - ⟨hF4, rfl⟩
    have h4 := h3.fr hF3.ok hF4
    have hn4 := hF4.n
    repeat (
      first
        | refine W_seq ?_
        | refine WO_nil ?_
        | refine V_seq ?_
        | refine W_region ?_
        | refine WO_dst rfl rfl (by kernel_rfl) (by kernel_rfl) ?_
        | refine Ev_load rfl rfl rfl h4.cell rfl (veq_int _ _) ?_
        | refine Ev_move rfl ?_
        | refine Ev_assign rfl ?_
        | refine Ev_extract rfl rfl ?_
        | refine Ev_nilCheck rfl ?_
        | refine Ev_fieldAddr rfl rfl rfl rfl rfl rfl ?_)
    refine Ev_call rfl rfl ((refuse_runs hF4.ok h4 (by omega)).mono ?_)
    rintro _ S5 - ⟨h5, hF5⟩
    repeat (
      first
        | refine W_seq ?_
        | refine WO_nil ?_
        | refine V_seq ?_
        | refine W_region ?_
        | refine W_ret ?_
        | refine WO_dst rfl rfl (by kernel_rfl) (by kernel_rfl) ?_
        | refine Ev_move rfl ?_
        | refine Ev_assign rfl ?_)
    refine V_done rfl rfl ?_
    have e : r.text b = ((decS u).getD [], r3.refuse (if (decS u).isSome = true then 0 else 12) (r3.pos : Int)) := by
      unfold RdS.text; dsimp only; rw [← hm, ← hr1, if_pos hc, ← hu, ← hr3]
    rw [e]
    have hq := (((hF1.trans hF2).trans hF3).q.trans hF4.q).trans hF5.q
    exact ⟨rfl, h5, ⟨hq.le, by have := hq.n; omega, hq.ok, hq.same⟩⟩
  · skip
    refine Ev_call rfl rfl ((take_runs hF1.ok h1 (by omega) (by omega) (by omega)).mono ?_)
    rintro v S3 - ⟨h3, hF3, hv3, -⟩
    obtain ⟨u, hu⟩ : ∃ u, u = (RdS.take r1 b m).1 := ⟨_, rfl⟩
    obtain ⟨r3, hr3⟩ : ∃ r3, r3 = (RdS.take r1 b m).2 := ⟨_, rfl⟩
    rw [← hu] at hv3
    rw [← hr3] at h3
    have hul : u.length ≤ 256 := by have := take_len r1 b m; rw [← hu] at this; omega
    have hub : ∀ x ∈ u, x < 256 := by rw [hu]; exact take_lt hlt
    have hn3 := hF3.n
    repeat (
      refine WO_dst rfl rfl (by kernel_rfl) (by kernel_rfl) ?_)
    refine Ev_call rfl rfl ((dec_runs hF3.ok hv3 hub (by omega) (by omega)).mono ?_)
    rintro _ S4 - ⟨hF4, rfl⟩
    have h4 := h3.fr hF3.ok hF4
    have hn4 := hF4.n
    repeat (
      first
        | refine W_seq ?_
        | refine WO_nil ?_
        | refine V_seq ?_
        | refine W_region ?_
        | refine WO_dst rfl rfl (by kernel_rfl) (by kernel_rfl) ?_
        | refine Ev_load rfl rfl rfl h4.cell rfl (veq_int _ _) ?_
        | refine Ev_move rfl ?_
        | refine Ev_assign rfl ?_
        | refine Ev_extract rfl rfl ?_
        | refine Ev_nilCheck rfl ?_
        | refine Ev_fieldAddr rfl rfl rfl rfl rfl rfl ?_)
    refine Ev_call rfl rfl ((refuse_runs hF4.ok h4 (by omega)).mono ?_)
    rintro _ S5 - ⟨h5, hF5⟩
    repeat (
      first
        | refine W_seq ?_
        | refine WO_nil ?_
        | refine V_seq ?_
        | refine W_region ?_
        | refine W_ret ?_
        | refine WO_dst rfl rfl (by kernel_rfl) (by kernel_rfl) ?_
        | refine Ev_move rfl ?_
        | refine Ev_assign rfl ?_)
    refine V_done rfl rfl ?_
    have e : r.text b = ((decS u).getD [], r3.refuse (if (decS u).isSome = true then 0 else 12) (r3.pos : Int)) := by
      unfold RdS.text; dsimp only; rw [← hm, ← hr1, if_neg hc, ← hu, ← hr3]
    rw [e]
    have hq := ((hF1.trans hF3).q.trans hF4.q).trans hF5.q
    exact ⟨rfl, h5, ⟨hq.le, by have := hq.n; omega, hq.ok, hq.same⟩⟩
end Go.Proofs.YthhbnnnokmefoaaDoor
/- caraferef1.Number and Text: what is written. -/

namespace Go.Proofs.YthhbnnnokmefoaaDoor
open GX
set_option maxHeartbeats 8000000
theorem byte64 (n : Int) {j : Nat} (h : j < 8) : n % 18446744073709551616 / ((2 ^ (8 * j) : Nat) : Int) % 256 = n / ((2 ^ (8 * j) : Nat) : Int) % 256 := by
  rcases (show j = 0 ∨ j = 1 ∨ j = 2 ∨ j = 3 ∨ j = 4 ∨ j = 5 ∨ j = 6 ∨ j = 7 by omega) with rfl | rfl | rfl | rfl | rfl | rfl | rfl | rfl <;> simp <;> omega
theorem rnumber_runs {S : St} {v : AV} {l : List Nat} {n b : Int} (hok : Sok S) (hv : Rd S v 1 (sbytes l) l.length) (hl : l.length ≤ 900000000) (hn : S.n + 18 ≤ 1000000000) :
    Runs X1 39 [v, .int .i64 n, .int .i64 b] S fun r S' => Fr S S' .nils 18 ∧ Ow S' r (l ++ numL n (sizeN b)) ∧ ∀ c, blkOf r = some c → S.n ≤ c := by
  have hsz := sizeN_le b
  refine Runs_fn (m := 30) (by kernel_rfl) Tryd.func39 rfl (by kernel_rfl) (by kernel_rfl) ?_
  repeat (
    first
      | refine W_seq ?_
      | refine WO_nil ?_
      | refine V_seq ?_
      | refine W_region ?_
      | refine WO_dst rfl rfl (by kernel_rfl) (by kernel_rfl) ?_
      | refine Ev_assign rfl ?_)
  refine Ev_buildSlice rfl rfl rfl rfl rfl rfl hok (by omega) ?_
  intro S1 hn1 hok1 hq1 hf1
  have hv1 := hv.keep (fun c h => hf1 c (hv.lt hok h))
  repeat (
    first
      | refine WO_dst rfl rfl (by kernel_rfl) (by kernel_rfl) ?_
      | refine Ev_move rfl ?_)
  refine Ev_append_gz (cs := []) (m := 0) rfl rfl rfl rfl rfl rfl rfl rfl rfl rfl (.inr ⟨rfl, rfl, S.n, 0, rfl, Rd_lit hq1 rfl (by kernel_rfl)⟩) hv1 (by first | exact sbytes_one l | (unfold sbytes; simp [AV.one])) hok1 (by omega) (by dsimp only; omega) (by omega) ?_
  intro v2 S2 hle2 hn2 hok2 hown2 hf2 hb2
  have hb2' : ∀ c, blkOf v2 = some c → S.n ≤ c := fun c hc => by
    rcases hb2 c hc with h | h
    · cases h; exact Nat.le_refl _
    · omega
  repeat (
    first
      | refine W_seq ?_
      | refine WO_nil ?_
      | refine V_seq ?_
      | refine W_region ?_
      | refine WO_dst rfl rfl (by kernel_rfl) (by kernel_rfl) ?_
      | refine Ev_move rfl ?_
      | refine Ev_assign rfl ?_)
  refine Ev_call rfl rfl ((width_runs b S2).mono ?_)
  rintro _ _ - ⟨rfl, rfl⟩
  repeat (
    first
      | refine WO_nil ?_
      | refine V_seq ?_
      | refine W_block ?_
      | refine WO_dst rfl rfl (by kernel_rfl) (by kernel_rfl) ?_
      | refine Ev_assign rfl ?_
      | refine Ev_subN rfl rfl (by simp only [lim]; omega) (by first | omega | (dsimp only; done) | (dsimp only; omega)) ?_)
  rename_i S2
  have hs6 : some (AV.int .i64 ((sizeN b - 1 : Nat) : Int)) = some (AV.int .i64 (((sizeN b : Nat) : Int) - 1)) := by congr 2; omega
  refine W_inv (fun a : Nat × AV × List Nat => [(8, .int .i64 (((a.1 : Nat) : Int) - 1)), (7, a.2.1), (1, .int .i64 n)]) (fun a T => Gz T a.2.1 5 1 (sbytes a.2.2) a.2.2.length ∧ a.2.2 ++ numL n a.1 = l ++ numL n (sizeN b) ∧ a.1 ≤ sizeN b ∧ Fr S T .nils (2 + 2 * (sizeN b - a.1)) ∧ ∀ c, blkOf a.2.1 = some c → S.n ≤ c) (fun a => a.1) ?_ (sizeN b, v2, l) ⟨hown2.eq rfl (by dsimp only; omega), rfl, Nat.le_refl _, ⟨by omega, by omega, hok2, fun c _ h => by rw [hf2 c (fun h => by cases h; omega) (by omega), hf1 c h]⟩, hb2'⟩ ⟨hs6, rfl, rfl, trivial⟩
  rintro ⟨j, v, l'⟩ T ⟨hwT, heq, hj, hF, hbT⟩ back
  dsimp only at hwT heq hj hF hbT back
  have hFn := hF.n; have hFl := hF.le
  have hll : l'.length + j = l.length + sizeN b := by have h := congrArg List.length heq; simpa only [List.length_append, numL_len] using h
  cases j with
  | zero =>
    show W X1 30 _ _ _ [(8, .int .i64 (-1)), (7, v), (1, .int .i64 n)] T
    repeat' (
      first
        | refine W_seq ?_
        | refine WO_nil ?_
        | refine V_seq ?_
        | refine W_region ?_
        | refine W_ret ?_
        | refine W_exit ?_
        | refine V_block_x rfl ?_
        | refine V_seq_x ?_
        | refine V_loop_x ?_
        | refine W_cond_f rfl ?_
        | refine WO_dst rfl rfl (by kernel_rfl) (by kernel_rfl) ?_
        | refine Ev_move rfl ?_
        | refine Ev_assign rfl ?_
        | refine Ev_geq rfl rfl ?_)
    refine V_done rfl rfl ?_
    refine ⟨⟨hF.le, by omega, hF.ok, hF.same⟩, ?_, hbT⟩
    have h9 := hwT.own (by omega)
    rw [← heq]; simp only [numL, List.append_nil]; exact h9
  | succ j =>
    have hjj : (((j + 1 : Nat) : Int) - 1) = ((j : Nat) : Int) := by omega
    show W X1 30 _ _ _ [(8, .int .i64 (((j + 1 : Nat) : Int) - 1)), (7, v), (1, .int .i64 n)] T
    rw [hjj]
    repeat' (
      first
        | refine W_seq ?_
        | refine WO_nil ?_
        | refine V_seq ?_
        | refine W_region ?_
        | refine W_block ?_
        | refine W_skip ?_
        | refine W_cond_t rfl ?_
        | refine WO_dst rfl rfl (by kernel_rfl) (by kernel_rfl) ?_
        | refine Ev_conv64 (a := n) rfl rfl rfl rfl rfl ?_
        | refine Ev_shrV rfl rfl (by simp only [Go.IntKind.bits]; omega) ?_
        | refine Ev_conv8i rfl rfl rfl rfl rfl ?_
        | refine Ev_move rfl ?_
        | refine Ev_geqN rfl rfl ?_
        | refine Ev_mulN rfl rfl (by simp only [lim]; omega) ?_
        | refine Ev_convN rfl rfl rfl rfl rfl (by simp only [lim]; omega) ?_)
    refine Ev_buildSlice rfl rfl rfl rfl rfl rfl hF.ok (by omega) ?_
    intro T1 gn1 gok1 gq1 gf1
    have ho1 := hwT.keep (fun b hb => gf1 b (hwT.lt hF.ok hb))
    repeat (
      refine WO_dst rfl rfl (by kernel_rfl) (by kernel_rfl) ?_)
    refine Ev_append_gz rfl rfl rfl rfl rfl rfl rfl rfl rfl rfl ho1 (Rd_lit gq1 rfl (by kernel_rfl)) rfl gok1 (by omega) (by dsimp only; omega) (by omega) ?_
    intro v3 T2 gle2 gn2 gok2 gown2 gf2 gb2
    repeat (
      first
        | refine WO_nil ?_
        | refine V_seq ?_
        | refine W_region ?_
        | refine V_block ?_
        | refine WO_dst rfl rfl (by kernel_rfl) (by kernel_rfl) ?_
        | refine Ev_move rfl ?_
        | refine Ev_assign rfl ?_
        | refine Ev_sub rfl rfl (by simp only [inR]; omega) ?_)
    refine back (j, v3, l' ++ [byteAt n j]) T2 _ (Nat.lt_succ_self j) ⟨?_, ?_, by omega, ⟨?_, ?_, gok2, fun c _ h => ?_⟩, fun c hc => ?_⟩ ⟨rfl, rfl, rfl, trivial⟩
    · refine gown2.eq ?_ (by simp)
      rw [sbytes_app]
      congr 1
      show [AV.int .u8 _] = [AV.int .u8 _]
      unfold byteAt
      rw [← byte64 n (by omega)]
      rfl
    · rw [← heq]; simp [numL]
    · first | omega | (dsimp only; omega)
    · first | omega | (dsimp only; omega)
    · rw [gf2 c (fun h2 => by have := hbT c h2; omega) (by omega), gf1 c (by omega), hF.same c (by simp [blkOf]) h]
    · rcases gb2 c hc with g | g
      · exact hbT c g
      · omega
theorem rtext_runs {S : St} {v : AV} {l s : List Nat} (hok : Sok S) (hv : Rd S v 1 (sbytes l) l.length) (hb : ∀ b ∈ s, b < 256) (hs : s.length ≤ 100000000) (hl : l.length ≤ 800000000) (hn : S.n + (4 * s.length + 22) ≤ 1000000000) :
    Runs X1 40 [v, .str s] S fun r S' => Fr S S' .nils (4 * s.length + 22) ∧ Ow S' r (l ++ textL s) ∧ ∀ c, blkOf r = some c → S.n ≤ c := by
  refine Runs_fn (m := 27) (by kernel_rfl) Tryd.func40 rfl (by kernel_rfl) (by kernel_rfl) ?_
  repeat (
    first
      | refine W_seq ?_
      | refine WO_nil ?_
      | refine V_seq ?_
      | refine W_region ?_
      | refine WO_dst rfl rfl (by kernel_rfl) (by kernel_rfl) ?_
      | refine Ev_move rfl ?_
      | refine Ev_assign rfl ?_)
  refine Ev_call rfl rfl ((renc_runs hok hb hs (by omega)).mono ?_)
  rintro _ S1 - ⟨hfr, vx, rfl, hx, hbx⟩
  have hn1 := hfr.n
  have hl1 := hfr.le
  have hv1 := hv.keep (fun c h => hfr.same c (by simp [blkOf]) (hv.lt hok h))
  by_cases hv' : vS s = true
  · rw [if_pos hv'] at hx ⊢
    repeat' (
      first
        | refine W_seq ?_
        | refine WO_nil ?_
        | refine V_seq ?_
        | refine W_region ?_
        | refine W_skip ?_
        | refine WO_dst rfl rfl (by kernel_rfl) (by kernel_rfl) ?_
        | refine WO_guard_t rfl rfl rfl rfl rfl (by kernel_rfl) (by kernel_rfl) ?_
        | refine Ev_len rfl rfl rfl rfl rfl hx.rd.len ?_
        | refine Ev_move rfl ?_
        | refine Ev_assign rfl ?_
        | refine Ev_extract rfl rfl ?_
        | refine Ev_pick_f rfl rfl rfl ?_
        | refine Ev_gtrN rfl rfl ?_
        | refine Ev_neqN rfl rfl ?_
        | (refine W_cond rfl (fun hc => ?_) (fun hc => ?_) <;> (try dsimp only at hc) <;> try (exfalso; first | omega | exact hc rfl)))
    · skip
      have htb : textB s = [] := by unfold textB; rw [if_neg (fun h => by have := h.2; omega)]
      refine Ev_call rfl rfl ((rnumber_runs hfr.ok hv1 (by omega) (by omega)).mono ?_)
      rintro r S2 - ⟨hF2, ho2, hb2⟩
      have hn2 := hF2.n
      have hl2 := hF2.le
      repeat (
        first
          | refine WO_nil ?_
          | refine V_seq ?_
          | refine W_ret ?_
          | refine V_ret ?_
          | refine WO_dst rfl rfl (by kernel_rfl) (by kernel_rfl) ?_
          | refine Ev_assign rfl ?_)
      refine V_done rfl rfl ?_
      refine ⟨⟨by omega, by omega, hF2.ok, fun c _ h => by rw [hF2.same c (by simp [blkOf]) (by omega), hfr.same c (by simp [blkOf]) h]⟩, ?_, fun c hc => by have := hb2 c hc; omega⟩
      unfold textL; rw [htb, List.append_nil]; rw [size2] at ho2; exact ho2
    · have htb : textB s = encS s := by unfold textB; rw [if_pos ⟨hv', by omega⟩]
      refine Ev_call rfl rfl ((rnumber_runs hfr.ok hv1 (by omega) (by omega)).mono ?_)
      rintro r S2 - ⟨hF2, ho2, hb2⟩
      have hn2 := hF2.n
      have hl2 := hF2.le
      have hx2 := hx.keep (fun c h => hF2.same c (by simp [blkOf]) (hx.lt hfr.ok h))
      have ho3 : Ow S2 r (l ++ numL ((encS s).length : Int) 2) := by rw [size2] at ho2; exact ho2
      repeat (
        first
          | refine WO_dst rfl rfl (by kernel_rfl) (by kernel_rfl) ?_
          | refine Ev_move rfl ?_)
      refine Ev_append rfl rfl rfl rfl rfl rfl rfl rfl rfl rfl ho3 hx2.rd (by first | exact sbytes_one _ | (unfold sbytes; simp [AV.one])) hF2.ok (by omega) (by simp only [List.length_append, numL_len]; omega) (by simp only [List.length_append, numL_len]; omega) ?_
      intro v3 S3 hle3 hn3 hok3 hown3 hf3 hb3
      repeat (
        first
          | refine WO_nil ?_
          | refine V_seq ?_
          | refine W_ret ?_
          | refine WO_dst rfl rfl (by kernel_rfl) (by kernel_rfl) ?_
          | refine Ev_assign rfl ?_)
      refine V_done rfl rfl ?_
      refine ⟨⟨by omega, by omega, hok3, fun c _ h => by rw [hf3 c (fun g => by have := hb2 c g; omega) (by omega), hF2.same c (by simp [blkOf]) (by omega), hfr.same c (by simp [blkOf]) h]⟩, ?_, fun c hc => ?_⟩
      · refine hown3.eq ?_ ?_
        · unfold textL; rw [htb, ← List.append_assoc, sbytes_app (l ++ _)]
        · unfold textL; rw [htb]; simp only [List.length_append]; omega
      · rcases hb3 c hc with h | h
        · have := hb2 c h; omega
        · omega
  · rw [if_neg hv'] at hx ⊢
    repeat' (
      first
        | refine W_seq ?_
        | refine WO_nil ?_
        | refine V_seq ?_
        | refine W_region ?_
        | refine W_cond_t rfl ?_
        | refine WO_dst rfl rfl (by kernel_rfl) (by kernel_rfl) ?_
        | refine WO_guard_f rfl rfl rfl rfl rfl rfl (by kernel_rfl) (by kernel_rfl) ?_
        | refine Ev_move rfl ?_
        | refine Ev_assign rfl ?_
        | refine Ev_extract rfl rfl ?_
        | refine Ev_pick_t rfl rfl rfl ?_
        | refine Ev_neqN rfl rfl ?_)
    have htb : textB s = [] := by unfold textB; rw [if_neg (fun h => hv' h.1)]
    refine Ev_call rfl rfl ((rnumber_runs hfr.ok hv1 (by omega) (by omega)).mono ?_)
    rintro r S2 - ⟨hF2, ho2, hb2⟩
    have hn2 := hF2.n
    have hl2 := hF2.le
    repeat (
      first
        | refine WO_nil ?_
        | refine V_seq ?_
        | refine W_ret ?_
        | refine V_ret ?_
        | refine WO_dst rfl rfl (by kernel_rfl) (by kernel_rfl) ?_
        | refine Ev_assign rfl ?_)
    refine V_done rfl rfl ?_
    refine ⟨⟨by omega, by omega, hF2.ok, fun c _ h => by rw [hF2.same c (by simp [blkOf]) (by omega), hfr.same c (by simp [blkOf]) h]⟩, ?_, fun c hc => by have := hb2 c hc; omega⟩
    unfold textL; rw [htb, List.append_nil]; rw [size2] at ho2; exact ho2
end Go.Proofs.YthhbnnnokmefoaaDoor
/- caraferef1.unit: a number that begins at a place. -/

namespace Go.Proofs.YthhbnnnokmefoaaDoor
open GX
set_option maxHeartbeats 8000000
def uL (l : List Nat) : Nat × Nat :=
  if 0 < l.getD 0 0 ∧ l.getD 0 0 < 128 then (l.getD 0 0, 1)
  else if l.getD 0 0 / 32 = 6 then
    (if 2 ≤ l.length ∧ l.getD 1 0 / 64 = 2 then (l.getD 0 0 % 32 * 64 + l.getD 1 0 % 64, 2) else (0, 0))
  else if l.getD 0 0 / 16 = 14 then
    (if 3 ≤ l.length ∧ l.getD 1 0 / 64 = 2 ∧ l.getD 2 0 / 64 = 2 then ((l.getD 0 0 % 16 * 64 + l.getD 1 0 % 64) * 64 + l.getD 2 0 % 64, 3) else (0, 0))
  else (0, 0)
theorem getD_drop {l : List Nat} {k i : Nat} : (l.drop k).getD i 0 = l.getD (k + i) 0 := by
  rw [List.getD_eq_getElem?_getD, List.getD_eq_getElem?_getD, List.getElem?_drop]
theorem runit_runs {S : St} {v : AV} {l : List Nat} {k : Nat} (hv : Br S v l) (hb : ∀ c ∈ l, c < 256) (hk : k < l.length) (hl : l.length ≤ 1000000000) :
    Runs X1 85 [v, .int .i64 (k : Int)] S fun r S' => S' = S ∧ r = .tup [.int .i64 (((uL (l.drop k)).1 : Nat) : Int), .int .i64 (((uL (l.drop k)).2 : Nat) : Int)] := by
  have hx : ∀ i, i < l.length → (sbytes l)[i * 1]? = some (.int .u8 ((l.getD i 0 : Nat) : Int)) := by
    intro i hi
    rw [Nat.mul_one, sbytes_get hi]
  have h0 : (l.drop k).getD 0 0 = l.getD k 0 := getD_drop
  have h1 : (l.drop k).getD 1 0 = l.getD (k + 1) 0 := getD_drop
  have h2 : (l.drop k).getD 2 0 = l.getD (k + 2) 0 := getD_drop
  have hdl : (l.drop k).length = l.length - k := List.length_drop ..
  have g0 : l.getD k 0 < 256 := getD_lt hb (by omega)
  have g1 : l.getD (k + 1) 0 < 256 := getD_lt hb (by omega)
  have g2 : l.getD (k + 2) 0 < 256 := getD_lt hb (by omega)
  refine Runs_fn (m := 67) (by kernel_rfl) Tryd.func85 rfl (by kernel_rfl) (by kernel_rfl) ?_
  repeat' (
    first
      | refine W_seq ?_
      | refine WO_nil ?_
      | refine V_seq ?_
      | refine W_region ?_
      | refine W_block ?_
      | refine W_skip ?_
      | refine W_ret ?_
      | refine W_exit ?_
      | refine V_ret ?_
      | refine V_block ?_
      | refine V_block_x rfl ?_
      | refine V_seq_x ?_
      | refine V_loop_x ?_
      | refine W_cond_t rfl ?_
      | refine W_cond_f rfl ?_
      | refine WO_dst rfl rfl (by kernel_rfl) (by kernel_rfl) ?_
      | refine WO_guard_t rfl rfl rfl rfl rfl (by kernel_rfl) (by kernel_rfl) ?_
      | refine WO_guard_f rfl rfl rfl rfl rfl rfl (by kernel_rfl) (by kernel_rfl) ?_
      | refine Ev_len rfl rfl rfl rfl rfl hv.len ?_
      | (refine Ev_indexAddr_rd rfl rfl rfl rfl rfl hv (by first | omega | (dsimp only; omega)) ?_; intro p hp)
      | refine Ev_load_pt rfl rfl rfl hp (hx _ (by first | omega | (dsimp only; omega))) (veq_int _ _) ?_
      | refine W_loop ?_
      | refine V_loop ?_
      | refine Ev_move rfl ?_
      | refine Ev_assign rfl ?_
      | refine Ev_pick_t rfl rfl rfl ?_
      | refine Ev_pick_f rfl rfl rfl ?_
      | refine Ev_lssN rfl rfl ?_
      | refine Ev_gtrN rfl rfl ?_
      | refine Ev_eqlN rfl rfl ?_
      | refine Ev_neqN rfl rfl ?_
      | refine Ev_addN rfl rfl (by simp only [lim]; omega) ?_
      | refine Ev_shrN (m := 6) (q := 64) rfl rfl rfl rfl ?_
      | refine Ev_shrN (m := 4) (q := 16) rfl rfl rfl rfl ?_
      | refine Ev_shrN (m := 5) (q := 32) rfl rfl rfl rfl ?_
      | refine Ev_shlN (m := 6) (q := 64) rfl rfl rfl rfl (by simp only [lim]; omega) ?_
      | refine Ev_andN 4 16 rfl rfl rfl rfl (by simp only [lim]; omega) (by simp only [lim]; omega) ?_
      | refine Ev_andN 5 32 rfl rfl rfl rfl (by simp only [lim]; omega) (by simp only [lim]; omega) ?_
      | refine Ev_andN 6 64 rfl rfl rfl rfl (by simp only [lim]; omega) (by simp only [lim]; omega) ?_
      | refine Ev_orN 6 rfl rfl rfl (by first | omega | (dsimp only; done) | (dsimp only; omega)) (by first | omega | (dsimp only; done) | (dsimp only; omega)) (by simp only [lim]; omega) ?_
      | refine Ev_convN rfl rfl rfl rfl rfl (by simp only [lim]; omega) ?_
      | (refine WO_guard_dt rfl rfl rfl rfl rfl (by kernel_rfl) (by kernel_rfl) (fun hg => ?_) (fun hg => ?_) <;> (try dsimp only at hg) <;> try (exfalso; first | omega | exact hg rfl))
      | (refine W_cond rfl (fun hc => ?_) (fun hc => ?_) <;> (try dsimp only at hc) <;> try (exfalso; first | omega | exact hc rfl)))
  all_goals
    refine V_done rfl rfl ?_
    refine ⟨rfl, ?_⟩
    try simp only [show k + (1 + 1) = k + 2 from rfl] at *
    unfold uL
    rw [h0, h1, h2, hdl]
    (repeat' split) <;> first | rfl | (exfalso; omega)
end Go.Proofs.YthhbnnnokmefoaaDoor
/- caraferef1.Decode: what it answers. -/


namespace Go.Proofs.YthhbnnnokmefoaaDoor
open GX
set_option maxHeartbeats 8000000
theorem uL_le {l : List Nat} (h : l ≠ []) : (uL l).2 ≤ l.length := by
  have : 0 < l.length := List.length_pos_iff.2 h
  unfold uL; (repeat' split) <;> dsimp only <;> omega
theorem uL_lt {l : List Nat} (h : ∀ c ∈ l, c < 256) : (uL l).1 < 65536 := by
  have h0 : l.getD 0 0 < 256 := getD_lt h (by omega)
  unfold uL; (repeat' split) <;> dsimp only <;> omega
def rl (l : List Nat) (h : Option Nat) : Option (List Nat) :=
  if _h : l = [] then (if h.isSome = true then none else some [])
  else if _h0 : (uL l).2 = 0 then none
  else if 56320 ≤ (uL l).1 ∧ (uL l).1 < 57344 ∧ h.isSome = true then (rl (l.drop (uL l).2) none).map (runeL (65536 + (h.getD 0 - 55296) * 1024 + ((uL l).1 - 56320)) ++ ·)
  else if h.isSome = true ∨ (56320 ≤ (uL l).1 ∧ (uL l).1 < 57344) then none
  else if 55296 ≤ (uL l).1 ∧ (uL l).1 < 56320 then rl (l.drop (uL l).2) (some (uL l).1)
  else (rl (l.drop (uL l).2) none).map (runeL (uL l).1 ++ ·)
termination_by l.length
decreasing_by
  all_goals
    have : 0 < l.length := List.length_pos_iff.2 _h
    simp only [List.length_drop]
    omega
theorem u_unit {r : Nat} (h : r < 65536) (t : List Nat) : uL (unitL r ++ t) = (r, (unitL r).length) := by
  unfold unitL
  split
  · rename_i h1
    show uL (r :: t) = _
    unfold uL
    rw [if_pos (by simp; omega)]; rfl
  · split
    · rename_i h1 h2
      show uL ((192 + r / 64) :: (128 + r % 64) :: t) = _
      unfold uL
      rw [if_neg (by simp; omega), if_pos (by simp; omega), if_pos (by simp; omega)]
      simp; omega
    · show uL ((224 + r / 4096) :: (128 + r / 64 % 64) :: (128 + r % 64) :: t) = _
      unfold uL
      rw [if_neg (by simp; omega), if_neg (by simp; omega), if_pos (by simp; omega), if_pos (by simp; omega)]
      simp; omega
theorem rl_enc1 {c : Nat} (h : okR c) (t : List Nat) : rl (enc1 c ++ t) none = (rl t none).map (runeL c ++ ·) := by
  unfold okR at h
  unfold enc1
  by_cases hc : 65535 < c
  · obtain ⟨A, hA⟩ : ∃ A, A = 55296 + (c - 65536) / 1024 := ⟨_, rfl⟩
    obtain ⟨B, hB⟩ : ∃ B, B = 56320 + (c - 65536) % 1024 := ⟨_, rfl⟩
    have he : 65536 + (A - 55296) * 1024 + (B - 56320) = c := by omega
    have l1 : (unitL A).length = 3 := by unfold unitL; rw [if_neg (by omega), if_neg (by omega)]; rfl
    have l2 : (unitL B).length = 3 := by unfold unitL; rw [if_neg (by omega), if_neg (by omega)]; rfl
    have o1 := u_unit (r := A) (by omega) (unitL B ++ t)
    have o2 := u_unit (r := B) (by omega) t
    rw [if_pos hc, ← hA, ← hB, List.append_assoc, rl, dif_neg (by simp [unitL_ne]), o1]
    dsimp only
    rw [dif_neg (by omega), if_neg (by simp), if_neg (by simp; omega), if_pos (by omega), List.drop_left, rl, dif_neg (by simp [unitL_ne]), o2]
    dsimp only
    rw [dif_neg (by omega), if_pos ⟨by omega, by omega, rfl⟩, List.drop_left]
    simp only [Option.getD_some]
    rw [he]
  · have o1 := u_unit (r := c) (by omega) t
    rw [if_neg hc, rl, dif_neg (by simp [unitL_ne]), o1]
    dsimp only
    have : 0 < (unitL c).length := List.length_pos_iff.2 (unitL_ne c)
    rw [dif_neg (by omega), if_neg (by simp), if_neg (by simp; omega), if_neg (by omega), List.drop_left]
theorem rl_encs {cs : List Nat} (h : ∀ c ∈ cs, okR c) : rl (cs.flatMap enc1) none = some (txt cs) := by
  induction cs with
  | nil => rw [List.flatMap_nil, rl]; rfl
  | cons c cs ih =>
    show rl (enc1 c ++ cs.flatMap enc1) none = _
    rw [rl_enc1 (h c (by simp)), ih fun d hd => h d (by simp [hd])]; rfl
theorem norm_of {z : List Nat} (hb : ∀ b ∈ z, b < 256) (h : vS z = true) : normS z = z := norm_of_valid _ (Nat.le_refl _) hb h
/-- the reference decodes what mutf decodes -/
theorem ref_dec {l : List Nat} (hb : ∀ b ∈ l, b < 256) {z : List Nat} (hz : rl l none = some z) (hzb : ∀ b ∈ z, b < 256) : decS l = if vS z = true ∧ encS z = l then some z else none := by
  split
  · rename_i h
    obtain ⟨h1, h2⟩ := h
    have := dec_norm z
    rw [norm_of hzb h1, h2] at this
    exact this
  · rename_i h
    cases hd : decS l with
    | none => rfl
    | some u =>
      exfalso
      obtain ⟨cs, k1, k2, k3⟩ := dec_back _ (Nat.le_refl _) hb hd
      have := rl_encs k1
      rw [← k3, hz] at this
      cases this
      obtain ⟨e1, e2, _⟩ := dec_then hb hd
      subst k2
      exact h ⟨e1, e2⟩
theorem ref_none {l : List Nat} (hb : ∀ b ∈ l, b < 256) (hz : rl l none = none) : decS l = none := by
  cases hd : decS l with
  | none => rfl
  | some u =>
    exfalso
    obtain ⟨cs, k1, k2, k3⟩ := dec_back _ (Nat.le_refl _) hb hd
    have := rl_encs k1
    rw [← k3, hz] at this
    cases this
structure RDecR (S : St) (l : List Nat) (r : AV) (S' : St) : Prop where
  fr : Fr S S' .nils (16 * l.length + 2)
  out : r = .tup [.str ((decS l).getD []), .int .i64 (if (decS l).isSome = true then 0 else 12)]
def hI : Option Nat → Int
  | none => -1
  | some m => (m : Int)
structure RDecI (S : St) (l : List Nat) (a : Nat × Option Nat × List Nat) (T : St) : Prop where
  same : T = S
  le : a.1 ≤ l.length
  eq : (rl (l.drop a.1) a.2.1).map (a.2.2 ++ ·) = rl l none
  hi : ∀ m, a.2.1 = some m → 55296 ≤ m ∧ m < 56320
  len : a.2.2.length ≤ 4 * a.1
  lt : ∀ c ∈ a.2.2, c < 256
theorem rdec_runs {S : St} {v : AV} {l : List Nat} (hok : Sok S) (hv : Br S v l) (hb : ∀ c ∈ l, c < 256) (hl : l.length ≤ 1000000) (hn : S.n ≤ 900000000) : Runs X1 74 [v] S (RDecR S l) := by
  refine Runs_fn (m := 88) (by kernel_rfl) Tryd.func74 rfl (by kernel_rfl) (by kernel_rfl) ?_
  repeat (
    first
      | refine W_seq ?_
      | refine WO_nil ?_
      | refine V_seq ?_
      | refine W_region ?_
      | refine W_block ?_
      | refine WO_dst rfl rfl (by kernel_rfl) (by kernel_rfl) ?_
      | refine Ev_assign rfl ?_)
  refine W_inv (fun a : Nat × Option Nat × List Nat => [(6, .int .i64 ((a.1 : Nat) : Int)), (0, v), (4, .str a.2.2), (5, .int .i64 (hI a.2.1))]) (RDecI S l) (fun a => l.length - a.1) ?_ (0, none, []) ?_ ⟨rfl, rfl, rfl, rfl, trivial⟩
  · rintro ⟨k, h, acc⟩ T ⟨rfl, hle, heq, hhi, hlen, hlt⟩ back
    dsimp only at hle heq hhi hlen back
    have back' : ∀ (k2 : Nat) (h2 : Option Nat) (acc2 : List Nat) (l' : L), k < k2 → RDecI T l (k2, h2, acc2) T → sub [(6, .int .i64 ((k2 : Nat) : Int)), (0, v), (4, .str acc2), (5, .int .i64 (hI h2))] l' → _ := fun k2 h2 acc2 l' hk hI0 hs => back (k2, h2, acc2) T l' (by have := hI0.le; dsimp only at *; omega) hI0 hs
    by_cases hk : k < l.length
    · obtain ⟨n, w, hnw⟩ : ∃ n w, uL (l.drop k) = (n, w) := ⟨_, _, rfl⟩
      have hne : l.drop k ≠ [] := by intro h; rw [List.drop_eq_nil_iff] at h; omega
      have hbd : ∀ c ∈ l.drop k, c < 256 := fun c h => hb c (List.mem_of_mem_drop h)
      have hw : w ≤ l.length - k := by have := uL_le hne; rw [hnw, List.length_drop] at this; exact this
      have hn6 : n < 65536 := by have := uL_lt hbd; rw [hnw] at this; exact this
      have hrl := rl.eq_1 (l.drop k) h
      rw [dif_neg hne, hnw] at hrl
      dsimp only at hrl
      cases h with
      | none =>
        show W X1 88 _ _ _ [(6, .int .i64 ((k : Nat) : Int)), (0, v), (4, .str acc), (5, .int .i64 (-1))] T
        repeat' (
          first
            | refine W_seq ?_
            | refine WO_nil ?_
            | refine V_seq ?_
            | refine W_region ?_
            | refine W_block ?_
            | refine W_skip ?_
            | refine W_ret ?_
            | refine W_exit ?_
            | refine V_ret ?_
            | refine V_block_x rfl ?_
            | refine V_seq_x ?_
            | refine W_cond_f rfl ?_
            | refine WO_dst rfl rfl (by kernel_rfl) (by kernel_rfl) ?_
            | refine WO_guard_t rfl rfl rfl rfl rfl (by kernel_rfl) (by kernel_rfl) ?_
            | refine WO_guard_f rfl rfl rfl rfl rfl rfl (by kernel_rfl) (by kernel_rfl) ?_
            | refine Ev_len rfl rfl rfl rfl rfl hv.len ?_
            | (refine Ev_call rfl rfl ((runit_runs hv hb hk (by omega)).mono ?_); rintro _ _ - ⟨rfl, rfl⟩; rw [hnw]; dsimp only)
            | refine Ev_move rfl ?_
            | refine Ev_assign rfl ?_
            | refine Ev_extract rfl rfl ?_
            | refine Ev_pick_t rfl rfl rfl ?_
            | refine Ev_pick_f rfl rfl rfl ?_
            | refine Ev_lssN rfl rfl ?_
            | refine Ev_geqN rfl rfl ?_
            | refine Ev_eqlN rfl rfl ?_
            | refine Ev_geq rfl rfl ?_
            | refine Ev_addN rfl rfl (by simp only [lim]; omega) ?_
            | refine Ev_convN rfl rfl rfl rfl rfl (by simp only [lim]; omega) ?_
            | (refine WO_guard_dt rfl rfl rfl rfl rfl (by kernel_rfl) (by kernel_rfl) (fun hg => ?_) (fun hg => ?_) <;> (try dsimp only at hg) <;> try (exfalso; first | omega | exact hg rfl))
            | (refine W_cond rfl (fun hc => ?_) (fun hc => ?_) <;> (try dsimp only at hc) <;> try (exfalso; first | omega | exact hc rfl)))
        · rw [dif_pos (by omega)] at hrl
          have hnone : rl l none = none := by rw [← heq, hrl]; rfl
          have hd := ref_none hb hnone
          refine V_done rfl rfl ?_
          exact ⟨⟨by omega, by omega, hok, fun _ _ _ => rfl⟩, by rw [hd]; rfl⟩
        · rw [dif_neg (by omega), if_neg (by simp), if_pos (.inr ⟨by omega, by omega⟩)] at hrl
          have hnone : rl l none = none := by rw [← heq, hrl]; rfl
          have hd := ref_none hb hnone
          refine V_done rfl rfl ?_
          exact ⟨⟨by omega, by omega, hok, fun _ _ _ => rfl⟩, by rw [hd]; rfl⟩
        · rw [dif_neg (by omega), if_neg (by simp), if_neg (by simp; omega), if_neg (by omega)] at hrl
          have hokR : okR (n) := by unfold okR; omega
          refine Ev_conv_rune rfl rfl rfl rfl rfl ?_
          rw [encodeR_runeL hokR]
          repeat (
            refine WO_dst rfl rfl (by kernel_rfl) (by kernel_rfl) ?_)
          refine Ev_sadd rfl rfl (by have := runeL_len (n); omega) ?_
          repeat (
            first
              | refine WO_nil ?_
              | refine V_block ?_
              | refine WO_dst rfl rfl (by kernel_rfl) (by kernel_rfl) ?_
              | refine Ev_assign rfl ?_)
          refine back' (k + w) none (acc ++ runeL (n)) _ (by omega) ⟨rfl, by dsimp only; omega, ?_, fun m h => (by cases h), ?_, ?_⟩ ⟨rfl, rfl, rfl, rfl, trivial⟩
          · dsimp only
            rw [← heq, hrl, List.drop_drop, Option.map_map]
            congr 1; funext z; simp
          · dsimp only; rw [List.length_append]; have := runeL_len (n); omega
          · intro c h
            rcases List.mem_append.1 h with h | h
            · exact hlt c h
            · exact runeL_lt hokR c h
        · rw [dif_neg (by omega), if_neg (by simp), if_neg (by simp; omega), if_pos ⟨by omega, by omega⟩] at hrl
          refine back' (k + w) (some n) acc _ (by omega) ⟨rfl, by dsimp only; omega, ?_, fun m h => (by cases h; omega), by dsimp only; omega, hlt⟩ ⟨rfl, rfl, rfl, rfl, trivial⟩
          dsimp only
          rw [← heq, hrl, List.drop_drop]
        · rw [dif_neg (by omega), if_neg (by simp), if_neg (by simp; omega), if_neg (by omega)] at hrl
          have hokR : okR (n) := by unfold okR; omega
          refine Ev_conv_rune rfl rfl rfl rfl rfl ?_
          rw [encodeR_runeL hokR]
          repeat (
            refine WO_dst rfl rfl (by kernel_rfl) (by kernel_rfl) ?_)
          refine Ev_sadd rfl rfl (by have := runeL_len (n); omega) ?_
          repeat (
            first
              | refine WO_nil ?_
              | refine V_block ?_
              | refine WO_dst rfl rfl (by kernel_rfl) (by kernel_rfl) ?_
              | refine Ev_assign rfl ?_)
          refine back' (k + w) none (acc ++ runeL (n)) _ (by omega) ⟨rfl, by dsimp only; omega, ?_, fun m h => (by cases h), ?_, ?_⟩ ⟨rfl, rfl, rfl, rfl, trivial⟩
          · dsimp only
            rw [← heq, hrl, List.drop_drop, Option.map_map]
            congr 1; funext z; simp
          · dsimp only; rw [List.length_append]; have := runeL_len (n); omega
          · intro c h
            rcases List.mem_append.1 h with h | h
            · exact hlt c h
            · exact runeL_lt hokR c h
      | some m =>
        have hm := hhi m rfl
        show W X1 88 _ _ _ [(6, .int .i64 ((k : Nat) : Int)), (0, v), (4, .str acc), (5, .int .i64 ((m : Nat) : Int))] T
        repeat' (
          first
            | refine W_seq ?_
            | refine WO_nil ?_
            | refine V_seq ?_
            | refine W_region ?_
            | refine W_block ?_
            | refine W_skip ?_
            | refine W_ret ?_
            | refine V_ret ?_
            | refine W_cond_t rfl ?_
            | refine W_cond_f rfl ?_
            | refine WO_dst rfl rfl (by kernel_rfl) (by kernel_rfl) ?_
            | refine WO_guard_t rfl rfl rfl rfl rfl (by kernel_rfl) (by kernel_rfl) ?_
            | refine WO_guard_f rfl rfl rfl rfl rfl rfl (by kernel_rfl) (by kernel_rfl) ?_
            | refine WO_guard_x rfl rfl rfl rfl rfl (by kernel_rfl) (by kernel_rfl) ?_
            | refine Ev_len rfl rfl rfl rfl rfl hv.len ?_
            | (refine Ev_call rfl rfl ((runit_runs hv hb hk (by omega)).mono ?_); rintro _ _ - ⟨rfl, rfl⟩; rw [hnw]; dsimp only)
            | refine Ev_move rfl ?_
            | refine Ev_assign rfl ?_
            | refine Ev_extract rfl rfl ?_
            | refine Ev_pick_t rfl rfl rfl ?_
            | refine Ev_pick_f rfl rfl rfl ?_
            | refine Ev_lssN rfl rfl ?_
            | refine Ev_geqN rfl rfl ?_
            | refine Ev_eqlN rfl rfl ?_
            | refine Ev_addN rfl rfl (by simp only [lim]; omega) ?_
            | refine Ev_subN rfl rfl (by simp only [lim]; omega) (by first | omega | (dsimp only; done) | (dsimp only; omega)) ?_
            | refine Ev_shlN (m := 10) (q := 1024) rfl rfl rfl rfl (by simp only [lim]; omega) ?_
            | refine Ev_convN rfl rfl rfl rfl rfl (by simp only [lim]; omega) ?_
            | (refine WO_guard_dt rfl rfl rfl rfl rfl (by kernel_rfl) (by kernel_rfl) (fun hg => ?_) (fun hg => ?_) <;> (try dsimp only at hg) <;> try (exfalso; first | omega | exact hg rfl))
            | (refine W_cond rfl (fun hc => ?_) (fun hc => ?_) <;> (try dsimp only at hc) <;> try (exfalso; first | omega | exact hc rfl)))
        · rw [dif_pos (by omega)] at hrl
          have hnone : rl l none = none := by rw [← heq, hrl]; rfl
          have hd := ref_none hb hnone
          refine V_done rfl rfl ?_
          exact ⟨⟨by omega, by omega, hok, fun _ _ _ => rfl⟩, by rw [hd]; rfl⟩
        · rw [dif_neg (by omega), if_pos ⟨by omega, by omega, rfl⟩, Option.getD_some] at hrl
          have hokR : okR (65536 + (m - 55296) * 1024 + (n - 56320)) := by unfold okR; omega
          refine Ev_conv_rune rfl rfl rfl rfl rfl ?_
          rw [encodeR_runeL hokR]
          repeat (
            refine WO_dst rfl rfl (by kernel_rfl) (by kernel_rfl) ?_)
          refine Ev_sadd rfl rfl (by have := runeL_len (65536 + (m - 55296) * 1024 + (n - 56320)); omega) ?_
          repeat (
            first
              | refine W_seq ?_
              | refine WO_nil ?_
              | refine V_seq ?_
              | refine W_region ?_
              | refine W_exit ?_
              | refine V_block_x rfl ?_
              | refine V_seq_x ?_
              | refine WO_dst rfl rfl (by kernel_rfl) (by kernel_rfl) ?_
              | refine Ev_assign rfl ?_)
          refine back' (k + w) none (acc ++ runeL (65536 + (m - 55296) * 1024 + (n - 56320))) _ (by omega) ⟨rfl, by dsimp only; omega, ?_, fun m h => (by cases h), ?_, ?_⟩ ⟨rfl, rfl, rfl, rfl, trivial⟩
          · dsimp only
            rw [← heq, hrl, List.drop_drop, Option.map_map]
            congr 1; funext z; simp
          · dsimp only; rw [List.length_append]; have := runeL_len (65536 + (m - 55296) * 1024 + (n - 56320)); omega
          · intro c h
            rcases List.mem_append.1 h with h | h
            · exact hlt c h
            · exact runeL_lt hokR c h
        · rw [dif_neg (by omega), if_neg (by omega), if_pos (.inl rfl)] at hrl
          have hnone : rl l none = none := by rw [← heq, hrl]; rfl
          have hd := ref_none hb hnone
          refine V_done rfl rfl ?_
          exact ⟨⟨by omega, by omega, hok, fun _ _ _ => rfl⟩, by rw [hd]; rfl⟩
        · rw [dif_neg (by omega), if_neg (by omega), if_pos (.inl rfl)] at hrl
          have hnone : rl l none = none := by rw [← heq, hrl]; rfl
          have hd := ref_none hb hnone
          refine V_done rfl rfl ?_
          exact ⟨⟨by omega, by omega, hok, fun _ _ _ => rfl⟩, by rw [hd]; rfl⟩
    · have hkl : l.drop k = [] := List.drop_eq_nil_of_le (by omega)
      rw [hkl, rl, dif_pos rfl] at heq
      repeat' (
        first
          | refine W_seq ?_
          | refine WO_nil ?_
          | refine V_seq ?_
          | refine W_region ?_
          | refine W_exit ?_
          | refine V_block_x rfl ?_
          | refine V_seq_x ?_
          | refine V_loop_x ?_
          | refine WO_dst rfl rfl (by kernel_rfl) (by kernel_rfl) ?_
          | refine Ev_len rfl rfl rfl rfl rfl hv.len ?_
          | refine Ev_move rfl ?_
          | refine Ev_lssN rfl rfl ?_
          | (refine W_cond rfl (fun hc => ?_) (fun hc => ?_) <;> (try dsimp only at hc) <;> try (exfalso; first | omega | exact hc rfl)))
      refine Ev_call rfl rfl ((renc_runs (s := acc) hok hlt (by omega) (by omega)).mono ?_)
      rintro _ S1 - ⟨⟨hle1, hn1, hok1, hf1⟩, vx, rfl, hx, hbx⟩
      have hv1 : Br S1 v l := hv.keep fun c h => hf1 c (by simp [blkOf]) (hv.lt hok h)
      have hfr : Fr T S1 .nils (16 * l.length + 2) := ⟨hle1, by omega, hok1, hf1⟩
      cases h with
      | some m =>
        have hd := ref_none hb (by rw [← heq]; rfl)
        repeat' (
          first
            | refine W_seq ?_
            | refine WO_nil ?_
            | refine V_seq ?_
            | refine W_region ?_
            | refine W_ret ?_
            | refine V_ret ?_
            | refine W_cond_t rfl ?_
            | refine WO_dst rfl rfl (by kernel_rfl) (by kernel_rfl) ?_
            | refine WO_guard_f rfl rfl rfl rfl rfl rfl (by kernel_rfl) (by kernel_rfl) ?_
            | refine Ev_move rfl ?_
            | refine Ev_assign rfl ?_
            | refine Ev_extract rfl rfl ?_
            | refine Ev_pick_t rfl rfl rfl ?_
            | refine Ev_geqN rfl rfl ?_)
        refine V_done rfl rfl ?_
        exact ⟨hfr, by rw [hd]; rfl⟩
      | none =>
        have hz : rl l none = some acc := by rw [← heq]; simp
        have hd := ref_dec hb hz hlt
        cases hvs : vS acc with
        | false =>
          rw [hvs, if_neg (by simp)] at hd
          repeat' (
            first
              | refine W_seq ?_
              | refine WO_nil ?_
              | refine V_seq ?_
              | refine W_region ?_
              | refine W_ret ?_
              | refine V_ret ?_
              | refine W_cond_t rfl ?_
              | refine WO_dst rfl rfl (by kernel_rfl) (by kernel_rfl) ?_
              | refine WO_guard_t rfl rfl rfl rfl rfl (by kernel_rfl) (by kernel_rfl) ?_
              | refine WO_guard_f rfl rfl rfl rfl rfl rfl (by kernel_rfl) (by kernel_rfl) ?_
              | refine Ev_move rfl ?_
              | refine Ev_assign rfl ?_
              | refine Ev_extract rfl rfl ?_
              | refine Ev_pick_t rfl rfl rfl ?_
              | refine Ev_pick_f rfl rfl rfl ?_
              | refine Ev_neqN rfl rfl ?_
              | refine Ev_geq rfl rfl ?_)
          refine V_done rfl rfl ?_
          exact ⟨hfr, by rw [hd]; rfl⟩
        | true =>
          rw [hvs, if_pos rfl] at hx
          repeat' (
            first
              | refine W_seq ?_
              | refine WO_nil ?_
              | refine V_seq ?_
              | refine W_region ?_
              | refine W_skip ?_
              | refine W_ret ?_
              | refine V_ret ?_
              | refine WO_dst rfl rfl (by kernel_rfl) (by kernel_rfl) ?_
              | refine WO_guard_t rfl rfl rfl rfl rfl (by kernel_rfl) (by kernel_rfl) ?_
              | refine Ev_conv_to_str rfl rfl rfl rfl rfl rfl rfl hx.rd (bytesOf_sbytes encS_lt) ?_
              | refine Ev_conv_to_str rfl rfl rfl rfl rfl rfl rfl hv1 (bytesOf_sbytes hb) ?_
              | refine Ev_move rfl ?_
              | refine Ev_assign rfl ?_
              | refine Ev_extract rfl rfl ?_
              | refine Ev_pick_f rfl rfl rfl ?_
              | refine Ev_neqN rfl rfl ?_
              | refine Ev_geq rfl rfl ?_
              | refine Ev_sneq rfl rfl ?_
              | (refine W_cond rfl (fun hc => ?_) (fun hc => ?_) <;> (try dsimp only at hc) <;> try (exfalso; first | omega | exact hc rfl)))
          · rw [if_neg (fun h => hc h.2)] at hd
            refine V_done rfl rfl ?_
            exact ⟨hfr, by rw [hd]; rfl⟩
          · rw [if_pos ⟨hvs, Decidable.not_not.1 hc⟩] at hd
            refine V_done rfl rfl ?_
            exact ⟨hfr, by rw [hd]; rfl⟩
  · exact ⟨rfl, Nat.zero_le _, by cases h : rl l none <;> simp [h], fun m h => (by cases h), by simp, by simp⟩
end Go.Proofs.YthhbnnnokmefoaaDoor
/- caraferef1.Reader: what its functions do. -/



namespace Go.Proofs.YthhbnnnokmefoaaDoor
open GX
set_option maxHeartbeats 8000000
/-- a reader -/
structure Rq (S : St) (p : Nat) (vb : AV) (b : List Nat) (r : RdS) : Prop where
  cell : S.h.get p = some (.cells 61 [vb, .int .i64 ((r.pos : Nat) : Int), .bool (decide (r.err ≠ 0)), .int .i64 r.err, .int .i64 r.at_] false)
  rd : Rd S vb 1 (sbytes b) b.length
  ne : blkOf vb ≠ some p
  le : r.pos ≤ b.length
theorem Rq.fr {S S' : St} {p : Nat} {vb : AV} {b : List Nat} {r : RdS} {k : Nat} (h : Rq S p vb b r) (hok : Sok S) (a : Fr S S' .nils k) : Rq S' p vb b r :=
  ⟨by rw [a.same p (by simp [blkOf]) (hok _ _ h.cell)]; exact h.cell, h.rd.keep (fun c hc => a.same c (by simp [blkOf]) (h.rd.lt hok hc)), h.ne, h.le⟩
theorem veq_bool (b : Bool) : veq (.bool b) (.bool b) = true := by cases b <;> rfl
theorem qrefuse_runs {S : St} {p : Nat} {vb : AV} {b : List Nat} {r : RdS} {c a : Int} (hok : Sok S) (h : Rq S p vb b r) (hn : S.n ≤ 1000000000) (hc0 : c ≠ 0) :
    Runs X1 73 [.ptr p 0, .int .i64 c, .int .i64 a] S fun _ S' => Rq S' p vb b (r.refuse c a) ∧ FrP S S' p := by
  have hp : p < S.n := hok _ _ h.cell
  refine Runs_fn (m := 22) (by kernel_rfl) Tryd.func73 rfl (by kernel_rfl) (by kernel_rfl) ?_
  repeat' (
    first
      | refine W_seq ?_
      | refine WO_nil ?_
      | refine V_seq ?_
      | refine W_region ?_
      | refine W_skip ?_
      | refine WO_dst rfl rfl (by kernel_rfl) (by kernel_rfl) ?_
      | refine WO_no rfl rfl ?_
      | refine Ev_load rfl rfl rfl h.cell rfl (veq_bool _) ?_
      | refine Ev_move rfl ?_
      | refine Ev_not rfl ?_
      | refine Ev_nilCheck rfl ?_
      | refine Ev_fieldAddr rfl rfl rfl rfl rfl rfl ?_
      | (refine W_cond rfl (fun hc => ?_) (fun hc => ?_) <;> (try dsimp only at hc) <;> try (exfalso; first | omega | exact hc rfl)))
  · have he : r.err = 0 := by omega
    refine Ev_store1 rfl rfl rfl rfl rfl rfl h.cell (by simp) (by omega) ?_
    intro S1 hn1 hq1 hf1
    repeat (
      first
        | refine W_seq ?_
        | refine WO_nil ?_
        | refine V_seq ?_
        | refine W_region ?_
        | refine WO_dst rfl rfl (by kernel_rfl) (by kernel_rfl) ?_
        | refine WO_no rfl rfl ?_
        | refine Ev_move rfl ?_
        | refine Ev_nilCheck rfl ?_
        | refine Ev_fieldAddr rfl rfl rfl rfl rfl rfl ?_)
    refine Ev_store1 rfl rfl rfl rfl rfl rfl hq1 (by simp [lput]) (by omega) ?_
    intro S2 hn2 hq2 hf2
    repeat (
      first
        | refine WO_nil ?_
        | refine V_seq ?_
        | refine W_region ?_
        | refine WO_dst rfl rfl (by kernel_rfl) (by kernel_rfl) ?_
        | refine WO_no rfl rfl ?_
        | refine Ev_move rfl ?_
        | refine Ev_nilCheck rfl ?_
        | refine Ev_fieldAddr rfl rfl rfl rfl rfl rfl ?_)
    refine Ev_store1 rfl rfl rfl rfl rfl rfl hq2 (by simp [lput]) (by omega) ?_
    intro S3 hn3 hq3 hf3
    repeat (
      refine WO_nil ?_)
    refine V_done rfl rfl ?_
    have hok1 := Sok.upd hok hp hn1 hq1 hf1
    have hok2 := Sok.upd hok1 (by omega) hn2 hq2 hf2
    have hr : r.refuse c a = { r with err := c, at_ := a } := by unfold RdS.refuse; rw [if_pos ⟨he, hc0⟩]
    refine ⟨⟨by rw [hr, hq3]; dsimp only; rw [decide_eq_true hc0]; rfl, h.rd.keep (fun d hd => ?_), h.ne, by rw [hr]; exact h.le⟩, ⟨by omega, Sok.upd hok2 (by omega) hn3 hq3 hf3, fun d hd => by rw [hf3 d hd, hf2 d hd, hf1 d hd]⟩⟩
    have hdp : d ≠ p := fun e => h.ne (by rw [hd, e])
    rw [hf3 d hdp, hf2 d hdp, hf1 d hdp]
  all_goals
    refine V_done rfl rfl ?_
    have hr : r.refuse c a = r := by unfold RdS.refuse; rw [if_neg (by omega)]
    rw [hr]; exact ⟨h, FrP.refl hok⟩
theorem take_zero (r : RdS) (b : List Nat) : r.take b 0 = ([], r) := by
  unfold RdS.take
  split
  · rfl
  · rw [if_neg (by omega), List.take_zero, Nat.add_zero]
theorem qbytes_runs {S : St} {p : Nat} {vb : AV} {b : List Nat} {r : RdS} {n : Int} (hok : Sok S) (h : Rq S p vb b r) (hn : S.n + 2 ≤ 1000000000) (hb : b.length ≤ 1000000000) (hm : n < 9223372036854775808) :
    Runs X1 72 [.ptr p 0, .int .i64 n] S fun v S' => Rq S' p vb b (r.take b n.toNat).2 ∧ FrQ S S' p 2 ∧ Rd S' v 1 (sbytes (r.take b n.toNat).1) (r.take b n.toNat).1.length ∧ ∀ c, blkOf v = some c → S.n ≤ c := by
  have hp : p < S.n := hok _ _ h.cell
  have hle := h.le
  refine Runs_fn (m := 60) (by kernel_rfl) Tryd.func72 rfl (by kernel_rfl) (by kernel_rfl) ?_
  by_cases hneg : n < 0
  · rw [show n.toNat = 0 by omega, take_zero]
    repeat' (
      first
        | refine W_seq ?_
        | refine WO_nil ?_
        | refine V_seq ?_
        | refine W_region ?_
        | refine W_ret ?_
        | refine V_ret ?_
        | refine W_cond_t rfl ?_
        | refine WO_dst rfl rfl (by kernel_rfl) (by kernel_rfl) ?_
        | refine WO_guard_t rfl rfl rfl rfl rfl (by kernel_rfl) (by kernel_rfl) ?_
        | refine WO_guard_f rfl rfl rfl rfl rfl rfl (by kernel_rfl) (by kernel_rfl) ?_
        | refine Ev_load rfl rfl rfl h.cell rfl (veq_bool _) ?_
        | refine Ev_move rfl ?_
        | refine Ev_assign rfl ?_
        | refine Ev_pick_t rfl rfl rfl ?_
        | refine Ev_pick_f rfl rfl rfl ?_
        | refine Ev_lss rfl rfl ?_
        | refine Ev_nilCheck rfl ?_
        | refine Ev_fieldAddr rfl rfl rfl rfl rfl rfl ?_
        | (refine WO_guard_df rfl rfl rfl rfl rfl (by kernel_rfl) (by kernel_rfl) (fun hg => ?_) (fun hg => ?_) <;> (try dsimp only at hg) <;> try (exfalso; first | omega | exact hg rfl))
        | (refine W_cond rfl (fun hc => ?_) (fun hc => ?_) <;> (try dsimp only at hc) <;> try (exfalso; first | omega | exact hc rfl)))
    all_goals
      refine V_done rfl rfl ?_
      exact ⟨h, (Fr.q (k := 2) ⟨Nat.le_refl _, by omega, hok, fun _ _ _ => rfl⟩), ⟨rfl, rfl, rfl, rfl, rfl, rfl⟩, fun c hc => by cases hc⟩
  · obtain ⟨m, rfl⟩ : ∃ m : Nat, n = (m : Int) := ⟨n.toNat, by omega⟩
    rw [Int.toNat_natCast]
    repeat' (
      first
        | refine W_seq ?_
        | refine WO_nil ?_
        | refine V_seq ?_
        | refine W_region ?_
        | refine W_drawn (by kernel_rfl) ?_
        | refine W_skip ?_
        | refine W_ret ?_
        | refine V_ret ?_
        | refine W_cond_t rfl ?_
        | refine W_cond_f rfl ?_
        | refine WO_dst rfl rfl (by kernel_rfl) (by kernel_rfl) ?_
        | refine WO_guard_t rfl rfl rfl rfl rfl (by kernel_rfl) (by kernel_rfl) ?_
        | refine WO_guard_f rfl rfl rfl rfl rfl rfl (by kernel_rfl) (by kernel_rfl) ?_
        | refine Ev_load rfl rfl rfl h.cell rfl (veq_bool _) ?_
        | refine Ev_load rfl rfl rfl h.cell rfl (veq_int _ _) ?_
        | refine Ev_load rfl rfl rfl h.cell rfl h.rd.self ?_
        | refine Ev_len rfl rfl rfl rfl rfl h.rd.len ?_
        | refine Ev_move rfl ?_
        | refine Ev_assign rfl ?_
        | refine Ev_pick_t rfl rfl rfl ?_
        | refine Ev_pick_f rfl rfl rfl ?_
        | refine Ev_lssN rfl rfl ?_
        | refine Ev_nilCheck rfl ?_
        | refine Ev_fieldAddr rfl rfl rfl rfl rfl rfl ?_
        | refine Ev_addN rfl rfl (by simp only [lim]; omega) ?_
        | refine Ev_subN rfl rfl (by simp only [lim]; omega) (by first | omega | (dsimp only; done) | (dsimp only; omega)) ?_
        | (refine WO_guard_df rfl rfl rfl rfl rfl (by kernel_rfl) (by kernel_rfl) (fun hg => ?_) (fun hg => ?_) <;> (try dsimp only at hg) <;> try (exfalso; first | omega | exact hg rfl))
        | (refine W_cond rfl (fun hc => ?_) (fun hc => ?_) <;> (try dsimp only at hc) <;> try (exfalso; first | omega | exact hc rfl)))
    · refine Ev_call rfl rfl ((qrefuse_runs hok h (by omega) (by decide)).mono ?_)
      rintro _ S1 - ⟨h1, hF1⟩
      repeat (
        first
          | refine W_seq ?_
          | refine WO_nil ?_
          | refine V_seq ?_
          | refine W_region ?_
          | refine W_ret ?_
          | refine V_ret ?_
          | refine WO_dst rfl rfl (by kernel_rfl) (by kernel_rfl) ?_
          | refine Ev_assign rfl ?_)
      refine V_done rfl rfl ?_
      have e : r.take b m = ([], r.refuse 10 (b.length : Int)) := by unfold RdS.take; rw [if_neg hg, if_pos hc]
      rw [e]
      have hq := hF1.q
      exact ⟨h1, ⟨hq.le, by have := hq.n; omega, hq.ok, hq.same⟩, ⟨rfl, rfl, rfl, rfl, rfl, rfl⟩, fun c hc => by cases hc⟩
    · refine Ev_slice_lh rfl rfl rfl rfl rfl rfl h.rd (by omega) (by omega) ?_
      intro v' hv' hbv
      have e : r.take b m = ((b.drop r.pos).take m, { r with pos := r.pos + m }) := by unfold RdS.take; rw [if_neg hg, if_neg hc]
      have hml : ((b.drop r.pos).take m).length = m := by simp only [List.length_take, List.length_drop]; omega
      have hv2 : Rd S v' 1 (sbytes ((b.drop r.pos).take m)) ((b.drop r.pos).take m).length := by
        refine hv'.eq ?_ (by omega)
        unfold sbytes
        simp only [Nat.mul_one, List.map_take, List.map_drop, List.drop_take]
        congr 1
        omega
      repeat (
        first
          | refine W_seq ?_
          | refine WO_nil ?_
          | refine V_seq ?_
          | refine W_region ?_
          | refine WO_dst rfl rfl (by kernel_rfl) (by kernel_rfl) ?_
          | refine WO_no rfl rfl ?_
          | refine Ev_load rfl rfl rfl h.cell rfl (veq_int _ _) ?_
          | refine Ev_move rfl ?_
          | refine Ev_assign rfl ?_
          | refine Ev_nilCheck rfl ?_
          | refine Ev_fieldAddr rfl rfl rfl rfl rfl rfl ?_
          | refine Ev_addN rfl rfl (by simp only [lim]; omega) ?_)
      refine Ev_store1 rfl rfl rfl rfl rfl rfl h.cell (by simp) (by omega) ?_
      intro S1 hn1 hq1 hf1
      have hk : ∀ d, blkOf vb = some d → S1.h.get d = S.h.get d := fun d hd => hf1 d (fun e2 => h.ne (by rw [hd, e2]))
      have hok1 := Sok.upd hok hp hn1 hq1 hf1
      have hv3 := hv2.keep (fun d hd => hk d (hbv d hd))
      repeat (
        first
          | refine W_seq ?_
          | refine WO_nil ?_
          | refine V_seq ?_
          | refine W_region ?_
          | refine WO_dst rfl rfl (by kernel_rfl) (by kernel_rfl) ?_)
      refine Ev_buildSlice rfl rfl rfl rfl rfl rfl hok1 (by omega) ?_
      intro S2 hn2 hok2 hq2 hf2
      have hv4 := hv3.keep (fun d hd => hf2 d (hv3.lt hok1 hd))
      repeat (
        first
          | refine WO_dst rfl rfl (by kernel_rfl) (by kernel_rfl) ?_
          | refine Ev_move rfl ?_)
      refine Ev_append_gz (cs := []) (m := 0) rfl rfl rfl rfl rfl rfl rfl rfl rfl rfl (.inr ⟨rfl, rfl, S1.n, 0, rfl, Rd_lit hq2 rfl (by kernel_rfl)⟩) hv4 (by first | exact sbytes_one _ | (unfold sbytes; simp [AV.one])) hok2 (by omega) (by dsimp only; omega) (by omega) ?_
      intro v3 S3 hle3 hn3 hok3 hown3 hf3 hb3
      repeat (
        first
          | refine WO_nil ?_
          | refine V_seq ?_
          | refine W_ret ?_
          | refine WO_dst rfl rfl (by kernel_rfl) (by kernel_rfl) ?_
          | refine Ev_assign rfl ?_)
      refine V_done rfl rfl ?_
      rw [e]
      have hsame : ∀ c, c < S1.n → S3.h.get c = S1.h.get c := fun c h => by rw [hf3 c (fun h2 => by cases h2; omega) (by omega), hf2 c h]
      refine ⟨⟨by rw [hsame p (by omega)]; exact hq1, h.rd.keep (fun d hd => ?_), h.ne, by dsimp only; omega⟩, ⟨by omega, by omega, hok3, fun c h1 h2 => by rw [hsame c (by omega), hf1 c h1]⟩, (hown3.eq rfl (by dsimp only; omega)).rd, fun c hc => ?_⟩
      · have := h.rd.lt hok hd
        rw [hsame d (by omega), hk d hd]
      · rcases hb3 c hc with h2 | h2
        · cases h2; omega
        · omega
    · refine V_done rfl rfl ?_
      have e : r.take b m = ([], r) := by unfold RdS.take; rw [if_pos (by omega)]
      rw [e]
      exact ⟨h, (Fr.q (k := 2) ⟨Nat.le_refl _, by omega, hok, fun _ _ _ => rfl⟩), ⟨rfl, rfl, rfl, rfl, rfl, rfl⟩, fun c hc => by cases hc⟩
end Go.Proofs.YthhbnnnokmefoaaDoor
/- caraferef1.Reader's other functions. -/

namespace Go.Proofs.YthhbnnnokmefoaaDoor
open GX
set_option maxHeartbeats 8000000
theorem qnum_runs {S : St} {p : Nat} {vb : AV} {b : List Nat} {r : RdS} {n : Int} (hok : Sok S) (h : Rq S p vb b r) (hn : S.n + 2 ≤ 1000000000) (hb : b.length ≤ 1000000000) (hlt : ∀ x ∈ b, x < 256) :
    Runs X1 55 [.ptr p 0, .int .i64 n] S fun v S' => v = .int .i64 (numV (r.take b (sizeN n)).1) ∧ Rq S' p vb b (r.take b (sizeN n)).2 ∧ FrQ S S' p 2 := by
  have hsz := sizeN_le n
  refine Runs_fn (m := 25) (by kernel_rfl) Tryd.func55 rfl (by kernel_rfl) (by kernel_rfl) ?_
  repeat (
    first
      | refine W_seq ?_
      | refine WO_nil ?_
      | refine V_seq ?_
      | refine W_region ?_
      | refine WO_dst rfl rfl (by kernel_rfl) (by kernel_rfl) ?_
      | refine Ev_move rfl ?_
      | refine Ev_assign rfl ?_)
  refine Ev_call rfl rfl ((width_runs n S).mono ?_)
  rintro _ _ - ⟨rfl, rfl⟩
  repeat (
    refine WO_dst rfl rfl (by kernel_rfl) (by kernel_rfl) ?_)
  refine Ev_call rfl rfl ((qbytes_runs hok h hn hb (by omega)).mono ?_)
  rintro v S1 - ⟨h1, hF1, hv, hbv⟩
  rw [Int.toNat_natCast] at h1 hv
  obtain ⟨t, ht⟩ : ∃ t, t = (r.take b (sizeN n)).1 := ⟨_, rfl⟩
  rw [← ht] at hv ⊢
  have htl : t.length ≤ sizeN n := by rw [ht]; exact take_len _ _ _
  have htb : ∀ x ∈ t, x < 256 := by rw [ht]; exact take_lt hlt
  repeat (
    first
      | refine WO_nil ?_
      | refine V_seq ?_
      | refine W_block ?_
      | refine WO_dst rfl rfl (by kernel_rfl) (by kernel_rfl) ?_
      | refine Ev_len rfl rfl rfl rfl rfl hv.len ?_
      | refine Ev_move rfl ?_)
  refine W_inv (fun i : Nat => [(13, .int .i64 ((i : Nat) : Int)), (12, .int .i64 ((t.length : Nat) : Int)), (11, v), (5, .int .u64 ((numOf (t.take i) : Nat) : Int))]) (fun i T => T = S1 ∧ i ≤ t.length) (fun i => t.length - i) ?_ 0 ⟨rfl, Nat.zero_le _⟩ ⟨rfl, rfl, rfl, rfl, trivial⟩
  rintro i T ⟨rfl, hi⟩ back
  have hacc := numOf_lt i (t.take i) (by rw [List.length_take]; omega) (fun x hx => htb x (List.mem_of_mem_take hx))
  have h7 : i < t.length → numOf (t.take i) < 72057594037927936 := fun h => Nat.lt_of_lt_of_le hacc (Nat.pow_le_pow_right (n := 256) (by omega) (show i ≤ 7 by omega))
  have hx : i < t.length → t.getD i 0 < 256 := fun h => by
    rw [List.getD_eq_getElem?_getD, List.getElem?_eq_getElem h]
    exact htb _ (List.getElem_mem h)
  have hsn := fun h => numOf_take (l := t) (i := i) h
  repeat' (
    first
      | refine W_seq ?_
      | refine WO_nil ?_
      | refine V_seq ?_
      | refine W_region ?_
      | refine W_block ?_
      | refine W_skip ?_
      | refine W_exit ?_
      | refine V_block ?_
      | refine V_block_x rfl ?_
      | refine V_seq_x ?_
      | refine V_loop_x ?_
      | refine WO_dst rfl rfl (by kernel_rfl) (by kernel_rfl) ?_
      | (refine Ev_indexAddr_rd rfl rfl rfl rfl rfl hv (by first | omega | (dsimp only; omega)) ?_; intro q hq)
      | refine Ev_load_pt rfl rfl rfl hq (by dsimp only; rw [Nat.mul_one]; exact sbytes_get (by first | omega | (dsimp only; omega))) (veq_int _ _) ?_
      | refine Ev_orN 8 rfl rfl rfl (by first | omega | (dsimp only; omega)) (by first | omega | (dsimp only; omega)) (by simp only [lim]; omega) ?_
      | refine Ev_move rfl ?_
      | refine Ev_assign rfl ?_
      | refine Ev_lssN rfl rfl ?_
      | refine Ev_addN rfl rfl (by simp only [lim]; omega) ?_
      | refine Ev_shlN (m := 8) (q := 256) rfl rfl rfl rfl (by simp only [lim]; omega) ?_
      | refine Ev_convN rfl rfl rfl rfl rfl (by simp only [lim]; omega) ?_
      | (refine W_cond rfl (fun hc => ?_) (fun hc => ?_) <;> (try dsimp only at hc) <;> try (exfalso; first | omega | exact hc rfl)))
  · refine back (i + 1) T _ (by omega) ⟨rfl, by omega⟩ ⟨rfl, rfl, rfl, ?_, trivial⟩
    show some (AV.int .u64 ((numOf (List.take i t) * 256 + t.getD i 0 : Nat) : Int)) = some (AV.int .u64 ((numOf (List.take (i + 1) t) : Nat) : Int))
    rw [hsn (by omega)]
  all_goals
    have hi2 : i = t.length := by omega
    subst hi2
    repeat (
      first
        | refine WO_nil ?_
        | refine V_seq ?_
        | refine W_ret ?_
        | refine WO_dst rfl rfl (by kernel_rfl) (by kernel_rfl) ?_
        | refine Ev_convw (k' := .i64) rfl rfl rfl rfl rfl ?_
        | refine Ev_assign rfl ?_)
    refine V_done rfl rfl ?_
    refine ⟨?_, h1, hF1⟩
    show AV.int .i64 (wrp .i64 ((numOf (t.take t.length) : Nat) : Int)) = AV.int .i64 (numV t)
    rw [List.take_length]; rfl
theorem qfail_runs {S : St} {p : Nat} {vb : AV} {b : List Nat} {r : RdS} {c : Int} (hok : Sok S) (h : Rq S p vb b r) (hn : S.n ≤ 1000000000) :
    Runs X1 56 [.ptr p 0, .int .i64 c] S fun _ S' => Rq S' p vb b (r.refuse c (r.pos : Int)) ∧ FrP S S' p := by
  refine Runs_fn (m := 13) (by kernel_rfl) Tryd.func56 rfl (by kernel_rfl) (by kernel_rfl) ?_
  repeat' (
    first
      | refine W_seq ?_
      | refine WO_nil ?_
      | refine V_seq ?_
      | refine W_region ?_
      | refine W_skip ?_
      | refine WO_dst rfl rfl (by kernel_rfl) (by kernel_rfl) ?_
      | refine Ev_load rfl rfl rfl h.cell rfl (veq_int _ _) ?_
      | refine Ev_move rfl ?_
      | refine Ev_neq rfl rfl ?_
      | refine Ev_nilCheck rfl ?_
      | refine Ev_fieldAddr rfl rfl rfl rfl rfl rfl ?_
      | (refine W_cond rfl (fun hc => ?_) (fun hc => ?_) <;> (try dsimp only at hc) <;> try (exfalso; first | omega | exact hc rfl)))
  · refine Ev_call rfl rfl ((qrefuse_runs hok h hn (by assumption)).mono ?_)
    rintro _ S1 - ⟨h1, hF1⟩
    repeat (
      refine WO_nil ?_)
    refine V_done rfl rfl ?_
    exact ⟨h1, hF1⟩
  · refine V_done rfl rfl ?_
    have hr : r.refuse c (r.pos : Int) = r := by unfold RdS.refuse; rw [if_neg (by omega)]
    rw [hr]; exact ⟨h, FrP.refl hok⟩
theorem qend_runs {S : St} {p : Nat} {vb : AV} {b : List Nat} {r : RdS} (h : Rq S p vb b r) :
    Runs X1 32 [.ptr p 0] S fun v S' => S' = S ∧ v = .tup [.int .i64 (r.endOf b).1, .int .i64 (r.endOf b).2] := by
  refine Runs_fn (m := 30) (by kernel_rfl) Tryd.func32 rfl (by kernel_rfl) (by kernel_rfl) ?_
  repeat' (
    first
      | refine W_seq ?_
      | refine WO_nil ?_
      | refine V_seq ?_
      | refine W_region ?_
      | refine W_drawn (by kernel_rfl) ?_
      | refine W_skip ?_
      | refine W_ret ?_
      | refine V_ret ?_
      | refine WO_dst rfl rfl (by kernel_rfl) (by kernel_rfl) ?_
      | refine Ev_load rfl rfl rfl h.cell rfl (veq_bool _) ?_
      | refine Ev_load rfl rfl rfl h.cell rfl (veq_int _ _) ?_
      | refine Ev_load rfl rfl rfl h.cell rfl h.rd.self ?_
      | refine Ev_len rfl rfl rfl rfl rfl h.rd.len ?_
      | refine Ev_move rfl ?_
      | refine Ev_assign rfl ?_
      | refine Ev_lssN rfl rfl ?_
      | refine Ev_nilCheck rfl ?_
      | refine Ev_fieldAddr rfl rfl rfl rfl rfl rfl ?_
      | (refine W_cond rfl (fun hc => ?_) (fun hc => ?_) <;> (try dsimp only at hc) <;> try (exfalso; first | omega | exact hc rfl)))
  · refine V_done rfl rfl ?_
    refine ⟨rfl, ?_⟩
    unfold RdS.endOf; rw [if_pos (by assumption)]; rfl
  · refine V_done rfl rfl ?_
    refine ⟨rfl, ?_⟩
    unfold RdS.endOf; rw [if_neg (by assumption), if_pos (by assumption)]; rfl
  · refine V_done rfl rfl ?_
    refine ⟨rfl, ?_⟩
    unfold RdS.endOf; rw [if_neg (by assumption), if_neg (by assumption)]; rfl
end Go.Proofs.YthhbnnnokmefoaaDoor
/- caraferef1.Reader.Text. -/

namespace Go.Proofs.YthhbnnnokmefoaaDoor
open GX
set_option maxHeartbeats 8000000
theorem refuse_zero (r : RdS) (a : Int) : r.refuse 0 a = r := by unfold RdS.refuse; rw [if_neg (fun h => h.2 rfl)]
theorem take_err2 {r : RdS} {b : List Nat} {n : Nat} (h : (r.take b n).2.err ≠ 0) : (r.take b n).1 = [] := by
  unfold RdS.take at h ⊢
  split at h <;> rename_i h1
  · rw [if_pos h1]
  · rw [if_neg h1]
    split at h <;> rename_i h2
    · rw [if_pos h2]
    · exact absurd h h1
theorem qtext_runs {S : St} {p : Nat} {vb : AV} {b : List Nat} {r : RdS} (hok : Sok S) (h : Rq S p vb b r) (hb : b.length ≤ 10000000) (hn : S.n ≤ 800000000) (hlt : ∀ x ∈ b, x < 256) :
    Runs X1 57 [.ptr p 0] S fun v S' => v = .str (r.text b).1 ∧ Rq S' p vb b (r.text b).2 ∧ FrQ S S' p 6000 := by
  refine Runs_fn (m := 38) (by kernel_rfl) Tryd.func57 rfl (by kernel_rfl) (by kernel_rfl) ?_
  repeat (
    first
      | refine W_seq ?_
      | refine WO_nil ?_
      | refine V_seq ?_
      | refine W_region ?_
      | refine WO_dst rfl rfl (by kernel_rfl) (by kernel_rfl) ?_
      | refine Ev_move rfl ?_
      | refine Ev_assign rfl ?_)
  refine Ev_call rfl rfl ((qnum_runs hok h (by omega) (by omega) hlt).mono ?_)
  rintro _ S1 - ⟨rfl, h1, hF1⟩
  rw [size2] at h1 ⊢
  have hx2 := take_len r b 2
  have hxb := take_lt (r := r) (n := 2) hlt
  have hnl := numOf_lt _ _ rfl hxb
  have hpw : 256 ^ (r.take b 2).1.length ≤ 65536 := Nat.pow_le_pow_right (n := 256) (by omega) hx2
  rw [numV_small (by omega)]
  obtain ⟨m, hm⟩ : ∃ m, m = numOf (r.take b 2).1 := ⟨_, rfl⟩
  obtain ⟨r1, hr1⟩ : ∃ r1, r1 = (r.take b 2).2 := ⟨_, rfl⟩
  rw [← hm] at hnl ⊢
  rw [← hr1] at h1
  have hn1 := hF1.n
  repeat' (
    first
      | refine W_seq ?_
      | refine WO_nil ?_
      | refine V_seq ?_
      | refine W_region ?_
      | refine W_skip ?_
      | refine WO_dst rfl rfl (by kernel_rfl) (by kernel_rfl) ?_
      | refine Ev_load rfl rfl rfl h1.cell rfl (veq_int _ _) ?_
      | refine Ev_move rfl ?_
      | refine Ev_assign rfl ?_
      | refine Ev_gtrN rfl rfl ?_
      | refine Ev_nilCheck rfl ?_
      | refine Ev_fieldAddr rfl rfl rfl rfl rfl rfl ?_
      | (refine W_cond rfl (fun hc => ?_) (fun hc => ?_) <;> (try dsimp only at hc) <;> try (exfalso; first | omega | exact hc rfl)))
  · refine Ev_call rfl rfl ((qrefuse_runs hF1.ok h1 (by omega) (by decide)).mono ?_)
    rintro _ S2 - ⟨h2, hF2⟩
    repeat (
      first
        | refine W_seq ?_
        | refine WO_nil ?_
        | refine V_seq ?_
        | refine W_region ?_
        | refine W_ret ?_
        | refine V_ret ?_
        | refine WO_dst rfl rfl (by kernel_rfl) (by kernel_rfl) ?_
        | refine Ev_assign rfl ?_)
    refine V_done rfl rfl ?_
    have e : r.text b = ([], r1.refuse 3 (r1.pos : Int)) := by
      unfold RdS.text; dsimp only; rw [← hm, ← hr1, if_pos hc, take_err (refuse_err (by decide))]
      dsimp only
      rw [decS_nil, show (some ([] : List Nat)).isSome = true from rfl, if_pos rfl, refuse_zero]; rfl
    rw [e]
    have hq := hF1.trans hF2.q
    exact ⟨rfl, h2, ⟨hq.le, by have := hq.n; omega, hq.ok, hq.same⟩⟩
  · refine Ev_call rfl rfl ((qbytes_runs hF1.ok h1 (by omega) (by omega) (by omega)).mono ?_)
    rintro v S3 - ⟨h3, hF3, hv3, -⟩
    rw [Int.toNat_natCast] at h3 hv3
    obtain ⟨u, hu⟩ : ∃ u, u = (RdS.take r1 b m).1 := ⟨_, rfl⟩
    obtain ⟨r3, hr3⟩ : ∃ r3, r3 = (RdS.take r1 b m).2 := ⟨_, rfl⟩
    rw [← hu] at hv3
    rw [← hr3] at h3
    have hul : u.length ≤ 256 := by have := take_len r1 b m; rw [← hu] at this; omega
    have hub : ∀ x ∈ u, x < 256 := by rw [hu]; exact take_lt hlt
    have hn3 := hF3.n
    have e : r.text b = ((decS u).getD [], r3.refuse (if (decS u).isSome = true then 0 else 12) (r3.pos : Int)) := by
      unfold RdS.text; dsimp only; rw [← hm, ← hr1, if_neg hc, ← hu, ← hr3]
    rw [e]
    have hq := hF1.trans hF3
    repeat' (
      first
        | refine W_seq ?_
        | refine WO_nil ?_
        | refine V_seq ?_
        | refine W_region ?_
        | refine W_skip ?_
        | refine W_ret ?_
        | refine V_ret ?_
        | refine WO_dst rfl rfl (by kernel_rfl) (by kernel_rfl) ?_
        | refine Ev_load rfl rfl rfl h3.cell rfl (veq_bool _) ?_
        | refine Ev_move rfl ?_
        | refine Ev_assign rfl ?_
        | refine Ev_nilCheck rfl ?_
        | refine Ev_fieldAddr rfl rfl rfl rfl rfl rfl ?_
        | (refine W_cond rfl (fun hc => ?_) (fun hc => ?_) <;> (try dsimp only at hc) <;> try (exfalso; first | omega | exact hc rfl)))
    · have he := hc
      refine V_done rfl rfl ?_
      have hu0 : u = [] := by rw [hu]; exact take_err2 (by rw [← hr3]; exact he)
      rw [hu0, decS_nil, show (some ([] : List Nat)).isSome = true from rfl, if_pos rfl, refuse_zero]
      exact ⟨rfl, h3, ⟨hq.le, by have := hq.n; omega, hq.ok, hq.same⟩⟩
    · refine Ev_call rfl rfl ((rdec_runs hF3.ok hv3 hub (by omega) (by omega)).mono ?_)
      rintro _ S4 - ⟨hF4, rfl⟩
      have h4 := h3.fr hF3.ok hF4
      have hq4 := hq.trans hF4.q
      have hn4 := hF4.n
      by_cases hs : (decS u).isSome = true
      · rw [if_pos hs, refuse_zero]
        repeat' (
          first
            | refine W_seq ?_
            | refine WO_nil ?_
            | refine V_seq ?_
            | refine W_region ?_
            | refine W_skip ?_
            | refine W_ret ?_
            | refine W_cond_f rfl ?_
            | refine WO_dst rfl rfl (by kernel_rfl) (by kernel_rfl) ?_
            | refine Ev_move rfl ?_
            | refine Ev_assign rfl ?_
            | refine Ev_extract rfl rfl ?_
            | refine Ev_neqN rfl rfl ?_)
        refine V_done rfl rfl ?_
        exact ⟨rfl, h4, ⟨hq4.le, by have := hq4.n; omega, hq4.ok, hq4.same⟩⟩
      · rw [if_neg hs]
        repeat' (
          first
            | refine W_seq ?_
            | refine WO_nil ?_
            | refine V_seq ?_
            | refine W_region ?_
            | refine W_cond_t rfl ?_
            | refine WO_dst rfl rfl (by kernel_rfl) (by kernel_rfl) ?_
            | refine Ev_load rfl rfl rfl h4.cell rfl (veq_int _ _) ?_
            | refine Ev_move rfl ?_
            | refine Ev_assign rfl ?_
            | refine Ev_extract rfl rfl ?_
            | refine Ev_neqN rfl rfl ?_
            | refine Ev_nilCheck rfl ?_
            | refine Ev_fieldAddr rfl rfl rfl rfl rfl rfl ?_)
        refine Ev_call rfl rfl ((qrefuse_runs hF4.ok h4 (by omega) (by decide)).mono ?_)
        rintro _ S5 - ⟨h5, hF5⟩
        have hq5 := hq4.trans hF5.q
        repeat (
          first
            | refine W_seq ?_
            | refine WO_nil ?_
            | refine V_seq ?_
            | refine W_region ?_
            | refine W_ret ?_
            | refine WO_dst rfl rfl (by kernel_rfl) (by kernel_rfl) ?_
            | refine Ev_move rfl ?_
            | refine Ev_assign rfl ?_)
        refine V_done rfl rfl ?_
        exact ⟨rfl, h5, ⟨hq5.le, by have := hq5.n; omega, hq5.ok, hq5.same⟩⟩
end Go.Proofs.YthhbnnnokmefoaaDoor
/- Chapter 3: the bytes of right constants are read as these: the plain law. -/



namespace Go.Proofs.YthhbnnnokmefoaaDoor
open GX
set_option maxHeartbeats 8000000
theorem take_at {b a rest : List Nat} {pos n : Nat} (h : b.drop pos = a ++ rest) (hn : a.length = n) : RdS.take ⟨pos, 0, 0⟩ b n = (a, ⟨pos + n, 0, 0⟩) ∧ b.drop (pos + n) = rest := by
  have hl := congrArg List.length h
  simp only [List.length_drop, List.length_append] at hl
  constructor
  · unfold RdS.take
    rw [if_neg (by simp), if_neg (by dsimp only; omega)]
    dsimp only
    rw [h, List.take_append_of_le_length (by omega), List.take_of_length_le (by omega)]
  · rw [← List.drop_drop, h, ← hn, List.drop_left]
theorem numOf_from : ∀ (m : List Nat) (a : Nat), m.foldl (fun a x => a * 256 + x) a = a * 256 ^ m.length + numOf m
  | [], a => by simp [numOf]
  | x :: m, a => by
    unfold numOf
    simp only [List.foldl_cons, List.length_cons]
    rw [numOf_from m (a * 256 + x), numOf_from m (0 * 256 + x), Nat.pow_succ, Nat.add_mul, Nat.mul_assoc, Nat.mul_comm 256, Nat.zero_mul, Nat.zero_add]; omega
theorem numOf_app (l m : List Nat) : numOf (l ++ m) = numOf l * 256 ^ m.length + numOf m := by
  conv => lhs; unfold numOf
  rw [List.foldl_append, numOf_from]; rfl
theorem emod_256 (n : Int) (q : Nat) : n % ((q * 256 : Nat) : Int) = n / (q : Int) % 256 * (q : Int) + n % (q : Int) := by
  have h1 : n / (q : Int) / 256 = n / ((q : Int) * 256) := by rw [Int.ediv_ediv, if_neg (fun h => by omega), Int.sub_zero]
  rw [Int.natCast_mul, show ((256 : Nat) : Int) = 256 from rfl, Int.emod_def n, Int.emod_def n (q : Int), Int.emod_def (n / (q : Int)), ← h1, Int.sub_mul, Int.mul_assoc (q : Int)]
  have e1 : 256 * (n / (q : Int) / 256) * (q : Int) = (q : Int) * (256 * (n / (q : Int) / 256)) := Int.mul_comm _ _
  have e2 : n / (q : Int) * (q : Int) = (q : Int) * (n / (q : Int)) := Int.mul_comm _ _
  rw [e1, e2]; omega
theorem numOf_numL (n : Int) : ∀ j, ((numOf (numL n j) : Nat) : Int) = n % ((256 ^ j : Nat) : Int) := by
  intro j
  induction j with
  | zero => simp [numL, numOf]
  | succ j ih =>
    have e : numL n (j + 1) = [byteAt n j] ++ numL n j := rfl
    rw [e, numOf_app, numL_len, show numOf [byteAt n j] = byteAt n j by simp [numOf], Int.natCast_add, ih, Int.natCast_mul]
    have hb : ((byteAt n j : Nat) : Int) = n / ((256 ^ j : Nat) : Int) % 256 := by
      unfold byteAt
      rw [show (2 ^ (8 * j) : Nat) = 256 ^ j by rw [Nat.pow_mul]]
      have : 0 ≤ n / ((256 ^ j : Nat) : Int) % 256 := by omega
      omega
    rw [hb, Nat.pow_succ, emod_256]
theorem numV_4 {n : Nat} (h : n < 4294967296) : numV (numL (n : Int) 4) = (n : Int) := by
  unfold numV
  rw [numOf_numL, show ((256 ^ 4 : Nat) : Int) = 4294967296 from rfl, Int.emod_eq_of_lt (by omega) (by omega)]
  exact wrp_in (by simp only [inR]; omega)
theorem numV_i {n : Int} (h1 : -2147483648 ≤ n) (h2 : n < 2147483648) : wrp .i32 (numV (numL n 4)) = n := by
  unfold numV
  rw [numOf_numL, show ((256 ^ 4 : Nat) : Int) = 4294967296 from rfl, wrp_in (k := .i64) (by simp only [inR]; omega), wrp_eq]
  show IntKind.wrap .i32 (n % 4294967296) = n
  simp [IntKind.wrap, IntKind.signed, IntKind.bits]
  split <;> omega
theorem numV_1 {n : Int} (h1 : 0 ≤ n) (h2 : n < 256) : numV (numL n 1) = n := by
  unfold numV
  rw [numOf_numL, show ((256 ^ 1 : Nat) : Int) = 256 from rfl, Int.emod_eq_of_lt (by omega) (by omega)]
  exact wrp_in (by simp only [inR]; omega)
theorem numOf_2 {n : Nat} (h : n < 65536) : numOf (numL (n : Int) 2) = n := by
  have := numOf_numL (n : Int) 2
  rw [show ((256 ^ 2 : Nat) : Int) = 65536 from rfl] at this
  omega
/-! texts of bytes below 128, without a 0 -/
def ascP (s : List Nat) : Prop := ∀ c ∈ s, 0 < c ∧ c < 128
theorem asc_ok {s : List Nat} (h : ascP s) : ∀ c ∈ s, okR c := fun c hc => by have := h c hc; unfold okR; omega
theorem asc_txt : ∀ {s : List Nat}, ascP s → txt s = s
  | [], _ => rfl
  | c :: s, h => by
    have h1 := h c (List.mem_cons_self ..)
    have h2 := asc_txt (s := s) (fun d hd => h d (List.mem_cons_of_mem _ hd))
    show runeL c ++ txt s = _
    rw [h2]; unfold runeL; rw [if_pos (by omega)]; rfl
theorem asc_enc1 : ∀ {s : List Nat}, ascP s → s.flatMap enc1 = s
  | [], _ => rfl
  | c :: s, h => by
    have h1 := h c (List.mem_cons_self ..)
    have h2 := asc_enc1 (s := s) (fun d hd => h d (List.mem_cons_of_mem _ hd))
    rw [List.flatMap_cons, h2]; unfold enc1 unitL; rw [if_neg (by omega), if_pos h1]; rfl
theorem asc_text {s : List Nat} (h : ascP s) : vS s = true ∧ encS s = s ∧ decS s = some s := by
  have h1 := vS_txt (asc_ok h) (t := []) (by simp)
  have h2 := encS_txt (asc_ok h) []
  have h3 := dec_encs (asc_ok h)
  rw [List.append_nil, asc_txt h] at h1
  rw [List.append_nil, encS_nil, List.append_nil, asc_txt h, asc_enc1 h] at h2
  rw [asc_enc1 h, asc_txt h] at h3
  exact ⟨by rw [h1]; exact vS_nil, h2, h3⟩
theorem textL_a {s : List Nat} (h : ascP s) (hl : s.length ≤ 256) : textL s = numL (s.length : Int) 2 ++ s := by
  obtain ⟨h1, h2, _⟩ := asc_text h
  unfold textL textB
  rw [h2, if_pos ⟨h1, hl⟩]
theorem text_at {b rest s : List Nat} {pos : Nat} (ha : ascP s) (hl : s.length ≤ 256) (h : b.drop pos = textL s ++ rest) : RdS.text ⟨pos, 0, 0⟩ b = (s, ⟨pos + (textL s).length, 0, 0⟩) ∧ b.drop (pos + (textL s).length) = rest := by
  obtain ⟨h1, h2, h3⟩ := asc_text ha
  rw [textL_a ha hl, List.append_assoc] at h
  obtain ⟨e1, d1⟩ := take_at h (numL_len _ 2)
  obtain ⟨e2, d2⟩ := take_at d1 rfl
  have e : (textL s).length = 2 + s.length := by rw [textL_a ha hl, List.length_append, numL_len]
  rw [e, ← Nat.add_assoc]
  refine ⟨?_, d2⟩
  unfold RdS.text
  dsimp only
  rw [e1]
  dsimp only
  rw [numOf_2 (by omega), if_neg (by omega), e2]
  dsimp only
  rw [h3]
  simp [refuse_zero]
theorem asc_app {s t : List Nat} (h1 : ascP s) (h2 : ascP t) : ascP (s ++ t) := fun c hc => (List.mem_append.1 hc).elim (h1 c) (h2 c)
theorem asc_cons {c : Nat} {s : List Nat} (h1 : 0 < c ∧ c < 128) (h2 : ascP s) : ascP (c :: s) := fun d hd => (List.mem_cons.1 hd).elim (fun e => by rw [e]; exact h1) (h2 d)
theorem asc_nil : ascP [] := fun c hc => by cases hc
theorem asc_name {s : List Nat} (h : nameP s) : ascP s := fun c hc => ⟨(name_c h c hc).2.2.2, (name_c h c hc).2.2.1⟩
theorem asc_base1 : ∀ s : List Nat, ascP (s.take (base1 s))
  | [] => asc_nil
  | c :: r => by
    rw [base1_cons]
    split
    · rename_i h; subst h; exact asc_cons (by omega) asc_nil
    · split
      · rename_i h; subst h
        split
        · rename_i k hk
          split
          · rename_i hn
            have h2 := (semi_some hk).2.1
            have h1 := (semi_some hk).1
            rw [List.take_succ_cons]
            refine asc_cons (by omega) ?_
            rw [h2, List.take_append]
            refine asc_app ?_ ?_
            · rw [List.take_take]
              exact fun c hc => asc_name hn c (List.take_subset_take_left _ (Nat.min_le_right _ _) hc)
            · rw [List.length_take, Nat.min_eq_left (by omega), show k + 1 - k = 1 by omega]
              exact asc_cons (by omega) asc_nil
          · exact asc_nil
        · exact asc_nil
      · exact asc_nil
theorem asc_oneS (s : List Nat) : ascP (s.take (oneS s)) := by
  cases s with
  | nil => exact asc_nil
  | cons c r =>
    rw [oneS_cons]
    split
    · rename_i h; subst h
      split
      · exact asc_nil
      · rw [List.take_succ_cons]; exact asc_cons (by omega) (asc_base1 r)
    · exact asc_base1 _
theorem asc_field {s : List Nat} (h : fieldP s) : ascP s := by
  have := asc_oneS s
  rw [h.2, List.take_length] at this; exact this
theorem asc_fields : ∀ (k : Nat) (s : List Nat), ascP (fieldsM k s).2 → ascP s
  | 0, s, h => h
  | k + 1, s, h => by
    rw [fieldsM_s] at h
    by_cases h0 : oneS s = 0
    · rw [if_pos h0] at h; exact h
    · rw [if_neg h0] at h
      have h1 := asc_fields k _ h
      rw [← List.take_append_drop (oneS s) s]
      exact asc_app (asc_oneS s) h1
theorem take1 {s : List Nat} {c : Nat} (h : s.take 1 = [c]) : s = c :: s.drop 1 := by
  rw [← List.take_append_drop 1 s, h]; simp
theorem asc_meth {s : List Nat} (h : (methS s).isSome = true) : ascP s := by
  unfold methS at h
  split at h
  · rename_i g
    obtain ⟨g1, g2, g3⟩ := g
    rw [take1 g1]
    refine asc_cons (by omega) (asc_fields 8 _ ?_)
    rw [take1 g2]
    refine asc_cons (by omega) ?_
    rcases g3 with g | g
    · rw [g]; exact asc_cons (by omega) asc_nil
    · exact asc_field g
  · cases h
theorem right_asc {c : CnA} (h : rightP c) : ascP c.cl ∧ ascP c.nm ∧ ascP c.ds := by
  rcases h with ⟨_, h1, h2, h3⟩ | ⟨_, _, h1, h2, h3⟩ | ⟨_, h1, _, _, h2, h3⟩ | ⟨_, h1, _, h2, h3⟩
  · rw [h1, h2, h3]; exact ⟨asc_nil, asc_nil, asc_nil⟩
  · rw [h2, h3]
    exact ⟨h1.elim (fun g => asc_field g.2) asc_name, asc_nil, asc_nil⟩
  · exact ⟨asc_name h2, asc_name h3, asc_meth h1⟩
  · exact ⟨asc_name h2, asc_name h3, asc_field h1⟩
/-! a reader of constants -/
noncomputable def ckind (b : List Nat) (r : RdS) : Int := numV (r.take b 1).1
/-- what is read as one constant, and the reader behind it -/
noncomputable def cstep (b : List Nat) (r : RdS) : CnA × RdS :=
  if ckind b r = 3 then (⟨3, wrp .i32 (numV ((r.take b 1).2.take b 4).1), [], [], []⟩, ((r.take b 1).2.take b 4).2)
  else if ckind b r = 9 ∨ ckind b r = 10 then
    (⟨ckind b r, 0, ((r.take b 1).2.text b).1, (((r.take b 1).2.text b).2.text b).1, ((((r.take b 1).2.text b).2.text b).2.text b).1⟩, ((((r.take b 1).2.text b).2.text b).2.text b).2)
  else if ckind b r = 7 then (⟨7, 0, ((r.take b 1).2.text b).1, [], []⟩, ((r.take b 1).2.text b).2)
  else (⟨ckind b r, 0, [], [], []⟩, (r.take b 1).2.refuse 12 ((r.take b 1).2.pos : Int))
noncomputable def cnext (b : List Nat) (r : RdS) : RdS := if rightP (cstep b r).1 then (cstep b r).2 else (cstep b r).2.refuse 14 ((cstep b r).2.pos : Int)
noncomputable def cloop (b : List Nat) : Nat → RdS → List CnA → List CnA × RdS
  | 0, r, l => (l, r)
  | n + 1, r, l => if (cnext b r).err ≠ 0 then ([], cnext b r) else cloop b n (cnext b r) (l ++ [(cstep b r).1])
noncomputable def chead (b : List Nat) (r : RdS) : RdS := if 256 < numOf (r.take b 2).1 then (r.take b 2).2.refuse 4 ((r.take b 2).2.pos : Int) else (r.take b 2).2
/-- what is read as a pool, and the reader behind it -/
noncomputable def readS (b : List Nat) (r : RdS) : List CnA × RdS := if (chead b r).err ≠ 0 then ([], chead b r) else cloop b (numOf (r.take b 2).1) (chead b r) []
theorem constL_3 {c : CnA} (h : c.kind = 3) : constL c = numL c.kind 1 ++ numL c.n 4 := by unfold constL; rw [if_pos h]
theorem constL_9 {c : CnA} (h : c.kind = 9 ∨ c.kind = 10) : constL c = numL c.kind 1 ++ (textL c.cl ++ (textL c.nm ++ textL c.ds)) := by unfold constL; rw [if_neg (by omega), if_pos h]
theorem constL_7 {c : CnA} (h : c.kind = 7) : constL c = numL c.kind 1 ++ textL c.cl := by unfold constL; rw [if_neg (by omega), if_neg (by omega)]
theorem cstep_at {b rest : List Nat} {pos : Nat} {c : CnA} (hg : c.Good) (hr : rightP c) (h : b.drop pos = constL c ++ rest) : cstep b ⟨pos, 0, 0⟩ = (c, ⟨pos + (constL c).length, 0, 0⟩) ∧ b.drop (pos + (constL c).length) = rest := by
  obtain ⟨a1, a2, a3⟩ := right_asc hr
  have hl := right_len hr
  have hk : c.kind = 3 ∨ c.kind = 7 ∨ c.kind = 10 ∨ c.kind = 9 := by
    rcases hr with h | h | h | h
    · exact .inl h.1
    · exact .inr (.inl h.1)
    · exact .inr (.inr (.inl h.1))
    · exact .inr (.inr (.inr h.1))
  have hkk : ∀ {x : List Nat}, b.drop pos = numL c.kind 1 ++ x → RdS.take ⟨pos, 0, 0⟩ b 1 = (numL c.kind 1, ⟨pos + 1, 0, 0⟩) ∧ b.drop (pos + 1) = x ∧ ckind b ⟨pos, 0, 0⟩ = c.kind := by
    intro x hx
    obtain ⟨e1, d1⟩ := take_at hx (numL_len _ 1)
    refine ⟨e1, d1, ?_⟩
    unfold ckind
    rw [e1]
    exact numV_1 (by omega) (by omega)
  rcases hk with k | k | k
  · rw [constL_3 k, List.append_assoc] at h
    obtain ⟨e1, d1, ek⟩ := hkk h
    obtain ⟨e2, d2⟩ := take_at d1 (numL_len _ 4)
    rw [constL_3 k, List.length_append, numL_len, numL_len, show pos + (1 + 4) = pos + 1 + 4 by omega]
    refine ⟨?_, d2⟩
    unfold cstep
    rw [if_pos (by rw [ek, k]), e1]
    dsimp only
    rw [e2]
    dsimp only
    rw [numV_i hg.n1 hg.n2]
    obtain ⟨h1, h2, h3⟩ := (rightP_3 k).1 hr
    congr 1
    cases c; simp_all
  · rw [constL_7 k, List.append_assoc] at h
    obtain ⟨e1, d1, ek⟩ := hkk h
    obtain ⟨e2, d2⟩ := text_at a1 (by omega) d1
    rw [constL_7 k, List.length_append, numL_len, ← Nat.add_assoc]
    refine ⟨?_, d2⟩
    unfold cstep
    rw [if_neg (by omega), if_neg (by omega), if_pos (by omega), e1]
    dsimp only
    rw [e2]
    dsimp only
    obtain ⟨h1, h2, h3, h4⟩ := (rightP_7 k).1 hr
    congr 1
    cases c; simp_all
  · have k2 : c.kind = 9 ∨ c.kind = 10 := by omega
    rw [constL_9 k2, List.append_assoc, List.append_assoc, List.append_assoc] at h
    obtain ⟨e1, d1, ek⟩ := hkk h
    obtain ⟨e2, d2⟩ := text_at a1 (by omega) d1
    obtain ⟨e3, d3⟩ := text_at a2 (by omega) d2
    obtain ⟨e4, d4⟩ := text_at a3 (by omega) d3
    rw [constL_9 k2, List.length_append, List.length_append, List.length_append, numL_len, ← Nat.add_assoc, ← Nat.add_assoc, ← Nat.add_assoc]
    refine ⟨?_, d4⟩
    unfold cstep
    rw [if_neg (by omega), if_pos (by omega), ek, e1]
    dsimp only
    rw [e2]
    dsimp only
    rw [e3]
    dsimp only
    rw [e4]
    dsimp only
    have h0 : c.n = 0 := by
      rcases k with k | k
      · exact ((rightP_10 k).1 hr).2.2.1
      · exact ((rightP_9 k).1 hr).2.1
    congr 1
    cases c; simp_all
theorem cloop_at : ∀ {cs : List CnA} {b rest : List Nat} {pos : Nat} {l : List CnA}, (∀ c ∈ cs, c.Good ∧ rightP c) → b.drop pos = cs.flatMap constL ++ rest → cloop b cs.length ⟨pos, 0, 0⟩ l = (l ++ cs, ⟨pos + (cs.flatMap constL).length, 0, 0⟩) ∧ b.drop (pos + (cs.flatMap constL).length) = rest
  | [], b, rest, pos, l, _, h => ⟨by simp [cloop], by simpa using h⟩
  | c :: cs, b, rest, pos, l, hc, h => by
    obtain ⟨h1, h2⟩ := hc c (List.mem_cons_self ..)
    rw [List.flatMap_cons, List.append_assoc] at h
    obtain ⟨e1, d1⟩ := cstep_at h1 h2 h
    obtain ⟨e2, d2⟩ := cloop_at (l := l ++ [c]) (fun d hd => hc d (List.mem_cons_of_mem _ hd)) d1
    have en : cnext b ⟨pos, 0, 0⟩ = ⟨pos + (constL c).length, 0, 0⟩ := by unfold cnext; rw [e1, if_pos h2]
    rw [List.flatMap_cons, List.length_append, ← Nat.add_assoc]
    refine ⟨?_, d2⟩
    rw [List.length_cons]
    unfold cloop
    rw [en, if_neg (by simp), e1]
    dsimp only
    rw [e2]; simp
theorem readS_at {cs : List CnA} {b rest : List Nat} {pos : Nat} (hc : ∀ c ∈ cs, c.Good ∧ rightP c) (hl : cs.length ≤ 256) (h : b.drop pos = poolL cs ++ rest) : readS b ⟨pos, 0, 0⟩ = (cs, ⟨pos + (poolL cs).length, 0, 0⟩) := by
  unfold poolL at h ⊢
  rw [List.append_assoc] at h
  obtain ⟨e1, d1⟩ := take_at h (numL_len _ 2)
  have en := numOf_2 (n := cs.length) (by omega)
  have eh : chead b ⟨pos, 0, 0⟩ = ⟨pos + 2, 0, 0⟩ := by
    unfold chead
    rw [e1]
    dsimp only
    rw [en, if_neg (by omega)]
  unfold readS
  rw [eh, if_neg (by simp), e1]
  dsimp only
  rw [en, (cloop_at hc d1).1, List.length_append, numL_len, ← Nat.add_assoc]; simp
end Go.Proofs.YthhbnnnokmefoaaDoor
/- mutf.NewReader; carafebook.Same. -/

namespace Go.Proofs.YthhbnnnokmefoaaDoor
open GX
set_option maxHeartbeats 8000000
theorem newrd_runs {S : St} {v : AV} {b : List Nat} (hok : Sok S) (hv : Rd S v 1 (sbytes b) b.length) (hb : b.length ≤ 1000000000) (hn : S.n + 3 ≤ 1000000000) :
    Runs X1 28 [v] S fun x S' => ∃ p vb, x = .ptr p 0 ∧ S.n ≤ p ∧ p < S'.n ∧ Rr S' p vb b ⟨0, 0, 0⟩ ∧ (∀ c, blkOf vb = some c → S.n ≤ c) ∧ Fr S S' .nils 3 := by
  refine Runs_fn (m := 7) (by kernel_rfl) Tryd.func28 rfl (by kernel_rfl) (by kernel_rfl) ?_
  repeat (
    first
      | refine W_seq ?_
      | refine WO_nil ?_
      | refine V_seq ?_
      | refine W_region ?_
      | refine WO_dst rfl rfl (by kernel_rfl) (by kernel_rfl) ?_
      | refine Ev_move rfl ?_
      | refine Ev_assign rfl ?_)
  refine Ev_call rfl rfl ((clone_runs hok hv hb (by omega)).mono ?_)
  rintro w S1 - ⟨hF1, hz, hb1⟩
  have hn1 := hF1.n
  have hl1 := hF1.le
  have hwr := hz.rd
  repeat (
    refine WO_dst rfl rfl (by kernel_rfl) (by kernel_rfl) ?_)
  refine Ev_build (v := .agg [w, .int .i64 0, .int .i64 0, .int .i64 0]) rfl ?_ ?_
  · have hs := hwr.sl
    cases w <;> first | rfl | cases hs
  repeat (
    refine WO_dst rfl rfl (by kernel_rfl) (by kernel_rfl) ?_)
  refine Ev_box rfl hF1.ok (by omega) ?_
  intro S2 hn2 hok2 hq2 hf2
  repeat (
    first
      | refine WO_nil ?_
      | refine V_seq ?_
      | refine W_ret ?_
      | refine WO_dst rfl rfl (by kernel_rfl) (by kernel_rfl) ?_
      | refine Ev_assign rfl ?_)
  refine V_done rfl rfl ?_
  refine ⟨S1.n, w, rfl, by omega, by omega, ⟨hq2, hwr.keep (fun c hc => hf2 c (hwr.lt hF1.ok hc)), fun e => ?_, Nat.zero_le _⟩, hb1, ⟨by omega, by omega, hok2, fun c _ h => by rw [hf2 c (by omega), hF1.same c (by simp [blkOf]) h]⟩⟩
  have := hwr.lt hF1.ok e; omega
end Go.Proofs.YthhbnnnokmefoaaDoor
/- pool.Read: what it does. -/



namespace Go.Proofs.YthhbnnnokmefoaaDoor
open GX
set_option maxHeartbeats 16000000
theorem txt_len4 : ∀ cs : List Nat, (txt cs).length ≤ 4 * cs.length
  | [] => by simp [txt]
  | c :: cs => by
    have := runeL_len c
    have := txt_len4 cs
    show (runeL c ++ txt cs).length ≤ _
    simp only [List.length_append, List.length_cons]; omega
theorem enc1_pos (c : Nat) : 1 ≤ (enc1 c).length := by
  unfold enc1
  split
  · have := List.length_pos_iff.2 (unitL_ne (55296 + (c - 65536) / 1024)); rw [List.length_append]; omega
  · exact List.length_pos_iff.2 (unitL_ne c)
theorem encs_pos : ∀ cs : List Nat, cs.length ≤ (cs.flatMap enc1).length
  | [] => by simp
  | c :: cs => by
    have := enc1_pos c
    have := encs_pos cs
    simp only [List.flatMap_cons, List.length_append, List.length_cons]; omega
theorem text_take {r : RdS} {b : List Nat} : ∃ u : List Nat, (r.text b).1 = (decS u).getD [] ∧ u.length ≤ 256 ∧ ((∀ x ∈ b, x < 256) → ∀ x ∈ u, x < 256) := by
  unfold RdS.text
  dsimp only
  by_cases h : 256 < numOf (r.take b 2).1
  · rw [if_pos h, take_err (refuse_err (by decide))]
    exact ⟨[], rfl, by simp, fun _ x hx => by cases hx⟩
  · rw [if_neg h]
    refine ⟨_, rfl, ?_, fun hlt => take_lt hlt⟩
    have := take_len (r.take b 2).2 b (numOf (r.take b 2).1)
    omega
theorem text_good {r : RdS} {b : List Nat} (hlt : ∀ x ∈ b, x < 256) : (r.text b).1.length ≤ 1024 ∧ ∀ c ∈ (r.text b).1, c < 256 := by
  obtain ⟨u, hu, hul, hub⟩ := text_take (r := r) (b := b)
  rw [hu]
  cases hd : decS u with
  | none => simp
  | some w =>
    obtain ⟨cs, k1, k2, k3⟩ := dec_back _ (Nat.le_refl _) (hub hlt) hd
    have h1 := txt_len4 cs
    have h2 := encs_pos cs
    rw [← k3] at h2
    show w.length ≤ 1024 ∧ ∀ c ∈ w, c < 256
    rw [k2]
    exact ⟨by omega, txt_lt k1⟩
theorem refuse_11 {r : RdS} {c a : Int} (hc : c ≠ 11) (h : r.err ≠ 11) : (r.refuse c a).err ≠ 11 := by
  unfold RdS.refuse; split
  · exact hc
  · exact h
theorem take_11 {r : RdS} {b : List Nat} {n : Nat} (h : r.err ≠ 11) : (r.take b n).2.err ≠ 11 := by
  unfold RdS.take; split
  · exact h
  · split
    · exact refuse_11 (by decide) h
    · exact h
theorem ite_11 {p : Prop} [Decidable p] : (if p then (0 : Int) else 12) ≠ 11 := by split <;> decide
theorem text_11 {r : RdS} {b : List Nat} (h : r.err ≠ 11) : (r.text b).2.err ≠ 11 := by
  unfold RdS.text
  dsimp only
  refine refuse_11 ite_11 (take_11 ?_)
  split
  · exact refuse_11 (by decide) (take_11 h)
  · exact take_11 h
theorem cstep_11 {r : RdS} {b : List Nat} (h : r.err ≠ 11) : (cstep b r).2.err ≠ 11 := by
  unfold cstep
  split
  · exact take_11 (take_11 h)
  · split
    · exact text_11 (text_11 (text_11 (take_11 h)))
    · split
      · exact text_11 (take_11 h)
      · exact refuse_11 (by decide) (take_11 h)
theorem cnext_11 {r : RdS} {b : List Nat} (h : r.err ≠ 11) : (cnext b r).err ≠ 11 := by
  unfold cnext
  split
  · exact cstep_11 h
  · exact refuse_11 (by decide) (cstep_11 h)
theorem chead_11 {r : RdS} {b : List Nat} (h : r.err ≠ 11) : (chead b r).err ≠ 11 := by
  unfold chead
  split
  · exact refuse_11 (by decide) (take_11 h)
  · exact take_11 h
theorem refuse_bad {r : RdS} {c a : Int} (h : r.err ≠ 0) : r.refuse c a = r := by unfold RdS.refuse; rw [if_neg (fun g => h g.1)]
theorem cstep_bad {r : RdS} {b : List Nat} (h : r.err ≠ 0) : (cstep b r).2 = r := by
  have hk : ckind b r = 0 := by unfold ckind; rw [take_err h]; rfl
  unfold cstep
  rw [hk, if_neg (by decide), if_neg (by decide), if_neg (by decide), take_err h]
  exact refuse_bad h
theorem cnext_bad {r : RdS} {b : List Nat} (h : r.err ≠ 0) : cnext b r = r := by
  unfold cnext
  rw [cstep_bad h]
  split
  · rfl
  · exact refuse_bad h
theorem cloop_bad {r : RdS} {b : List Nat} (h : r.err ≠ 0) : ∀ n, cloop b n r [] = ([], r)
  | 0 => rfl
  | n + 1 => by unfold cloop; rw [cnext_bad h, if_pos h]
theorem readS_eq (b : List Nat) (r : RdS) : readS b r = cloop b (numOf (r.take b 2).1) (chead b r) [] := by
  unfold readS
  split
  · rename_i h; rw [cloop_bad h]
  · rfl
theorem ckind_in {b : List Nat} {r : RdS} (hlt : ∀ x ∈ b, x < 256) : 0 ≤ ckind b r ∧ ckind b r < 256 := by
  have h1 := numOf_lt _ _ rfl (take_lt (r := r) (n := 1) hlt)
  have h2 : 256 ^ (r.take b 1).1.length ≤ 256 ^ 1 := Nat.pow_le_pow_right (n := 256) (by omega) (take_len r b 1)
  unfold ckind
  rw [numV_small (by omega)]
  omega
theorem wrp_i32_in (z : Int) : -2147483648 ≤ wrp .i32 z ∧ wrp .i32 z < 2147483648 := by
  rw [wrp_eq]
  simp [IntKind.wrap, IntKind.signed, IntKind.bits]
  split <;> omega
theorem cstep_good {b : List Nat} {r : RdS} (hlt : ∀ x ∈ b, x < 256) : (cstep b r).1.Good ∧ (cstep b r).1.cl.length ≤ 1024 ∧ (cstep b r).1.nm.length ≤ 1024 ∧ (cstep b r).1.ds.length ≤ 1024 := by
  have hk := ckind_in (r := r) hlt
  have t := fun r' : RdS => text_good (r := r') hlt
  have z : ([] : List Nat).length < 9223372036854775808 ∧ ∀ c ∈ ([] : List Nat), c < 256 := ⟨by decide, fun c hc => by cases hc⟩
  have t2 : ∀ r' : RdS, (r'.text b).1.length < 9223372036854775808 ∧ ∀ c ∈ (r'.text b).1, c < 256 := fun r' => ⟨by have := (t r').1; omega, (t r').2⟩
  unfold cstep
  split
  · have hi := wrp_i32_in (numV ((r.take b 1).2.take b 4).1)
    exact ⟨⟨by dsimp only; omega, by dsimp only; omega, hi.1, hi.2, z, z, z⟩, by simp, by simp, by simp⟩
  · split
    · exact ⟨⟨by dsimp only; omega, by dsimp only; omega, by dsimp only; omega, by dsimp only; omega, t2 _, t2 _, t2 _⟩, (t _).1, (t _).1, (t _).1⟩
    · split
      · exact ⟨⟨by dsimp only; omega, by dsimp only; omega, by dsimp only; omega, by dsimp only; omega, t2 _, z, z⟩, (t _).1, by simp, by simp⟩
      · exact ⟨⟨by dsimp only; omega, by dsimp only; omega, by dsimp only; omega, by dsimp only; omega, z, z, z⟩, by simp, by simp, by simp⟩
theorem cstep_9 {b : List Nat} {r : RdS} (h : ckind b r = 9 ∨ ckind b r = 10) : cstep b r = (⟨ckind b r, 0, ((r.take b 1).2.text b).1, (((r.take b 1).2.text b).2.text b).1, ((((r.take b 1).2.text b).2.text b).2.text b).1⟩, ((((r.take b 1).2.text b).2.text b).2.text b).2) := by unfold cstep; rw [if_neg (by omega), if_pos h]
theorem cstep_7 {b : List Nat} {r : RdS} (h : ckind b r = 7) : cstep b r = (⟨7, 0, ((r.take b 1).2.text b).1, [], []⟩, ((r.take b 1).2.text b).2) := by unfold cstep; rw [if_neg (by omega), if_neg (by omega), if_pos h]
theorem cstep_o {b : List Nat} {r : RdS} (h3 : ckind b r ≠ 3) (h9 : ¬ (ckind b r = 9 ∨ ckind b r = 10)) (h7 : ckind b r ≠ 7) : cstep b r = (⟨ckind b r, 0, [], [], []⟩, (r.take b 1).2.refuse 12 ((r.take b 1).2.pos : Int)) := by unfold cstep; rw [if_neg h3, if_neg h9, if_neg h7]
/-- a reader, and the constants that were read -/
structure RL (S0 T : St) (p : Nat) (vb v : AV) (b : List Nat) (r : RdS) (cs : List CnA) (k : Nat) : Prop where
  fr : FrQ S0 T p k
  rr : Rr T p vb b r
  ow : Own T v 24 5 (cellsC cs) cs.length
  bk : ∀ c, blkOf v = some c → S0.n ≤ c
theorem RL.step {S0 T U : St} {p : Nat} {vb v : AV} {b : List Nat} {r r' : RdS} {cs : List CnA} {k k' : Nat} (h : RL S0 T p vb v b r cs k) (hp : p < S0.n) (a : FrQ T U p k') (h1 : Rr U p vb b r') : RL S0 U p vb v b r' cs (k + k') :=
  ⟨h.fr.trans a, h1, h.ow.keep (fun c hc => a.same c (fun e => by have := h.bk c hc; omega) (h.ow.lt h.fr.ok hc)), h.bk⟩
theorem RL.fr1 {S0 T U : St} {p : Nat} {vb v : AV} {b : List Nat} {r : RdS} {cs : List CnA} {k k' : Nat} (h : RL S0 T p vb v b r cs k) (hp : p < S0.n) (a : Fr T U .nils k') : RL S0 U p vb v b r cs (k + k') := h.step hp a.q (h.rr.fr h.fr.ok a)
theorem FrQ.k {S S' : St} {p k k' : Nat} (a : FrQ S S' p k) (h : k ≤ k') : FrQ S S' p k' := ⟨a.le, Nat.le_trans a.n (by omega), a.ok, a.same⟩
theorem RL.k {S0 T : St} {p : Nat} {vb v : AV} {b : List Nat} {r : RdS} {cs : List CnA} {k k' : Nat} (h : RL S0 T p vb v b r cs k) (hk : k ≤ k') : RL S0 T p vb v b r cs k' := ⟨h.fr.k hk, h.rr, h.ow, h.bk⟩
theorem RL.upd {S0 T U : St} {p q : Nat} {vb v : AV} {b : List Nat} {r : RdS} {cs : List CnA} {k : Nat} {x : AB} (h : RL S0 T p vb v b r cs k) (hp : p < S0.n) (hvb : ∀ c, blkOf vb = some c → c < S0.n) (hq0 : S0.n ≤ q) (hqT : q < T.n) (hv : blkOf v ≠ some q) (hn : U.n = T.n) (hx : U.h.get q = some x) (hf : ∀ c, c ≠ q → U.h.get c = T.h.get c) : RL S0 U p vb v b r cs k :=
  ⟨⟨by have := h.fr.le; omega, by have := h.fr.n; omega, sok_upd h.fr.ok hqT hn hx hf, fun c h1 h2 => by rw [hf c (by omega)]; exact h.fr.same c h1 h2⟩,
    ⟨by rw [hf p (by omega)]; exact h.rr.cell, h.rr.rd.keep (fun c hc => hf c (by have := hvb c hc; omega)), h.rr.ne, h.rr.le⟩,
    h.ow.keep (fun c hc => hf c (fun e => hv (by rw [hc, e]))), h.bk⟩
theorem RL.app {S0 T U : St} {p : Nat} {vb v v' : AV} {b : List Nat} {r : RdS} {cs : List CnA} {c : CnA} {k : Nat} (h : RL S0 T p vb v b r cs k) (hp : p < S0.n) (hvb : ∀ c, blkOf vb = some c → c < S0.n) (h1 : T.n ≤ U.n) (h2 : U.n ≤ T.n + 1) (h3 : Sok U) (h4 : Own U v' 24 5 (cellsC cs ++ c.cells) (cs.length + 1)) (h5 : ∀ d, blkOf v ≠ some d → d < T.n → U.h.get d = T.h.get d) (h6 : ∀ d, blkOf v' = some d → blkOf v = some d ∨ T.n ≤ d) : RL S0 U p vb v' b r (cs ++ [c]) (k + 1) := by
  have hle := h.fr.le
  have hbk := h.bk
  refine ⟨⟨by omega, by have := h.fr.n; omega, h3, fun d k1 k2 => ?_⟩, ⟨?_, h.rr.rd.keep (fun d hd => ?_), h.rr.ne, h.rr.le⟩, h4.eq (by rw [cellsC_app]; simp [cellsC]) (by simp), fun d hd => ?_⟩
  · rw [h5 d (fun e => by have := hbk d e; omega) (by omega)]; exact h.fr.same d k1 k2
  · rw [h5 p (fun e => by have := hbk p e; omega) (by omega)]; exact h.rr.cell
  · have := hvb d hd
    exact h5 d (fun e => by have := hbk d e; omega) (by omega)
  · rcases h6 d hd with g | g
    · exact hbk d g
    · omega
theorem pread_runs {S : St} {p : Nat} {vb : AV} {b : List Nat} {r0 : RdS} (hok : Sok S) (h : Rr S p vb b r0) (hb : b.length ≤ 10000000) (hlt : ∀ x ∈ b, x < 256) (he11 : r0.err ≠ 11) (hn : S.n ≤ 400000000) :
    Runs X1 29 [.ptr p 0] S fun v S' => RL S S' p vb v b (readS b r0).2 (readS b r0).1 6000000 := by
  have hp : p < S.n := hok _ _ h.cell
  have hvb : ∀ c, blkOf vb = some c → c < S.n := fun c hc => h.rd.lt hok hc
  refine Runs_fn (m := 71) (by kernel_rfl) Tryd.func29 rfl (by kernel_rfl) (by kernel_rfl) ?_
  repeat' (
    first
      | refine W_seq ?_
      | refine WO_nil ?_
      | refine V_seq ?_
      | refine W_region ?_
      | refine W_skip ?_
      | refine W_cond_f rfl ?_
      | refine WO_dst rfl rfl (by kernel_rfl) (by kernel_rfl) ?_
      | refine Ev_move rfl ?_
      | refine Ev_assign rfl ?_
      | refine Ev_ptr_eql rfl rfl rfl rfl ?_)
  refine Ev_call rfl rfl ((rnum_runs hok h (by omega) (by omega) hlt).mono ?_)
  rintro _ S1 - ⟨rfl, h1, hF1⟩
  rw [size2] at h1 ⊢
  have hx2 := take_len r0 b 2
  have hxb := take_lt (r := r0) (n := 2) hlt
  have hnl := numOf_lt _ _ rfl hxb
  have hpw : 256 ^ (r0.take b 2).1.length ≤ 65536 := Nat.pow_le_pow_right (n := 256) (by omega) hx2
  rw [numV_small (by omega)]
  obtain ⟨n, hm⟩ : ∃ n, n = numOf (r0.take b 2).1 := ⟨_, rfl⟩
  rw [readS_eq, ← hm]
  rw [← hm] at hnl
  have gn1 := hF1.n
  repeat' (
    first
      | refine W_seq ?_
      | refine WO_nil ?_
      | refine V_seq ?_
      | refine W_region ?_
      | refine WO_dst rfl rfl (by kernel_rfl) (by kernel_rfl) ?_
      | refine Ev_move rfl ?_
      | refine Ev_assign rfl ?_
      | refine Ev_gtrN rfl rfl ?_)
  refine W_cut (fun l' T => Rr T p vb b (chead b r0) ∧ FrP S T p ∧ sub [(3, .int .i64 ((n : Nat) : Int)), (0, .ptr p 0)] l') ?_ ?_
  · repeat' (
      first
        | refine W_region ?_
        | refine W_skip ?_
        | refine WO_dst rfl rfl (by kernel_rfl) (by kernel_rfl) ?_
        | refine Ev_move rfl ?_
        | (refine W_cond rfl (fun hc => ?_) (fun hc => ?_) <;> (try dsimp only at hc) <;> try (exfalso; first | omega | exact hc rfl)))
    · refine Ev_call rfl rfl ((fail_runs hF1.ok h1 (by omega)).mono ?_)
      rintro _ S2 - ⟨h2, hF2⟩
      repeat' (
        refine WO_nil ?_)
      refine V_mid ⟨?_, hF1.trans hF2, rfl, rfl, trivial⟩
      unfold chead; rw [← hm, if_pos (by omega)]; exact h2
    · refine V_mid ⟨?_, hF1, rfl, rfl, trivial⟩
      unfold chead; rw [← hm, if_neg (by omega)]; exact h1
  rintro l' S2 ⟨h2, hF2, hs⟩
  refine V_weak hs ?_
  repeat' (
    first
      | refine W_seq ?_
      | refine WO_nil ?_
      | refine V_seq ?_
      | refine W_region ?_
      | refine W_block ?_
      | refine WO_dst rfl rfl (by kernel_rfl) (by kernel_rfl) ?_
      | refine Ev_move rfl ?_
      | refine Ev_assign rfl ?_)
  refine W_inv (fun a : Nat × AV => [(17, .int .i64 ((a.1 : Nat) : Int)), (16, .int .i64 ((n : Nat) : Int)), (4, a.2), (0, .ptr p 0)]) (fun a T => ∃ r cs, RL S T p vb a.2 b r cs (20000 * a.1 + 10) ∧ a.1 ≤ 256 ∧ a.1 ≤ n ∧ cs.length ≤ a.1 ∧ cloop b n (chead b r0) [] = cloop b (n - a.1) r cs ∧ r.err ≠ 11 ∧ (a.1 = 0 → r = chead b r0) ∧ (0 < a.1 → n ≤ 256)) (fun a => n - a.1) ?_ (0, .nils) ?_ ⟨rfl, rfl, rfl, rfl, trivial⟩
  · rintro ⟨i, v⟩ T ⟨r, cs, hL, hi, hin, hcs, hcl, h11, hz, hpos⟩ back
    dsimp only at hL hi hin hcs hcl hz hpos back
    have gn := hL.fr.n
    have gl := hL.fr.le
    have hvT : ∀ d, blkOf v = some d → d < T.n := fun d hd => hL.ow.lt hL.fr.ok hd
    repeat' (
      first
        | refine W_seq ?_
        | refine WO_nil ?_
        | refine V_seq ?_
        | refine W_region ?_
        | refine W_block ?_
        | refine W_skip ?_
        | refine W_ret ?_
        | refine W_exit ?_
        | refine V_block_x rfl ?_
        | refine V_seq_x ?_
        | refine V_loop_x ?_
        | refine WO_dst rfl rfl (by kernel_rfl) (by kernel_rfl) ?_
        | refine Ev_move rfl ?_
        | refine Ev_assign rfl ?_
        | refine Ev_lssN rfl rfl ?_
        | (refine W_cond rfl (fun hc => ?_) (fun hc => ?_) <;> (try dsimp only at hc) <;> try (exfalso; first | omega | exact hc rfl)))
    · have hlt2 : i < n := by assumption
      refine Ev_call rfl rfl ((rnum_runs hL.fr.ok hL.rr (by omega) (by omega) hlt).mono ?_)
      rintro _ T1 - ⟨rfl, h1, hF1⟩
      rw [size1] at h1 ⊢
      obtain ⟨k, hk⟩ : ∃ k, k = ckind b r := ⟨_, rfl⟩
      rw [show numV (r.take b 1).1 = ckind b r from rfl, ← hk]
      have hkin := ckind_in (r := r) hlt
      rw [← hk] at hkin
      have gn1 := hF1.n
      repeat (
        refine WO_dst rfl rfl (by kernel_rfl) (by kernel_rfl) ?_)
      refine Ev_build (v := .agg [.int .i64 k, .int .i32 0, .str [], .str [], .str []]) rfl rfl ?_
      repeat (
        refine WO_dst rfl rfl (by kernel_rfl) (by kernel_rfl) ?_)
      refine Ev_alloc_ rfl hF1.ok (by omega) ?_
      intro T2 gn2 gok2 gq2 gf2
      repeat (
        refine WO_no rfl rfl ?_)
      refine Ev_store rfl rfl rfl rfl rfl gq2 (by simp [AV.cells]) (by omega) ?_
      intro T3 gn3 gq3 gf3
      have hF3 : Fr T1 T3 .nils 1 := ⟨by omega, by omega, sok_upd gok2 (by omega) gn3 gq3 gf3, fun c _ h => by rw [gf3 c (by omega), gf2 c h]⟩
      have hL3 := (hL.step hp hF1.q h1).fr1 hp hF3
      have hq3 : T3.h.get T1.n = some (.cells 24 (CnA.mk k 0 [] [] []).cells false) := gq3
      have hvq : blkOf v ≠ some T1.n := fun e => by have := hvT _ e; omega
      repeat (
        first
          | refine W_seq ?_
          | refine WO_nil ?_
          | refine V_seq ?_
          | refine W_region ?_
          | refine W_block ?_
          | refine WO_dst rfl rfl (by kernel_rfl) (by kernel_rfl) ?_
          | refine Ev_load rfl rfl rfl hq3 rfl (veq_int _ _) ?_
          | refine Ev_assign rfl ?_
          | refine Ev_eql rfl rfl ?_
          | refine Ev_fieldAddr rfl rfl rfl rfl rfl rfl ?_)
      have hT1 : S.n ≤ T1.n := by omega
      have gl3 : T1.n < T3.n := by omega
      refine W_cut (fun l' U => U.h.get T1.n = some (.cells 24 (cstep b r).1.cells false) ∧ RL S U p vb v b (cstep b r).2 cs (20000 * i + 10000) ∧ T1.n < U.n ∧ sub [(5, .ptr T1.n 0), (17, .int .i64 ((i : Nat) : Int)), (16, .int .i64 ((n : Nat) : Int)), (4, v), (0, .ptr p 0)] l') ?_ ?_
      · repeat' (
          first
            | refine W_seq ?_
            | refine WO_nil ?_
            | refine V_seq ?_
            | refine W_region ?_
            | refine W_skip ?_
            | refine WO_dst rfl rfl (by kernel_rfl) (by kernel_rfl) ?_
            | refine Ev_move rfl ?_
            | refine Ev_assign rfl ?_
            | refine Ev_eql rfl rfl ?_
            | (refine W_cond rfl (fun hc => ?_) (fun hc => ?_) <;> (try dsimp only at hc) <;> try (exfalso; first | omega | exact hc rfl)))
        · refine Ev_call rfl rfl ((rnum_runs hL3.fr.ok hL3.rr (by omega) (by omega) hlt).mono ?_)
          rintro _ T4 - ⟨rfl, h4, hF4⟩
          rw [size4] at h4 ⊢
          have gn4 := hF4.n
          have hq4 : T4.h.get T1.n = some (.cells 24 (CnA.mk k 0 [] [] []).cells false) := by rw [hF4.same T1.n (by omega)]; exact hq3
          have hL4 := hL3.step hp hF4.q h4
          repeat (
            refine WO_dst rfl rfl (by kernel_rfl) (by kernel_rfl) ?_)
          refine Ev_convw rfl rfl rfl rfl rfl ?_
          repeat (
            first
              | refine WO_dst rfl rfl (by kernel_rfl) (by kernel_rfl) ?_
              | refine WO_no rfl rfl ?_
              | refine Ev_fieldAddr rfl rfl rfl rfl rfl rfl ?_)
          refine Ev_store1 rfl rfl rfl rfl rfl rfl hq4 (by simp [CnA.cells]) (by omega) ?_
          intro T5 gn5 gq5 gf5
          have hL5 := hL4.upd hp hvb hT1 (by omega) hvq gn5 gq5 gf5
          have e : cstep b r = (⟨3, wrp .i32 (numV ((r.take b 1).2.take b 4).1), [], [], []⟩, ((r.take b 1).2.take b 4).2) := by unfold cstep; rw [if_pos (by omega)]
          repeat' (
            refine WO_nil ?_)
          refine V_mid ⟨?_, ?_, by omega, rfl, rfl, rfl, rfl, rfl, trivial⟩
          · rw [e, gq5]
            have hk3 : k = 3 := by omega
            rw [hk3]; rfl
          · rw [e]; exact hL5.k (by omega)
        · have hk2 : k = 9 ∨ k = 10 := by omega
          refine Ev_call rfl rfl ((rdtext_runs hL3.fr.ok hL3.rr (by omega) (by omega) hlt).mono ?_)
          rintro _ T4 - ⟨rfl, h4, hF4⟩
          have gn4 := hF4.n
          have gl4 := hF4.le
          have hL4 := hL3.step hp hF4 h4
          repeat (
            first
              | refine WO_dst rfl rfl (by kernel_rfl) (by kernel_rfl) ?_
              | refine Ev_move rfl ?_)
          refine Ev_call rfl rfl ((rdtext_runs hL4.fr.ok hL4.rr (by omega) (by omega) hlt).mono ?_)
          rintro _ T5 - ⟨rfl, h5, hF5⟩
          have gn5 := hF5.n
          have gl5 := hF5.le
          have hL5 := hL4.step hp hF5 h5
          have hq5 : T5.h.get T1.n = some (.cells 24 (CnA.mk k 0 [] [] []).cells false) := by rw [hF5.same T1.n (by omega) (by omega), hF4.same T1.n (by omega) (by omega)]; exact hq3
          repeat (
            first
              | refine WO_dst rfl rfl (by kernel_rfl) (by kernel_rfl) ?_
              | refine WO_no rfl rfl ?_
              | refine Ev_fieldAddr rfl rfl rfl rfl rfl rfl ?_)
          refine Ev_store1 rfl rfl rfl rfl rfl rfl hq5 (by simp [CnA.cells]) (by omega) ?_
          intro T6 gn6 gq6 gf6
          have hL6 := hL5.upd hp hvb hT1 (by omega) hvq gn6 gq6 gf6
          have hq6 : T6.h.get T1.n = some (.cells 24 (CnA.mk k 0 ((r.take b 1).2.text b).1 [] []).cells false) := gq6
          repeat (
            first
              | refine WO_dst rfl rfl (by kernel_rfl) (by kernel_rfl) ?_
              | refine WO_no rfl rfl ?_
              | refine Ev_fieldAddr rfl rfl rfl rfl rfl rfl ?_)
          refine Ev_store1 rfl rfl rfl rfl rfl rfl hq6 (by simp [CnA.cells]) (by omega) ?_
          intro T7 gn7 gq7 gf7
          have hL7 := hL6.upd hp hvb hT1 (by omega) hvq gn7 gq7 gf7
          have hq7 : T7.h.get T1.n = some (.cells 24 (CnA.mk k 0 ((r.take b 1).2.text b).1 (((r.take b 1).2.text b).2.text b).1 []).cells false) := gq7
          repeat (
            first
              | refine WO_nil ?_
              | refine V_seq ?_
              | refine W_region ?_
              | refine WO_dst rfl rfl (by kernel_rfl) (by kernel_rfl) ?_
              | refine Ev_move rfl ?_)
          refine Ev_call rfl rfl ((rdtext_runs hL7.fr.ok hL7.rr (by omega) (by omega) hlt).mono ?_)
          rintro _ T8 - ⟨rfl, h8, hF8⟩
          have gn8 := hF8.n
          have gl8 := hF8.le
          have hL8 := hL7.step hp hF8 h8
          have hq8 : T8.h.get T1.n = some (.cells 24 (CnA.mk k 0 ((r.take b 1).2.text b).1 (((r.take b 1).2.text b).2.text b).1 []).cells false) := by rw [hF8.same T1.n (by omega) (by omega)]; exact hq7
          repeat (
            first
              | refine WO_dst rfl rfl (by kernel_rfl) (by kernel_rfl) ?_
              | refine WO_no rfl rfl ?_
              | refine Ev_fieldAddr rfl rfl rfl rfl rfl rfl ?_)
          refine Ev_store1 rfl rfl rfl rfl rfl rfl hq8 (by simp [CnA.cells]) (by omega) ?_
          intro T9 gn9 gq9 gf9
          have hL9 := hL8.upd hp hvb hT1 (by omega) hvq gn9 gq9 gf9
          have e := cstep_9 (b := b) (r := r) (by omega)
          repeat' (
            refine WO_nil ?_)
          refine V_mid ⟨?_, ?_, by omega, rfl, rfl, rfl, rfl, rfl, trivial⟩
          · rw [e, gq9, ← hk]; rfl
          · rw [e]; exact hL9.k (by omega)
        · have hk2 : k = 9 ∨ k = 10 := by omega
          refine Ev_call rfl rfl ((rdtext_runs hL3.fr.ok hL3.rr (by omega) (by omega) hlt).mono ?_)
          rintro _ T4 - ⟨rfl, h4, hF4⟩
          have gn4 := hF4.n
          have gl4 := hF4.le
          have hL4 := hL3.step hp hF4 h4
          repeat (
            first
              | refine WO_dst rfl rfl (by kernel_rfl) (by kernel_rfl) ?_
              | refine Ev_move rfl ?_)
          refine Ev_call rfl rfl ((rdtext_runs hL4.fr.ok hL4.rr (by omega) (by omega) hlt).mono ?_)
          rintro _ T5 - ⟨rfl, h5, hF5⟩
          have gn5 := hF5.n
          have gl5 := hF5.le
          have hL5 := hL4.step hp hF5 h5
          have hq5 : T5.h.get T1.n = some (.cells 24 (CnA.mk k 0 [] [] []).cells false) := by rw [hF5.same T1.n (by omega) (by omega), hF4.same T1.n (by omega) (by omega)]; exact hq3
          repeat (
            first
              | refine WO_dst rfl rfl (by kernel_rfl) (by kernel_rfl) ?_
              | refine WO_no rfl rfl ?_
              | refine Ev_fieldAddr rfl rfl rfl rfl rfl rfl ?_)
          refine Ev_store1 rfl rfl rfl rfl rfl rfl hq5 (by simp [CnA.cells]) (by omega) ?_
          intro T6 gn6 gq6 gf6
          have hL6 := hL5.upd hp hvb hT1 (by omega) hvq gn6 gq6 gf6
          have hq6 : T6.h.get T1.n = some (.cells 24 (CnA.mk k 0 ((r.take b 1).2.text b).1 [] []).cells false) := gq6
          repeat (
            first
              | refine WO_dst rfl rfl (by kernel_rfl) (by kernel_rfl) ?_
              | refine WO_no rfl rfl ?_
              | refine Ev_fieldAddr rfl rfl rfl rfl rfl rfl ?_)
          refine Ev_store1 rfl rfl rfl rfl rfl rfl hq6 (by simp [CnA.cells]) (by omega) ?_
          intro T7 gn7 gq7 gf7
          have hL7 := hL6.upd hp hvb hT1 (by omega) hvq gn7 gq7 gf7
          have hq7 : T7.h.get T1.n = some (.cells 24 (CnA.mk k 0 ((r.take b 1).2.text b).1 (((r.take b 1).2.text b).2.text b).1 []).cells false) := gq7
          repeat (
            first
              | refine WO_nil ?_
              | refine V_seq ?_
              | refine W_region ?_
              | refine WO_dst rfl rfl (by kernel_rfl) (by kernel_rfl) ?_
              | refine Ev_move rfl ?_)
          refine Ev_call rfl rfl ((rdtext_runs hL7.fr.ok hL7.rr (by omega) (by omega) hlt).mono ?_)
          rintro _ T8 - ⟨rfl, h8, hF8⟩
          have gn8 := hF8.n
          have gl8 := hF8.le
          have hL8 := hL7.step hp hF8 h8
          have hq8 : T8.h.get T1.n = some (.cells 24 (CnA.mk k 0 ((r.take b 1).2.text b).1 (((r.take b 1).2.text b).2.text b).1 []).cells false) := by rw [hF8.same T1.n (by omega) (by omega)]; exact hq7
          repeat (
            first
              | refine WO_dst rfl rfl (by kernel_rfl) (by kernel_rfl) ?_
              | refine WO_no rfl rfl ?_
              | refine Ev_fieldAddr rfl rfl rfl rfl rfl rfl ?_)
          refine Ev_store1 rfl rfl rfl rfl rfl rfl hq8 (by simp [CnA.cells]) (by omega) ?_
          intro T9 gn9 gq9 gf9
          have hL9 := hL8.upd hp hvb hT1 (by omega) hvq gn9 gq9 gf9
          have e := cstep_9 (b := b) (r := r) (by omega)
          repeat' (
            refine WO_nil ?_)
          refine V_mid ⟨?_, ?_, by omega, rfl, rfl, rfl, rfl, rfl, trivial⟩
          · rw [e, gq9, ← hk]; rfl
          · rw [e]; exact hL9.k (by omega)
        · refine Ev_call rfl rfl ((rdtext_runs hL3.fr.ok hL3.rr (by omega) (by omega) hlt).mono ?_)
          rintro _ T4 - ⟨rfl, h4, hF4⟩
          have gn4 := hF4.n
          have gl4 := hF4.le
          have hL4 := hL3.step hp hF4 h4
          have hq4 : T4.h.get T1.n = some (.cells 24 (CnA.mk k 0 [] [] []).cells false) := by rw [hF4.same T1.n (by omega) (by omega)]; exact hq3
          repeat (
            first
              | refine WO_dst rfl rfl (by kernel_rfl) (by kernel_rfl) ?_
              | refine WO_no rfl rfl ?_
              | refine Ev_fieldAddr rfl rfl rfl rfl rfl rfl ?_)
          refine Ev_store1 rfl rfl rfl rfl rfl rfl hq4 (by simp [CnA.cells]) (by omega) ?_
          intro T5 gn5 gq5 gf5
          have hL5 := hL4.upd hp hvb hT1 (by omega) hvq gn5 gq5 gf5
          have e := cstep_7 (b := b) (r := r) (by omega)
          have hk7 : k = 7 := by omega
          repeat' (
            refine WO_nil ?_)
          refine V_mid ⟨?_, ?_, by omega, rfl, rfl, rfl, rfl, rfl, trivial⟩
          · rw [e, gq5, hk7]; rfl
          · rw [e]; exact hL5.k (by omega)
        · refine Ev_call rfl rfl ((fail_runs hL3.fr.ok hL3.rr (by omega)).mono ?_)
          rintro _ T4 - ⟨h4, hF4⟩
          have gn4 := hF4.n
          have hL4 := hL3.step hp hF4.q h4
          have hq4 : T4.h.get T1.n = some (.cells 24 (CnA.mk k 0 [] [] []).cells false) := by rw [hF4.same T1.n (by omega)]; exact hq3
          have e := cstep_o (b := b) (r := r) (by omega) (by omega) (by omega)
          repeat' (
            refine WO_nil ?_)
          refine V_mid ⟨?_, ?_, by omega, rfl, rfl, rfl, rfl, rfl, trivial⟩
          · rw [e, hq4, ← hk]
          · rw [e]; exact hL4.k (by omega)
      rintro l' T6 ⟨hq6, hL6, gT6, hs6⟩
      refine V_weak hs6 ?_
      obtain ⟨hcg, hcb⟩ := cstep_good (r := r) hlt
      obtain ⟨c, hcc⟩ : ∃ c, c = (cstep b r).1 := ⟨_, rfl⟩
      obtain ⟨r6, hr6⟩ : ∃ r6, r6 = (cstep b r).2 := ⟨_, rfl⟩
      have hcn : cnext b r = if rightP c then r6 else r6.refuse 14 (r6.pos : Int) := by unfold cnext; rw [← hcc, ← hr6]
      rw [← hcc] at hq6 hcg
      rw [← hr6] at hL6
      have gn6 := hL6.fr.n
      have gl6 := hL6.fr.le
      repeat (
        first
          | refine W_seq ?_
          | refine V_seq ?_
          | refine W_region ?_
          | refine V_block ?_
          | refine WO_dst rfl rfl (by kernel_rfl) (by kernel_rfl) ?_)
      refine Ev_load_agg rfl rfl rfl hq6 (by simp [CnA.cells]) (show (c.cells.drop 0).take 5 = c.cells from rfl) (CnA.veqs c) ?_
      repeat (
        refine WO_dst rfl rfl (by kernel_rfl) (by kernel_rfl) ?_)
      refine Ev_call rfl rfl ((right_runs hL6.fr.ok hcg (by omega)).mono ?_)
      rintro _ T7 - ⟨rfl, hF7⟩
      have gn7 := hF7.n
      have gl7 := hF7.le
      have hL7 := hL6.fr1 hp hF7
      have hq7 : T7.h.get T1.n = some (.cells 24 c.cells false) := by rw [hF7.same T1.n (by simp [blkOf]) gT6]; exact hq6
      repeat' (
        first
          | refine WO_nil ?_
          | refine V_seq ?_
          | refine WO_dst rfl rfl (by kernel_rfl) (by kernel_rfl) ?_
          | refine Ev_not rfl ?_)
      refine W_cut (fun l' U => U.h.get T1.n = some (.cells 24 c.cells false) ∧ RL S U p vb v b (cnext b r) cs (20000 * i + 10030) ∧ T1.n < U.n ∧ sub [(5, .ptr T1.n 0), (17, .int .i64 ((i : Nat) : Int)), (16, .int .i64 ((n : Nat) : Int)), (4, v), (0, .ptr p 0)] l') ?_ ?_
      · repeat' (
          first
            | refine W_region ?_
            | refine W_skip ?_
            | refine WO_dst rfl rfl (by kernel_rfl) (by kernel_rfl) ?_
            | refine Ev_move rfl ?_
            | (refine W_cond rfl (fun hc => ?_) (fun hc => ?_) <;> (try dsimp only at hc) <;> try (exfalso; first | omega | exact hc rfl)))
        · refine Ev_call rfl rfl ((fail_runs hL7.fr.ok hL7.rr (by omega)).mono ?_)
          rintro _ T8 - ⟨h8, hF8⟩
          have gn8 := hF8.n
          have hL8 := hL7.step hp hF8.q h8
          repeat' (
            refine WO_nil ?_)
          refine V_mid ⟨by rw [hF8.same T1.n (by omega)]; exact hq7, ?_, by omega, rfl, rfl, rfl, rfl, rfl, trivial⟩
          rw [hcn, if_neg (by assumption)]; exact hL8.k (by omega)
        · refine V_mid ⟨hq7, ?_, by omega, rfl, rfl, rfl, rfl, rfl, trivial⟩
          rw [hcn, if_pos (by first | assumption | exact Classical.not_not.1 (by assumption))]; exact hL7.k (by omega)
      rintro l' T8 ⟨hq8, hL8, gT8, hs8⟩
      refine V_weak hs8 ?_
      have h11b := cnext_11 (b := b) h11
      have hnl2 : n - i = (n - (i + 1)) + 1 := by omega
      obtain ⟨rn, hrn⟩ : ∃ rn, rn = cnext b r := ⟨_, rfl⟩
      have hcl2 : cloop b n (chead b r0) [] = if rn.err ≠ 0 then ([], rn) else cloop b (n - (i + 1)) rn (cs ++ [c]) := by
        rw [hcl, hnl2, hrn, hcc]; rfl
      have hi0 : i = 0 → rn.err = 0 → n ≤ 256 := by
        intro h0 he
        rw [hrn, hz h0] at he
        by_cases hb256 : n ≤ 256
        · exact hb256
        · exfalso
          have hbad : (chead b r0).err ≠ 0 := by unfold chead; rw [← hm, if_pos (by omega)]; exact refuse_err (by decide)
          rw [cnext_bad hbad] at he
          exact hbad he
      rw [← hrn] at hL8 h11b
      have gn8 := hL8.fr.n
      have gl8 := hL8.fr.le
      repeat (
        first
          | refine W_seq ?_
          | refine V_seq ?_
          | refine W_region ?_
          | refine WO_dst rfl rfl (by kernel_rfl) (by kernel_rfl) ?_
          | refine Ev_move rfl ?_)
      refine Ev_call rfl rfl ((end_runs hL8.rr).mono ?_)
      rintro _ T9 - ⟨hT9, rfl⟩
      rw [hT9]
      obtain ⟨w, hw, hw0, hw1⟩ : ∃ w, (RdS.endOf rn b).1 = w ∧ (rn.err = 0 → w = 0 ∨ w = 11) ∧ (rn.err ≠ 0 → w ≠ 0 ∧ w ≠ 11) := by
        refine ⟨_, rfl, fun he => ?_, fun he => ?_⟩
        · unfold RdS.endOf
          rw [if_neg (by omega)]
          split
          · exact .inr rfl
          · exact .inl rfl
        · unfold RdS.endOf
          rw [if_pos he]; exact ⟨he, h11b⟩
      rw [hw]
      repeat' (
        first
          | refine W_seq ?_
          | refine WO_nil ?_
          | refine V_seq ?_
          | refine W_region ?_
          | refine W_skip ?_
          | refine W_ret ?_
          | refine V_ret ?_
          | refine W_cond_f rfl ?_
          | refine WO_dst rfl rfl (by kernel_rfl) (by kernel_rfl) ?_
          | refine WO_guard_t rfl rfl rfl rfl rfl (by kernel_rfl) (by kernel_rfl) ?_
          | refine WO_guard_f rfl rfl rfl rfl rfl rfl (by kernel_rfl) (by kernel_rfl) ?_
          | refine Ev_move rfl ?_
          | refine Ev_assign rfl ?_
          | refine Ev_extract rfl rfl ?_
          | refine Ev_pick_t rfl rfl rfl ?_
          | refine Ev_pick_f rfl rfl rfl ?_
          | refine Ev_neq rfl rfl ?_
          | (refine WO_guard_dt rfl rfl rfl rfl rfl (by kernel_rfl) (by kernel_rfl) (fun hg => ?_) (fun hg => ?_) <;> (try dsimp only at hg) <;> try (exfalso; first | omega | exact hg rfl))
          | (refine W_cond rfl (fun hc => ?_) (fun hc => ?_) <;> (try dsimp only at hc) <;> try (exfalso; first | omega | exact hc rfl)))
      · have he : rn.err ≠ 0 := by omega
        refine V_done rfl rfl ?_
        rw [hcl2, if_pos he]
        exact ⟨hL8.fr.k (by omega), hL8.rr, .inl ⟨rfl, rfl, rfl⟩, fun c hc => by cases hc⟩
      all_goals
        have he : rn.err = 0 := by omega
        rw [if_neg (by omega)] at hcl2
        refine Ev_load_agg rfl rfl rfl hq8 (by simp [CnA.cells]) (show (c.cells.drop 0).take 5 = c.cells from rfl) (CnA.veqs c) ?_
        repeat (
          refine WO_dst rfl rfl (by kernel_rfl) (by kernel_rfl) ?_)
        refine Ev_buildSlice rfl rfl rfl rfl rfl rfl hL8.fr.ok (by omega) ?_
        intro T10 gn10 gok10 gq10 gf10
        have hF10 : Fr T8 T10 .nils 1 := ⟨by omega, by omega, gok10, fun c _ h => gf10 c h⟩
        have hL10 := hL8.fr1 hp hF10
        have hrd : Rd T10 (.slice T8.n 0 1 (.ex 1)) 5 c.cells 1 := Rd_lit gq10 rfl rfl
        repeat (
          refine WO_dst rfl rfl (by kernel_rfl) (by kernel_rfl) ?_)
        refine Ev_append rfl rfl rfl rfl rfl rfl rfl rfl rfl rfl hL10.ow hrd (CnA.ones c) gok10 (by omega) (by dsimp only; omega) (by omega) ?_
        intro v' T11 k1 k2 k3 k4 k5 k6
        have hL11 := hL10.app hp hvb k1 k2 k3 k4 k5 k6
        repeat' (
          first
            | refine WO_nil ?_
            | refine V_seq ?_
            | refine W_region ?_
            | refine V_block ?_
            | refine WO_dst rfl rfl (by kernel_rfl) (by kernel_rfl) ?_
            | refine Ev_move rfl ?_
            | refine Ev_assign rfl ?_
            | refine Ev_addN rfl rfl (by simp only [lim]; omega) ?_)
        refine back (i + 1, v') T11 _ (by dsimp only; omega) ⟨rn, cs ++ [c], ?_, ?_, by dsimp only; omega, by simp; omega, hcl2, h11b, fun h => by dsimp only at h; omega, fun _ => ?_⟩ ⟨rfl, rfl, rfl, rfl, trivial⟩
        · exact hL11.k (by dsimp only; omega)
        · dsimp only
          rcases Nat.eq_zero_or_pos i with h0 | h0
          · omega
          · have := hpos h0; omega
        · rcases Nat.eq_zero_or_pos i with h0 | h0
          · exact hi0 h0 he
          · exact hpos h0
    · have hin2 : i = n := by omega
      subst hin2
      refine V_done rfl rfl ?_
      rw [hcl, Nat.sub_self]
      exact hL.k (by omega)
  · exact ⟨chead b r0, [], ⟨⟨by have := hF2.n; omega, by have := hF2.n; dsimp only; omega, hF2.ok, fun c h _ => hF2.same c h⟩, h2, .inl ⟨rfl, rfl, rfl⟩, fun c hc => by cases hc⟩, Nat.zero_le _, Nat.zero_le _, by simp, rfl, chead_11 he11, fun _ => rfl, fun h => absurd h (Nat.lt_irrefl _)⟩
end Go.Proofs.YthhbnnnokmefoaaDoor
