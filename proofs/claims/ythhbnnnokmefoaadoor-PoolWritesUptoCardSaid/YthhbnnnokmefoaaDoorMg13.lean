/- What the row leans on, part 13: texts one behind the other. No condition. -/
import Derived.Test.YthhbnnnokmefoaaDoorMg12
import Derived.Lib.ValidLaws
import Derived.Test.YthhbnnnokmefoaaDoorMg11
import Derived.Test.YthhbnnnokmefoaaDoorMg10
import Derived.KernelRfl
/- Texts in mutf: what is encoded is decoded to itself, and the other way round. Plain. -/


namespace Go.Proofs.YthhbnnnokmefoaaDoor
open GX
set_option maxHeartbeats 4000000
/-! UTF-8 -/
theorem dec_rune {c : Nat} (h : okR c) (t : List Nat) : decodeR (runeL c ++ t) = (c, (runeL c).length) := by
  unfold okR at h
  unfold runeL
  split
  · rename_i h1
    show decodeR (c :: t) = _
    unfold decodeR
    dsimp only
    rw [if_pos (by omega)]; rfl
  · split
    · show decodeR ((192 + c / 64) :: (128 + c % 64) :: t) = _
      unfold decodeR
      dsimp only
      rw [if_neg (by omega), if_pos (by simp; omega)]
      have he : (192 + c / 64) % 32 * 64 + (128 + c % 64) % 64 = c := by omega
      simp only [List.getD_cons_zero]
      rw [he, if_pos (by omega)]; rfl
    · split
      · show decodeR ((224 + c / 4096) :: (128 + c / 64 % 64) :: (128 + c % 64) :: t) = _
        unfold decodeR
        dsimp only
        rw [if_neg (by omega), if_neg (by simp; omega), if_pos (by simp; omega)]
        have hv : Utf8.valid ((c : Nat) : Int) = true := by unfold Utf8.valid; simp; omega
        have he : (224 + c / 4096) % 16 * 4096 + (128 + c / 64 % 64) % 64 * 64 + (128 + c % 64) % 64 = c := by omega
        simp only [List.getD_cons_zero, List.getD_cons_succ]
        rw [he, if_pos (by rw [hv]; simp; omega)]; rfl
      · show decodeR ((240 + c / 262144) :: (128 + c / 4096 % 64) :: (128 + c / 64 % 64) :: (128 + c % 64) :: t) = _
        unfold decodeR
        dsimp only
        rw [if_neg (by omega), if_neg (by simp; omega), if_neg (by simp; omega), if_pos (by simp; omega)]
        have hv : Utf8.valid ((c : Nat) : Int) = true := by unfold Utf8.valid; simp; omega
        have he : (240 + c / 262144) % 8 * 262144 + (128 + c / 4096 % 64) % 64 * 4096 + (128 + c / 64 % 64) % 64 * 64 + (128 + c % 64) % 64 = c := by omega
        simp only [List.getD_cons_zero, List.getD_cons_succ]
        rw [he, if_pos (by rw [hv]; simp; omega)]; rfl
theorem runeL_ne (c : Nat) : runeL c ≠ [] := by unfold runeL; (repeat' split) <;> simp
theorem dec_ok (l : List Nat) : okR (decodeR l).1 := by
  unfold okR decodeR
  split
  · simp [Utf8.runeError]
  · dsimp only
    split
    · dsimp only; omega
    · split
      · split
        · dsimp only; omega
        · simp [Utf8.runeError]
      · split
        · split
          · rename_i h
            simp only [Bool.and_eq_true, Utf8.valid] at h
            dsimp only
            simp at h ⊢
            omega
          · simp [Utf8.runeError]
        · split
          · split
            · rename_i h
              simp only [Bool.and_eq_true, Utf8.valid] at h
              dsimp only
              simp at h ⊢
              omega
            · simp [Utf8.runeError]
          · simp [Utf8.runeError]
theorem runesS_ok {l : List Nat} : ∀ c ∈ runesS l, okR c := by
  induction l using runesS.induct with
  | case1 => rw [runesS_nil]; simp
  | case2 b t ih =>
    rw [runesS_ne (by simp)]
    intro c hc
    rcases List.mem_cons.1 hc with h | h
    · rw [h]; exact dec_ok _
    · exact ih c h
theorem runesS_rune {c : Nat} (h : okR c) (t : List Nat) : runesS (runeL c ++ t) = c :: runesS t := by
  rw [runesS_ne (by simp [runeL_ne]), dec_rune h, List.drop_left]
/-- the text of some runes -/
def txt (cs : List Nat) : List Nat := cs.flatMap runeL
theorem runesS_txt {cs : List Nat} (h : ∀ c ∈ cs, okR c) (t : List Nat) : runesS (txt cs ++ t) = cs ++ runesS t := by
  induction cs with
  | nil => rfl
  | cons c cs ih =>
    show runesS (runeL c ++ txt cs ++ t) = _
    rw [List.append_assoc, runesS_rune (h c (by simp)), ih fun d hd => h d (by simp [hd])]; rfl
theorem txt_lt {cs : List Nat} (h : ∀ c ∈ cs, okR c) : ∀ b ∈ txt cs, b < 256 := by
  intro b hb
  obtain ⟨c, hc, hb⟩ := List.mem_flatMap.1 hb
  exact runeL_lt (h c hc) b hb
theorem encS_txt {cs : List Nat} (h : ∀ c ∈ cs, okR c) (t : List Nat) : encS (txt cs ++ t) = cs.flatMap enc1 ++ encS t := by
  unfold encS; rw [runesS_txt h, List.flatMap_append]
theorem of_to {x : List Nat} (h : ∀ b ∈ x, b < 256) : (x.map UInt8.ofNat).map (·.toNat) = x := by
  rw [List.map_map]
  conv => rhs; rw [← List.map_id x]
  apply List.map_congr_left
  intro b hb
  have := h b hb
  simp
  omega
theorem decodeL_R {x : List Nat} (h : ∀ b ∈ x, b < 256) (hne : x ≠ []) : Lib.decodeL (x.map UInt8.ofNat) = decodeR x := by
  have hb : GX.bytes ⟨(x.map UInt8.ofNat).toArray⟩ = x := by
    unfold GX.bytes
    rw [show ((⟨(x.map UInt8.ofNat).toArray⟩ : ByteArray).data.toList) = x.map UInt8.ofNat from rfl, of_to h]
  have hs : 0 < (⟨(x.map UInt8.ofNat).toArray⟩ : ByteArray).size := by
    show 0 < (x.map UInt8.ofNat).toArray.size
    simp; exact List.length_pos_iff.2 hne
  have := decodeR_eq ⟨(x.map UInt8.ofNat).toArray⟩ 0 hs
  rw [hb, List.drop_zero] at this
  rw [this]; rfl
theorem vS_nil : vS [] = true := rfl
theorem vS_step {x : List Nat} (h : ∀ b ∈ x, b < 256) (hne : x ≠ []) : vS x = if (decodeR x).1 = 65533 ∧ (decodeR x).2 = 1 then false else vS (x.drop (decodeR x).2) := by
  unfold vS
  rw [Lib.validD_step _ (by simpa using hne), decodeL_R h hne, List.map_drop]
theorem vS_rune {c : Nat} (h : okR c) {t : List Nat} (ht : ∀ b ∈ t, b < 256) : vS (runeL c ++ t) = vS t := by
  rw [vS_step (fun b hb => (List.mem_append.1 hb).elim (runeL_lt h b) (ht b)) (by simp [runeL_ne]), dec_rune h, List.drop_left, if_neg]
  rintro ⟨h1, h2⟩
  dsimp only at h1 h2
  subst h1
  simp [runeL] at h2
theorem vS_txt {cs : List Nat} (h : ∀ c ∈ cs, okR c) {t : List Nat} (ht : ∀ b ∈ t, b < 256) : vS (txt cs ++ t) = vS t := by
  induction cs with
  | nil => rfl
  | cons c cs ih =>
    have h' : ∀ d ∈ cs, okR d := fun d hd => h d (by simp [hd])
    show vS (runeL c ++ txt cs ++ t) = _
    rw [List.append_assoc, vS_rune (h c (by simp)) (fun b hb => (List.mem_append.1 hb).elim (txt_lt h' b) (ht b)), ih h']
/-! mutf -/
theorem unitL_lt {r : Nat} (h : r < 65536) : ∀ b ∈ unitL r, b < 256 := by
  unfold unitL
  (repeat' split) <;> intro b hb <;> simp at hb <;> omega
theorem unitL_nz {r : Nat} : ∀ b ∈ unitL r, b ≠ 0 := by
  unfold unitL
  (repeat' split) <;> intro b hb <;> simp at hb <;> omega
theorem enc1_nz {c : Nat} : ∀ b ∈ enc1 c, b ≠ 0 := by
  unfold enc1
  split
  · intro b hb; exact (List.mem_append.1 hb).elim (unitL_nz b) (unitL_nz b)
  · exact unitL_nz
theorem enc1_lt {c : Nat} (h : c < 1114112) : ∀ b ∈ enc1 c, b < 256 := by
  unfold enc1
  split
  · intro b hb; exact (List.mem_append.1 hb).elim (unitL_lt (by omega) b) (unitL_lt (by omega) b)
  · exact unitL_lt (by omega)
theorem encS_nz {l : List Nat} : ∀ b ∈ encS l, b ≠ 0 := by
  intro b hb
  obtain ⟨c, _, hb⟩ := List.mem_flatMap.1 hb
  exact enc1_nz b hb
theorem encS_lt {l : List Nat} : ∀ b ∈ encS l, b < 256 := by
  intro b hb
  obtain ⟨c, hc, hb⟩ := List.mem_flatMap.1 hb
  exact enc1_lt (runesS_lt c hc) b hb
theorem unitL_ne (r : Nat) : unitL r ≠ [] := by unfold unitL; (repeat' split) <;> simp
theorem one_unit {r : Nat} (h : r < 65536) (t : List Nat) : oneL (unitL r ++ t) = (r, (unitL r).length) := by
  unfold unitL
  split
  · rename_i h1
    show oneL (r :: t) = _
    unfold oneL
    rw [if_pos (by simp; omega)]; rfl
  · split
    · rename_i h1 h2
      show oneL ((192 + r / 64) :: (128 + r % 64) :: t) = _
      unfold oneL
      rw [if_neg (by simp; omega), if_pos (by simp; omega), if_pos (by simp; omega)]
      simp; omega
    · show oneL ((224 + r / 4096) :: (128 + r / 64 % 64) :: (128 + r % 64) :: t) = _
      unfold oneL
      rw [if_neg (by simp; omega), if_neg (by simp; omega), if_pos (by simp; omega), if_pos (by simp; omega)]
      simp; omega
theorem dec_enc1 {c : Nat} (h : okR c) (t : List Nat) : decS (enc1 c ++ t) = (decS t).map (runeL c ++ ·) := by
  unfold okR at h
  unfold enc1
  by_cases hc : 65535 < c
  · obtain ⟨A, hA⟩ : ∃ A, A = 55296 + (c - 65536) / 1024 := ⟨_, rfl⟩
    obtain ⟨B, hB⟩ : ∃ B, B = 56320 + (c - 65536) % 1024 := ⟨_, rfl⟩
    have he : 65536 + (A - 55296) * 1024 + (B - 56320) = c := by omega
    have l1 : (unitL A).length = 3 := by unfold unitL; rw [if_neg (by omega), if_neg (by omega)]; rfl
    have l2 : (unitL B).length = 3 := by unfold unitL; rw [if_neg (by omega), if_neg (by omega)]; rfl
    have d1 : (unitL A ++ (unitL B ++ t)).drop (unitL A).length = unitL B ++ t := List.drop_left
    have d2 : (unitL A ++ (unitL B ++ t)).drop ((unitL A).length + (unitL B).length) = t := by rw [← List.drop_drop, d1, List.drop_left]
    have o1 := one_unit (r := A) (by omega) (unitL B ++ t)
    have o2 := one_unit (r := B) (by omega) t
    rw [if_pos hc, ← hA, ← hB, List.append_assoc, decS, dif_neg (by simp [unitL_ne]), o1]
    dsimp only
    rw [d1, o2]
    dsimp only
    rw [dif_neg (by omega), if_pos (by omega), if_neg (by omega), d2, he]
  · rw [if_neg hc, decS, dif_neg (by simp [unitL_ne]), one_unit (by omega)]
    dsimp only
    have : 0 < (unitL c).length := List.length_pos_iff.2 (unitL_ne c)
    rw [dif_neg (by omega), if_neg (by omega), List.drop_left]
theorem decS_nil : decS [] = some [] := by rw [decS]; rfl
theorem dec_encs {cs : List Nat} (h : ∀ c ∈ cs, okR c) : decS (cs.flatMap enc1) = some (txt cs) := by
  induction cs with
  | nil => exact decS_nil
  | cons c cs ih =>
    show decS (enc1 c ++ cs.flatMap enc1) = _
    rw [dec_enc1 (h c (by simp)), ih fun d hd => h d (by simp [hd])]; rfl
theorem unit_one {l : List Nat} (h : ∀ b ∈ l, b < 256) (hk : (oneL l).2 ≠ 0) : l = unitL (oneL l).1 ++ l.drop (oneL l).2 := by
  have g0 : l.getD 0 0 < 256 := getD_lt h (by omega)
  have g1 : l.getD 1 0 < 256 := getD_lt h (by omega)
  have g2 : l.getD 2 0 < 256 := getD_lt h (by omega)
  have c1 : 0 < l.length → ∃ a t, l = a :: t := fun h => by
    cases l with
    | nil => simp at h
    | cons a t => exact ⟨a, t, rfl⟩
  have c2 : 1 < l.length → ∃ a b t, l = a :: b :: t := fun h => by
    match l, h with
    | a :: b :: t, _ => exact ⟨a, b, t, rfl⟩
    | [a], h => simp at h
    | [], h => simp at h
  have c3 : 2 < l.length → ∃ a b c t, l = a :: b :: c :: t := fun h => by
    match l, h with
    | a :: b :: c :: t, _ => exact ⟨a, b, c, t, rfl⟩
    | [a, b], h => simp at h
    | [a], h => simp at h
    | [], h => simp at h
  unfold oneL at hk ⊢
  split
  · rename_i h1
    obtain ⟨a, t, rfl⟩ := c1 h1.1
    simp only [List.getD_cons_zero] at h1 ⊢
    unfold unitL
    rw [if_pos (by omega)]; rfl
  · rename_i h1
    rw [if_neg h1] at hk
    split
    · rename_i h2
      rw [if_pos h2] at hk
      split
      · rename_i h3
        obtain ⟨a, b, t, rfl⟩ := c2 h2.1
        simp only [List.getD_cons_zero, List.getD_cons_succ] at h1 h2 h3 g0 g1 ⊢
        unfold unitL
        rw [if_neg (by omega), if_pos (by omega)]
        simp
        omega
      · rename_i h3; rw [if_neg h3] at hk; exact absurd rfl hk
    · rename_i h2
      rw [if_neg h2] at hk
      split
      · rename_i h3
        rw [if_pos h3] at hk
        split
        · rename_i h4
          obtain ⟨a, b, c, t, rfl⟩ := c3 h3.1
          simp only [List.getD_cons_zero, List.getD_cons_succ] at h1 h2 h3 h4 g0 g1 g2 ⊢
          unfold unitL
          rw [if_neg (by omega), if_neg (by omega)]
          simp
          omega
        · rename_i h4; rw [if_neg h4] at hk; exact absurd rfl hk
      · rename_i h3; rw [if_neg h3] at hk; exact absurd rfl hk
/-- what is decoded is the text of runes that are encoded back -/
theorem dec_back : ∀ (n : Nat) {l u : List Nat}, l.length ≤ n → (∀ b ∈ l, b < 256) → decS l = some u → ∃ cs, (∀ c ∈ cs, okR c) ∧ u = txt cs ∧ l = cs.flatMap enc1
  | n, l, u, hn, hb, h => by
    rw [decS] at h
    by_cases h0 : l = []
    · rw [dif_pos h0] at h
      cases h
      exact ⟨[], by simp, rfl, h0⟩
    · rw [dif_neg h0] at h
      by_cases h1 : (oneL l).2 = 0 ∨ (56320 ≤ (oneL l).1 ∧ (oneL l).1 ≤ 57343)
      · rw [dif_pos h1] at h; cases h
      · rw [dif_neg h1] at h
        have hk : (oneL l).2 ≠ 0 := by omega
        have hu := unit_one hb hk
        have hb' : ∀ b ∈ l.drop (oneL l).2, b < 256 := fun b h => hb b (List.mem_of_mem_drop h)
        have hlen : 0 < l.length := List.length_pos_iff.2 h0
        have hr := oneL_lt hb
        cases n with
        | zero => omega
        | succ n =>
          split at h
          · rename_i h2
            split at h
            · cases h
            · rename_i h3
              obtain ⟨u', hu', rfl⟩ := Option.map_eq_some_iff.1 h
              have hu2 := unit_one hb' (by omega)
              obtain ⟨cs, k1, k2, k3⟩ := dec_back n (by rw [List.length_drop]; omega) (fun b h => hb b (List.mem_of_mem_drop h)) hu'
              have hr2 := oneL_lt hb'
              refine ⟨(65536 + ((oneL l).1 - 55296) * 1024 + ((oneL (l.drop (oneL l).2)).1 - 56320)) :: cs, ?_, by rw [k2]; rfl, ?_⟩
              · intro c hc
                rcases List.mem_cons.1 hc with h | h
                · rw [h]; unfold okR; omega
                · exact k1 c h
              · have he : enc1 (65536 + ((oneL l).1 - 55296) * 1024 + ((oneL (l.drop (oneL l).2)).1 - 56320)) = unitL (oneL l).1 ++ unitL (oneL (l.drop (oneL l).2)).1 := by
                  unfold enc1
                  have e1 : 55296 + (65536 + ((oneL l).1 - 55296) * 1024 + ((oneL (l.drop (oneL l).2)).1 - 56320) - 65536) / 1024 = (oneL l).1 := by omega
                  have e2 : 56320 + (65536 + ((oneL l).1 - 55296) * 1024 + ((oneL (l.drop (oneL l).2)).1 - 56320) - 65536) % 1024 = (oneL (l.drop (oneL l).2)).1 := by omega
                  rw [if_pos (by omega), e1, e2]
                rw [List.flatMap_cons, he, ← k3, ← List.drop_drop, List.append_assoc, ← hu2, ← hu]
          · rename_i h2
            obtain ⟨u', hu', rfl⟩ := Option.map_eq_some_iff.1 h
            obtain ⟨cs, k1, k2, k3⟩ := dec_back n (by rw [List.length_drop]; omega) hb' hu'
            refine ⟨(oneL l).1 :: cs, ?_, by rw [k2]; rfl, ?_⟩
            · intro c hc
              rcases List.mem_cons.1 hc with h | h
              · rw [h]; unfold okR; omega
              · exact k1 c h
            · rw [List.flatMap_cons, ← k3]
              have he : enc1 (oneL l).1 = unitL (oneL l).1 := by unfold enc1; rw [if_neg (by omega)]
              rw [he, ← hu]
/-- the text that a text's runes make -/
def normS (s : List Nat) : List Nat := txt (runesS s)
theorem runesOf_eq {cs : List Nat} (h : ∀ c ∈ cs, okR c) : runesOf (cs.map fun c => AV.int .i32 ((c : Nat) : Int)) = some (txt cs) := by
  induction cs with
  | nil => rfl
  | cons c cs ih =>
    show runesOf (AV.int .i32 ((c : Nat) : Int) :: cs.map fun c => AV.int .i32 ((c : Nat) : Int)) = _
    unfold runesOf
    rw [ih fun d hd => h d (by simp [hd]), encodeR_runeL (h c (by simp))]; rfl
theorem normS_lt (s : List Nat) : ∀ b ∈ normS s, b < 256 := txt_lt runesS_ok
theorem normS_len (s : List Nat) : (normS s).length ≤ 4 * s.length := by
  have h : ∀ cs : List Nat, (txt cs).length ≤ 4 * cs.length := by
    intro cs
    induction cs with
    | nil => simp [txt]
    | cons c cs ih =>
      show (runeL c ++ txt cs).length ≤ _
      have := runeL_len c
      simp only [List.length_append, List.length_cons]
      omega
  have h2 := h (runesS s)
  have := runesS_len (l := s)
  unfold normS
  omega
theorem vS_norm (s : List Nat) : vS (normS s) = true := by
  have := vS_txt (cs := runesS s) runesS_ok (t := []) (by simp)
  rw [List.append_nil] at this
  exact this
theorem encS_norm (s : List Nat) : encS (normS s) = (runesS s).flatMap enc1 := by
  have := encS_txt (cs := runesS s) runesS_ok []
  rw [List.append_nil, encS_nil, List.append_nil] at this
  exact this
theorem dec_norm (s : List Nat) : decS (encS (normS s)) = some (normS s) := by rw [encS_norm]; exact dec_encs runesS_ok
theorem dec_then {l u : List Nat} (hb : ∀ b ∈ l, b < 256) (h : decS l = some u) : vS u = true ∧ encS u = l ∧ ∀ b ∈ u, b < 256 := by
  obtain ⟨cs, k1, rfl, rfl⟩ := dec_back _ (Nat.le_refl _) hb h
  have h1 := vS_txt k1 (t := []) (by simp)
  have h2 := encS_txt k1 []
  rw [List.append_nil] at h1 h2
  rw [encS_nil, List.append_nil] at h2
  exact ⟨h1, h2, txt_lt k1⟩
end Go.Proofs.YthhbnnnokmefoaaDoor
/- mutf.unit: what it appends to bytes. -/

namespace Go.Proofs.YthhbnnnokmefoaaDoor
open GX
set_option maxHeartbeats 4000000
theorem unit_runs {S : St} {v : AV} {l : List Nat} {r : Nat} (hv : Ow S v l) (hok : Sok S) (hn : S.n + 2 ≤ 1000000000) (hl : l.length ≤ 1000000000) (hr : r < 65536) :
    Runs X1 76 [v, .int .i32 (r : Int)] S fun v' S' => Fr S S' v 2 ∧ Ow S' v' (l ++ unitL r) ∧ ∀ c, blkOf v' = some c → blkOf v = some c ∨ S.n ≤ c := by
  refine Runs_fn (m := 47) (by kernel_rfl) Tryd.func76 rfl (by kernel_rfl) (by kernel_rfl) ?_
  repeat' (
    first
      | refine W_seq ?_
      | refine WO_nil ?_
      | refine V_seq ?_
      | refine W_region ?_
      | refine W_block ?_
      | refine W_skip ?_
      | refine V_block ?_
      | refine W_cond_f rfl ?_
      | refine WO_dst rfl rfl (by kernel_rfl) (by kernel_rfl) ?_
      | refine WO_guard_t rfl rfl rfl rfl rfl (by kernel_rfl) (by kernel_rfl) ?_
      | refine WO_guard_f rfl rfl rfl rfl rfl rfl (by kernel_rfl) (by kernel_rfl) ?_
      | refine Ev_move rfl ?_
      | refine Ev_assign rfl ?_
      | refine Ev_pick_t rfl rfl rfl ?_
      | refine Ev_pick_f rfl rfl rfl ?_
      | refine Ev_lssN rfl rfl ?_
      | refine Ev_gtrN rfl rfl ?_
      | refine Ev_shrN (m := 6) (q := 64) rfl rfl rfl rfl ?_
      | refine Ev_shrN (m := 12) (q := 4096) rfl rfl rfl rfl ?_
      | refine Ev_andN 6 64 rfl rfl rfl rfl (by simp only [lim]; omega) (by simp only [lim]; omega) ?_
      | refine Ev_orN 4 rfl rfl rfl (by first | omega | (dsimp only; done) | (dsimp only; omega)) (by first | omega | (dsimp only; done) | (dsimp only; omega)) (by simp only [lim]; omega) ?_
      | refine Ev_orN 5 rfl rfl rfl (by first | omega | (dsimp only; done) | (dsimp only; omega)) (by first | omega | (dsimp only; done) | (dsimp only; omega)) (by simp only [lim]; omega) ?_
      | refine Ev_orN 6 rfl rfl rfl (by first | omega | (dsimp only; done) | (dsimp only; omega)) (by first | omega | (dsimp only; done) | (dsimp only; omega)) (by simp only [lim]; omega) ?_
      | refine Ev_convN rfl rfl rfl rfl rfl (by simp only [lim]; omega) ?_
      | (refine WO_guard_dt rfl rfl rfl rfl rfl (by kernel_rfl) (by kernel_rfl) (fun hg => ?_) (fun hg => ?_) <;> (try dsimp only at hg) <;> try (exfalso; first | omega | exact hg rfl))
      | (refine W_cond rfl (fun hc => ?_) (fun hc => ?_) <;> (try dsimp only at hc) <;> try (exfalso; first | omega | exact hc rfl)))
  all_goals
    refine Ev_buildSlice rfl rfl rfl rfl rfl rfl hok (by omega) ?_
    intro S1 hn1 hok1 hq1 hf1
    repeat (
      refine WO_dst rfl rfl (by kernel_rfl) (by kernel_rfl) ?_)
    refine Ev_append rfl rfl rfl rfl rfl rfl rfl rfl rfl rfl (hv.keep (fun b hb => hf1 b (hv.lt hok hb))) (Rd_lit hq1 rfl (by kernel_rfl)) rfl hok1 (by omega) (by dsimp only; omega) (by omega) ?_
    intro v2 S2 hle2 hn2 hok2 hown2 hf2 hb2
    repeat (
      first
        | refine WO_nil ?_
        | refine V_seq ?_
        | refine W_ret ?_
        | refine V_ret ?_
        | refine WO_dst rfl rfl (by kernel_rfl) (by kernel_rfl) ?_
        | refine Ev_assign rfl ?_)
    refine V_done rfl rfl ?_
    refine ⟨⟨by omega, by omega, hok2, fun c h1 h2 => by rw [hf2 c h1 (by omega), hf1 c h2]⟩, ?_, fun c hc => (hb2 c hc).imp id (fun h => by omega)⟩
    refine hown2.eq ?_ ?_
    · simp [sbytes, unitL, *] <;> rfl
    · simp [unitL, *]
end Go.Proofs.YthhbnnnokmefoaaDoor
/- mutf.Encode: what it answers. -/

namespace Go.Proofs.YthhbnnnokmefoaaDoor
open GX
set_option maxHeartbeats 4000000
theorem valid_runs {s : List Nat} {S : St} (hl : s.length < 9223372036854775808) {R : AV → St → Prop} (h : R (.bool (vS s)) S) : Runs X1 75 [.str s] S R :=
  Runs_ext (g := extValid) rfl (by unfold extValid; dsimp only; rw [nblt, decide_eq_true hl]; rfl) (Nat.le_refl _) h
structure EncR (S0 : St) (s : List Nat) (r : AV) (S' : St) : Prop where
  fr : Fr S0 S' .nils (4 * s.length + 1)
  out : ∃ v, r = .tup [v, .int .i64 (if vS s = true then 0 else 12)] ∧ Ow S' v (if vS s = true then encS s else []) ∧ ∀ c, blkOf v = some c → S0.n ≤ c
structure EncI (S : St) (s : List Nat) (a : Nat × AV × List Nat) (T : St) : Prop where
  le : a.1 ≤ s.length
  ok : Sok T
  it : T.h.get S.n = some (.sit s a.1)
  ow : Ow T a.2.1 a.2.2
  eq : a.2.2 ++ encS (s.drop a.1) = encS s
  len : a.2.2.length ≤ 6 * a.1
  lt : S.n < T.n
  n : T.n + 4 * (s.length - a.1) ≤ S.n + (4 * s.length + 1)
  fr : ∀ c, c < S.n → T.h.get c = S.h.get c
  bk : ∀ c, blkOf a.2.1 = some c → S.n < c
theorem enc_runs {S : St} {s : List Nat} (hok : Sok S) (hl : s.length ≤ 100000000) (hn : S.n + (4 * s.length + 1) ≤ 1000000000) : Runs X1 60 [.str s] S (EncR S s) := by
  refine Runs_fn (m := 31) (by kernel_rfl) Tryd.func60 rfl (by kernel_rfl) (by kernel_rfl) ?_
  repeat (
    first
      | refine W_seq ?_
      | refine WO_nil ?_
      | refine V_seq ?_
      | refine W_region ?_
      | refine WO_dst rfl rfl (by kernel_rfl) (by kernel_rfl) ?_
      | refine Ev_move rfl ?_
      | refine Ev_assign rfl ?_)
  refine Ev_call rfl rfl (valid_runs (by omega) ?_)
  repeat (
    first
      | refine WO_nil ?_
      | refine V_seq ?_
      | refine WO_dst rfl rfl (by kernel_rfl) (by kernel_rfl) ?_
      | refine Ev_notb rfl ?_)
  refine W_condb rfl (fun hc => ?_) (fun hc => ?_)
  · have hv : vS s = false := by simpa using hc
    repeat (
      first
        | refine W_seq ?_
        | refine WO_nil ?_
        | refine V_seq ?_
        | refine W_region ?_
        | refine W_ret ?_
        | refine V_ret ?_
        | refine WO_dst rfl rfl (by kernel_rfl) (by kernel_rfl) ?_
        | refine Ev_assign rfl ?_)
    refine V_done rfl rfl ?_
    exact ⟨⟨Nat.le_refl _, by omega, hok, fun _ _ _ => rfl⟩, .nils, by rw [hv]; rfl, by rw [hv]; exact .inl ⟨rfl, rfl, rfl⟩, fun c hc => by cases hc⟩
  · have hv : vS s = true := by simpa using hc
    repeat (
      first
        | refine W_seq ?_
        | refine WO_nil ?_
        | refine V_seq ?_
        | refine W_region ?_
        | refine W_skip ?_
        | refine WO_dst rfl rfl (by kernel_rfl) (by kernel_rfl) ?_
        | refine Ev_move rfl ?_
        | refine Ev_assign rfl ?_)
    refine Ev_range rfl rfl rfl hok (by omega) ?_
    intro S1 hn1 hok1 hq1 hf1
    repeat (
      first
        | refine WO_nil ?_
        | refine V_seq ?_
        | refine W_block ?_)
    refine W_inv (fun a : Nat × AV × List Nat => [(11, .ptr S.n 0), (4, a.2.1)]) (EncI S s) (fun a => s.length - a.1) ?_ (0, .nils, []) ?_ ⟨rfl, rfl, trivial⟩
    · rintro ⟨pos, v, l⟩ T ⟨hle, hokT, hit, how, heq, hlen, hlt, hnT, hfr, hbk⟩ back
      dsimp only at hle hit how heq hlen hnT hbk back
      repeat (
        first
          | refine W_seq ?_
          | refine W_region ?_
          | refine WO_dst rfl rfl (by kernel_rfl) (by kernel_rfl) ?_)
      by_cases hd : s.drop pos = []
      · refine Ev_next_end rfl hit hd ?_
        repeat (
          first
            | refine W_seq ?_
            | refine WO_nil ?_
            | refine V_seq ?_
            | refine W_region ?_
            | refine W_ret ?_
            | refine W_exit ?_
            | refine V_block_x rfl ?_
            | refine V_seq_x ?_
            | refine V_loop_x ?_
            | refine W_cond_f rfl ?_
            | refine WO_dst rfl rfl (by kernel_rfl) (by kernel_rfl) ?_
            | refine Ev_move rfl ?_
            | refine Ev_assign rfl ?_
            | refine Ev_extract rfl rfl ?_)
        refine V_done rfl rfl ?_
        refine ⟨⟨by omega, by omega, hokT, fun c _ h => hfr c h⟩, v, by rw [hv]; rfl, ?_, fun c hc => by have := hbk c hc; omega⟩
        rw [if_pos hv, ← heq, hd, encS_nil, List.append_nil]; exact how
      · obtain ⟨c, w, hcw⟩ : ∃ c w, decodeR (s.drop pos) = (c, w) := ⟨_, _, rfl⟩
        have hc : c < 1114112 := by have := dec_lt (s.drop pos); rw [hcw] at this; exact this
        have hwl : pos + w ≤ s.length := by have := dec_le hd; rw [hcw, List.length_drop] at this; dsimp only at this; omega
        have hw : 1 ≤ w := by have := dec_pos (s.drop pos); rw [hcw] at this; exact this
        have hpl : pos < s.length := by
          rcases Nat.lt_or_ge pos s.length with h | h
          · exact h
          · exact absurd (List.drop_eq_nil_of_le h) hd
        have heq' : l ++ (enc1 c ++ encS (s.drop (pos + w))) = encS s := by
          rw [← heq, encS_ne hd, hcw, List.drop_drop]
        refine Ev_next rfl hit hd hcw (by omega) ?_
        intro T1 hn1 hit1 hf1
        have hok1 : Sok T1 := by
          intro b x hb
          rw [hn1]
          by_cases h : b = S.n
          · omega
          · rw [hf1 b h] at hb; exact hokT b x hb
        have how1 : Ow T1 v l := how.keep fun b hb => hf1 b (by have := hbk b hb; omega)
        repeat (
          first
            | refine W_seq ?_
            | refine WO_nil ?_
            | refine V_seq ?_
            | refine W_region ?_
            | refine W_block ?_
            | refine W_skip ?_
            | refine W_cond_t rfl ?_
            | refine WO_dst rfl rfl (by kernel_rfl) (by kernel_rfl) ?_
            | refine Ev_move rfl ?_
            | refine Ev_assign rfl ?_
            | refine Ev_extract rfl rfl ?_
            | refine Ev_gtrN rfl rfl ?_)
        refine W_cond rfl (fun hc1 => ?_) (fun hc1 => ?_)
        · dsimp only at hc1
          repeat (
            first
              | refine W_seq ?_
              | refine WO_nil ?_
              | refine V_seq ?_
              | refine W_region ?_
              | refine WO_dst rfl rfl (by kernel_rfl) (by kernel_rfl) ?_
              | refine Ev_move rfl ?_
              | refine Ev_assign rfl ?_
              | refine Ev_addN rfl rfl (by simp only [lim]; omega) ?_
              | refine Ev_subN rfl rfl (by simp only [lim]; omega) (by first | omega | (dsimp only; done) | (dsimp only; omega)) ?_
              | refine Ev_shrN (m := 10) (q := 1024) rfl rfl rfl rfl ?_)
          refine Ev_call rfl rfl ((unit_runs how1 hok1 (by omega) (by omega) (by dsimp only; omega)).mono ?_)
          rintro v2 T2 - ⟨hF2, how2, hb2⟩
          have hle2 := hF2.le; have hn2 := hF2.n
          repeat (
            first
              | refine WO_nil ?_
              | refine V_seq ?_
              | refine W_region ?_
              | refine WO_dst rfl rfl (by kernel_rfl) (by kernel_rfl) ?_
              | refine Ev_move rfl ?_
              | refine Ev_assign rfl ?_
              | refine Ev_addN rfl rfl (by simp only [lim]; omega) ?_
              | refine Ev_andN 10 1024 rfl rfl rfl rfl (by simp only [lim]; omega) (by simp only [lim]; omega) ?_)
          refine Ev_call rfl rfl ((unit_runs how2 hF2.ok (by omega) (by have := unitL_len (55296 + (c - 65536) / 1024); simp only [List.length_append]; omega) (by dsimp only; omega)).mono ?_)
          rintro v3 T3 - ⟨hF3, how3, hb3⟩
          have hle3 := hF3.le; have hn3 := hF3.n
          repeat (
            first
              | refine WO_nil ?_
              | refine V_block ?_
              | refine WO_dst rfl rfl (by kernel_rfl) (by kernel_rfl) ?_
              | refine Ev_assign rfl ?_)
          have he1 : enc1 c = unitL (55296 + (c - 65536) / 1024) ++ unitL (56320 + (c - 65536) % 1024) := by unfold enc1; rw [if_pos hc1]
          have h6 := enc1_len c
          have hbk2 : ∀ b, blkOf v2 = some b → S.n < b := fun b hb => by
            rcases hb2 b hb with h | h
            · exact hbk b h
            · omega
          refine back (pos + w, v3, l ++ enc1 c) T3 _ (by dsimp only; omega) ⟨?_, hF3.ok, ?_, ?_, ?_, ?_, by omega, by dsimp only; omega, ?_, ?_⟩ ⟨rfl, rfl, trivial⟩
          · dsimp only; omega
          · rw [hF3.same _ (by intro h; have := hbk2 _ h; omega) (by omega), hF2.same _ (by intro h; have := hbk _ h; omega) (by omega)]; exact hit1
          · rw [he1]; exact how3.eq (by rw [List.append_assoc]) (by rw [List.append_assoc])
          · dsimp only; rw [List.append_assoc]; exact heq'
          · dsimp only; rw [List.length_append]; omega
          · intro b hb
            rw [hF3.same _ (by intro h; have := hbk2 _ h; omega) (by omega), hF2.same _ (by intro h; have := hbk _ h; omega) (by omega), hf1 b (by omega)]; exact hfr b hb
          · intro b hb
            rcases hb3 b hb with h | h
            · exact hbk2 b h
            · omega
        · dsimp only at hc1
          repeat (
            first
              | refine V_seq ?_
              | refine W_region ?_
              | refine W_skip ?_
              | refine WO_dst rfl rfl (by kernel_rfl) (by kernel_rfl) ?_
              | refine Ev_move rfl ?_)
          refine Ev_call rfl rfl ((unit_runs how1 hok1 (by omega) (by omega) (by omega)).mono ?_)
          rintro v3 T3 - ⟨hF3, how3, hb3⟩
          have hle3 := hF3.le; have hn3 := hF3.n
          repeat (
            first
              | refine WO_nil ?_
              | refine V_block ?_
              | refine WO_dst rfl rfl (by kernel_rfl) (by kernel_rfl) ?_
              | refine Ev_assign rfl ?_)
          have he1 : enc1 c = unitL c := by unfold enc1; rw [if_neg hc1]
          have h6 := enc1_len c
          refine back (pos + w, v3, l ++ enc1 c) T3 _ (by dsimp only; omega) ⟨?_, hF3.ok, ?_, ?_, ?_, ?_, by omega, by dsimp only; omega, ?_, ?_⟩ ⟨rfl, rfl, trivial⟩
          · dsimp only; omega
          · rw [hF3.same _ (by intro h; have := hbk _ h; omega) (by omega)]; exact hit1
          · rw [he1]; exact how3
          · dsimp only; rw [List.append_assoc]; exact heq'
          · dsimp only; rw [List.length_append]; omega
          · intro b hb
            rw [hF3.same _ (by intro h; have := hbk _ h; omega) (by omega), hf1 b (by omega)]; exact hfr b hb
          · intro b hb
            rcases hb3 b hb with h | h
            · exact hbk b h
            · omega
    · exact ⟨by simp, hok1, hq1, .inl ⟨rfl, rfl, rfl⟩, by simp, by simp, by omega, by dsimp only; omega, hf1, fun c hc => by cases hc⟩
end Go.Proofs.YthhbnnnokmefoaaDoor
/- caraferef1: valid, three, Encode. -/


namespace Go.Proofs.YthhbnnnokmefoaaDoor
open GX
set_option maxHeartbeats 8000000
/-- what begins with a rune -/
theorem rune_dec {x : List Nat} (hne : x ≠ []) (h : ∀ b ∈ x, b < 256) (hv : ¬ ((decodeR x).1 = 65533 ∧ (decodeR x).2 = 1)) : x = runeL (decodeR x).1 ++ x.drop (decodeR x).2 := by
  cases x with
  | nil => exact absurd rfl hne
  | cons a t =>
    have ha : a < 256 := h a (by simp)
    unfold decodeR at hv ⊢
    dsimp only at hv ⊢
    by_cases h1 : a < 128
    · rw [if_pos h1] at hv ⊢
      unfold runeL
      rw [if_pos (by omega)]; rfl
    · rw [if_neg h1] at hv ⊢
      by_cases h2 : (a / 32 == 6 && t.getD 0 0 / 64 == 2) = true
      · rw [if_pos h2] at hv ⊢
        by_cases h3 : a % 32 * 64 + t.getD 0 0 % 64 ≥ 128
        · rw [if_pos h3] at hv ⊢
          cases t with
          | nil => simp at h2
          | cons b t =>
            simp only [List.getD_cons_zero, Bool.and_eq_true, beq_iff_eq] at h2 h3 ⊢
            unfold runeL
            rw [if_neg (by omega), if_pos (by omega)]
            simp
            omega
        · rw [if_neg h3] at hv; exact absurd ⟨rfl, rfl⟩ hv
      · rw [if_neg h2] at hv ⊢
        by_cases h4 : (a / 16 == 14 && t.getD 0 0 / 64 == 2 && t.getD 1 0 / 64 == 2) = true
        · rw [if_pos h4] at hv ⊢
          obtain ⟨z, hz⟩ : ∃ z, z = a % 16 * 4096 + t.getD 0 0 % 64 * 64 + t.getD 1 0 % 64 := ⟨_, rfl⟩
          rw [← hz] at hv ⊢
          by_cases h5 : (decide (z ≥ 2048) && Utf8.valid ((z : Nat) : Int)) = true
          · rw [if_pos h5] at hv ⊢
            simp only [Bool.and_eq_true, decide_eq_true_eq] at h5
            have ht : ∃ b c t', t = b :: c :: t' := by
              clear hz
              match t, h4 with
              | [], h4 => simp at h4
              | [b], h4 => simp at h4
              | b :: c :: t, _ => exact ⟨b, c, t, rfl⟩
            obtain ⟨b, c, t, rfl⟩ := ht
            simp only [List.getD_cons_zero, List.getD_cons_succ, Bool.and_eq_true, beq_iff_eq] at h4 hz ⊢
            unfold runeL
            rw [if_neg (by omega), if_neg (by omega), if_pos (by omega)]
            simp
            omega
          · rw [if_neg h5] at hv; exact absurd ⟨rfl, rfl⟩ hv
        · rw [if_neg h4] at hv ⊢
          by_cases h6 : (a / 8 == 30 && t.getD 0 0 / 64 == 2 && t.getD 1 0 / 64 == 2 && t.getD 2 0 / 64 == 2) = true
          · rw [if_pos h6] at hv ⊢
            obtain ⟨z, hz⟩ : ∃ z, z = a % 8 * 262144 + t.getD 0 0 % 64 * 4096 + t.getD 1 0 % 64 * 64 + t.getD 2 0 % 64 := ⟨_, rfl⟩
            rw [← hz] at hv ⊢
            by_cases h7 : (decide (z ≥ 65536) && Utf8.valid ((z : Nat) : Int)) = true
            · rw [if_pos h7] at hv ⊢
              simp only [Bool.and_eq_true, decide_eq_true_eq] at h7
              have hz2 : Utf8.valid ((z : Nat) : Int) = true := h7.2
              have ht : ∃ b c d t', t = b :: c :: d :: t' := by
                clear hz
                match t, h6 with
                | [], h6 => simp at h6
                | [b], h6 => simp at h6
                | [b, c], h6 => simp at h6
                | b :: c :: d :: t, _ => exact ⟨b, c, d, t, rfl⟩
              obtain ⟨b, c, d, t, rfl⟩ := ht
              simp only [List.getD_cons_zero, List.getD_cons_succ, Bool.and_eq_true, beq_iff_eq] at h6 hz ⊢
              unfold runeL
              rw [if_neg (by omega), if_neg (by omega), if_neg (by omega)]
              simp
              omega
            · rw [if_neg h7] at hv; exact absurd ⟨rfl, rfl⟩ hv
          · rw [if_neg h6] at hv; exact absurd ⟨rfl, rfl⟩ hv
theorem norm_of_valid : ∀ (n : Nat) {x : List Nat}, x.length ≤ n → (∀ b ∈ x, b < 256) → vS x = true → normS x = x
  | n, x, hn, hb, hv => by
    by_cases h0 : x = []
    · subst h0; unfold normS; rw [runesS_nil]; rfl
    · have hl : 0 < x.length := List.length_pos_iff.2 h0
      cases n with
      | zero => omega
      | succ n =>
        rw [vS_step hb h0] at hv
        split at hv
        · cases hv
        · rename_i h1
          have hx := rune_dec h0 hb h1
          have hp := dec_pos x
          have ih := norm_of_valid n (x := x.drop (decodeR x).2) (by rw [List.length_drop]; omega) (fun b h => hb b (List.mem_of_mem_drop h)) hv
          unfold normS at ih ⊢
          rw [runesS_ne h0]
          show runeL (decodeR x).1 ++ txt (runesS (x.drop (decodeR x).2)) = x
          rw [ih, ← hx]
theorem vS_iff {x : List Nat} (hb : ∀ b ∈ x, b < 256) : vS x = decide (normS x = x) := by
  by_cases h : vS x = true
  · rw [h, decide_eq_true (norm_of_valid _ (Nat.le_refl _) hb h)]
  · have h2 : ¬ normS x = x := fun h2 => h (by rw [← h2]; exact vS_norm x)
    rw [decide_eq_false h2]; simpa using h
theorem runes_rd {S : St} {s : List Nat} {q el : Nat} (h : S.h.get q = some (.cells el (runesFrom s.length s) true)) : Rd S (.slice q 0 (runesFrom s.length s).length (.op 1)) 1 (runesFrom s.length s) (runesFrom s.length s).length :=
  Rd_lit h (by rw [Nat.mul_one]) rfl
theorem runes_of (s : List Nat) : runesOf (runesFrom s.length s) = some (normS s) := by
  rw [runesFrom_eq (Nat.le_refl _), runesOf_eq runesS_ok]; rfl
theorem rvalid_runs {S : St} {s : List Nat} (hok : Sok S) (hn : S.n < 1000000000) (hb : ∀ b ∈ s, b < 256) : Runs X1 77 [.str s] S fun r S' => r = .bool (vS s) ∧ Fr S S' .nils 1 := by
  refine Runs_fn (m := 8) (by kernel_rfl) Tryd.func77 rfl (by kernel_rfl) (by kernel_rfl) ?_
  repeat (
    first
      | refine W_seq ?_
      | refine WO_nil ?_
      | refine V_seq ?_
      | refine W_region ?_
      | refine WO_dst rfl rfl (by kernel_rfl) (by kernel_rfl) ?_
      | refine Ev_move rfl ?_
      | refine Ev_assign rfl ?_)
  refine Ev_conv_runes rfl rfl rfl rfl rfl rfl rfl rfl hok (by omega) ?_
  intro S1 hn1 hok1 hq1 hf1
  repeat (
    refine WO_dst rfl rfl (by kernel_rfl) (by kernel_rfl) ?_)
  refine Ev_conv_to_str_r rfl rfl rfl rfl rfl rfl rfl (runes_rd hq1) (runes_of s) ?_
  repeat (
    first
      | refine WO_nil ?_
      | refine V_seq ?_
      | refine W_ret ?_
      | refine WO_dst rfl rfl (by kernel_rfl) (by kernel_rfl) ?_
      | refine Ev_move rfl ?_
      | refine Ev_assign rfl ?_
      | refine Ev_seql rfl rfl ?_)
  refine V_done rfl rfl ?_
  exact ⟨by rw [vS_iff hb]; rfl, by omega, by omega, hok1, fun c _ h => hf1 c h⟩
def three (n : Nat) : List Nat := [224 + n / 4096, 128 + n / 64 % 64, 128 + n % 64]
theorem three_runs {S : St} {n : Nat} (hok : Sok S) (hn : S.n < 1000000000) (hl : n < 65536) : Runs X1 78 [.int .i64 (n : Int)] S fun r S' => Fr S S' .nils 1 ∧ Rd S' r 1 (sbytes (three n)) 3 ∧ ∀ b, blkOf r = some b → S.n ≤ b := by
  refine Runs_fn (m := 17) (by kernel_rfl) Tryd.func78 rfl (by kernel_rfl) (by kernel_rfl) ?_
  repeat (
    first
      | refine W_seq ?_
      | refine WO_nil ?_
      | refine V_seq ?_
      | refine W_region ?_
      | refine WO_dst rfl rfl (by kernel_rfl) (by kernel_rfl) ?_
      | refine Ev_move rfl ?_
      | refine Ev_assign rfl ?_
      | refine Ev_shrN (m := 6) (q := 64) rfl rfl rfl rfl ?_
      | refine Ev_shrN (m := 12) (q := 4096) rfl rfl rfl rfl ?_
      | refine Ev_andN 6 64 rfl rfl rfl rfl (by simp only [lim]; omega) (by simp only [lim]; omega) ?_
      | refine Ev_orN 4 rfl rfl rfl (by first | omega | (dsimp only; done) | (dsimp only; omega)) (by first | omega | (dsimp only; done) | (dsimp only; omega)) (by simp only [lim]; omega) ?_
      | refine Ev_orN 6 rfl rfl rfl (by first | omega | (dsimp only; done) | (dsimp only; omega)) (by first | omega | (dsimp only; done) | (dsimp only; omega)) (by simp only [lim]; omega) ?_
      | refine Ev_convN rfl rfl rfl rfl rfl (by simp only [lim]; omega) ?_)
  refine Ev_buildSlice rfl rfl rfl rfl rfl rfl hok (by omega) ?_
  intro S1 hn1 hok1 hq1 hf1
  repeat (
    first
      | refine WO_nil ?_
      | refine V_seq ?_
      | refine W_ret ?_
      | refine WO_dst rfl rfl (by kernel_rfl) (by kernel_rfl) ?_
      | refine Ev_assign rfl ?_)
  refine V_done rfl rfl ?_
  refine ⟨⟨by omega, by omega, hok1, fun c _ h => hf1 c h⟩, ?_, fun b h => by cases h; exact Nat.le_refl _⟩
  refine (Rd_lit hq1 rfl (by kernel_rfl)).eq ?_ rfl
  simp [sbytes, three, lput, rep, AV.cells]
structure REncR (S0 : St) (s : List Nat) (r : AV) (S' : St) : Prop where
  fr : Fr S0 S' .nils (4 * s.length + 2)
  out : ∃ v, r = .tup [v, .int .i64 (if vS s = true then 0 else 12)] ∧ Ow S' v (if vS s = true then encS s else []) ∧ ∀ c, blkOf v = some c → S0.n ≤ c
theorem three_unit {n : Nat} (h : 2048 ≤ n) : three n = unitL n := by unfold three unitL; rw [if_neg (by omega), if_neg (by omega)]
structure REncI (S : St) (q : Nat) (s : List Nat) (a : Nat × AV × List Nat) (T : St) : Prop where
  le : a.1 ≤ s.length
  ok : Sok T
  it : T.h.get q = some (.sit s a.1)
  ow : Ow T a.2.1 a.2.2
  eq : a.2.2 ++ encS (s.drop a.1) = encS s
  len : a.2.2.length ≤ 6 * a.1
  lt : q < T.n
  n : T.n + 4 * (s.length - a.1) ≤ S.n + (4 * s.length + 2)
  fr : ∀ c, c < S.n → T.h.get c = S.h.get c
  bk : ∀ c, blkOf a.2.1 = some c → q < c
theorem renc_runs {S : St} {s : List Nat} (hok : Sok S) (hb : ∀ b ∈ s, b < 256) (hl : s.length ≤ 100000000) (hn : S.n + (4 * s.length + 2) ≤ 1000000000) : Runs X1 62 [.str s] S (REncR S s) := by
  refine Runs_fn (m := 66) (by kernel_rfl) Tryd.func62 rfl (by kernel_rfl) (by kernel_rfl) ?_
  repeat (
    first
      | refine W_seq ?_
      | refine WO_nil ?_
      | refine V_seq ?_
      | refine W_region ?_
      | refine WO_dst rfl rfl (by kernel_rfl) (by kernel_rfl) ?_
      | refine Ev_move rfl ?_
      | refine Ev_assign rfl ?_)
  refine Ev_call rfl rfl ((rvalid_runs hok (by omega) hb).mono ?_)
  rintro _ S0 - ⟨rfl, hle0, hn0, hok0, hf0⟩
  repeat (
    first
      | refine WO_nil ?_
      | refine V_seq ?_
      | refine WO_dst rfl rfl (by kernel_rfl) (by kernel_rfl) ?_
      | refine Ev_notb rfl ?_)
  refine W_condb rfl (fun hc => ?_) (fun hc => ?_)
  · have hv : vS s = false := by simpa using hc
    repeat (
      first
        | refine W_seq ?_
        | refine WO_nil ?_
        | refine V_seq ?_
        | refine W_region ?_
        | refine W_ret ?_
        | refine V_ret ?_
        | refine WO_dst rfl rfl (by kernel_rfl) (by kernel_rfl) ?_
        | refine Ev_assign rfl ?_)
    refine V_done rfl rfl ?_
    exact ⟨⟨by omega, by omega, hok0, fun c h1 h2 => hf0 c h1 h2⟩, .nils, by rw [hv]; rfl, by rw [hv]; exact .inl ⟨rfl, rfl, rfl⟩, fun c hc => by cases hc⟩
  · have hv : vS s = true := by simpa using hc
    repeat (
      first
        | refine W_seq ?_
        | refine WO_nil ?_
        | refine V_seq ?_
        | refine W_region ?_
        | refine W_skip ?_
        | refine WO_dst rfl rfl (by kernel_rfl) (by kernel_rfl) ?_
        | refine Ev_move rfl ?_
        | refine Ev_assign rfl ?_)
    refine Ev_range rfl rfl rfl hok0 (by omega) ?_
    intro S1 hn1 hok1 hq1 hf1
    have hfS : ∀ c, c < S.n → S1.h.get c = S.h.get c := fun c h => by rw [hf1 c (by omega), hf0 c (by simp [blkOf]) h]
    repeat (
      first
        | refine WO_nil ?_
        | refine V_seq ?_
        | refine W_block ?_)
    refine W_inv (fun a : Nat × AV × List Nat => [(12, .ptr S0.n 0), (4, a.2.1)]) (REncI S S0.n s) (fun a => s.length - a.1) ?_ (0, .nils, []) ?_ ⟨rfl, rfl, trivial⟩
    · rintro ⟨pos, v, l⟩ T ⟨hle, hokT, hit, how, heq, hlen, hlt, hnT, hfr, hbk⟩ back
      dsimp only at hle hit how heq hlen hnT hbk back
      repeat (
        first
          | refine W_seq ?_
          | refine W_region ?_
          | refine WO_dst rfl rfl (by kernel_rfl) (by kernel_rfl) ?_)
      by_cases hd : s.drop pos = []
      · refine Ev_next_end rfl hit hd ?_
        repeat (
          first
            | refine W_seq ?_
            | refine WO_nil ?_
            | refine V_seq ?_
            | refine W_region ?_
            | refine W_ret ?_
            | refine W_exit ?_
            | refine V_block_x rfl ?_
            | refine V_seq_x ?_
            | refine V_loop_x ?_
            | refine W_cond_f rfl ?_
            | refine WO_dst rfl rfl (by kernel_rfl) (by kernel_rfl) ?_
            | refine Ev_move rfl ?_
            | refine Ev_assign rfl ?_
            | refine Ev_extract rfl rfl ?_)
        refine V_done rfl rfl ?_
        refine ⟨⟨by omega, by omega, hokT, fun c _ h => hfr c h⟩, v, by rw [hv]; rfl, ?_, fun c hc => by have := hbk c hc; omega⟩
        rw [if_pos hv, ← heq, hd, encS_nil, List.append_nil]; exact how
      · obtain ⟨c, w, hcw⟩ : ∃ c w, decodeR (s.drop pos) = (c, w) := ⟨_, _, rfl⟩
        have hc : c < 1114112 := by have := dec_lt (s.drop pos); rw [hcw] at this; exact this
        have hwl : pos + w ≤ s.length := by have := dec_le hd; rw [hcw, List.length_drop] at this; dsimp only at this; omega
        have hw : 1 ≤ w := by have := dec_pos (s.drop pos); rw [hcw] at this; exact this
        have heq' : l ++ (enc1 c ++ encS (s.drop (pos + w))) = encS s := by
          rw [← heq, encS_ne hd, hcw, List.drop_drop]
        refine Ev_next rfl hit hd hcw (by omega) ?_
        intro T1 hn1 hit1 hf1
        have hok1 : Sok T1 := by
          intro b x hb
          rw [hn1]
          by_cases h : b = S0.n
          · omega
          · rw [hf1 b h] at hb; exact hokT b x hb
        have how1 : Ow T1 v l := how.keep fun b hb => hf1 b (by have := hbk b hb; omega)
        have hfrq : ∀ b, b < S.n → T1.h.get b = S.h.get b := fun b h => by rw [hf1 b (by omega)]; exact hfr b h
        have h6 := enc1_len c
        -- what is appended, and back
        have hI : ∀ (v3 : AV) (T3 : St), Sok T3 → Ow T3 v3 (l ++ enc1 c) → T1.n ≤ T3.n → T3.n ≤ T1.n + 4 → (∀ b, blkOf v ≠ some b → b < T1.n → T3.h.get b = T1.h.get b) → (∀ b, blkOf v3 = some b → blkOf v = some b ∨ T1.n ≤ b) → REncI S S0.n s (pos + w, v3, l ++ enc1 c) T3 := by
          intro v3 T3 hok3 how3 hle3 hn3 hf3 hb3
          refine ⟨hwl, hok3, ?_, how3, ?_, ?_, by omega, by dsimp only; omega, ?_, ?_⟩
          · rw [hf3 _ (by intro h; have := hbk _ h; omega) (by omega)]; exact hit1
          · dsimp only; rw [List.append_assoc]; exact heq'
          · dsimp only; rw [List.length_append]; omega
          · intro b hb
            rw [hf3 _ (by intro h; have := hbk _ h; omega) (by omega)]; exact hfrq b hb
          · intro b hb
            rcases hb3 b hb with h | h
            · exact hbk b h
            · omega
        repeat' (
          first
            | refine W_seq ?_
            | refine WO_nil ?_
            | refine V_seq ?_
            | refine W_region ?_
            | refine W_block ?_
            | refine W_skip ?_
            | refine W_cond_t rfl ?_
            | refine W_cond_f rfl ?_
            | refine WO_dst rfl rfl (by kernel_rfl) (by kernel_rfl) ?_
            | refine WO_guard_t rfl rfl rfl rfl rfl (by kernel_rfl) (by kernel_rfl) ?_
            | refine WO_guard_f rfl rfl rfl rfl rfl rfl (by kernel_rfl) (by kernel_rfl) ?_
            | refine Ev_move rfl ?_
            | refine Ev_assign rfl ?_
            | refine Ev_extract rfl rfl ?_
            | refine Ev_pick_t rfl rfl rfl ?_
            | refine Ev_pick_f rfl rfl rfl ?_
            | refine Ev_lssN rfl rfl ?_
            | refine Ev_gtrN rfl rfl ?_
            | refine Ev_addN rfl rfl (by simp only [lim]; omega) ?_
            | refine Ev_subN rfl rfl (by simp only [lim]; omega) (by first | omega | (dsimp only; done) | (dsimp only; omega)) ?_
            | refine Ev_shrN (m := 6) (q := 64) rfl rfl rfl rfl ?_
            | refine Ev_shrN (m := 10) (q := 1024) rfl rfl rfl rfl ?_
            | refine Ev_andN 6 64 rfl rfl rfl rfl (by simp only [lim]; omega) (by simp only [lim]; omega) ?_
            | refine Ev_orN 4 rfl rfl rfl (by first | omega | (dsimp only; done) | (dsimp only; omega)) (by first | omega | (dsimp only; done) | (dsimp only; omega)) (by simp only [lim]; omega) ?_
            | refine Ev_orN 5 rfl rfl rfl (by first | omega | (dsimp only; done) | (dsimp only; omega)) (by first | omega | (dsimp only; done) | (dsimp only; omega)) (by simp only [lim]; omega) ?_
            | refine Ev_orN 6 rfl rfl rfl (by first | omega | (dsimp only; done) | (dsimp only; omega)) (by first | omega | (dsimp only; done) | (dsimp only; omega)) (by simp only [lim]; omega) ?_
            | refine Ev_convN rfl rfl rfl rfl rfl (by simp only [lim]; omega) ?_
            | (refine WO_guard_dt rfl rfl rfl rfl rfl (by kernel_rfl) (by kernel_rfl) (fun hg => ?_) (fun hg => ?_) <;> (try dsimp only at hg) <;> try (exfalso; first | omega | exact hg rfl))
            | (refine W_cond rfl (fun hc => ?_) (fun hc => ?_) <;> (try dsimp only at hc) <;> try (exfalso; first | omega | exact hc rfl)))
        · have he : enc1 c = [c] := by unfold enc1 unitL; rw [if_neg (by omega), if_pos (by omega)]
          refine Ev_buildSlice rfl rfl rfl rfl rfl rfl hok1 (by omega) ?_
          intro S2 hn2 hok2 hq2 hf2
          repeat (
            refine WO_dst rfl rfl (by kernel_rfl) (by kernel_rfl) ?_)
          refine Ev_append rfl rfl rfl rfl rfl rfl rfl rfl rfl rfl (how1.keep (fun b h => hf2 b (how1.lt hok1 h))) (Rd_lit hq2 rfl (by kernel_rfl)) rfl hok2 (by omega) (by dsimp only; omega) (by omega) ?_
          intro v3 T3 hle3 hn3 hok3 how3 hf3 hb3
          repeat (
            first
              | refine WO_nil ?_
              | refine V_block ?_
              | refine WO_dst rfl rfl (by kernel_rfl) (by kernel_rfl) ?_
              | refine Ev_assign rfl ?_)
          refine back (pos + w, v3, l ++ enc1 c) T3 _ (by dsimp only; omega) (hI v3 T3 hok3 (how3.eq (by rw [he, sbytes_app]; simp [sbytes, lput, rep, AV.cells]) (by rw [he, List.length_append]; rfl)) (by omega) (by omega) (fun b h1 h2 => by rw [hf3 b h1 (by omega), hf2 b h2]) (fun b h => (hb3 b h).imp id (fun h => by omega))) ⟨rfl, rfl, trivial⟩
        · have he : enc1 c = [192 + c / 64, 128 + c % 64] := by unfold enc1 unitL; rw [if_neg (by omega), if_neg (by omega), if_pos (by omega)]
          refine Ev_buildSlice rfl rfl rfl rfl rfl rfl hok1 (by omega) ?_
          intro S2 hn2 hok2 hq2 hf2
          repeat (
            refine WO_dst rfl rfl (by kernel_rfl) (by kernel_rfl) ?_)
          refine Ev_append rfl rfl rfl rfl rfl rfl rfl rfl rfl rfl (how1.keep (fun b h => hf2 b (how1.lt hok1 h))) (Rd_lit hq2 rfl (by kernel_rfl)) rfl hok2 (by omega) (by dsimp only; omega) (by omega) ?_
          intro v3 T3 hle3 hn3 hok3 how3 hf3 hb3
          repeat (
            first
              | refine WO_nil ?_
              | refine V_block ?_
              | refine WO_dst rfl rfl (by kernel_rfl) (by kernel_rfl) ?_
              | refine Ev_assign rfl ?_)
          refine back (pos + w, v3, l ++ enc1 c) T3 _ (by dsimp only; omega) (hI v3 T3 hok3 (how3.eq (by rw [he, sbytes_app]; simp [sbytes, lput, rep, AV.cells]) (by rw [he, List.length_append]; rfl)) (by omega) (by omega) (fun b h1 h2 => by rw [hf3 b h1 (by omega), hf2 b h2]) (fun b h => (hb3 b h).imp id (fun h => by omega))) ⟨rfl, rfl, trivial⟩
        · have he : enc1 c = three c := by rw [three_unit (by omega)]; unfold enc1; rw [if_neg (by omega)]
          refine Ev_call rfl rfl ((three_runs hok1 (by omega) (by omega)).mono ?_)
          rintro v2 S2 - ⟨⟨hle2, hn2, hok2, hf2⟩, hrd2, hb2⟩
          repeat (
            refine WO_dst rfl rfl (by kernel_rfl) (by kernel_rfl) ?_)
          refine Ev_append rfl rfl rfl rfl rfl rfl rfl rfl rfl rfl (how1.keep (fun b h => hf2 b (by simp [blkOf]) (how1.lt hok1 h))) hrd2 (sbytes_one _) hok2 (by omega) (by dsimp only; omega) (by omega) ?_
          intro v3 T3 hle3 hn3 hok3 how3 hf3 hb3
          repeat (
            first
              | refine WO_nil ?_
              | refine V_block ?_
              | refine WO_dst rfl rfl (by kernel_rfl) (by kernel_rfl) ?_
              | refine Ev_assign rfl ?_)
          refine back (pos + w, v3, l ++ enc1 c) T3 _ (by dsimp only; omega) (hI v3 T3 hok3 (how3.eq (by rw [he, sbytes_app]) (by rw [he, List.length_append]; rfl)) (by omega) (by omega) (fun b h1 h2 => by rw [hf3 b h1 (by omega), hf2 b (by simp [blkOf]) h2]) (fun b h => (hb3 b h).imp id (fun h => by omega))) ⟨rfl, rfl, trivial⟩
        · obtain ⟨A, hA⟩ : ∃ A, A = 55296 + (c - 65536) / 1024 := ⟨_, rfl⟩
          obtain ⟨B, hB⟩ : ∃ B, B = 56320 + (c - 65536) % 1024 := ⟨_, rfl⟩
          have he : enc1 c = three A ++ three B := by rw [three_unit (by omega), three_unit (by omega), hA, hB]; unfold enc1; rw [if_pos (by omega)]
          refine Ev_call rfl rfl ((three_runs hok1 (by omega) (by dsimp only; omega)).mono ?_)
          rintro v2 S2 - ⟨⟨hle2, hn2, hok2, hf2⟩, hrd2, hb2⟩
          repeat (
            refine WO_dst rfl rfl (by kernel_rfl) (by kernel_rfl) ?_)
          refine Ev_append rfl rfl rfl rfl rfl rfl rfl rfl rfl rfl (how1.keep (fun b h => hf2 b (by simp [blkOf]) (how1.lt hok1 h))) hrd2 (sbytes_one _) hok2 (by omega) (by dsimp only; omega) (by omega) ?_
          intro v3 T3 hle3 hn3 hok3 how3 hf3 hb3
          repeat (
            first
              | refine WO_nil ?_
              | refine V_seq ?_
              | refine W_region ?_
              | refine WO_dst rfl rfl (by kernel_rfl) (by kernel_rfl) ?_
              | refine Ev_move rfl ?_
              | refine Ev_assign rfl ?_
              | refine Ev_addN rfl rfl (by simp only [lim]; omega) ?_
              | refine Ev_subN rfl rfl (by simp only [lim]; omega) (by first | omega | (dsimp only; done) | (dsimp only; omega)) ?_
              | refine Ev_andN 10 1024 rfl rfl rfl rfl (by simp only [lim]; omega) (by simp only [lim]; omega) ?_)
          refine Ev_call rfl rfl ((three_runs hok3 (by omega) (by dsimp only; omega)).mono ?_)
          rintro v4 S4 - ⟨⟨hle4, hn4, hok4, hf4⟩, hrd4, hb4⟩
          repeat (
            refine WO_dst rfl rfl (by kernel_rfl) (by kernel_rfl) ?_)
          refine Ev_append rfl rfl rfl rfl rfl rfl rfl rfl rfl rfl (how3.keep (fun b h => hf4 b (by simp [blkOf]) (how3.lt hok3 h))) hrd4 (sbytes_one _) hok4 (by omega) (by dsimp only; omega) (by omega) ?_
          intro v5 T5 hle5 hn5 hok5 how5 hf5 hb5
          repeat (
            first
              | refine WO_nil ?_
              | refine V_block ?_
              | refine WO_dst rfl rfl (by kernel_rfl) (by kernel_rfl) ?_
              | refine Ev_assign rfl ?_)
          refine back (pos + w, v5, l ++ enc1 c) T5 _ (by dsimp only; omega) (hI v5 T5 hok5 (how5.eq (by rw [he, hA, hB, sbytes_app, sbytes_app, List.append_assoc]) (by rw [he, List.length_append, List.length_append]; rfl)) (by omega) (by omega) (fun b h1 h2 => by rw [hf5 b (fun h => by rcases hb3 b h with h | h; exact h1 h; omega) (by omega), hf4 b (by simp [blkOf]) (by omega), hf3 b h1 (by omega), hf2 b (by simp [blkOf]) h2]) (fun b h => by
            rcases hb5 b h with h | h
            · exact (hb3 b h).imp id (fun h => by omega)
            · exact .inr (by omega))) ⟨rfl, rfl, trivial⟩
        · have he : enc1 c = [192 + c / 64, 128 + c % 64] := by unfold enc1 unitL; rw [if_neg (by omega), if_neg (by omega), if_pos (by omega)]
          refine Ev_buildSlice rfl rfl rfl rfl rfl rfl hok1 (by omega) ?_
          intro S2 hn2 hok2 hq2 hf2
          repeat (
            refine WO_dst rfl rfl (by kernel_rfl) (by kernel_rfl) ?_)
          refine Ev_append rfl rfl rfl rfl rfl rfl rfl rfl rfl rfl (how1.keep (fun b h => hf2 b (how1.lt hok1 h))) (Rd_lit hq2 rfl (by kernel_rfl)) rfl hok2 (by omega) (by dsimp only; omega) (by omega) ?_
          intro v3 T3 hle3 hn3 hok3 how3 hf3 hb3
          repeat (
            first
              | refine WO_nil ?_
              | refine V_block ?_
              | refine WO_dst rfl rfl (by kernel_rfl) (by kernel_rfl) ?_
              | refine Ev_assign rfl ?_)
          refine back (pos + w, v3, l ++ enc1 c) T3 _ (by dsimp only; omega) (hI v3 T3 hok3 (how3.eq (by rw [he, sbytes_app]; simp [sbytes, lput, rep, AV.cells]) (by rw [he, List.length_append]; rfl)) (by omega) (by omega) (fun b h1 h2 => by rw [hf3 b h1 (by omega), hf2 b h2]) (fun b h => (hb3 b h).imp id (fun h => by omega))) ⟨rfl, rfl, trivial⟩
    · exact ⟨by simp, hok1, hq1, .inl ⟨rfl, rfl, rfl⟩, by simp, by simp, by omega, by dsimp only; omega, hfS, fun c hc => by cases hc⟩
end Go.Proofs.YthhbnnnokmefoaaDoor
/- mutf.Writer, and caraferef1.Number, Text: what is written. -/


namespace Go.Proofs.YthhbnnnokmefoaaDoor
open GX
set_option maxHeartbeats 8000000
theorem sl_cells {v : AV} (h : isSl v = true) : v.cells = [v] := by cases v <;> first | rfl | cases h
theorem Sok.upd {S S' : St} {p : Nat} {b : AB} (h : Sok S) (hp : p < S.n) (hn : S'.n = S.n) (_ : S'.h.get p = some b) (hf : ∀ c, c ≠ p → S'.h.get c = S.h.get c) : Sok S' := by
  intro c x hx
  by_cases hc : c = p
  · rw [hc, hn]; exact hp
  · rw [hf c hc] at hx; rw [hn]; exact h c x hx
theorem sl_one {v : AV} (h : isSl v = true) : v.one = true := by cases v <;> first | rfl | cases h
section
variable {X : X} {l : L} {S : St} {R : AV → St → Prop} {x y : Operand}
open Go
theorem Ev_store_sl {t b o : Nat} {i : TI} {ty : Nat} {cs : List AV} {sp : Bool} {v : AV} (hx : od l x = some (.ptr b o)) (hy : od l y = some v) (hsl : isSl v = true) (hi : X.ti t = some i) (hz : Nat.beq 1 i.size = true) (hb : S.h.get b = some (.cells ty cs sp)) (hle : o + 1 ≤ cs.length) (hn : b < 1000000000)
    (hR : ∀ S', S'.n = S.n → S'.h.get b = some (.cells ty (lput cs o [v]) sp) → (∀ c, c ≠ b → S'.h.get c = S.h.get c) → R (.tup []) S') : Ev X l S (.store t x y) R := by
  have hc := sl_cells hsl
  refine Ev_store hx hy hi (by rw [hc]; exact hz) (by rw [hc]; simp [sl_one hsl]) hb (by rw [hc]; exact hle) hn ?_
  rw [hc]; exact hR
/-- a shift to the right by a number that is not a constant -/
theorem Ev_shrV {t u m : Nat} {k k' : IntKind} {a : Int} (hx : od l x = some (.int k a)) (hy : od l y = some (.int k' ((m : Nat) : Int))) (hm : m ≤ k.bits) (hR : R (.int k (a / ((2 ^ m : Nat) : Int))) S) : Ev X l S (.binOp .shr t x y u) R :=
  Ev_shr hx hy (by rw [nble]; exact decide_eq_true hm) rfl hR
/-- a number as a byte -/
theorem Ev_conv8i {s d : Nat} {k : IntKind} {a : Int} {di si : TI} (hx : od l x = some (.int k a)) (hs : X.ti s = some si) (hd : X.ti d = some di) (hsd : si.desc = .int k) (hdd : di.desc = .int .u8) (hR : R (.int .u8 (((a % 256).toNat : Nat) : Int)) S) : Ev X l S (.convert s d x) R :=
  Ev_convw hx hs hd hsd hdd (by rw [wrp_u8, show a % 256 = (((a % 256).toNat : Nat) : Int) by omega]; exact hR)
theorem Ev_conv64 {s d : Nat} {k : IntKind} {a : Int} {di si : TI} (hx : od l x = some (.int k a)) (hs : X.ti s = some si) (hd : X.ti d = some di) (hsd : si.desc = .int k) (hdd : di.desc = .int .u64) (hR : R (.int .u64 (a % 18446744073709551616)) S) : Ev X l S (.convert s d x) R :=
  Ev_convw hx hs hd hsd hdd (by rw [wrp_u64]; exact hR)
end
def byteAt (n : Int) (k : Nat) : Nat := (n / ((2 ^ (8 * k) : Nat) : Int) % 256).toNat
/-- a number's lowest bytes -/
def numL (n : Int) : Nat → List Nat
  | 0 => []
  | j + 1 => byteAt n j :: numL n j
theorem numL_len (n : Int) : ∀ j, (numL n j).length = j
  | 0 => rfl
  | j + 1 => by simp [numL, numL_len n j]
theorem byteAt_lt (n : Int) (k : Nat) : byteAt n k < 256 := by unfold byteAt; omega
theorem numL_lt (n : Int) : ∀ j, ∀ b ∈ numL n j, b < 256
  | 0 => by simp [numL]
  | j + 1 => by
    intro b hb
    rcases List.mem_cons.1 hb with h | h
    · rw [h]; exact byteAt_lt n j
    · exact numL_lt n j b h
def sizeN (b : Int) : Nat := (min (max b 1) 8).toNat
theorem sizeN_le (b : Int) : 1 ≤ sizeN b ∧ sizeN b ≤ 8 := by unfold sizeN; omega
theorem size_runs (n : Int) (S : St) : Runs X1 59 [.int .i64 n] S fun v S' => S' = S ∧ v = .int .i64 ((sizeN n : Nat) : Int) := by
  refine Runs_fn (m := 6) (by kernel_rfl) Tryd.func59 rfl (by kernel_rfl) (by kernel_rfl) ?_
  repeat (
    first
      | refine W_seq ?_
      | refine WO_nil ?_
      | refine V_seq ?_
      | refine W_region ?_
      | refine W_ret ?_
      | refine WO_dst rfl rfl (by kernel_rfl) (by kernel_rfl) ?_
      | refine Ev_move rfl ?_
      | refine Ev_assign rfl ?_
      | refine Ev_min rfl rfl rfl ?_
      | refine Ev_max rfl rfl rfl ?_)
  refine V_done rfl rfl ?_
  refine ⟨rfl, ?_⟩
  show AV.int .i64 (min (max n 1) 8) = _
  congr 1
  unfold sizeN
  omega
theorem width_runs (n : Int) (S : St) : Runs X1 61 [.int .i64 n] S fun v S' => S' = S ∧ v = .int .i64 ((sizeN n : Nat) : Int) := by
  refine Runs_fn (m := 8) (by kernel_rfl) Tryd.func61 rfl (by kernel_rfl) (by kernel_rfl) ?_
  repeat' (
    first
      | refine W_seq ?_
      | refine WO_nil ?_
      | refine V_seq ?_
      | refine W_region ?_
      | refine W_skip ?_
      | refine W_ret ?_
      | refine V_ret ?_
      | refine WO_dst rfl rfl (by kernel_rfl) (by kernel_rfl) ?_
      | refine Ev_move rfl ?_
      | refine Ev_assign rfl ?_
      | refine Ev_lss rfl rfl ?_
      | refine Ev_gtr rfl rfl ?_
      | (refine W_cond rfl (fun hc => ?_) (fun hc => ?_) <;> (try dsimp only at hc) <;> try (exfalso; first | omega | exact hc rfl)))
  all_goals
    refine V_done rfl rfl ?_
    refine ⟨rfl, ?_⟩
    show AV.int .i64 _ = _
    congr 1
    unfold sizeN
    omega
/-- a writer, and what was written -/
structure Wr (S : St) (p : Nat) (vb : AV) (l : List Nat) : Prop where
  at_ : S.h.get p = some (.cells 73 [vb] false)
  ow : Ow S vb l
  ne : blkOf vb ≠ some p
/-- what a writer's work leaves as it was -/
structure WrF (S S' : St) (p : Nat) (vb vb' : AV) (k : Nat) : Prop where
  le : S.n ≤ S'.n
  n : S'.n ≤ S.n + k
  ok : Sok S'
  same : ∀ c, c ≠ p → blkOf vb ≠ some c → c < S.n → S'.h.get c = S.h.get c
  bk : ∀ c, blkOf vb' = some c → blkOf vb = some c ∨ S.n ≤ c
theorem WrF.refl {S : St} {p : Nat} {vb : AV} (hok : Sok S) : WrF S S p vb vb 0 := ⟨Nat.le_refl _, Nat.le_refl _, hok, fun _ _ _ _ => rfl, fun _ h => .inl h⟩
theorem WrF.trans {S S1 S2 : St} {p : Nat} {v v1 v2 : AV} {k k1 : Nat} (a : WrF S S1 p v v1 k) (b : WrF S1 S2 p v1 v2 k1) : WrF S S2 p v v2 (k + k1) := by
  refine ⟨Nat.le_trans a.le b.le, by have := a.n; have := b.n; omega, b.ok, fun c h1 h2 h3 => ?_, fun c h => ?_⟩
  · rw [b.same c h1 (fun h => by rcases a.bk c h with g | g; exact h2 g; omega) (by have := a.le; omega), a.same c h1 h2 h3]
  · rcases b.bk c h with g | g
    · exact a.bk c g
    · exact .inr (by have := a.le; omega)
theorem number_runs {S : St} {p : Nat} {vb : AV} {l : List Nat} {n b : Int} (hok : Sok S) (hw : Wr S p vb l) (hl : l.length ≤ 1000000000) (hn : S.n + 16 ≤ 1000000000) :
    Runs X1 37 [.ptr p 0, .int .i64 n, .int .i64 b] S fun _ S' => ∃ vb', Wr S' p vb' (l ++ numL n (sizeN b)) ∧ WrF S S' p vb vb' 16 := by
  have hsz := sizeN_le b
  have hp : p < S.n := hok _ _ hw.at_
  refine Runs_fn (m := 28) (by kernel_rfl) Tryd.func37 rfl (by kernel_rfl) (by kernel_rfl) ?_
  repeat (
    first
      | refine W_seq ?_
      | refine W_region ?_
      | refine WO_dst rfl rfl (by kernel_rfl) (by kernel_rfl) ?_
      | refine Ev_move rfl ?_)
  refine Ev_call rfl rfl ((size_runs b S).mono ?_)
  rintro _ _ - ⟨rfl, rfl⟩
  repeat (
    first
      | refine WO_nil ?_
      | refine V_seq ?_
      | refine W_block ?_
      | refine WO_dst rfl rfl (by kernel_rfl) (by kernel_rfl) ?_
      | refine Ev_assign rfl ?_
      | refine Ev_subN rfl rfl (by simp only [lim]; omega) (by first | omega | (dsimp only; done) | (dsimp only; omega)) ?_)
  rename_i S
  have hs6 : some (AV.int .i64 ((sizeN b - 1 : Nat) : Int)) = some (AV.int .i64 (((sizeN b : Nat) : Int) - 1)) := by congr 2; omega
  refine W_inv (fun a : Nat × AV × List Nat => [(6, .int .i64 (((a.1 : Nat) : Int) - 1)), (0, .ptr p 0), (1, .int .i64 n)]) (fun a T => Wr T p a.2.1 a.2.2 ∧ a.2.2 ++ numL n a.1 = l ++ numL n (sizeN b) ∧ a.1 ≤ sizeN b ∧ WrF S T p vb a.2.1 (2 * (sizeN b - a.1))) (fun a => a.1) ?_ (sizeN b, vb, l) ⟨hw, rfl, Nat.le_refl _, by rw [Nat.sub_self]; exact WrF.refl hok⟩ ⟨hs6, rfl, rfl, trivial⟩
  rintro ⟨j, v, l'⟩ T ⟨hwT, heq, hj, hF⟩ back
  dsimp only at hwT heq hj hF back
  have hFn := hF.n; have hFl := hF.le
  have hll : l'.length ≤ 1000000008 := by have h := congrArg List.length heq; simp only [List.length_append, numL_len] at h; omega
  cases j with
  | zero =>
    show W X1 28 _ _ _ [(6, .int .i64 (-1)), (0, .ptr p 0), (1, .int .i64 n)] T
    repeat' (
      first
        | refine W_seq ?_
        | refine WO_nil ?_
        | refine V_seq ?_
        | refine W_region ?_
        | refine W_exit ?_
        | refine V_block_x rfl ?_
        | refine V_seq_x ?_
        | refine V_loop_x ?_
        | refine W_cond_f rfl ?_
        | refine WO_dst rfl rfl (by kernel_rfl) (by kernel_rfl) ?_
        | refine Ev_move rfl ?_
        | refine Ev_geq rfl rfl ?_)
    refine V_done rfl rfl ?_
    refine ⟨v, ?_, ⟨hF.le, by omega, hF.ok, hF.same, hF.bk⟩⟩
    rw [← heq]; simpa [numL] using hwT
  | succ j =>
    have hjj : (((j + 1 : Nat) : Int) - 1) = ((j : Nat) : Int) := by omega
    show W X1 28 _ _ _ [(6, .int .i64 (((j + 1 : Nat) : Int) - 1)), (0, .ptr p 0), (1, .int .i64 n)] T
    rw [hjj]
    repeat' (
      first
        | refine W_seq ?_
        | refine WO_nil ?_
        | refine V_seq ?_
        | refine W_region ?_
        | refine W_drawn (by kernel_rfl) ?_
        | refine W_block ?_
        | refine W_skip ?_
        | refine W_cond_t rfl ?_
        | refine WO_dst rfl rfl (by kernel_rfl) (by kernel_rfl) ?_
        | refine Ev_load rfl rfl rfl hwT.at_ rfl hwT.ow.rd.self ?_
        | refine Ev_shrV rfl rfl (by simp only [Go.IntKind.bits]; omega) ?_
        | refine Ev_conv8i rfl rfl rfl rfl rfl ?_
        | refine Ev_move rfl ?_
        | refine Ev_geqN rfl rfl ?_
        | refine Ev_nilCheck rfl ?_
        | refine Ev_fieldAddr rfl rfl rfl rfl rfl rfl ?_
        | refine Ev_mulN rfl rfl (by simp only [lim]; omega) ?_)
    refine Ev_buildSlice rfl rfl rfl rfl rfl rfl hF.ok (by omega) ?_
    intro S1 hn1 hok1 hq1 hf1
    have hpT : p < T.n := hF.ok _ _ hwT.at_
    have ho1 := hwT.ow.keep (fun b hb => hf1 b (hwT.ow.lt hF.ok hb))
    repeat (
      refine WO_dst rfl rfl (by kernel_rfl) (by kernel_rfl) ?_)
    refine Ev_append rfl rfl rfl rfl rfl rfl rfl rfl rfl rfl ho1 (Rd_lit hq1 rfl (by kernel_rfl)) rfl hok1 (by omega) (by dsimp only; omega) (by omega) ?_
    intro v2 S2 hle2 hn2 hok2 hown2 hf2 hb2
    have hp2 : S2.h.get p = some (.cells 73 [v] false) := by rw [hf2 p hwT.ne (by omega), hf1 p hpT, hwT.at_]
    repeat (
      first
        | refine WO_dst rfl rfl (by kernel_rfl) (by kernel_rfl) ?_
        | refine WO_no rfl rfl ?_
        | refine Ev_nilCheck rfl ?_
        | refine Ev_fieldAddr rfl rfl rfl rfl rfl rfl ?_)
    refine Ev_store_sl rfl rfl hown2.rd.sl rfl rfl hp2 (by simp) (by omega) ?_
    intro S3 hn3 hp3 hf3
    repeat (
      first
        | refine WO_nil ?_
        | refine V_seq ?_
        | refine W_region ?_
        | refine V_block ?_
        | refine WO_dst rfl rfl (by kernel_rfl) (by kernel_rfl) ?_
        | refine Ev_move rfl ?_
        | refine Ev_assign rfl ?_
        | refine Ev_sub rfl rfl (by simp only [inR]; omega) ?_)
    have hb2' : ∀ c, blkOf v2 = some c → blkOf v = some c ∨ T.n ≤ c := fun c hc => (hb2 c hc).imp id (fun h => by omega)
    refine back (j, v2, l' ++ [byteAt n j]) S3 _ (Nat.lt_succ_self j) ⟨⟨hp3, ?_, ?_⟩, ?_, by omega, ?_⟩ ⟨rfl, rfl, rfl, trivial⟩
    · have h4 : Own S3 v2 5 1 (sbytes l' ++ lput (rep [AV.int .u8 0] 1) 0 [AV.int .u8 ((byteAt n j : Nat) : Int)]) (l'.length + 1) := hown2.keep fun c hc => hf3 c (fun h => by subst h; rcases hb2' _ hc with g | g; exact hwT.ne g; omega)
      refine h4.eq ?_ (by simp)
      rw [sbytes_app]; rfl
    · intro h; rcases hb2' _ h with g | g; exact hwT.ne g; omega
    · rw [← heq]; simp [numL]
    · have hF2 : WrF T S3 p v v2 2 := ⟨by omega, by omega, Sok.upd hok2 (by omega) hn3 hp3 hf3, fun c h1 h2 h3 => by rw [hf3 c h1, hf2 c h2 (by omega), hf1 c h3], hb2'⟩
      have h5 := hF.trans hF2
      refine ⟨h5.le, ?_, h5.ok, h5.same, h5.bk⟩
      have := h5.n
      omega
end Go.Proofs.YthhbnnnokmefoaaDoor
/- mutf.Writer's other functions, and caraferef1.Number and Text: what is written. -/


namespace Go.Proofs.YthhbnnnokmefoaaDoor
open GX
set_option maxHeartbeats 8000000
theorem WrF.fr {S S' T : St} {p : Nat} {vb vb' v : AV} {k k' : Nat} (a : WrF S S' p vb vb' k) (b : Fr S' T v k') (h1 : ∀ c, blkOf v = some c → blkOf vb = some c ∨ S.n ≤ c) : WrF S T p vb vb' (k + k') := by
  refine ⟨Nat.le_trans a.le b.le, by have := a.n; have := b.n; omega, b.ok, fun c g1 g2 g3 => ?_, a.bk⟩
  have := a.le
  rw [b.same c (fun h => by rcases h1 c h with g | g; exact g2 g; omega) (by omega), a.same c g1 g2 g3]
theorem Wr.keep {S S' : St} {p : Nat} {vb : AV} {l : List Nat} (h : Wr S p vb l) (hp : S'.h.get p = S.h.get p) (hb : ∀ c, blkOf vb = some c → S'.h.get c = S.h.get c) : Wr S' p vb l :=
  ⟨by rw [hp]; exact h.at_, h.ow.keep hb, h.ne⟩
theorem Wr.fr {S S' : St} {p : Nat} {vb : AV} {l : List Nat} {k : Nat} (h : Wr S p vb l) (hok : Sok S) (a : Fr S S' .nils k) : Wr S' p vb l :=
  h.keep (a.same p (by simp [blkOf]) (hok _ _ h.at_)) (fun c hc => a.same c (by simp [blkOf]) (h.ow.lt hok hc))
theorem wbytes_runs {S : St} {p : Nat} {vb v : AV} {l b : List Nat} (hok : Sok S) (hw : Wr S p vb l) (hv : Rd S v 1 (sbytes b) b.length) (hl : l.length ≤ 1000000000) (hb : b.length ≤ 1000000000) (hn : S.n + 1 ≤ 1000000000) :
    Runs X1 33 [.ptr p 0, v] S fun _ S' => ∃ vb', Wr S' p vb' (l ++ b) ∧ WrF S S' p vb vb' 1 := by
  have hp : p < S.n := hok _ _ hw.at_
  refine Runs_fn (m := 13) (by kernel_rfl) Tryd.func33 rfl (by kernel_rfl) (by kernel_rfl) ?_
  repeat (
    first
      | refine W_region ?_
      | refine WO_dst rfl rfl (by kernel_rfl) (by kernel_rfl) ?_
      | refine Ev_load rfl rfl rfl hw.at_ rfl hw.ow.rd.self ?_
      | refine Ev_move rfl ?_
      | refine Ev_nilCheck rfl ?_
      | refine Ev_fieldAddr rfl rfl rfl rfl rfl rfl ?_)
  refine Ev_append rfl rfl rfl rfl rfl rfl rfl rfl rfl rfl hw.ow hv (by first | exact sbytes_one b | (unfold sbytes; simp [AV.one])) hok (by omega) (by dsimp only; omega) (by omega) ?_
  intro v2 S2 hle2 hn2 hok2 hown2 hf2 hb2
  have hp2 : S2.h.get p = some (.cells 73 [vb] false) := by rw [hf2 p hw.ne (by omega), hw.at_]
  repeat (
    first
      | refine WO_dst rfl rfl (by kernel_rfl) (by kernel_rfl) ?_
      | refine WO_no rfl rfl ?_
      | refine Ev_nilCheck rfl ?_
      | refine Ev_fieldAddr rfl rfl rfl rfl rfl rfl ?_)
  refine Ev_store_sl rfl rfl hown2.rd.sl rfl rfl hp2 (by simp) (by omega) ?_
  intro S3 hn3 hp3 hf3
  repeat (
    refine WO_nil ?_)
  refine V_done rfl rfl ?_
  have hne : blkOf v2 ≠ some p := by intro h; rcases hb2 _ h with g | g; exact hw.ne g; omega
  refine ⟨v2, ⟨hp3, ?_, hne⟩, ⟨by omega, by omega, Sok.upd hok2 (by omega) hn3 hp3 hf3, fun c h1 h2 h3 => by rw [hf3 c h1, hf2 c h2 (by omega)], hb2⟩⟩
  have h4 : Own S3 v2 5 1 (sbytes l ++ sbytes b) (l.length + b.length) := hown2.keep fun c hc => hf3 c (fun h => by subst h; exact hne hc)
  exact h4.eq (sbytes_app _ _).symm (by simp)
/-- a copy of a slice -/
theorem clone_runs {S : St} {v : AV} {b : List Nat} (hok : Sok S) (hv : Rd S v 1 (sbytes b) b.length) (hb : b.length ≤ 1000000000) (hn : S.n + 2 ≤ 1000000000) :
    Runs X1 41 [v] S fun r S' => Fr S S' .nils 2 ∧ Gz S' r 5 1 (sbytes b) b.length ∧ ∀ c, blkOf r = some c → S.n ≤ c := by
  refine Runs_fn (m := 8) (by kernel_rfl) Tryd.func41 rfl (by kernel_rfl) (by kernel_rfl) ?_
  repeat (
    first
      | refine W_seq ?_
      | refine WO_nil ?_
      | refine V_seq ?_
      | refine W_region ?_
      | refine WO_dst rfl rfl (by kernel_rfl) (by kernel_rfl) ?_
      | refine Ev_move rfl ?_
      | refine Ev_assign rfl ?_)
  refine Ev_eq_nils rfl rfl rfl rfl hv ?_
  intro q hq
  repeat (
    first
      | refine WO_nil ?_
      | refine V_seq ?_)
  refine W_condb rfl (fun hc => ?_) (fun hc => ?_)
  · have h0 := hq hc
    repeat (
      first
        | refine W_seq ?_
        | refine WO_nil ?_
        | refine V_seq ?_
        | refine W_region ?_
        | refine W_ret ?_
        | refine V_ret ?_
        | refine WO_dst rfl rfl (by kernel_rfl) (by kernel_rfl) ?_
        | refine Ev_assign rfl ?_)
    refine V_done rfl rfl ?_
    refine ⟨⟨Nat.le_refl _, by omega, hok, fun _ _ _ => rfl⟩, .inl (.inl ⟨rfl, h0.2, h0.1⟩), fun c hc => by cases hc⟩
  · repeat (
      first
        | refine W_seq ?_
        | refine V_seq ?_
        | refine W_region ?_
        | refine W_skip ?_
        | refine WO_dst rfl rfl (by kernel_rfl) (by kernel_rfl) ?_)
    refine Ev_buildSlice rfl rfl rfl rfl rfl rfl hok (by omega) ?_
    intro S1 hn1 hok1 hq1 hf1
    have hv1 := hv.keep (fun c h => hf1 c (hv.lt hok h))
    repeat (
      first
        | refine WO_dst rfl rfl (by kernel_rfl) (by kernel_rfl) ?_
        | refine Ev_move rfl ?_)
    refine Ev_append_gz (cs := []) (m := 0) rfl rfl rfl rfl rfl rfl rfl rfl rfl rfl (.inr ⟨rfl, rfl, S.n, 0, rfl, Rd_lit hq1 rfl (by kernel_rfl)⟩) hv1 (by first | exact sbytes_one b | (unfold sbytes; simp [AV.one])) hok1 (by omega) (by dsimp only; omega) (by omega) ?_
    intro v2 S2 hle2 hn2 hok2 hown2 hf2 hb2
    repeat (
      first
        | refine WO_nil ?_
        | refine V_seq ?_
        | refine W_ret ?_
        | refine WO_dst rfl rfl (by kernel_rfl) (by kernel_rfl) ?_
        | refine Ev_assign rfl ?_)
    refine V_done rfl rfl ?_
    refine ⟨⟨by omega, by omega, hok2, fun c _ h => by rw [hf2 c (fun h => by cases h; omega) (by omega), hf1 c h]⟩, hown2.eq rfl (by omega), fun c hc => ?_⟩
    rcases hb2 c hc with h | h
    · cases h; exact Nat.le_refl _
    · omega
theorem done_runs {S : St} {p : Nat} {vb : AV} {l : List Nat} (hok : Sok S) (hw : Wr S p vb l) (hl : l.length ≤ 1000000000) (hn : S.n + 2 ≤ 1000000000) :
    Runs X1 14 [.ptr p 0] S fun r S' => Fr S S' .nils 2 ∧ Gz S' r 5 1 (sbytes l) l.length ∧ ∀ c, blkOf r = some c → S.n ≤ c := by
  refine Runs_fn (m := 8) (by kernel_rfl) Tryd.func14 rfl (by kernel_rfl) (by kernel_rfl) ?_
  repeat (
    first
      | refine W_seq ?_
      | refine WO_nil ?_
      | refine V_seq ?_
      | refine W_region ?_
      | refine WO_dst rfl rfl (by kernel_rfl) (by kernel_rfl) ?_
      | refine Ev_load rfl rfl rfl hw.at_ rfl hw.ow.rd.self ?_
      | refine Ev_move rfl ?_
      | refine Ev_assign rfl ?_
      | refine Ev_nilCheck rfl ?_
      | refine Ev_fieldAddr rfl rfl rfl rfl rfl rfl ?_)
  refine Ev_call rfl rfl ((clone_runs hok hw.ow.rd hl hn).mono ?_)
  rintro v S' - ⟨h1, h2, h3⟩
  repeat (
    first
      | refine WO_nil ?_
      | refine V_seq ?_
      | refine W_ret ?_
      | refine WO_dst rfl rfl (by kernel_rfl) (by kernel_rfl) ?_
      | refine Ev_assign rfl ?_)
  refine V_done rfl rfl ?_
  exact ⟨h1, h2, h3⟩
theorem new_runs {S : St} (hok : Sok S) (hn : S.n + 1 ≤ 1000000000) :
    Runs X1 11 [] S fun r S' => r = .ptr S.n 0 ∧ S'.n = S.n + 1 ∧ Sok S' ∧ (∀ c, c < S.n → S'.h.get c = S.h.get c) ∧ Wr S' S.n .nils [] := by
  refine Runs_fn (m := 3) (by kernel_rfl) Tryd.func11 rfl (by kernel_rfl) (by kernel_rfl) ?_
  repeat (
    first
      | refine W_seq ?_
      | refine WO_nil ?_
      | refine V_seq ?_
      | refine W_region ?_
      | refine WO_dst rfl rfl (by kernel_rfl) (by kernel_rfl) ?_
      | refine Ev_assign rfl ?_)
  refine Ev_build (v := .agg [.nils]) rfl rfl ?_
  repeat (
    refine WO_dst rfl rfl (by kernel_rfl) (by kernel_rfl) ?_)
  refine Ev_box rfl hok (by omega) ?_
  intro S1 hn1 hok1 hq1 hf1
  repeat (
    first
      | refine WO_nil ?_
      | refine V_seq ?_
      | refine W_ret ?_
      | refine WO_dst rfl rfl (by kernel_rfl) (by kernel_rfl) ?_
      | refine Ev_assign rfl ?_)
  refine V_done rfl rfl ?_
  exact ⟨rfl, hn1, hok1, hf1, ⟨hq1, .inl ⟨rfl, rfl, rfl⟩, by intro h; cases h⟩⟩
/-- what is written of a string -/
noncomputable def textB (s : List Nat) : List Nat := if vS s = true ∧ (encS s).length ≤ 256 then encS s else []
noncomputable def textL (s : List Nat) : List Nat := numL ((textB s).length : Int) 2 ++ textB s
theorem textB_len (s : List Nat) : (textB s).length ≤ 256 := by unfold textB; split <;> simp_all
theorem size2 : sizeN 2 = 2 := by decide
theorem wtext_runs {S : St} {p : Nat} {vb : AV} {l s : List Nat} (hok : Sok S) (hw : Wr S p vb l) (hs : s.length ≤ 100000000) (hl : l.length ≤ 900000000) (hn : S.n + (4 * s.length + 18) ≤ 1000000000) :
    Runs X1 38 [.ptr p 0, .str s] S fun _ S' => ∃ vb', Wr S' p vb' (l ++ textL s) ∧ WrF S S' p vb vb' (4 * s.length + 18) := by
  have hp : p < S.n := hok _ _ hw.at_
  refine Runs_fn (m := 25) (by kernel_rfl) Tryd.func38 rfl (by kernel_rfl) (by kernel_rfl) ?_
  repeat (
    first
      | refine W_seq ?_
      | refine W_region ?_
      | refine WO_dst rfl rfl (by kernel_rfl) (by kernel_rfl) ?_
      | refine Ev_move rfl ?_)
  refine Ev_call rfl rfl ((enc_runs hok hs (by omega)).mono ?_)
  rintro _ S1 - ⟨hfr, vx, rfl, hx, hbx⟩
  have hw1 := hw.fr hok hfr
  have hF1 := (WrF.refl hok).fr (p := p) (vb := vb) (vb' := vb) hfr (fun c h => by cases h)
  have hn1 := hfr.n
  have hl1 := hfr.le
  by_cases hv : vS s = true
  · rw [if_pos hv] at hx ⊢
    repeat' (
      first
        | refine W_seq ?_
        | refine WO_nil ?_
        | refine V_seq ?_
        | refine W_region ?_
        | refine W_skip ?_
        | refine WO_dst rfl rfl (by kernel_rfl) (by kernel_rfl) ?_
        | refine WO_guard_t rfl rfl rfl rfl rfl (by kernel_rfl) (by kernel_rfl) ?_
        | refine Ev_len rfl rfl rfl rfl rfl hx.rd.len ?_
        | refine Ev_move rfl ?_
        | refine Ev_assign rfl ?_
        | refine Ev_extract rfl rfl ?_
        | refine Ev_pick_f rfl rfl rfl ?_
        | refine Ev_gtrN rfl rfl ?_
        | refine Ev_neqN rfl rfl ?_
        | refine Ev_len rfl rfl rfl rfl rfl rfl ?_
        | (refine W_cond rfl (fun hc => ?_) (fun hc => ?_) <;> (try dsimp only at hc) <;> try (exfalso; first | omega | exact hc rfl)))
    · have htb : textB s = [] := by unfold textB; rw [if_neg (fun h => by have := h.2; omega)]
      refine Ev_call rfl rfl ((number_runs hF1.ok hw1 (by omega) (by omega)).mono ?_)
      rintro _ S2 - ⟨vb2, hw2, hF2⟩
      have hn2 := hF2.n
      have hl2 := hF2.le
      have hrd : Rd S2 .nils 1 (sbytes []) ([] : List Nat).length := ⟨rfl, rfl, rfl, rfl, rfl, rfl⟩
      have hbl : ([] : List Nat).length ≤ 256 := by simp
      repeat (
        first
          | refine WO_nil ?_
          | refine V_seq ?_
          | refine W_region ?_
          | refine WO_dst rfl rfl (by kernel_rfl) (by kernel_rfl) ?_
          | refine Ev_move rfl ?_)
      refine Ev_call rfl rfl ((wbytes_runs hF2.ok hw2 hrd (by simp only [List.length_append, numL_len, size2]; omega) (by omega) (by omega)).mono ?_)
      rintro _ S3 - ⟨vb3, hw3, hF3⟩
      repeat (
        refine WO_nil ?_)
      refine V_done rfl rfl ?_
      refine ⟨vb3, ?_, ?_⟩
      · unfold textL; rw [htb, ← List.append_assoc]; rw [size2] at hw3; exact hw3
      · have h9 := (hF1.trans hF2).trans hF3
        exact ⟨h9.le, by have := h9.n; omega, h9.ok, h9.same, h9.bk⟩
    · have htb : textB s = (encS s) := by unfold textB; rw [if_pos ⟨hv, by omega⟩]
      refine Ev_call rfl rfl ((number_runs hF1.ok hw1 (by omega) (by omega)).mono ?_)
      rintro _ S2 - ⟨vb2, hw2, hF2⟩
      have hn2 := hF2.n
      have hl2 := hF2.le
      have hrd : Rd S2 vx 1 (sbytes (encS s)) ((encS s) : List Nat).length := hx.rd.keep fun c h => by
        have h5 := hbx c h
        have h6 := hx.lt hfr.ok h
        exact hF2.same c (by omega) (fun h7 => by have := hw.ow.lt hok h7; omega) h6
      have hbl : ((encS s) : List Nat).length ≤ 256 := by omega
      repeat (
        first
          | refine WO_nil ?_
          | refine V_seq ?_
          | refine W_region ?_
          | refine WO_dst rfl rfl (by kernel_rfl) (by kernel_rfl) ?_
          | refine Ev_move rfl ?_)
      refine Ev_call rfl rfl ((wbytes_runs hF2.ok hw2 hrd (by simp only [List.length_append, numL_len, size2]; omega) (by omega) (by omega)).mono ?_)
      rintro _ S3 - ⟨vb3, hw3, hF3⟩
      repeat (
        refine WO_nil ?_)
      refine V_done rfl rfl ?_
      refine ⟨vb3, ?_, ?_⟩
      · unfold textL; rw [htb, ← List.append_assoc]; rw [size2] at hw3; exact hw3
      · have h9 := (hF1.trans hF2).trans hF3
        exact ⟨h9.le, by have := h9.n; omega, h9.ok, h9.same, h9.bk⟩
  · rw [if_neg hv] at hx ⊢
    repeat' (
      first
        | refine W_seq ?_
        | refine WO_nil ?_
        | refine V_seq ?_
        | refine W_region ?_
        | refine W_cond_t rfl ?_
        | refine WO_dst rfl rfl (by kernel_rfl) (by kernel_rfl) ?_
        | refine WO_guard_f rfl rfl rfl rfl rfl rfl (by kernel_rfl) (by kernel_rfl) ?_
        | refine Ev_move rfl ?_
        | refine Ev_assign rfl ?_
        | refine Ev_extract rfl rfl ?_
        | refine Ev_pick_t rfl rfl rfl ?_
        | refine Ev_neqN rfl rfl ?_
        | refine Ev_len rfl rfl rfl rfl rfl rfl ?_)
    have htb : textB s = [] := by unfold textB; rw [if_neg (fun h => hv h.1)]
    refine Ev_call rfl rfl ((number_runs hF1.ok hw1 (by omega) (by omega)).mono ?_)
    rintro _ S2 - ⟨vb2, hw2, hF2⟩
    have hn2 := hF2.n
    have hl2 := hF2.le
    have hrd : Rd S2 .nils 1 (sbytes []) ([] : List Nat).length := ⟨rfl, rfl, rfl, rfl, rfl, rfl⟩
    have hbl : ([] : List Nat).length ≤ 256 := by simp
    repeat (
      first
        | refine WO_nil ?_
        | refine V_seq ?_
        | refine W_region ?_
        | refine WO_dst rfl rfl (by kernel_rfl) (by kernel_rfl) ?_
        | refine Ev_move rfl ?_)
    refine Ev_call rfl rfl ((wbytes_runs hF2.ok hw2 hrd (by simp only [List.length_append, numL_len, size2]; omega) (by omega) (by omega)).mono ?_)
    rintro _ S3 - ⟨vb3, hw3, hF3⟩
    repeat (
      refine WO_nil ?_)
    refine V_done rfl rfl ?_
    refine ⟨vb3, ?_, ?_⟩
    · unfold textL; rw [htb, ← List.append_assoc]; rw [size2] at hw3; exact hw3
    · have h9 := (hF1.trans hF2).trans hF3
      exact ⟨h9.le, by have := h9.n; omega, h9.ok, h9.same, h9.bk⟩
end Go.Proofs.YthhbnnnokmefoaaDoor
/- pool.Write. -/



namespace Go.Proofs.YthhbnnnokmefoaaDoor
open GX
set_option maxHeartbeats 16000000
theorem field_len {s : List Nat} (h : fieldP s) : s.length ≤ 67 := by
  rcases field_iff.1 h with ⟨t, rfl, rfl | ⟨n, rfl, hn⟩⟩ | rfl | ⟨n, rfl, hn⟩
  · decide
  · have := hn.1.2; simp; omega
  · decide
  · have := hn.1.2; simp; omega
theorem right_len {c : CnA} (h : rightP c) : c.cl.length ≤ 67 ∧ c.nm.length ≤ 64 ∧ c.ds.length ≤ 256 := by
  rcases h with ⟨_, h1, h2, h3⟩ | ⟨_, _, h1, h2, h3⟩ | ⟨_, _, h1, _, h2, h3⟩ | ⟨_, h1, _, h2, h3⟩
  · rw [h1, h2, h3]; simp
  · rw [h2, h3]
    rcases h1 with ⟨_, h1⟩ | h1
    · have := field_len h1; simp; omega
    · have := h1.1.2; simp; omega
  · have := h2.1.2; have := h3.1.2; omega
  · have := h2.1.2; have := h3.1.2; have := field_len h1; omega
/-- a constant's bytes -/
noncomputable def constL (c : CnA) : List Nat := numL c.kind 1 ++ (if c.kind = 3 then numL c.n 4 else if c.kind = 9 ∨ c.kind = 10 then textL c.cl ++ (textL c.nm ++ textL c.ds) else textL c.cl)
noncomputable def poolL (cs : List CnA) : List Nat := numL (cs.length : Int) 2 ++ cs.flatMap constL
theorem size1 : sizeN 1 = 1 := by decide
theorem size4 : sizeN 4 = 4 := by decide
theorem textL_len (s : List Nat) : (textL s).length ≤ 258 := by
  have := textB_len s
  unfold textL
  simp only [List.length_append, numL_len]; omega
theorem constL_len (c : CnA) : (constL c).length ≤ 800 := by
  have h1 := textL_len c.cl
  have h2 := textL_len c.nm
  have h3 := textL_len c.ds
  unfold constL
  split
  · simp only [List.length_append, numL_len]; omega
  · split
    · simp only [List.length_append, numL_len]; omega
    · simp only [List.length_append, numL_len]; omega
theorem consts_len : ∀ (cs : List CnA), (cs.flatMap constL).length ≤ 800 * cs.length
  | [] => by simp
  | c :: cs => by
    have := constL_len c
    have := consts_len cs
    simp only [List.flatMap_cons, List.length_append, List.length_cons]; omega
/-- a writer beside constants -/
structure LW (T : St) (p : Nat) (vb v : AV) (l : List Nat) (cs : List CnA) : Prop where
  ok : Sok T
  wr : Wr T p vb l
  cs : Cs T v cs
  vp : blkOf v ≠ some p
  vv : ∀ b, blkOf v = some b → blkOf vb ≠ some b
theorem LW.fr {T U : St} {p k : Nat} {vb v : AV} {l : List Nat} {cs : List CnA} (h : LW T p vb v l cs) (a : Fr T U .nils k) : LW U p vb v l cs :=
  ⟨a.ok, h.wr.fr h.ok a, h.cs.keep (fun c hc => a.same c (by simp [blkOf]) (h.cs.lt h.ok hc)), h.vp, h.vv⟩
theorem LW.wf {T U : St} {p k : Nat} {vb vb' v : AV} {l l' : List Nat} {cs : List CnA} (h : LW T p vb v l cs) (a : WrF T U p vb vb' k) (b : Wr U p vb' l') : LW U p vb' v l' cs :=
  ⟨a.ok, b, h.cs.keep (fun c hc => a.same c (fun e => h.vp (by rw [hc, e])) (fun e => h.vv c hc e) (h.cs.lt h.ok hc)), h.vp, fun b hb e => by
    rcases a.bk b e with g | g
    · exact h.vv b hb g
    · have := h.cs.lt h.ok hb; omega⟩
theorem pwrite_runs {S : St} {p : Nat} {vb v : AV} {l : List Nat} {cs : List CnA} (h : LW S p vb v l cs) (hgood : ∀ c ∈ cs, c.Good) (hright : ∀ c ∈ cs, rightP c) (hlen : cs.length ≤ 256) (hll : l.length ≤ 10000000) (hn : S.n ≤ 800000000) :
    Runs X1 12 [.ptr p 0, v] S fun r S' => r = .int .i64 0 ∧ ∃ vb', LW S' p vb' v (l ++ poolL cs) cs ∧ WrF S S' p vb vb' 3000000 := by
  refine Runs_fn (m := 60) (by kernel_rfl) Tryd.func12 rfl (by kernel_rfl) (by kernel_rfl) ?_
  repeat' (
    first
      | refine W_seq ?_
      | refine WO_nil ?_
      | refine V_seq ?_
      | refine W_region ?_
      | refine W_block ?_
      | refine W_cond_f rfl ?_
      | refine WO_dst rfl rfl (by kernel_rfl) (by kernel_rfl) ?_
      | refine Ev_len rfl rfl rfl rfl rfl h.cs.len ?_
      | refine Ev_move rfl ?_
      | refine Ev_assign rfl ?_
      | refine Ev_gtrN rfl rfl ?_
      | refine Ev_ptr_eql rfl rfl rfl rfl ?_
      | (refine W_cond rfl (fun hc => ?_) (fun hc => ?_) <;> (try dsimp only at hc) <;> try (exfalso; first | omega | exact hc rfl)))
  have hnr : decide (¬ ∀ c ∈ cs, rightP c) = false := decide_eq_false (fun g => g hright)
  refine Ev_call rfl rfl ((contains_runs h.ok h.cs hgood (by omega) (by omega)).mono ?_)
  rintro _ T0 - ⟨rfl, hF0⟩
  rw [hnr]
  have h0 := h.fr hF0
  have gn0 := hF0.n
  have gl0 := hF0.le
  have hW0 := (WrF.refl (p := p) (vb := vb) h.ok).fr (p := p) (vb := vb) (vb' := vb) hF0 (fun c h => by cases h)
  repeat' (
    first
      | refine W_seq ?_
      | refine WO_nil ?_
      | refine V_seq ?_
      | refine W_region ?_
      | refine W_skip ?_
      | refine V_block ?_
      | refine W_cond_f rfl ?_
      | refine WO_dst rfl rfl (by kernel_rfl) (by kernel_rfl) ?_
      | refine Ev_len rfl rfl rfl rfl rfl h0.cs.len ?_
      | refine Ev_move rfl ?_
      | refine Ev_assign rfl ?_)
  refine Ev_call rfl rfl ((number_runs h0.ok h0.wr (by omega) (by omega)).mono ?_)
  rintro _ T1 - ⟨vb1, hw1, hF1⟩
  rw [size2] at hw1
  have h1 := h0.wf hF1 hw1
  have hW1 := hW0.trans hF1
  have gn1 := hF1.n
  have gl1 := hF1.le
  repeat' (
    first
      | refine W_seq ?_
      | refine WO_nil ?_
      | refine V_seq ?_
      | refine W_region ?_
      | refine W_block ?_
      | refine WO_dst rfl rfl (by kernel_rfl) (by kernel_rfl) ?_
      | refine Ev_len rfl rfl rfl rfl rfl h1.cs.len ?_
      | refine Ev_move rfl ?_)
  refine W_inv (fun a : Nat × AV => [(23, .int .i64 ((a.1 : Nat) : Int)), (22, .int .i64 ((cs.length : Nat) : Int)), (21, v), (0, .ptr p 0)]) (fun a T => LW T p a.2 v (l ++ numL (cs.length : Int) 2 ++ (cs.take a.1).flatMap constL) cs ∧ WrF S T p vb a.2 (8000 + 2000 * a.1) ∧ a.1 ≤ cs.length) (fun a => cs.length - a.1) ?_ (0, vb1) ⟨by simpa using h1, ⟨hW1.le, by have := hW1.n; dsimp only; omega, hW1.ok, hW1.same, hW1.bk⟩, Nat.zero_le _⟩ ⟨rfl, rfl, rfl, rfl, trivial⟩
  rintro ⟨i, vb2⟩ T ⟨h2, hW2, hi⟩ back
  dsimp only at h2 hW2 hi back
  have gn2 := hW2.n
  have gl2 := hW2.le
  have hll2 : (l ++ numL (cs.length : Int) 2 ++ (cs.take i).flatMap constL).length ≤ 10300000 := by
    have := consts_len (cs.take i)
    have h3 : (cs.take i).length ≤ 256 := by rw [List.length_take]; omega
    simp only [List.length_append, numL_len]; omega
  repeat' (
    first
      | refine W_seq ?_
      | refine WO_nil ?_
      | refine V_seq ?_
      | refine W_region ?_
      | refine W_block ?_
      | refine W_skip ?_
      | refine W_ret ?_
      | refine W_exit ?_
      | refine V_block_x rfl ?_
      | refine V_seq_x ?_
      | refine V_loop_x ?_
      | refine WO_dst rfl rfl (by kernel_rfl) (by kernel_rfl) ?_
      | refine Ev_assign rfl ?_
      | refine Ev_lssN rfl rfl ?_
      | (refine W_cond rfl (fun hc => ?_) (fun hc => ?_) <;> (try dsimp only at hc) <;> try (exfalso; first | omega | exact hc rfl)))
  · have hlt : i < cs.length := by assumption
    obtain ⟨c, hc⟩ : ∃ c, c = cs[i] := ⟨_, rfl⟩
    have hcm : c ∈ cs := by rw [hc]; exact List.getElem_mem _
    have hcg := hgood c hcm
    have hcr := hright c hcm
    have hcl := right_len hcr
    have hcell := cellsC_get cs i hlt
    rw [← hc] at hcell
    have hnext : (cs.take (i + 1)).flatMap constL = (cs.take i).flatMap constL ++ constL c := by
      rw [List.take_succ_eq_append_getElem hlt, List.flatMap_append, ← hc]; simp
    obtain ⟨L, hL⟩ : ∃ L, L = l ++ numL (cs.length : Int) 2 ++ (cs.take i).flatMap constL := ⟨_, rfl⟩
    rw [← hL] at h2 hll2
    refine Ev_indexAddr_rd rfl rfl rfl rfl rfl h2.cs hlt ?_
    intro q hq
    repeat (
      refine WO_dst rfl rfl (by kernel_rfl) (by kernel_rfl) ?_)
    refine Ev_load_pt_agg rfl rfl rfl hq (by rw [cellsC_len]; dsimp only; omega) hcell (CnA.veqs c) ?_
    repeat (
      refine WO_dst rfl rfl (by kernel_rfl) (by kernel_rfl) ?_)
    refine Ev_alloc_ rfl h2.ok (by omega) ?_
    intro T3 gn3 gok3 gq3 gf3
    repeat (
      refine WO_no rfl rfl ?_)
    refine Ev_store rfl rfl rfl rfl (CnA.ones c) gq3 (by simp [CnA.cells, AV.cells]) (by omega) ?_
    intro T4 gn4 gq4 gf4
    have hF4 : Fr T T4 .nils 1 := ⟨by omega, by omega, sok_upd gok3 (by omega) gn4 gq4 gf4, fun c _ h => by rw [gf4 c (by omega), gf3 c h]⟩
    have h4 := h2.fr hF4
    have hW4 := hW2.fr hF4 (fun c h => by cases h)
    have hb4 : T4.h.get T.n = some (.cells 24 c.cells false) := gq4
    have hpT := h2.ok _ _ h2.wr.at_
    have hvT : ∀ {U : St} {l' : List Nat} {vb' : AV}, LW U p vb' v l' cs → (∀ c, blkOf vb' = some c → blkOf vb2 = some c ∨ T.n < c) → blkOf vb' ≠ some T.n := fun hU hb e => by
      rcases hb _ e with g | g
      · have := h2.wr.ow.lt h2.ok g; omega
      · omega
    have hk1 := hcg.k1
    repeat (
      first
        | refine W_seq ?_
        | refine WO_nil ?_
        | refine V_seq ?_
        | refine W_region ?_
        | refine WO_dst rfl rfl (by kernel_rfl) (by kernel_rfl) ?_
        | refine Ev_load rfl rfl rfl hb4 rfl (veq_int _ _) ?_
        | refine Ev_move rfl ?_
        | refine Ev_fieldAddr rfl rfl rfl rfl rfl rfl ?_)
    refine Ev_call rfl rfl ((number_runs h4.ok h4.wr (by omega) (by omega)).mono ?_)
    rintro _ T5 - ⟨vb5, hw5, hF5⟩
    rw [size1] at hw5
    have h5 := h4.wf hF5 hw5
    have gn5 := hF5.n
    have gl5 := hF5.le
    have hb5 : T5.h.get T.n = some (.cells 24 c.cells false) := by rw [hF5.same T.n (by omega) (fun g => by have := h2.wr.ow.lt h2.ok g; omega) (by omega)]; exact hb4
    have hW5 := hW4.trans hF5
    have ht1 := textL_len c.cl
    have ht2 := textL_len c.nm
    have ht3 := textL_len c.ds
    repeat' (
      first
        | refine W_seq ?_
        | refine WO_nil ?_
        | refine V_seq ?_
        | refine W_region ?_
        | refine W_block ?_
        | refine W_skip ?_
        | refine WO_dst rfl rfl (by kernel_rfl) (by kernel_rfl) ?_
        | refine Ev_load rfl rfl rfl hb5 rfl (veq_int _ _) ?_
        | refine Ev_move rfl ?_
        | refine Ev_assign rfl ?_
        | refine Ev_eql rfl rfl ?_
        | refine Ev_fieldAddr rfl rfl rfl rfl rfl rfl ?_
        | (refine W_cond rfl (fun hc => ?_) (fun hc => ?_) <;> (try dsimp only at hc) <;> try (exfalso; first | omega | exact hc rfl)))
    · have hn1 := hcg.n1
      have hn2 := hcg.n2
      refine Ev_conv (k' := .i64) rfl rfl rfl rfl rfl (by simp only [inR]; omega) ?_
      repeat (
        refine WO_dst rfl rfl (by kernel_rfl) (by kernel_rfl) ?_)
      refine Ev_call rfl rfl ((number_runs h5.ok h5.wr (by simp only [List.length_append, numL_len]; omega) (by omega)).mono ?_)
      rintro _ T6 - ⟨vb6, hw6, hF6⟩
      rw [size4] at hw6
      have h6 := h5.wf hF6 hw6
      have hW6 := hW5.trans hF6
      have e : constL c = numL c.kind 1 ++ numL c.n 4 := by unfold constL; rw [if_pos (by assumption)]
      repeat' (
        first
          | refine WO_nil ?_
          | refine V_seq ?_
          | refine W_region ?_
          | refine V_block ?_
          | refine WO_dst rfl rfl (by kernel_rfl) (by kernel_rfl) ?_
          | refine Ev_move rfl ?_
          | refine Ev_addN rfl rfl (by simp only [lim]; omega) ?_)
      refine back (i + 1, vb6) T6 _ (by dsimp only; omega) ⟨?_, ⟨hW6.le, by have := hW6.n; dsimp only; omega, hW6.ok, hW6.same, hW6.bk⟩, by dsimp only; omega⟩ ⟨rfl, rfl, rfl, rfl, trivial⟩
      dsimp only
      rw [hnext, e, ← List.append_assoc, ← hL, ← List.append_assoc]
      exact h6
    · have e : constL c = numL c.kind 1 ++ (textL c.cl ++ (textL c.nm ++ textL c.ds)) := by unfold constL; rw [if_neg (by assumption), if_pos (by omega)]
      refine Ev_load rfl rfl rfl hb5 rfl (veq_str _) ?_
      repeat (
        refine WO_dst rfl rfl (by kernel_rfl) (by kernel_rfl) ?_)
      refine Ev_call rfl rfl ((wtext_runs h5.ok h5.wr (by omega) (by simp only [List.length_append, numL_len]; omega) (by omega)).mono ?_)
      rintro _ T6 - ⟨vb6, hw6, hF6⟩
      have h6 := h5.wf hF6 hw6
      have gn6 := hF6.n
      have gl6 := hF6.le
      have hW6 := hW5.trans hF6
      have hb6 : T6.h.get T.n = some (.cells 24 c.cells false) := by rw [hF6.same T.n (by omega) (fun g => by rcases hF5.bk _ g with g | g; have := h2.wr.ow.lt h2.ok g; omega; omega) (by omega)]; exact hb5
      repeat (
        first
          | refine W_seq ?_
          | refine WO_nil ?_
          | refine V_seq ?_
          | refine W_region ?_
          | refine WO_dst rfl rfl (by kernel_rfl) (by kernel_rfl) ?_
          | refine Ev_load rfl rfl rfl hb6 rfl (veq_str _) ?_
          | refine Ev_move rfl ?_
          | refine Ev_fieldAddr rfl rfl rfl rfl rfl rfl ?_)
      refine Ev_call rfl rfl ((wtext_runs h6.ok h6.wr (by omega) (by simp only [List.length_append, numL_len]; omega) (by omega)).mono ?_)
      rintro _ T7 - ⟨vb7, hw7, hF7⟩
      have h7 := h6.wf hF7 hw7
      have gn7 := hF7.n
      have gl7 := hF7.le
      have hW7 := hW6.trans hF7
      have hb7 : T7.h.get T.n = some (.cells 24 c.cells false) := by rw [hF7.same T.n (by omega) (fun g => by rcases hF6.bk _ g with g | g; (rcases hF5.bk _ g with g | g; have := h2.wr.ow.lt h2.ok g; omega; omega); omega) (by omega)]; exact hb6
      repeat (
        first
          | refine WO_nil ?_
          | refine V_seq ?_
          | refine W_region ?_
          | refine WO_dst rfl rfl (by kernel_rfl) (by kernel_rfl) ?_
          | refine Ev_load rfl rfl rfl hb7 rfl (veq_str _) ?_
          | refine Ev_move rfl ?_
          | refine Ev_fieldAddr rfl rfl rfl rfl rfl rfl ?_)
      refine Ev_call rfl rfl ((wtext_runs h7.ok h7.wr (by omega) (by simp only [List.length_append, numL_len]; omega) (by omega)).mono ?_)
      rintro _ T8 - ⟨vb8, hw8, hF8⟩
      have h8 := h7.wf hF8 hw8
      have hW8 := hW7.trans hF8
      repeat' (
        first
          | refine WO_nil ?_
          | refine V_seq ?_
          | refine W_region ?_
          | refine V_block ?_
          | refine WO_dst rfl rfl (by kernel_rfl) (by kernel_rfl) ?_
          | refine Ev_move rfl ?_
          | refine Ev_addN rfl rfl (by simp only [lim]; omega) ?_)
      refine back (i + 1, vb8) T8 _ (by dsimp only; omega) ⟨?_, ⟨hW8.le, by have := hW8.n; dsimp only; omega, hW8.ok, hW8.same, hW8.bk⟩, by dsimp only; omega⟩ ⟨rfl, rfl, rfl, rfl, trivial⟩
      dsimp only
      rw [hnext, e, ← List.append_assoc, ← hL, ← List.append_assoc, ← List.append_assoc, ← List.append_assoc]
      exact h8
    · have e : constL c = numL c.kind 1 ++ (textL c.cl ++ (textL c.nm ++ textL c.ds)) := by unfold constL; rw [if_neg (by assumption), if_pos (by omega)]
      refine Ev_load rfl rfl rfl hb5 rfl (veq_str _) ?_
      repeat (
        refine WO_dst rfl rfl (by kernel_rfl) (by kernel_rfl) ?_)
      refine Ev_call rfl rfl ((wtext_runs h5.ok h5.wr (by omega) (by simp only [List.length_append, numL_len]; omega) (by omega)).mono ?_)
      rintro _ T6 - ⟨vb6, hw6, hF6⟩
      have h6 := h5.wf hF6 hw6
      have gn6 := hF6.n
      have gl6 := hF6.le
      have hW6 := hW5.trans hF6
      have hb6 : T6.h.get T.n = some (.cells 24 c.cells false) := by rw [hF6.same T.n (by omega) (fun g => by rcases hF5.bk _ g with g | g; have := h2.wr.ow.lt h2.ok g; omega; omega) (by omega)]; exact hb5
      repeat (
        first
          | refine W_seq ?_
          | refine WO_nil ?_
          | refine V_seq ?_
          | refine W_region ?_
          | refine WO_dst rfl rfl (by kernel_rfl) (by kernel_rfl) ?_
          | refine Ev_load rfl rfl rfl hb6 rfl (veq_str _) ?_
          | refine Ev_move rfl ?_
          | refine Ev_fieldAddr rfl rfl rfl rfl rfl rfl ?_)
      refine Ev_call rfl rfl ((wtext_runs h6.ok h6.wr (by omega) (by simp only [List.length_append, numL_len]; omega) (by omega)).mono ?_)
      rintro _ T7 - ⟨vb7, hw7, hF7⟩
      have h7 := h6.wf hF7 hw7
      have gn7 := hF7.n
      have gl7 := hF7.le
      have hW7 := hW6.trans hF7
      have hb7 : T7.h.get T.n = some (.cells 24 c.cells false) := by rw [hF7.same T.n (by omega) (fun g => by rcases hF6.bk _ g with g | g; (rcases hF5.bk _ g with g | g; have := h2.wr.ow.lt h2.ok g; omega; omega); omega) (by omega)]; exact hb6
      repeat (
        first
          | refine WO_nil ?_
          | refine V_seq ?_
          | refine W_region ?_
          | refine WO_dst rfl rfl (by kernel_rfl) (by kernel_rfl) ?_
          | refine Ev_load rfl rfl rfl hb7 rfl (veq_str _) ?_
          | refine Ev_move rfl ?_
          | refine Ev_fieldAddr rfl rfl rfl rfl rfl rfl ?_)
      refine Ev_call rfl rfl ((wtext_runs h7.ok h7.wr (by omega) (by simp only [List.length_append, numL_len]; omega) (by omega)).mono ?_)
      rintro _ T8 - ⟨vb8, hw8, hF8⟩
      have h8 := h7.wf hF8 hw8
      have hW8 := hW7.trans hF8
      repeat' (
        first
          | refine WO_nil ?_
          | refine V_seq ?_
          | refine W_region ?_
          | refine V_block ?_
          | refine WO_dst rfl rfl (by kernel_rfl) (by kernel_rfl) ?_
          | refine Ev_move rfl ?_
          | refine Ev_addN rfl rfl (by simp only [lim]; omega) ?_)
      refine back (i + 1, vb8) T8 _ (by dsimp only; omega) ⟨?_, ⟨hW8.le, by have := hW8.n; dsimp only; omega, hW8.ok, hW8.same, hW8.bk⟩, by dsimp only; omega⟩ ⟨rfl, rfl, rfl, rfl, trivial⟩
      dsimp only
      rw [hnext, e, ← List.append_assoc, ← hL, ← List.append_assoc, ← List.append_assoc, ← List.append_assoc]
      exact h8
    · have e : constL c = numL c.kind 1 ++ textL c.cl := by unfold constL; rw [if_neg (by assumption), if_neg (by omega)]
      refine Ev_load rfl rfl rfl hb5 rfl (veq_str _) ?_
      repeat (
        refine WO_dst rfl rfl (by kernel_rfl) (by kernel_rfl) ?_)
      refine Ev_call rfl rfl ((wtext_runs h5.ok h5.wr (by omega) (by simp only [List.length_append, numL_len]; omega) (by omega)).mono ?_)
      rintro _ T6 - ⟨vb6, hw6, hF6⟩
      have h6 := h5.wf hF6 hw6
      have hW6 := hW5.trans hF6
      repeat' (
        first
          | refine WO_nil ?_
          | refine V_seq ?_
          | refine W_region ?_
          | refine V_block ?_
          | refine WO_dst rfl rfl (by kernel_rfl) (by kernel_rfl) ?_
          | refine Ev_move rfl ?_
          | refine Ev_addN rfl rfl (by simp only [lim]; omega) ?_)
      refine back (i + 1, vb6) T6 _ (by dsimp only; omega) ⟨?_, ⟨hW6.le, by have := hW6.n; dsimp only; omega, hW6.ok, hW6.same, hW6.bk⟩, by dsimp only; omega⟩ ⟨rfl, rfl, rfl, rfl, trivial⟩
      dsimp only
      rw [hnext, e, ← List.append_assoc, ← hL, ← List.append_assoc]
      exact h6
  · have hi2 : i = cs.length := by omega
    have htk : cs.take i = cs := List.take_of_length_le (by omega)
    rw [htk] at h2
    refine V_done rfl rfl ⟨rfl, vb2, ?_, ⟨hW2.le, by omega, hW2.ok, hW2.same, hW2.bk⟩⟩
    unfold poolL
    rw [← List.append_assoc]; exact h2
end Go.Proofs.YthhbnnnokmefoaaDoor
/- caraferef1.Number and Text: what is written. -/

namespace Go.Proofs.YthhbnnnokmefoaaDoor
open GX
set_option maxHeartbeats 8000000
theorem byte64 (n : Int) {j : Nat} (h : j < 8) : n % 18446744073709551616 / ((2 ^ (8 * j) : Nat) : Int) % 256 = n / ((2 ^ (8 * j) : Nat) : Int) % 256 := by
  rcases (show j = 0 ∨ j = 1 ∨ j = 2 ∨ j = 3 ∨ j = 4 ∨ j = 5 ∨ j = 6 ∨ j = 7 by omega) with rfl | rfl | rfl | rfl | rfl | rfl | rfl | rfl <;> simp <;> omega
theorem rnumber_runs {S : St} {v : AV} {l : List Nat} {n b : Int} (hok : Sok S) (hv : Rd S v 1 (sbytes l) l.length) (hl : l.length ≤ 900000000) (hn : S.n + 18 ≤ 1000000000) :
    Runs X1 39 [v, .int .i64 n, .int .i64 b] S fun r S' => Fr S S' .nils 18 ∧ Ow S' r (l ++ numL n (sizeN b)) ∧ ∀ c, blkOf r = some c → S.n ≤ c := by
  have hsz := sizeN_le b
  refine Runs_fn (m := 30) (by kernel_rfl) Tryd.func39 rfl (by kernel_rfl) (by kernel_rfl) ?_
  repeat (
    first
      | refine W_seq ?_
      | refine WO_nil ?_
      | refine V_seq ?_
      | refine W_region ?_
      | refine WO_dst rfl rfl (by kernel_rfl) (by kernel_rfl) ?_
      | refine Ev_assign rfl ?_)
  refine Ev_buildSlice rfl rfl rfl rfl rfl rfl hok (by omega) ?_
  intro S1 hn1 hok1 hq1 hf1
  have hv1 := hv.keep (fun c h => hf1 c (hv.lt hok h))
  repeat (
    first
      | refine WO_dst rfl rfl (by kernel_rfl) (by kernel_rfl) ?_
      | refine Ev_move rfl ?_)
  refine Ev_append_gz (cs := []) (m := 0) rfl rfl rfl rfl rfl rfl rfl rfl rfl rfl (.inr ⟨rfl, rfl, S.n, 0, rfl, Rd_lit hq1 rfl (by kernel_rfl)⟩) hv1 (by first | exact sbytes_one l | (unfold sbytes; simp [AV.one])) hok1 (by omega) (by dsimp only; omega) (by omega) ?_
  intro v2 S2 hle2 hn2 hok2 hown2 hf2 hb2
  have hb2' : ∀ c, blkOf v2 = some c → S.n ≤ c := fun c hc => by
    rcases hb2 c hc with h | h
    · cases h; exact Nat.le_refl _
    · omega
  repeat (
    first
      | refine W_seq ?_
      | refine WO_nil ?_
      | refine V_seq ?_
      | refine W_region ?_
      | refine WO_dst rfl rfl (by kernel_rfl) (by kernel_rfl) ?_
      | refine Ev_move rfl ?_
      | refine Ev_assign rfl ?_)
  refine Ev_call rfl rfl ((width_runs b S2).mono ?_)
  rintro _ _ - ⟨rfl, rfl⟩
  repeat (
    first
      | refine WO_nil ?_
      | refine V_seq ?_
      | refine W_block ?_
      | refine WO_dst rfl rfl (by kernel_rfl) (by kernel_rfl) ?_
      | refine Ev_assign rfl ?_
      | refine Ev_subN rfl rfl (by simp only [lim]; omega) (by first | omega | (dsimp only; done) | (dsimp only; omega)) ?_)
  rename_i S2
  have hs6 : some (AV.int .i64 ((sizeN b - 1 : Nat) : Int)) = some (AV.int .i64 (((sizeN b : Nat) : Int) - 1)) := by congr 2; omega
  refine W_inv (fun a : Nat × AV × List Nat => [(8, .int .i64 (((a.1 : Nat) : Int) - 1)), (7, a.2.1), (1, .int .i64 n)]) (fun a T => Gz T a.2.1 5 1 (sbytes a.2.2) a.2.2.length ∧ a.2.2 ++ numL n a.1 = l ++ numL n (sizeN b) ∧ a.1 ≤ sizeN b ∧ Fr S T .nils (2 + 2 * (sizeN b - a.1)) ∧ ∀ c, blkOf a.2.1 = some c → S.n ≤ c) (fun a => a.1) ?_ (sizeN b, v2, l) ⟨hown2.eq rfl (by dsimp only; omega), rfl, Nat.le_refl _, ⟨by omega, by omega, hok2, fun c _ h => by rw [hf2 c (fun h => by cases h; omega) (by omega), hf1 c h]⟩, hb2'⟩ ⟨hs6, rfl, rfl, trivial⟩
  rintro ⟨j, v, l'⟩ T ⟨hwT, heq, hj, hF, hbT⟩ back
  dsimp only at hwT heq hj hF hbT back
  have hFn := hF.n; have hFl := hF.le
  have hll : l'.length + j = l.length + sizeN b := by have h := congrArg List.length heq; simpa only [List.length_append, numL_len] using h
  cases j with
  | zero =>
    show W X1 30 _ _ _ [(8, .int .i64 (-1)), (7, v), (1, .int .i64 n)] T
    repeat' (
      first
        | refine W_seq ?_
        | refine WO_nil ?_
        | refine V_seq ?_
        | refine W_region ?_
        | refine W_ret ?_
        | refine W_exit ?_
        | refine V_block_x rfl ?_
        | refine V_seq_x ?_
        | refine V_loop_x ?_
        | refine W_cond_f rfl ?_
        | refine WO_dst rfl rfl (by kernel_rfl) (by kernel_rfl) ?_
        | refine Ev_move rfl ?_
        | refine Ev_assign rfl ?_
        | refine Ev_geq rfl rfl ?_)
    refine V_done rfl rfl ?_
    refine ⟨⟨hF.le, by omega, hF.ok, hF.same⟩, ?_, hbT⟩
    have h9 := hwT.own (by omega)
    rw [← heq]; simp only [numL, List.append_nil]; exact h9
  | succ j =>
    have hjj : (((j + 1 : Nat) : Int) - 1) = ((j : Nat) : Int) := by omega
    show W X1 30 _ _ _ [(8, .int .i64 (((j + 1 : Nat) : Int) - 1)), (7, v), (1, .int .i64 n)] T
    rw [hjj]
    repeat' (
      first
        | refine W_seq ?_
        | refine WO_nil ?_
        | refine V_seq ?_
        | refine W_region ?_
        | refine W_block ?_
        | refine W_skip ?_
        | refine W_cond_t rfl ?_
        | refine WO_dst rfl rfl (by kernel_rfl) (by kernel_rfl) ?_
        | refine Ev_conv64 (a := n) rfl rfl rfl rfl rfl ?_
        | refine Ev_shrV rfl rfl (by simp only [Go.IntKind.bits]; omega) ?_
        | refine Ev_conv8i rfl rfl rfl rfl rfl ?_
        | refine Ev_move rfl ?_
        | refine Ev_geqN rfl rfl ?_
        | refine Ev_mulN rfl rfl (by simp only [lim]; omega) ?_
        | refine Ev_convN rfl rfl rfl rfl rfl (by simp only [lim]; omega) ?_)
    refine Ev_buildSlice rfl rfl rfl rfl rfl rfl hF.ok (by omega) ?_
    intro T1 gn1 gok1 gq1 gf1
    have ho1 := hwT.keep (fun b hb => gf1 b (hwT.lt hF.ok hb))
    repeat (
      refine WO_dst rfl rfl (by kernel_rfl) (by kernel_rfl) ?_)
    refine Ev_append_gz rfl rfl rfl rfl rfl rfl rfl rfl rfl rfl ho1 (Rd_lit gq1 rfl (by kernel_rfl)) rfl gok1 (by omega) (by dsimp only; omega) (by omega) ?_
    intro v3 T2 gle2 gn2 gok2 gown2 gf2 gb2
    repeat (
      first
        | refine WO_nil ?_
        | refine V_seq ?_
        | refine W_region ?_
        | refine V_block ?_
        | refine WO_dst rfl rfl (by kernel_rfl) (by kernel_rfl) ?_
        | refine Ev_move rfl ?_
        | refine Ev_assign rfl ?_
        | refine Ev_sub rfl rfl (by simp only [inR]; omega) ?_)
    refine back (j, v3, l' ++ [byteAt n j]) T2 _ (Nat.lt_succ_self j) ⟨?_, ?_, by omega, ⟨?_, ?_, gok2, fun c _ h => ?_⟩, fun c hc => ?_⟩ ⟨rfl, rfl, rfl, trivial⟩
    · refine gown2.eq ?_ (by simp)
      rw [sbytes_app]
      congr 1
      show [AV.int .u8 _] = [AV.int .u8 _]
      unfold byteAt
      rw [← byte64 n (by omega)]
      rfl
    · rw [← heq]; simp [numL]
    · first | omega | (dsimp only; omega)
    · first | omega | (dsimp only; omega)
    · rw [gf2 c (fun h2 => by have := hbT c h2; omega) (by omega), gf1 c (by omega), hF.same c (by simp [blkOf]) h]
    · rcases gb2 c hc with g | g
      · exact hbT c g
      · omega
theorem rtext_runs {S : St} {v : AV} {l s : List Nat} (hok : Sok S) (hv : Rd S v 1 (sbytes l) l.length) (hb : ∀ b ∈ s, b < 256) (hs : s.length ≤ 100000000) (hl : l.length ≤ 800000000) (hn : S.n + (4 * s.length + 22) ≤ 1000000000) :
    Runs X1 40 [v, .str s] S fun r S' => Fr S S' .nils (4 * s.length + 22) ∧ Ow S' r (l ++ textL s) ∧ ∀ c, blkOf r = some c → S.n ≤ c := by
  refine Runs_fn (m := 27) (by kernel_rfl) Tryd.func40 rfl (by kernel_rfl) (by kernel_rfl) ?_
  repeat (
    first
      | refine W_seq ?_
      | refine WO_nil ?_
      | refine V_seq ?_
      | refine W_region ?_
      | refine WO_dst rfl rfl (by kernel_rfl) (by kernel_rfl) ?_
      | refine Ev_move rfl ?_
      | refine Ev_assign rfl ?_)
  refine Ev_call rfl rfl ((renc_runs hok hb hs (by omega)).mono ?_)
  rintro _ S1 - ⟨hfr, vx, rfl, hx, hbx⟩
  have hn1 := hfr.n
  have hl1 := hfr.le
  have hv1 := hv.keep (fun c h => hfr.same c (by simp [blkOf]) (hv.lt hok h))
  by_cases hv' : vS s = true
  · rw [if_pos hv'] at hx ⊢
    repeat' (
      first
        | refine W_seq ?_
        | refine WO_nil ?_
        | refine V_seq ?_
        | refine W_region ?_
        | refine W_skip ?_
        | refine WO_dst rfl rfl (by kernel_rfl) (by kernel_rfl) ?_
        | refine WO_guard_t rfl rfl rfl rfl rfl (by kernel_rfl) (by kernel_rfl) ?_
        | refine Ev_len rfl rfl rfl rfl rfl hx.rd.len ?_
        | refine Ev_move rfl ?_
        | refine Ev_assign rfl ?_
        | refine Ev_extract rfl rfl ?_
        | refine Ev_pick_f rfl rfl rfl ?_
        | refine Ev_gtrN rfl rfl ?_
        | refine Ev_neqN rfl rfl ?_
        | (refine W_cond rfl (fun hc => ?_) (fun hc => ?_) <;> (try dsimp only at hc) <;> try (exfalso; first | omega | exact hc rfl)))
    · skip
      have htb : textB s = [] := by unfold textB; rw [if_neg (fun h => by have := h.2; omega)]
      refine Ev_call rfl rfl ((rnumber_runs hfr.ok hv1 (by omega) (by omega)).mono ?_)
      rintro r S2 - ⟨hF2, ho2, hb2⟩
      have hn2 := hF2.n
      have hl2 := hF2.le
      repeat (
        first
          | refine WO_nil ?_
          | refine V_seq ?_
          | refine W_ret ?_
          | refine V_ret ?_
          | refine WO_dst rfl rfl (by kernel_rfl) (by kernel_rfl) ?_
          | refine Ev_assign rfl ?_)
      refine V_done rfl rfl ?_
      refine ⟨⟨by omega, by omega, hF2.ok, fun c _ h => by rw [hF2.same c (by simp [blkOf]) (by omega), hfr.same c (by simp [blkOf]) h]⟩, ?_, fun c hc => by have := hb2 c hc; omega⟩
      unfold textL; rw [htb, List.append_nil]; rw [size2] at ho2; exact ho2
    · have htb : textB s = encS s := by unfold textB; rw [if_pos ⟨hv', by omega⟩]
      refine Ev_call rfl rfl ((rnumber_runs hfr.ok hv1 (by omega) (by omega)).mono ?_)
      rintro r S2 - ⟨hF2, ho2, hb2⟩
      have hn2 := hF2.n
      have hl2 := hF2.le
      have hx2 := hx.keep (fun c h => hF2.same c (by simp [blkOf]) (hx.lt hfr.ok h))
      have ho3 : Ow S2 r (l ++ numL ((encS s).length : Int) 2) := by rw [size2] at ho2; exact ho2
      repeat (
        first
          | refine WO_dst rfl rfl (by kernel_rfl) (by kernel_rfl) ?_
          | refine Ev_move rfl ?_)
      refine Ev_append rfl rfl rfl rfl rfl rfl rfl rfl rfl rfl ho3 hx2.rd (by first | exact sbytes_one _ | (unfold sbytes; simp [AV.one])) hF2.ok (by omega) (by simp only [List.length_append, numL_len]; omega) (by simp only [List.length_append, numL_len]; omega) ?_
      intro v3 S3 hle3 hn3 hok3 hown3 hf3 hb3
      repeat (
        first
          | refine WO_nil ?_
          | refine V_seq ?_
          | refine W_ret ?_
          | refine WO_dst rfl rfl (by kernel_rfl) (by kernel_rfl) ?_
          | refine Ev_assign rfl ?_)
      refine V_done rfl rfl ?_
      refine ⟨⟨by omega, by omega, hok3, fun c _ h => by rw [hf3 c (fun g => by have := hb2 c g; omega) (by omega), hF2.same c (by simp [blkOf]) (by omega), hfr.same c (by simp [blkOf]) h]⟩, ?_, fun c hc => ?_⟩
      · refine hown3.eq ?_ ?_
        · unfold textL; rw [htb, ← List.append_assoc, sbytes_app (l ++ _)]
        · unfold textL; rw [htb]; simp only [List.length_append]; omega
      · rcases hb3 c hc with h | h
        · have := hb2 c h; omega
        · omega
  · rw [if_neg hv'] at hx ⊢
    repeat' (
      first
        | refine W_seq ?_
        | refine WO_nil ?_
        | refine V_seq ?_
        | refine W_region ?_
        | refine W_cond_t rfl ?_
        | refine WO_dst rfl rfl (by kernel_rfl) (by kernel_rfl) ?_
        | refine WO_guard_f rfl rfl rfl rfl rfl rfl (by kernel_rfl) (by kernel_rfl) ?_
        | refine Ev_move rfl ?_
        | refine Ev_assign rfl ?_
        | refine Ev_extract rfl rfl ?_
        | refine Ev_pick_t rfl rfl rfl ?_
        | refine Ev_neqN rfl rfl ?_)
    have htb : textB s = [] := by unfold textB; rw [if_neg (fun h => hv' h.1)]
    refine Ev_call rfl rfl ((rnumber_runs hfr.ok hv1 (by omega) (by omega)).mono ?_)
    rintro r S2 - ⟨hF2, ho2, hb2⟩
    have hn2 := hF2.n
    have hl2 := hF2.le
    repeat (
      first
        | refine WO_nil ?_
        | refine V_seq ?_
        | refine W_ret ?_
        | refine V_ret ?_
        | refine WO_dst rfl rfl (by kernel_rfl) (by kernel_rfl) ?_
        | refine Ev_assign rfl ?_)
    refine V_done rfl rfl ?_
    refine ⟨⟨by omega, by omega, hF2.ok, fun c _ h => by rw [hF2.same c (by simp [blkOf]) (by omega), hfr.same c (by simp [blkOf]) h]⟩, ?_, fun c hc => by have := hb2 c hc; omega⟩
    unfold textL; rw [htb, List.append_nil]; rw [size2] at ho2; exact ho2
end Go.Proofs.YthhbnnnokmefoaaDoor
/- caraferef3.Write. (NODRAWN) -/




namespace Go.Proofs.YthhbnnnokmefoaaDoor
open GX
set_option maxHeartbeats 16000000
/-- why constants are not written; 0: they are -/
def writeE (cs : List CnA) : Int := if 256 < cs.length then 4 else if ∀ c ∈ cs, rightP c then 0 else 14
theorem kind_byte {k : Int} : sbytes (numL k 1) = [.int .u8 (((k % 256).toNat : Nat) : Int)] := by
  show [AV.int .u8 ((byteAt k 0 : Nat) : Int)] = _
  unfold byteAt
  rw [show ((2 ^ (8 * 0) : Nat) : Int) = 1 from rfl, Int.ediv_one]
theorem pt_of {S : St} {b o ty : Nat} {cs : List AV} {sp : Bool} (h : S.h.get b = some (.cells ty cs sp)) : Pt S (.ptr b o) cs o :=
  .inl ⟨b, 0, ty, cs, sp, by rw [Nat.zero_add], h, by omega, fun i _ => by rw [Nat.zero_add]⟩
theorem constL_3' {c : CnA} (h : c.kind = 3) : constL c = numL c.kind 1 ++ numL c.n 4 := by unfold constL; rw [if_pos h]
theorem constL_9' {c : CnA} (h : c.kind = 9 ∨ c.kind = 10) : constL c = numL c.kind 1 ++ (textL c.cl ++ (textL c.nm ++ textL c.ds)) := by unfold constL; rw [if_neg (by omega), if_pos h]
theorem constL_7' {c : CnA} (h : c.kind = 7) : constL c = numL c.kind 1 ++ textL c.cl := by unfold constL; rw [if_neg (by omega), if_neg (by omega)]
theorem rpwrite_runs {S : St} {v : AV} {cs : List CnA} (hok : Sok S) (hv : Cs S v cs) (hgood : ∀ c ∈ cs, c.Good ∧ c.cl.length ≤ 1048576 ∧ c.nm.length ≤ 1048576 ∧ c.ds.length ≤ 1048576) (hl : cs.length ≤ 1000000) (hn : S.n ≤ 900000000) :
    Runs X1 13 [.nils, v] S fun r S' => ∃ w, r = .tup [w, .int .i64 (writeE cs)] ∧ Fr S S' .nils 5000000 ∧ Ow S' w (if writeE cs = 0 then poolL cs else []) ∧ ∀ c, blkOf w = some c → S.n ≤ c := by
  refine Runs_fn (m := 61) (by kernel_rfl) Tryd.func13 rfl (by kernel_rfl) (by kernel_rfl) ?_
  repeat' (
    first
      | refine W_seq ?_
      | refine WO_nil ?_
      | refine V_seq ?_
      | refine W_region ?_
      | refine W_skip ?_
      | refine W_ret ?_
      | refine V_ret ?_
      | refine WO_dst rfl rfl (by kernel_rfl) (by kernel_rfl) ?_
      | refine Ev_len rfl rfl rfl rfl rfl hv.len ?_
      | refine Ev_move rfl ?_
      | refine Ev_assign rfl ?_
      | refine Ev_gtrN rfl rfl ?_
      | (refine W_cond rfl (fun hc => ?_) (fun hc => ?_) <;> (try dsimp only at hc) <;> try (exfalso; first | omega | exact hc rfl)))
  · have e : writeE cs = 4 := by unfold writeE; rw [if_pos (by assumption)]
    refine V_done rfl rfl ⟨.nils, by rw [e]; rfl, ⟨by omega, by omega, hok, fun _ _ _ => rfl⟩, ?_, fun c hc => by cases hc⟩
    rw [e]; exact .inl ⟨rfl, rfl, rfl⟩
  have h256 : cs.length ≤ 256 := by omega
  refine Ev_call rfl rfl ((rnumber_runs (l := []) hok ⟨rfl, rfl, rfl, rfl, rfl, rfl⟩ (by simp) (by omega)).mono ?_)
  rintro w0 T0 - ⟨hF0, how0, hbk0⟩
  rw [size2, List.nil_append] at how0
  have gn0 := hF0.n
  have gl0 := hF0.le
  repeat' (
    first
      | refine W_seq ?_
      | refine WO_nil ?_
      | refine V_seq ?_
      | refine W_region ?_
      | refine W_block ?_
      | refine WO_dst rfl rfl (by kernel_rfl) (by kernel_rfl) ?_
      | refine Ev_assign rfl ?_)
  refine W_inv (fun a : Nat × AV => [(7, .int .i64 ((a.1 : Nat) : Int)), (6, a.2), (1, v)]) (fun a T => Fr S T .nils (5000 * a.1 + 20) ∧ Ow T a.2 (numL (cs.length : Int) 2 ++ (cs.take a.1).flatMap constL) ∧ (∀ c, blkOf a.2 = some c → S.n ≤ c) ∧ a.1 ≤ cs.length ∧ ∀ c ∈ cs.take a.1, rightP c) (fun a => cs.length - a.1) ?_ (0, w0) ⟨⟨by omega, by dsimp only; omega, hF0.ok, hF0.same⟩, by simpa using how0, hbk0, Nat.zero_le _, by simp⟩ ⟨rfl, rfl, rfl, trivial⟩
  rintro ⟨i, w⟩ T ⟨hF, how, hbk, hi, hall⟩ back
  dsimp only at hF how hbk hi hall back
  have gn := hF.n
  have gl := hF.le
  have hv1 := hv.keep (fun c h => hF.same c (by simp [blkOf]) (hv.lt hok h))
  have hL : (numL (cs.length : Int) 2 ++ (cs.take i).flatMap constL).length ≤ 300000 := by
    have := consts_len (cs.take i)
    have h3 : (cs.take i).length ≤ 256 := by rw [List.length_take]; omega
    simp only [List.length_append, numL_len]; omega
  repeat' (
    first
      | refine W_seq ?_
      | refine WO_nil ?_
      | refine V_seq ?_
      | refine W_region ?_
      | refine W_skip ?_
      | refine W_block ?_
      | refine W_ret ?_
      | refine W_exit ?_
      | refine V_block_x rfl ?_
      | refine V_seq_x ?_
      | refine V_loop_x ?_
      | refine WO_dst rfl rfl (by kernel_rfl) (by kernel_rfl) ?_
      | refine Ev_len rfl rfl rfl rfl rfl hv1.len ?_
      | refine Ev_move rfl ?_
      | refine Ev_assign rfl ?_
      | refine Ev_lssN rfl rfl ?_
      | (refine W_cond rfl (fun hc => ?_) (fun hc => ?_) <;> (try dsimp only at hc) <;> try (exfalso; first | omega | exact hc rfl)))
  · have hlt : i < cs.length := by assumption
    obtain ⟨c, hc⟩ : ∃ c, c = cs[i] := ⟨_, rfl⟩
    have hcm : c ∈ cs := by rw [hc]; exact List.getElem_mem _
    obtain ⟨hcg, hb1, hb2, hb3⟩ := hgood c hcm
    have hcell := cellsC_get cs i hlt
    rw [← hc] at hcell
    have hnext : (cs.take (i + 1)).flatMap constL = (cs.take i).flatMap constL ++ constL c := by
      rw [List.take_succ_eq_append_getElem hlt, List.flatMap_append, ← hc]; simp
    have hallc : rightP c → ∀ d ∈ cs.take (i + 1), rightP d := fun hr d hd => by
      rw [List.take_succ_eq_append_getElem hlt] at hd
      rcases List.mem_append.1 hd with h | h
      · exact hall d h
      · rw [List.mem_singleton] at h; rw [h, ← hc]; exact hr
    obtain ⟨L, hLe⟩ : ∃ L, L = numL (cs.length : Int) 2 ++ (cs.take i).flatMap constL := ⟨_, rfl⟩
    have hLn : numL (cs.length : Int) 2 ++ (cs.take (i + 1)).flatMap constL = L ++ constL c := by rw [hnext, ← List.append_assoc, ← hLe]
    rw [← hLe] at how hL
    refine Ev_indexAddr_rd rfl rfl rfl rfl rfl hv1 hlt ?_
    intro q hq
    repeat (
      refine WO_dst rfl rfl (by kernel_rfl) (by kernel_rfl) ?_)
    refine Ev_load_pt_agg rfl rfl rfl hq (by rw [cellsC_len]; dsimp only; omega) hcell (CnA.veqs c) ?_
    repeat (
      refine WO_dst rfl rfl (by kernel_rfl) (by kernel_rfl) ?_)
    refine Ev_alloc_ rfl hF.ok (by omega) ?_
    intro T3 gn3 gok3 gq3 gf3
    repeat (
      refine WO_no rfl rfl ?_)
    refine Ev_store rfl rfl rfl rfl (CnA.ones c) gq3 (by simp [CnA.cells, AV.cells]) (by omega) ?_
    intro T4 gn4 gq4 gf4
    have hF4 : Fr T T4 .nils 1 := ⟨by omega, by omega, sok_upd gok3 (by omega) gn4 gq4 gf4, fun c _ h => by rw [gf4 c (by omega), gf3 c h]⟩
    have hb4 : T4.h.get T.n = some (.cells 24 c.cells false) := gq4
    have how4 := how.keep (fun d hd => hF4.same d (by simp [blkOf]) (how.lt hF.ok hd))
    repeat (
      first
        | refine W_seq ?_
        | refine WO_nil ?_
        | refine V_seq ?_
        | refine W_region ?_
        | refine WO_dst rfl rfl (by kernel_rfl) (by kernel_rfl) ?_)
    refine Ev_load_agg rfl rfl rfl hb4 (by simp [CnA.cells]) (show (c.cells.drop 0).take 5 = c.cells from rfl) (CnA.veqs c) ?_
    repeat (
      refine WO_dst rfl rfl (by kernel_rfl) (by kernel_rfl) ?_)
    refine Ev_call rfl rfl ((rright_runs hF4.ok ⟨hb1, hb2, hb3⟩ (by omega)).mono ?_)
    rintro _ T5 - ⟨rfl, hF5⟩
    have gn5 := hF5.n
    have gl5 := hF5.le
    have hb5 : T5.h.get T.n = some (.cells 24 c.cells false) := by rw [hF5.same T.n (by simp [blkOf]) (by omega)]; exact hb4
    have how5 := how4.keep (fun d hd => hF5.same d (by simp [blkOf]) (how4.lt hF4.ok hd))
    have hS5 : ∀ d, d < S.n → T5.h.get d = S.h.get d := fun d h => by rw [hF5.same d (by simp [blkOf]) (by omega), hF4.same d (by simp [blkOf]) (by omega), hF.same d (by simp [blkOf]) h]
    repeat' (
      first
        | refine W_seq ?_
        | refine WO_nil ?_
        | refine V_seq ?_
        | refine W_region ?_
        | refine W_skip ?_
        | refine W_ret ?_
        | refine V_ret ?_
        | refine WO_dst rfl rfl (by kernel_rfl) (by kernel_rfl) ?_
        | refine Ev_move rfl ?_
        | refine Ev_assign rfl ?_
        | refine Ev_not rfl ?_
        | refine Ev_fieldAddr rfl rfl rfl rfl rfl rfl ?_
        | (refine W_cond rfl (fun hc => ?_) (fun hc => ?_) <;> (try dsimp only at hc) <;> try (exfalso; first | omega | exact hc rfl)))
    · have hr : ¬ rightP c := by assumption
      have e : writeE cs = 14 := by unfold writeE; rw [if_neg (by omega), if_neg (fun h => hr (h c hcm))]
      refine V_done rfl rfl ⟨.nils, by rw [e]; rfl, ⟨by omega, by omega, hF5.ok, fun d _ h => hS5 d h⟩, ?_, fun c hc => by cases hc⟩
      rw [e]; exact .inl ⟨rfl, rfl, rfl⟩
    have hr : rightP c := by first | assumption | exact Classical.not_not.1 (by assumption)
    have hcl := right_len hr
    refine Ev_load rfl rfl rfl hb5 rfl (veq_int _ _) ?_
    repeat (
      refine WO_dst rfl rfl (by kernel_rfl) (by kernel_rfl) ?_)
    refine Ev_conv8i rfl rfl rfl rfl rfl ?_
    repeat (
      refine WO_dst rfl rfl (by kernel_rfl) (by kernel_rfl) ?_)
    refine Ev_buildSlice rfl rfl rfl rfl rfl rfl hF5.ok (by omega) ?_
    intro T6 gn6 gok6 gq6 gf6
    have how6 := how5.keep (fun d hd => gf6 d (how5.lt hF5.ok hd))
    have hrd6 : Rd T6 (.slice T5.n 0 1 (.ex 1)) 1 (sbytes (numL c.kind 1)) 1 := by rw [kind_byte]; exact Rd_lit gq6 rfl rfl
    repeat (
      refine WO_dst rfl rfl (by kernel_rfl) (by kernel_rfl) ?_)
    refine Ev_append rfl rfl rfl rfl rfl rfl rfl rfl rfl rfl how6 hrd6 (sbytes_one _) gok6 (by omega) (by dsimp only; omega) (by omega) ?_
    intro w7 T7 g1 g2 g3 g4 g5 g6
    have how7 : Ow T7 w7 (L ++ numL c.kind 1) := g4.eq (by unfold sbytes; rw [List.map_append]) (by rw [List.length_append, numL_len])
    have hbk7 : ∀ d, blkOf w7 = some d → S.n ≤ d := fun d hd => by
      rcases g6 d hd with g | g
      · exact hbk d g
      · omega
    have hwT : ∀ d, blkOf w = some d → d < T.n := fun d hd => how.lt hF.ok hd
    have hb7 : T7.h.get T.n = some (.cells 24 c.cells false) := by rw [g5 T.n (fun e => by have := hwT _ e; omega) (by omega), gf6 _ (by omega)]; exact hb5
    have hS7 : ∀ d, d < S.n → T7.h.get d = S.h.get d := fun d h => by rw [g5 d (fun e => by have := hbk d e; omega) (by omega), gf6 d (by omega)]; exact hS5 d h
    repeat' (
      first
        | refine W_seq ?_
        | refine WO_nil ?_
        | refine V_seq ?_
        | refine W_region ?_
        | refine W_block ?_
        | refine WO_dst rfl rfl (by kernel_rfl) (by kernel_rfl) ?_
        | refine Ev_load rfl rfl rfl hb7 rfl (veq_int _ _) ?_
        | refine Ev_move rfl ?_
        | refine Ev_assign rfl ?_
        | refine Ev_eql rfl rfl ?_
        | refine Ev_fieldAddr rfl rfl rfl rfl rfl rfl ?_
        | (refine W_cond rfl (fun hc => ?_) (fun hc => ?_) <;> (try dsimp only at hc) <;> try (exfalso; first | omega | exact hc rfl)))
    · have hn1 := hcg.n1
      have hn2 := hcg.n2
      have e : constL c = numL c.kind 1 ++ numL c.n 4 := constL_3' (by assumption)
      refine Ev_conv (k' := .i64) rfl rfl rfl rfl rfl (by simp only [inR]; omega) ?_
      repeat (
        refine WO_dst rfl rfl (by kernel_rfl) (by kernel_rfl) ?_)
      refine Ev_call rfl rfl ((rnumber_runs g3 how7.rd (by simp only [List.length_append, numL_len]; omega) (by omega)).mono ?_)
      rintro w8 T8 - ⟨hF8, how8, hbk8⟩
      rw [size4, List.append_assoc, ← e] at how8
      have gn8 := hF8.n
      have gl8 := hF8.le
      repeat' (
        first
          | refine WO_nil ?_
          | refine V_seq ?_
          | refine W_region ?_
          | refine V_block ?_
          | refine WO_dst rfl rfl (by kernel_rfl) (by kernel_rfl) ?_
          | refine Ev_move rfl ?_
          | refine Ev_assign rfl ?_
          | refine Ev_addN rfl rfl (by simp only [lim]; omega) ?_)
      refine back (i + 1, w8) T8 _ (by dsimp only; omega) ⟨⟨by omega, by dsimp only; omega, hF8.ok, fun d _ h => by rw [hF8.same d (by simp [blkOf]) (by omega), hS7 d h]⟩, ?_, fun d hd => by have := hbk8 d hd; omega, by dsimp only; omega, hallc hr⟩ ⟨rfl, rfl, rfl, trivial⟩
      dsimp only
      rw [hLn]; exact how8
    · have e : constL c = numL c.kind 1 ++ textL c.cl := constL_7' (by assumption)
      refine Ev_load rfl rfl rfl hb7 rfl (veq_str _) ?_
      repeat (
        refine WO_dst rfl rfl (by kernel_rfl) (by kernel_rfl) ?_)
      refine Ev_call rfl rfl ((rtext_runs g3 how7.rd hcg.cl.2 (by omega) (by simp only [List.length_append, numL_len]; omega) (by omega)).mono ?_)
      rintro w8 T8 - ⟨hF8, how8, hbk8⟩
      rw [List.append_assoc, ← e] at how8
      have gn8 := hF8.n
      have gl8 := hF8.le
      repeat' (
        first
          | refine WO_nil ?_
          | refine V_seq ?_
          | refine W_region ?_
          | refine V_block ?_
          | refine WO_dst rfl rfl (by kernel_rfl) (by kernel_rfl) ?_
          | refine Ev_move rfl ?_
          | refine Ev_assign rfl ?_
          | refine Ev_addN rfl rfl (by simp only [lim]; omega) ?_)
      refine back (i + 1, w8) T8 _ (by dsimp only; omega) ⟨⟨by omega, by dsimp only; omega, hF8.ok, fun d _ h => by rw [hF8.same d (by simp [blkOf]) (by omega), hS7 d h]⟩, ?_, fun d hd => by have := hbk8 d hd; omega, by dsimp only; omega, hallc hr⟩ ⟨rfl, rfl, rfl, trivial⟩
      dsimp only
      rw [hLn]; exact how8
    · have hk : c.kind = 9 ∨ c.kind = 10 := by
        rcases hr with h | h | h | h <;> omega
      have e : constL c = numL c.kind 1 ++ (textL c.cl ++ (textL c.nm ++ textL c.ds)) := constL_9' hk
      refine W_drawnF [⟨T.n, .cells 24 c.cells false, none⟩] ?_ (by kernel_rfl) ?_
      · intro f hf; rw [List.mem_singleton] at hf; subst hf; exact ⟨rfl, by show T.n < T7.n; omega, hb7⟩
      have hD7 : ∀ f ∈ [(⟨T.n, .cells 24 c.cells false, none⟩ : Fct)], T7.h.get f.id = some f.x := by
        intro f hf; rw [List.mem_singleton] at hf; subst hf; exact hb7
      have ht1 := textL_len c.cl
      have ht2 := textL_len c.nm
      repeat (
        first
          | refine WF_pa rfl rfl (by kernel_rfl) (by kernel_rfl) rfl ?_
          | refine Ev_move rfl ?_
          | refine Ev_fieldAddr rfl rfl rfl rfl rfl rfl ?_)
      refine WF_rf rfl rfl (by kernel_rfl) (by kernel_rfl) hD7 (FPD_load (o := 2) rfl rfl rfl (pt_of hb7) rfl (fun b hb => by cases hb; exact ⟨_, List.mem_cons_self .., rfl, hb7, fun j hj => by cases hj⟩)) (veq_str _) ?_
      repeat (
        refine W_seq ?_)
      refine WF_ld rfl rfl (by kernel_rfl) (by kernel_rfl) (fun _ _ => rfl) ?_
      refine Ev_call rfl rfl ((rtext_runs g3 how7.rd hcg.cl.2 (by omega) (by simp only [List.length_append, numL_len]; omega) (by omega)).mono ?_)
      rintro w8 T8 - ⟨hF8, how8, hbk8⟩
      have gn8 := hF8.n
      have gl8 := hF8.le
      have hb8 : T8.h.get T.n = some (.cells 24 c.cells false) := by rw [hF8.same T.n (by simp [blkOf]) (by omega)]; exact hb7
      have hD8 : ∀ f ∈ [(⟨T.n, .cells 24 c.cells false, none⟩ : Fct)], T8.h.get f.id = some f.x := by
        intro f hf; rw [List.mem_singleton] at hf; subst hf; exact hb8
      refine ⟨hD8, [], by simp, ?_⟩
      repeat (
        first
          | refine WF_pa rfl rfl (by kernel_rfl) (by kernel_rfl) rfl ?_
          | refine Ev_fieldAddr rfl rfl rfl rfl rfl rfl ?_)
      refine WF_rf rfl rfl (by kernel_rfl) (by kernel_rfl) (fun f hf => hD8 f (by simpa using hf)) (FPD_load (o := 3) rfl rfl rfl (pt_of hb8) rfl (fun b hb => by cases hb; exact ⟨_, List.mem_cons_self .., rfl, hb8, fun j hj => by cases hj⟩)) (veq_str _) ?_
      repeat (
        refine W_seq ?_)
      refine WF_ld rfl rfl (by kernel_rfl) (by kernel_rfl) (fun _ _ => rfl) ?_
      refine Ev_call rfl rfl ((rtext_runs hF8.ok how8.rd hcg.nm.2 (by omega) (by simp only [List.length_append, numL_len]; omega) (by omega)).mono ?_)
      rintro w9 T9 - ⟨hF9, how9, hbk9⟩
      have gn9 := hF9.n
      have gl9 := hF9.le
      have hb9 : T9.h.get T.n = some (.cells 24 c.cells false) := by rw [hF9.same T.n (by simp [blkOf]) (by omega)]; exact hb8
      have hD9 : ∀ f ∈ [(⟨T.n, .cells 24 c.cells false, none⟩ : Fct)], T9.h.get f.id = some f.x := by
        intro f hf; rw [List.mem_singleton] at hf; subst hf; exact hb9
      refine ⟨fun f hf => hD9 f (by simpa using hf), [], by simp, ?_⟩
      repeat (
        first
          | refine WF_pa rfl rfl (by kernel_rfl) (by kernel_rfl) rfl ?_
          | refine Ev_fieldAddr rfl rfl rfl rfl rfl rfl ?_)
      refine WF_rf rfl rfl (by kernel_rfl) (by kernel_rfl) (fun f hf => hD9 f (by simpa using hf)) (FPD_load (o := 4) rfl rfl rfl (pt_of hb9) rfl (fun b hb => by cases hb; exact ⟨_, List.mem_cons_self .., rfl, hb9, fun j hj => by cases hj⟩)) (veq_str _) ?_
      repeat (
        refine W_seq ?_)
      refine WF_ld rfl rfl (by kernel_rfl) (by kernel_rfl) (fun _ _ => rfl) ?_
      refine Ev_call rfl rfl ((rtext_runs hF9.ok how9.rd hcg.ds.2 (by omega) (by simp only [List.length_append, numL_len]; omega) (by omega)).mono ?_)
      rintro w10 T10 - ⟨hF10, how10, hbk10⟩
      have gn10 := hF10.n
      have gl10 := hF10.le
      refine ⟨fun f hf => ?_, [], by simp, ?_⟩
      · have hf2 : f ∈ [(⟨T.n, .cells 24 c.cells false, none⟩ : Fct)] := by simpa using hf
        rw [← hD9 f hf2, List.mem_singleton] at *
        rw [hf2]
        exact hF10.same T.n (by simp [blkOf]) (by omega)
      repeat' (
        first
          | refine WF_nil ?_
          | refine WF_pa rfl rfl (by kernel_rfl) (by kernel_rfl) rfl ?_
          | refine WO_nil ?_
          | refine V_seq ?_
          | refine W_region ?_
          | refine V_block ?_
          | refine WO_dst rfl rfl (by kernel_rfl) (by kernel_rfl) ?_
          | refine Ev_move rfl ?_
          | refine Ev_assign rfl ?_
          | refine Ev_addN rfl rfl (by simp only [lim]; omega) ?_)
      refine back (i + 1, w10) T10 _ (by dsimp only; omega) ⟨⟨by omega, by dsimp only; omega, hF10.ok, fun d _ h => by rw [hF10.same d (by simp [blkOf]) (by omega), hF9.same d (by simp [blkOf]) (by omega), hF8.same d (by simp [blkOf]) (by omega), hS7 d h]⟩, ?_, fun d hd => by have := hbk10 d hd; omega, by dsimp only; omega, hallc hr⟩ ⟨rfl, rfl, rfl, trivial⟩
      dsimp only
      rw [hLn, e]
      simp only [List.append_assoc] at how10 ⊢
      exact how10
  · have hi2 : i = cs.length := by omega
    have htk : cs.take i = cs := List.take_of_length_le (by omega)
    rw [htk] at how hall
    have e : writeE cs = 0 := by unfold writeE; rw [if_neg (by omega), if_pos hall]
    refine V_done rfl rfl ⟨w, by rw [e]; rfl, ⟨hF.le, by omega, hF.ok, hF.same⟩, ?_, hbk⟩
    rw [e, if_pos rfl]; exact how
end Go.Proofs.YthhbnnnokmefoaaDoor
/- GX: reasoning about runs: make. -/

namespace GX
noncomputable section
open Go
section
variable {X : X} {l : L} {S : St} {R : AV → St → Prop} {x y : Operand} {t : Nat}
theorem Ev_makeSlice {m c el : Nat} {i ei : TI} (hx : od l x = some (.int .i64 ((m : Nat) : Int))) (hy : od l y = some (.int .i64 ((c : Nat) : Int))) (hi : X.ti t = some i) (hd : i.desc = .slice el) (he' : X.ti el = some ei) (hmc : m ≤ c) (hb : ei.bytes * c ≤ 1048576000000) (hc : c ≤ 1048576000000) (hz : (!(Nat.beq ei.size 0) && Nat.beq ei.zero.length ei.size) = true) (hok : Sok S) (hn : S.n < 1000000000)
    (hR : ∀ S', S'.n = S.n + 1 → Sok S' → S'.h.get S.n = some (.cells el (rep ei.zero c) false) → (∀ c, c < S.n → S'.h.get c = S.h.get c) → R (.slice S.n 0 m (.ex c)) S') : Ev X l S (.makeSlice t x y) R := by
  refine Ev_mk (fun e he => ⟨rfl, ?_⟩) hok hn hR
  unfold allocOp; dsimp only; rw [hi]; dsimp only; rw [hd]; dsimp only; rw [he']; dsimp only; rw [od_ok he hx, od_ok he hy]
  show (bif Nat.ble m c && Nat.ble (ei.bytes * c) 1048576000000 && Nat.ble c 1048576000000 && !(Nat.beq ei.size 0) && Nat.beq ei.zero.length ei.size then _ else none) = _
  rw [nble, nble, nble, decide_eq_true hmc, decide_eq_true hb, decide_eq_true hc, Bool.and_self, Bool.and_self, Bool.true_and, hz]; rfl
/-- a copy of a whole slice into a greater one -/
theorem Ev_copy {xs : Array Operand} {ts : Array TypeId} {tr : List TypeId} {i ei : TI} {el b o dl k ty : Nat} {q : Cap} {vx : AV} {new cs : List AV} {sp : Bool} (hxs : xs.toList = [x, y]) (hts : ts.toList = t :: tr) (hx : od l x = some (.slice b o dl q)) (hy : od l y = some vx) (hi : X.ti t = some i) (hd : i.desc = .slice el) (he' : X.ti el = some ei)
    (hnew : Rd S vx ei.size new k) (hone : new.all AV.one = true) (hk : k ≤ dl) (hb : S.h.get b = some (.cells ty cs sp)) (hle : o + new.length ≤ cs.length) (hn : b < 1000000000)
    (hR : ∀ S', S'.n = S.n → S'.h.get b = some (.cells ty (lput cs o new) sp) → (∀ c, c ≠ b → S'.h.get c = S.h.get c) → R (.int .i64 ((k : Nat) : Int)) S') : Ev X l S (.call { callee := .builtin .copy, args := xs, argTypes := ts }) R := by
  have hst : storeAt S b o new = some (S.put b (.cells ty (lput cs o new) sp)) := by
    unfold storeAt; rw [hb]; dsimp only; rw [nble, decide_eq_true hle, hone]; rfl
  refine Ev_loud (S' := S.put b (.cells ty (lput cs o new) sp)) (v := .int .i64 ((k : Nat) : Int)) (fun e he => ⟨rfl, ?_⟩) (Nat.le_refl _) (hR _ rfl ?_ ?_)
  · unfold loudOp; dsimp only; rw [hxs, hts]; dsimp only; rw [od_ok he hx, od_ok he hy]; dsimp only
    unfold acopy; rw [hi]; dsimp only; rw [hd]; dsimp only; rw [he']; dsimp only; rw [srcLen_of hnew.len]; dsimp only
    rw [nble, decide_eq_true hk]; simp only [cond_true]; rw [hnew.cells]; dsimp only; rw [hst]; rfl
  · rw [get_put hn, if_pos rfl]
  · intro c hc; rw [get_put hn, if_neg hc]
end
end
end GX
/- carafelaw3.PoolAdds. -/


namespace Go.Proofs.YthhbnnnokmefoaaDoor
open GX
set_option maxHeartbeats 16000000
theorem cellsC_take : ∀ (cs : List CnA) (i : Nat), (cellsC cs).take (i * 5) = cellsC (cs.take i)
  | [], i => by simp [cellsC]
  | c :: cs, 0 => by simp [cellsC]
  | c :: cs, i + 1 => by
    show (c.cells ++ cellsC cs).take ((i + 1) * 5) = c.cells ++ cellsC (cs.take i)
    rw [show (i + 1) * 5 = c.cells.length + i * 5 by simp [CnA.cells]; omega, List.take_length_add_append, cellsC_take cs i]
section
variable {X : X} {l : L} {S : St} {R : AV → St → Prop} {x y : Go.Operand} {t u : Nat}
theorem Ev_bneq {a b : Bool} {i : TI} (hx : od l x = some (.bool a)) (hy : od l y = some (.bool b)) (hi : X.ti t = some i) (hd : i.desc = .bool) (hR : R (.bool (!(a == b))) S) : Ev X l S (.binOp .neq t x y u) R :=
  Ev_bin hx hy rfl (by unfold abin; dsimp only; unfold aeq; rw [hi]; dsimp only; rw [hd]) hR
end
theorem rd_noblk {v : AV} {sz : Nat} {cs : List AV} {m : Nat} (h : ∀ S, Rd S v sz cs m) : blkOf v = none := by
  cases hb : blkOf v with
  | none => rfl
  | some b => exact absurd ((h { h := .leaf, n := 0 }).lt (by intro c x h; simp [Tr.get] at h) hb) (Nat.not_lt_zero _)
/-- what is kept behind some constants: the pool, and their numbers -/
def accS (l : List CnA) : Nat → List CnA × List Int
  | 0 => ([], [])
  | i + 1 => match l[i]? with
    | none => accS l i
    | some c => if rightP c then (match cidx c (accS l i).1 with | some n => ((accS l i).1, (accS l i).2 ++ [((n : Nat) : Int)]) | none => ((accS l i).1 ++ [c], (accS l i).2 ++ [(((accS l i).1.length : Nat) : Int)])) else ((accS l i).1, (accS l i).2 ++ [-1])
theorem accS_s {l : List CnA} {i : Nat} (h : i < l.length) : accS l (i + 1) = if rightP l[i] then (match cidx l[i] (accS l i).1 with | some n => ((accS l i).1, (accS l i).2 ++ [((n : Nat) : Int)]) | none => ((accS l i).1 ++ [l[i]], (accS l i).2 ++ [(((accS l i).1.length : Nat) : Int)])) else ((accS l i).1, (accS l i).2 ++ [-1]) := by
  show (match l[i]? with | none => accS l i | some c => _) = _
  rw [List.getElem?_eq_getElem h]
/-- where each constant is -/
def atOk (p : List CnA) (c : CnA) (n : Int) : Prop := (¬ rightP c ∧ n = -1) ∨ (rightP c ∧ ∃ m : Nat, n = (m : Int) ∧ cidx c p = some m)
theorem atOk_app {p q : List CnA} {c : CnA} {n : Int} (h : atOk p c n) : atOk (p ++ q) c n := by
  rcases h with h | ⟨h, m, h1, h2⟩
  · exact .inl h
  · exact .inr ⟨h, m, h1, cidx_app h2⟩
theorem accS_ok {l : List CnA} : ∀ (i : Nat), i ≤ l.length → (accS l i).1.length ≤ i ∧ (accS l i).2.length = i ∧ ∀ (j : Nat) (c : CnA) (n : Int), l[j]? = some c → (accS l i).2[j]? = some n → atOk (accS l i).1 c n
  | 0, _ => ⟨Nat.le_refl _, rfl, fun j c n _ h => by simp [accS] at h⟩
  | i + 1, h => by
    obtain ⟨h1, h2, h3⟩ := accS_ok (l := l) i (by omega)
    have hi : i < l.length := by omega
    have key : ∀ (q : List CnA) (z : Int), atOk ((accS l i).1 ++ q) l[i] z → ∀ (j : Nat) (c : CnA) (n : Int), l[j]? = some c → ((accS l i).2 ++ [z])[j]? = some n → atOk ((accS l i).1 ++ q) c n := by
      intro q z hz j c n hj hn
      by_cases hlt : j < i
      · rw [List.getElem?_append_left (by omega)] at hn
        exact atOk_app (h3 j c n hj hn)
      · have : j = i := by
          have := (List.getElem?_eq_some_iff.1 hn).1
          simp at this; omega
        subst this
        have hjl : (accS l j).2.length ≤ j := by rw [h2]; exact Nat.le_refl _
        rw [List.getElem?_append_right hjl, h2] at hn
        simp at hn
        rw [List.getElem?_eq_getElem hi] at hj
        cases hj; rw [← hn]; exact hz
    rw [accS_s hi]
    by_cases hr : rightP l[i]
    · rw [if_pos hr]
      cases hc : cidx l[i] (accS l i).1 with
      | some m =>
        refine ⟨by dsimp only; omega, by simp; exact h2, ?_⟩
        have := key [] ((m : Nat) : Int) (by rw [List.append_nil]; exact .inr ⟨hr, m, rfl, hc⟩)
        simpa using this
      | none =>
        refine ⟨by simp; omega, by simp; exact h2, ?_⟩
        exact key [l[i]] _ (.inr ⟨hr, _, rfl, cidx_snoc hc⟩)
    · rw [if_neg hr]
      refine ⟨by dsimp only; omega, by simp; exact h2, ?_⟩
      have := key [] (-1) (by rw [List.append_nil]; exact .inl ⟨hr, rfl⟩)
      simpa using this
def intsV (l : List Int) : List AV := l.map (AV.int .i64)
theorem intsV_get {l : List Int} {i : Nat} {n : Int} (h : l[i]? = some n) : (intsV l)[i * 1]? = some (.int .i64 n) := by
  unfold intsV; rw [Nat.mul_one, List.getElem?_map, h]; rfl
theorem known_true {S : St} {R : AV → St → Prop} (h : R (.bool true) S) : Runs X1 23 [] S R := Runs_ext (g := extTrue) rfl rfl (Nat.le_refl _) h
theorem adds_runs {S : St} {lv : AV} {cs : List CnA} (hok : Sok S) (hlv : ∀ S, Rd S lv 5 (cellsC cs) cs.length) (hgood : ∀ c ∈ cs, c.Good) (hn : S.n ≤ 1000) :
    Runs X1 5 [lv] S fun r _ => r = .bool true := by
  have hno := rd_noblk hlv
  refine Runs_fn (m := 132) (by kernel_rfl) Tryd.func5 rfl (by kernel_rfl) (by kernel_rfl) ?_
  repeat (
    first
      | refine W_seq ?_
      | refine WO_nil ?_
      | refine V_seq ?_
      | refine W_region ?_
      | refine W_block ?_
      | refine WO_dst rfl rfl (by kernel_rfl) (by kernel_rfl) ?_
      | refine Ev_assign rfl ?_)
  refine W_inv (fun a : Nat × AV × AV => [(5, .int .i64 ((a.1 : Nat) : Int)), (3, a.2.1), (4, a.2.2), (0, lv)]) (fun a T => Sok T ∧ a.1 ≤ 60 ∧ a.1 ≤ cs.length ∧ Cs T a.2.1 (accS cs a.1).1 ∧ Own T a.2.2 3 1 (intsV (accS cs a.1).2) a.1 ∧ (∀ b, blkOf a.2.1 = some b → blkOf a.2.2 ≠ some b) ∧ T.n ≤ 200 * a.1 + 2000) (fun a => 61 - a.1) ?_ (0, .nils, .nils) ⟨hok, by simp, by simp, ⟨rfl, rfl, rfl, rfl, rfl, rfl⟩, .inl ⟨rfl, rfl, rfl⟩, fun b h => (by cases h), by dsimp only; omega⟩ ⟨rfl, rfl, rfl, rfl, trivial⟩
  rintro ⟨i, pv, tv⟩ T ⟨hokT, hi, hil, hp, ht, hpt, hTn⟩ back
  dsimp only at hi hil hp ht hpt hTn back
  obtain ⟨ha1, ha2, ha3⟩ := accS_ok i hil
  repeat' (
    first
      | refine W_seq ?_
      | refine WO_nil ?_
      | refine V_seq ?_
      | refine W_region ?_
      | refine W_block ?_
      | refine W_skip ?_
      | refine W_exit ?_
      | refine V_block_x rfl ?_
      | refine V_seq_x ?_
      | refine V_loop_x ?_
      | refine W_cond_f rfl ?_
      | refine WO_dst rfl rfl (by kernel_rfl) (by kernel_rfl) ?_
      | refine WO_guard_t rfl rfl rfl rfl rfl (by kernel_rfl) (by kernel_rfl) ?_
      | refine WO_guard_f rfl rfl rfl rfl rfl rfl (by kernel_rfl) (by kernel_rfl) ?_
      | refine Ev_len rfl rfl rfl rfl rfl (hlv T).len ?_
      | refine Ev_move rfl ?_
      | refine Ev_assign rfl ?_
      | refine Ev_pick_t rfl rfl rfl ?_
      | refine Ev_pick_f rfl rfl rfl ?_
      | refine Ev_lssN rfl rfl ?_
      | (refine WO_guard_dt rfl rfl rfl rfl rfl (by kernel_rfl) (by kernel_rfl) (fun hg => ?_) (fun hg => ?_) <;> (try dsimp only at hg) <;> try (exfalso; first | omega | exact hg rfl))
      | (refine W_cond rfl (fun hc => ?_) (fun hc => ?_) <;> (try dsimp only at hc) <;> try (exfalso; first | omega | exact hc rfl)))
  · have hlt : i < cs.length := by assumption
    obtain ⟨c, hc⟩ : ∃ c, c = cs[i] := ⟨_, rfl⟩
    have hcg : c.Good := hgood c (by rw [hc]; exact List.getElem_mem _)
    have hcell := cellsC_get cs i hlt
    rw [← hc] at hcell
    have hacc := accS_s hlt
    rw [← hc] at hacc
    repeat (
      first
        | refine WO_dst rfl rfl (by kernel_rfl) (by kernel_rfl) ?_
        | refine Ev_indexAddr_n rfl rfl rfl rfl rfl (hlv T) hno hlt ?_
        | refine Ev_load_pt_agg rfl rfl rfl (.inr rfl) (by rw [cellsC_len]; dsimp only; omega) hcell (CnA.veqs c) ?_)
    refine Ev_call rfl rfl ((add_runs hokT hp hcg (by omega) (by omega)).mono ?_)
    rintro _ T1 - ⟨hF1, q, rfl, hq, hbq⟩
    have gn1 := hF1.n
    have gl1 := hF1.le
    have hp1 := hp.keep (fun c h => hF1.same c (by simp [blkOf]) (hp.lt hokT h))
    have ht1 := ht.keep (fun c h => hF1.same c (by simp [blkOf]) (ht.lt hokT h))
    repeat (
      first
        | refine W_seq ?_
        | refine WO_nil ?_
        | refine V_seq ?_
        | refine W_region ?_
        | refine WO_dst rfl rfl (by kernel_rfl) (by kernel_rfl) ?_
        | refine Ev_indexAddr_n rfl rfl rfl rfl rfl (hlv T1) hno hlt ?_
        | refine Ev_load_pt_agg rfl rfl rfl (.inr rfl) (by rw [cellsC_len]; dsimp only; omega) hcell (CnA.veqs c) ?_
        | refine Ev_move rfl ?_
        | refine Ev_assign rfl ?_
        | refine Ev_extract rfl rfl ?_
        | refine Ev_eql rfl rfl ?_)
    refine Ev_call rfl rfl ((right_runs hF1.ok hcg (by omega)).mono ?_)
    rintro _ T2 - ⟨rfl, hF2⟩
    have gn2 := hF2.n
    have gl2 := hF2.le
    have hp2 := hp1.keep (fun c h => hF2.same c (by simp [blkOf]) (hp1.lt hF1.ok h))
    have ht2 := ht1.keep (fun c h => hF2.same c (by simp [blkOf]) (ht1.lt hF1.ok h))
    have hq2 := hq.rd.keep (fun c h => hF2.same c (by simp [blkOf]) (hq.lt hF1.ok h))
    by_cases hr : rightP c
    · rw [decide_eq_true hr]
      rw [if_pos hr] at hacc
      have hx : ∃ n : Int, accS cs (i + 1) = ((addS (accS cs i).1 c).1, (accS cs i).2 ++ [n]) ∧ (addS (accS cs i).1 c).2 = (n, 0) ∧ (addS (accS cs i).1 c).1.take (accS cs i).1.length = (accS cs i).1 ∧ (accS cs i).1.length ≤ (addS (accS cs i).1 c).1.length := by
        unfold addS
        rw [if_pos hr]
        cases hci : cidx c (accS cs i).1 with
        | some m => rw [hci] at hacc; exact ⟨_, hacc, rfl, List.take_length, Nat.le_refl _⟩
        | none =>
          rw [hci] at hacc
          dsimp only
          rw [if_neg (by omega)]
          exact ⟨_, hacc, rfl, by simp, by simp⟩
      obtain ⟨n, hx1, hx2, hx3, hx4⟩ := hx
      rw [hx2]
      obtain ⟨Q, hQ⟩ : ∃ Q, Q = (addS (accS cs i).1 c).1 := ⟨_, rfl⟩
      rw [← hQ] at hx1 hx3 hx4 hq2
      have hbq2 : ∀ b, blkOf q = some b → T.n ≤ b := hbq
      have hQl : Q.length ≤ i + 1 := by
        have := (accS_ok (i + 1) (show i + 1 ≤ cs.length by omega)).1
        rw [hx1] at this; exact this
      repeat' (
        refine WO_dst rfl rfl (by kernel_rfl) (by kernel_rfl) ?_)
      refine Ev_bneq rfl rfl rfl rfl ?_
      repeat' (
        first
          | refine W_seq ?_
          | refine WO_nil ?_
          | refine V_seq ?_
          | refine W_region ?_
          | refine W_skip ?_
          | refine W_cond_f rfl ?_
          | refine WO_dst rfl rfl (by kernel_rfl) (by kernel_rfl) ?_
          | refine WO_guard_t rfl rfl rfl rfl rfl (by kernel_rfl) (by kernel_rfl) ?_
          | refine Ev_len rfl rfl rfl rfl rfl hq2.len ?_
          | refine Ev_len rfl rfl rfl rfl rfl hp2.len ?_
          | refine Ev_move rfl ?_
          | refine Ev_lssN rfl rfl ?_
          | refine Ev_neqN rfl rfl ?_
          | (refine WO_guard_df rfl rfl rfl rfl rfl (by kernel_rfl) (by kernel_rfl) (fun hg => ?_) (fun hg => ?_) <;> (try dsimp only at hg) <;> try (exfalso; first | omega | exact hg rfl)))
      refine Ev_slice_hi rfl rfl rfl rfl rfl hq2 hx4 ?_
      intro q' hq' _
      have hq3 : Cs T2 q' (accS cs i).1 := hq'.eq (by show (cellsC Q).take ((accS cs i).1.length * 5) = _; rw [cellsC_take, hx3]) rfl
      repeat (
        first
          | refine WO_dst rfl rfl (by kernel_rfl) (by kernel_rfl) ?_
          | refine WO_guard_t rfl rfl rfl rfl rfl (by kernel_rfl) (by kernel_rfl) ?_
          | refine Ev_move rfl ?_)
      refine Ev_call rfl rfl ((csame_runs hq3 hp2 ⟨by omega, by omega⟩).mono ?_)
      rintro _ _ - ⟨rfl, rfl⟩
      rename_i T2
      rw [decide_eq_true rfl]
      repeat' (
        first
          | refine W_seq ?_
          | refine WO_nil ?_
          | refine V_seq ?_
          | refine W_region ?_
          | refine W_skip ?_
          | refine W_cond_f rfl ?_
          | refine WO_dst rfl rfl (by kernel_rfl) (by kernel_rfl) ?_
          | refine WO_guard_t rfl rfl rfl rfl rfl (by kernel_rfl) (by kernel_rfl) ?_
          | refine Ev_move rfl ?_
          | refine Ev_assign rfl ?_
          | refine Ev_pick_f rfl rfl rfl ?_
          | refine Ev_notb rfl ?_)
      refine Ev_buildSlice rfl rfl rfl rfl rfl rfl hF2.ok (by omega) ?_
      intro T3 gn3 gok3 gq3 gf3
      have ht3 := ht2.keep (fun c h => gf3 c (ht2.lt hF2.ok h))
      have hq4 := hq2.keep (fun c h => gf3 c (hq2.lt hF2.ok h))
      have hrd : Rd T3 (.slice T2.n 0 1 (.ex 1)) 1 [.int .i64 n] 1 := Rd_lit gq3 rfl rfl
      repeat (
        refine WO_dst rfl rfl (by kernel_rfl) (by kernel_rfl) ?_)
      refine Ev_append rfl rfl rfl rfl rfl rfl rfl rfl rfl rfl ht3 hrd (by simp [AV.one]) gok3 (by omega) (by dsimp only; omega) (by omega) ?_
      intro w5 T5 gl5 gn5 gok5 ht5 gf5 gb5
      have hqt : ∀ b, blkOf q = some b → blkOf tv ≠ some b := fun b h1 h2 => by
        have := hbq2 b h1
        have := ht.lt hokT h2
        omega
      have hq5 := hq4.keep (fun b h => gf5 b (hqt b h) (hq4.lt gok3 h))
      repeat (
        first
          | refine WO_nil ?_
          | refine V_seq ?_
          | refine W_region ?_
          | refine V_block ?_
          | refine WO_dst rfl rfl (by kernel_rfl) (by kernel_rfl) ?_
          | refine Ev_move rfl ?_
          | refine Ev_assign rfl ?_
          | refine Ev_addN rfl rfl (by simp only [lim]; omega) ?_)
      refine back (i + 1, q, w5) T5 _ (by dsimp only; omega) ⟨gok5, by dsimp only; omega, by dsimp only; omega, ?_, ?_, fun b h1 h2 => ?_, by dsimp only; omega⟩ ⟨rfl, rfl, rfl, rfl, trivial⟩
      · dsimp only; rw [hx1]; exact hq5
      · dsimp only; rw [hx1]
        exact ht5.eq (by unfold intsV; simp) rfl
      · rcases gb5 b h2 with h | h
        · exact hqt b h1 h
        · have := hq4.lt gok3 h1; omega
    · have e : addS (accS cs i).1 c = ([], 0, 14) := by unfold addS; rw [if_neg hr]
      rw [if_neg hr] at hacc
      rw [decide_eq_false hr, e]
      repeat' (
        refine WO_dst rfl rfl (by kernel_rfl) (by kernel_rfl) ?_)
      refine Ev_bneq rfl rfl rfl rfl ?_
      repeat' (
        first
          | refine W_seq ?_
          | refine WO_nil ?_
          | refine V_seq ?_
          | refine W_region ?_
          | refine W_skip ?_
          | refine W_cond_t rfl ?_
          | refine W_cond_f rfl ?_
          | refine WO_dst rfl rfl (by kernel_rfl) (by kernel_rfl) ?_
          | refine Ev_move rfl ?_
          | refine Ev_neqN rfl rfl ?_)
      refine Ev_buildSlice rfl rfl rfl rfl rfl rfl hF2.ok (by omega) ?_
      intro T3 gn3 gok3 gq3 gf3
      have ht3 := ht2.keep (fun c h => gf3 c (ht2.lt hF2.ok h))
      have hp3 := hp2.keep (fun c h => gf3 c (hp2.lt hF2.ok h))
      have hrd : Rd T3 (.slice T2.n 0 1 (.ex 1)) 1 [.int .i64 (-1)] 1 := Rd_lit gq3 rfl rfl
      repeat (
        refine WO_dst rfl rfl (by kernel_rfl) (by kernel_rfl) ?_)
      refine Ev_append rfl rfl rfl rfl rfl rfl rfl rfl rfl rfl ht3 hrd (by simp [AV.one]) gok3 (by omega) (by dsimp only; omega) (by omega) ?_
      intro w5 T5 gl5 gn5 gok5 ht5 gf5 gb5
      have hp5 := hp3.keep (fun b h => gf5 b (hpt b h) (hp3.lt gok3 h))
      repeat' (
        first
          | refine WO_nil ?_
          | refine V_seq ?_
          | refine W_region ?_
          | refine W_exit ?_
          | refine V_block_x rfl ?_
          | refine V_seq_x ?_
          | refine WO_dst rfl rfl (by kernel_rfl) (by kernel_rfl) ?_
          | refine Ev_move rfl ?_
          | refine Ev_assign rfl ?_
          | refine Ev_addN rfl rfl (by simp only [lim]; omega) ?_)
      refine back (i + 1, pv, w5) T5 _ (by dsimp only; omega) ⟨gok5, by dsimp only; omega, by dsimp only; omega, ?_, ?_, fun b h1 h2 => ?_, by dsimp only; omega⟩ ⟨rfl, rfl, rfl, rfl, trivial⟩
      · dsimp only; rw [hacc]; exact hp5
      · dsimp only; rw [hacc]
        exact ht5.eq (by unfold intsV; simp) rfl
      · rcases gb5 b h2 with h | h
        · exact hpt b h1 h
        · have := hp3.lt gok3 h1; omega
  all_goals
    have hm : i = cs.length ∨ i = 60 := by omega
    obtain ⟨P, hP⟩ : ∃ P, P = (accS cs i).1 := ⟨_, rfl⟩
    obtain ⟨A, hA⟩ : ∃ A, A = (accS cs i).2 := ⟨_, rfl⟩
    rw [← hP] at ha1 ha3 hp
    rw [← hA] at ha2 ha3 ht
    refine W_inv (fun j : Nat => [(9, .int .i64 ((j : Nat) : Int)), (3, pv), (4, tv), (0, lv)]) (fun j U => Sok U ∧ j ≤ i ∧ Cs U pv P ∧ Own U tv 3 1 (intsV A) i ∧ U.n ≤ 200 * j + 20000) (fun j => i - j) ?_ 0 ⟨hokT, by omega, hp, ht, by omega⟩ ⟨rfl, rfl, rfl, rfl, trivial⟩
    rintro j U ⟨hokU, hj, hpU, htU, hUn⟩ back2
    repeat' (
      first
        | refine W_seq ?_
        | refine WO_nil ?_
        | refine V_seq ?_
        | refine W_region ?_
        | refine W_block ?_
        | refine W_skip ?_
        | refine W_exit ?_
        | refine V_block_x rfl ?_
        | refine V_seq_x ?_
        | refine V_loop_x ?_
        | refine WO_dst rfl rfl (by kernel_rfl) (by kernel_rfl) ?_
        | refine Ev_len rfl rfl rfl rfl rfl htU.rd.len ?_
        | refine Ev_move rfl ?_
        | refine Ev_lssN rfl rfl ?_
        | (refine W_cond rfl (fun hc => ?_) (fun hc => ?_) <;> (try dsimp only at hc) <;> try (exfalso; first | omega | exact hc rfl)))
    · have hji : j < i := by assumption
      have hlt : j < cs.length := by omega
      obtain ⟨c, hc⟩ : ∃ c, c = cs[j] := ⟨_, rfl⟩
      have hcg : c.Good := hgood c (by rw [hc]; exact List.getElem_mem _)
      have hcell := cellsC_get cs j hlt
      rw [← hc] at hcell
      obtain ⟨n, hn2⟩ : ∃ n, A[j]? = some n := ⟨A[j]'(by omega), List.getElem?_eq_getElem (by omega)⟩
      have hat := ha3 j c n (by rw [hc]; exact List.getElem?_eq_getElem hlt) hn2
      refine Ev_indexAddr_rd rfl rfl rfl rfl rfl htU.rd hji ?_
      intro q1 hq1
      repeat (
        refine WO_dst rfl rfl (by kernel_rfl) (by kernel_rfl) ?_)
      refine Ev_load_pt rfl rfl rfl hq1 (intsV_get hn2) (veq_int _ _) ?_
      rcases hat with ⟨hr, rfl⟩ | ⟨hr, m, rfl, hci⟩
      · repeat' (
          first
            | refine WO_nil ?_
            | refine V_seq ?_
            | refine W_region ?_
            | refine W_exit ?_
            | refine V_block_x rfl ?_
            | refine V_seq_x ?_
            | refine W_cond_t rfl ?_
            | refine WO_dst rfl rfl (by kernel_rfl) (by kernel_rfl) ?_
            | refine Ev_move rfl ?_
            | refine Ev_assign rfl ?_
            | refine Ev_lss rfl rfl ?_
            | refine Ev_addN rfl rfl (by simp only [lim]; omega) ?_)
        exact back2 (j + 1) U _ (by omega) ⟨hokU, by omega, hpU, htU, by omega⟩ ⟨rfl, rfl, rfl, rfl, trivial⟩
      · repeat' (
          first
            | refine W_seq ?_
            | refine WO_nil ?_
            | refine V_seq ?_
            | refine W_drawn (by kernel_rfl) ?_
            | refine W_skip ?_
            | refine W_cond_f rfl ?_
            | refine WO_dst rfl rfl (by kernel_rfl) (by kernel_rfl) ?_
            | refine Ev_move rfl ?_
            | refine Ev_lssN rfl rfl ?_)
        refine Ev_indexAddr_rd rfl rfl rfl rfl rfl htU.rd hji ?_
        intro q2 hq2
        repeat (
          refine WO_dst rfl rfl (by kernel_rfl) (by kernel_rfl) ?_)
        refine Ev_load_pt rfl rfl rfl hq2 (intsV_get hn2) (veq_int _ _) ?_
        repeat (
          first
            | refine WO_dst rfl rfl (by kernel_rfl) (by kernel_rfl) ?_
            | refine Ev_indexAddr_n rfl rfl rfl rfl rfl (hlv U) hno hlt ?_
            | refine Ev_fieldAddr_n rfl rfl rfl rfl rfl rfl ?_
            | refine Ev_move rfl ?_)
        refine Ev_load_pt (v := .int .i64 c.kind) rfl rfl rfl (.inr rfl) (cellsC_at hlt (by decide) (by rw [← hc]; rfl)) (veq_int _ _) ?_
        repeat (
          refine WO_dst rfl rfl (by kernel_rfl) (by kernel_rfl) ?_)
        refine Ev_call rfl rfl ((get_runs hokU hpU (by omega) (by omega)).mono ?_)
        rintro _ U1 - ⟨rfl, hG1⟩
        have hPm := cidx_get hci
        obtain ⟨hml, hPm2⟩ := List.getElem?_eq_some_iff.1 hPm
        have hget : getS P ((m : Nat) : Int) c.kind = (c, 0) := by rw [getS_hit hml, hPm2, if_pos rfl]
        rw [hget]
        have un1 := hG1.n
        have ul1 := hG1.le
        have hp1 := hpU.keep (fun c h => hG1.same c (by simp [blkOf]) (hpU.lt hokU h))
        have ht1 := htU.keep (fun c h => hG1.same c (by simp [blkOf]) (htU.lt hokU h))
        repeat (
          first
            | refine WO_dst rfl rfl (by kernel_rfl) (by kernel_rfl) ?_
            | refine Ev_move rfl ?_
            | refine Ev_extract rfl rfl ?_)
        refine Ev_alloc_ rfl hG1.ok (by omega) ?_
        intro U2 un2 uok2 uq2 uf2
        repeat (
          refine WO_no rfl rfl ?_)
        refine Ev_store rfl rfl rfl rfl (CnA.ones c) uq2 (by simp [CnA.cells, AV.cells]) (by omega) ?_
        intro U3 un3 uq3 uf3
        have hG3 : Fr U1 U3 .nils 1 := ⟨by omega, by omega, sok_upd uok2 (by omega) un3 uq3 uf3, fun c _ h => by rw [uf3 c (by omega), uf2 c h]⟩
        have hp3 := hp1.keep (fun c h => hG3.same c (by simp [blkOf]) (hp1.lt hG1.ok h))
        have ht3 := ht1.keep (fun c h => hG3.same c (by simp [blkOf]) (ht1.lt hG1.ok h))
        have hb3 : U3.h.get U1.n = some (.cells 24 c.cells false) := uq3
        repeat (
          first
            | refine W_seq ?_
            | refine WO_nil ?_
            | refine V_seq ?_
            | refine W_region ?_
            | refine WO_dst rfl rfl (by kernel_rfl) (by kernel_rfl) ?_
            | refine Ev_indexAddr_n rfl rfl rfl rfl rfl (hlv U3) hno hlt ?_
            | refine Ev_load_pt_agg rfl rfl rfl (.inr rfl) (by rw [cellsC_len]; dsimp only; omega) hcell (CnA.veqs c) ?_
            | refine Ev_move rfl ?_
            | refine Ev_assign rfl ?_)
        refine Ev_call rfl rfl ((add_runs hG3.ok hp3 hcg (by omega) (by omega)).mono ?_)
        rintro _ U4 - ⟨hG4, w, rfl, hw, -⟩
        have hadd : addS P c = (P, ((m : Nat) : Int), 0) := by unfold addS; rw [if_pos hr, hci]
        rw [hadd] at hw ⊢
        have un4 := hG4.n
        have ul4 := hG4.le
        have hp4 := hp3.keep (fun c h => hG4.same c (by simp [blkOf]) (hp3.lt hG3.ok h))
        have ht4 := ht3.keep (fun c h => hG4.same c (by simp [blkOf]) (ht3.lt hG3.ok h))
        have hb4 : U4.h.get U1.n = some (.cells 24 c.cells false) := by rw [hG4.same U1.n (by simp [blkOf]) (by omega)]; exact hb3
        repeat' (
          first
            | refine W_seq ?_
            | refine WO_nil ?_
            | refine V_seq ?_
            | refine W_drawn (by kernel_rfl) ?_
            | refine WO_dst rfl rfl (by kernel_rfl) (by kernel_rfl) ?_
            | refine WO_guard_t rfl rfl rfl rfl rfl (by kernel_rfl) (by kernel_rfl) ?_
            | refine Ev_move rfl ?_
            | refine Ev_assign rfl ?_
            | refine Ev_extract rfl rfl ?_
            | refine Ev_neqN rfl rfl ?_)
        refine Ev_load_agg rfl rfl rfl hb4 (by simp [CnA.cells]) (show (c.cells.drop 0).take 5 = c.cells from rfl) (CnA.veqs c) ?_
        repeat' (
          first
            | refine WO_dst rfl rfl (by kernel_rfl) (by kernel_rfl) ?_
            | refine WO_guard_t rfl rfl rfl rfl rfl (by kernel_rfl) (by kernel_rfl) ?_
            | refine Ev_indexAddr_n rfl rfl rfl rfl rfl (hlv U4) hno hlt ?_
            | refine Ev_load_pt_agg rfl rfl rfl (.inr rfl) (by rw [cellsC_len]; dsimp only; omega) hcell (CnA.veqs c) ?_
            | refine Ev_cneq rfl rfl ?_
            | refine Ev_move rfl ?_
            | refine Ev_pick_f rfl rfl rfl ?_
            | refine Ev_neqN rfl rfl ?_
            | (refine WO_guard_df rfl rfl rfl rfl rfl (by kernel_rfl) (by kernel_rfl) (fun hg => ?_) (fun hg => ?_) <;> (try dsimp only at hg) <;> try (exfalso; first | omega | exact hg rfl)))
        refine Ev_indexAddr_rd rfl rfl rfl rfl rfl ht4.rd hji ?_
        intro q5 hq5
        repeat' (
          first
            | refine WO_dst rfl rfl (by kernel_rfl) (by kernel_rfl) ?_
            | refine WO_guard_t rfl rfl rfl rfl rfl (by kernel_rfl) (by kernel_rfl) ?_)
        refine Ev_load_pt rfl rfl rfl hq5 (intsV_get hn2) (veq_int _ _) ?_
        repeat' (
          first
            | refine WO_nil ?_
            | refine V_seq ?_
            | refine W_region ?_
            | refine W_skip ?_
            | refine V_block ?_
            | refine WO_dst rfl rfl (by kernel_rfl) (by kernel_rfl) ?_
            | refine WO_guard_t rfl rfl rfl rfl rfl (by kernel_rfl) (by kernel_rfl) ?_
            | refine Ev_len rfl rfl rfl rfl rfl hw.rd.len ?_
            | refine Ev_len rfl rfl rfl rfl rfl hp4.len ?_
            | refine Ev_move rfl ?_
            | refine Ev_assign rfl ?_
            | refine Ev_pick_f rfl rfl rfl ?_
            | refine Ev_neqN rfl rfl ?_
            | refine Ev_addN rfl rfl (by simp only [lim]; omega) ?_
            | (refine WO_guard_df rfl rfl rfl rfl rfl (by kernel_rfl) (by kernel_rfl) (fun hg => ?_) (fun hg => ?_) <;> (try dsimp only at hg) <;> try (exfalso; first | omega | exact hg rfl))
            | (refine W_cond rfl (fun hc => ?_) (fun hc => ?_) <;> (try dsimp only at hc) <;> try (exfalso; first | omega | exact hc rfl)))
        exact back2 (j + 1) U4 _ (by omega) ⟨hG4.ok, by omega, hp4, ht4, by omega⟩ ⟨rfl, rfl, rfl, rfl, trivial⟩
    · refine Ev_call rfl rfl (known_true ?_)
      repeat (
        first
          | refine WO_nil ?_
          | refine V_seq ?_
          | refine W_ret ?_
          | refine WO_dst rfl rfl (by kernel_rfl) (by kernel_rfl) ?_
          | refine Ev_assign rfl ?_)
      refine V_done rfl rfl ?_
      rfl
end Go.Proofs.YthhbnnnokmefoaaDoor
/- caraferef3.Get, caraferef3.Add, number, Roomy and Intact of constants, pool.Write of any constants. -/




namespace Go.Proofs.YthhbnnnokmefoaaDoor
open GX
set_option maxHeartbeats 16000000
set_option maxRecDepth 100000
/-- number -/
def numC (n : Int) : CnA := ⟨3, n, [], [], []⟩
theorem numc_runs {S : St} {n : Int} (hok : Sok S) (hn : S.n + 1 ≤ 1000000000) :
    Runs X1 10 [.int .i32 n] S fun r S' => r = .agg (numC n).cells ∧ Fr S S' .nils 1 := by
  refine Runs_fn (m := 5) (by kernel_rfl) Tryd.func10 rfl (by kernel_rfl) (by kernel_rfl) ?_
  repeat (
    first
      | refine W_seq ?_
      | refine W_region ?_
      | refine WO_dst rfl rfl (by kernel_rfl) (by kernel_rfl) ?_)
  refine Ev_alloc_ rfl hok (by omega) ?_
  intro T hTn hTok hTq hTf
  have hq : T.h.get S.n = some (.cells 24 zeroC.cells false) := hTq
  repeat (
    first
      | refine W_seq ?_
      | refine WO_nil ?_
      | refine V_seq ?_
      | refine W_region ?_
      | refine WO_dst rfl rfl (by kernel_rfl) (by kernel_rfl) ?_
      | refine Ev_move rfl ?_)
  refine Ev_build (v := .agg (numC n).cells) rfl rfl ?_
  repeat (
    refine WO_no rfl rfl ?_)
  refine Ev_store rfl rfl rfl rfl (CnA.ones _) hq (by simp [CnA.cells, AV.cells]) (by omega) ?_
  intro T3 gn3 gq3 gf3
  repeat (
    first
      | refine WO_nil ?_
      | refine V_seq ?_
      | refine W_ret ?_)
  refine V_done_c rfl rfl (loadAt_c (c := numC n) gq3) ?_
  exact ⟨rfl, ⟨by omega, by omega, sok_upd hTok (by omega) gn3 gq3 gf3, fun c _ h => by rw [gf3 c (by omega), hTf c h]⟩⟩
theorem rget_runs {S : St} {v : AV} {cs : List CnA} {n kind : Int} (hok : Sok S) (hv : Cs S v cs) (_hb : cs.length ≤ 1000000000) (hn : S.n + 1 ≤ 1000000000) :
    Runs X1 16 [v, .int .i64 n, .int .i64 kind] S fun r S' => r = .tup [.agg (getS cs n kind).1.cells, .bool (decide ((getS cs n kind).2 = 0))] ∧ Fr S S' .nils 1 := by
  refine Runs_fn (m := 30) (by kernel_rfl) Tryd.func16 rfl (by kernel_rfl) (by kernel_rfl) ?_
  repeat (
    first
      | refine W_seq ?_
      | refine W_region ?_
      | refine WO_dst rfl rfl (by kernel_rfl) (by kernel_rfl) ?_)
  refine Ev_alloc_ rfl hok (by omega) ?_
  intro T hTn hTok hTq hTf
  have hF : Fr S T .nils 1 := ⟨by omega, by omega, hTok, fun c _ h => hTf c h⟩
  have hv1 := hv.keep (fun c h => hTf c (hv.lt hok h))
  have hq : T.h.get S.n = some (.cells 24 zeroC.cells false) := hTq
  by_cases hneg : n < 0
  · have e : getS cs n kind = (zeroC, 14) := getS_neg hneg kind
    repeat' (
      first
        | refine W_seq ?_
        | refine WO_nil ?_
        | refine V_seq ?_
        | refine W_region ?_
        | refine W_cond_t rfl ?_
        | refine WO_dst rfl rfl (by kernel_rfl) (by kernel_rfl) ?_
        | refine WO_guard_f rfl rfl rfl rfl rfl rfl (by kernel_rfl) (by kernel_rfl) ?_
        | refine Ev_move rfl ?_
        | refine Ev_assign rfl ?_
        | refine Ev_pick_t rfl rfl rfl ?_
        | refine Ev_lss rfl rfl ?_
        | (refine WO_guard_df rfl rfl rfl rfl rfl (by kernel_rfl) (by kernel_rfl) (fun hg => ?_) (fun hg => ?_) <;> (try dsimp only at hg) <;> try (exfalso; first | omega | exact hg rfl)))
    refine Ev_build (v := .agg zeroC.cells) rfl rfl ?_
    repeat (
      refine WO_no rfl rfl ?_)
    refine Ev_store rfl rfl rfl rfl (CnA.ones _) hq (by simp [CnA.cells, AV.cells]) (by omega) ?_
    intro T3 gn3 gq3 gf3
    repeat (
      first
        | refine WO_nil ?_
        | refine V_seq ?_
        | refine W_ret ?_
        | refine V_ret ?_
        | refine WO_dst rfl rfl (by kernel_rfl) (by kernel_rfl) ?_
        | refine Ev_assign rfl ?_)
    refine V_done_ct rfl rfl (loadAt_c (c := zeroC) gq3) rfl ?_
    rw [e]
    exact ⟨rfl, ⟨by omega, by omega, sok_upd hTok (by omega) gn3 gq3 gf3, fun c _ h => by rw [gf3 c (by omega), hTf c h]⟩⟩
  · obtain ⟨m, rfl⟩ : ∃ m : Nat, n = (m : Int) := ⟨n.toNat, by omega⟩
    repeat' (
      first
        | refine W_seq ?_
        | refine WO_nil ?_
        | refine V_seq ?_
        | refine W_region ?_
        | refine W_cond_t rfl ?_
        | refine WO_dst rfl rfl (by kernel_rfl) (by kernel_rfl) ?_
        | refine WO_guard_t rfl rfl rfl rfl rfl (by kernel_rfl) (by kernel_rfl) ?_
        | refine WO_guard_f rfl rfl rfl rfl rfl rfl (by kernel_rfl) (by kernel_rfl) ?_
        | refine Ev_len rfl rfl rfl rfl rfl hv1.len ?_
        | refine Ev_move rfl ?_
        | refine Ev_assign rfl ?_
        | refine Ev_pick_t rfl rfl rfl ?_
        | refine Ev_pick_f rfl rfl rfl ?_
        | refine Ev_lssN rfl rfl ?_
        | refine Ev_geqN rfl rfl ?_
        | (refine WO_guard_df rfl rfl rfl rfl rfl (by kernel_rfl) (by kernel_rfl) (fun hg => ?_) (fun hg => ?_) <;> (try dsimp only at hg) <;> try (exfalso; first | omega | exact hg rfl)))
    · have hlt : m < cs.length := by omega
      refine Ev_indexAddr_rd rfl rfl rfl rfl rfl hv1 hlt ?_
      intro q hq1
      repeat (
        first
          | refine WO_dst rfl rfl (by kernel_rfl) (by kernel_rfl) ?_
          | refine WO_guard_t rfl rfl rfl rfl rfl (by kernel_rfl) (by kernel_rfl) ?_)
      refine Ev_fieldAddr_pt rfl rfl rfl rfl rfl rfl hq1 ?_
      intro q2 hq2
      repeat (
        first
          | refine WO_dst rfl rfl (by kernel_rfl) (by kernel_rfl) ?_
          | refine WO_guard_t rfl rfl rfl rfl rfl (by kernel_rfl) (by kernel_rfl) ?_)
      refine Ev_load_pt rfl rfl rfl hq2 (cellsC_at hlt (by decide) rfl) (veq_int _ _) ?_
      repeat' (
        first
          | refine W_seq ?_
          | refine WO_nil ?_
          | refine V_seq ?_
          | refine W_region ?_
          | refine W_skip ?_
          | refine WO_dst rfl rfl (by kernel_rfl) (by kernel_rfl) ?_
          | refine WO_guard_t rfl rfl rfl rfl rfl (by kernel_rfl) (by kernel_rfl) ?_
          | refine Ev_move rfl ?_
          | refine Ev_pick_f rfl rfl rfl ?_
          | refine Ev_neq rfl rfl ?_
          | (refine W_cond rfl (fun hc => ?_) (fun hc => ?_) <;> (try dsimp only at hc) <;> try (exfalso; first | omega | exact hc rfl)))
      · have e : getS cs m kind = (zeroC, 14) := by rw [getS_hit hlt, if_neg hc]
        refine Ev_build (v := .agg zeroC.cells) rfl rfl ?_
        repeat (
          refine WO_no rfl rfl ?_)
        refine Ev_store rfl rfl rfl rfl (CnA.ones _) hq (by simp [CnA.cells, AV.cells]) (by omega) ?_
        intro T3 gn3 gq3 gf3
        repeat (
          first
            | refine WO_nil ?_
            | refine V_seq ?_
            | refine W_ret ?_
            | refine V_ret ?_
            | refine WO_dst rfl rfl (by kernel_rfl) (by kernel_rfl) ?_
            | refine Ev_assign rfl ?_)
        refine V_done_ct rfl rfl (loadAt_c (c := zeroC) gq3) rfl ?_
        rw [e]
        exact ⟨rfl, ⟨by omega, by omega, sok_upd hTok (by omega) gn3 gq3 gf3, fun c _ h => by rw [gf3 c (by omega), hTf c h]⟩⟩
      · have e : getS cs m kind = (cs[m], 0) := by rw [getS_hit hlt, if_pos (Classical.not_not.1 hc)]
        refine Ev_indexAddr_rd rfl rfl rfl rfl rfl hv1 hlt ?_
        intro q3 hq3
        repeat (
          refine WO_dst rfl rfl (by kernel_rfl) (by kernel_rfl) ?_)
        refine Ev_load_pt_agg rfl rfl rfl hq3 (by rw [cellsC_len]; dsimp only; omega) (cellsC_get cs m hlt) (CnA.veqs _) ?_
        repeat (
          refine WO_no rfl rfl ?_)
        refine Ev_store rfl rfl rfl rfl (CnA.ones _) hq (by simp [CnA.cells, AV.cells]) (by omega) ?_
        intro T3 gn3 gq3 gf3
        repeat (
          first
            | refine WO_nil ?_
            | refine V_seq ?_
            | refine W_ret ?_
            | refine WO_dst rfl rfl (by kernel_rfl) (by kernel_rfl) ?_
            | refine Ev_assign rfl ?_)
        refine V_done_ct rfl rfl (loadAt_c (c := cs[m]) gq3) rfl ?_
        rw [e]
        exact ⟨rfl, ⟨by omega, by omega, sok_upd hTok (by omega) gn3 gq3 gf3, fun c _ h => by rw [gf3 c (by omega), hTf c h]⟩⟩
    · have e : getS cs m kind = (zeroC, 14) := getS_miss (by omega) kind
      refine Ev_build (v := .agg zeroC.cells) rfl rfl ?_
      repeat (
        refine WO_no rfl rfl ?_)
      refine Ev_store rfl rfl rfl rfl (CnA.ones _) hq (by simp [CnA.cells, AV.cells]) (by omega) ?_
      intro T3 gn3 gq3 gf3
      repeat (
        first
          | refine WO_nil ?_
          | refine V_seq ?_
          | refine W_ret ?_
          | refine V_ret ?_
          | refine WO_dst rfl rfl (by kernel_rfl) (by kernel_rfl) ?_
          | refine Ev_assign rfl ?_)
      refine V_done_ct rfl rfl (loadAt_c (c := zeroC) gq3) rfl ?_
      rw [e]
      exact ⟨rfl, ⟨by omega, by omega, sok_upd hTok (by omega) gn3 gq3 gf3, fun c _ h => by rw [gf3 c (by omega), hTf c h]⟩⟩
theorem radd_runs {S : St} {v : AV} {cs : List CnA} {c : CnA} (hok : Sok S) (hv : Cs S v cs) (hsm : c.cl.length ≤ 1048576 ∧ c.nm.length ≤ 1048576 ∧ c.ds.length ≤ 1048576) (hb : cs.length ≤ 100000000) (hn : S.n + 3000100 ≤ 1000000000) :
    Runs X1 18 [v, .agg c.cells] S (AddO S cs c (2 * c.ds.length + 40)) := by
  refine Runs_fn (m := 38) (by kernel_rfl) Tryd.func18 rfl (by kernel_rfl) (by kernel_rfl) ?_
  repeat (
    first
      | refine W_seq ?_
      | refine W_region ?_
      | refine WO_dst rfl rfl (by kernel_rfl) (by kernel_rfl) ?_)
  refine Ev_box rfl hok (by omega) ?_
  intro T hTn hTok hTq hTf
  have hv1 := hv.keep (fun c h => hTf c (hv.lt hok h))
  have hq : T.h.get S.n = some (.cells 24 c.cells false) := hTq
  repeat (
    first
      | refine W_seq ?_
      | refine WO_nil ?_
      | refine V_seq ?_
      | refine W_region ?_
      | refine WO_dst rfl rfl (by kernel_rfl) (by kernel_rfl) ?_
      | refine Ev_assign rfl ?_)
  refine Ev_load_agg rfl rfl rfl hq (by simp [CnA.cells]) (show (c.cells.drop 0).take 5 = c.cells from rfl) (CnA.veqs c) ?_
  repeat (
    refine WO_dst rfl rfl (by kernel_rfl) (by kernel_rfl) ?_)
  refine Ev_call rfl rfl ((rright_runs hTok hsm (by omega)).mono ?_)
  rintro _ T1 - ⟨rfl, hF1⟩
  have gn1 := hF1.n
  have gl1 := hF1.le
  have hv2 := hv1.keep (fun c h => hF1.same c (by simp [blkOf]) (hv1.lt hTok h))
  have hq1 : T1.h.get S.n = some (.cells 24 c.cells false) := by rw [hF1.same S.n (by simp [blkOf]) (by omega)]; exact hq
  have hF01 : ∀ d, d < S.n → T1.h.get d = S.h.get d := fun d h => by rw [hF1.same d (by simp [blkOf]) (by omega), hTf d h]
  repeat' (
    first
      | refine W_seq ?_
      | refine WO_nil ?_
      | refine V_seq ?_
      | refine W_region ?_
      | refine W_skip ?_
      | refine W_ret ?_
      | refine V_ret ?_
      | refine WO_dst rfl rfl (by kernel_rfl) (by kernel_rfl) ?_
      | refine Ev_assign rfl ?_
      | refine Ev_not rfl ?_
      | (refine W_cond rfl (fun hc => ?_) (fun hc => ?_) <;> (try dsimp only at hc) <;> try (exfalso; first | omega | exact hc rfl)))
  · have e : addS cs c = ([], 0, 14) := by unfold addS; rw [if_neg (by assumption)]
    refine V_done rfl rfl ⟨⟨by omega, by omega, hF1.ok, fun d _ h => hF01 d h⟩, .nils, ?_, ?_, fun c hc => by cases hc⟩
    · rw [e]; rfl
    · rw [e]; exact .inl (.inl ⟨rfl, rfl, rfl⟩)
  have hr : rightP c := by first | assumption | exact Classical.not_not.1 (by assumption)
  refine Ev_buildSlice rfl rfl rfl rfl rfl rfl hF1.ok (by omega) ?_
  intro T2 gn2 gok2 gq2 gf2
  have hv3 := hv2.keep (fun c h => gf2 c (hv2.lt hF1.ok h))
  repeat (
    first
      | refine WO_dst rfl rfl (by kernel_rfl) (by kernel_rfl) ?_
      | refine Ev_move rfl ?_)
  refine Ev_append_gz (cs := []) (m := 0) rfl rfl rfl rfl rfl rfl rfl rfl rfl rfl (.inr ⟨rfl, rfl, T1.n, 0, rfl, Rd_lit gq2 rfl (by kernel_rfl)⟩) hv3 (cellsC_one cs) gok2 (by omega) (by dsimp only; omega) (by omega) ?_
  intro w T3 gl3 gn3 gok3 hz3 gf3 gb3
  have hz : Gz T3 w 24 5 (cellsC cs) cs.length := hz3.eq rfl (by omega)
  have hF03 : ∀ d, d < S.n → T3.h.get d = S.h.get d := fun d h => by rw [gf3 d (fun e => by have e2 : T1.n = _ := Option.some.inj e; omega) (by omega), gf2 d (by omega), hF01 d h]
  have hv4 := hv3.keep (fun d h => by have := hv.lt hok h; exact gf3 d (fun e => by have e2 : T1.n = _ := Option.some.inj e; omega) (by omega))
  have hq3 : T3.h.get S.n = some (.cells 24 c.cells false) := by rw [gf3 S.n (fun e => by have e2 : T1.n = _ := Option.some.inj e; omega) (by omega), gf2 S.n (by omega)]; exact hq1
  have hbw : ∀ b, blkOf w = some b → S.n ≤ b := fun b h => by
    rcases gb3 b h with g | g
    · have e : T1.n = b := Option.some.inj g
      omega
    · omega
  repeat' (
    first
      | refine W_seq ?_
      | refine WO_nil ?_
      | refine V_seq ?_
      | refine W_region ?_
      | refine W_block ?_
      | refine WO_dst rfl rfl (by kernel_rfl) (by kernel_rfl) ?_
      | refine Ev_assign rfl ?_)
  refine W_inv (fun i : Nat => [(8, .int .i64 ((i : Nat) : Int)), (7, w), (0, v), (3, .ptr S.n 0)]) (fun i U => U = T3 ∧ i ≤ cs.length ∧ ∀ d ∈ cs.take i, d ≠ c) (fun i => cs.length - i) ?_ 0 ⟨rfl, Nat.zero_le _, by simp⟩ ⟨rfl, rfl, rfl, rfl, trivial⟩
  rintro i _ ⟨rfl, hi, hall⟩ back
  rename_i T3
  repeat' (
    first
      | refine W_seq ?_
      | refine WO_nil ?_
      | refine V_seq ?_
      | refine W_region ?_
      | refine W_drawn (by kernel_rfl) ?_
      | refine W_block ?_
      | refine W_skip ?_
      | refine W_ret ?_
      | refine W_exit ?_
      | refine V_ret ?_
      | refine V_block_x rfl ?_
      | refine V_seq_x ?_
      | refine V_loop_x ?_
      | refine WO_dst rfl rfl (by kernel_rfl) (by kernel_rfl) ?_
      | refine Ev_len rfl rfl rfl rfl rfl hv4.len ?_
      | refine Ev_move rfl ?_
      | refine Ev_assign rfl ?_
      | refine Ev_lssN rfl rfl ?_
      | refine Ev_geqN rfl rfl ?_
      | (refine W_cond rfl (fun hc => ?_) (fun hc => ?_) <;> (try dsimp only at hc) <;> try (exfalso; first | omega | exact hc rfl)))
  · have hlt : i < cs.length := by assumption
    refine Ev_indexAddr_rd rfl rfl rfl rfl rfl hv4 hlt ?_
    intro q hq4
    repeat (
      refine WO_dst rfl rfl (by kernel_rfl) (by kernel_rfl) ?_)
    refine Ev_load_pt_agg rfl rfl rfl hq4 (by rw [cellsC_len]; dsimp only; omega) (cellsC_get cs i hlt) (CnA.veqs _) ?_
    repeat (
      refine WO_dst rfl rfl (by kernel_rfl) (by kernel_rfl) ?_)
    refine Ev_load_agg rfl rfl rfl hq3 (by simp [CnA.cells]) (show (c.cells.drop 0).take 5 = c.cells from rfl) (CnA.veqs c) ?_
    repeat' (
      first
        | refine W_seq ?_
        | refine WO_nil ?_
        | refine V_seq ?_
        | refine W_region ?_
        | refine W_skip ?_
        | refine W_ret ?_
        | refine V_ret ?_
        | refine V_block ?_
        | refine WO_dst rfl rfl (by kernel_rfl) (by kernel_rfl) ?_
        | refine Ev_ceql rfl rfl ?_
        | refine Ev_move rfl ?_
        | refine Ev_assign rfl ?_
        | refine Ev_addN rfl rfl (by simp only [lim]; omega) ?_
        | (refine W_cond rfl (fun hc => ?_) (fun hc => ?_) <;> (try dsimp only at hc) <;> try (exfalso; first | omega | exact hc rfl)))
    · have he : cs[i] = c := by assumption
      have hx : cidx c cs = some i := by
        have e : cs = cs.take i ++ c :: cs.drop (i + 1) := by
          conv => lhs; rw [← List.take_append_drop i cs, List.drop_eq_getElem_cons hlt, he]
        have h2 := cidx_at (m := cs.drop (i + 1)) hall
        rw [← e] at h2
        rw [h2, List.length_take, Nat.min_eq_left (by omega)]
      have e : addS cs c = (cs, ((i : Nat) : Int), 0) := by unfold addS; rw [if_pos hr, hx]
      refine V_done rfl rfl ⟨⟨by omega, by omega, gok3, fun d _ h => hF03 d h⟩, w, ?_, ?_, hbw⟩
      · rw [e]; rfl
      · rw [e]; exact hz
    · have he : cs[i] ≠ c := by assumption
      refine back (i + 1) T3 _ (by omega) ⟨rfl, by omega, fun d hd => ?_⟩ ⟨rfl, rfl, rfl, rfl, trivial⟩
      rw [List.take_succ_eq_append_getElem hlt] at hd
      rcases List.mem_append.1 hd with h | h
      · exact hall d h
      · rw [List.mem_singleton] at h; rw [h]; exact he
  · have hx : cidx c cs = none := by
      refine cidx_none (fun d hd => hall d ?_)
      rw [List.take_of_length_le (by omega)]; exact hd
    have e : addS cs c = ([], 0, 4) := by unfold addS; rw [if_pos hr, hx]; dsimp only; rw [if_pos (by assumption)]
    refine V_done rfl rfl ⟨⟨by omega, by omega, gok3, fun d _ h => hF03 d h⟩, .nils, ?_, ?_, fun c hc => by cases hc⟩
    · rw [e]; rfl
    · rw [e]; exact .inl (.inl ⟨rfl, rfl, rfl⟩)
  · have hx : cidx c cs = none := by
      refine cidx_none (fun d hd => hall d ?_)
      rw [List.take_of_length_le (by omega)]; exact hd
    have e : addS cs c = (cs ++ [c], ((cs.length : Nat) : Int), 0) := by unfold addS; rw [if_pos hr, hx]; dsimp only; rw [if_neg (by assumption)]
    refine Ev_load_agg rfl rfl rfl hq3 (by simp [CnA.cells]) (show (c.cells.drop 0).take 5 = c.cells from rfl) (CnA.veqs c) ?_
    repeat (
      refine WO_dst rfl rfl (by kernel_rfl) (by kernel_rfl) ?_)
    refine Ev_buildSlice rfl rfl rfl rfl rfl rfl gok3 (by omega) ?_
    intro T4 gn4 gok4 gq4 gf4
    have hz4 := hz.keep (fun d h => gf4 d (hz.lt gok3 h))
    have hv5 := hv4.keep (fun d h => gf4 d (hv4.lt gok3 h))
    have hrd : Rd T4 (.slice T3.n 0 1 (.ex 1)) 5 c.cells 1 := Rd_lit gq4 rfl rfl
    repeat (
      refine WO_dst rfl rfl (by kernel_rfl) (by kernel_rfl) ?_)
    refine Ev_append_gz rfl rfl rfl rfl rfl rfl rfl rfl rfl rfl hz4 hrd (CnA.ones c) gok4 (by omega) (by dsimp only; omega) (by omega) ?_
    intro w5 T5 gl5 gn5 gok5 hz5 gf5 gb5
    have hv6 := hv5.keep (fun d h => gf5 d (fun e => by have := hbw d e; have := hv.lt hok h; omega) (hv5.lt gok4 h))
    repeat' (
      first
        | refine WO_nil ?_
        | refine V_seq ?_
        | refine W_ret ?_
        | refine WO_dst rfl rfl (by kernel_rfl) (by kernel_rfl) ?_
        | refine Ev_len rfl rfl rfl rfl rfl hv6.len ?_
        | refine Ev_move rfl ?_
        | refine Ev_assign rfl ?_)
    refine V_done rfl rfl ⟨⟨by omega, by omega, gok5, fun d _ h => by rw [gf5 d (fun e => by have := hbw d e; omega) (by omega), gf4 d (by omega), hF03 d h]⟩, w5, ?_, ?_, fun b hb => ?_⟩
    · rw [e]; rfl
    · rw [e]; exact hz5.eq (by rw [cellsC_app]; simp [cellsC]) (by simp)
    · rcases gb5 b hb with g | g
      · exact hbw b g
      · omega
/-- pool.Write of any constants -/
theorem pwriteA_runs {S : St} {p : Nat} {vb v : AV} {cs : List CnA} (h : LW S p vb v [] cs) (hgood : ∀ c ∈ cs, c.Good) (hlen : cs.length ≤ 100000) (hn : S.n ≤ 800000000) :
    Runs X1 12 [.ptr p 0, v] S fun r S' => r = .int .i64 (writeE cs) ∧ ∃ vb', LW S' p vb' v (if writeE cs = 0 then poolL cs else []) cs ∧ WrF S S' p vb vb' 3000000 := by
  by_cases hr : cs.length ≤ 256 ∧ ∀ c ∈ cs, rightP c
  · have e : writeE cs = 0 := by unfold writeE; rw [if_neg (by omega), if_pos hr.2]
    rw [e, if_pos rfl]
    refine (pwrite_runs h hgood hr.2 hr.1 (by simp) hn).mono ?_
    rintro r T - ⟨rfl, vb', h1, h2⟩
    exact ⟨rfl, vb', by rw [List.nil_append] at h1; exact h1, h2⟩
  · refine Runs_fn (m := 60) (by kernel_rfl) Tryd.func12 rfl (by kernel_rfl) (by kernel_rfl) ?_
    repeat' (
      first
        | refine W_seq ?_
        | refine WO_nil ?_
        | refine V_seq ?_
        | refine W_region ?_
        | refine W_block ?_
        | refine W_ret ?_
        | refine V_ret ?_
        | refine W_cond_f rfl ?_
        | refine WO_dst rfl rfl (by kernel_rfl) (by kernel_rfl) ?_
        | refine Ev_len rfl rfl rfl rfl rfl h.cs.len ?_
        | refine Ev_move rfl ?_
        | refine Ev_assign rfl ?_
        | refine Ev_gtrN rfl rfl ?_
        | refine Ev_ptr_eql rfl rfl rfl rfl ?_
        | (refine W_cond rfl (fun hc => ?_) (fun hc => ?_) <;> (try dsimp only at hc) <;> try (exfalso; first | omega | exact hc rfl)))
    · have e : writeE cs = 4 := by unfold writeE; rw [if_pos (by assumption)]
      rw [e, if_neg (by decide)]
      refine V_done rfl rfl ⟨rfl, vb, h, ⟨Nat.le_refl _, by omega, h.ok, fun _ _ _ _ => rfl, fun _ hc => .inl hc⟩⟩
    · have h256 : cs.length ≤ 256 := by omega
      have hnr : ¬ ∀ c ∈ cs, rightP c := fun g => hr ⟨h256, g⟩
      have e : writeE cs = 14 := by unfold writeE; rw [if_neg (by omega), if_neg hnr]
      refine Ev_call rfl rfl ((contains_runs h.ok h.cs hgood (by omega) (by omega)).mono ?_)
      rintro _ T0 - ⟨rfl, hF0⟩
      rw [decide_eq_true hnr]
      have h0 := h.fr hF0
      have gn0 := hF0.n
      have hW0 := (WrF.refl (p := p) (vb := vb) h.ok).fr (p := p) (vb := vb) (vb' := vb) hF0 (fun c h => by cases h)
      rw [e, if_neg (by decide)]
      repeat' (
        first
          | refine W_seq ?_
          | refine WO_nil ?_
          | refine V_seq ?_
          | refine W_region ?_
          | refine W_ret ?_
          | refine V_ret ?_
          | refine W_cond_t rfl ?_
          | refine WO_dst rfl rfl (by kernel_rfl) (by kernel_rfl) ?_
          | refine Ev_assign rfl ?_)
      refine V_done rfl rfl ⟨rfl, vb, h0, ⟨hW0.le, by omega, hW0.ok, hW0.same, hW0.bk⟩⟩
/-! constants with room behind them -/
theorem lput_pre {α : Type} : ∀ (a q x r : List α), x.length = q.length → lput (a ++ (q ++ r)) a.length x = a ++ (x ++ r)
  | [], [], [], r, _ => by rw [lput_nil]
  | [], y :: q, z :: x, r, h => by
    have := lput_pre [] q x r (by simpa using h)
    show z :: lput (q ++ r) 0 x = _
    simp only [List.nil_append, List.length_nil] at this
    rw [this]; rfl
  | [], [], _ :: _, r, h => by simp at h
  | [], _ :: _, [], r, h => by simp at h
  | b :: a, q, x, r, h => by
    show b :: lput (a ++ (q ++ r)) a.length x = _
    rw [lput_pre a q x r h]; rfl
def roomyC (l : List CnA) (c : CnA) : List CnA := l ++ List.replicate 80 c
theorem roomyC_len (l : List CnA) (c : CnA) : (roomyC l c).length = l.length + 80 := by simp [roomyC]
theorem rep_cells (c : CnA) : ∀ n : Nat, rep c.cells n = cellsC (List.replicate n c)
  | 0 => rfl
  | n + 1 => by
    show c.cells ++ rep c.cells n = _
    rw [rep_cells c n]; rfl
theorem roomyc_runs {S : St} {v : AV} {l : List CnA} {c : CnA} (hok : Sok S) (hv : Cs S v l) (hl : l.length ≤ 1000000) (hn : S.n + 2 ≤ 1000000000) :
    Runs X1 9 [v, .agg c.cells] S fun r S' => ∃ p, r = .slice p 0 (l.length + 80) (.ex (l.length + 80)) ∧ S.n ≤ p ∧ Cs S' r (roomyC l c) ∧ Fr S S' .nils 2 := by
  refine Runs_fn (m := 27) (by kernel_rfl) Tryd.func9 rfl (by kernel_rfl) (by kernel_rfl) ?_
  repeat' (
    first
      | refine W_seq ?_
      | refine W_region ?_
      | refine WO_dst rfl rfl (by kernel_rfl) (by kernel_rfl) ?_)
  refine Ev_box rfl hok (by omega) ?_
  intro S0 hn0 hok0 hq0 hf0
  have hv0 := hv.keep (fun c h => hf0 c (hv.lt hok h))
  have hc0 : S0.h.get S.n = some (.cells 24 c.cells false) := hq0
  repeat' (
    first
      | refine W_seq ?_
      | refine WO_nil ?_
      | refine V_seq ?_
      | refine W_region ?_
      | refine WO_dst rfl rfl (by kernel_rfl) (by kernel_rfl) ?_
      | refine Ev_len rfl rfl rfl rfl rfl hv0.len ?_
      | refine Ev_move rfl ?_
      | refine Ev_assign rfl ?_
      | refine Ev_addN rfl rfl (by simp only [lim]; omega) ?_)
  refine Ev_makeSlice rfl rfl rfl rfl rfl (Nat.le_refl _) (by show 64 * (l.length + 80) ≤ _; omega) (by show l.length + 80 ≤ _; omega) rfl hok0 (by omega) ?_
  intro S1 hn1 hok1 hq1 hf1
  have hv1 := hv0.keep (fun c h => hf1 c (hv0.lt hok0 h))
  have hq1' : S1.h.get S0.n = some (.cells 24 (cellsC (List.replicate (l.length + 80) zeroC)) false) := by
    rw [hq1]
    show some (AB.cells 24 (rep zeroC.cells (l.length + 80)) false) = _
    rw [rep_cells]
  repeat (
    first
      | refine W_seq ?_
      | refine WO_nil ?_
      | refine V_seq ?_
      | refine W_region ?_
      | refine WO_dst rfl rfl (by kernel_rfl) (by kernel_rfl) ?_
      | refine Ev_move rfl ?_
      | refine Ev_assign rfl ?_)
  refine Ev_copy rfl rfl rfl rfl rfl rfl rfl hv1 (cellsC_one l) (by omega) hq1' ?_ (by omega) ?_
  · show 0 + (cellsC l).length ≤ _
    rw [cellsC_len, cellsC_len, List.length_replicate]; omega
  intro S2 hn2 hq2 hf2
  have hq3 : S2.h.get S0.n = some (.cells 24 (cellsC (l ++ List.replicate 80 zeroC)) false) := by
    have e1 : cellsC (List.replicate (l.length + 80) zeroC) = cellsC (List.replicate l.length zeroC) ++ cellsC (List.replicate 80 zeroC) := by rw [← cellsC_app, List.replicate_append_replicate]
    have e2 := lput_pre ([] : List AV) (cellsC (List.replicate l.length zeroC)) (cellsC l) (cellsC (List.replicate 80 zeroC)) (by rw [cellsC_len, cellsC_len, List.length_replicate])
    simp only [List.nil_append, List.length_nil] at e2
    rw [hq2, e1, e2, ← cellsC_app]
  have hv2 : slen v = some l.length := hv.len
  repeat' (
    first
      | refine W_seq ?_
      | refine WO_nil ?_
      | refine V_seq ?_
      | refine W_region ?_
      | refine W_block ?_
      | refine WO_dst rfl rfl (by kernel_rfl) (by kernel_rfl) ?_
      | refine Ev_len rfl rfl rfl rfl rfl hv.len ?_
      | refine Ev_move rfl ?_
      | refine Ev_assign rfl ?_)
  refine W_inv (fun j : Nat => [(6, .int .i64 ((l.length + j : Nat) : Int)), (5, .slice S0.n 0 (l.length + 80) (.ex (l.length + 80))), (3, .ptr S.n 0)]) (fun j T => T.n = S2.n ∧ j ≤ 80 ∧ T.h.get S0.n = some (.cells 24 (cellsC (l ++ (List.replicate j c ++ List.replicate (80 - j) zeroC))) false) ∧ ∀ d, d ≠ S0.n → T.h.get d = S2.h.get d) (fun j => 80 - j) ?_ 0 ⟨rfl, Nat.zero_le _, by simpa using hq3, fun _ _ => rfl⟩ ⟨rfl, rfl, rfl, trivial⟩
  rintro j T ⟨hnT, hj, hqT, hfT⟩ back
  have hcT : T.h.get S.n = some (.cells 24 c.cells false) := by rw [hfT S.n (by omega), hf2 S.n (by omega), hf1 S.n (by omega)]; exact hc0
  repeat' (
    first
      | refine W_seq ?_
      | refine WO_nil ?_
      | refine V_seq ?_
      | refine W_region ?_
      | refine W_block ?_
      | refine W_skip ?_
      | refine W_ret ?_
      | refine W_exit ?_
      | refine V_block_x rfl ?_
      | refine V_seq_x ?_
      | refine V_loop_x ?_
      | refine WO_dst rfl rfl (by kernel_rfl) (by kernel_rfl) ?_
      | refine Ev_move rfl ?_
      | refine Ev_assign rfl ?_
      | refine Ev_lssN rfl rfl ?_
      | refine Ev_len rfl rfl rfl rfl rfl rfl ?_
      | (refine W_cond rfl (fun hc => ?_) (fun hc => ?_) <;> (try dsimp only at hc) <;> try (exfalso; first | omega | exact hc rfl)))
  · refine Ev_load_agg rfl rfl rfl hcT (by simp [CnA.cells]) (show (c.cells.drop 0).take 5 = c.cells from rfl) (CnA.veqs c) ?_
    repeat (
      first
        | refine WO_dst rfl rfl (by kernel_rfl) (by kernel_rfl) ?_
        | refine WO_no rfl rfl ?_
        | refine Ev_indexAddr rfl rfl rfl rfl rfl (by first | omega | (dsimp only; done) | (dsimp only; omega)) ?_)
    refine Ev_store rfl rfl rfl rfl (CnA.ones c) hqT ?_ (by omega) ?_
    · show 0 + (l.length + j) * 5 + 5 ≤ _
      rw [cellsC_len]; simp only [List.length_append, List.length_replicate]; omega
    intro T2 gn gq gf
    have hjj : (80 - j) = (80 - (j + 1)) + 1 := by omega
    repeat (
      first
        | refine WO_nil ?_
        | refine V_seq ?_
        | refine W_region ?_
        | refine V_block ?_
        | refine WO_dst rfl rfl (by kernel_rfl) (by kernel_rfl) ?_
        | refine Ev_move rfl ?_
        | refine Ev_assign rfl ?_
        | refine Ev_addN rfl rfl (by simp only [lim]; omega) ?_)
    refine back (j + 1) T2 _ (by omega) ⟨by omega, by omega, ?_, fun d hd => by rw [gf d hd, hfT d hd]⟩ ⟨rfl, rfl, rfl, trivial⟩
    rw [gq]
    show some (AB.cells 24 (lput (cellsC (l ++ (List.replicate j c ++ List.replicate (80 - j) zeroC))) (0 + (l.length + j) * 5) c.cells) false) = _
    have e3 : cellsC (l ++ (List.replicate j c ++ List.replicate (80 - j) zeroC)) = cellsC (l ++ List.replicate j c) ++ (zeroC.cells ++ cellsC (List.replicate (80 - (j + 1)) zeroC)) := by
      rw [hjj, List.replicate_succ, ← List.append_assoc, cellsC_app]; rfl
    have e4 : 0 + (l.length + j) * 5 = (cellsC (l ++ List.replicate j c)).length := by rw [cellsC_len, List.length_append, List.length_replicate]; omega
    rw [e3, e4, lput_pre (cellsC (l ++ List.replicate j c)) zeroC.cells c.cells _ rfl]
    have e5 : cellsC (l ++ (List.replicate (j + 1) c ++ List.replicate (80 - (j + 1)) zeroC)) = cellsC (l ++ List.replicate j c) ++ (c.cells ++ cellsC (List.replicate (80 - (j + 1)) zeroC)) := by
      rw [List.replicate_succ', ← List.append_assoc, ← List.append_assoc, cellsC_app, cellsC_app (l ++ List.replicate j c), List.append_assoc]
      simp [cellsC]
    rw [e5]
  all_goals
    have hj2 : j = 80 := by omega
    subst hj2
    repeat (
      refine W_seq ?_)
    refine V_done rfl rfl ?_
    have hq9 : T.h.get S0.n = some (.cells 24 (cellsC (roomyC l c)) false) := by rw [hqT]; unfold roomyC; rw [Nat.sub_self]; simp
    refine ⟨S0.n, rfl, by omega, ?_, ⟨by omega, by omega, fun d x hc => ?_, fun d _ h => by rw [hfT d (by omega), hf2 d (by omega), hf1 d (by omega), hf0 d h]⟩⟩
    · have hrl := roomyC_len l c
      have h8 := Rd_lit (m := l.length + 80) (sz := 5) (cap := .ex (l.length + 80)) hq9 (by rw [cellsC_len, hrl]; omega) (by simp [capW])
      exact h8.eq rfl hrl.symm
    · by_cases he : d = S0.n
      · omega
      · rw [hfT d he, hf2 d he] at hc
        have := hok1 d x hc; omega
theorem roomyC_at {l : List CnA} {c : CnA} {i : Nat} (h1 : l.length ≤ i) (h2 : i < (roomyC l c).length) : (roomyC l c)[i] = c := by
  have h3 := roomyC_len l c
  have h4 : (roomyC l c)[i]? = some c := by
    unfold roomyC
    rw [List.getElem?_append_right h1, List.getElem?_replicate, if_pos (by omega)]
  exact Option.some.inj ((List.getElem?_eq_getElem h2).symm.trans h4)
theorem intactc_runs {S : St} {v w : AV} {l : List CnA} {c : CnA} (hok : Sok S) (hv : Cs S v (roomyC l c)) (hw : Cs S w l) (hl : l.length ≤ 1000000) (hn : S.n + 1 ≤ 1000000000) :
    Runs X1 22 [v, w, .agg c.cells] S fun r S' => r = .bool true ∧ Fr S S' .nils 1 := by
  have hrl := roomyC_len l c
  refine Runs_fn (m := 37) (by kernel_rfl) Tryd.func22 rfl (by kernel_rfl) (by kernel_rfl) ?_
  repeat' (
    first
      | refine W_seq ?_
      | refine W_region ?_
      | refine WO_dst rfl rfl (by kernel_rfl) (by kernel_rfl) ?_)
  refine Ev_box rfl hok (by omega) ?_
  intro S1 gn1 gok1 gq1 gf1
  have hv1 := hv.keep (fun c h => gf1 c (hv.lt hok h))
  have hw1 := hw.keep (fun c h => gf1 c (hw.lt hok h))
  have hq1 : S1.h.get S.n = some (.cells 24 c.cells false) := gq1
  have hF1 : Fr S S1 .nils 1 := ⟨by omega, by omega, gok1, fun c _ h => gf1 c h⟩
  repeat' (
    first
      | refine W_seq ?_
      | refine WO_nil ?_
      | refine V_seq ?_
      | refine W_region ?_
      | refine WO_dst rfl rfl (by kernel_rfl) (by kernel_rfl) ?_
      | refine WO_guard_t rfl rfl rfl rfl rfl (by kernel_rfl) (by kernel_rfl) ?_
      | refine Ev_len rfl rfl rfl rfl rfl hv1.len ?_
      | refine Ev_len rfl rfl rfl rfl rfl hw1.len ?_
      | refine Ev_move rfl ?_
      | refine Ev_assign rfl ?_
      | refine Ev_neqN rfl rfl ?_
      | refine Ev_addN rfl rfl (by simp only [lim]; omega) ?_
      | (refine WO_guard_df rfl rfl rfl rfl rfl (by kernel_rfl) (by kernel_rfl) (fun hg => ?_) (fun hg => ?_) <;> (try dsimp only at hg) <;> try (exfalso; first | omega | exact hg rfl)))
  refine Ev_slice_hi rfl rfl rfl rfl rfl hv1 (by omega) ?_
  intro v' hv' _
  have hv2 : Cs S1 v' l := by
    refine hv'.eq ?_ rfl
    show (cellsC (roomyC l c)).take (l.length * 5) = _
    rw [cellsC_take]; unfold roomyC; rw [List.take_left]
  repeat (
    first
      | refine WO_dst rfl rfl (by kernel_rfl) (by kernel_rfl) ?_
      | refine WO_guard_t rfl rfl rfl rfl rfl (by kernel_rfl) (by kernel_rfl) ?_
      | refine Ev_move rfl ?_)
  refine Ev_call rfl rfl ((csame_runs hv2 hw1 ⟨by omega, by omega⟩).mono ?_)
  rintro _ S2 - ⟨rfl, hS2⟩
  rw [hS2, decide_eq_true rfl]
  repeat' (
    first
      | refine W_seq ?_
      | refine WO_nil ?_
      | refine V_seq ?_
      | refine W_region ?_
      | refine W_block ?_
      | refine W_skip ?_
      | refine W_cond_f rfl ?_
      | refine WO_dst rfl rfl (by kernel_rfl) (by kernel_rfl) ?_
      | refine WO_guard_t rfl rfl rfl rfl rfl (by kernel_rfl) (by kernel_rfl) ?_
      | refine Ev_len rfl rfl rfl rfl rfl hw1.len ?_
      | refine Ev_move rfl ?_
      | refine Ev_assign rfl ?_
      | refine Ev_pick_f rfl rfl rfl ?_
      | refine Ev_notb rfl ?_)
  refine W_inv (fun i : Nat => [(7, .int .i64 ((i : Nat) : Int)), (0, v), (5, .ptr S.n 0)]) (fun i T => T = S1 ∧ l.length ≤ i ∧ i ≤ l.length + 80) (fun i => l.length + 80 - i) ?_ l.length ⟨rfl, Nat.le_refl _, by omega⟩ ⟨rfl, rfl, rfl, trivial⟩
  rintro i _ ⟨rfl, hi, hi2⟩ back
  rename_i S1
  repeat' (
    first
      | refine W_seq ?_
      | refine WO_nil ?_
      | refine V_seq ?_
      | refine W_region ?_
      | refine W_drawn (by kernel_rfl) ?_
      | refine W_block ?_
      | refine W_skip ?_
      | refine W_ret ?_
      | refine W_exit ?_
      | refine V_block_x rfl ?_
      | refine V_seq_x ?_
      | refine V_loop_x ?_
      | refine WO_dst rfl rfl (by kernel_rfl) (by kernel_rfl) ?_
      | refine Ev_len rfl rfl rfl rfl rfl hv1.len ?_
      | refine Ev_move rfl ?_
      | refine Ev_assign rfl ?_
      | refine Ev_lssN rfl rfl ?_
      | (refine W_cond rfl (fun hc => ?_) (fun hc => ?_) <;> (try dsimp only at hc) <;> try (exfalso; first | omega | exact hc rfl)))
  · have hlt : i < (roomyC l c).length := by assumption
    refine Ev_indexAddr_rd rfl rfl rfl rfl rfl hv1 hlt ?_
    intro q hq
    repeat (
      refine WO_dst rfl rfl (by kernel_rfl) (by kernel_rfl) ?_)
    refine Ev_load_pt_agg rfl rfl rfl hq (by rw [cellsC_len]; dsimp only; omega) (cellsC_get _ i hlt) (CnA.veqs _) ?_
    repeat (
      refine WO_dst rfl rfl (by kernel_rfl) (by kernel_rfl) ?_)
    refine Ev_load_agg rfl rfl rfl hq1 (by simp [CnA.cells]) (show (c.cells.drop 0).take 5 = c.cells from rfl) (CnA.veqs c) ?_
    repeat (
      refine WO_dst rfl rfl (by kernel_rfl) (by kernel_rfl) ?_)
    refine Ev_cneq rfl rfl ?_
    rw [roomyC_at hi hlt, decide_eq_false (fun h => h rfl)]
    repeat' (
      first
        | refine WO_nil ?_
        | refine V_seq ?_
        | refine W_region ?_
        | refine W_skip ?_
        | refine V_block ?_
        | refine W_cond_f rfl ?_
        | refine WO_dst rfl rfl (by kernel_rfl) (by kernel_rfl) ?_
        | refine Ev_move rfl ?_
        | refine Ev_assign rfl ?_
        | refine Ev_addN rfl rfl (by simp only [lim]; omega) ?_)
    exact back (i + 1) S1 _ (by omega) ⟨rfl, by omega, by omega⟩ ⟨rfl, rfl, rfl, trivial⟩
  all_goals
    refine V_done rfl rfl ?_
    exact ⟨rfl, hF1⟩
end Go.Proofs.YthhbnnnokmefoaaDoor
/- mutf.Reader: what its functions do. -/

namespace Go.Proofs.YthhbnnnokmefoaaDoor
open GX
set_option maxHeartbeats 8000000
section
variable {X : X} {l : L} {S : St} {R : AV → St → Prop} {x y : Operand}
open Go
/-- a store of one cell -/
theorem Ev_store1 {t b o : Nat} {i : TI} {ty : Nat} {cs : List AV} {sp : Bool} {v : AV} (hx : od l x = some (.ptr b o)) (hy : od l y = some v) (hc : v.cells = [v]) (h1 : v.one = true) (hi : X.ti t = some i) (hz : Nat.beq 1 i.size = true) (hb : S.h.get b = some (.cells ty cs sp)) (hle : o + 1 ≤ cs.length) (hn : b < 1000000000)
    (hR : ∀ S', S'.n = S.n → S'.h.get b = some (.cells ty (lput cs o [v]) sp) → (∀ c, c ≠ b → S'.h.get c = S.h.get c) → R (.tup []) S') : Ev X l S (.store t x y) R := by
  refine Ev_store hx hy hi (by rw [hc]; exact hz) (by rw [hc]; simp [h1]) hb (by rw [hc]; exact hle) hn ?_
  rw [hc]; exact hR
end
structure RdS where
  pos : Nat
  err : Int
  at_ : Int
/-- a reader -/
structure Rr (S : St) (p : Nat) (vb : AV) (b : List Nat) (r : RdS) : Prop where
  cell : S.h.get p = some (.cells 89 [vb, .int .i64 ((r.pos : Nat) : Int), .int .i64 r.err, .int .i64 r.at_] false)
  rd : Rd S vb 1 (sbytes b) b.length
  ne : blkOf vb ≠ some p
  le : r.pos ≤ b.length
/-- only one block is written to -/
structure FrP (S S' : St) (p : Nat) : Prop where
  n : S'.n = S.n
  ok : Sok S'
  same : ∀ c, c ≠ p → S'.h.get c = S.h.get c
theorem FrP.refl {S : St} {p : Nat} (h : Sok S) : FrP S S p := ⟨rfl, h, fun _ _ => rfl⟩
theorem FrP.trans {S T U : St} {p : Nat} (a : FrP S T p) (b : FrP T U p) : FrP S U p := ⟨b.n.trans a.n, b.ok, fun c h => (b.same c h).trans (a.same c h)⟩
def RdS.refuse (r : RdS) (c a : Int) : RdS := if r.err = 0 ∧ c ≠ 0 then { r with err := c, at_ := a } else r
theorem refuse_runs {S : St} {p : Nat} {vb : AV} {b : List Nat} {r : RdS} {c a : Int} (hok : Sok S) (h : Rr S p vb b r) (hn : S.n ≤ 1000000000) :
    Runs X1 70 [.ptr p 0, .int .i64 c, .int .i64 a] S fun _ S' => Rr S' p vb b (r.refuse c a) ∧ FrP S S' p := by
  have hp : p < S.n := hok _ _ h.cell
  refine Runs_fn (m := 23) (by kernel_rfl) Tryd.func70 rfl (by kernel_rfl) (by kernel_rfl) ?_
  repeat' (
    first
      | refine W_seq ?_
      | refine WO_nil ?_
      | refine V_seq ?_
      | refine W_region ?_
      | refine W_skip ?_
      | refine W_cond_f rfl ?_
      | refine WO_dst rfl rfl (by kernel_rfl) (by kernel_rfl) ?_
      | refine WO_no rfl rfl ?_
      | refine WO_guard_t rfl rfl rfl rfl rfl (by kernel_rfl) (by kernel_rfl) ?_
      | refine WO_guard_f rfl rfl rfl rfl rfl rfl (by kernel_rfl) (by kernel_rfl) ?_
      | refine Ev_load rfl rfl rfl h.cell rfl (veq_int _ _) ?_
      | refine Ev_move rfl ?_
      | refine Ev_pick_t rfl rfl rfl ?_
      | refine Ev_pick_f rfl rfl rfl ?_
      | refine Ev_eql rfl rfl ?_
      | refine Ev_neq rfl rfl ?_
      | refine Ev_nilCheck rfl ?_
      | refine Ev_fieldAddr rfl rfl rfl rfl rfl rfl ?_
      | (refine WO_guard_dt rfl rfl rfl rfl rfl (by kernel_rfl) (by kernel_rfl) (fun hg => ?_) (fun hg => ?_) <;> (try dsimp only at hg) <;> try (exfalso; first | omega | exact hg rfl))
      | (refine W_cond rfl (fun hc => ?_) (fun hc => ?_) <;> (try dsimp only at hc) <;> try (exfalso; first | omega | exact hc rfl)))
  · refine Ev_store1 rfl rfl rfl rfl rfl rfl h.cell (by simp) (by omega) ?_
    intro S1 hn1 hq1 hf1
    repeat (
      first
        | refine WO_dst rfl rfl (by kernel_rfl) (by kernel_rfl) ?_
        | refine WO_no rfl rfl ?_
        | refine Ev_nilCheck rfl ?_
        | refine Ev_fieldAddr rfl rfl rfl rfl rfl rfl ?_)
    refine Ev_store1 rfl rfl rfl rfl rfl rfl hq1 (by simp [lput]) (by omega) ?_
    intro S2 hn2 hq2 hf2
    repeat (
      refine WO_nil ?_)
    refine V_done rfl rfl ?_
    have hok1 := Sok.upd hok hp hn1 hq1 hf1
    have hr : r.refuse c a = { r with err := c, at_ := a } := by unfold RdS.refuse; rw [if_pos ⟨hg, hc⟩]
    refine ⟨⟨by rw [hr]; exact hq2, h.rd.keep (fun d hd => ?_), h.ne, by rw [hr]; exact h.le⟩, ⟨by omega, Sok.upd hok1 (by omega) hn2 hq2 hf2, fun d hd => by rw [hf2 d hd, hf1 d hd]⟩⟩
    have hdp : d ≠ p := fun e => h.ne (by rw [hd, e])
    rw [hf2 d hdp, hf1 d hdp]
  all_goals
    refine V_done rfl rfl ?_
    have hr : r.refuse c a = r := by unfold RdS.refuse; rw [if_neg (by first | exact fun e => hc e.2 | exact fun e => hg e.1 | (intro e; simp_all))]
    rw [hr]; exact ⟨h, FrP.refl hok⟩
/-- what is taken, and the reader behind it -/
def RdS.take (r : RdS) (b : List Nat) (n : Nat) : List Nat × RdS :=
  if r.err ≠ 0 then ([], r) else if b.length - r.pos < n then ([], r.refuse 10 (b.length : Int)) else ((b.drop r.pos).take n, { r with pos := r.pos + n })
theorem take_runs {S : St} {p : Nat} {vb : AV} {b : List Nat} {r : RdS} {n : Nat} (hok : Sok S) (h : Rr S p vb b r) (hn : S.n ≤ 1000000000) (hb : b.length ≤ 1000000000) (hm : n < 9223372036854775808) :
    Runs X1 69 [.ptr p 0, .int .i64 ((n : Nat) : Int)] S fun v S' => Rr S' p vb b (r.take b n).2 ∧ FrP S S' p ∧ Rd S' v 1 (sbytes (r.take b n).1) (r.take b n).1.length ∧ ∀ c, blkOf v = some c → blkOf vb = some c := by
  have hp : p < S.n := hok _ _ h.cell
  have hle := h.le
  refine Runs_fn (m := 54) (by kernel_rfl) Tryd.func69 rfl (by kernel_rfl) (by kernel_rfl) ?_
  repeat' (
    first
      | refine W_seq ?_
      | refine WO_nil ?_
      | refine V_seq ?_
      | refine W_region ?_
      | refine W_drawn (by kernel_rfl) ?_
      | refine W_skip ?_
      | refine W_ret ?_
      | refine V_ret ?_
      | refine WO_dst rfl rfl (by kernel_rfl) (by kernel_rfl) ?_
      | refine Ev_load rfl rfl rfl h.cell rfl (veq_int _ _) ?_
      | refine Ev_load rfl rfl rfl h.cell rfl h.rd.self ?_
      | refine Ev_len rfl rfl rfl rfl rfl h.rd.len ?_
      | refine Ev_move rfl ?_
      | refine Ev_assign rfl ?_
      | refine Ev_gtrN rfl rfl ?_
      | refine Ev_neq rfl rfl ?_
      | refine Ev_nilCheck rfl ?_
      | refine Ev_fieldAddr rfl rfl rfl rfl rfl rfl ?_
      | refine Ev_addN rfl rfl (by simp only [lim]; omega) ?_
      | refine Ev_subN rfl rfl (by simp only [lim]; omega) (by first | omega | (dsimp only; done) | (dsimp only; omega)) ?_
      | (refine W_cond rfl (fun hc => ?_) (fun hc => ?_) <;> (try dsimp only at hc) <;> try (exfalso; first | omega | exact hc rfl)))
  · refine V_done rfl rfl ?_
    have e : r.take b n = ([], r) := by unfold RdS.take; rw [if_pos hc]
    rw [e]
    exact ⟨h, FrP.refl hok, ⟨rfl, rfl, rfl, rfl, rfl, rfl⟩, fun c hc => by cases hc⟩
  · refine Ev_call rfl rfl ((refuse_runs hok h hn).mono ?_)
    rintro _ S1 - ⟨h1, hF1⟩
    repeat (
      first
        | refine W_seq ?_
        | refine WO_nil ?_
        | refine V_seq ?_
        | refine W_region ?_
        | refine W_ret ?_
        | refine V_ret ?_
        | refine WO_dst rfl rfl (by kernel_rfl) (by kernel_rfl) ?_
        | refine Ev_assign rfl ?_)
    refine V_done rfl rfl ?_
    rename_i hc0 _
    have e : r.take b n = ([], r.refuse 10 (b.length : Int)) := by unfold RdS.take; rw [if_neg hc0, if_pos hc]
    rw [e]
    exact ⟨h1, hF1, ⟨rfl, rfl, rfl, rfl, rfl, rfl⟩, fun c hc => by cases hc⟩
  · rename_i hc0
    refine Ev_slice_lh rfl rfl rfl rfl rfl rfl h.rd (by omega) (by omega) ?_
    intro v' hv' hbv
    have e : r.take b n = ((b.drop r.pos).take n, { r with pos := r.pos + n }) := by unfold RdS.take; rw [if_neg hc0, if_neg hc]
    have hv2 : Rd S v' 1 (sbytes ((b.drop r.pos).take n)) ((b.drop r.pos).take n).length := by
      refine hv'.eq ?_ (by simp only [List.length_take, List.length_drop]; omega)
      unfold sbytes
      simp only [Nat.mul_one, List.map_take, List.map_drop, List.drop_take]
      congr 1
      omega
    repeat (
      first
        | refine W_seq ?_
        | refine WO_nil ?_
        | refine V_seq ?_
        | refine W_region ?_
        | refine WO_dst rfl rfl (by kernel_rfl) (by kernel_rfl) ?_
        | refine WO_no rfl rfl ?_
        | refine Ev_load rfl rfl rfl h.cell rfl (veq_int _ _) ?_
        | refine Ev_move rfl ?_
        | refine Ev_assign rfl ?_
        | refine Ev_nilCheck rfl ?_
        | refine Ev_fieldAddr rfl rfl rfl rfl rfl rfl ?_
        | refine Ev_addN rfl rfl (by simp only [lim]; omega) ?_)
    refine Ev_store1 rfl rfl rfl rfl rfl rfl h.cell (by simp) (by omega) ?_
    intro S1 hn1 hq1 hf1
    repeat (
      first
        | refine W_seq ?_
        | refine WO_nil ?_
        | refine V_seq ?_
        | refine W_region ?_
        | refine W_ret ?_
        | refine WO_dst rfl rfl (by kernel_rfl) (by kernel_rfl) ?_
        | refine Ev_move rfl ?_
        | refine Ev_assign rfl ?_)
    refine V_done rfl rfl ?_
    rw [e]
    have hk : ∀ d, blkOf vb = some d → S1.h.get d = S.h.get d := fun d hd => hf1 d (fun e2 => h.ne (by rw [hd, e2]))
    exact ⟨⟨hq1, h.rd.keep hk, h.ne, by dsimp only; omega⟩, ⟨hn1, Sok.upd hok hp hn1 hq1 hf1, hf1⟩, hv2.keep (fun d hd => hk d (hbv d hd)), hbv⟩
end Go.Proofs.YthhbnnnokmefoaaDoor
/- mutf.Reader.Number and the like. -/

namespace Go.Proofs.YthhbnnnokmefoaaDoor
open GX
set_option maxHeartbeats 8000000
/-- the number that bytes stand for -/
def numOf (l : List Nat) : Nat := l.foldl (fun a x => a * 256 + x) 0
theorem numOf_snoc (l : List Nat) (x : Nat) : numOf (l ++ [x]) = numOf l * 256 + x := by unfold numOf; rw [List.foldl_append]; rfl
theorem numOf_take {l : List Nat} {i : Nat} (h : i < l.length) : numOf (l.take (i + 1)) = numOf (l.take i) * 256 + l.getD i 0 := by
  rw [List.take_add_one, List.getElem?_eq_getElem h]
  rw [show (some l[i]).toList = [l[i]] from rfl, numOf_snoc]
  congr 1
  rw [List.getD_eq_getElem?_getD, List.getElem?_eq_getElem h]; rfl
theorem numOf_lt : ∀ (n : Nat) (l : List Nat), l.length = n → (∀ b ∈ l, b < 256) → numOf l < 256 ^ n := by
  intro n
  induction n with
  | zero => intro l hl _; cases List.eq_nil_of_length_eq_zero hl; decide
  | succ n ih =>
    intro l hl hb
    have hne : l ≠ [] := by intro h; rw [h] at hl; cases hl
    have e := List.dropLast_concat_getLast hne
    have h1 := ih l.dropLast (by rw [List.length_dropLast]; omega) (fun b h => hb b (List.dropLast_subset l h))
    have h2 := hb _ (List.getLast_mem hne)
    rw [← e, numOf_snoc, Nat.pow_succ]
    omega
def numV (l : List Nat) : Int := wrp .i64 ((numOf l : Nat) : Int)
theorem take_len (r : RdS) (b : List Nat) (n : Nat) : (r.take b n).1.length ≤ n := by unfold RdS.take; split; simp; split; simp; simp [List.length_take]; omega
theorem take_lt {r : RdS} {b : List Nat} {n : Nat} (h : ∀ x ∈ b, x < 256) : ∀ x ∈ (r.take b n).1, x < 256 := by
  unfold RdS.take
  split
  · simp
  · split
    · simp
    · exact fun x hx => h x (List.mem_of_mem_drop (List.mem_of_mem_take hx))
theorem rnum_runs {S : St} {p : Nat} {vb : AV} {b : List Nat} {r : RdS} {n : Int} (hok : Sok S) (h : Rr S p vb b r) (hn : S.n ≤ 1000000000) (hb : b.length ≤ 1000000000) (hlt : ∀ x ∈ b, x < 256) :
    Runs X1 52 [.ptr p 0, .int .i64 n] S fun v S' => v = .int .i64 (numV (r.take b (sizeN n)).1) ∧ Rr S' p vb b (r.take b (sizeN n)).2 ∧ FrP S S' p := by
  have hsz := sizeN_le n
  refine Runs_fn (m := 25) (by kernel_rfl) Tryd.func52 rfl (by kernel_rfl) (by kernel_rfl) ?_
  repeat (
    first
      | refine W_seq ?_
      | refine WO_nil ?_
      | refine V_seq ?_
      | refine W_region ?_
      | refine WO_dst rfl rfl (by kernel_rfl) (by kernel_rfl) ?_
      | refine Ev_move rfl ?_
      | refine Ev_assign rfl ?_)
  refine Ev_call rfl rfl ((size_runs n S).mono ?_)
  rintro _ _ - ⟨rfl, rfl⟩
  repeat (
    refine WO_dst rfl rfl (by kernel_rfl) (by kernel_rfl) ?_)
  refine Ev_call rfl rfl ((take_runs hok h hn hb (by omega)).mono ?_)
  rintro v S1 - ⟨h1, hF1, hv, hbv⟩
  obtain ⟨t, ht⟩ : ∃ t, t = (r.take b (sizeN n)).1 := ⟨_, rfl⟩
  rw [← ht] at hv ⊢
  have htl : t.length ≤ sizeN n := by rw [ht]; exact take_len _ _ _
  have htb : ∀ x ∈ t, x < 256 := by rw [ht]; exact take_lt hlt
  repeat (
    first
      | refine WO_nil ?_
      | refine V_seq ?_
      | refine W_block ?_
      | refine WO_dst rfl rfl (by kernel_rfl) (by kernel_rfl) ?_
      | refine Ev_len rfl rfl rfl rfl rfl hv.len ?_
      | refine Ev_move rfl ?_)
  refine W_inv (fun i : Nat => [(13, .int .i64 ((i : Nat) : Int)), (12, .int .i64 ((t.length : Nat) : Int)), (11, v), (5, .int .u64 ((numOf (t.take i) : Nat) : Int))]) (fun i T => T = S1 ∧ i ≤ t.length) (fun i => t.length - i) ?_ 0 ⟨rfl, Nat.zero_le _⟩ ⟨rfl, rfl, rfl, rfl, trivial⟩
  rintro i T ⟨rfl, hi⟩ back
  have hacc := numOf_lt i (t.take i) (by rw [List.length_take]; omega) (fun x hx => htb x (List.mem_of_mem_take hx))
  have h7 : i < t.length → numOf (t.take i) < 72057594037927936 := fun h => Nat.lt_of_lt_of_le hacc (Nat.pow_le_pow_right (n := 256) (by omega) (show i ≤ 7 by omega))
  have hx : i < t.length → t.getD i 0 < 256 := fun h => by
    rw [List.getD_eq_getElem?_getD, List.getElem?_eq_getElem h]
    exact htb _ (List.getElem_mem h)
  have hsn := fun h => numOf_take (l := t) (i := i) h
  repeat' (
    first
      | refine W_seq ?_
      | refine WO_nil ?_
      | refine V_seq ?_
      | refine W_region ?_
      | refine W_block ?_
      | refine W_skip ?_
      | refine W_exit ?_
      | refine V_block ?_
      | refine V_block_x rfl ?_
      | refine V_seq_x ?_
      | refine V_loop_x ?_
      | refine WO_dst rfl rfl (by kernel_rfl) (by kernel_rfl) ?_
      | (refine Ev_indexAddr_rd rfl rfl rfl rfl rfl hv (by first | omega | (dsimp only; omega)) ?_; intro q hq)
      | refine Ev_load_pt rfl rfl rfl hq (by dsimp only; rw [Nat.mul_one]; exact sbytes_get (by first | omega | (dsimp only; omega))) (veq_int _ _) ?_
      | refine Ev_orN 8 rfl rfl rfl (by first | omega | (dsimp only; omega)) (by first | omega | (dsimp only; omega)) (by simp only [lim]; omega) ?_
      | refine Ev_move rfl ?_
      | refine Ev_assign rfl ?_
      | refine Ev_lssN rfl rfl ?_
      | refine Ev_addN rfl rfl (by simp only [lim]; omega) ?_
      | refine Ev_shlN (m := 8) (q := 256) rfl rfl rfl rfl (by simp only [lim]; omega) ?_
      | refine Ev_convN rfl rfl rfl rfl rfl (by simp only [lim]; omega) ?_
      | (refine W_cond rfl (fun hc => ?_) (fun hc => ?_) <;> (try dsimp only at hc) <;> try (exfalso; first | omega | exact hc rfl)))
  · refine back (i + 1) T _ (by omega) ⟨rfl, by omega⟩ ⟨rfl, rfl, rfl, ?_, trivial⟩
    show some (AV.int .u64 ((numOf (List.take i t) * 256 + t.getD i 0 : Nat) : Int)) = some (AV.int .u64 ((numOf (List.take (i + 1) t) : Nat) : Int))
    rw [hsn (by omega)]
  all_goals
    have hi2 : i = t.length := by omega
    subst hi2
    repeat (
      first
        | refine WO_nil ?_
        | refine V_seq ?_
        | refine W_ret ?_
        | refine WO_dst rfl rfl (by kernel_rfl) (by kernel_rfl) ?_
        | refine Ev_convw (k' := .i64) rfl rfl rfl rfl rfl ?_
        | refine Ev_assign rfl ?_)
    refine V_done rfl rfl ?_
    refine ⟨?_, h1, hF1⟩
    show AV.int .i64 (wrp .i64 ((numOf (t.take t.length) : Nat) : Int)) = AV.int .i64 (numV t)
    rw [List.take_length]; rfl
end Go.Proofs.YthhbnnnokmefoaaDoor
/- mutf.Reader's other functions. -/


namespace Go.Proofs.YthhbnnnokmefoaaDoor
open GX
set_option maxHeartbeats 8000000
theorem fail_runs {S : St} {p : Nat} {vb : AV} {b : List Nat} {r : RdS} {c : Int} (hok : Sok S) (h : Rr S p vb b r) (hn : S.n ≤ 1000000000) :
    Runs X1 53 [.ptr p 0, .int .i64 c] S fun _ S' => Rr S' p vb b (r.refuse c (r.pos : Int)) ∧ FrP S S' p := by
  refine Runs_fn (m := 11) (by kernel_rfl) Tryd.func53 rfl (by kernel_rfl) (by kernel_rfl) ?_
  repeat (
    first
      | refine W_region ?_
      | refine WO_dst rfl rfl (by kernel_rfl) (by kernel_rfl) ?_
      | refine Ev_load rfl rfl rfl h.cell rfl (veq_int _ _) ?_
      | refine Ev_move rfl ?_
      | refine Ev_nilCheck rfl ?_
      | refine Ev_fieldAddr rfl rfl rfl rfl rfl rfl ?_)
  refine Ev_call rfl rfl ((refuse_runs hok h hn).mono ?_)
  rintro _ S1 - ⟨h1, hF1⟩
  repeat (
    refine WO_nil ?_)
  refine V_done rfl rfl ?_
  exact ⟨h1, hF1⟩
/-- what the end says -/
def RdS.endOf (r : RdS) (b : List Nat) : Int × Int := if r.err ≠ 0 then (r.err, r.at_) else if r.pos < b.length then (11, (r.pos : Int)) else (0, 0)
theorem end_runs {S : St} {p : Nat} {vb : AV} {b : List Nat} {r : RdS} (h : Rr S p vb b r) :
    Runs X1 31 [.ptr p 0] S fun v S' => S' = S ∧ v = .tup [.int .i64 (r.endOf b).1, .int .i64 (r.endOf b).2] := by
  refine Runs_fn (m := 33) (by kernel_rfl) Tryd.func31 rfl (by kernel_rfl) (by kernel_rfl) ?_
  repeat' (
    first
      | refine W_seq ?_
      | refine WO_nil ?_
      | refine V_seq ?_
      | refine W_region ?_
      | refine W_drawn (by kernel_rfl) ?_
      | refine W_block ?_
      | refine W_skip ?_
      | refine W_ret ?_
      | refine V_ret ?_
      | refine V_block ?_
      | refine WO_dst rfl rfl (by kernel_rfl) (by kernel_rfl) ?_
      | refine Ev_load rfl rfl rfl h.cell rfl (veq_int _ _) ?_
      | refine Ev_load rfl rfl rfl h.cell rfl h.rd.self ?_
      | refine Ev_len rfl rfl rfl rfl rfl h.rd.len ?_
      | refine Ev_move rfl ?_
      | refine Ev_assign rfl ?_
      | refine Ev_lssN rfl rfl ?_
      | refine Ev_neq rfl rfl ?_
      | refine Ev_nilCheck rfl ?_
      | refine Ev_fieldAddr rfl rfl rfl rfl rfl rfl ?_
      | (refine W_cond rfl (fun hc => ?_) (fun hc => ?_) <;> (try dsimp only at hc) <;> try (exfalso; first | omega | exact hc rfl)))
  · refine V_done rfl rfl ?_
    refine ⟨rfl, ?_⟩
    unfold RdS.endOf; rw [if_pos (by assumption)]; rfl
  · refine V_done rfl rfl ?_
    refine ⟨rfl, ?_⟩
    unfold RdS.endOf; rw [if_neg (by assumption), if_pos (by assumption)]; rfl
  · refine V_done rfl rfl ?_
    refine ⟨rfl, ?_⟩
    unfold RdS.endOf; rw [if_neg (by assumption), if_neg (by assumption)]; rfl
def RdS.left (r : RdS) (b : List Nat) : Nat := if r.err ≠ 0 then 0 else b.length - r.pos
theorem left_runs {S : St} {p : Nat} {vb : AV} {b : List Nat} {r : RdS} (hb : b.length ≤ 1000000000) (h : Rr S p vb b r) :
    Runs X1 34 [.ptr p 0] S fun v S' => S' = S ∧ v = .int .i64 ((r.left b : Nat) : Int) := by
  have hle := h.le
  refine Runs_fn (m := 18) (by kernel_rfl) Tryd.func34 rfl (by kernel_rfl) (by kernel_rfl) ?_
  repeat' (
    first
      | refine W_seq ?_
      | refine WO_nil ?_
      | refine V_seq ?_
      | refine W_region ?_
      | refine W_drawn (by kernel_rfl) ?_
      | refine W_skip ?_
      | refine W_ret ?_
      | refine V_ret ?_
      | refine WO_dst rfl rfl (by kernel_rfl) (by kernel_rfl) ?_
      | refine Ev_load rfl rfl rfl h.cell rfl (veq_int _ _) ?_
      | refine Ev_load rfl rfl rfl h.cell rfl h.rd.self ?_
      | refine Ev_len rfl rfl rfl rfl rfl h.rd.len ?_
      | refine Ev_move rfl ?_
      | refine Ev_assign rfl ?_
      | refine Ev_neq rfl rfl ?_
      | refine Ev_nilCheck rfl ?_
      | refine Ev_fieldAddr rfl rfl rfl rfl rfl rfl ?_
      | refine Ev_subN rfl rfl (by simp only [lim]; omega) (by first | omega | (dsimp only; done) | (dsimp only; omega)) ?_
      | (refine W_cond rfl (fun hc => ?_) (fun hc => ?_) <;> (try dsimp only at hc) <;> try (exfalso; first | omega | exact hc rfl)))
  · refine V_done rfl rfl ?_
    refine ⟨rfl, ?_⟩
    unfold RdS.left; rw [if_pos (by assumption)]; rfl
  · refine V_done rfl rfl ?_
    refine ⟨rfl, ?_⟩
    unfold RdS.left; rw [if_neg (by assumption)]; rfl
end Go.Proofs.YthhbnnnokmefoaaDoor
/- mutf.Reader.Text, NewReader. -/

namespace Go.Proofs.YthhbnnnokmefoaaDoor
open GX
set_option maxHeartbeats 8000000
/-- one block is written to, others are made -/
structure FrQ (S S' : St) (p k : Nat) : Prop where
  le : S.n ≤ S'.n
  n : S'.n ≤ S.n + k
  ok : Sok S'
  same : ∀ c, c ≠ p → c < S.n → S'.h.get c = S.h.get c
theorem FrP.q {S S' : St} {p : Nat} (a : FrP S S' p) : FrQ S S' p 0 := ⟨Nat.le_of_eq a.n.symm, Nat.le_of_eq a.n, a.ok, fun c h _ => a.same c h⟩
theorem Fr.q {S S' : St} {p k : Nat} (a : Fr S S' .nils k) : FrQ S S' p k := ⟨a.le, a.n, a.ok, fun c _ h => a.same c (by simp [blkOf]) h⟩
theorem FrQ.trans {S T U : St} {p k k' : Nat} (a : FrQ S T p k) (b : FrQ T U p k') : FrQ S U p (k + k') := by
  refine ⟨Nat.le_trans a.le b.le, by have := a.n; have := b.n; omega, b.ok, fun c h1 h2 => ?_⟩
  have := a.le
  rw [b.same c h1 (by omega), a.same c h1 h2]
theorem Rr.fr {S S' : St} {p : Nat} {vb : AV} {b : List Nat} {r : RdS} {k : Nat} (h : Rr S p vb b r) (hok : Sok S) (a : Fr S S' .nils k) : Rr S' p vb b r :=
  ⟨by rw [a.same p (by simp [blkOf]) (hok _ _ h.cell)]; exact h.cell, h.rd.keep (fun c hc => a.same c (by simp [blkOf]) (h.rd.lt hok hc)), h.ne, h.le⟩
theorem numV_small {l : List Nat} (h : numOf l < 65536) : numV l = ((numOf l : Nat) : Int) := by
  unfold numV
  exact wrp_in (by simp only [inR]; omega)
theorem refuse_err {r : RdS} {c a : Int} (hc : c ≠ 0) : (r.refuse c a).err ≠ 0 := by
  unfold RdS.refuse; split
  · exact hc
  · rename_i h; exact fun e => h ⟨e, hc⟩
theorem take_err {r : RdS} {b : List Nat} {n : Nat} (h : r.err ≠ 0) : r.take b n = ([], r) := by unfold RdS.take; rw [if_pos h]
noncomputable def RdS.text (r : RdS) (b : List Nat) : List Nat × RdS :=
  let x := r.take b 2
  let r2 := if 256 < numOf x.1 then x.2.refuse 3 (x.2.pos : Int) else x.2
  let y := r2.take b (numOf x.1)
  ((decS y.1).getD [], y.2.refuse (if (decS y.1).isSome = true then 0 else 12) (y.2.pos : Int))
theorem rdtext_runs {S : St} {p : Nat} {vb : AV} {b : List Nat} {r : RdS} (hok : Sok S) (h : Rr S p vb b r) (hb : b.length ≤ 1000000000) (hn : S.n ≤ 900000000) (hlt : ∀ x ∈ b, x < 256) :
    Runs X1 54 [.ptr p 0] S fun v S' => v = .str (r.text b).1 ∧ Rr S' p vb b (r.text b).2 ∧ FrQ S S' p 2000 := by
  refine Runs_fn (m := 31) (by kernel_rfl) Tryd.func54 rfl (by kernel_rfl) (by kernel_rfl) ?_
  repeat (
    first
      | refine W_seq ?_
      | refine WO_nil ?_
      | refine V_seq ?_
      | refine W_region ?_
      | refine WO_dst rfl rfl (by kernel_rfl) (by kernel_rfl) ?_
      | refine Ev_move rfl ?_
      | refine Ev_assign rfl ?_)
  refine Ev_call rfl rfl ((rnum_runs hok h (by omega) (by omega) hlt).mono ?_)
  rintro _ S1 - ⟨rfl, h1, hF1⟩
  rw [size2] at h1 ⊢
  have hx2 := take_len r b 2
  have hxb := take_lt (r := r) (n := 2) hlt
  have hnl := numOf_lt _ _ rfl hxb
  have hpw : 256 ^ (r.take b 2).1.length ≤ 65536 := Nat.pow_le_pow_right (n := 256) (by omega) hx2
  rw [numV_small (by omega)]
  obtain ⟨m, hm⟩ : ∃ m, m = numOf (r.take b 2).1 := ⟨_, rfl⟩
  obtain ⟨r1, hr1⟩ : ∃ r1, r1 = (r.take b 2).2 := ⟨_, rfl⟩
  rw [← hm] at hnl ⊢
  rw [← hr1] at h1
  have hn1 := hF1.n
  repeat' (
    first
      | refine W_seq ?_
      | refine WO_nil ?_
      | refine V_seq ?_
      | refine W_region ?_
      | refine W_skip ?_
      | refine WO_dst rfl rfl (by kernel_rfl) (by kernel_rfl) ?_
      | refine Ev_load rfl rfl rfl h1.cell rfl (veq_int _ _) ?_
      | refine Ev_move rfl ?_
      | refine Ev_assign rfl ?_
      | refine Ev_gtrN rfl rfl ?_
      | refine Ev_nilCheck rfl ?_
      | refine Ev_fieldAddr rfl rfl rfl rfl rfl rfl ?_
      | (refine W_cond rfl (fun hc => ?_) (fun hc => ?_) <;> (try dsimp only at hc) <;> try (exfalso; first | omega | exact hc rfl)))
  · refine Ev_call rfl rfl ((refuse_runs hF1.ok h1 (by omega)).mono ?_)
    rintro _ S2 - ⟨h2, hF2⟩
    have hn2 := hF2.n
    repeat (
      first
        | refine W_seq ?_
        | refine WO_nil ?_
        | refine V_seq ?_
        | refine W_region ?_
        | refine WO_dst rfl rfl (by kernel_rfl) (by kernel_rfl) ?_
        | refine Ev_move rfl ?_)
    refine Ev_call rfl rfl ((take_runs hF2.ok h2 (by omega) (by omega) (by omega)).mono ?_)
    rintro v S3 - ⟨h3, hF3, hv3, -⟩
    obtain ⟨u, hu⟩ : ∃ u, u = (RdS.take (r1.refuse 3 (r1.pos : Int)) b m).1 := ⟨_, rfl⟩
    obtain ⟨r3, hr3⟩ : ∃ r3, r3 = (RdS.take (r1.refuse 3 (r1.pos : Int)) b m).2 := ⟨_, rfl⟩
    rw [← hu] at hv3
    rw [← hr3] at h3
    have hul : u.length ≤ 256 := by rw [hu, take_err (refuse_err (by decide))]; simp
    have hub : ∀ x ∈ u, x < 256 := by rw [hu]; exact take_lt hlt
    have hn3 := hF3.n
    repeat (
      refine WO_dst rfl rfl (by kernel_rfl) (by kernel_rfl) ?_)
    refine Ev_call rfl rfl ((dec_runs hF3.ok hv3 hub (by omega) (by omega)).mono ?_)
    rintro _ S4 - ⟨hF4, rfl⟩
    have h4 := h3.fr hF3.ok hF4
    have hn4 := hF4.n
    repeat (
      first
        | refine W_seq ?_
        | refine WO_nil ?_
        | refine V_seq ?_
        | refine W_region ?_
        | refine WO_dst rfl rfl (by kernel_rfl) (by kernel_rfl) ?_
        | refine Ev_load rfl rfl rfl h4.cell rfl (veq_int _ _) ?_
        | refine Ev_move rfl ?_
        | refine Ev_assign rfl ?_
        | refine Ev_extract rfl rfl ?_
        | refine Ev_nilCheck rfl ?_
        | refine Ev_fieldAddr rfl rfl rfl rfl rfl rfl ?_)
    refine Ev_call rfl rfl ((refuse_runs hF4.ok h4 (by omega)).mono ?_)
    rintro _ S5 - ⟨h5, hF5⟩
    repeat (
      first
        | refine W_seq ?_
        | refine WO_nil ?_
        | refine V_seq ?_
        | refine W_region ?_
        | refine W_ret ?_
        | refine WO_dst rfl rfl (by kernel_rfl) (by kernel_rfl) ?_
        | refine Ev_move rfl ?_
        | refine Ev_assign rfl ?_)
    refine V_done rfl rfl ?_
    have e : r.text b = ((decS u).getD [], r3.refuse (if (decS u).isSome = true then 0 else 12) (r3.pos : Int)) := by
      unfold RdS.text; dsimp only; rw [← hm, ← hr1, if_pos hc, ← hu, ← hr3]
    rw [e]
    have hq := (((hF1.trans hF2).trans hF3).q.trans hF4.q).trans hF5.q
    exact ⟨rfl, h5, ⟨hq.le, by have := hq.n; omega, hq.ok, hq.same⟩⟩
  · skip
    refine Ev_call rfl rfl ((take_runs hF1.ok h1 (by omega) (by omega) (by omega)).mono ?_)
    rintro v S3 - ⟨h3, hF3, hv3, -⟩
    obtain ⟨u, hu⟩ : ∃ u, u = (RdS.take r1 b m).1 := ⟨_, rfl⟩
    obtain ⟨r3, hr3⟩ : ∃ r3, r3 = (RdS.take r1 b m).2 := ⟨_, rfl⟩
    rw [← hu] at hv3
    rw [← hr3] at h3
    have hul : u.length ≤ 256 := by have := take_len r1 b m; rw [← hu] at this; omega
    have hub : ∀ x ∈ u, x < 256 := by rw [hu]; exact take_lt hlt
    have hn3 := hF3.n
    repeat (
      refine WO_dst rfl rfl (by kernel_rfl) (by kernel_rfl) ?_)
    refine Ev_call rfl rfl ((dec_runs hF3.ok hv3 hub (by omega) (by omega)).mono ?_)
    rintro _ S4 - ⟨hF4, rfl⟩
    have h4 := h3.fr hF3.ok hF4
    have hn4 := hF4.n
    repeat (
      first
        | refine W_seq ?_
        | refine WO_nil ?_
        | refine V_seq ?_
        | refine W_region ?_
        | refine WO_dst rfl rfl (by kernel_rfl) (by kernel_rfl) ?_
        | refine Ev_load rfl rfl rfl h4.cell rfl (veq_int _ _) ?_
        | refine Ev_move rfl ?_
        | refine Ev_assign rfl ?_
        | refine Ev_extract rfl rfl ?_
        | refine Ev_nilCheck rfl ?_
        | refine Ev_fieldAddr rfl rfl rfl rfl rfl rfl ?_)
    refine Ev_call rfl rfl ((refuse_runs hF4.ok h4 (by omega)).mono ?_)
    rintro _ S5 - ⟨h5, hF5⟩
    repeat (
      first
        | refine W_seq ?_
        | refine WO_nil ?_
        | refine V_seq ?_
        | refine W_region ?_
        | refine W_ret ?_
        | refine WO_dst rfl rfl (by kernel_rfl) (by kernel_rfl) ?_
        | refine Ev_move rfl ?_
        | refine Ev_assign rfl ?_)
    refine V_done rfl rfl ?_
    have e : r.text b = ((decS u).getD [], r3.refuse (if (decS u).isSome = true then 0 else 12) (r3.pos : Int)) := by
      unfold RdS.text; dsimp only; rw [← hm, ← hr1, if_neg hc, ← hu, ← hr3]
    rw [e]
    have hq := ((hF1.trans hF3).q.trans hF4.q).trans hF5.q
    exact ⟨rfl, h5, ⟨hq.le, by have := hq.n; omega, hq.ok, hq.same⟩⟩
end Go.Proofs.YthhbnnnokmefoaaDoor
/- caraferef1.unit: a number that begins at a place. -/

namespace Go.Proofs.YthhbnnnokmefoaaDoor
open GX
set_option maxHeartbeats 8000000
def uL (l : List Nat) : Nat × Nat :=
  if 0 < l.getD 0 0 ∧ l.getD 0 0 < 128 then (l.getD 0 0, 1)
  else if l.getD 0 0 / 32 = 6 then
    (if 2 ≤ l.length ∧ l.getD 1 0 / 64 = 2 then (l.getD 0 0 % 32 * 64 + l.getD 1 0 % 64, 2) else (0, 0))
  else if l.getD 0 0 / 16 = 14 then
    (if 3 ≤ l.length ∧ l.getD 1 0 / 64 = 2 ∧ l.getD 2 0 / 64 = 2 then ((l.getD 0 0 % 16 * 64 + l.getD 1 0 % 64) * 64 + l.getD 2 0 % 64, 3) else (0, 0))
  else (0, 0)
theorem getD_drop {l : List Nat} {k i : Nat} : (l.drop k).getD i 0 = l.getD (k + i) 0 := by
  rw [List.getD_eq_getElem?_getD, List.getD_eq_getElem?_getD, List.getElem?_drop]
theorem runit_runs {S : St} {v : AV} {l : List Nat} {k : Nat} (hv : Br S v l) (hb : ∀ c ∈ l, c < 256) (hk : k < l.length) (hl : l.length ≤ 1000000000) :
    Runs X1 85 [v, .int .i64 (k : Int)] S fun r S' => S' = S ∧ r = .tup [.int .i64 (((uL (l.drop k)).1 : Nat) : Int), .int .i64 (((uL (l.drop k)).2 : Nat) : Int)] := by
  have hx : ∀ i, i < l.length → (sbytes l)[i * 1]? = some (.int .u8 ((l.getD i 0 : Nat) : Int)) := by
    intro i hi
    rw [Nat.mul_one, sbytes_get hi]
  have h0 : (l.drop k).getD 0 0 = l.getD k 0 := getD_drop
  have h1 : (l.drop k).getD 1 0 = l.getD (k + 1) 0 := getD_drop
  have h2 : (l.drop k).getD 2 0 = l.getD (k + 2) 0 := getD_drop
  have hdl : (l.drop k).length = l.length - k := List.length_drop ..
  have g0 : l.getD k 0 < 256 := getD_lt hb (by omega)
  have g1 : l.getD (k + 1) 0 < 256 := getD_lt hb (by omega)
  have g2 : l.getD (k + 2) 0 < 256 := getD_lt hb (by omega)
  refine Runs_fn (m := 67) (by kernel_rfl) Tryd.func85 rfl (by kernel_rfl) (by kernel_rfl) ?_
  repeat' (
    first
      | refine W_seq ?_
      | refine WO_nil ?_
      | refine V_seq ?_
      | refine W_region ?_
      | refine W_block ?_
      | refine W_skip ?_
      | refine W_ret ?_
      | refine W_exit ?_
      | refine V_ret ?_
      | refine V_block ?_
      | refine V_block_x rfl ?_
      | refine V_seq_x ?_
      | refine V_loop_x ?_
      | refine W_cond_t rfl ?_
      | refine W_cond_f rfl ?_
      | refine WO_dst rfl rfl (by kernel_rfl) (by kernel_rfl) ?_
      | refine WO_guard_t rfl rfl rfl rfl rfl (by kernel_rfl) (by kernel_rfl) ?_
      | refine WO_guard_f rfl rfl rfl rfl rfl rfl (by kernel_rfl) (by kernel_rfl) ?_
      | refine Ev_len rfl rfl rfl rfl rfl hv.len ?_
      | (refine Ev_indexAddr_rd rfl rfl rfl rfl rfl hv (by first | omega | (dsimp only; omega)) ?_; intro p hp)
      | refine Ev_load_pt rfl rfl rfl hp (hx _ (by first | omega | (dsimp only; omega))) (veq_int _ _) ?_
      | refine W_loop ?_
      | refine V_loop ?_
      | refine Ev_move rfl ?_
      | refine Ev_assign rfl ?_
      | refine Ev_pick_t rfl rfl rfl ?_
      | refine Ev_pick_f rfl rfl rfl ?_
      | refine Ev_lssN rfl rfl ?_
      | refine Ev_gtrN rfl rfl ?_
      | refine Ev_eqlN rfl rfl ?_
      | refine Ev_neqN rfl rfl ?_
      | refine Ev_addN rfl rfl (by simp only [lim]; omega) ?_
      | refine Ev_shrN (m := 6) (q := 64) rfl rfl rfl rfl ?_
      | refine Ev_shrN (m := 4) (q := 16) rfl rfl rfl rfl ?_
      | refine Ev_shrN (m := 5) (q := 32) rfl rfl rfl rfl ?_
      | refine Ev_shlN (m := 6) (q := 64) rfl rfl rfl rfl (by simp only [lim]; omega) ?_
      | refine Ev_andN 4 16 rfl rfl rfl rfl (by simp only [lim]; omega) (by simp only [lim]; omega) ?_
      | refine Ev_andN 5 32 rfl rfl rfl rfl (by simp only [lim]; omega) (by simp only [lim]; omega) ?_
      | refine Ev_andN 6 64 rfl rfl rfl rfl (by simp only [lim]; omega) (by simp only [lim]; omega) ?_
      | refine Ev_orN 6 rfl rfl rfl (by first | omega | (dsimp only; done) | (dsimp only; omega)) (by first | omega | (dsimp only; done) | (dsimp only; omega)) (by simp only [lim]; omega) ?_
      | refine Ev_convN rfl rfl rfl rfl rfl (by simp only [lim]; omega) ?_
      | (refine WO_guard_dt rfl rfl rfl rfl rfl (by kernel_rfl) (by kernel_rfl) (fun hg => ?_) (fun hg => ?_) <;> (try dsimp only at hg) <;> try (exfalso; first | omega | exact hg rfl))
      | (refine W_cond rfl (fun hc => ?_) (fun hc => ?_) <;> (try dsimp only at hc) <;> try (exfalso; first | omega | exact hc rfl)))
  all_goals
    refine V_done rfl rfl ?_
    refine ⟨rfl, ?_⟩
    try simp only [show k + (1 + 1) = k + 2 from rfl] at *
    unfold uL
    rw [h0, h1, h2, hdl]
    (repeat' split) <;> first | rfl | (exfalso; omega)
end Go.Proofs.YthhbnnnokmefoaaDoor
/- caraferef1.Decode: what it answers. -/


namespace Go.Proofs.YthhbnnnokmefoaaDoor
open GX
set_option maxHeartbeats 8000000
theorem uL_le {l : List Nat} (h : l ≠ []) : (uL l).2 ≤ l.length := by
  have : 0 < l.length := List.length_pos_iff.2 h
  unfold uL; (repeat' split) <;> dsimp only <;> omega
theorem uL_lt {l : List Nat} (h : ∀ c ∈ l, c < 256) : (uL l).1 < 65536 := by
  have h0 : l.getD 0 0 < 256 := getD_lt h (by omega)
  unfold uL; (repeat' split) <;> dsimp only <;> omega
def rl (l : List Nat) (h : Option Nat) : Option (List Nat) :=
  if _h : l = [] then (if h.isSome = true then none else some [])
  else if _h0 : (uL l).2 = 0 then none
  else if 56320 ≤ (uL l).1 ∧ (uL l).1 < 57344 ∧ h.isSome = true then (rl (l.drop (uL l).2) none).map (runeL (65536 + (h.getD 0 - 55296) * 1024 + ((uL l).1 - 56320)) ++ ·)
  else if h.isSome = true ∨ (56320 ≤ (uL l).1 ∧ (uL l).1 < 57344) then none
  else if 55296 ≤ (uL l).1 ∧ (uL l).1 < 56320 then rl (l.drop (uL l).2) (some (uL l).1)
  else (rl (l.drop (uL l).2) none).map (runeL (uL l).1 ++ ·)
termination_by l.length
decreasing_by
  all_goals
    have : 0 < l.length := List.length_pos_iff.2 _h
    simp only [List.length_drop]
    omega
theorem u_unit {r : Nat} (h : r < 65536) (t : List Nat) : uL (unitL r ++ t) = (r, (unitL r).length) := by
  unfold unitL
  split
  · rename_i h1
    show uL (r :: t) = _
    unfold uL
    rw [if_pos (by simp; omega)]; rfl
  · split
    · rename_i h1 h2
      show uL ((192 + r / 64) :: (128 + r % 64) :: t) = _
      unfold uL
      rw [if_neg (by simp; omega), if_pos (by simp; omega), if_pos (by simp; omega)]
      simp; omega
    · show uL ((224 + r / 4096) :: (128 + r / 64 % 64) :: (128 + r % 64) :: t) = _
      unfold uL
      rw [if_neg (by simp; omega), if_neg (by simp; omega), if_pos (by simp; omega), if_pos (by simp; omega)]
      simp; omega
theorem rl_enc1 {c : Nat} (h : okR c) (t : List Nat) : rl (enc1 c ++ t) none = (rl t none).map (runeL c ++ ·) := by
  unfold okR at h
  unfold enc1
  by_cases hc : 65535 < c
  · obtain ⟨A, hA⟩ : ∃ A, A = 55296 + (c - 65536) / 1024 := ⟨_, rfl⟩
    obtain ⟨B, hB⟩ : ∃ B, B = 56320 + (c - 65536) % 1024 := ⟨_, rfl⟩
    have he : 65536 + (A - 55296) * 1024 + (B - 56320) = c := by omega
    have l1 : (unitL A).length = 3 := by unfold unitL; rw [if_neg (by omega), if_neg (by omega)]; rfl
    have l2 : (unitL B).length = 3 := by unfold unitL; rw [if_neg (by omega), if_neg (by omega)]; rfl
    have o1 := u_unit (r := A) (by omega) (unitL B ++ t)
    have o2 := u_unit (r := B) (by omega) t
    rw [if_pos hc, ← hA, ← hB, List.append_assoc, rl, dif_neg (by simp [unitL_ne]), o1]
    dsimp only
    rw [dif_neg (by omega), if_neg (by simp), if_neg (by simp; omega), if_pos (by omega), List.drop_left, rl, dif_neg (by simp [unitL_ne]), o2]
    dsimp only
    rw [dif_neg (by omega), if_pos ⟨by omega, by omega, rfl⟩, List.drop_left]
    simp only [Option.getD_some]
    rw [he]
  · have o1 := u_unit (r := c) (by omega) t
    rw [if_neg hc, rl, dif_neg (by simp [unitL_ne]), o1]
    dsimp only
    have : 0 < (unitL c).length := List.length_pos_iff.2 (unitL_ne c)
    rw [dif_neg (by omega), if_neg (by simp), if_neg (by simp; omega), if_neg (by omega), List.drop_left]
theorem rl_encs {cs : List Nat} (h : ∀ c ∈ cs, okR c) : rl (cs.flatMap enc1) none = some (txt cs) := by
  induction cs with
  | nil => rw [List.flatMap_nil, rl]; rfl
  | cons c cs ih =>
    show rl (enc1 c ++ cs.flatMap enc1) none = _
    rw [rl_enc1 (h c (by simp)), ih fun d hd => h d (by simp [hd])]; rfl
theorem norm_of {z : List Nat} (hb : ∀ b ∈ z, b < 256) (h : vS z = true) : normS z = z := norm_of_valid _ (Nat.le_refl _) hb h
/-- the reference decodes what mutf decodes -/
theorem ref_dec {l : List Nat} (hb : ∀ b ∈ l, b < 256) {z : List Nat} (hz : rl l none = some z) (hzb : ∀ b ∈ z, b < 256) : decS l = if vS z = true ∧ encS z = l then some z else none := by
  split
  · rename_i h
    obtain ⟨h1, h2⟩ := h
    have := dec_norm z
    rw [norm_of hzb h1, h2] at this
    exact this
  · rename_i h
    cases hd : decS l with
    | none => rfl
    | some u =>
      exfalso
      obtain ⟨cs, k1, k2, k3⟩ := dec_back _ (Nat.le_refl _) hb hd
      have := rl_encs k1
      rw [← k3, hz] at this
      cases this
      obtain ⟨e1, e2, _⟩ := dec_then hb hd
      subst k2
      exact h ⟨e1, e2⟩
theorem ref_none {l : List Nat} (hb : ∀ b ∈ l, b < 256) (hz : rl l none = none) : decS l = none := by
  cases hd : decS l with
  | none => rfl
  | some u =>
    exfalso
    obtain ⟨cs, k1, k2, k3⟩ := dec_back _ (Nat.le_refl _) hb hd
    have := rl_encs k1
    rw [← k3, hz] at this
    cases this
structure RDecR (S : St) (l : List Nat) (r : AV) (S' : St) : Prop where
  fr : Fr S S' .nils (16 * l.length + 2)
  out : r = .tup [.str ((decS l).getD []), .int .i64 (if (decS l).isSome = true then 0 else 12)]
def hI : Option Nat → Int
  | none => -1
  | some m => (m : Int)
structure RDecI (S : St) (l : List Nat) (a : Nat × Option Nat × List Nat) (T : St) : Prop where
  same : T = S
  le : a.1 ≤ l.length
  eq : (rl (l.drop a.1) a.2.1).map (a.2.2 ++ ·) = rl l none
  hi : ∀ m, a.2.1 = some m → 55296 ≤ m ∧ m < 56320
  len : a.2.2.length ≤ 4 * a.1
  lt : ∀ c ∈ a.2.2, c < 256
theorem rdec_runs {S : St} {v : AV} {l : List Nat} (hok : Sok S) (hv : Br S v l) (hb : ∀ c ∈ l, c < 256) (hl : l.length ≤ 1000000) (hn : S.n ≤ 900000000) : Runs X1 74 [v] S (RDecR S l) := by
  refine Runs_fn (m := 88) (by kernel_rfl) Tryd.func74 rfl (by kernel_rfl) (by kernel_rfl) ?_
  repeat (
    first
      | refine W_seq ?_
      | refine WO_nil ?_
      | refine V_seq ?_
      | refine W_region ?_
      | refine W_block ?_
      | refine WO_dst rfl rfl (by kernel_rfl) (by kernel_rfl) ?_
      | refine Ev_assign rfl ?_)
  refine W_inv (fun a : Nat × Option Nat × List Nat => [(6, .int .i64 ((a.1 : Nat) : Int)), (0, v), (4, .str a.2.2), (5, .int .i64 (hI a.2.1))]) (RDecI S l) (fun a => l.length - a.1) ?_ (0, none, []) ?_ ⟨rfl, rfl, rfl, rfl, trivial⟩
  · rintro ⟨k, h, acc⟩ T ⟨rfl, hle, heq, hhi, hlen, hlt⟩ back
    dsimp only at hle heq hhi hlen back
    have back' : ∀ (k2 : Nat) (h2 : Option Nat) (acc2 : List Nat) (l' : L), k < k2 → RDecI T l (k2, h2, acc2) T → sub [(6, .int .i64 ((k2 : Nat) : Int)), (0, v), (4, .str acc2), (5, .int .i64 (hI h2))] l' → _ := fun k2 h2 acc2 l' hk hI0 hs => back (k2, h2, acc2) T l' (by have := hI0.le; dsimp only at *; omega) hI0 hs
    by_cases hk : k < l.length
    · obtain ⟨n, w, hnw⟩ : ∃ n w, uL (l.drop k) = (n, w) := ⟨_, _, rfl⟩
      have hne : l.drop k ≠ [] := by intro h; rw [List.drop_eq_nil_iff] at h; omega
      have hbd : ∀ c ∈ l.drop k, c < 256 := fun c h => hb c (List.mem_of_mem_drop h)
      have hw : w ≤ l.length - k := by have := uL_le hne; rw [hnw, List.length_drop] at this; exact this
      have hn6 : n < 65536 := by have := uL_lt hbd; rw [hnw] at this; exact this
      have hrl := rl.eq_1 (l.drop k) h
      rw [dif_neg hne, hnw] at hrl
      dsimp only at hrl
      cases h with
      | none =>
        show W X1 88 _ _ _ [(6, .int .i64 ((k : Nat) : Int)), (0, v), (4, .str acc), (5, .int .i64 (-1))] T
        repeat' (
          first
            | refine W_seq ?_
            | refine WO_nil ?_
            | refine V_seq ?_
            | refine W_region ?_
            | refine W_block ?_
            | refine W_skip ?_
            | refine W_ret ?_
            | refine W_exit ?_
            | refine V_ret ?_
            | refine V_block_x rfl ?_
            | refine V_seq_x ?_
            | refine W_cond_f rfl ?_
            | refine WO_dst rfl rfl (by kernel_rfl) (by kernel_rfl) ?_
            | refine WO_guard_t rfl rfl rfl rfl rfl (by kernel_rfl) (by kernel_rfl) ?_
            | refine WO_guard_f rfl rfl rfl rfl rfl rfl (by kernel_rfl) (by kernel_rfl) ?_
            | refine Ev_len rfl rfl rfl rfl rfl hv.len ?_
            | (refine Ev_call rfl rfl ((runit_runs hv hb hk (by omega)).mono ?_); rintro _ _ - ⟨rfl, rfl⟩; rw [hnw]; dsimp only)
            | refine Ev_move rfl ?_
            | refine Ev_assign rfl ?_
            | refine Ev_extract rfl rfl ?_
            | refine Ev_pick_t rfl rfl rfl ?_
            | refine Ev_pick_f rfl rfl rfl ?_
            | refine Ev_lssN rfl rfl ?_
            | refine Ev_geqN rfl rfl ?_
            | refine Ev_eqlN rfl rfl ?_
            | refine Ev_geq rfl rfl ?_
            | refine Ev_addN rfl rfl (by simp only [lim]; omega) ?_
            | refine Ev_convN rfl rfl rfl rfl rfl (by simp only [lim]; omega) ?_
            | (refine WO_guard_dt rfl rfl rfl rfl rfl (by kernel_rfl) (by kernel_rfl) (fun hg => ?_) (fun hg => ?_) <;> (try dsimp only at hg) <;> try (exfalso; first | omega | exact hg rfl))
            | (refine W_cond rfl (fun hc => ?_) (fun hc => ?_) <;> (try dsimp only at hc) <;> try (exfalso; first | omega | exact hc rfl)))
        · rw [dif_pos (by omega)] at hrl
          have hnone : rl l none = none := by rw [← heq, hrl]; rfl
          have hd := ref_none hb hnone
          refine V_done rfl rfl ?_
          exact ⟨⟨by omega, by omega, hok, fun _ _ _ => rfl⟩, by rw [hd]; rfl⟩
        · rw [dif_neg (by omega), if_neg (by simp), if_pos (.inr ⟨by omega, by omega⟩)] at hrl
          have hnone : rl l none = none := by rw [← heq, hrl]; rfl
          have hd := ref_none hb hnone
          refine V_done rfl rfl ?_
          exact ⟨⟨by omega, by omega, hok, fun _ _ _ => rfl⟩, by rw [hd]; rfl⟩
        · rw [dif_neg (by omega), if_neg (by simp), if_neg (by simp; omega), if_neg (by omega)] at hrl
          have hokR : okR (n) := by unfold okR; omega
          refine Ev_conv_rune rfl rfl rfl rfl rfl ?_
          rw [encodeR_runeL hokR]
          repeat (
            refine WO_dst rfl rfl (by kernel_rfl) (by kernel_rfl) ?_)
          refine Ev_sadd rfl rfl (by have := runeL_len (n); omega) ?_
          repeat (
            first
              | refine WO_nil ?_
              | refine V_block ?_
              | refine WO_dst rfl rfl (by kernel_rfl) (by kernel_rfl) ?_
              | refine Ev_assign rfl ?_)
          refine back' (k + w) none (acc ++ runeL (n)) _ (by omega) ⟨rfl, by dsimp only; omega, ?_, fun m h => (by cases h), ?_, ?_⟩ ⟨rfl, rfl, rfl, rfl, trivial⟩
          · dsimp only
            rw [← heq, hrl, List.drop_drop, Option.map_map]
            congr 1; funext z; simp
          · dsimp only; rw [List.length_append]; have := runeL_len (n); omega
          · intro c h
            rcases List.mem_append.1 h with h | h
            · exact hlt c h
            · exact runeL_lt hokR c h
        · rw [dif_neg (by omega), if_neg (by simp), if_neg (by simp; omega), if_pos ⟨by omega, by omega⟩] at hrl
          refine back' (k + w) (some n) acc _ (by omega) ⟨rfl, by dsimp only; omega, ?_, fun m h => (by cases h; omega), by dsimp only; omega, hlt⟩ ⟨rfl, rfl, rfl, rfl, trivial⟩
          dsimp only
          rw [← heq, hrl, List.drop_drop]
        · rw [dif_neg (by omega), if_neg (by simp), if_neg (by simp; omega), if_neg (by omega)] at hrl
          have hokR : okR (n) := by unfold okR; omega
          refine Ev_conv_rune rfl rfl rfl rfl rfl ?_
          rw [encodeR_runeL hokR]
          repeat (
            refine WO_dst rfl rfl (by kernel_rfl) (by kernel_rfl) ?_)
          refine Ev_sadd rfl rfl (by have := runeL_len (n); omega) ?_
          repeat (
            first
              | refine WO_nil ?_
              | refine V_block ?_
              | refine WO_dst rfl rfl (by kernel_rfl) (by kernel_rfl) ?_
              | refine Ev_assign rfl ?_)
          refine back' (k + w) none (acc ++ runeL (n)) _ (by omega) ⟨rfl, by dsimp only; omega, ?_, fun m h => (by cases h), ?_, ?_⟩ ⟨rfl, rfl, rfl, rfl, trivial⟩
          · dsimp only
            rw [← heq, hrl, List.drop_drop, Option.map_map]
            congr 1; funext z; simp
          · dsimp only; rw [List.length_append]; have := runeL_len (n); omega
          · intro c h
            rcases List.mem_append.1 h with h | h
            · exact hlt c h
            · exact runeL_lt hokR c h
      | some m =>
        have hm := hhi m rfl
        show W X1 88 _ _ _ [(6, .int .i64 ((k : Nat) : Int)), (0, v), (4, .str acc), (5, .int .i64 ((m : Nat) : Int))] T
        repeat' (
          first
            | refine W_seq ?_
            | refine WO_nil ?_
            | refine V_seq ?_
            | refine W_region ?_
            | refine W_block ?_
            | refine W_skip ?_
            | refine W_ret ?_
            | refine V_ret ?_
            | refine W_cond_t rfl ?_
            | refine W_cond_f rfl ?_
            | refine WO_dst rfl rfl (by kernel_rfl) (by kernel_rfl) ?_
            | refine WO_guard_t rfl rfl rfl rfl rfl (by kernel_rfl) (by kernel_rfl) ?_
            | refine WO_guard_f rfl rfl rfl rfl rfl rfl (by kernel_rfl) (by kernel_rfl) ?_
            | refine WO_guard_x rfl rfl rfl rfl rfl (by kernel_rfl) (by kernel_rfl) ?_
            | refine Ev_len rfl rfl rfl rfl rfl hv.len ?_
            | (refine Ev_call rfl rfl ((runit_runs hv hb hk (by omega)).mono ?_); rintro _ _ - ⟨rfl, rfl⟩; rw [hnw]; dsimp only)
            | refine Ev_move rfl ?_
            | refine Ev_assign rfl ?_
            | refine Ev_extract rfl rfl ?_
            | refine Ev_pick_t rfl rfl rfl ?_
            | refine Ev_pick_f rfl rfl rfl ?_
            | refine Ev_lssN rfl rfl ?_
            | refine Ev_geqN rfl rfl ?_
            | refine Ev_eqlN rfl rfl ?_
            | refine Ev_addN rfl rfl (by simp only [lim]; omega) ?_
            | refine Ev_subN rfl rfl (by simp only [lim]; omega) (by first | omega | (dsimp only; done) | (dsimp only; omega)) ?_
            | refine Ev_shlN (m := 10) (q := 1024) rfl rfl rfl rfl (by simp only [lim]; omega) ?_
            | refine Ev_convN rfl rfl rfl rfl rfl (by simp only [lim]; omega) ?_
            | (refine WO_guard_dt rfl rfl rfl rfl rfl (by kernel_rfl) (by kernel_rfl) (fun hg => ?_) (fun hg => ?_) <;> (try dsimp only at hg) <;> try (exfalso; first | omega | exact hg rfl))
            | (refine W_cond rfl (fun hc => ?_) (fun hc => ?_) <;> (try dsimp only at hc) <;> try (exfalso; first | omega | exact hc rfl)))
        · rw [dif_pos (by omega)] at hrl
          have hnone : rl l none = none := by rw [← heq, hrl]; rfl
          have hd := ref_none hb hnone
          refine V_done rfl rfl ?_
          exact ⟨⟨by omega, by omega, hok, fun _ _ _ => rfl⟩, by rw [hd]; rfl⟩
        · rw [dif_neg (by omega), if_pos ⟨by omega, by omega, rfl⟩, Option.getD_some] at hrl
          have hokR : okR (65536 + (m - 55296) * 1024 + (n - 56320)) := by unfold okR; omega
          refine Ev_conv_rune rfl rfl rfl rfl rfl ?_
          rw [encodeR_runeL hokR]
          repeat (
            refine WO_dst rfl rfl (by kernel_rfl) (by kernel_rfl) ?_)
          refine Ev_sadd rfl rfl (by have := runeL_len (65536 + (m - 55296) * 1024 + (n - 56320)); omega) ?_
          repeat (
            first
              | refine W_seq ?_
              | refine WO_nil ?_
              | refine V_seq ?_
              | refine W_region ?_
              | refine W_exit ?_
              | refine V_block_x rfl ?_
              | refine V_seq_x ?_
              | refine WO_dst rfl rfl (by kernel_rfl) (by kernel_rfl) ?_
              | refine Ev_assign rfl ?_)
          refine back' (k + w) none (acc ++ runeL (65536 + (m - 55296) * 1024 + (n - 56320))) _ (by omega) ⟨rfl, by dsimp only; omega, ?_, fun m h => (by cases h), ?_, ?_⟩ ⟨rfl, rfl, rfl, rfl, trivial⟩
          · dsimp only
            rw [← heq, hrl, List.drop_drop, Option.map_map]
            congr 1; funext z; simp
          · dsimp only; rw [List.length_append]; have := runeL_len (65536 + (m - 55296) * 1024 + (n - 56320)); omega
          · intro c h
            rcases List.mem_append.1 h with h | h
            · exact hlt c h
            · exact runeL_lt hokR c h
        · rw [dif_neg (by omega), if_neg (by omega), if_pos (.inl rfl)] at hrl
          have hnone : rl l none = none := by rw [← heq, hrl]; rfl
          have hd := ref_none hb hnone
          refine V_done rfl rfl ?_
          exact ⟨⟨by omega, by omega, hok, fun _ _ _ => rfl⟩, by rw [hd]; rfl⟩
        · rw [dif_neg (by omega), if_neg (by omega), if_pos (.inl rfl)] at hrl
          have hnone : rl l none = none := by rw [← heq, hrl]; rfl
          have hd := ref_none hb hnone
          refine V_done rfl rfl ?_
          exact ⟨⟨by omega, by omega, hok, fun _ _ _ => rfl⟩, by rw [hd]; rfl⟩
    · have hkl : l.drop k = [] := List.drop_eq_nil_of_le (by omega)
      rw [hkl, rl, dif_pos rfl] at heq
      repeat' (
        first
          | refine W_seq ?_
          | refine WO_nil ?_
          | refine V_seq ?_
          | refine W_region ?_
          | refine W_exit ?_
          | refine V_block_x rfl ?_
          | refine V_seq_x ?_
          | refine V_loop_x ?_
          | refine WO_dst rfl rfl (by kernel_rfl) (by kernel_rfl) ?_
          | refine Ev_len rfl rfl rfl rfl rfl hv.len ?_
          | refine Ev_move rfl ?_
          | refine Ev_lssN rfl rfl ?_
          | (refine W_cond rfl (fun hc => ?_) (fun hc => ?_) <;> (try dsimp only at hc) <;> try (exfalso; first | omega | exact hc rfl)))
      refine Ev_call rfl rfl ((renc_runs (s := acc) hok hlt (by omega) (by omega)).mono ?_)
      rintro _ S1 - ⟨⟨hle1, hn1, hok1, hf1⟩, vx, rfl, hx, hbx⟩
      have hv1 : Br S1 v l := hv.keep fun c h => hf1 c (by simp [blkOf]) (hv.lt hok h)
      have hfr : Fr T S1 .nils (16 * l.length + 2) := ⟨hle1, by omega, hok1, hf1⟩
      cases h with
      | some m =>
        have hd := ref_none hb (by rw [← heq]; rfl)
        repeat' (
          first
            | refine W_seq ?_
            | refine WO_nil ?_
            | refine V_seq ?_
            | refine W_region ?_
            | refine W_ret ?_
            | refine V_ret ?_
            | refine W_cond_t rfl ?_
            | refine WO_dst rfl rfl (by kernel_rfl) (by kernel_rfl) ?_
            | refine WO_guard_f rfl rfl rfl rfl rfl rfl (by kernel_rfl) (by kernel_rfl) ?_
            | refine Ev_move rfl ?_
            | refine Ev_assign rfl ?_
            | refine Ev_extract rfl rfl ?_
            | refine Ev_pick_t rfl rfl rfl ?_
            | refine Ev_geqN rfl rfl ?_)
        refine V_done rfl rfl ?_
        exact ⟨hfr, by rw [hd]; rfl⟩
      | none =>
        have hz : rl l none = some acc := by rw [← heq]; simp
        have hd := ref_dec hb hz hlt
        cases hvs : vS acc with
        | false =>
          rw [hvs, if_neg (by simp)] at hd
          repeat' (
            first
              | refine W_seq ?_
              | refine WO_nil ?_
              | refine V_seq ?_
              | refine W_region ?_
              | refine W_ret ?_
              | refine V_ret ?_
              | refine W_cond_t rfl ?_
              | refine WO_dst rfl rfl (by kernel_rfl) (by kernel_rfl) ?_
              | refine WO_guard_t rfl rfl rfl rfl rfl (by kernel_rfl) (by kernel_rfl) ?_
              | refine WO_guard_f rfl rfl rfl rfl rfl rfl (by kernel_rfl) (by kernel_rfl) ?_
              | refine Ev_move rfl ?_
              | refine Ev_assign rfl ?_
              | refine Ev_extract rfl rfl ?_
              | refine Ev_pick_t rfl rfl rfl ?_
              | refine Ev_pick_f rfl rfl rfl ?_
              | refine Ev_neqN rfl rfl ?_
              | refine Ev_geq rfl rfl ?_)
          refine V_done rfl rfl ?_
          exact ⟨hfr, by rw [hd]; rfl⟩
        | true =>
          rw [hvs, if_pos rfl] at hx
          repeat' (
            first
              | refine W_seq ?_
              | refine WO_nil ?_
              | refine V_seq ?_
              | refine W_region ?_
              | refine W_skip ?_
              | refine W_ret ?_
              | refine V_ret ?_
              | refine WO_dst rfl rfl (by kernel_rfl) (by kernel_rfl) ?_
              | refine WO_guard_t rfl rfl rfl rfl rfl (by kernel_rfl) (by kernel_rfl) ?_
              | refine Ev_conv_to_str rfl rfl rfl rfl rfl rfl rfl hx.rd (bytesOf_sbytes encS_lt) ?_
              | refine Ev_conv_to_str rfl rfl rfl rfl rfl rfl rfl hv1 (bytesOf_sbytes hb) ?_
              | refine Ev_move rfl ?_
              | refine Ev_assign rfl ?_
              | refine Ev_extract rfl rfl ?_
              | refine Ev_pick_f rfl rfl rfl ?_
              | refine Ev_neqN rfl rfl ?_
              | refine Ev_geq rfl rfl ?_
              | refine Ev_sneq rfl rfl ?_
              | (refine W_cond rfl (fun hc => ?_) (fun hc => ?_) <;> (try dsimp only at hc) <;> try (exfalso; first | omega | exact hc rfl)))
          · rw [if_neg (fun h => hc h.2)] at hd
            refine V_done rfl rfl ?_
            exact ⟨hfr, by rw [hd]; rfl⟩
          · rw [if_pos ⟨hvs, Decidable.not_not.1 hc⟩] at hd
            refine V_done rfl rfl ?_
            exact ⟨hfr, by rw [hd]; rfl⟩
  · exact ⟨rfl, Nat.zero_le _, by cases h : rl l none <;> simp [h], fun m h => (by cases h), by simp, by simp⟩
end Go.Proofs.YthhbnnnokmefoaaDoor
/- caraferef1.Reader: what its functions do. -/



namespace Go.Proofs.YthhbnnnokmefoaaDoor
open GX
set_option maxHeartbeats 8000000
/-- a reader -/
structure Rq (S : St) (p : Nat) (vb : AV) (b : List Nat) (r : RdS) : Prop where
  cell : S.h.get p = some (.cells 61 [vb, .int .i64 ((r.pos : Nat) : Int), .bool (decide (r.err ≠ 0)), .int .i64 r.err, .int .i64 r.at_] false)
  rd : Rd S vb 1 (sbytes b) b.length
  ne : blkOf vb ≠ some p
  le : r.pos ≤ b.length
theorem Rq.fr {S S' : St} {p : Nat} {vb : AV} {b : List Nat} {r : RdS} {k : Nat} (h : Rq S p vb b r) (hok : Sok S) (a : Fr S S' .nils k) : Rq S' p vb b r :=
  ⟨by rw [a.same p (by simp [blkOf]) (hok _ _ h.cell)]; exact h.cell, h.rd.keep (fun c hc => a.same c (by simp [blkOf]) (h.rd.lt hok hc)), h.ne, h.le⟩
theorem veq_bool (b : Bool) : veq (.bool b) (.bool b) = true := by cases b <;> rfl
theorem qrefuse_runs {S : St} {p : Nat} {vb : AV} {b : List Nat} {r : RdS} {c a : Int} (hok : Sok S) (h : Rq S p vb b r) (hn : S.n ≤ 1000000000) (hc0 : c ≠ 0) :
    Runs X1 73 [.ptr p 0, .int .i64 c, .int .i64 a] S fun _ S' => Rq S' p vb b (r.refuse c a) ∧ FrP S S' p := by
  have hp : p < S.n := hok _ _ h.cell
  refine Runs_fn (m := 22) (by kernel_rfl) Tryd.func73 rfl (by kernel_rfl) (by kernel_rfl) ?_
  repeat' (
    first
      | refine W_seq ?_
      | refine WO_nil ?_
      | refine V_seq ?_
      | refine W_region ?_
      | refine W_skip ?_
      | refine WO_dst rfl rfl (by kernel_rfl) (by kernel_rfl) ?_
      | refine WO_no rfl rfl ?_
      | refine Ev_load rfl rfl rfl h.cell rfl (veq_bool _) ?_
      | refine Ev_move rfl ?_
      | refine Ev_not rfl ?_
      | refine Ev_nilCheck rfl ?_
      | refine Ev_fieldAddr rfl rfl rfl rfl rfl rfl ?_
      | (refine W_cond rfl (fun hc => ?_) (fun hc => ?_) <;> (try dsimp only at hc) <;> try (exfalso; first | omega | exact hc rfl)))
  · have he : r.err = 0 := by omega
    refine Ev_store1 rfl rfl rfl rfl rfl rfl h.cell (by simp) (by omega) ?_
    intro S1 hn1 hq1 hf1
    repeat (
      first
        | refine W_seq ?_
        | refine WO_nil ?_
        | refine V_seq ?_
        | refine W_region ?_
        | refine WO_dst rfl rfl (by kernel_rfl) (by kernel_rfl) ?_
        | refine WO_no rfl rfl ?_
        | refine Ev_move rfl ?_
        | refine Ev_nilCheck rfl ?_
        | refine Ev_fieldAddr rfl rfl rfl rfl rfl rfl ?_)
    refine Ev_store1 rfl rfl rfl rfl rfl rfl hq1 (by simp [lput]) (by omega) ?_
    intro S2 hn2 hq2 hf2
    repeat (
      first
        | refine WO_nil ?_
        | refine V_seq ?_
        | refine W_region ?_
        | refine WO_dst rfl rfl (by kernel_rfl) (by kernel_rfl) ?_
        | refine WO_no rfl rfl ?_
        | refine Ev_move rfl ?_
        | refine Ev_nilCheck rfl ?_
        | refine Ev_fieldAddr rfl rfl rfl rfl rfl rfl ?_)
    refine Ev_store1 rfl rfl rfl rfl rfl rfl hq2 (by simp [lput]) (by omega) ?_
    intro S3 hn3 hq3 hf3
    repeat (
      refine WO_nil ?_)
    refine V_done rfl rfl ?_
    have hok1 := Sok.upd hok hp hn1 hq1 hf1
    have hok2 := Sok.upd hok1 (by omega) hn2 hq2 hf2
    have hr : r.refuse c a = { r with err := c, at_ := a } := by unfold RdS.refuse; rw [if_pos ⟨he, hc0⟩]
    refine ⟨⟨by rw [hr, hq3]; dsimp only; rw [decide_eq_true hc0]; rfl, h.rd.keep (fun d hd => ?_), h.ne, by rw [hr]; exact h.le⟩, ⟨by omega, Sok.upd hok2 (by omega) hn3 hq3 hf3, fun d hd => by rw [hf3 d hd, hf2 d hd, hf1 d hd]⟩⟩
    have hdp : d ≠ p := fun e => h.ne (by rw [hd, e])
    rw [hf3 d hdp, hf2 d hdp, hf1 d hdp]
  all_goals
    refine V_done rfl rfl ?_
    have hr : r.refuse c a = r := by unfold RdS.refuse; rw [if_neg (by omega)]
    rw [hr]; exact ⟨h, FrP.refl hok⟩
theorem take_zero (r : RdS) (b : List Nat) : r.take b 0 = ([], r) := by
  unfold RdS.take
  split
  · rfl
  · rw [if_neg (by omega), List.take_zero, Nat.add_zero]
theorem qbytes_runs {S : St} {p : Nat} {vb : AV} {b : List Nat} {r : RdS} {n : Int} (hok : Sok S) (h : Rq S p vb b r) (hn : S.n + 2 ≤ 1000000000) (hb : b.length ≤ 1000000000) (hm : n < 9223372036854775808) :
    Runs X1 72 [.ptr p 0, .int .i64 n] S fun v S' => Rq S' p vb b (r.take b n.toNat).2 ∧ FrQ S S' p 2 ∧ Rd S' v 1 (sbytes (r.take b n.toNat).1) (r.take b n.toNat).1.length ∧ ∀ c, blkOf v = some c → S.n ≤ c := by
  have hp : p < S.n := hok _ _ h.cell
  have hle := h.le
  refine Runs_fn (m := 60) (by kernel_rfl) Tryd.func72 rfl (by kernel_rfl) (by kernel_rfl) ?_
  by_cases hneg : n < 0
  · rw [show n.toNat = 0 by omega, take_zero]
    repeat' (
      first
        | refine W_seq ?_
        | refine WO_nil ?_
        | refine V_seq ?_
        | refine W_region ?_
        | refine W_ret ?_
        | refine V_ret ?_
        | refine W_cond_t rfl ?_
        | refine WO_dst rfl rfl (by kernel_rfl) (by kernel_rfl) ?_
        | refine WO_guard_t rfl rfl rfl rfl rfl (by kernel_rfl) (by kernel_rfl) ?_
        | refine WO_guard_f rfl rfl rfl rfl rfl rfl (by kernel_rfl) (by kernel_rfl) ?_
        | refine Ev_load rfl rfl rfl h.cell rfl (veq_bool _) ?_
        | refine Ev_move rfl ?_
        | refine Ev_assign rfl ?_
        | refine Ev_pick_t rfl rfl rfl ?_
        | refine Ev_pick_f rfl rfl rfl ?_
        | refine Ev_lss rfl rfl ?_
        | refine Ev_nilCheck rfl ?_
        | refine Ev_fieldAddr rfl rfl rfl rfl rfl rfl ?_
        | (refine WO_guard_df rfl rfl rfl rfl rfl (by kernel_rfl) (by kernel_rfl) (fun hg => ?_) (fun hg => ?_) <;> (try dsimp only at hg) <;> try (exfalso; first | omega | exact hg rfl))
        | (refine W_cond rfl (fun hc => ?_) (fun hc => ?_) <;> (try dsimp only at hc) <;> try (exfalso; first | omega | exact hc rfl)))
    all_goals
      refine V_done rfl rfl ?_
      exact ⟨h, (Fr.q (k := 2) ⟨Nat.le_refl _, by omega, hok, fun _ _ _ => rfl⟩), ⟨rfl, rfl, rfl, rfl, rfl, rfl⟩, fun c hc => by cases hc⟩
  · obtain ⟨m, rfl⟩ : ∃ m : Nat, n = (m : Int) := ⟨n.toNat, by omega⟩
    rw [Int.toNat_natCast]
    repeat' (
      first
        | refine W_seq ?_
        | refine WO_nil ?_
        | refine V_seq ?_
        | refine W_region ?_
        | refine W_drawn (by kernel_rfl) ?_
        | refine W_skip ?_
        | refine W_ret ?_
        | refine V_ret ?_
        | refine W_cond_t rfl ?_
        | refine W_cond_f rfl ?_
        | refine WO_dst rfl rfl (by kernel_rfl) (by kernel_rfl) ?_
        | refine WO_guard_t rfl rfl rfl rfl rfl (by kernel_rfl) (by kernel_rfl) ?_
        | refine WO_guard_f rfl rfl rfl rfl rfl rfl (by kernel_rfl) (by kernel_rfl) ?_
        | refine Ev_load rfl rfl rfl h.cell rfl (veq_bool _) ?_
        | refine Ev_load rfl rfl rfl h.cell rfl (veq_int _ _) ?_
        | refine Ev_load rfl rfl rfl h.cell rfl h.rd.self ?_
        | refine Ev_len rfl rfl rfl rfl rfl h.rd.len ?_
        | refine Ev_move rfl ?_
        | refine Ev_assign rfl ?_
        | refine Ev_pick_t rfl rfl rfl ?_
        | refine Ev_pick_f rfl rfl rfl ?_
        | refine Ev_lssN rfl rfl ?_
        | refine Ev_nilCheck rfl ?_
        | refine Ev_fieldAddr rfl rfl rfl rfl rfl rfl ?_
        | refine Ev_addN rfl rfl (by simp only [lim]; omega) ?_
        | refine Ev_subN rfl rfl (by simp only [lim]; omega) (by first | omega | (dsimp only; done) | (dsimp only; omega)) ?_
        | (refine WO_guard_df rfl rfl rfl rfl rfl (by kernel_rfl) (by kernel_rfl) (fun hg => ?_) (fun hg => ?_) <;> (try dsimp only at hg) <;> try (exfalso; first | omega | exact hg rfl))
        | (refine W_cond rfl (fun hc => ?_) (fun hc => ?_) <;> (try dsimp only at hc) <;> try (exfalso; first | omega | exact hc rfl)))
    · refine Ev_call rfl rfl ((qrefuse_runs hok h (by omega) (by decide)).mono ?_)
      rintro _ S1 - ⟨h1, hF1⟩
      repeat (
        first
          | refine W_seq ?_
          | refine WO_nil ?_
          | refine V_seq ?_
          | refine W_region ?_
          | refine W_ret ?_
          | refine V_ret ?_
          | refine WO_dst rfl rfl (by kernel_rfl) (by kernel_rfl) ?_
          | refine Ev_assign rfl ?_)
      refine V_done rfl rfl ?_
      have e : r.take b m = ([], r.refuse 10 (b.length : Int)) := by unfold RdS.take; rw [if_neg hg, if_pos hc]
      rw [e]
      have hq := hF1.q
      exact ⟨h1, ⟨hq.le, by have := hq.n; omega, hq.ok, hq.same⟩, ⟨rfl, rfl, rfl, rfl, rfl, rfl⟩, fun c hc => by cases hc⟩
    · refine Ev_slice_lh rfl rfl rfl rfl rfl rfl h.rd (by omega) (by omega) ?_
      intro v' hv' hbv
      have e : r.take b m = ((b.drop r.pos).take m, { r with pos := r.pos + m }) := by unfold RdS.take; rw [if_neg hg, if_neg hc]
      have hml : ((b.drop r.pos).take m).length = m := by simp only [List.length_take, List.length_drop]; omega
      have hv2 : Rd S v' 1 (sbytes ((b.drop r.pos).take m)) ((b.drop r.pos).take m).length := by
        refine hv'.eq ?_ (by omega)
        unfold sbytes
        simp only [Nat.mul_one, List.map_take, List.map_drop, List.drop_take]
        congr 1
        omega
      repeat (
        first
          | refine W_seq ?_
          | refine WO_nil ?_
          | refine V_seq ?_
          | refine W_region ?_
          | refine WO_dst rfl rfl (by kernel_rfl) (by kernel_rfl) ?_
          | refine WO_no rfl rfl ?_
          | refine Ev_load rfl rfl rfl h.cell rfl (veq_int _ _) ?_
          | refine Ev_move rfl ?_
          | refine Ev_assign rfl ?_
          | refine Ev_nilCheck rfl ?_
          | refine Ev_fieldAddr rfl rfl rfl rfl rfl rfl ?_
          | refine Ev_addN rfl rfl (by simp only [lim]; omega) ?_)
      refine Ev_store1 rfl rfl rfl rfl rfl rfl h.cell (by simp) (by omega) ?_
      intro S1 hn1 hq1 hf1
      have hk : ∀ d, blkOf vb = some d → S1.h.get d = S.h.get d := fun d hd => hf1 d (fun e2 => h.ne (by rw [hd, e2]))
      have hok1 := Sok.upd hok hp hn1 hq1 hf1
      have hv3 := hv2.keep (fun d hd => hk d (hbv d hd))
      repeat (
        first
          | refine W_seq ?_
          | refine WO_nil ?_
          | refine V_seq ?_
          | refine W_region ?_
          | refine WO_dst rfl rfl (by kernel_rfl) (by kernel_rfl) ?_)
      refine Ev_buildSlice rfl rfl rfl rfl rfl rfl hok1 (by omega) ?_
      intro S2 hn2 hok2 hq2 hf2
      have hv4 := hv3.keep (fun d hd => hf2 d (hv3.lt hok1 hd))
      repeat (
        first
          | refine WO_dst rfl rfl (by kernel_rfl) (by kernel_rfl) ?_
          | refine Ev_move rfl ?_)
      refine Ev_append_gz (cs := []) (m := 0) rfl rfl rfl rfl rfl rfl rfl rfl rfl rfl (.inr ⟨rfl, rfl, S1.n, 0, rfl, Rd_lit hq2 rfl (by kernel_rfl)⟩) hv4 (by first | exact sbytes_one _ | (unfold sbytes; simp [AV.one])) hok2 (by omega) (by dsimp only; omega) (by omega) ?_
      intro v3 S3 hle3 hn3 hok3 hown3 hf3 hb3
      repeat (
        first
          | refine WO_nil ?_
          | refine V_seq ?_
          | refine W_ret ?_
          | refine WO_dst rfl rfl (by kernel_rfl) (by kernel_rfl) ?_
          | refine Ev_assign rfl ?_)
      refine V_done rfl rfl ?_
      rw [e]
      have hsame : ∀ c, c < S1.n → S3.h.get c = S1.h.get c := fun c h => by rw [hf3 c (fun h2 => by cases h2; omega) (by omega), hf2 c h]
      refine ⟨⟨by rw [hsame p (by omega)]; exact hq1, h.rd.keep (fun d hd => ?_), h.ne, by dsimp only; omega⟩, ⟨by omega, by omega, hok3, fun c h1 h2 => by rw [hsame c (by omega), hf1 c h1]⟩, (hown3.eq rfl (by dsimp only; omega)).rd, fun c hc => ?_⟩
      · have := h.rd.lt hok hd
        rw [hsame d (by omega), hk d hd]
      · rcases hb3 c hc with h2 | h2
        · cases h2; omega
        · omega
    · refine V_done rfl rfl ?_
      have e : r.take b m = ([], r) := by unfold RdS.take; rw [if_pos (by omega)]
      rw [e]
      exact ⟨h, (Fr.q (k := 2) ⟨Nat.le_refl _, by omega, hok, fun _ _ _ => rfl⟩), ⟨rfl, rfl, rfl, rfl, rfl, rfl⟩, fun c hc => by cases hc⟩
end Go.Proofs.YthhbnnnokmefoaaDoor
/- caraferef1.Reader's other functions. -/

namespace Go.Proofs.YthhbnnnokmefoaaDoor
open GX
set_option maxHeartbeats 8000000
theorem qnum_runs {S : St} {p : Nat} {vb : AV} {b : List Nat} {r : RdS} {n : Int} (hok : Sok S) (h : Rq S p vb b r) (hn : S.n + 2 ≤ 1000000000) (hb : b.length ≤ 1000000000) (hlt : ∀ x ∈ b, x < 256) :
    Runs X1 55 [.ptr p 0, .int .i64 n] S fun v S' => v = .int .i64 (numV (r.take b (sizeN n)).1) ∧ Rq S' p vb b (r.take b (sizeN n)).2 ∧ FrQ S S' p 2 := by
  have hsz := sizeN_le n
  refine Runs_fn (m := 25) (by kernel_rfl) Tryd.func55 rfl (by kernel_rfl) (by kernel_rfl) ?_
  repeat (
    first
      | refine W_seq ?_
      | refine WO_nil ?_
      | refine V_seq ?_
      | refine W_region ?_
      | refine WO_dst rfl rfl (by kernel_rfl) (by kernel_rfl) ?_
      | refine Ev_move rfl ?_
      | refine Ev_assign rfl ?_)
  refine Ev_call rfl rfl ((width_runs n S).mono ?_)
  rintro _ _ - ⟨rfl, rfl⟩
  repeat (
    refine WO_dst rfl rfl (by kernel_rfl) (by kernel_rfl) ?_)
  refine Ev_call rfl rfl ((qbytes_runs hok h hn hb (by omega)).mono ?_)
  rintro v S1 - ⟨h1, hF1, hv, hbv⟩
  rw [Int.toNat_natCast] at h1 hv
  obtain ⟨t, ht⟩ : ∃ t, t = (r.take b (sizeN n)).1 := ⟨_, rfl⟩
  rw [← ht] at hv ⊢
  have htl : t.length ≤ sizeN n := by rw [ht]; exact take_len _ _ _
  have htb : ∀ x ∈ t, x < 256 := by rw [ht]; exact take_lt hlt
  repeat (
    first
      | refine WO_nil ?_
      | refine V_seq ?_
      | refine W_block ?_
      | refine WO_dst rfl rfl (by kernel_rfl) (by kernel_rfl) ?_
      | refine Ev_len rfl rfl rfl rfl rfl hv.len ?_
      | refine Ev_move rfl ?_)
  refine W_inv (fun i : Nat => [(13, .int .i64 ((i : Nat) : Int)), (12, .int .i64 ((t.length : Nat) : Int)), (11, v), (5, .int .u64 ((numOf (t.take i) : Nat) : Int))]) (fun i T => T = S1 ∧ i ≤ t.length) (fun i => t.length - i) ?_ 0 ⟨rfl, Nat.zero_le _⟩ ⟨rfl, rfl, rfl, rfl, trivial⟩
  rintro i T ⟨rfl, hi⟩ back
  have hacc := numOf_lt i (t.take i) (by rw [List.length_take]; omega) (fun x hx => htb x (List.mem_of_mem_take hx))
  have h7 : i < t.length → numOf (t.take i) < 72057594037927936 := fun h => Nat.lt_of_lt_of_le hacc (Nat.pow_le_pow_right (n := 256) (by omega) (show i ≤ 7 by omega))
  have hx : i < t.length → t.getD i 0 < 256 := fun h => by
    rw [List.getD_eq_getElem?_getD, List.getElem?_eq_getElem h]
    exact htb _ (List.getElem_mem h)
  have hsn := fun h => numOf_take (l := t) (i := i) h
  repeat' (
    first
      | refine W_seq ?_
      | refine WO_nil ?_
      | refine V_seq ?_
      | refine W_region ?_
      | refine W_block ?_
      | refine W_skip ?_
      | refine W_exit ?_
      | refine V_block ?_
      | refine V_block_x rfl ?_
      | refine V_seq_x ?_
      | refine V_loop_x ?_
      | refine WO_dst rfl rfl (by kernel_rfl) (by kernel_rfl) ?_
      | (refine Ev_indexAddr_rd rfl rfl rfl rfl rfl hv (by first | omega | (dsimp only; omega)) ?_; intro q hq)
      | refine Ev_load_pt rfl rfl rfl hq (by dsimp only; rw [Nat.mul_one]; exact sbytes_get (by first | omega | (dsimp only; omega))) (veq_int _ _) ?_
      | refine Ev_orN 8 rfl rfl rfl (by first | omega | (dsimp only; omega)) (by first | omega | (dsimp only; omega)) (by simp only [lim]; omega) ?_
      | refine Ev_move rfl ?_
      | refine Ev_assign rfl ?_
      | refine Ev_lssN rfl rfl ?_
      | refine Ev_addN rfl rfl (by simp only [lim]; omega) ?_
      | refine Ev_shlN (m := 8) (q := 256) rfl rfl rfl rfl (by simp only [lim]; omega) ?_
      | refine Ev_convN rfl rfl rfl rfl rfl (by simp only [lim]; omega) ?_
      | (refine W_cond rfl (fun hc => ?_) (fun hc => ?_) <;> (try dsimp only at hc) <;> try (exfalso; first | omega | exact hc rfl)))
  · refine back (i + 1) T _ (by omega) ⟨rfl, by omega⟩ ⟨rfl, rfl, rfl, ?_, trivial⟩
    show some (AV.int .u64 ((numOf (List.take i t) * 256 + t.getD i 0 : Nat) : Int)) = some (AV.int .u64 ((numOf (List.take (i + 1) t) : Nat) : Int))
    rw [hsn (by omega)]
  all_goals
    have hi2 : i = t.length := by omega
    subst hi2
    repeat (
      first
        | refine WO_nil ?_
        | refine V_seq ?_
        | refine W_ret ?_
        | refine WO_dst rfl rfl (by kernel_rfl) (by kernel_rfl) ?_
        | refine Ev_convw (k' := .i64) rfl rfl rfl rfl rfl ?_
        | refine Ev_assign rfl ?_)
    refine V_done rfl rfl ?_
    refine ⟨?_, h1, hF1⟩
    show AV.int .i64 (wrp .i64 ((numOf (t.take t.length) : Nat) : Int)) = AV.int .i64 (numV t)
    rw [List.take_length]; rfl
theorem qfail_runs {S : St} {p : Nat} {vb : AV} {b : List Nat} {r : RdS} {c : Int} (hok : Sok S) (h : Rq S p vb b r) (hn : S.n ≤ 1000000000) :
    Runs X1 56 [.ptr p 0, .int .i64 c] S fun _ S' => Rq S' p vb b (r.refuse c (r.pos : Int)) ∧ FrP S S' p := by
  refine Runs_fn (m := 13) (by kernel_rfl) Tryd.func56 rfl (by kernel_rfl) (by kernel_rfl) ?_
  repeat' (
    first
      | refine W_seq ?_
      | refine WO_nil ?_
      | refine V_seq ?_
      | refine W_region ?_
      | refine W_skip ?_
      | refine WO_dst rfl rfl (by kernel_rfl) (by kernel_rfl) ?_
      | refine Ev_load rfl rfl rfl h.cell rfl (veq_int _ _) ?_
      | refine Ev_move rfl ?_
      | refine Ev_neq rfl rfl ?_
      | refine Ev_nilCheck rfl ?_
      | refine Ev_fieldAddr rfl rfl rfl rfl rfl rfl ?_
      | (refine W_cond rfl (fun hc => ?_) (fun hc => ?_) <;> (try dsimp only at hc) <;> try (exfalso; first | omega | exact hc rfl)))
  · refine Ev_call rfl rfl ((qrefuse_runs hok h hn (by assumption)).mono ?_)
    rintro _ S1 - ⟨h1, hF1⟩
    repeat (
      refine WO_nil ?_)
    refine V_done rfl rfl ?_
    exact ⟨h1, hF1⟩
  · refine V_done rfl rfl ?_
    have hr : r.refuse c (r.pos : Int) = r := by unfold RdS.refuse; rw [if_neg (by omega)]
    rw [hr]; exact ⟨h, FrP.refl hok⟩
theorem qend_runs {S : St} {p : Nat} {vb : AV} {b : List Nat} {r : RdS} (h : Rq S p vb b r) :
    Runs X1 32 [.ptr p 0] S fun v S' => S' = S ∧ v = .tup [.int .i64 (r.endOf b).1, .int .i64 (r.endOf b).2] := by
  refine Runs_fn (m := 30) (by kernel_rfl) Tryd.func32 rfl (by kernel_rfl) (by kernel_rfl) ?_
  repeat' (
    first
      | refine W_seq ?_
      | refine WO_nil ?_
      | refine V_seq ?_
      | refine W_region ?_
      | refine W_drawn (by kernel_rfl) ?_
      | refine W_skip ?_
      | refine W_ret ?_
      | refine V_ret ?_
      | refine WO_dst rfl rfl (by kernel_rfl) (by kernel_rfl) ?_
      | refine Ev_load rfl rfl rfl h.cell rfl (veq_bool _) ?_
      | refine Ev_load rfl rfl rfl h.cell rfl (veq_int _ _) ?_
      | refine Ev_load rfl rfl rfl h.cell rfl h.rd.self ?_
      | refine Ev_len rfl rfl rfl rfl rfl h.rd.len ?_
      | refine Ev_move rfl ?_
      | refine Ev_assign rfl ?_
      | refine Ev_lssN rfl rfl ?_
      | refine Ev_nilCheck rfl ?_
      | refine Ev_fieldAddr rfl rfl rfl rfl rfl rfl ?_
      | (refine W_cond rfl (fun hc => ?_) (fun hc => ?_) <;> (try dsimp only at hc) <;> try (exfalso; first | omega | exact hc rfl)))
  · refine V_done rfl rfl ?_
    refine ⟨rfl, ?_⟩
    unfold RdS.endOf; rw [if_pos (by assumption)]; rfl
  · refine V_done rfl rfl ?_
    refine ⟨rfl, ?_⟩
    unfold RdS.endOf; rw [if_neg (by assumption), if_pos (by assumption)]; rfl
  · refine V_done rfl rfl ?_
    refine ⟨rfl, ?_⟩
    unfold RdS.endOf; rw [if_neg (by assumption), if_neg (by assumption)]; rfl
end Go.Proofs.YthhbnnnokmefoaaDoor
