/- Texts in mutf: what is encoded is decoded to itself, and the other way round. Plain. -/
import Derived.Test.YtnlfcoojlgdgaaaDoorWDec
import Derived.Lib.ValidLaws
namespace Go.Proofs.YtnlfcoojlgdgaaaDoor
open GX
set_option maxHeartbeats 4000000
/-! UTF-8 -/
theorem dec_rune {c : Nat} (h : okR c) (t : List Nat) : decodeR (runeL c ++ t) = (c, (runeL c).length) := by
  unfold okR at h
  unfold runeL
  split
  · rename_i h1
    show decodeR (c :: t) = _
    unfold decodeR
    dsimp only
    rw [if_pos (by omega)]; rfl
  · split
    · show decodeR ((192 + c / 64) :: (128 + c % 64) :: t) = _
      unfold decodeR
      dsimp only
      rw [if_neg (by omega), if_pos (by simp; omega)]
      have he : (192 + c / 64) % 32 * 64 + (128 + c % 64) % 64 = c := by omega
      simp only [List.getD_cons_zero]
      rw [he, if_pos (by omega)]; rfl
    · split
      · show decodeR ((224 + c / 4096) :: (128 + c / 64 % 64) :: (128 + c % 64) :: t) = _
        unfold decodeR
        dsimp only
        rw [if_neg (by omega), if_neg (by simp; omega), if_pos (by simp; omega)]
        have hv : Utf8.valid ((c : Nat) : Int) = true := by unfold Utf8.valid; simp; omega
        have he : (224 + c / 4096) % 16 * 4096 + (128 + c / 64 % 64) % 64 * 64 + (128 + c % 64) % 64 = c := by omega
        simp only [List.getD_cons_zero, List.getD_cons_succ]
        rw [he, if_pos (by rw [hv]; simp; omega)]; rfl
      · show decodeR ((240 + c / 262144) :: (128 + c / 4096 % 64) :: (128 + c / 64 % 64) :: (128 + c % 64) :: t) = _
        unfold decodeR
        dsimp only
        rw [if_neg (by omega), if_neg (by simp; omega), if_neg (by simp; omega), if_pos (by simp; omega)]
        have hv : Utf8.valid ((c : Nat) : Int) = true := by unfold Utf8.valid; simp; omega
        have he : (240 + c / 262144) % 8 * 262144 + (128 + c / 4096 % 64) % 64 * 4096 + (128 + c / 64 % 64) % 64 * 64 + (128 + c % 64) % 64 = c := by omega
        simp only [List.getD_cons_zero, List.getD_cons_succ]
        rw [he, if_pos (by rw [hv]; simp; omega)]; rfl
theorem runeL_ne (c : Nat) : runeL c ≠ [] := by unfold runeL; (repeat' split) <;> simp
theorem dec_ok (l : List Nat) : okR (decodeR l).1 := by
  unfold okR decodeR
  split
  · simp [Utf8.runeError]
  · dsimp only
    split
    · dsimp only; omega
    · split
      · split
        · dsimp only; omega
        · simp [Utf8.runeError]
      · split
        · split
          · rename_i h
            simp only [Bool.and_eq_true, Utf8.valid] at h
            dsimp only
            simp at h ⊢
            omega
          · simp [Utf8.runeError]
        · split
          · split
            · rename_i h
              simp only [Bool.and_eq_true, Utf8.valid] at h
              dsimp only
              simp at h ⊢
              omega
            · simp [Utf8.runeError]
          · simp [Utf8.runeError]
theorem runesS_ok {l : List Nat} : ∀ c ∈ runesS l, okR c := by
  induction l using runesS.induct with
  | case1 => rw [runesS_nil]; simp
  | case2 b t ih =>
    rw [runesS_ne (by simp)]
    intro c hc
    rcases List.mem_cons.1 hc with h | h
    · rw [h]; exact dec_ok _
    · exact ih c h
theorem runesS_rune {c : Nat} (h : okR c) (t : List Nat) : runesS (runeL c ++ t) = c :: runesS t := by
  rw [runesS_ne (by simp [runeL_ne]), dec_rune h, List.drop_left]
/-- the text of some runes -/
def txt (cs : List Nat) : List Nat := cs.flatMap runeL
theorem runesS_txt {cs : List Nat} (h : ∀ c ∈ cs, okR c) (t : List Nat) : runesS (txt cs ++ t) = cs ++ runesS t := by
  induction cs with
  | nil => rfl
  | cons c cs ih =>
    show runesS (runeL c ++ txt cs ++ t) = _
    rw [List.append_assoc, runesS_rune (h c (by simp)), ih fun d hd => h d (by simp [hd])]; rfl
theorem txt_lt {cs : List Nat} (h : ∀ c ∈ cs, okR c) : ∀ b ∈ txt cs, b < 256 := by
  intro b hb
  obtain ⟨c, hc, hb⟩ := List.mem_flatMap.1 hb
  exact runeL_lt (h c hc) b hb
theorem encS_txt {cs : List Nat} (h : ∀ c ∈ cs, okR c) (t : List Nat) : encS (txt cs ++ t) = cs.flatMap enc1 ++ encS t := by
  unfold encS; rw [runesS_txt h, List.flatMap_append]
theorem of_to {x : List Nat} (h : ∀ b ∈ x, b < 256) : (x.map UInt8.ofNat).map (·.toNat) = x := by
  rw [List.map_map]
  conv => rhs; rw [← List.map_id x]
  apply List.map_congr_left
  intro b hb
  have := h b hb
  simp
  omega
theorem decodeL_R {x : List Nat} (h : ∀ b ∈ x, b < 256) (hne : x ≠ []) : Lib.decodeL (x.map UInt8.ofNat) = decodeR x := by
  have hb : GX.bytes ⟨(x.map UInt8.ofNat).toArray⟩ = x := by
    unfold GX.bytes
    rw [show ((⟨(x.map UInt8.ofNat).toArray⟩ : ByteArray).data.toList) = x.map UInt8.ofNat from rfl, of_to h]
  have hs : 0 < (⟨(x.map UInt8.ofNat).toArray⟩ : ByteArray).size := by
    show 0 < (x.map UInt8.ofNat).toArray.size
    simp; exact List.length_pos_iff.2 hne
  have := decodeR_eq ⟨(x.map UInt8.ofNat).toArray⟩ 0 hs
  rw [hb, List.drop_zero] at this
  rw [this]; rfl
theorem vS_nil : vS [] = true := rfl
theorem vS_step {x : List Nat} (h : ∀ b ∈ x, b < 256) (hne : x ≠ []) : vS x = if (decodeR x).1 = 65533 ∧ (decodeR x).2 = 1 then false else vS (x.drop (decodeR x).2) := by
  unfold vS
  rw [Lib.validD_step _ (by simpa using hne), decodeL_R h hne, List.map_drop]
theorem vS_rune {c : Nat} (h : okR c) {t : List Nat} (ht : ∀ b ∈ t, b < 256) : vS (runeL c ++ t) = vS t := by
  rw [vS_step (fun b hb => (List.mem_append.1 hb).elim (runeL_lt h b) (ht b)) (by simp [runeL_ne]), dec_rune h, List.drop_left, if_neg]
  rintro ⟨h1, h2⟩
  dsimp only at h1 h2
  subst h1
  simp [runeL] at h2
theorem vS_txt {cs : List Nat} (h : ∀ c ∈ cs, okR c) {t : List Nat} (ht : ∀ b ∈ t, b < 256) : vS (txt cs ++ t) = vS t := by
  induction cs with
  | nil => rfl
  | cons c cs ih =>
    have h' : ∀ d ∈ cs, okR d := fun d hd => h d (by simp [hd])
    show vS (runeL c ++ txt cs ++ t) = _
    rw [List.append_assoc, vS_rune (h c (by simp)) (fun b hb => (List.mem_append.1 hb).elim (txt_lt h' b) (ht b)), ih h']
/-! mutf -/
theorem unitL_lt {r : Nat} (h : r < 65536) : ∀ b ∈ unitL r, b < 256 := by
  unfold unitL
  (repeat' split) <;> intro b hb <;> simp at hb <;> omega
theorem unitL_nz {r : Nat} : ∀ b ∈ unitL r, b ≠ 0 := by
  unfold unitL
  (repeat' split) <;> intro b hb <;> simp at hb <;> omega
theorem enc1_nz {c : Nat} : ∀ b ∈ enc1 c, b ≠ 0 := by
  unfold enc1
  split
  · intro b hb; exact (List.mem_append.1 hb).elim (unitL_nz b) (unitL_nz b)
  · exact unitL_nz
theorem enc1_lt {c : Nat} (h : c < 1114112) : ∀ b ∈ enc1 c, b < 256 := by
  unfold enc1
  split
  · intro b hb; exact (List.mem_append.1 hb).elim (unitL_lt (by omega) b) (unitL_lt (by omega) b)
  · exact unitL_lt (by omega)
theorem encS_nz {l : List Nat} : ∀ b ∈ encS l, b ≠ 0 := by
  intro b hb
  obtain ⟨c, _, hb⟩ := List.mem_flatMap.1 hb
  exact enc1_nz b hb
theorem encS_lt {l : List Nat} : ∀ b ∈ encS l, b < 256 := by
  intro b hb
  obtain ⟨c, hc, hb⟩ := List.mem_flatMap.1 hb
  exact enc1_lt (runesS_lt c hc) b hb
theorem unitL_ne (r : Nat) : unitL r ≠ [] := by unfold unitL; (repeat' split) <;> simp
theorem one_unit {r : Nat} (h : r < 65536) (t : List Nat) : oneL (unitL r ++ t) = (r, (unitL r).length) := by
  unfold unitL
  split
  · rename_i h1
    show oneL (r :: t) = _
    unfold oneL
    rw [if_pos (by simp; omega)]; rfl
  · split
    · rename_i h1 h2
      show oneL ((192 + r / 64) :: (128 + r % 64) :: t) = _
      unfold oneL
      rw [if_neg (by simp; omega), if_pos (by simp; omega), if_pos (by simp; omega)]
      simp; omega
    · show oneL ((224 + r / 4096) :: (128 + r / 64 % 64) :: (128 + r % 64) :: t) = _
      unfold oneL
      rw [if_neg (by simp; omega), if_neg (by simp; omega), if_pos (by simp; omega), if_pos (by simp; omega)]
      simp; omega
theorem dec_enc1 {c : Nat} (h : okR c) (t : List Nat) : decS (enc1 c ++ t) = (decS t).map (runeL c ++ ·) := by
  unfold okR at h
  unfold enc1
  by_cases hc : 65535 < c
  · obtain ⟨A, hA⟩ : ∃ A, A = 55296 + (c - 65536) / 1024 := ⟨_, rfl⟩
    obtain ⟨B, hB⟩ : ∃ B, B = 56320 + (c - 65536) % 1024 := ⟨_, rfl⟩
    have he : 65536 + (A - 55296) * 1024 + (B - 56320) = c := by omega
    have l1 : (unitL A).length = 3 := by unfold unitL; rw [if_neg (by omega), if_neg (by omega)]; rfl
    have l2 : (unitL B).length = 3 := by unfold unitL; rw [if_neg (by omega), if_neg (by omega)]; rfl
    have d1 : (unitL A ++ (unitL B ++ t)).drop (unitL A).length = unitL B ++ t := List.drop_left
    have d2 : (unitL A ++ (unitL B ++ t)).drop ((unitL A).length + (unitL B).length) = t := by rw [← List.drop_drop, d1, List.drop_left]
    have o1 := one_unit (r := A) (by omega) (unitL B ++ t)
    have o2 := one_unit (r := B) (by omega) t
    rw [if_pos hc, ← hA, ← hB, List.append_assoc, decS, dif_neg (by simp [unitL_ne]), o1]
    dsimp only
    rw [d1, o2]
    dsimp only
    rw [dif_neg (by omega), if_pos (by omega), if_neg (by omega), d2, he]
  · rw [if_neg hc, decS, dif_neg (by simp [unitL_ne]), one_unit (by omega)]
    dsimp only
    have : 0 < (unitL c).length := List.length_pos_iff.2 (unitL_ne c)
    rw [dif_neg (by omega), if_neg (by omega), List.drop_left]
theorem decS_nil : decS [] = some [] := by rw [decS]; rfl
theorem dec_encs {cs : List Nat} (h : ∀ c ∈ cs, okR c) : decS (cs.flatMap enc1) = some (txt cs) := by
  induction cs with
  | nil => exact decS_nil
  | cons c cs ih =>
    show decS (enc1 c ++ cs.flatMap enc1) = _
    rw [dec_enc1 (h c (by simp)), ih fun d hd => h d (by simp [hd])]; rfl
theorem unit_one {l : List Nat} (h : ∀ b ∈ l, b < 256) (hk : (oneL l).2 ≠ 0) : l = unitL (oneL l).1 ++ l.drop (oneL l).2 := by
  have g0 : l.getD 0 0 < 256 := getD_lt h (by omega)
  have g1 : l.getD 1 0 < 256 := getD_lt h (by omega)
  have g2 : l.getD 2 0 < 256 := getD_lt h (by omega)
  have c1 : 0 < l.length → ∃ a t, l = a :: t := fun h => by
    cases l with
    | nil => simp at h
    | cons a t => exact ⟨a, t, rfl⟩
  have c2 : 1 < l.length → ∃ a b t, l = a :: b :: t := fun h => by
    match l, h with
    | a :: b :: t, _ => exact ⟨a, b, t, rfl⟩
    | [a], h => simp at h
    | [], h => simp at h
  have c3 : 2 < l.length → ∃ a b c t, l = a :: b :: c :: t := fun h => by
    match l, h with
    | a :: b :: c :: t, _ => exact ⟨a, b, c, t, rfl⟩
    | [a, b], h => simp at h
    | [a], h => simp at h
    | [], h => simp at h
  unfold oneL at hk ⊢
  split
  · rename_i h1
    obtain ⟨a, t, rfl⟩ := c1 h1.1
    simp only [List.getD_cons_zero] at h1 ⊢
    unfold unitL
    rw [if_pos (by omega)]; rfl
  · rename_i h1
    rw [if_neg h1] at hk
    split
    · rename_i h2
      rw [if_pos h2] at hk
      split
      · rename_i h3
        obtain ⟨a, b, t, rfl⟩ := c2 h2.1
        simp only [List.getD_cons_zero, List.getD_cons_succ] at h1 h2 h3 g0 g1 ⊢
        unfold unitL
        rw [if_neg (by omega), if_pos (by omega)]
        simp
        omega
      · rename_i h3; rw [if_neg h3] at hk; exact absurd rfl hk
    · rename_i h2
      rw [if_neg h2] at hk
      split
      · rename_i h3
        rw [if_pos h3] at hk
        split
        · rename_i h4
          obtain ⟨a, b, c, t, rfl⟩ := c3 h3.1
          simp only [List.getD_cons_zero, List.getD_cons_succ] at h1 h2 h3 h4 g0 g1 g2 ⊢
          unfold unitL
          rw [if_neg (by omega), if_neg (by omega)]
          simp
          omega
        · rename_i h4; rw [if_neg h4] at hk; exact absurd rfl hk
      · rename_i h3; rw [if_neg h3] at hk; exact absurd rfl hk
/-- what is decoded is the text of runes that are encoded back -/
theorem dec_back : ∀ (n : Nat) {l u : List Nat}, l.length ≤ n → (∀ b ∈ l, b < 256) → decS l = some u → ∃ cs, (∀ c ∈ cs, okR c) ∧ u = txt cs ∧ l = cs.flatMap enc1
  | n, l, u, hn, hb, h => by
    rw [decS] at h
    by_cases h0 : l = []
    · rw [dif_pos h0] at h
      cases h
      exact ⟨[], by simp, rfl, h0⟩
    · rw [dif_neg h0] at h
      by_cases h1 : (oneL l).2 = 0 ∨ (56320 ≤ (oneL l).1 ∧ (oneL l).1 ≤ 57343)
      · rw [dif_pos h1] at h; cases h
      · rw [dif_neg h1] at h
        have hk : (oneL l).2 ≠ 0 := by omega
        have hu := unit_one hb hk
        have hb' : ∀ b ∈ l.drop (oneL l).2, b < 256 := fun b h => hb b (List.mem_of_mem_drop h)
        have hlen : 0 < l.length := List.length_pos_iff.2 h0
        have hr := oneL_lt hb
        cases n with
        | zero => omega
        | succ n =>
          split at h
          · rename_i h2
            split at h
            · cases h
            · rename_i h3
              obtain ⟨u', hu', rfl⟩ := Option.map_eq_some_iff.1 h
              have hu2 := unit_one hb' (by omega)
              obtain ⟨cs, k1, k2, k3⟩ := dec_back n (by rw [List.length_drop]; omega) (fun b h => hb b (List.mem_of_mem_drop h)) hu'
              have hr2 := oneL_lt hb'
              refine ⟨(65536 + ((oneL l).1 - 55296) * 1024 + ((oneL (l.drop (oneL l).2)).1 - 56320)) :: cs, ?_, by rw [k2]; rfl, ?_⟩
              · intro c hc
                rcases List.mem_cons.1 hc with h | h
                · rw [h]; unfold okR; omega
                · exact k1 c h
              · have he : enc1 (65536 + ((oneL l).1 - 55296) * 1024 + ((oneL (l.drop (oneL l).2)).1 - 56320)) = unitL (oneL l).1 ++ unitL (oneL (l.drop (oneL l).2)).1 := by
                  unfold enc1
                  have e1 : 55296 + (65536 + ((oneL l).1 - 55296) * 1024 + ((oneL (l.drop (oneL l).2)).1 - 56320) - 65536) / 1024 = (oneL l).1 := by omega
                  have e2 : 56320 + (65536 + ((oneL l).1 - 55296) * 1024 + ((oneL (l.drop (oneL l).2)).1 - 56320) - 65536) % 1024 = (oneL (l.drop (oneL l).2)).1 := by omega
                  rw [if_pos (by omega), e1, e2]
                rw [List.flatMap_cons, he, ← k3, ← List.drop_drop, List.append_assoc, ← hu2, ← hu]
          · rename_i h2
            obtain ⟨u', hu', rfl⟩ := Option.map_eq_some_iff.1 h
            obtain ⟨cs, k1, k2, k3⟩ := dec_back n (by rw [List.length_drop]; omega) hb' hu'
            refine ⟨(oneL l).1 :: cs, ?_, by rw [k2]; rfl, ?_⟩
            · intro c hc
              rcases List.mem_cons.1 hc with h | h
              · rw [h]; unfold okR; omega
              · exact k1 c h
            · rw [List.flatMap_cons, ← k3]
              have he : enc1 (oneL l).1 = unitL (oneL l).1 := by unfold enc1; rw [if_neg (by omega)]
              rw [he, ← hu]
/-- the text that a text's runes make -/
def normS (s : List Nat) : List Nat := txt (runesS s)
theorem runesOf_eq {cs : List Nat} (h : ∀ c ∈ cs, okR c) : runesOf (cs.map fun c => AV.int .i32 ((c : Nat) : Int)) = some (txt cs) := by
  induction cs with
  | nil => rfl
  | cons c cs ih =>
    show runesOf (AV.int .i32 ((c : Nat) : Int) :: cs.map fun c => AV.int .i32 ((c : Nat) : Int)) = _
    unfold runesOf
    rw [ih fun d hd => h d (by simp [hd]), encodeR_runeL (h c (by simp))]; rfl
theorem normS_lt (s : List Nat) : ∀ b ∈ normS s, b < 256 := txt_lt runesS_ok
theorem normS_len (s : List Nat) : (normS s).length ≤ 4 * s.length := by
  have h : ∀ cs : List Nat, (txt cs).length ≤ 4 * cs.length := by
    intro cs
    induction cs with
    | nil => simp [txt]
    | cons c cs ih =>
      show (runeL c ++ txt cs).length ≤ _
      have := runeL_len c
      simp only [List.length_append, List.length_cons]
      omega
  have h2 := h (runesS s)
  have := runesS_len (l := s)
  unfold normS
  omega
theorem vS_norm (s : List Nat) : vS (normS s) = true := by
  have := vS_txt (cs := runesS s) runesS_ok (t := []) (by simp)
  rw [List.append_nil] at this
  exact this
theorem encS_norm (s : List Nat) : encS (normS s) = (runesS s).flatMap enc1 := by
  have := encS_txt (cs := runesS s) runesS_ok []
  rw [List.append_nil, encS_nil, List.append_nil] at this
  exact this
theorem dec_norm (s : List Nat) : decS (encS (normS s)) = some (normS s) := by rw [encS_norm]; exact dec_encs runesS_ok
theorem dec_then {l u : List Nat} (hb : ∀ b ∈ l, b < 256) (h : decS l = some u) : vS u = true ∧ encS u = l ∧ ∀ b ∈ u, b < 256 := by
  obtain ⟨cs, k1, rfl, rfl⟩ := dec_back _ (Nat.le_refl _) hb h
  have h1 := vS_txt k1 (t := []) (by simp)
  have h2 := encS_txt k1 []
  rw [List.append_nil] at h1 h2
  rw [encS_nil, List.append_nil] at h2
  exact ⟨h1, h2, txt_lt k1⟩
end Go.Proofs.YtnlfcoojlgdgaaaDoor
