/- Texts as runes, and their bytes in mutf: plain definitions. -/
import Derived.Test.YtnlfcoojlgdgaaaDoorGXTab
namespace Go.Proofs.YtnlfcoojlgdgaaaDoor
open GX
theorem dec_pos (l : List Nat) : 1 ≤ (decodeR l).2 := by
  unfold decodeR
  split
  · exact Nat.le_refl _
  · dsimp only
    repeat' split
    all_goals simp
theorem dec_lt (l : List Nat) : (decodeR l).1 < 1114112 := by
  unfold decodeR
  split
  · simp [Utf8.runeError]
  · dsimp only
    split
    · rename_i h; dsimp only; omega
    · split
      · split
        · dsimp only; omega
        · simp [Utf8.runeError]
      · split
        · split
          · dsimp only; omega
          · simp [Utf8.runeError]
        · split
          · split
            · rename_i h
              simp only [Bool.and_eq_true, Utf8.valid] at h
              dsimp only
              simp at h ⊢
              omega
            · simp [Utf8.runeError]
          · simp [Utf8.runeError]
theorem cont_len {l : List Nat} {k : Nat} (h : (l.getD k 0 / 64 == 2) = true) : k < l.length := by
  rcases Nat.lt_or_ge k l.length with hk | hk
  · exact hk
  · rw [List.getD_eq_getElem?_getD, List.getElem?_eq_none hk] at h; cases h
theorem dec_le {l : List Nat} (h : l ≠ []) : (decodeR l).2 ≤ l.length := by
  cases l with
  | nil => exact absurd rfl h
  | cons b t =>
    unfold decodeR
    dsimp only
    split
    · simp
    · split
      · rename_i h1
        simp only [Bool.and_eq_true] at h1
        have := cont_len h1.2
        split <;> simp <;> omega
      · split
        · rename_i h1
          simp only [Bool.and_eq_true] at h1
          have := cont_len h1.2
          split <;> simp <;> omega
        · split
          · rename_i h1
            simp only [Bool.and_eq_true] at h1
            have := cont_len h1.2
            split <;> simp <;> omega
          · simp
/-- the runes of a text -/
def runesS (l : List Nat) : List Nat :=
  match l with
  | [] => []
  | b :: t => (decodeR (b :: t)).1 :: runesS ((b :: t).drop (decodeR (b :: t)).2)
termination_by l.length
decreasing_by have := dec_pos (b :: t); simp only [List.length_drop, List.length_cons]; omega
theorem runesS_nil : runesS [] = [] := by unfold runesS; rfl
theorem runesS_ne {l : List Nat} (h : l ≠ []) : runesS l = (decodeR l).1 :: runesS (l.drop (decodeR l).2) := by
  cases l with
  | nil => exact absurd rfl h
  | cons b t => rw [runesS]
theorem runesS_lt {l : List Nat} : ∀ c ∈ runesS l, c < 1114112 := by
  induction l using runesS.induct with
  | case1 => rw [runesS_nil]; simp
  | case2 b t ih =>
    rw [runesS_ne (by simp)]
    intro c hc
    rcases List.mem_cons.1 hc with h | h
    · rw [h]; exact dec_lt _
    · exact ih c h
theorem runesS_len {l : List Nat} : (runesS l).length ≤ l.length := by
  induction l using runesS.induct with
  | case1 => rw [runesS_nil]; simp
  | case2 b t ih =>
    rw [runesS_ne (by simp)]
    have := dec_pos (b :: t)
    simp only [List.length_cons, List.length_drop] at ih ⊢
    omega
theorem runesFrom_eq {n : Nat} {l : List Nat} (h : l.length ≤ n) : runesFrom n l = (runesS l).map fun c => .int .i32 ((c : Nat) : Int) := by
  induction n generalizing l with
  | zero => cases List.eq_nil_of_length_eq_zero (Nat.le_zero.1 h); rw [runesS_nil]; rfl
  | succ n ih =>
    cases l with
    | nil => rw [runesS_nil]; rfl
    | cons b t =>
      rw [runesS_ne (by simp)]
      unfold runesFrom
      dsimp only
      rw [ih (by have := dec_pos (b :: t); simp only [List.length_cons, List.length_drop] at h ⊢; omega)]
      rfl
def unitL (r : Nat) : List Nat :=
  if 0 < r ∧ r < 128 then [r] else if r < 2048 then [192 + r / 64, 128 + r % 64] else [224 + r / 4096, 128 + r / 64 % 64, 128 + r % 64]
def enc1 (r : Nat) : List Nat :=
  if 65535 < r then unitL (55296 + (r - 65536) / 1024) ++ unitL (56320 + (r - 65536) % 1024) else unitL r
/-- a text's bytes in mutf -/
def encS (l : List Nat) : List Nat := (runesS l).flatMap enc1
theorem encS_nil : encS [] = [] := by unfold encS; rw [runesS_nil]; rfl
theorem encS_ne {l : List Nat} (h : l ≠ []) : encS l = enc1 (decodeR l).1 ++ encS (l.drop (decodeR l).2) := by
  unfold encS; rw [runesS_ne h]; rfl
theorem unitL_len (r : Nat) : (unitL r).length ≤ 3 := by unfold unitL; (repeat' split) <;> simp
theorem enc1_len (r : Nat) : (enc1 r).length ≤ 6 := by
  unfold enc1
  split
  · have h1 := unitL_len (55296 + (r - 65536) / 1024); have h2 := unitL_len (56320 + (r - 65536) % 1024); simp only [List.length_append]; omega
  · have := unitL_len r; omega
theorem encS_len (l : List Nat) : (encS l).length ≤ 6 * l.length := by
  induction l using runesS.induct with
  | case1 => rw [encS_nil]; simp
  | case2 b t ih =>
    rw [encS_ne (by simp)]
    have := dec_pos (b :: t)
    have := enc1_len (decodeR (b :: t)).1
    simp only [List.length_cons, List.length_drop, List.length_append] at ih ⊢
    omega
/-- is it UTF-8? -/
noncomputable def vS (l : List Nat) : Bool := Lib.validD (l.map UInt8.ofNat)
/-! memory -/
/-- a slice of bytes of its own -/
abbrev Ow (S : St) (v : AV) (l : List Nat) : Prop := Own S v 5 1 (sbytes l) l.length
/-- what a run leaves as it was: the blocks below the number, but one slice's -/
structure Fr (S S' : St) (v : AV) (k : Nat) : Prop where
  le : S.n ≤ S'.n
  n : S'.n ≤ S.n + k
  ok : Sok S'
  same : ∀ c, blkOf v ≠ some c → c < S.n → S'.h.get c = S.h.get c
end Go.Proofs.YtnlfcoojlgdgaaaDoor
