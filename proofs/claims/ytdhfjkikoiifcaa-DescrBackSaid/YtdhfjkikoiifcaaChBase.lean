/- Plain facts on bytes: names, references and fields as ranges of bytes. No condition; no program in it. -/
import Derived.Test.YtdhfjkikoiifcaaPDescrReadsx0
namespace Go.Proofs.Ytdhfjkikoiifcaa.Ch2
open Go.RowKit Go.Proofs.YtdhfjkikoiifcaaW.PrintWords

theorem wrap_id (x : Int) (h : -9223372036854775808 ≤ x ∧ x < 9223372036854775808) : wrap64 x = x := by unfold wrap64; omega
theorem bt_nn (a : ByteArray) (i : Int) : 0 ≤ bt a i := (bt_range a i).1
theorem bt_get (a : ByteArray) (i : Nat) (h : i < a.size) : bt a (i : Int) = ((a.data[i]'h).toNat : Int) := by
  unfold bt
  have : (i : Int).toNat = i := by omega
  rw [dif_pos (by rw [this]; exact h)]
  simp only [this]
  rfl
theorem size_ext (a : ByteArray) (i j : Nat) : (a.extract i j).size = min j a.size - i := ByteArray.size_extract
theorem bt_ext (a : ByteArray) (i j m : Nat) (h1 : i + m < j) (h2 : i + m < a.size) : bt (a.extract i j) (m : Int) = bt a ((i + m : Nat) : Int) := by
  have hs : m < (a.extract i j).size := by rw [size_ext]; omega
  rw [bt_get _ _ hs, bt_get _ _ h2]
  congr 2
  simp only [ByteArray.data_extract, Array.getElem_extract]
theorem ba_ext {a b : ByteArray} (hs : a.size = b.size) (h : ∀ i : Nat, i < a.size → bt a (i : Int) = bt b (i : Int)) : a = b := by
  apply ByteArray.ext
  apply Array.ext
  · exact hs
  · intro i h1 h2
    have := h i h1
    rw [bt_get a i h1, bt_get b i h2] at this
    exact UInt8.toNat_inj.1 (by omega)
theorem toList_data (a : ByteArray) : a.toList = a.data.toList := by
  have key : ∀ (d i : Nat) (r : List UInt8), a.size - i = d → ByteArray.toList.loop a i r = r.reverse ++ a.data.toList.drop i := by
    intro d
    induction d with
    | zero =>
      intro i r h
      unfold ByteArray.toList.loop
      rw [if_neg (by omega), List.drop_of_length_le (by rw [Array.length_toList]; exact Nat.le_of_sub_eq_zero h), List.append_nil]
    | succ d ih =>
      intro i r h
      unfold ByteArray.toList.loop
      have hi : i < a.size := by omega
      have hi' : i < a.data.toList.length := by rw [Array.length_toList]; exact hi
      rw [if_pos hi, ih (i + 1) _ (by omega), List.reverse_cons, List.append_assoc, List.drop_eq_getElem_cons hi']
      have : a.get! i = a.data.toList[i] := by
        simp only [ByteArray.get!, Array.getElem_toList]
        exact getElem!_pos a.data i hi
      rw [this]; rfl
  have := key a.size 0 [] rfl
  simpa [ByteArray.toList] using this
theorem toList_inj {a b : ByteArray} : a.toList = b.toList ↔ a = b := by
  rw [toList_data, toList_data]
  constructor
  · intro h; exact ByteArray.ext (Array.ext' h)
  · rintro rfl; rfl
theorem toList_nil (a : ByteArray) : a.toList = [] ↔ a.size = 0 := by
  rw [toList_data, ← List.length_eq_zero_iff, Array.length_toList]; rfl
theorem toList_one (a : ByteArray) (c : UInt8) : a.toList = [c] ↔ a.size = 1 ∧ bt a 0 = c.toNat := by
  have : ([c] : List UInt8) = (⟨#[c]⟩ : ByteArray).toList := by rw [toList_data]
  rw [this, toList_inj]
  constructor
  · rintro rfl; exact ⟨rfl, rfl⟩
  · rintro ⟨h1, h2⟩
    refine ba_ext h1 fun i hi => ?_
    obtain rfl : i = 0 := by omega
    exact h2
theorem ext_all (a : ByteArray) : a.extract 0 a.size = a := by
  refine ba_ext (by rw [size_ext]; omega) fun i hi => ?_
  rw [size_ext] at hi
  rw [bt_ext _ _ _ _ (by omega) (by omega), Nat.zero_add]
theorem ext_ext (a : ByteArray) (i j k l : Nat) (h : i + l ≤ j) (h2 : j ≤ a.size) : (a.extract i j).extract k l = a.extract (i + k) (i + l) := by
  refine ba_ext (by simp only [size_ext]; omega) fun m hm => ?_
  simp only [size_ext] at hm
  rw [bt_ext _ _ _ _ (by omega) (by rw [size_ext]; omega), bt_ext _ _ _ _ (by omega) (by omega), bt_ext _ _ _ _ (by omega) (by omega)]
  congr 1; omega

def letter (c : Int) : Prop := (97 ≤ c ∧ c ≤ 122) ∨ (65 ≤ c ∧ c ≤ 90) ∨ c = 95 ∨ c = 36
def goodc (i c : Int) : Prop := letter c ∨ (i ≠ 0 ∧ 48 ≤ c ∧ c ≤ 57)
instance (i c : Int) : Decidable (goodc i c) := by unfold goodc letter; infer_instance
/-- a name, up to what stands ahead of a place -/
def NameFrom (a : ByteArray) (i : Int) : Prop := (∀ m : Nat, i ≤ m → m < a.size → goodc m (bt a m)) ∧ 0 < a.size ∧ a.size ≤ 64
def IsName (a : ByteArray) : Prop := NameFrom a 0
def IsRef (a : ByteArray) : Prop := 3 ≤ a.size ∧ bt a 0 = 76 ∧ bt a ((a.size - 1 : Nat) : Int) = 59 ∧ IsName (a.extract 1 (a.size - 1))
def IsOne (a : ByteArray) : Prop := (a.size = 1 ∧ bt a 0 = 73) ∨ IsRef a
def IsField (a : ByteArray) : Prop := IsOne a ∨ (0 < a.size ∧ bt a 0 = 91 ∧ IsOne (a.extract 1 a.size))
/-- the place of the first ';' -/
def Semi (a : ByteArray) (i : Nat) : Prop := i < a.size ∧ bt a i = 59 ∧ ∀ m : Nat, m < i → bt a m ≠ 59
theorem Semi.eq {a : ByteArray} {i j : Nat} (h : Semi a i) (k : Semi a j) : i = j := by
  rcases Nat.lt_trichotomy i j with h1 | h1 | h1
  · exact absurd h.2.1 (k.2.2 i h1)
  · exact h1
  · exact absurd k.2.1 (h.2.2 j h1)
theorem indexByte_semi (a : ByteArray) : (Lib.indexByte a.data.toList 59 = -1 ∧ ∀ m : Nat, m < a.size → bt a m ≠ 59) ∨ ∃ i : Nat, Lib.indexByte a.data.toList 59 = i ∧ Semi a i := by
  have key : ∀ l : List UInt8, (Lib.indexByte l 59 = -1 ∧ ∀ (m : Nat) x, l[m]? = some x → x ≠ 59) ∨ ∃ i : Nat, Lib.indexByte l 59 = i ∧ l[i]? = some 59 ∧ ∀ (m : Nat) x, m < i → l[m]? = some x → x ≠ 59 := by
    intro l
    induction l with
    | nil => exact .inl ⟨rfl, fun m x h => by simp at h⟩
    | cons b l ih =>
      unfold Lib.indexByte
      by_cases hb : b = 59
      · subst hb
        exact .inr ⟨0, rfl, rfl, fun m x h => by omega⟩
      · have hb' : (b == 59) = false := by simpa using hb
        rw [hb']
        simp only [Bool.false_eq_true, if_false]
        rcases ih with ⟨h1, h2⟩ | ⟨i, h1, h2, h3⟩
        · left
          rw [h1]
          refine ⟨rfl, fun m x h => ?_⟩
          cases m with
          | zero => simp at h; subst h; exact hb
          | succ m => exact h2 m x (by simpa using h)
        · right
          refine ⟨i + 1, ?_, by simpa using h2, fun m x hm h => ?_⟩
          · rw [h1]
            have : ((i : Int) == -1) = false := by simp
            rw [this]; simp
          · cases m with
            | zero => simp at h; subst h; exact hb
            | succ m => exact h3 m x (by omega) (by simpa using h)
  have get : ∀ m : Nat, ∀ h : m < a.size, a.data.toList[m]? = some (a.data[m]'h) := by
    intro m h
    rw [List.getElem?_eq_getElem (by rw [Array.length_toList]; exact h), Array.getElem_toList]
  rcases key a.data.toList with ⟨h1, h2⟩ | ⟨i, h1, h2, h3⟩
  · refine .inl ⟨h1, fun m hm hb => ?_⟩
    rw [bt_get a m hm] at hb
    exact h2 m _ (get m hm) (UInt8.toNat_inj.1 (by have : (59 : UInt8).toNat = 59 := rfl; omega))
  · have hi : i < a.size := by
      rcases Nat.lt_or_ge i a.size with h | h
      · exact h
      · rw [List.getElem?_eq_none (by rw [Array.length_toList]; exact h)] at h2; cases h2
    refine .inr ⟨i, h1, hi, ?_, fun m hm hb => ?_⟩
    · rw [get i hi] at h2
      rw [bt_get a i hi, Option.some.inj h2]; rfl
    · have hm' : m < a.size := by omega
      rw [bt_get a m hm'] at hb
      exact h3 m _ hm (get m hm') (UInt8.toNat_inj.1 (by have : (59 : UInt8).toNat = 59 := rfl; omega))

/-- the ranges of bytes that are references, single fields, fields -/
def RefR (a : ByteArray) (i n : Nat) : Prop := i + 3 ≤ n ∧ bt a i = 76 ∧ bt a ((n - 1 : Nat) : Int) = 59 ∧ n ≤ i + 66 ∧ ∀ m : Nat, i + 1 ≤ m → m + 1 < n → goodc ((m - (i + 1) : Nat) : Int) (bt a m)
def OneR (a : ByteArray) (i n : Nat) : Prop := (n = i + 1 ∧ bt a i = 73) ∨ RefR a i n
def FieldR (a : ByteArray) (n : Nat) : Prop := OneR a 0 n ∨ (0 < n ∧ bt a 0 = 91 ∧ OneR a 1 n)
theorem isName_range (a : ByteArray) (i n : Nat) (hn : n ≤ a.size) : IsName (a.extract i n) ↔ i < n ∧ n ≤ i + 64 ∧ ∀ m : Nat, i ≤ m → m < n → goodc ((m - i : Nat) : Int) (bt a m) := by
  unfold IsName NameFrom
  rw [size_ext]
  constructor
  · rintro ⟨h1, h2, h3⟩
    refine ⟨by omega, by omega, fun m hm1 hm2 => ?_⟩
    have := h1 (m - i) (by omega) (by omega)
    rw [bt_ext _ _ _ _ (by omega) (by omega)] at this
    rwa [show i + (m - i) = m by omega] at this
  · rintro ⟨h1, h2, h3⟩
    refine ⟨fun m _ hm => ?_, by omega, by omega⟩
    rw [bt_ext _ _ _ _ (by omega) (by omega)]
    have := h3 (i + m) (by omega) (by omega)
    rwa [show i + m - i = m by omega] at this
theorem isRef_range (a : ByteArray) (i n : Nat) (hn : n ≤ a.size) : IsRef (a.extract i n) ↔ RefR a i n := by
  unfold IsRef RefR
  rw [size_ext]
  constructor
  · rintro ⟨h1, h2, h3, h4⟩
    rw [ext_ext _ _ _ _ _ (by omega) hn, isName_range _ _ _ (by omega)] at h4
    obtain ⟨g1, g2, g3⟩ := h4
    refine ⟨by omega, ?_, ?_, by omega, fun m hm1 hm2 => g3 m hm1 (by omega)⟩
    · have := bt_ext a i n 0 (by omega) (by omega)
      rw [show ((0 : Nat) : Int) = 0 from rfl] at this
      rw [this] at h2; simpa using h2
    · rw [bt_ext _ _ _ _ (by omega) (by omega)] at h3
      rwa [show i + (min n a.size - i - 1) = n - 1 by omega] at h3
  · rintro ⟨h1, h2, h3, h4, h5⟩
    refine ⟨by omega, ?_, ?_, ?_⟩
    · have := bt_ext a i n 0 (by omega) (by omega)
      rw [show ((0 : Nat) : Int) = 0 from rfl] at this
      rw [this]; simpa using h2
    · rw [bt_ext _ _ _ _ (by omega) (by omega), show i + (min n a.size - i - 1) = n - 1 by omega]; exact h3
    · rw [ext_ext _ _ _ _ _ (by omega) hn, isName_range _ _ _ (by omega)]
      exact ⟨by omega, by omega, fun m hm1 hm2 => h5 m hm1 (by omega)⟩
theorem isOne_range (a : ByteArray) (i n : Nat) (hn : n ≤ a.size) : IsOne (a.extract i n) ↔ OneR a i n := by
  unfold IsOne OneR
  rw [isRef_range a i n hn, size_ext]
  have e : i < n → bt (a.extract i n) 0 = bt a i := by
    intro h
    have := bt_ext a i n 0 (by omega) (by omega)
    simpa using this
  constructor
  · rintro (⟨h1, h2⟩ | h)
    · rw [e (by omega)] at h2; exact .inl ⟨by omega, h2⟩
    · exact .inr h
  · rintro (⟨h1, h2⟩ | h)
    · exact .inl ⟨by omega, by rw [e (by omega)]; exact h2⟩
    · exact .inr h
theorem isField_range (a : ByteArray) (n : Nat) (hn : n ≤ a.size) : IsField (a.extract 0 n) ↔ FieldR a n := by
  unfold IsField FieldR
  rw [isOne_range a 0 n hn, size_ext, ext_ext a 0 n 1 (min n a.size - 0) (by omega) hn, show 0 + (min n a.size - 0) = n by omega, isOne_range a (0 + 1) n hn]
  have e : 0 < n → bt (a.extract 0 n) 0 = bt a 0 := by
    intro h
    have := bt_ext a 0 n 0 (by omega) (by omega)
    simpa using this
  constructor
  · rintro (h | ⟨h1, h2, h3⟩)
    · exact .inl h
    · exact .inr ⟨by omega, by rw [← e (by omega)]; exact h2, h3⟩
  · rintro (h | ⟨h1, h2, h3⟩)
    · exact .inl h
    · exact .inr ⟨by omega, by rw [e (by omega)]; exact h2, h3⟩
theorem goodc_59 {i : Int} : ¬ goodc i 59 := by unfold goodc letter; omega
theorem RefR.semi {a : ByteArray} {i n : Nat} (h : RefR a i n) : ∀ m : Nat, i ≤ m → m + 1 < n → bt a m ≠ 59 := by
  obtain ⟨h1, h2, h3, h4, h5⟩ := h
  intro m hm1 hm2 hb
  rcases Nat.eq_or_lt_of_le hm1 with h | h
  · subst h; omega
  · have := h5 m h hm2
    rw [hb] at this
    exact goodc_59 this
theorem OneR.eq {a : ByteArray} {i n m : Nat} (h : OneR a i n) (k : OneR a i m) : n = m := by
  rcases h with ⟨h1, h2⟩ | h <;> rcases k with ⟨k1, k2⟩ | k
  · omega
  · have := k.2.1; omega
  · have := h.2.1; omega
  · have h0 := h.1; have k0 := k.1
    rcases Nat.lt_trichotomy n m with g | g | g
    · exact absurd h.2.2.1 (k.semi (n - 1) (by omega) (by omega))
    · exact g
    · exact absurd k.2.2.1 (h.semi (m - 1) (by omega) (by omega))
theorem OneR.first {a : ByteArray} {i n : Nat} (h : OneR a i n) : i < n ∧ (bt a i = 73 ∨ bt a i = 76) := by
  rcases h with ⟨h1, h2⟩ | h
  · exact ⟨by omega, .inl h2⟩
  · have := h.1; exact ⟨by omega, .inr h.2.1⟩
theorem FieldR.eq {a : ByteArray} {n m : Nat} (h : FieldR a n) (k : FieldR a m) : n = m := by
  rcases h with h | ⟨h1, h2, h3⟩ <;> rcases k with k | ⟨k1, k2, k3⟩
  · exact h.eq k
  · have := h.first.2; have : ((0 : Nat) : Int) = 0 := rfl; simp only [this] at *; omega
  · have := k.first.2; have : ((0 : Nat) : Int) = 0 := rfl; simp only [this] at *; omega
  · exact h3.eq k3
/-- how many bytes the field has with which a text begins; 0: there is none -/
def Fld (a : ByteArray) (n : Nat) : Prop := (1 ≤ n ∧ n ≤ a.size ∧ FieldR a n) ∨ (n = 0 ∧ ∀ m : Nat, m ≤ a.size → ¬ FieldR a m)
theorem Fld.eq {a : ByteArray} {n m : Nat} (h : Fld a n) (k : Fld a m) : n = m := by
  rcases h with ⟨h1, h2, h3⟩ | ⟨h1, h2⟩ <;> rcases k with ⟨k1, k2, k3⟩ | ⟨k1, k2⟩
  · exact h3.eq k3
  · exact absurd h3 (k2 n h2)
  · exact absurd k3 (h2 m k2)
  · omega
theorem FieldR.pos {a : ByteArray} {n : Nat} (h : FieldR a n) : 1 ≤ n := by
  rcases h with h | ⟨h1, _, h3⟩
  · have := h.first.1; omega
  · have := h3.first.1; omega
end Go.Proofs.Ytdhfjkikoiifcaa.Ch2
