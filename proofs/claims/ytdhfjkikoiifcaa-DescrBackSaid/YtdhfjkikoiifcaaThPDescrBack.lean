/- What the printed functions of descr and of the document answer: names, fields, the length of a field, methods. No condition but that a text is no greater than an int. -/
import Derived.Test.YtdhfjkikoiifcaaChBase
import Derived.Test.YtdhfjkikoiifcaaPDescrBackx5
namespace Go.Proofs.Ytdhfjkikoiifcaa.ThPDescrBack
open Go.RowKit Go.Proofs.YtdhfjkikoiifcaaW.PrintWords Go.Proofs.Ytdhfjkikoiifcaa.Ch2 Go.Proofs.Ytdhfjkikoiifcaa.PDescrBack
set_option linter.unusedSimpArgs false

theorem NameFrom.step {a : ByteArray} {i : Nat} (h : i < a.size) : NameFrom a i ↔ goodc i (bt a i) ∧ NameFrom a ((i : Int) + 1) := by
  unfold NameFrom
  constructor
  · rintro ⟨h1, h2, h3⟩
    exact ⟨h1 i (by omega) h, fun m hm hl => h1 m (by omega) hl, h2, h3⟩
  · rintro ⟨h0, h1, h2, h3⟩
    refine ⟨fun m hm hl => ?_, h2, h3⟩
    rcases Int.lt_or_eq_of_le hm with g | g
    · exact h1 m (by omega) hl
    · have : m = i := by omega
      subst this; exact h0
theorem nameFrom_end {a : ByteArray} : NameFrom a (a.size : Int) ↔ 0 < a.size ∧ a.size ≤ 64 := by
  unfold NameFrom
  constructor
  · rintro ⟨_, h2, h3⟩; exact ⟨h2, h3⟩
  · rintro ⟨h2, h3⟩; exact ⟨fun m hm hl => by omega, h2, h3⟩
set_option maxHeartbeats 4000000 in
theorem descr_loop (a : ByteArray) (hs : a.size ≤ 140737488351232) : ∀ (d i : Nat), i + d = a.size → ∀ k, d < k → ∃ b, descr_Name.l0 k a (a.size : Int) (i : Int) = some b ∧ (b = true ↔ NameFrom a i) := by
  intro d
  induction d with
  | zero =>
    intro i hi k hk
    obtain ⟨k, rfl⟩ : ∃ m, k = m + 1 := ⟨k - 1, by omega⟩
    have hi' : i = a.size := by omega
    subst hi'
    simp only [descr_Name.l0]
    rw [if_neg (by omega)]
    by_cases h0 : a.toList = []
    · rw [if_pos h0]
      refine ⟨_, rfl, ?_⟩
      rw [nameFrom_end]
      have := (toList_nil a).1 h0
      constructor
      · intro h; cases h
      · omega
    · rw [if_neg h0]
      refine ⟨_, rfl, ?_⟩
      rw [nameFrom_end]
      have := mt (toList_nil a).2 h0
      simp only [decide_eq_true_eq]
      omega
  | succ d ih =>
    intro i hi k hk
    obtain ⟨k, rfl⟩ : ∃ m, k = m + 1 := ⟨k - 1, by omega⟩
    obtain ⟨b, hb, hb'⟩ := ih (i + 1) (by omega) k (by omega)
    rw [NameFrom.step (by omega)]
    rw [show ((i + 1 : Nat) : Int) = (i : Int) + 1 by omega] at hb hb'
    rw [← hb']
    have hw : wrap64 ((i : Int) + 1) = (i : Int) + 1 := wrap_id _ (by omega)
    simp only [descr_Name.l0]
    rw [if_pos (show (i : Int) < (a.size : Int) by omega), if_pos (show (0 : Int) ≤ (i : Int) by omega), if_pos (show (i : Int) < (a.size : Int) by omega), hw, hb]
    generalize bt a (i : Int) = c
    by_cases hg : goodc (i : Int) c
    · refine ⟨b, ?_, by simp [hg]⟩
      unfold goodc letter at hg
      repeat' split
      all_goals first | rfl | (exfalso; omega)
    · refine ⟨false, ?_, by simp [hg]⟩
      unfold goodc letter at hg
      repeat' split
      all_goals first | rfl | (exfalso; omega)
set_option maxHeartbeats 4000000 in
theorem ref_loop (a : ByteArray) (hs : a.size ≤ 9223372036854775807) : ∀ (d i : Nat), i + d = a.size → ∀ k, d < k → ∃ b, caraferef2_Name.l0 k a (i : Int) = some b ∧ (b = true ↔ NameFrom a i) := by
  intro d
  induction d with
  | zero =>
    intro i hi k hk
    obtain ⟨k, rfl⟩ : ∃ m, k = m + 1 := ⟨k - 1, by omega⟩
    have hi' : i = a.size := by omega
    subst hi'
    simp only [caraferef2_Name.l0]
    rw [if_neg (by omega)]
    by_cases h0 : (a.size : Int) ≥ 1
    · rw [if_pos h0]
      refine ⟨_, rfl, ?_⟩
      rw [nameFrom_end]
      simp only [decide_eq_true_eq]
      omega
    · rw [if_neg h0]
      refine ⟨_, rfl, ?_⟩
      rw [nameFrom_end]
      constructor
      · intro h; cases h
      · omega
  | succ d ih =>
    intro i hi k hk
    obtain ⟨k, rfl⟩ : ∃ m, k = m + 1 := ⟨k - 1, by omega⟩
    obtain ⟨b, hb, hb'⟩ := ih (i + 1) (by omega) k (by omega)
    rw [NameFrom.step (by omega)]
    rw [show ((i + 1 : Nat) : Int) = (i : Int) + 1 by omega] at hb hb'
    rw [← hb']
    have hw : wrap64 ((i : Int) + 1) = (i : Int) + 1 := wrap_id _ (by omega)
    rw [caraferef2_Name.l0]
    rw [if_pos (show (i : Int) < (a.size : Int) by omega), if_pos (show (0 : Int) ≤ (i : Int) by omega), hw, hb]
    generalize bt a (i : Int) = c
    by_cases hg : goodc (i : Int) c
    · refine ⟨b, ?_, by simp [hg]⟩
      unfold goodc letter at hg
      repeat' split
      all_goals first | rfl | (exfalso; omega)
    · refine ⟨false, ?_, by simp [hg]⟩
      unfold goodc letter at hg
      repeat' split
      all_goals first | rfl | (exfalso; omega)
theorem descr_name (a : ByteArray) (hs : a.size ≤ 140737488351232) : ∃ b, Ev (fun k => descr_Name.f k a) b ∧ (b = true ↔ IsName a) := by
  obtain ⟨b, h1, h2⟩ := descr_loop a hs a.size 0 (by omega) (a.size + 1) (by omega)
  exact ⟨b, Ev.of (descr_Name.mono a) h1, h2⟩
theorem ref_name (a : ByteArray) (hs : a.size ≤ 9223372036854775807) : ∃ b, Ev (fun k => caraferef2_Name.f k a) b ∧ (b = true ↔ IsName a) := by
  obtain ⟨b, h1, h2⟩ := ref_loop a hs a.size 0 (by omega) (a.size + 1) (by omega)
  exact ⟨b, Ev.of (caraferef2_Name.mono a) h1, h2⟩

/-! prefixes and suffixes of one byte -/
theorem lit_size (c : UInt8) : (⟨#[c]⟩ : ByteArray).size = 1 := rfl
theorem lit_list (c : UInt8) : (⟨#[c]⟩ : ByteArray).toList = [c] := by rw [toList_data]
def Pre (a : ByteArray) (c : UInt8) : Prop := 0 < a.size ∧ bt a 0 = c.toNat
instance (a : ByteArray) (c : UInt8) : Decidable (Pre a c) := by unfold Pre; infer_instance
def Suf (a : ByteArray) (c : UInt8) : Prop := 0 < a.size ∧ bt a ((a.size - 1 : Nat) : Int) = c.toNat
instance (a : ByteArray) (c : UInt8) : Decidable (Suf a c) := by unfold Suf; infer_instance
theorem beq_list (b : ByteArray) (c : UInt8) (h : b.size = 1) : (b.toList == [c]) = decide (bt b 0 = c.toNat) := by
  rw [Bool.eq_iff_iff, beq_iff_eq, toList_one, decide_eq_true_eq]
  exact ⟨fun x => x.2, fun x => ⟨h, x⟩⟩
theorem hp (a : ByteArray) (c : UInt8) : stringslite_HasPrefix.f a ⟨#[c]⟩ = some (decide (Pre a c)) := by
  unfold stringslite_HasPrefix.f Pre
  rw [lit_size, lit_list]
  by_cases h : 0 < a.size
  · rw [if_pos (by omega), if_pos (by omega), if_pos (by omega), beq_list _ _ (by rw [size_ext]; omega)]
    have := bt_ext a 0 1 0 (by omega) (by omega)
    have e : bt (a.extract 0 1) 0 = bt a 0 := by simpa using this
    simp [h, e]
  · rw [if_neg (by omega)]
    simp [h]
theorem hp' (a : ByteArray) (c : UInt8) : strings_HasPrefix.f a ⟨#[c]⟩ = some (decide (Pre a c)) := by
  unfold strings_HasPrefix.f; rw [hp]; rfl
theorem cut (a : ByteArray) (c : UInt8) : strings_CutPrefix.f a ⟨#[c]⟩ = some (if Pre a c then (a.extract 1 a.size, true) else (a, false)) := by
  unfold strings_CutPrefix.f stringslite_CutPrefix.f
  rw [hp, lit_size]
  simp only [Option.bind_some, decide_eq_true_eq]
  by_cases h : Pre a c
  · have := h.1
    rw [if_pos h, if_pos h, if_pos (by omega), if_pos (by omega)]; rfl
  · rw [if_neg h, if_neg h]; rfl
theorem trim (a : ByteArray) (c : UInt8) : strings_TrimPrefix.f a ⟨#[c]⟩ = some (if Pre a c then a.extract 1 a.size else a) := by
  unfold strings_TrimPrefix.f stringslite_TrimPrefix.f
  rw [hp, lit_size]
  simp only [Option.bind_some, decide_eq_true_eq]
  by_cases h : Pre a c
  · have := h.1
    rw [if_pos h, if_pos h, if_pos (by omega), if_pos (by omega)]; rfl
  · rw [if_neg h, if_neg h]; rfl
theorem hs_ (a : ByteArray) (c : UInt8) (hs : a.size ≤ 140737488351232) : stringslite_HasSuffix.f a ⟨#[c]⟩ = some (decide (Suf a c)) := by
  unfold stringslite_HasSuffix.f Suf
  rw [lit_size, lit_list]
  by_cases h : 0 < a.size
  · have hw : wrap64 ((a.size : Int) - ((1 : Nat) : Int)) = ((a.size - 1 : Nat) : Int) := by rw [wrap_id _ (by omega)]; omega
    rw [if_pos (by omega), hw, if_pos (by omega), if_pos (by omega), Int.toNat_natCast, beq_list _ _ (by rw [size_ext]; omega)]
    have := bt_ext a (a.size - 1) a.size 0 (by omega) (by omega)
    have e : bt (a.extract (a.size - 1) a.size) 0 = bt a ((a.size - 1 : Nat) : Int) := by simpa using this
    simp only [h, e, true_and]
  · rw [if_neg (by omega)]
    simp [h]
theorem cutS (a : ByteArray) (c : UInt8) (hs : a.size ≤ 140737488351232) : strings_CutSuffix.f a ⟨#[c]⟩ = some (if Suf a c then (a.extract 0 (a.size - 1), true) else (a, false)) := by
  unfold strings_CutSuffix.f stringslite_CutSuffix.f
  rw [hs_ a c hs, lit_size]
  simp only [Option.bind_some, decide_eq_true_eq]
  by_cases h : Suf a c
  · have h0 := h.1
    have hw : wrap64 ((a.size : Int) - ((1 : Nat) : Int)) = ((a.size - 1 : Nat) : Int) := by rw [wrap_id _ (by omega)]; omega
    rw [if_pos h, if_pos h, hw, if_pos (by omega), if_pos (by omega), Int.toNat_natCast]; rfl
  · rw [if_neg h, if_neg h]; rfl

/-! the class of a reference -/
noncomputable def clsOf (a : ByteArray) : ByteArray := open Classical in if IsRef a then a.extract 1 (a.size - 1) else ⟨#[]⟩
theorem cls0 (a : ByteArray) (hs : a.size ≤ 140737488351232) : Ev (fun k => descr_Class0.j0 k a false) (clsOf a) := by
  by_cases hp : Pre a 76
  · by_cases hq : Suf (a.extract 1 a.size) 59
    · have hsz : 2 ≤ a.size := by have := hq.1; rw [size_ext] at this; omega
      have he : (a.extract 1 a.size).extract 0 ((a.extract 1 a.size).size - 1) = a.extract 1 (a.size - 1) := by
        rw [size_ext, ext_ext _ _ _ _ _ (by omega) (by omega)]; congr 1; omega
      obtain ⟨b, h1, h2⟩ := descr_name (a.extract 1 (a.size - 1)) (by rw [size_ext]; omega)
      refine Ev.step (f := fun k => (descr_Name.f k (a.extract 1 (a.size - 1))).bind fun t => if t = true then some (a.extract 1 (a.size - 1)) else some ⟨#[]⟩) (fun k => ?_) (h1.bind ?_)
      · simp only [descr_Class0.j0, cut, Option.bind_some, cutS _ _ (show (a.extract 1 a.size).size ≤ 140737488351232 by rw [size_ext]; omega), if_pos hp, if_pos hq, he, Bool.false_eq_true, if_false, if_true]
      · have hl := hq.2
        rw [size_ext, bt_ext _ _ _ _ (by omega) (by omega), show 1 + (min a.size a.size - 1 - 1) = a.size - 1 by omega] at hl
        have key : IsRef a ↔ b = true := by
          rw [h2]; unfold IsRef
          constructor
          · exact fun h => h.2.2.2
          · intro h
            have := h.2.1
            rw [size_ext] at this
            exact ⟨by omega, hp.2, hl, h⟩
        cases b with
        | true => rw [show clsOf a = a.extract 1 (a.size - 1) by unfold clsOf; rw [if_pos (key.2 rfl)]]; exact Ev.now _
        | false => rw [show clsOf a = ⟨#[]⟩ by unfold clsOf; rw [if_neg (fun h => by have := key.1 h; cases this)]]; exact Ev.now _
    · have hn : ¬ IsRef a := by
        rintro ⟨h1, h2, h3, h4⟩
        apply hq
        refine ⟨by rw [size_ext]; omega, ?_⟩
        rw [size_ext, bt_ext _ _ _ _ (by omega) (by omega), show 1 + (min a.size a.size - 1 - 1) = a.size - 1 by omega]
        exact h3
      rw [show clsOf a = ⟨#[]⟩ by unfold clsOf; rw [if_neg hn]]
      refine Ev.step (f := fun _ => some ⟨#[]⟩) (fun k => ?_) (Ev.now _)
      simp only [descr_Class0.j0, cut, Option.bind_some, cutS _ _ (show (a.extract 1 a.size).size ≤ 140737488351232 by rw [size_ext]; omega), if_pos hp, if_neg hq, Bool.false_eq_true, if_false, if_true]
  · have hn : ¬ IsRef a := fun h => hp ⟨by have := h.1; omega, h.2.1⟩
    rw [show clsOf a = ⟨#[]⟩ by unfold clsOf; rw [if_neg hn]]
    refine Ev.step (f := fun _ => some ⟨#[]⟩) (fun k => ?_) (Ev.now _)
    simp only [descr_Class0.j0, cut, Option.bind_some, cutS _ _ hs, if_neg hp, Bool.false_eq_true, if_false]
theorem cls1 (a : ByteArray) (hs : a.size ≤ 140737488351232) : Ev (fun k => descr_Class.j0 k a false) (clsOf a) := by
  refine (cls0 a hs).congr (fun k => ?_)
  cases k with
  | zero => rfl
  | succ k => rfl

theorem pre_bt {a : ByteArray} {c : UInt8} (h : Pre a c) : bt a 0 = c.toNat := h.2
theorem field_iff (a : ByteArray) : IsField a ↔ IsOne (if Pre a 91 then a.extract 1 a.size else a) := by
  unfold IsField
  by_cases hp : Pre a 91
  · rw [if_pos hp]
    have h0 := hp.2
    constructor
    · rintro (h | ⟨_, _, h⟩)
      · exfalso
        rcases h with ⟨_, h⟩ | h
        · rw [h0] at h; simp at h
        · have := h.2.1; rw [h0] at this; simp at this
      · exact h
    · intro h; exact .inr ⟨hp.1, by rw [h0]; rfl, h⟩
  · rw [if_neg hp]
    constructor
    · rintro (h | ⟨h1, h2, _⟩)
      · exact h
      · exact absurd ⟨h1, by rw [h2]; rfl⟩ hp
    · exact .inl
theorem descr_field (a : ByteArray) (hs : a.size ≤ 140737488351232) : ∃ b, Ev (fun k => descr_Field.f k a) b ∧ (b = true ↔ IsField a) := by
  rw [field_iff]
  generalize ht : (if Pre a 91 then a.extract 1 a.size else a) = t
  have hts : t.size ≤ 140737488351232 := by subst ht; split <;> first | assumption | (rw [size_ext]; omega)
  have hf : ∀ k, descr_Field.f k a = (if t.toList = ([73] : List UInt8) then some true else if Pre t 91 then some false else (descr_Class0.j0 k t false).bind fun c => some (c.toList != ([] : List UInt8))) := by
    intro k
    unfold descr_Field.f descr_Class0.f
    rw [trim, ht]
    simp only [Option.bind_some, hp', decide_eq_true_eq]
    by_cases h1 : Pre t 91
    · simp [h1]
    · simp [h1]
  by_cases h1 : t.toList = [73]
  · refine ⟨true, (Ev.now true).congr (fun k => ?_), ?_⟩
    · rw [hf, if_pos h1]
    · have := (toList_one t 73).1 h1
      exact ⟨fun _ => .inl this, fun _ => rfl⟩
  · have hI : ¬ (t.size = 1 ∧ bt t 0 = 73) := fun h => h1 ((toList_one t 73).2 h)
    by_cases h2 : Pre t 91
    · refine ⟨false, (Ev.now false).congr (fun k => ?_), ?_⟩
      · rw [hf, if_neg h1, if_pos h2]
      · have h0 := h2.2
        constructor
        · intro h; cases h
        · rintro (h | h)
          · exact absurd h hI
          · have := h.2.1; rw [h0] at this; simp at this
    · refine ⟨(clsOf t).toList != [], ?_, ?_⟩
      · refine ((cls0 t hts).bind (f := fun _ c => some (c.toList != ([] : List UInt8))) (Ev.now _)).congr (fun k => ?_)
        rw [hf, if_neg h1, if_neg h2]
      · rw [bne_iff_ne, ne_eq, toList_nil]
        unfold clsOf
        by_cases h3 : IsRef t
        · rw [if_pos h3, size_ext]
          have := h3.1
          exact ⟨fun _ => .inr h3, fun _ => by omega⟩
        · rw [if_neg h3]
          constructor
          · intro h; exact absurd rfl h
          · rintro (h | h)
            · exact absurd h hI
            · exact absurd h h3

/-! the length of a field -/
theorem fieldR_pre {a : ByteArray} {m : Nat} (hp : Pre a 91) : FieldR a m ↔ OneR a 1 m := by
  have h0 := hp.2
  constructor
  · rintro (h | ⟨_, _, h⟩)
    · have := h.first.2
      have e : ((0 : Nat) : Int) = 0 := rfl
      rw [e, h0] at this; simp at this
    · exact h
  · intro h; exact .inr ⟨by have := h.first.1; omega, by rw [h0]; rfl, h⟩
theorem fieldR_flat {a : ByteArray} {m : Nat} (hp : ¬ Pre a 91) (hm : m ≤ a.size) : FieldR a m ↔ OneR a 0 m := by
  constructor
  · rintro (h | ⟨h1, h2, h⟩)
    · exact h
    · exact absurd ⟨by omega, by rw [h2]; rfl⟩ hp
  · exact .inl
noncomputable def tailN (a : ByteArray) (n : Nat) : Nat := open Classical in if 1 ≤ n ∧ n ≤ a.size ∧ FieldR a n then n else 0
theorem tail_ev (a : ByteArray) (n : Nat) (hs : a.size ≤ 140737488351232) : Ev (fun k => if (n : Int) < 1 then some (0 : Int) else (if (n : Int) > (a.size : Int) then some 0 else (if 0 ≤ (n : Int) then (if (n : Int) ≤ (a.size : Int) then ((descr_Field.f k (a.extract 0 ((n : Int) : Int).toNat)).bind fun t => (if t = true then some (n : Int) else some 0)) else none) else none))) (tailN a n : Int) := by
  unfold tailN
  by_cases h1 : 1 ≤ n
  · by_cases h2 : n ≤ a.size
    · obtain ⟨b, hb, hb'⟩ := descr_field (a.extract 0 n) (by rw [size_ext]; omega)
      rw [isField_range a n h2] at hb'
      refine (hb.bind (f := fun _ t => if t = true then some (n : Int) else some 0) ?_).congr (fun k => ?_)
      · cases b with
        | true =>
          have e : (open Classical in if 1 ≤ n ∧ n ≤ a.size ∧ FieldR a n then n else 0) = n := if_pos ⟨h1, h2, hb'.1 rfl⟩
          rw [e]; exact Ev.now _
        | false =>
          have e : (open Classical in if 1 ≤ n ∧ n ≤ a.size ∧ FieldR a n then n else 0) = 0 := if_neg (fun h => by have := hb'.2 h.2.2; cases this)
          rw [e]; exact Ev.now _
      · rw [if_neg (by omega), if_neg (by omega), if_pos (by omega), if_pos (by omega), Int.toNat_natCast]
    · rw [if_neg (by omega)]
      refine (Ev.now _).congr (fun k => ?_)
      rw [if_neg (by omega), if_pos (by omega)]; rfl
  · rw [if_neg (by omega)]
    refine (Ev.now _).congr (fun k => ?_)
    rw [if_pos (by omega)]; rfl
theorem tail_fld {a : ByteArray} {n : Nat} (h : ∀ m : Nat, m ≤ a.size → FieldR a m → m = n) : Fld a (tailN a n) := by
  unfold tailN
  by_cases h1 : 1 ≤ n ∧ n ≤ a.size ∧ FieldR a n
  · rw [if_pos h1]; exact .inl h1
  · rw [if_neg h1]
    refine .inr ⟨rfl, fun m hm hf => ?_⟩
    have := h m hm hf
    subst this
    exact h1 ⟨hf.pos, hm, hf⟩
theorem split_j1 (a : ByteArray) (hs : a.size ≤ 140737488351232) (at_ : Nat) (hat : at_ ≤ 1) (hno : ∀ j : Nat, j < at_ → bt a j ≠ 59) (hF : ∀ m : Nat, m ≤ a.size → FieldR a m → OneR a at_ m) (b : Bool) (hb : b = true ↔ at_ < a.size ∧ bt a at_ = 76) :
    ∃ n : Nat, Ev (fun k => descr_split.j1 k a ((at_ : Int) + 1) b) (n : Int) ∧ Fld a n := by
  cases b with
  | true =>
    obtain ⟨h1, h2⟩ := hb.1 rfl
    rcases indexByte_semi a with ⟨h3, h4⟩ | ⟨i, h3, h4⟩
    · refine ⟨tailN a 0, Ev.step (fun k => ?_) (tail_ev a 0 hs), tail_fld (fun m hm hf => ?_)⟩
      · simp only [descr_split.j1, strings_IndexByte.f, Option.bind_some, if_true]
        rw [show ((59 : Int).toNat.toUInt8) = 59 from rfl, h3]
        rw [show wrap64 (-1 + 1) = ((0 : Nat) : Int) by rw [wrap_id _ (by omega)]; rfl]
      · exfalso
        rcases hF m hm hf with ⟨_, h⟩ | h
        · rw [h2] at h; simp at h
        · have := h.1; exact h4 (m - 1) (by omega) h.2.2.1
    · have hi := h4.1
      refine ⟨tailN a (i + 1), Ev.step (fun k => ?_) (tail_ev a (i + 1) hs), tail_fld (fun m hm hf => ?_)⟩
      · simp only [descr_split.j1, strings_IndexByte.f, Option.bind_some, if_true]
        rw [show ((59 : Int).toNat.toUInt8) = 59 from rfl, h3]
        rw [show wrap64 ((i : Int) + 1) = ((i + 1 : Nat) : Int) by rw [wrap_id _ (by omega)]; omega]
      · rcases hF m hm hf with ⟨_, h⟩ | h
        · rw [h2] at h; simp at h
        · have h0 := h.1
          have : Semi a (m - 1) := ⟨by omega, h.2.2.1, fun j hj => by
            rcases Nat.lt_or_ge j at_ with g | g
            · exact hno j g
            · exact h.semi j g (by omega)⟩
          have := this.eq h4
          omega
  | false =>
    have hb2 : ¬ (at_ < a.size ∧ bt a at_ = 76) := fun h => by have := hb.2 h; cases this
    refine ⟨tailN a (at_ + 1), Ev.step (fun k => ?_) (tail_ev a (at_ + 1) hs), tail_fld (fun m hm hf => ?_)⟩
    · simp only [descr_split.j1, Bool.false_eq_true, if_false]
      rw [show ((at_ : Int) + 1) = ((at_ + 1 : Nat) : Int) by omega]
    · rcases hF m hm hf with ⟨h, _⟩ | h
      · exact h
      · have := h.1; exact absurd ⟨by omega, h.2.1⟩ hb2
theorem split_spec (a : ByteArray) (hs : a.size ≤ 140737488351232) : ∃ n : Nat, Ev (fun k => descr_split.f k a) (n : Int) ∧ Fld a n := by
  have hb : ∀ at_ : Nat, ((bt a at_ == 76 && decide (at_ < a.size)) = true) ↔ at_ < a.size ∧ bt a at_ = 76 := by
    intro at_; simp [and_comm]
  have key : ∀ at_ : Nat, at_ ≤ 1 → ∀ k, descr_split.j0 (k + 1) a (at_ : Int) = descr_split.j1 k a ((at_ : Int) + 1) (bt a at_ == 76 && decide (at_ < a.size)) := by
    intro at_ hat k
    simp only [descr_split.j0]
    rw [wrap_id _ (by omega)]
    by_cases h : at_ < a.size
    · rw [if_pos (by omega), if_pos (by omega)]; simp [h]
    · rw [if_neg (by omega)]; simp [h]
  by_cases hp : Pre a 91
  · obtain ⟨n, h1, h2⟩ := split_j1 a hs 1 (by omega) (fun j hj => by
      have : j = 0 := by omega
      subst this
      have h0 := hp.2
      intro h
      rw [show ((0 : Nat) : Int) = 0 from rfl, h0] at h; simp at h) (fun m _ => (fieldR_pre hp).1) _ (hb 1)
    refine ⟨n, ?_, h2⟩
    refine Ev.congr (f := fun k => descr_split.j0 k a ((1 : Nat) : Int)) (fun k => ?_) (Ev.step (fun k => key 1 (by omega) k) h1)
    unfold descr_split.f; rw [hp']; simp [hp]
  · obtain ⟨n, h1, h2⟩ := split_j1 a hs 0 (by omega) (fun j hj => by omega) (fun m hm => (fieldR_flat hp hm).1) _ (hb 0)
    refine ⟨n, ?_, h2⟩
    refine Ev.congr (f := fun k => descr_split.j0 k a ((0 : Nat) : Int)) (fun k => ?_) (Ev.step (fun k => key 0 (by omega) k) h1)
    unfold descr_split.f; rw [hp']; simp [hp]
theorem fieldR_all (a : ByteArray) : FieldR a a.size ↔ IsField a := by
  have := isField_range a a.size (Nat.le_refl _)
  rw [ext_all] at this
  exact this.symm
end Go.Proofs.Ytdhfjkikoiifcaa.ThPDescrBack
