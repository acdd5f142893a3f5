/- 'carafe/carafelaw2.DescrBack' returns true for all lists, numbers and texts: what the printed functions answer: what is joined of fields is read, what is read is joined. No condition. -/
import Derived.Test.YtdhfjkikoiifcaaPDescrBackx5
import Derived.Test.YtdhfjkikoiifcaaThPDescrBack
import Derived.KernelRfl
namespace Go.Proofs.Ytdhfjkikoiifcaa.Pure
open Go.RowKit Go.Proofs.Ytdhfjkikoiifcaa.PDescrBack Go.Proofs.YtdhfjkikoiifcaaW.PrintWords Go.Proofs.YtdhfjkikoiifcaaW.PrintLast
open Go.Proofs.Ytdhfjkikoiifcaa.Ch2 Go.Proofs.Ytdhfjkikoiifcaa.ThPDescrBack

abbrev Res := List ByteArray × ByteArray × Bool
def failR : Res := ([], ⟨#[]⟩, false)
theorem size_app (a b : ByteArray) : (a ++ b).size = a.size + b.size := ByteArray.size_append
theorem bt_left (a b : ByteArray) (i : Nat) (h : i < a.size) : bt (a ++ b) (i : Int) = bt a (i : Int) := by
  rw [bt_get _ _ (by rw [size_app]; omega), bt_get _ _ h]
  congr 2
  simp only [ByteArray.data_append]
  exact Array.getElem_append_left h
theorem bt_right (a b : ByteArray) (i : Nat) (h : i < b.size) : bt (a ++ b) ((a.size + i : Nat) : Int) = bt b (i : Int) := by
  rw [bt_get _ _ (by rw [size_app]; omega), bt_get _ _ h]
  congr 2
  simp only [ByteArray.data_append]
  rw [Array.getElem_append_right (by show a.data.size ≤ _; exact Nat.le_add_right _ _)]
  congr 1
  show a.size + i - a.data.size = i
  have : a.data.size = a.size := rfl
  omega
theorem app_first (a b : ByteArray) : (a ++ b).extract 0 a.size = a := by
  refine ba_ext (by rw [size_ext, size_app]; omega) fun i hi => ?_
  rw [size_ext, size_app] at hi
  rw [bt_ext _ _ _ _ (by omega) (by rw [size_app]; omega), Nat.zero_add, bt_left _ _ _ (by omega)]
theorem app_last (a b : ByteArray) : (a ++ b).extract a.size (a ++ b).size = b := by
  refine ba_ext (by rw [size_ext, size_app]; omega) fun i hi => ?_
  rw [size_ext, size_app] at hi
  rw [bt_ext _ _ _ _ (by rw [size_app]; omega) (by rw [size_app]; omega), bt_right _ _ _ (by omega)]
theorem app_assoc (a b c : ByteArray) : (a ++ b) ++ c = a ++ (b ++ c) := by
  apply ByteArray.ext
  simp only [ByteArray.data_append, Array.append_assoc]
def cat : List ByteArray → ByteArray
  | [] => ⟨#[]⟩
  | f :: fs => f ++ cat fs
theorem nil_app (a : ByteArray) : (⟨#[]⟩ : ByteArray) ++ a = a := by
  apply ByteArray.ext
  simp only [ByteArray.data_append, Array.empty_append]
theorem app_nil (a : ByteArray) : a ++ (⟨#[]⟩ : ByteArray) = a := by
  apply ByteArray.ext
  simp only [ByteArray.data_append, Array.append_empty]
theorem cat_snoc : ∀ (fs : List ByteArray) (p : ByteArray), cat (fs ++ [p]) = cat fs ++ p
  | [], p => by simp only [List.nil_append, cat]; rw [app_nil, nil_app]
  | f :: fs, p => by simp only [List.cons_append, cat]; rw [cat_snoc fs p, app_assoc]
theorem cat_size : ∀ (fs : List ByteArray), (∀ f ∈ fs, f.size ≤ 70) → (cat fs).size ≤ 70 * fs.length
  | [], _ => by simp [cat]; rfl
  | f :: fs, h => by
    have h1 := cat_size fs (fun g hg => h g (List.mem_cons_of_mem _ hg))
    have h2 := h f (List.mem_cons_self ..)
    simp only [cat, List.length_cons, size_app]; omega
theorem fail_j1 (x : ByteArray) (l : List ByteArray) (hp : ¬ Pre x 41) : Ev (fun k => descr_Method.j1 k x l) failR := by
  refine Ev.step (f := fun _ => some failR) (fun k => ?_) (Ev.now _)
  rw [descr_Method.j1, cut]
  simp only [Option.bind_some]
  rw [if_neg hp]; rfl
theorem first_none {a : ByteArray} (hc : 0 < a.size → bt a 0 ≠ 73 ∧ bt a 0 ≠ 76 ∧ bt a 0 ≠ 91) {n : Nat} (h : Fld a n) : n = 0 := by
  rcases h with ⟨q1, q2, q3⟩ | ⟨q1, q2⟩
  · exfalso
    obtain ⟨c1, c2, c3⟩ := hc (by omega)
    rcases q3 with h | ⟨_, h, _⟩
    · have := h.first.2
      rw [show ((0 : Nat) : Int) = 0 from rfl] at this
      rcases this with g | g
      · exact c1 g
      · exact c2 g
    · exact c3 h
  · exact q1
theorem field_first {f : ByteArray} (h : IsField f) : 0 < f.size ∧ (bt f 0 = 73 ∨ bt f 0 = 76 ∨ bt f 0 = 91) := by
  rcases h with (⟨h1, h2⟩ | h) | ⟨h1, h2, _⟩
  · exact ⟨by omega, .inl h2⟩
  · have := h.1; exact ⟨by omega, .inr (.inl h.2.1)⟩
  · exact ⟨h1, .inr (.inr h2)⟩
theorem l0_step (x : ByteArray) (l : List ByteArray) (hs : x.size ≤ 140737488351232) (m : Nat) (hm : Fld x m) (r : Res)
    (hr : Ev (fun k => if (m : Int) > 0 then (if (l.length : Int) < 8 then (if 0 ≤ (m : Int) then (if (m : Int) ≤ (x.size : Int) then (if l.length < 8796093022208 then (descr_Method.l0 k (x.extract ((m : Int) : Int).toNat x.size) (l ++ [x.extract 0 ((m : Int) : Int).toNat])) else (none)) else (none)) else (none)) else (descr_Method.j1 k x l)) else (descr_Method.j1 k x l)) r) : Ev (fun k => descr_Method.l0 k x l) r := by
  obtain ⟨m', h1, h2⟩ := split_spec x hs
  have := hm.eq h2
  subst this
  refine Ev.step (fun k => ?_) (h1.bind (f := fun k t => if t > 0 then (if (l.length : Int) < 8 then (if 0 ≤ t then (if t ≤ (x.size : Int) then (if l.length < 8796093022208 then (descr_Method.l0 k (x.extract (t : Int).toNat x.size) (l ++ [x.extract 0 (t : Int).toNat])) else (none)) else (none)) else (none)) else (descr_Method.j1 k x l)) else (descr_Method.j1 k x l)) hr)
  rw [descr_Method.l0]
/-! the pieces -/
theorem ref_of (A x S : ByteArray) (i : Nat) (hA : A.size = i + 1) (hAb : bt A (i : Int) = 76) (hS : S.size = 1) (hSb : bt S 0 = 59) (hx : IsName x) : RefR ((A ++ x) ++ S) i ((A ++ x) ++ S).size := by
  obtain ⟨h1, h2, h3⟩ := hx
  have hs : ((A ++ x) ++ S).size = i + 1 + x.size + 1 := by rw [size_app, size_app, hA, hS]
  refine ⟨by omega, ?_, ?_, by omega, fun m hm1 hm2 => ?_⟩
  · rw [bt_left _ _ _ (by rw [size_app]; omega), bt_left _ _ _ (by omega)]; exact hAb
  · have := bt_right (A ++ x) S 0 (by omega)
    rw [size_app] at this
    rw [hs, show i + 1 + x.size + 1 - 1 = A.size + x.size + 0 by omega, this]; exact hSb
  · have e : m = A.size + (m - (i + 1)) := by omega
    rw [bt_left _ _ _ (by rw [size_app]; omega)]
    have := bt_right A x (m - (i + 1)) (by omega)
    rw [← e] at this
    rw [this]
    exact h1 (m - (i + 1)) (by omega) (by omega)
def pI : ByteArray := ⟨#[73]⟩
def pA : ByteArray := ⟨#[91, 73]⟩
def pL (x : ByteArray) : ByteArray := ((⟨#[76]⟩ : ByteArray) ++ x) ++ (⟨#[59]⟩ : ByteArray)
def pF (x : ByteArray) : ByteArray := ((⟨#[91, 76]⟩ : ByteArray) ++ x) ++ (⟨#[59]⟩ : ByteArray)
theorem pI_field : IsField pI := .inl (.inl ⟨rfl, rfl⟩)
theorem pA_field : IsField pA := .inr ⟨by show 0 < 2; omega, rfl, .inl ⟨rfl, rfl⟩⟩
theorem pL_size (x : ByteArray) : (pL x).size = 1 + x.size + 1 := by unfold pL; rw [size_app, size_app]; rfl
theorem pF_size (x : ByteArray) : (pF x).size = 2 + x.size + 1 := by unfold pF; rw [size_app, size_app]; rfl
theorem pL_field {x : ByteArray} (hx : IsName x) : IsField (pL x) := by
  have := ref_of (⟨#[76]⟩ : ByteArray) x (⟨#[59]⟩ : ByteArray) 0 rfl rfl rfl rfl hx
  exact (fieldR_all _).1 (.inl (.inr this))
theorem pF_range {x : ByteArray} (hx : IsName x) : FieldR (pF x) (pF x).size := by
  have := ref_of (⟨#[91, 76]⟩ : ByteArray) x (⟨#[59]⟩ : ByteArray) 1 rfl rfl rfl rfl hx
  refine .inr ⟨by rw [pF_size]; omega, ?_, .inr this⟩
  unfold pF
  rw [show (0 : Int) = ((0 : Nat) : Int) from rfl, bt_left _ _ _ (by rw [size_app]; show 0 < 2 + x.size; omega), bt_left _ _ _ (by show 0 < 2; omega)]
  rfl

theorem field_ev (a : ByteArray) (hs : a.size ≤ 140737488351232) {b : Bool} (h : b = true ↔ IsField a) : Ev (fun k => descr_Field.f k a) b := by
  obtain ⟨c, h1, h2⟩ := descr_field a hs
  have : c = b := by rw [Bool.eq_iff_iff, h2, h]
  rw [← this]; exact h1
theorem known_true : Ev (fun k => carafelaw2_known.f k) true := Ev.of carafelaw2_known.mono (k := 60) (by kernel_rfl)
/-- what stands behind the fields: ')' and a result -/
def endR (r : ByteArray) : ByteArray := (⟨#[41]⟩ : ByteArray) ++ r
theorem endR_size (r : ByteArray) : (endR r).size = 1 + r.size := by unfold endR; rw [size_app]; rfl
def IsRes (r : ByteArray) : Prop := r = ⟨#[86]⟩ ∨ IsField r
theorem endR_first (r : ByteArray) : bt (endR r) 0 = 41 := by
  unfold endR
  rw [show (0 : Int) = ((0 : Nat) : Int) from rfl, bt_left _ _ _ (by show 0 < 1; omega)]; rfl
theorem endR_pre (r : ByteArray) : Pre (endR r) 41 := ⟨by rw [endR_size]; omega, by rw [endR_first]; rfl⟩
theorem endR_last (r : ByteArray) : (endR r).extract 1 (endR r).size = r := app_last (⟨#[41]⟩ : ByteArray) r
theorem read_end (r : ByteArray) (hr : IsRes r) (hrs : r.size ≤ 1000) (l : List ByteArray) : Ev (fun k => descr_Method.j1 k (endR r) l) ((l, r, true) : Res) := by
  by_cases hV : r.toList = [86]
  · refine Ev.step (f := fun _ => some _) (fun k => ?_) (Ev.now _)
    rw [descr_Method.j1, cut]
    simp only [Option.bind_some]
    rw [if_pos (endR_pre r), endR_last]
    simp only [if_true]
    rw [if_pos hV]
  · have hf : IsField r := by
      rcases hr with h | h
      · exact absurd (by rw [h]; exact lit_list 86) hV
      · exact h
    refine Ev.step (fun k => ?_) ((field_ev r (by omega) (b := true) ⟨fun _ => hf, fun _ => rfl⟩).bind (f := fun _ t => if t = true then some ((l, r, true) : Res) else some failR) (Ev.now _))
    rw [descr_Method.j1, cut]
    simp only [Option.bind_some]
    rw [if_pos (endR_pre r), endR_last]
    simp only [if_true]
    rw [if_neg hV]; rfl
theorem read_all (r : ByteArray) (hr : IsRes r) (hrs : r.size ≤ 1000) : ∀ (fs l : List ByteArray), (∀ f ∈ fs, IsField f ∧ f.size ≤ 70) → l.length + fs.length ≤ 8 →
    Ev (fun k => descr_Method.l0 k (cat fs ++ endR r) l) ((l ++ fs, r, true) : Res)
  | [], l, _, hl => by
    have hx : cat [] ++ endR r = endR r := nil_app _
    rw [hx, List.append_nil]
    have hF : Fld (endR r) 0 := by
      obtain ⟨m, _, h2⟩ := split_spec (endR r) (by rw [endR_size]; omega)
      have := first_none (a := endR r) (fun _ => by rw [endR_first]; decide) h2
      subst this; exact h2
    exact l0_step (endR r) l (by rw [endR_size]; omega) 0 hF _ (Ev.congr (f := fun k => descr_Method.j1 k (endR r) l) (fun k => if_neg (by omega)) (read_end r hr hrs l))
  | f :: fs, l, hf, hl => by
    obtain ⟨f1, f2⟩ := hf f (List.mem_cons_self ..)
    have hfs : ∀ g ∈ fs, IsField g ∧ g.size ≤ 70 := fun g hg => hf g (List.mem_cons_of_mem _ hg)
    simp only [List.length_cons] at hl
    have hcs := cat_size fs (fun g hg => (hfs g hg).2)
    obtain ⟨p1, p2⟩ := field_first f1
    have hx : cat (f :: fs) ++ endR r = f ++ (cat fs ++ endR r) := app_assoc _ _ _
    rw [hx]
    generalize hX : f ++ (cat fs ++ endR r) = X
    have hXs : X.size = f.size + ((cat fs).size + (1 + r.size)) := by rw [← hX, size_app, size_app, endR_size]
    have e1 : X.extract 0 f.size = f := by rw [← hX]; exact app_first _ _
    have e2 : X.extract f.size X.size = cat fs ++ endR r := by rw [← hX]; exact app_last _ _
    have hR : FieldR X f.size := (isField_range X f.size (by omega)).1 (by rw [e1]; exact f1)
    have hF : Fld X f.size := .inl ⟨by omega, by omega, hR⟩
    refine l0_step X l (by omega) f.size hF _ ?_
    have ih := read_all r hr hrs fs (l ++ [f]) hfs (by simp; omega)
    rw [List.append_assoc, List.singleton_append] at ih
    refine ih.congr (fun k => ?_)
    rw [if_pos (by omega), if_pos (by omega), if_pos (by omega), if_pos (by omega), if_pos (by omega), Int.toNat_natCast, e1, e2]
theorem cat_data : ∀ fs : List ByteArray, Lib.join (fs.map (·.data.toList)) (⟨#[]⟩ : ByteArray).data.toList = (cat fs).data.toList
  | [] => rfl
  | f :: fs => by
    have h1 : ∀ gs : List ByteArray, Lib.joinTail [] (gs.map (·.data.toList)) = (cat gs).data.toList := by
      intro gs
      induction gs with
      | nil => rfl
      | cons g gs ih =>
        unfold Lib.joinTail at ih ⊢
        simp only [List.map_cons, List.flatten_cons, cat, ByteArray.data_append, Array.toList_append, List.nil_append] at ih ⊢
        rw [ih]
    show Lib.join ((f :: fs).map (·.data.toList)) [] = _
    rw [List.map_cons, Lib.join_cons, h1]
    simp only [cat, ByteArray.data_append, Array.toList_append]
theorem join_cat (fs : List ByteArray) (h1 : fs.length ≤ 140737488355328) (h2 : (cat fs).size ≤ 140737488355328) : strings_Join.f fs (⟨#[]⟩ : ByteArray) = some (cat fs) := by
  unfold strings_Join.f
  rw [cat_data, if_pos ⟨h1, by rw [Array.length_toList]; exact h2⟩]
theorem join_f (fs : List ByteArray) (r : ByteArray) (h1 : fs.length ≤ 140737488355328) (h2 : (cat fs).size + r.size ≤ 140737488355328) : descr_Join.f fs r = some ((⟨#[40]⟩ : ByteArray) ++ (cat fs ++ endR r)) := by
  have s1 : ((⟨#[40]⟩ : ByteArray) ++ cat fs).size = 1 + (cat fs).size := by rw [size_app]; rfl
  have s2 : (((⟨#[40]⟩ : ByteArray) ++ cat fs) ++ (⟨#[41]⟩ : ByteArray)).size = 1 + (cat fs).size + 1 := by rw [size_app, s1]; rfl
  unfold descr_Join.f
  rw [join_cat fs h1 (by omega), Option.bind_some, if_pos (by omega), if_pos (by omega), if_pos (by omega)]
  unfold endR
  rw [app_assoc, app_assoc]
theorem method_of (x : ByteArray) (r : Res) (h : Ev (fun k => descr_Method.l0 k x []) r) : Ev (fun k => descr_Method.f k ((⟨#[40]⟩ : ByteArray) ++ x)) r := by
  refine h.congr (fun k => ?_)
  unfold descr_Method.f
  rw [cut]
  simp only [Option.bind_some]
  have hp : Pre ((⟨#[40]⟩ : ByteArray) ++ x) 40 := ⟨by rw [size_app]; have : (⟨#[40]⟩ : ByteArray).size = 1 := rfl; omega, by
    have := bt_left (⟨#[40]⟩ : ByteArray) x 0 (by show 0 < 1; omega)
    rw [show ((0 : Nat) : Int) = 0 from rfl] at this
    rw [this]; rfl⟩
  rw [if_pos hp]
  have e2 : ((⟨#[40]⟩ : ByteArray) ++ x).extract 1 ((⟨#[40]⟩ : ByteArray) ++ x).size = x := app_last (⟨#[40]⟩ : ByteArray) _
  simp only [if_true]
  rw [e2]
/-- a text in two parts -/
theorem two_parts (x : ByteArray) (m : Nat) (hm : m ≤ x.size) : x = x.extract 0 m ++ x.extract m x.size := by
  refine ba_ext (by rw [size_app, size_ext, size_ext]; omega) fun i hi => ?_
  have hs : (x.extract 0 m).size = m := by rw [size_ext]; omega
  rcases Nat.lt_or_ge i m with g | g
  · rw [bt_left _ _ _ (by omega), bt_ext _ _ _ _ (by omega) (by omega), Nat.zero_add]
  · have := bt_right (x.extract 0 m) (x.extract m x.size) (i - m) (by rw [size_ext]; omega)
    rw [hs, show m + (i - m) = i by omega, bt_ext _ _ _ _ (by omega) (by omega), show m + (i - m) = i by omega] at this
    exact this.symm
theorem pre_parts {x : ByteArray} {c : UInt8} (h : Pre x c) : x = (⟨#[c]⟩ : ByteArray) ++ x.extract 1 x.size := by
  have h0 := h.1
  conv => lhs; rw [two_parts x 1 (by omega)]
  congr 1
  refine ba_ext (by rw [size_ext]; show min 1 x.size - 0 = 1; omega) fun i hi => ?_
  rw [size_ext] at hi
  have : i = 0 := by omega
  subst this
  rw [bt_ext _ _ _ _ (by omega) (by omega)]
  show bt x 0 = _
  rw [h.2]; rfl
/-- what is read is joined -/
theorem read_back : ∀ (n : Nat) (x : ByteArray) (l : List ByteArray), x.size ≤ n → l.length ≤ 8 → x.size ≤ 140737488351232 →
    ∃ r : Res, Ev (fun k => descr_Method.l0 k x l) r ∧ (r.2.2 = true → r.1.length ≤ 8 ∧ ∃ fs, r.1 = l ++ fs ∧ x = cat fs ++ endR r.2.1) := by
  intro n
  induction n with
  | zero =>
    intro x l hx hl hb
    obtain ⟨m, h1, h2⟩ := split_spec x hb
    have hm := first_none (a := x) (fun h => by omega) h2
    subst hm
    exact ⟨failR, l0_step x l hb 0 h2 _ (Ev.congr (f := fun k => descr_Method.j1 k x l) (fun k => if_neg (by omega)) (fail_j1 x l (fun h => by have := h.1; omega))), fun h => by cases h⟩
  | succ n ih =>
    intro x l hx hl hb
    obtain ⟨m, h1, h2⟩ := split_spec x hb
    have hend : ∃ r : Res, Ev (fun k => descr_Method.j1 k x l) r ∧ (r.2.2 = true → r.1.length ≤ 8 ∧ ∃ fs, r.1 = l ++ fs ∧ x = cat fs ++ endR r.2.1) := by
      by_cases hp : Pre x 41
      · have hxs : (x.extract 1 x.size).size ≤ 140737488351232 := by rw [size_ext]; omega
        have hx2 : x = cat [] ++ endR (x.extract 1 x.size) := by
          rw [show cat [] ++ endR (x.extract 1 x.size) = endR (x.extract 1 x.size) from nil_app _]
          exact pre_parts hp
        by_cases hV : (x.extract 1 x.size).toList = [86]
        · refine ⟨(l, x.extract 1 x.size, true), Ev.step (f := fun _ => some _) (fun k => ?_) (Ev.now _), fun _ => ⟨hl, [], by simp, hx2⟩⟩
          rw [descr_Method.j1, cut]
          simp only [Option.bind_some]
          rw [if_pos hp]
          simp only [if_true]
          rw [if_pos hV]
        · obtain ⟨b, hb1, hb2⟩ := descr_field (x.extract 1 x.size) hxs
          refine ⟨if b = true then (l, x.extract 1 x.size, true) else failR, Ev.step (fun k => ?_) (hb1.bind (f := fun _ t => if t = true then some ((l, x.extract 1 x.size, true) : Res) else some failR) ?_), ?_⟩
          · rw [descr_Method.j1, cut]
            simp only [Option.bind_some]
            rw [if_pos hp]
            simp only [if_true]
            rw [if_neg hV]; rfl
          · cases b <;> exact Ev.now _
          · cases b with
            | true => exact fun _ => ⟨hl, [], by simp, hx2⟩
            | false => exact fun h => by cases h
      · exact ⟨failR, fail_j1 x l hp, fun h => by cases h⟩
    by_cases hm : m = 0
    · subst hm
      obtain ⟨r, r1, r2⟩ := hend
      exact ⟨r, l0_step x l hb 0 h2 _ (r1.congr (fun k => if_neg (by omega))), r2⟩
    · rcases h2 with ⟨q1, q2, q3⟩ | ⟨q1, q2⟩
      · by_cases h8 : l.length < 8
        · obtain ⟨r, r1, r2⟩ := ih (x.extract m x.size) (l ++ [x.extract 0 m]) (by rw [size_ext]; omega) (by simp; omega) (by rw [size_ext]; omega)
          refine ⟨r, l0_step x l hb m (.inl ⟨q1, q2, q3⟩) _ (r1.congr (fun k => ?_)), fun h => ?_⟩
          · rw [if_pos (by omega), if_pos (by omega), if_pos (by omega), if_pos (by omega), if_pos (by omega), Int.toNat_natCast]
          · obtain ⟨g1, fs, g2, g3⟩ := r2 h
            refine ⟨g1, x.extract 0 m :: fs, by rw [g2]; simp, ?_⟩
            conv => lhs; rw [two_parts x m q2, g3]
            simp only [cat]
            rw [app_assoc]
        · obtain ⟨r, r1, r2⟩ := hend
          exact ⟨r, l0_step x l hb m (.inl ⟨q1, q2, q3⟩) _ (r1.congr (fun k => by rw [if_pos (by omega), if_neg (by omega)])), r2⟩
      · exact absurd q1 hm
theorem method_back (x : ByteArray) (hs : x.size ≤ 140737488351232) : ∃ r : Res, Ev (fun k => descr_Method.f k x) r ∧ (r.2.2 = true → r.1.length ≤ 8 ∧ x = (⟨#[40]⟩ : ByteArray) ++ (cat r.1 ++ endR r.2.1)) := by
  by_cases hp : Pre x 40
  · obtain ⟨r, r1, r2⟩ := read_back x.size (x.extract 1 x.size) [] (by rw [size_ext]; omega) (by simp) (by rw [size_ext]; omega)
    have hx := pre_parts hp
    refine ⟨r, ?_, fun h => ?_⟩
    · rw [hx]; exact method_of _ r r1
    · obtain ⟨g1, fs, g2, g3⟩ := r2 h
      rw [List.nil_append] at g2
      subst g2
      exact ⟨g1, by conv => lhs; rw [hx, g3]⟩
  · refine ⟨failR, (Ev.now _).congr (fun k => ?_), fun h => by cases h⟩
    unfold descr_Method.f
    rw [cut]
    simp only [Option.bind_some]
    rw [if_neg hp]; rfl
theorem last_part (x : ByteArray) (hs : x.size ≤ 140737488351232) : Ev (fun k => carafelaw2_DescrBack.j3 k x false) true := by
  obtain ⟨r, r1, r2⟩ := method_back x hs
  have hk : Ev (fun k => (carafelaw2_known.f k).bind fun t => some t) true := known_true.bind (f := fun _ t => some t) (Ev.now _)
  refine Ev.step (fun k => ?_) (r1.bind (f := fun k (bt191 : Res) => (if bt191.2.2 = true then ((descr_Join.f bt191.1 bt191.2.1).bind fun t196 => (if t196.toList = x.toList then ((carafelaw2_known.f k).bind fun t197 => (some t197)) else (some false))) else ((carafelaw2_known.f k).bind fun t198 => (some t198)))) ?_)
  · rw [carafelaw2_DescrBack.j3, if_neg (by decide)]
  · by_cases h : r.2.2 = true
    · obtain ⟨g1, g2⟩ := r2 h
      have hz : x.size = 1 + ((cat r.1).size + (1 + r.2.1.size)) := by
        conv => lhs; rw [g2]
        rw [size_app, size_app, endR_size]; rfl
      refine hk.congr (fun k => ?_)
      rw [if_pos h, join_f r.1 r.2.1 (by omega) (by omega), Option.bind_some, ← g2, if_pos rfl]
    · exact hk.congr (fun k => if_neg h)
theorem same_refl (l : List ByteArray) (hl : l.length ≤ 140737488351232) : Ev (fun k => carafebook_Same_string.f k l l) true := by
  have key : ∀ (d i : Nat), i + d = l.length → Ev (fun k => carafebook_Same_string.l0 k l l (i : Int)) true := by
    intro d
    induction d with
    | zero =>
      intro i hi
      refine Ev.step (f := fun _ => some true) (fun k => ?_) (Ev.now _)
      rw [carafebook_Same_string.l0, if_neg (by omega)]
    | succ d ih =>
      intro i hi
      refine Ev.step (fun k => ?_) (ih (i + 1) (by omega))
      rw [carafebook_Same_string.l0, if_pos (by omega), if_pos (by omega), if_pos (by omega), if_pos rfl, wrap_id _ (by omega)]
      rfl
  refine (key l.length 0 (by omega)).congr (fun k => ?_)
  unfold carafebook_Same_string.f
  rw [if_pos rfl]; rfl
theorem within_m (z : Int) (m : Nat) (hm : m ≤ 1000) : ∃ n : Nat, n ≤ m ∧ carafebook_Within.f z 0 (m : Int) = some (n : Int) := by
  unfold carafebook_Within.f
  have e : wrap64 (wrap64 ((m : Int) - 0) + 1) = (m : Int) + 1 := by rw [wrap_id ((m : Int) - 0) (by omega), wrap_id _ (by omega)]; omega
  rw [e, if_neg (by omega)]
  have h1 := Int.tmod_lt_of_pos z (show (0 : Int) < (m : Int) + 1 by omega)
  have h2 := Int.lt_tmod_of_pos z (show (0 : Int) < (m : Int) + 1 by omega)
  generalize Int.tmod z ((m : Int) + 1) = y at *
  by_cases h : y < 0
  · rw [if_pos h]
    refine ⟨(y + m + 1).toNat, by omega, ?_⟩
    congr 1
    rw [wrap_id (y + m) (by omega), wrap_id (y + m - 0) (by omega), wrap_id (y + m - 0 + 1) (by omega), wrap_id _ (by omega)]
    omega
  · rw [if_neg h]
    refine ⟨y.toNat, by omega, ?_⟩
    congr 1
    rw [wrap_id _ (by omega)]
    omega
/-! one more field -/
def pB (x : ByteArray) : ByteArray := (⟨#[91]⟩ : ByteArray) ++ pL x
theorem pB_size (x : ByteArray) : (pB x).size = 1 + (1 + x.size + 1) := by unfold pB; rw [size_app, pL_size]; rfl
theorem pB_field {x : ByteArray} (hx : IsName x) : IsField (pB x) := by
  have e : (⟨#[91]⟩ : ByteArray).size = 1 := rfl
  rw [field_iff]
  have hp : Pre (pB x) 91 := ⟨by rw [pB_size]; omega, by
    unfold pB
    rw [show (0 : Int) = ((0 : Nat) : Int) from rfl, bt_left _ _ _ (by omega)]; rfl⟩
  rw [if_pos hp]
  have e2 : (pB x).extract 1 (pB x).size = pL x := app_last (⟨#[91]⟩ : ByteArray) _
  rw [e2]
  have := ref_of (⟨#[76]⟩ : ByteArray) x (⟨#[59]⟩ : ByteArray) 0 rfl rfl rfl rfl hx
  exact .inr ((isRef_range (pL x) 0 (pL x).size (Nat.le_refl _)).2 this |> fun h => by rwa [ext_all] at h)
def piece (x : ByteArray) (t : Nat) : ByteArray := rdOf ByteArray.empty [pI, pL x, pA, pB x] (t : Int)
theorem piece_ok {x : ByteArray} (hx : IsName x) (t : Nat) (ht : t ≤ 3) : IsField (piece x t) ∧ (piece x t).size ≤ 70 := by
  have hx2 := hx.2.2
  unfold piece
  have h : t = 0 ∨ t = 1 ∨ t = 2 ∨ t = 3 := by omega
  rcases h with h | h | h | h <;> subst h
  · exact ⟨pI_field, by show 1 ≤ 70; omega⟩
  · exact ⟨pL_field hx, by show (pL x).size ≤ 70; rw [pL_size]; omega⟩
  · exact ⟨pA_field, by show 2 ≤ 70; omega⟩
  · exact ⟨pB_field hx, by show (pB x).size ≤ 70; rw [pB_size]; omega⟩
theorem ref_pL (x : ByteArray) (hx : x.size ≤ 64) : descr_Ref.f x = some (pL x) := by
  have e2 : ((⟨#[76]⟩ : ByteArray) ++ x).size = 1 + x.size := by rw [size_app]; rfl
  unfold descr_Ref.f; rw [if_pos (by omega), if_pos (by omega)]; rfl
def resOf (t : Nat) : ByteArray := rdOf ByteArray.empty [(⟨#[86]⟩ : ByteArray), (⟨#[73]⟩ : ByteArray), (⟨#[76, 65, 59]⟩ : ByteArray)] (t : Int)
theorem isA : IsName (⟨#[65]⟩ : ByteArray) := by
  refine ⟨fun m _ hm => ?_, by show 0 < 1; omega, by show 1 ≤ 64; omega⟩
  have hsz : (⟨#[65]⟩ : ByteArray).size = 1 := rfl
  have : m = 0 := by omega
  subst this
  have : bt (⟨#[65]⟩ : ByteArray) ((0 : Nat) : Int) = 65 := rfl
  rw [this]
  exact .inl (.inr (.inl ⟨by omega, by omega⟩))
theorem isa : IsName (⟨#[97]⟩ : ByteArray) := by
  refine ⟨fun m _ hm => ?_, by show 0 < 1; omega, by show 1 ≤ 64; omega⟩
  have hsz : (⟨#[97]⟩ : ByteArray).size = 1 := rfl
  have : m = 0 := by omega
  subst this
  have : bt (⟨#[97]⟩ : ByteArray) ((0 : Nat) : Int) = 97 := rfl
  rw [this]
  exact .inl (.inl ⟨by omega, by omega⟩)
theorem resOf_ok (t : Nat) (ht : t ≤ 2) : IsRes (resOf t) ∧ (resOf t).size ≤ 1000 := by
  have h : t = 0 ∨ t = 1 ∨ t = 2 := by omega
  rcases h with h | h | h <;> subst h
  · exact ⟨.inl rfl, by show 1 ≤ 1000; omega⟩
  · exact ⟨.inr pI_field, by show 1 ≤ 1000; omega⟩
  · exact ⟨.inr (pL_field isA), by show 3 ≤ 1000; omega⟩
section
variable (l0 : List ByteArray) (l1 : List Int) (a2 : Int) (a3 : ByteArray)
theorem back_end (hs : a3.size ≤ 140737488351232) (fs : List ByteArray) (i : Nat) (hf : ∀ f ∈ fs, IsField f ∧ f.size ≤ 70) (hl : fs.length ≤ 8) : Ev (fun k => carafelaw2_DescrBack.j1 k l0 l1 a2 a3 fs (i : Int) false) true := by
  obtain ⟨t, ht, hw⟩ := within_m a2 2 (by omega)
  obtain ⟨r1, r2⟩ := resOf_ok t ht
  have hc := cat_size fs (fun g hg => (hf g hg).2)
  have hm := method_of _ _ (read_all (resOf t) r1 r2 fs [] hf (by simpa using hl))
  rw [List.nil_append] at hm
  have hj := join_f fs (resOf t) (by omega) (by omega)
  have hsame := same_refl fs (by omega)
  refine Ev.step (fun k => ?_) (hm.bind (f := fun k (bt185 : Res) => (if bt185.2.2 = true then ((carafebook_Same_string.f k fs bt185.1).bind fun t190 => (if t190 = true then (carafelaw2_DescrBack.j3 k a3 (bt185.2.1.toList != (resOf t).toList)) else (carafelaw2_DescrBack.j3 k a3 true))) else (carafelaw2_DescrBack.j3 k a3 true))) ?_)
  · rw [carafelaw2_DescrBack.j1, if_neg (by decide), Option.bind_some]
    rw [show (2 : Int) = ((2 : Nat) : Int) from rfl, hw, Option.bind_some, if_pos (by omega), if_pos (by simp only [List.length_cons, List.length_nil]; omega)]
    rw [show rdOf ByteArray.empty ([(⟨#[86]⟩ : ByteArray), (⟨#[73]⟩ : ByteArray), (⟨#[76, 65, 59]⟩ : ByteArray)] : List ByteArray) (t : Int) = resOf t from rfl, hj, Option.bind_some]
  · refine Ev.congr (f := fun k => (carafebook_Same_string.f k fs fs).bind fun t190 => (if t190 = true then (carafelaw2_DescrBack.j3 k a3 ((resOf t).toList != (resOf t).toList)) else (carafelaw2_DescrBack.j3 k a3 true))) (fun k => if_pos rfl) (hsame.bind (f := fun k t190 => (if t190 = true then (carafelaw2_DescrBack.j3 k a3 ((resOf t).toList != (resOf t).toList)) else (carafelaw2_DescrBack.j3 k a3 true))) ?_)
    refine (last_part a3 hs).congr (fun k => ?_)
    rw [if_pos rfl, bne_self_eq_false]
theorem back_loop (h0 : ∀ x ∈ l0, x.size ≤ 9223372036854775807) (hs : a3.size ≤ 140737488351232) : ∀ (d i : Nat) (fs : List ByteArray), i + d = 8 → fs.length = i → (∀ f ∈ fs, IsField f ∧ f.size ≤ 70) → Ev (fun k => carafelaw2_DescrBack.l0 k l0 l1 a2 a3 fs (i : Int)) true := by
  intro d
  induction d with
  | zero =>
    intro i fs hi hl hf
    have := back_end l0 l1 a2 a3 hs fs i hf (by omega)
    refine Ev.step (fun k => ?_) this
    rw [carafelaw2_DescrBack.l0]
    have e : decide ((i : Int) < 8) = false := by rw [decide_eq_false_iff_not]; omega
    rw [e, ite_self]
  | succ d ih =>
    intro i fs hi hl hf
    by_cases hin : i < l1.length
    · have e : decide ((i : Int) < 8) = true := by rw [decide_eq_true_eq]; omega
      have go : ∀ x : ByteArray, IsName x → ∀ t : Nat, t ≤ 3 → Ev (fun k => carafelaw2_DescrBack.l0 k l0 l1 a2 a3 (fs ++ [piece x t]) ((i : Int) + 1)) true := by
        intro x hx t ht
        obtain ⟨p1, p2⟩ := piece_ok hx t ht
        exact ih (i + 1) (fs ++ [piece x t]) (by omega) (by simp; omega) (fun f hm => by
          rcases List.mem_append.1 hm with g | g
          · exact hf f g
          · rw [List.mem_singleton.1 g]; exact ⟨p1, p2⟩)
      obtain ⟨t, ht, hw⟩ := within_m (rd l1 (i : Int)) 3 (by omega)
      have hj2 : ∀ b : Bool, (b = true → i < l0.length ∧ IsName (rdOf ByteArray.empty l0 (i : Int))) → Ev (fun k => carafelaw2_DescrBack.j2 k l0 l1 a2 a3 fs (i : Int) (⟨#[97]⟩ : ByteArray) b) true := by
        intro b hb
        cases b with
        | true =>
          obtain ⟨g1, g2⟩ := hb rfl
          have hx2 := g2.2.2
          refine Ev.step (fun k => ?_) (go _ g2 t ht)
          have hps := pL_size (rdOf ByteArray.empty l0 (i : Int))
          rw [carafelaw2_DescrBack.j2, if_pos rfl, if_pos (by omega), if_pos (by omega), ref_pL _ hx2, Option.bind_some, Option.bind_some, if_pos (by omega), Option.bind_some, if_pos (by omega)]
          rw [show (3 : Int) = ((3 : Nat) : Int) from rfl, hw, Option.bind_some, if_pos (by omega), if_pos (by simp only [List.length_cons, List.length_nil]; omega), if_pos (by omega), wrap_id _ (by omega)]
          rfl
        | false =>
          have hx2 : (⟨#[97]⟩ : ByteArray).size ≤ 64 := by show 1 ≤ 64; omega
          refine Ev.step (fun k => ?_) (go _ isa t ht)
          have hps := pL_size (⟨#[97]⟩ : ByteArray)
          rw [carafelaw2_DescrBack.j2, if_neg (by decide), ref_pL _ hx2, Option.bind_some, Option.bind_some, if_pos (by omega), Option.bind_some, if_pos (by omega), if_pos (by omega)]
          rw [show (3 : Int) = ((3 : Nat) : Int) from rfl, hw, Option.bind_some, if_pos (by omega), if_pos (by simp only [List.length_cons, List.length_nil]; omega), if_pos (by omega), wrap_id _ (by omega)]
          rfl
      refine Ev.step (f := fun k => carafelaw2_DescrBack.j1 k l0 l1 a2 a3 fs (i : Int) true) (fun k => ?_) ?_
      · rw [carafelaw2_DescrBack.l0, if_pos (by omega), e]
      · by_cases hil : i < l0.length
        · have hmem : rdOf ByteArray.empty l0 (i : Int) ∈ l0 := by
            have e2 : rdOf ByteArray.empty l0 (i : Int) = l0[i] := by
              unfold rdOf
              rw [Int.toNat_natCast, List.getD_eq_getElem?_getD, List.getElem?_eq_getElem hil]; rfl
            rw [e2]; exact List.getElem_mem hil
          obtain ⟨b, hb1, hb2⟩ := ref_name (rdOf ByteArray.empty l0 (i : Int)) (h0 _ hmem)
          refine Ev.step (fun k => ?_) (hb1.bind (f := fun k t155 => carafelaw2_DescrBack.j2 k l0 l1 a2 a3 fs (i : Int) (⟨#[97]⟩ : ByteArray) t155) (hj2 b (fun h => ⟨hil, hb2.1 h⟩)))
          rw [carafelaw2_DescrBack.j1, if_pos rfl, if_pos (by omega), if_pos (by omega)]
        · refine Ev.step (fun k => ?_) (hj2 false (fun h => by cases h))
          rw [carafelaw2_DescrBack.j1, if_pos rfl, if_neg (by omega)]
    · have := back_end l0 l1 a2 a3 hs fs i hf (by omega)
      refine Ev.step (fun k => ?_) this
      rw [carafelaw2_DescrBack.l0, if_neg (by omega)]
theorem DescrBack (h0 : ∀ x ∈ l0, x.size ≤ 9223372036854775807) (hs : a3.size ≤ 140737488351232) : ∃ k, carafelaw2_DescrBack.f k l0 l1 a2 a3 = some true :=
  Ev.rounds (g := fun k => carafelaw2_DescrBack.f k l0 l1 a2 a3) ((back_loop l0 l1 a2 a3 h0 hs 8 0 [] (by omega) rfl (fun f hf => by cases hf)).congr (fun k => rfl))
end
end Go.Proofs.Ytdhfjkikoiifcaa.Pure
