/- 'carafe/carafelaw2.DescrMany' returns true for all numbers and texts: what the printed functions answer on fields side by side. No condition. -/
import Derived.Test.YtdhfjkikoiifcaaPDescrManyx5
import Derived.Test.YtdhfjkikoiifcaaThPDescrMany
import Derived.KernelRfl
namespace Go.Proofs.Ytdhfjkikoiifcaa.Pure
open Go.RowKit Go.Proofs.Ytdhfjkikoiifcaa.PDescrMany Go.Proofs.YtdhfjkikoiifcaaW.PrintWords Go.Proofs.YtdhfjkikoiifcaaW.PrintLast
open Go.Proofs.Ytdhfjkikoiifcaa.Ch2 Go.Proofs.Ytdhfjkikoiifcaa.ThPDescrMany

abbrev Res := List ByteArray × ByteArray × Bool
def failR : Res := ([], ⟨#[]⟩, false)
theorem size_app (a b : ByteArray) : (a ++ b).size = a.size + b.size := ByteArray.size_append
theorem bt_left (a b : ByteArray) (i : Nat) (h : i < a.size) : bt (a ++ b) (i : Int) = bt a (i : Int) := by
  rw [bt_get _ _ (by rw [size_app]; omega), bt_get _ _ h]
  congr 2
  simp only [ByteArray.data_append]
  exact Array.getElem_append_left h
theorem bt_right (a b : ByteArray) (i : Nat) (h : i < b.size) : bt (a ++ b) ((a.size + i : Nat) : Int) = bt b (i : Int) := by
  rw [bt_get _ _ (by rw [size_app]; omega), bt_get _ _ h]
  congr 2
  simp only [ByteArray.data_append]
  rw [Array.getElem_append_right (by show a.data.size ≤ _; exact Nat.le_add_right _ _)]
  congr 1
  show a.size + i - a.data.size = i
  have : a.data.size = a.size := rfl
  omega
theorem app_first (a b : ByteArray) : (a ++ b).extract 0 a.size = a := by
  refine ba_ext (by rw [size_ext, size_app]; omega) fun i hi => ?_
  rw [size_ext, size_app] at hi
  rw [bt_ext _ _ _ _ (by omega) (by rw [size_app]; omega), Nat.zero_add, bt_left _ _ _ (by omega)]
theorem app_last (a b : ByteArray) : (a ++ b).extract a.size (a ++ b).size = b := by
  refine ba_ext (by rw [size_ext, size_app]; omega) fun i hi => ?_
  rw [size_ext, size_app] at hi
  rw [bt_ext _ _ _ _ (by rw [size_app]; omega) (by rw [size_app]; omega), bt_right _ _ _ (by omega)]
theorem app_assoc (a b c : ByteArray) : (a ++ b) ++ c = a ++ (b ++ c) := by
  apply ByteArray.ext
  simp only [ByteArray.data_append, Array.append_assoc]
def cat : List ByteArray → ByteArray
  | [] => ⟨#[]⟩
  | f :: fs => f ++ cat fs
theorem nil_app (a : ByteArray) : (⟨#[]⟩ : ByteArray) ++ a = a := by
  apply ByteArray.ext
  simp only [ByteArray.data_append, Array.empty_append]
theorem app_nil (a : ByteArray) : a ++ (⟨#[]⟩ : ByteArray) = a := by
  apply ByteArray.ext
  simp only [ByteArray.data_append, Array.append_empty]
theorem cat_snoc : ∀ (fs : List ByteArray) (p : ByteArray), cat (fs ++ [p]) = cat fs ++ p
  | [], p => by simp only [List.nil_append, cat]; rw [app_nil, nil_app]
  | f :: fs, p => by simp only [List.cons_append, cat]; rw [cat_snoc fs p, app_assoc]
theorem cat_size : ∀ (fs : List ByteArray), (∀ f ∈ fs, f.size ≤ 70) → (cat fs).size ≤ 70 * fs.length
  | [], _ => by simp [cat]; rfl
  | f :: fs, h => by
    have h1 := cat_size fs (fun g hg => h g (List.mem_cons_of_mem _ hg))
    have h2 := h f (List.mem_cons_self ..)
    simp only [cat, List.length_cons, size_app]; omega
def endV : ByteArray := ⟨#[41, 86]⟩
theorem endV_size : endV.size = 2 := rfl
theorem fail_j1 (x : ByteArray) (l : List ByteArray) (hp : ¬ Pre x 41) : Ev (fun k => descr_Method.j1 k x l) failR := by
  refine Ev.step (f := fun _ => some failR) (fun k => ?_) (Ev.now _)
  rw [descr_Method.j1, cut]
  simp only [Option.bind_some]
  rw [if_neg hp]; rfl
theorem first_none {a : ByteArray} (hc : 0 < a.size → bt a 0 ≠ 73 ∧ bt a 0 ≠ 76 ∧ bt a 0 ≠ 91) {n : Nat} (h : Fld a n) : n = 0 := by
  rcases h with ⟨q1, q2, q3⟩ | ⟨q1, q2⟩
  · exfalso
    obtain ⟨c1, c2, c3⟩ := hc (by omega)
    rcases q3 with h | ⟨_, h, _⟩
    · have := h.first.2
      rw [show ((0 : Nat) : Int) = 0 from rfl] at this
      rcases this with g | g
      · exact c1 g
      · exact c2 g
    · exact c3 h
  · exact q1
theorem field_first {f : ByteArray} (h : IsField f) : 0 < f.size ∧ (bt f 0 = 73 ∨ bt f 0 = 76 ∨ bt f 0 = 91) := by
  rcases h with (⟨h1, h2⟩ | h) | ⟨h1, h2, _⟩
  · exact ⟨by omega, .inl h2⟩
  · have := h.1; exact ⟨by omega, .inr (.inl h.2.1)⟩
  · exact ⟨h1, .inr (.inr h2)⟩
theorem l0_step (x : ByteArray) (l : List ByteArray) (hs : x.size ≤ 140737488351232) (m : Nat) (hm : Fld x m) (r : Res)
    (hr : Ev (fun k => if (m : Int) > 0 then (if (l.length : Int) < 8 then (if 0 ≤ (m : Int) then (if (m : Int) ≤ (x.size : Int) then (if l.length < 8796093022208 then (descr_Method.l0 k (x.extract ((m : Int) : Int).toNat x.size) (l ++ [x.extract 0 ((m : Int) : Int).toNat])) else (none)) else (none)) else (none)) else (descr_Method.j1 k x l)) else (descr_Method.j1 k x l)) r) : Ev (fun k => descr_Method.l0 k x l) r := by
  obtain ⟨m', h1, h2⟩ := split_spec x hs
  have := hm.eq h2
  subst this
  refine Ev.step (fun k => ?_) (h1.bind (f := fun k t => if t > 0 then (if (l.length : Int) < 8 then (if 0 ≤ t then (if t ≤ (x.size : Int) then (if l.length < 8796093022208 then (descr_Method.l0 k (x.extract (t : Int).toNat x.size) (l ++ [x.extract 0 (t : Int).toNat])) else (none)) else (none)) else (none)) else (descr_Method.j1 k x l)) else (descr_Method.j1 k x l)) hr)
  rw [descr_Method.l0]
theorem read_all : ∀ (fs l : List ByteArray), (∀ f ∈ fs, IsField f ∧ f.size ≤ 70) → fs.length ≤ 100 → l.length ≤ 8 →
    Ev (fun k => descr_Method.l0 k (cat fs ++ endV) l) (if l.length + fs.length ≤ 8 then (l ++ fs, ⟨#[86]⟩, true) else failR)
  | [], l, _, _, hl => by
    have hx : cat [] ++ endV = endV := nil_app endV
    rw [hx, if_pos (by simpa using hl), List.append_nil]
    have h41 : bt endV 0 = 41 := rfl
    have hF : Fld endV 0 := by
      obtain ⟨m, _, h2⟩ := split_spec endV (by rw [endV_size]; omega)
      have := first_none (a := endV) (fun _ => by rw [h41]; decide) h2
      subst this; exact h2
    refine l0_step endV l (by rw [endV_size]; omega) 0 hF _ (Ev.congr (f := fun k => descr_Method.j1 k endV l) (fun k => if_neg (by omega)) (Ev.step (f := fun _ => some _) (fun k => ?_) (Ev.now _)))
    rw [descr_Method.j1, cut]
    simp only [Option.bind_some]
    rw [if_pos (show Pre endV 41 from ⟨by rw [endV_size]; omega, h41⟩)]
    have hE : endV.extract 1 endV.size = (⟨#[86]⟩ : ByteArray) := by
      refine ba_ext rfl fun i hi => ?_
      have : i = 0 := by
        have : (endV.extract 1 endV.size).size = 1 := rfl
        omega
      subst this; rfl
    simp only [if_true]
    rw [hE, if_pos (lit_list 86)]
  | f :: fs, l, hf, hn, hl => by
    obtain ⟨f1, f2⟩ := hf f (List.mem_cons_self ..)
    have hfs : ∀ g ∈ fs, IsField g ∧ g.size ≤ 70 := fun g hg => hf g (List.mem_cons_of_mem _ hg)
    simp only [List.length_cons] at hn
    have hcs := cat_size fs (fun g hg => (hfs g hg).2)
    obtain ⟨p1, p2⟩ := field_first f1
    have hx : cat (f :: fs) ++ endV = f ++ (cat fs ++ endV) := app_assoc _ _ _
    rw [hx]
    generalize hX : f ++ (cat fs ++ endV) = X
    have hXs : X.size = f.size + ((cat fs).size + 2) := by rw [← hX, size_app, size_app, endV_size]
    have e1 : X.extract 0 f.size = f := by rw [← hX]; exact app_first _ _
    have e2 : X.extract f.size X.size = cat fs ++ endV := by rw [← hX]; exact app_last _ _
    have hR : FieldR X f.size := (isField_range X f.size (by omega)).1 (by rw [e1]; exact f1)
    have hF : Fld X f.size := .inl ⟨by omega, by omega, hR⟩
    refine l0_step X l (by omega) f.size hF _ ?_
    by_cases h8 : l.length < 8
    · have ih := read_all fs (l ++ [f]) hfs (by omega) (by simp; omega)
      have e3 : (if (l ++ [f]).length + fs.length ≤ 8 then ((l ++ [f]) ++ fs, (⟨#[86]⟩ : ByteArray), true) else failR) = (if l.length + (f :: fs).length ≤ 8 then (l ++ f :: fs, (⟨#[86]⟩ : ByteArray), true) else failR) := by
        simp only [List.length_append, List.length_cons, List.length_nil, List.append_assoc, List.cons_append, List.nil_append]
        rw [show l.length + (0 + 1) + fs.length = l.length + (fs.length + 1) by omega]
      rw [e3] at ih
      refine ih.congr (fun k => ?_)
      rw [if_pos (by omega), if_pos (by omega), if_pos (by omega), if_pos (by omega), if_pos (by omega), Int.toNat_natCast, e1, e2]
    · rw [if_neg (by simp only [List.length_cons]; omega)]
      have hb : bt X 0 = bt f 0 := by
        have := bt_left f (cat fs ++ endV) 0 p1
        rw [hX] at this; exact this
      refine (fail_j1 X l (fun h => ?_)).congr (fun k => ?_)
      · have := h.2; rw [hb] at this
        rcases p2 with g | g | g <;> rw [g] at this <;> simp at this
      · rw [if_pos (by omega), if_neg (by omega)]
theorem method_all (fs : List ByteArray) (hf : ∀ f ∈ fs, IsField f ∧ f.size ≤ 70) (hn : fs.length ≤ 100) :
    Ev (fun k => descr_Method.f k (((⟨#[40]⟩ : ByteArray) ++ cat fs) ++ (⟨#[41, 86]⟩ : ByteArray))) (if fs.length ≤ 8 then (fs, ⟨#[86]⟩, true) else failR) := by
  have h := read_all fs [] hf hn (by simp)
  have e : ((⟨#[40]⟩ : ByteArray) ++ cat fs) ++ (⟨#[41, 86]⟩ : ByteArray) = (⟨#[40]⟩ : ByteArray) ++ (cat fs ++ endV) := app_assoc _ _ _
  rw [e]
  have h0 : ([] : List ByteArray).length + fs.length = fs.length := by simp
  rw [h0, List.nil_append] at h
  refine h.congr (fun k => ?_)
  unfold descr_Method.f
  rw [cut]
  simp only [Option.bind_some]
  have hp : Pre ((⟨#[40]⟩ : ByteArray) ++ (cat fs ++ endV)) 40 := ⟨by rw [size_app]; have : (⟨#[40]⟩ : ByteArray).size = 1 := rfl; omega, by
    have := bt_left (⟨#[40]⟩ : ByteArray) (cat fs ++ endV) 0 (by show 0 < 1; omega)
    rw [show ((0 : Nat) : Int) = 0 from rfl] at this
    rw [this]; rfl⟩
  rw [if_pos hp]
  have e2 : ((⟨#[40]⟩ : ByteArray) ++ (cat fs ++ endV)).extract 1 ((⟨#[40]⟩ : ByteArray) ++ (cat fs ++ endV)).size = cat fs ++ endV := app_last (⟨#[40]⟩ : ByteArray) _
  simp only [if_true]
  rw [e2]

/-! the pieces -/
theorem ref_of (A x S : ByteArray) (i : Nat) (hA : A.size = i + 1) (hAb : bt A (i : Int) = 76) (hS : S.size = 1) (hSb : bt S 0 = 59) (hx : IsName x) : RefR ((A ++ x) ++ S) i ((A ++ x) ++ S).size := by
  obtain ⟨h1, h2, h3⟩ := hx
  have hs : ((A ++ x) ++ S).size = i + 1 + x.size + 1 := by rw [size_app, size_app, hA, hS]
  refine ⟨by omega, ?_, ?_, by omega, fun m hm1 hm2 => ?_⟩
  · rw [bt_left _ _ _ (by rw [size_app]; omega), bt_left _ _ _ (by omega)]; exact hAb
  · have := bt_right (A ++ x) S 0 (by omega)
    rw [size_app] at this
    rw [hs, show i + 1 + x.size + 1 - 1 = A.size + x.size + 0 by omega, this]; exact hSb
  · have e : m = A.size + (m - (i + 1)) := by omega
    rw [bt_left _ _ _ (by rw [size_app]; omega)]
    have := bt_right A x (m - (i + 1)) (by omega)
    rw [← e] at this
    rw [this]
    exact h1 (m - (i + 1)) (by omega) (by omega)
def pI : ByteArray := ⟨#[73]⟩
def pA : ByteArray := ⟨#[91, 73]⟩
def pL (x : ByteArray) : ByteArray := ((⟨#[76]⟩ : ByteArray) ++ x) ++ (⟨#[59]⟩ : ByteArray)
def pF (x : ByteArray) : ByteArray := ((⟨#[91, 76]⟩ : ByteArray) ++ x) ++ (⟨#[59]⟩ : ByteArray)
theorem pI_field : IsField pI := .inl (.inl ⟨rfl, rfl⟩)
theorem pA_field : IsField pA := .inr ⟨by show 0 < 2; omega, rfl, .inl ⟨rfl, rfl⟩⟩
theorem pL_size (x : ByteArray) : (pL x).size = 1 + x.size + 1 := by unfold pL; rw [size_app, size_app]; rfl
theorem pF_size (x : ByteArray) : (pF x).size = 2 + x.size + 1 := by unfold pF; rw [size_app, size_app]; rfl
theorem pL_field {x : ByteArray} (hx : IsName x) : IsField (pL x) := by
  have := ref_of (⟨#[76]⟩ : ByteArray) x (⟨#[59]⟩ : ByteArray) 0 rfl rfl rfl rfl hx
  exact (fieldR_all _).1 (.inl (.inr this))
theorem pF_range {x : ByteArray} (hx : IsName x) : FieldR (pF x) (pF x).size := by
  have := ref_of (⟨#[91, 76]⟩ : ByteArray) x (⟨#[59]⟩ : ByteArray) 1 rfl rfl rfl rfl hx
  refine .inr ⟨by rw [pF_size]; omega, ?_, .inr this⟩
  unfold pF
  rw [show (0 : Int) = ((0 : Nat) : Int) from rfl, bt_left _ _ _ (by rw [size_app]; show 0 < 2 + x.size; omega), bt_left _ _ _ (by show 0 < 2; omega)]
  rfl
theorem field_ev (a : ByteArray) (hs : a.size ≤ 140737488351232) {b : Bool} (h : b = true ↔ IsField a) : Ev (fun k => descr_Field.f k a) b := by
  obtain ⟨c, h1, h2⟩ := descr_field a hs
  have : c = b := by rw [Bool.eq_iff_iff, h2, h]
  rw [← this]; exact h1
theorem known_true : Ev (fun k => carafelaw2_known.f k) true := Ev.of carafelaw2_known.mono (k := 60) (by kernel_rfl)
theorem last_part (x : ByteArray) (hx : IsName x) : Ev (fun k => carafelaw2_DescrMany.j2 k x false) true := by
  have hx1 := hx.2.1; have hx2 := hx.2.2
  have hF := pF_range hx
  have hFs := pF_size x
  have b1 : Ev (fun k => descr_Field.f k (pF x)) true := field_ev _ (by omega) ⟨fun _ => (fieldR_all _).1 hF, fun _ => rfl⟩
  have b2 : Ev (fun k => descr_Field.f k (pF x ++ (⟨#[73]⟩ : ByteArray))) false := by
    refine field_ev _ (by rw [size_app]; have : (⟨#[73]⟩ : ByteArray).size = 1 := rfl; omega) ⟨fun h => (by cases h), fun h => ?_⟩
    have g1 : FieldR (pF x ++ (⟨#[73]⟩ : ByteArray)) (pF x).size := (isField_range _ _ (by rw [size_app]; omega)).1 (by rw [app_first]; exact (fieldR_all _).1 hF)
    have g2 := (fieldR_all _).2 h
    have := g1.eq g2
    rw [size_app] at this
    have e : (⟨#[73]⟩ : ByteArray).size = 1 := rfl
    omega
  have b3 : Ev (fun k => descr_Field.f k ((pF x).extract 0 ((pF x).size - 1))) false := by
    refine field_ev _ (by rw [size_ext]; omega) ⟨fun h => (by cases h), fun h => ?_⟩
    have g2 := (isField_range _ _ (by omega)).1 h
    have := hF.eq g2
    omega
  have b4 : Ev (fun k => descr_Field.f k ((⟨#[91]⟩ : ByteArray) ++ pF x)) false := by
    have e : (⟨#[91]⟩ : ByteArray).size = 1 := rfl
    refine field_ev _ (by rw [size_app]; omega) ⟨fun h => (by cases h), fun h => ?_⟩
    rw [field_iff] at h
    have hp : Pre ((⟨#[91]⟩ : ByteArray) ++ pF x) 91 := ⟨by rw [size_app]; omega, by
      rw [show (0 : Int) = ((0 : Nat) : Int) from rfl, bt_left _ _ _ (by omega)]; rfl⟩
    rw [if_pos hp] at h
    have e2 : ((⟨#[91]⟩ : ByteArray) ++ pF x).extract 1 ((⟨#[91]⟩ : ByteArray) ++ pF x).size = pF x := app_last (⟨#[91]⟩ : ByteArray) _
    rw [e2] at h
    have h91 : bt (pF x) 0 = 91 := by
      unfold pF
      rw [show (0 : Int) = ((0 : Nat) : Int) from rfl, bt_left _ _ _ (by rw [size_app]; show 0 < 2 + x.size; omega), bt_left _ _ _ (by show 0 < 2; omega)]
      rfl
    rcases h with ⟨_, g⟩ | g
    · rw [h91] at g; simp at g
    · have := g.2.1; rw [h91] at this; simp at this
  have b5 : Ev (fun k => descr_Field.f k ((pF x).extract 1 (pF x).size)) true := by
    refine field_ev _ (by rw [size_ext]; omega) ⟨fun _ => .inl ?_, fun _ => rfl⟩
    have h91 : Pre (pF x) 91 := ⟨by omega, by
      unfold pF
      rw [show (0 : Int) = ((0 : Nat) : Int) from rfl, bt_left _ _ _ (by rw [size_app]; show 0 < 2 + x.size; omega), bt_left _ _ _ (by show 0 < 2; omega)]
      rfl⟩
    have := (field_iff (pF x)).1 ((fieldR_all _).1 hF)
    rwa [if_pos h91] at this
  obtain ⟨K1, d1⟩ := b1; obtain ⟨K2, d2⟩ := b2; obtain ⟨K3, d3⟩ := b3; obtain ⟨K4, d4⟩ := b4; obtain ⟨K5, d5⟩ := b5; obtain ⟨K6, d6⟩ := known_true
  refine ⟨K1 + K2 + K3 + K4 + K5 + K6 + 1, fun k hk => ?_⟩
  obtain ⟨k, rfl⟩ : ∃ m, k = m + 1 := ⟨k - 1, by omega⟩
  have s1 : ((⟨#[91, 76]⟩ : ByteArray) ++ x).size = 2 + x.size := by rw [size_app]; rfl
  have s2 : (⟨#[73]⟩ : ByteArray).size = 1 := rfl
  have hw : wrap64 (((pF x).size : Int) - 1) = ((pF x).size - 1 : Nat) := by rw [wrap_id _ (by omega)]; omega
  have eF : ((⟨#[91, 76]⟩ : ByteArray) ++ x) ++ (⟨#[59]⟩ : ByteArray) = pF x := rfl
  have d1 : descr_Field.f k (pF x) = some true := d1 k (by omega)
  have d2 : descr_Field.f k (pF x ++ (⟨#[73]⟩ : ByteArray)) = some false := d2 k (by omega)
  have d3 : descr_Field.f k ((pF x).extract 0 ((pF x).size - 1)) = some false := d3 k (by omega)
  have d4 : descr_Field.f k ((⟨#[91]⟩ : ByteArray) ++ pF x) = some false := d4 k (by omega)
  have d5 : descr_Field.f k ((pF x).extract 1 (pF x).size) = some true := d5 k (by omega)
  have d6 : carafelaw2_known.f k = some true := d6 k (by omega)
  show carafelaw2_DescrMany.j2 (k + 1) x false = some true
  rw [carafelaw2_DescrMany.j2, if_neg (by decide), if_pos (by omega), if_pos (by omega), eF]
  rw [d1, Option.bind_some, if_pos rfl, if_pos (by omega), d2, Option.bind_some, if_neg (by decide), hw, if_pos (by omega), if_pos (by omega), Int.toNat_natCast, d3, Option.bind_some, if_neg (by decide),
    if_pos (by omega), d4, Option.bind_some, if_neg (by decide), if_pos (by omega), d5, Option.bind_some, if_pos rfl, d6, Option.bind_some]
def piece (x : ByteArray) (i : Nat) : ByteArray := rdOf ByteArray.empty [pI, pL x, pA] (Int.tmod (i : Int) 3)
theorem tmod3 (i : Nat) : Int.tmod (i : Int) 3 = ((i % 3 : Nat) : Int) := by
  rw [Int.tmod_eq_emod_of_nonneg (by omega)]; rfl
theorem piece_ok {x : ByteArray} (hx : IsName x) (i : Nat) : IsField (piece x i) ∧ (piece x i).size ≤ 70 := by
  unfold piece
  rw [tmod3]
  have hx2 := hx.2.2
  have : i % 3 < 3 := Nat.mod_lt _ (by omega)
  have h : i % 3 = 0 ∨ i % 3 = 1 ∨ i % 3 = 2 := by omega
  rcases h with h | h | h <;> rw [h]
  · exact ⟨pI_field, by show 1 ≤ 70; omega⟩
  · exact ⟨pL_field hx, by show (pL x).size ≤ 70; rw [pL_size]; omega⟩
  · exact ⟨pA_field, by show 2 ≤ 70; omega⟩
theorem many_loop (x : ByteArray) (hx : IsName x) (n : Nat) (hn : n ≤ 12) : ∀ (d i : Nat) (fs : List ByteArray), i + d = n → fs.length = i → (∀ f ∈ fs, IsField f ∧ f.size ≤ 70) → Ev (fun k => carafelaw2_DescrMany.l0 k (n : Int) x (cat fs) (i : Int)) true := by
  have hx2 := hx.2.2
  intro d
  induction d with
  | zero =>
    intro i fs hi hl hf
    have hc := cat_size fs (fun g hg => (hf g hg).2)
    have hm := method_all fs hf (by omega)
    have s1 : ((⟨#[40]⟩ : ByteArray) ++ cat fs).size = 1 + (cat fs).size := by rw [size_app]; rfl
    refine Ev.step (fun k => ?_) (hm.bind (f := fun k (bt159 : Res) => (if (bt159.2.2 != (decide ((n : Int) ≤ 8))) = true then (carafelaw2_DescrMany.j2 k x true) else (if bt159.2.2 = true then (if (bt159.1.length : Int) = (n : Int) then (carafelaw2_DescrMany.j2 k x (bt159.2.1.toList != ([86] : List UInt8))) else (carafelaw2_DescrMany.j2 k x true)) else (carafelaw2_DescrMany.j2 k x false)))) ?_)
    · rw [carafelaw2_DescrMany.l0, if_neg (by omega), if_pos (by omega), if_pos (by omega)]
    · by_cases h8 : fs.length ≤ 8
      · rw [if_pos h8]
        refine (last_part x hx).congr (fun k => ?_)
        have e1 : decide ((n : Int) ≤ 8) = true := by rw [decide_eq_true_eq]; omega
        have e2 : ((⟨#[86]⟩ : ByteArray).toList != ([86] : List UInt8)) = false := by rw [lit_list]; decide
        simp only [e1, e2, bne_self_eq_false, Bool.false_eq_true, if_false, if_true]
        rw [if_pos (by omega)]
      · rw [if_neg h8]
        refine (last_part x hx).congr (fun k => ?_)
        have e1 : decide ((n : Int) ≤ 8) = false := by rw [decide_eq_false_iff_not]; omega
        simp only [failR, e1, bne_self_eq_false, Bool.false_eq_true, if_false]
  | succ d ih =>
    intro i fs hi hl hf
    have hc := cat_size fs (fun g hg => (hf g hg).2)
    obtain ⟨p1, p2⟩ := piece_ok hx i
    have h := ih (i + 1) (fs ++ [piece x i]) (by omega) (by simp; omega) (fun f hm => by
      rcases List.mem_append.1 hm with g | g
      · exact hf f g
      · rw [List.mem_singleton.1 g]; exact ⟨p1, p2⟩)
    rw [cat_snoc] at h
    have s1 : ((⟨#[76]⟩ : ByteArray) ++ x).size = 1 + x.size := by rw [size_app]; rfl
    have ht := tmod3 i
    have h3 : i % 3 < 3 := Nat.mod_lt _ (by omega)
    refine Ev.step (fun k => ?_) h
    rw [carafelaw2_DescrMany.l0, if_pos (by omega), if_pos (by omega), if_pos (by omega), Option.bind_some]
    rw [if_pos (by omega), if_pos (by rw [ht]; simp only [List.length_cons, List.length_nil]; omega)]
    have e : rdOf ByteArray.empty ([(⟨#[73]⟩ : ByteArray), ((⟨#[76]⟩ : ByteArray) ++ x) ++ (⟨#[59]⟩ : ByteArray), (⟨#[91, 73]⟩ : ByteArray)] : List ByteArray) (Int.tmod (i : Int) 3) = piece x i := rfl
    rw [e, if_pos (by omega), wrap_id _ (by omega)]
    rfl
theorem within12 (z : Int) : ∃ n : Nat, n ≤ 12 ∧ carafebook_Within.f z 0 12 = some (n : Int) := by
  unfold carafebook_Within.f
  have e : wrap64 (wrap64 (12 - 0) + 1) = 13 := by rw [wrap_id (12 - 0) (by omega), wrap_id _ (by omega)]; omega
  rw [e, if_neg (by omega)]
  have h1 := Int.tmod_lt_of_pos z (show (0 : Int) < 13 by omega)
  have h2 := Int.lt_tmod_of_pos z (show (0 : Int) < 13 by omega)
  by_cases h : Int.tmod z 13 < 0
  · rw [if_pos h]
    refine ⟨(Int.tmod z 13 + 13).toNat, by omega, ?_⟩
    congr 1
    rw [wrap_id (Int.tmod z 13 + 12) (by omega), wrap_id (Int.tmod z 13 + 12 - 0) (by omega), wrap_id (Int.tmod z 13 + 12 - 0 + 1) (by omega), wrap_id _ (by omega)]
    omega
  · rw [if_neg h]
    refine ⟨(Int.tmod z 13).toNat, by omega, ?_⟩
    congr 1
    rw [wrap_id _ (by omega)]
    omega
theorem DescrMany : carafelaw2_DescrMany.Pure := by
  intro a0 a1 _ hs
  obtain ⟨n, hn, hw⟩ := within12 a0
  obtain ⟨b, h1, h2⟩ := ref_name a1 hs
  have key : ∀ x : ByteArray, IsName x → Ev (fun k => carafelaw2_DescrMany.j0 k (n : Int) x) true := by
    intro x hx
    refine Ev.step (fun k => ?_) (many_loop x hx n hn n 0 [] (by omega) rfl (fun f hf => by cases hf))
    rw [carafelaw2_DescrMany.j0]; rfl
  have hq : IsName (⟨#[113]⟩ : ByteArray) := by
    refine ⟨fun m _ hm => ?_, by show 0 < 1; omega, by show 1 ≤ 64; omega⟩
    have hsz : (⟨#[113]⟩ : ByteArray).size = 1 := rfl
    have : m = 0 := by omega
    subst this
    have : bt (⟨#[113]⟩ : ByteArray) ((0 : Nat) : Int) = 113 := rfl
    rw [this]
    exact .inl (.inl ⟨by omega, by omega⟩)
  refine Ev.rounds (r := true) ?_
  refine Ev.congr (f := fun k => (caraferef2_Name.f k a1).bind fun t => (if t = true then (carafelaw2_DescrMany.j0 k (n : Int) a1) else (carafelaw2_DescrMany.j0 k (n : Int) (⟨#[113]⟩ : ByteArray)))) (fun k => ?_) (h1.bind (f := fun k t => (if t = true then (carafelaw2_DescrMany.j0 k (n : Int) a1) else (carafelaw2_DescrMany.j0 k (n : Int) (⟨#[113]⟩ : ByteArray)))) ?_)
  · unfold carafelaw2_DescrMany.f; rw [hw]; rfl
  · cases b with
    | true => exact (key a1 (h2.1 rfl)).congr (fun k => if_pos rfl)
    | false => exact (key _ hq).congr (fun k => if_neg (by decide))
end Go.Proofs.Ytdhfjkikoiifcaa.Pure
