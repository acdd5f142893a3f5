/- 'carafe/carafelaw2.DescrReads' returns true for all texts: what the printed functions answer, and that they agree. No condition. -/
import Derived.Test.YtdhfjkikoiifcaaPDescrReadsx7
import Derived.Test.YtdhfjkikoiifcaaThPDescrReads
import Derived.KernelRfl
namespace Go.Proofs.Ytdhfjkikoiifcaa.Pure
open Go.RowKit Go.Proofs.Ytdhfjkikoiifcaa.PDescrReads Go.Proofs.YtdhfjkikoiifcaaW.PrintWords Go.Proofs.YtdhfjkikoiifcaaW.PrintLast
open Go.Proofs.Ytdhfjkikoiifcaa.Ch2 Go.Proofs.Ytdhfjkikoiifcaa.ThPDescrReads

theorem known_true : Ev (fun k => carafelaw2_known.f k) true := Ev.of carafelaw2_known.mono (k := 60) (by kernel_rfl)
theorem classes (a : ByteArray) (hs : a.size ≤ 100000) : ∃ r, Ev (fun k => descr_Class.f k a) r ∧ Ev (fun k => caraferef2_Class.f k a) r := by
  obtain ⟨b, hb1, hb2⟩ := descr_field a (by omega)
  obtain ⟨c, hc1, hc2⟩ := ref_field a (by omega)
  have hbc := bool_eq hb2 hc2
  subst hbc
  have hD : ∀ r, Pre a 91 → Ev (fun k => descr_Class.j0 k a b) r → Ev (fun k => descr_Class.f k a) r := by
    intro r hp hr
    refine Ev.congr (f := fun k => (descr_Field.f k a).bind fun t => descr_Class.j0 k a t) (fun k => ?_) (hb1.bind (f := fun k t => descr_Class.j0 k a t) hr)
    unfold descr_Class.f; rw [hp']; simp [hp]
  have hD2 : ∀ r, ¬ Pre a 91 → Ev (fun k => descr_Class.j0 k a false) r → Ev (fun k => descr_Class.f k a) r := by
    intro r hp hr
    refine hr.congr (fun k => ?_)
    unfold descr_Class.f; rw [hp']; simp [hp]
  have hR : ∀ r, Ev (fun k => if b = true then (caraferef2_Class.j0 k a (a.toList == ([73] : List UInt8))) else (caraferef2_Class.j0 k a true)) r → Ev (fun k => caraferef2_Class.f k a) r := by
    intro r hr
    refine Ev.congr (f := fun k => (caraferef2_Field.f k a).bind fun t => (if t = true then (caraferef2_Class.j0 k a (a.toList == ([73] : List UInt8))) else (caraferef2_Class.j0 k a true))) (fun k => rfl) (hc1.bind (f := fun k t => (if t = true then (caraferef2_Class.j0 k a (a.toList == ([73] : List UInt8))) else (caraferef2_Class.j0 k a true))) hr)
  have hE : Ev (fun k => caraferef2_Class.j0 k a true) (⟨#[]⟩ : ByteArray) := Ev.step (f := fun _ => some ⟨#[]⟩) (fun k => by rw [caraferef2_Class.j0, if_pos rfl]) (Ev.now _)
  by_cases hp : Pre a 91
  · have h91 : bt a 0 = 91 := by rw [hp.2]; rfl
    have h0 := hp.1
    cases b with
    | true =>
      refine ⟨⟨#[79, 98, 106, 101, 99, 116]⟩, hD _ hp (Ev.step (f := fun _ => some _) (fun k => by rw [descr_Class.j0, if_pos rfl]) (Ev.now _)), hR _ ?_⟩
      have hI : (a.toList == ([73] : List UInt8)) = false := by
        rw [beq_eq_false_iff_ne]; intro h
        have := (toList_one a 73).1 h
        rw [h91] at this; simp at this
      rw [hI]
      refine Ev.congr (f := fun k => caraferef2_Class.j0 k a false) (fun k => if_pos rfl) (Ev.step (f := fun _ => some _) (fun k => ?_) (Ev.now _))
      rw [caraferef2_Class.j0, if_neg (by decide), if_pos (by omega), if_pos h91]
    | false =>
      have hn : ¬ IsRef a := fun h => by have := h.2.1; rw [h91] at this; simp at this
      have := cls1 a (by omega)
      rw [show clsOf a = ⟨#[]⟩ by unfold clsOf; rw [if_neg hn]] at this
      exact ⟨_, hD _ hp this, hR _ (hE.congr (fun k => if_neg (by decide)))⟩
  · refine ⟨clsOf a, hD2 _ hp (cls1 a (by omega)), hR _ ?_⟩
    have hfi := field_iff a
    rw [if_neg hp] at hfi
    cases b with
    | true =>
      have hone := hfi.1 (hb2.1 rfl)
      refine Ev.congr (f := fun k => caraferef2_Class.j0 k a (a.toList == ([73] : List UInt8))) (fun k => if_pos rfl) ?_
      rcases hone with h | h
      · have hI : (a.toList == ([73] : List UInt8)) = true := by rw [beq_iff_eq]; exact (toList_one a 73).2 h
        have hn : ¬ IsRef a := fun g => by have := g.1; omega
        rw [hI, show clsOf a = ⟨#[]⟩ by unfold clsOf; rw [if_neg hn]]; exact hE
      · have h3 := h.1
        have h76 := h.2.1
        have hI : (a.toList == ([73] : List UInt8)) = false := by
          rw [beq_eq_false_iff_ne]; intro g
          have := ((toList_one a 73).1 g).1; omega
        rw [hI, show clsOf a = a.extract 1 (a.size - 1) by unfold clsOf; rw [if_pos h]]
        refine Ev.step (f := fun _ => some _) (fun k => ?_) (Ev.now _)
        rw [caraferef2_Class.j0, if_neg (by decide), if_pos (by omega), if_neg (by rw [h76]; decide), wrap_id _ (by omega), if_pos (by omega), if_pos (by omega)]
        congr 2; omega
    | false =>
      have hn : ¬ IsRef a := fun h => by have := hb2.2 (hfi.2 (.inr h)); cases this
      rw [show clsOf a = ⟨#[]⟩ by unfold clsOf; rw [if_neg hn]]
      exact hE.congr (fun k => if_neg (by decide))
theorem elems (a : ByteArray) (hs : a.size ≤ 100000) : ∃ r : ByteArray × Bool, Ev (fun k => descr_Elem.f k a) r ∧ Ev (fun k => caraferef2_Elem.f k a) r := by
  obtain ⟨b, hb1, hb2⟩ := descr_field a (by omega)
  obtain ⟨c, hc1, hc2⟩ := ref_field a (by omega)
  have hbc := bool_eq hb2 hc2
  subst hbc
  have hR : ∀ r, Ev (fun _ => if b = true then (if 0 < (a.size : Int) then (if (bt a 0) = 91 then (if 1 ≤ (a.size : Int) then (some (a.extract 1 a.size, true)) else (none)) else (some ((⟨#[]⟩ : ByteArray), false))) else (none)) else (some ((⟨#[]⟩ : ByteArray), false))) r → Ev (fun k => caraferef2_Elem.f k a) r := by
    intro r hr
    exact Ev.congr (f := fun k => (caraferef2_Field.f k a).bind fun t => (if t = true then (if 0 < (a.size : Int) then (if (bt a 0) = 91 then (if 1 ≤ (a.size : Int) then (some (a.extract 1 a.size, true)) else (none)) else (some ((⟨#[]⟩ : ByteArray), false))) else (none)) else (some ((⟨#[]⟩ : ByteArray), false)))) (fun k => rfl) (hc1.bind (f := fun _ t => (if t = true then (if 0 < (a.size : Int) then (if (bt a 0) = 91 then (if 1 ≤ (a.size : Int) then (some (a.extract 1 a.size, true)) else (none)) else (some ((⟨#[]⟩ : ByteArray), false))) else (none)) else (some ((⟨#[]⟩ : ByteArray), false)))) hr)
  by_cases hp : Pre a 91
  · have h91 : bt a 0 = 91 := by rw [hp.2]; rfl
    have h0 := hp.1
    have hD : ∀ r, Ev (fun _ => if b = true then (some (a.extract 1 a.size, true)) else (some ((⟨#[]⟩ : ByteArray), false))) r → Ev (fun k => descr_Elem.f k a) r := by
      intro r hr
      refine Ev.congr (f := fun k => (descr_Field.f k a).bind fun t => (if t = true then (some (a.extract 1 a.size, true)) else (some ((⟨#[]⟩ : ByteArray), false)))) (fun k => ?_) (hb1.bind (f := fun _ t => (if t = true then (some (a.extract 1 a.size, true)) else (some ((⟨#[]⟩ : ByteArray), false)))) hr)
      unfold descr_Elem.f; rw [cut]; simp [hp]
    cases b with
    | true =>
      refine ⟨(a.extract 1 a.size, true), hD _ ((Ev.now _).congr (fun k => if_pos rfl)), hR _ ((Ev.now _).congr (fun k => ?_))⟩
      rw [if_pos rfl, if_pos (by omega), if_pos h91, if_pos (by omega)]
    | false => exact ⟨(⟨#[]⟩, false), hD _ ((Ev.now _).congr (fun k => if_neg (by decide))), hR _ ((Ev.now _).congr (fun k => if_neg (by decide)))⟩
  · refine ⟨(⟨#[]⟩, false), (Ev.now _).congr (fun k => ?_), hR _ ?_⟩
    · unfold descr_Elem.f; rw [cut]; simp [hp]
    · cases b with
      | true =>
        have := (fieldR_all a).2 (hb2.1 rfl)
        have := this.pos
        have h91 : ¬ bt a 0 = 91 := fun h => hp ⟨by omega, by rw [h]; rfl⟩
        refine (Ev.now _).congr (fun k => ?_)
        rw [if_pos rfl, if_pos (by omega), if_neg h91]
      | false => exact (Ev.now _).congr (fun k => if_neg (by decide))
theorem reads (x : ByteArray) (hs : x.size ≤ 500) : ∃ k, carafelaw2_DescrReads.j0 k x = some true := by
  obtain ⟨r, ⟨K1, d1⟩, ⟨K2, d2⟩, hr8⟩ := methods x (by omega)
  obtain ⟨e, ⟨K3, d3⟩, ⟨K4, d4⟩⟩ := elems x (by omega)
  obtain ⟨n, ⟨K5, d5⟩, n1⟩ := descr_name x (by omega)
  obtain ⟨n', ⟨K6, d6⟩, n2⟩ := ref_name x (by omega)
  have hn := bool_eq n1 n2; subst hn
  obtain ⟨f, ⟨K7, d7⟩, f1⟩ := descr_field x (by omega)
  obtain ⟨f', ⟨K8, d8⟩, f2⟩ := ref_field x (by omega)
  have hf := bool_eq f1 f2; subst hf
  obtain ⟨c, ⟨K9, d9⟩, ⟨K10, d10⟩⟩ := classes x (by omega)
  obtain ⟨K11, d11⟩ := known_true
  have hlen : r.1.length ≤ 140737488351232 := by omega
  obtain ⟨K12, d12⟩ := same_refl r.1 hlen
  have e1 : (⟨#[76]⟩ : ByteArray).size = 1 := rfl
  have e2 : ((⟨#[76]⟩ : ByteArray) ++ x).size = 1 + x.size := by rw [ByteArray.size_append, e1]
  have hr : descr_Ref.f x = some (((⟨#[76]⟩ : ByteArray) ++ x) ++ (⟨#[59]⟩ : ByteArray)) := by
    unfold descr_Ref.f; rw [if_pos (by omega), if_pos (by omega)]
  have hr' : caraferef2_Ref.f x = some (((⟨#[76]⟩ : ByteArray) ++ x) ++ (⟨#[59]⟩ : ByteArray)) := by
    unfold caraferef2_Ref.f; rw [if_pos (by omega), if_pos (by omega)]
  refine ⟨(K1 + K2 + K3 + K4 + K5 + K6 + K7 + K8 + K9 + K10 + K11 + K12) + 1, ?_⟩
  generalize hK : K1 + K2 + K3 + K4 + K5 + K6 + K7 + K8 + K9 + K10 + K11 + K12 = K
  simp only [carafelaw2_DescrReads.j0, d1 K (by omega), d2 K (by omega), d3 K (by omega), d4 K (by omega), d5 K (by omega), d6 K (by omega), d7 K (by omega), d8 K (by omega), d9 K (by omega), d10 K (by omega), d11 K (by omega), d12 K (by omega), hr, hr', Option.bind_some, beq_self_eq_true, if_true]
theorem DescrReads : carafelaw2_DescrReads.Pure := by
  intro a0 hs
  by_cases h : (a0.size : Int) > 500
  · obtain ⟨k, hk⟩ := reads (a0.extract 0 500) (by rw [size_ext]; omega)
    refine ⟨k, ?_⟩
    unfold carafelaw2_DescrReads.f
    rw [if_pos h, if_pos (by omega), if_pos (by omega), hk]
  · obtain ⟨k, hk⟩ := reads a0 (by omega)
    refine ⟨k, ?_⟩
    unfold carafelaw2_DescrReads.f
    rw [if_neg h, hk]
end Go.Proofs.Ytdhfjkikoiifcaa.Pure
