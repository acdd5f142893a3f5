-- Printed by a changed copy of the printer (wip/printpatch.py). Not trusted: Lean checks it.
import Derived.Test.YtdhfjkikoiifcaaPDescrManyx0
import Derived.Test.YtdhfjkikoiifcaaPDescrManyx2
import Derived.Test.YtdhfjkikoiifcaaPDescrManyx3
import Derived.Test.YtdhfjkikoiifcaaPDescrManyx4
namespace Go.Proofs.Ytdhfjkikoiifcaa.PDescrMany
open Go.RowKit Go.Proofs.YtdhfjkikoiifcaaW.PrintWords Go.Proofs.YtdhfjkikoiifcaaW.PrintLast Go.Proofs.YtdhfjkikoiifcaaW.PrintMore
attribute [local go_sem] max2_int min2_int max_two min_two max_three min_three max_four min_four   -- for this text's walks alone
set_option linter.unusedVariables false
set_option linter.unusedSimpArgs false

/-! ### carafelaw2_DescrMany: function 4 -/
mutual
def carafelaw2_DescrMany.j0 : Nat → Int → ByteArray → Option (Bool)
  | 0, _, _ => none
  | k + 1, x0, x1 => carafelaw2_DescrMany.l0 k x0 x1 (⟨#[]⟩ : ByteArray) 0
def carafelaw2_DescrMany.l0 : Nat → Int → ByteArray → ByteArray → Int → Option (Bool)
  | 0, _, _, _, _ => none
  | k + 1, x0, x1, x5, x6 => if x6 < x0 then (if 1 + x1.size ≤ 9223372036854775807 then (if ((⟨#[76]⟩ : ByteArray) ++ x1).size + 1 ≤ 9223372036854775807 then ((some (([(⟨#[73]⟩ : ByteArray), ((⟨#[76]⟩ : ByteArray) ++ x1) ++ (⟨#[59]⟩ : ByteArray), (⟨#[91, 73]⟩ : ByteArray)] : List ByteArray) : List ByteArray)).bind fun y155 => (if 0 ≤ (Int.tmod x6 3) then (if (Int.tmod x6 3) < (y155.length : Int) then (if x5.size + (rdOf ByteArray.empty y155 (Int.tmod x6 3)).size ≤ 9223372036854775807 then (carafelaw2_DescrMany.l0 k x0 x1 (x5 ++ (rdOf ByteArray.empty y155 (Int.tmod x6 3))) (wrap64 (x6 + 1))) else (none)) else (none)) else (none))) else (none)) else (none)) else (if 1 + x5.size ≤ 9223372036854775807 then (if ((⟨#[40]⟩ : ByteArray) ++ x5).size + 2 ≤ 9223372036854775807 then ((descr_Method.f k (((⟨#[40]⟩ : ByteArray) ++ x5) ++ (⟨#[41, 86]⟩ : ByteArray))).bind fun bt159 => (if (bt159.2.2 != (decide (x0 ≤ 8))) = true then (carafelaw2_DescrMany.j2 k x1 true) else (if bt159.2.2 = true then (if (bt159.1.length : Int) = x0 then (carafelaw2_DescrMany.j2 k x1 (bt159.2.1.toList != ([86] : List UInt8))) else (carafelaw2_DescrMany.j2 k x1 true)) else (carafelaw2_DescrMany.j2 k x1 false)))) else (none)) else (none))
def carafelaw2_DescrMany.j2 : Nat → ByteArray → Bool → Option (Bool)
  | 0, _, _ => none
  | k + 1, x1, x55 => if x55 = true then (some false) else (if 2 + x1.size ≤ 9223372036854775807 then (if ((⟨#[91, 76]⟩ : ByteArray) ++ x1).size + 1 ≤ 9223372036854775807 then ((descr_Field.f k (((⟨#[91, 76]⟩ : ByteArray) ++ x1) ++ (⟨#[59]⟩ : ByteArray))).bind fun t164 => (if t164 = true then (if (((⟨#[91, 76]⟩ : ByteArray) ++ x1) ++ (⟨#[59]⟩ : ByteArray)).size + 1 ≤ 9223372036854775807 then ((descr_Field.f k ((((⟨#[91, 76]⟩ : ByteArray) ++ x1) ++ (⟨#[59]⟩ : ByteArray)) ++ (⟨#[73]⟩ : ByteArray))).bind fun t165 => (if t165 = true then (some false) else (if 0 ≤ (wrap64 (((((⟨#[91, 76]⟩ : ByteArray) ++ x1) ++ (⟨#[59]⟩ : ByteArray)).size : Int) - 1)) then (if (wrap64 (((((⟨#[91, 76]⟩ : ByteArray) ++ x1) ++ (⟨#[59]⟩ : ByteArray)).size : Int) - 1)) ≤ ((((⟨#[91, 76]⟩ : ByteArray) ++ x1) ++ (⟨#[59]⟩ : ByteArray)).size : Int) then ((descr_Field.f k ((((⟨#[91, 76]⟩ : ByteArray) ++ x1) ++ (⟨#[59]⟩ : ByteArray)).extract 0 ((wrap64 (((((⟨#[91, 76]⟩ : ByteArray) ++ x1) ++ (⟨#[59]⟩ : ByteArray)).size : Int) - 1)) : Int).toNat)).bind fun t166 => (if t166 = true then (some false) else (if 1 + (((⟨#[91, 76]⟩ : ByteArray) ++ x1) ++ (⟨#[59]⟩ : ByteArray)).size ≤ 9223372036854775807 then ((descr_Field.f k ((⟨#[91]⟩ : ByteArray) ++ (((⟨#[91, 76]⟩ : ByteArray) ++ x1) ++ (⟨#[59]⟩ : ByteArray)))).bind fun t167 => (if t167 = true then (some false) else (if 1 ≤ ((((⟨#[91, 76]⟩ : ByteArray) ++ x1) ++ (⟨#[59]⟩ : ByteArray)).size : Int) then ((descr_Field.f k ((((⟨#[91, 76]⟩ : ByteArray) ++ x1) ++ (⟨#[59]⟩ : ByteArray)).extract 1 (((⟨#[91, 76]⟩ : ByteArray) ++ x1) ++ (⟨#[59]⟩ : ByteArray)).size)).bind fun t168 => (if t168 = true then ((carafelaw2_known.f k).bind fun t169 => (some t169)) else (some false))) else (none)))) else (none)))) else (none)) else (none)))) else (none)) else (some false))) else (none)) else (none))
end
def carafelaw2_DescrMany.f (k : Nat) (a0 : Int) (a1 : ByteArray) : Option (Bool) := (carafebook_Within.f a0 0 12).bind fun t153 => ((caraferef2_Name.f k a1).bind fun t154 => (if t154 = true then (carafelaw2_DescrMany.j0 k t153 a1) else (carafelaw2_DescrMany.j0 k t153 (⟨#[113]⟩ : ByteArray))))
theorem carafelaw2_DescrMany.mono_l : ∀ k, (∀ y0 y1, LeO (carafelaw2_DescrMany.j0 k y0 y1) (carafelaw2_DescrMany.j0 (k + 1) y0 y1)) ∧ (∀ y0 y1 y2 y3, LeO (carafelaw2_DescrMany.l0 k y0 y1 y2 y3) (carafelaw2_DescrMany.l0 (k + 1) y0 y1 y2 y3)) ∧ (∀ y0 y1, LeO (carafelaw2_DescrMany.j2 k y0 y1) (carafelaw2_DescrMany.j2 (k + 1) y0 y1))
  | 0 => ⟨fun _ _ r h => by simp [carafelaw2_DescrMany.j0] at h, fun _ _ _ _ r h => by simp [carafelaw2_DescrMany.l0] at h, fun _ _ r h => by simp [carafelaw2_DescrMany.j2] at h⟩
  | k + 1 => by
    obtain ⟨ih0, ih1, ih2⟩ := carafelaw2_DescrMany.mono_l k
    refine ⟨?_, ?_, ?_⟩
    · intro y0 y1
      unfold carafelaw2_DescrMany.j0
      repeat' first
      | (with_reducible exact ih0 _ _)
      | (with_reducible exact ih1 _ _ _ _)
      | (with_reducible exact ih2 _ _)
      | (with_reducible exact carafelaw2_known.mono _)
      | (with_reducible exact caraferef2_Name.mono _ _)
      | (with_reducible exact descr_Field.mono _ _)
      | (with_reducible exact descr_Method.mono _ _)
      | (with_reducible exact LeO.refl _)
      | (with_reducible exact LeO.none _)
      | (with_reducible refine LeO.ite ?_ ?_)
      | (with_reducible refine LeO.bind ?_ (fun _ => ?_))
      | exact ih0 _ _
      | exact ih1 _ _ _ _
      | exact ih2 _ _
      | exact carafelaw2_known.mono _
      | exact caraferef2_Name.mono _ _
      | exact descr_Field.mono _ _
      | exact descr_Method.mono _ _
      | exact LeO.none _
      | refine LeO.ite ?_ ?_
      | refine LeO.bind ?_ (fun _ => ?_)
    · intro y0 y1 y2 y3
      unfold carafelaw2_DescrMany.l0
      repeat' first
      | (with_reducible exact ih0 _ _)
      | (with_reducible exact ih1 _ _ _ _)
      | (with_reducible exact ih2 _ _)
      | (with_reducible exact carafelaw2_known.mono _)
      | (with_reducible exact caraferef2_Name.mono _ _)
      | (with_reducible exact descr_Field.mono _ _)
      | (with_reducible exact descr_Method.mono _ _)
      | (with_reducible exact LeO.refl _)
      | (with_reducible exact LeO.none _)
      | (with_reducible refine LeO.ite ?_ ?_)
      | (with_reducible refine LeO.bind ?_ (fun _ => ?_))
      | exact ih0 _ _
      | exact ih1 _ _ _ _
      | exact ih2 _ _
      | exact carafelaw2_known.mono _
      | exact caraferef2_Name.mono _ _
      | exact descr_Field.mono _ _
      | exact descr_Method.mono _ _
      | exact LeO.none _
      | refine LeO.ite ?_ ?_
      | refine LeO.bind ?_ (fun _ => ?_)
    · intro y0 y1
      unfold carafelaw2_DescrMany.j2
      repeat' first
      | (with_reducible exact ih0 _ _)
      | (with_reducible exact ih1 _ _ _ _)
      | (with_reducible exact ih2 _ _)
      | (with_reducible exact carafelaw2_known.mono _)
      | (with_reducible exact caraferef2_Name.mono _ _)
      | (with_reducible exact descr_Field.mono _ _)
      | (with_reducible exact descr_Method.mono _ _)
      | (with_reducible exact LeO.refl _)
      | (with_reducible exact LeO.none _)
      | (with_reducible refine LeO.ite ?_ ?_)
      | (with_reducible refine LeO.bind ?_ (fun _ => ?_))
      | exact ih0 _ _
      | exact ih1 _ _ _ _
      | exact ih2 _ _
      | exact carafelaw2_known.mono _
      | exact caraferef2_Name.mono _ _
      | exact descr_Field.mono _ _
      | exact descr_Method.mono _ _
      | exact LeO.none _
      | refine LeO.ite ?_ ?_
      | refine LeO.bind ?_ (fun _ => ?_)
theorem carafelaw2_DescrMany.mono : ∀ a0 a1 k, LeO (carafelaw2_DescrMany.f k a0 a1) (carafelaw2_DescrMany.f (k + 1) a0 a1) := by
  intro a0 a1 k
  obtain ⟨ih0, ih1, ih2⟩ := carafelaw2_DescrMany.mono_l k
  unfold carafelaw2_DescrMany.f
  repeat' first
      | (with_reducible exact ih0 _ _)
      | (with_reducible exact ih1 _ _ _ _)
      | (with_reducible exact ih2 _ _)
      | (with_reducible exact carafelaw2_known.mono _)
      | (with_reducible exact caraferef2_Name.mono _ _)
      | (with_reducible exact descr_Field.mono _ _)
      | (with_reducible exact descr_Method.mono _ _)
      | (with_reducible exact LeO.refl _)
      | (with_reducible exact LeO.none _)
      | (with_reducible refine LeO.ite ?_ ?_)
      | (with_reducible refine LeO.bind ?_ (fun _ => ?_))
      | exact ih0 _ _
      | exact ih1 _ _ _ _
      | exact ih2 _ _
      | exact carafelaw2_known.mono _
      | exact caraferef2_Name.mono _ _
      | exact descr_Field.mono _ _
      | exact descr_Method.mono _ _
      | exact LeO.none _
      | refine LeO.ite ?_ ?_
      | refine LeO.bind ?_ (fun _ => ?_)
set_option maxHeartbeats 8000000 in
set_option maxRecDepth 100000 in
theorem carafelaw2_DescrMany.calls (k : Nat) (a0 : Int) (a1 : ByteArray) (r : Bool) (w : World) (h : carafelaw2_DescrMany.f k a0 a1 = some r) :
    Calls Try.prog 4 #[.int .i64 a0, .string a1] w fun e w' => e = .returned (.bool r) ∧ Below w.heap.size w w' := by
  have HB := Aside0.mk (Below.refl w.heap.size w)
  have H : ((carafebook_Within.f a0 0 12).bind fun t153 => ((caraferef2_Name.f k a1).bind fun t154 => (if t154 = true then (carafelaw2_DescrMany.j0 k t153 a1) else (carafelaw2_DescrMany.j0 k t153 (⟨#[113]⟩ : ByteArray))))) = some r := h
  clear h
  replace H := Option.bind_eq_some_iff.mp H
  obtain ⟨t153, A30, H⟩ := H
  replace H : ((caraferef2_Name.f k a1).bind fun t154 => (if t154 = true then (carafelaw2_DescrMany.j0 k t153 a1) else (carafelaw2_DescrMany.j0 k t153 (⟨#[113]⟩ : ByteArray)))) = some r := H
  have A3 := Aside0.mk A30
  clear A30
  replace H := Option.bind_eq_some_iff.mp H
  obtain ⟨t154, A40, H⟩ := H
  replace H : (if t154 = true then (carafelaw2_DescrMany.j0 k t153 a1) else (carafelaw2_DescrMany.j0 k t153 (⟨#[113]⟩ : ByteArray))) = some r := H
  have A4 := Aside0.mk A40
  clear A40
  have HC5 := Aside0.mk H
  clear H
  go_enter Try.func4, Try.ntmps4
  go_upto_if 15 with (first | ((with_reducible refine gate_callee (f := 13) rfl ?_); refine goesL_ (some 12) rfl rfl Try.func13 (by kernel_rfl) rfl #[.int .i64 a0, .int .i64 0, .int .i64 12] rfl (by (try simp only [List.map_toArray, List.map_cons, List.map_nil]); first | done | rfl | (simp only [List.length_drop, List.length_take]; rfl)) ?_; (with_reducible refine (carafebook_Within.calls a0 0 12 t153 _ A3.out).mono ?_); rintro e w' ⟨rfl, ⟨nd, rfl⟩⟩; refine ⟨_, rfl, ?_⟩) | ((with_reducible refine gate_callee (f := 14) rfl ?_); refine goesL_ (some 14) rfl rfl Try.func14 (by kernel_rfl) rfl #[.string a1] rfl (by (try simp only [List.map_toArray, List.map_cons, List.map_nil]); first | done | rfl | (simp only [List.length_drop, List.length_take]; rfl)) ?_; (with_reducible refine (caraferef2_Name.calls k a1 t154 _ A4.out).mono ?_); rintro e w' ⟨rfl, ⟨nd, rfl⟩⟩; refine ⟨_, rfl, ?_⟩))
  try any_goals first | (exfalso; have c3s := 0; have : (⟨#[40]⟩ : ByteArray).size = 1 := rfl; have : (⟨#[59]⟩ : ByteArray).size = 1 := rfl; have : (⟨#[76]⟩ : ByteArray).size = 1 := rfl; have : (⟨#[91, 76]⟩ : ByteArray).size = 2 := rfl; have := @ByteArray.size_append (⟨#[76]⟩ : ByteArray) x1_4; have := @ByteArray.size_append (⟨#[91, 76]⟩ : ByteArray) x1_4; have := @ByteArray.size_append ((⟨#[91, 76]⟩ : ByteArray) ++ x1_4) (⟨#[59]⟩ : ByteArray); omega) | (exfalso; have c3s := 0; have : (⟨#[40]⟩ : ByteArray).size = 1 := rfl; have : (⟨#[59]⟩ : ByteArray).size = 1 := rfl; have : (⟨#[76]⟩ : ByteArray).size = 1 := rfl; have : (⟨#[91, 76]⟩ : ByteArray).size = 2 := rfl; have := @ByteArray.size_append (⟨#[40]⟩ : ByteArray) x5_2; omega)
  (try simp only [Act.put, List.setIfInBounds_toArray, List.set_cons_zero, List.set_cons_succ])
  go_cut [1] (fun v1 wc => ∃ (kq : Nat) (x1_4 : ByteArray), v1 = .string x1_4 ∧ Aside0 (carafelaw2_DescrMany.j0 kq t153 x1_4 = some r) ∧ Aside0 (kq ≤ k) ∧ Aside0 (Below w.heap.size w wc))
  case first =>
    have H := HC5.out
    clear HC5
    by_cases c6 : t154 = true
    · subst c6
      have H1 : (carafelaw2_DescrMany.j0 k t153 a1) = some r := by rw [if_pos rfl] at H; exact H
      clear H
      have H := H1
      clear H1
      have H' := Aside0.mk H
      clear H
      go_wp2
      try any_goals first | (exfalso; have c3s := 0; have : (⟨#[40]⟩ : ByteArray).size = 1 := rfl; have : (⟨#[59]⟩ : ByteArray).size = 1 := rfl; have : (⟨#[76]⟩ : ByteArray).size = 1 := rfl; have : (⟨#[91, 76]⟩ : ByteArray).size = 2 := rfl; have := @ByteArray.size_append (⟨#[76]⟩ : ByteArray) x1_4; have := @ByteArray.size_append (⟨#[91, 76]⟩ : ByteArray) x1_4; have := @ByteArray.size_append ((⟨#[91, 76]⟩ : ByteArray) ++ x1_4) (⟨#[59]⟩ : ByteArray); omega) | (exfalso; have c3s := 0; have : (⟨#[40]⟩ : ByteArray).size = 1 := rfl; have : (⟨#[59]⟩ : ByteArray).size = 1 := rfl; have : (⟨#[76]⟩ : ByteArray).size = 1 := rfl; have : (⟨#[91, 76]⟩ : ByteArray).size = 2 := rfl; have := @ByteArray.size_append (⟨#[40]⟩ : ByteArray) x5_2; omega)
      go_meet
      case rel => exact ⟨_, (a1), (by first | rfl | (simp; done) | (simp [*]; done)), H', ⟨by first | omega | exact Nat.le_refl _⟩, ⟨by repeat (first | (with_reducible first | exact HB.out | apply below_alloc | apply pw_below_drewN | apply below_drew1) | exact HB.out)⟩⟩
    · replace c6 := Bool.eq_false_iff.mpr c6
      subst c6
      have H1 : (carafelaw2_DescrMany.j0 k t153 (⟨#[113]⟩ : ByteArray)) = some r := by rw [if_neg (show ¬ (false = true) by decide)] at H; exact H
      clear H
      have H := H1
      clear H1
      have H' := Aside0.mk H
      clear H
      go_wp2
      try any_goals first | (exfalso; have c3s := 0; have : (⟨#[40]⟩ : ByteArray).size = 1 := rfl; have : (⟨#[59]⟩ : ByteArray).size = 1 := rfl; have : (⟨#[76]⟩ : ByteArray).size = 1 := rfl; have : (⟨#[91, 76]⟩ : ByteArray).size = 2 := rfl; have := @ByteArray.size_append (⟨#[76]⟩ : ByteArray) x1_4; have := @ByteArray.size_append (⟨#[91, 76]⟩ : ByteArray) x1_4; have := @ByteArray.size_append ((⟨#[91, 76]⟩ : ByteArray) ++ x1_4) (⟨#[59]⟩ : ByteArray); omega) | (exfalso; have c3s := 0; have : (⟨#[40]⟩ : ByteArray).size = 1 := rfl; have : (⟨#[59]⟩ : ByteArray).size = 1 := rfl; have : (⟨#[76]⟩ : ByteArray).size = 1 := rfl; have : (⟨#[91, 76]⟩ : ByteArray).size = 2 := rfl; have := @ByteArray.size_append (⟨#[40]⟩ : ByteArray) x5_2; omega)
      go_meet
      case rel => exact ⟨_, ((⟨#[113]⟩ : ByteArray)), (by first | rfl | (simp; done) | (simp [*]; done)), H', ⟨by first | omega | exact Nat.le_refl _⟩, ⟨by repeat (first | (with_reducible first | exact HB.out | apply below_alloc | apply pw_below_drewN | apply below_drew1) | exact HB.out)⟩⟩
  case rest =>
    clear HC5
    try clear c1
    try clear p2
    try clear c4
    try clear c6
    obtain ⟨kq, x1_4, rfl, HA, HJ4, HB⟩ := hcut
    cases kq with
    | zero => exact absurd HA.out (by simp [carafelaw2_DescrMany.j0])
    | succ kj4 =>
      have H := HA.out
      clear HA
      simp only [carafelaw2_DescrMany.j0] at H
      have H' := Aside0.mk H
      clear H
      go_wp2
      try any_goals first | (exfalso; have c3s := 0; have : (⟨#[40]⟩ : ByteArray).size = 1 := rfl; have : (⟨#[59]⟩ : ByteArray).size = 1 := rfl; have : (⟨#[76]⟩ : ByteArray).size = 1 := rfl; have : (⟨#[91, 76]⟩ : ByteArray).size = 2 := rfl; have := @ByteArray.size_append (⟨#[76]⟩ : ByteArray) x1_4; have := @ByteArray.size_append (⟨#[91, 76]⟩ : ByteArray) x1_4; have := @ByteArray.size_append ((⟨#[91, 76]⟩ : ByteArray) ++ x1_4) (⟨#[59]⟩ : ByteArray); omega) | (exfalso; have c3s := 0; have : (⟨#[40]⟩ : ByteArray).size = 1 := rfl; have : (⟨#[59]⟩ : ByteArray).size = 1 := rfl; have : (⟨#[76]⟩ : ByteArray).size = 1 := rfl; have : (⟨#[91, 76]⟩ : ByteArray).size = 2 := rfl; have := @ByteArray.size_append (⟨#[40]⟩ : ByteArray) x5_2; omega)
      go_loopg [5, 6] kj4 (fun kq v5 v6 w' => ∃ (x5_2 : ByteArray) (x6_2 : Int), v5 = .string x5_2 ∧ v6 = .int .i64 x6_2 ∧ Aside0 (carafelaw2_DescrMany.l0 kq t153 x1_4 x5_2 x6_2 = some r) ∧ Aside0 (kq ≤ kj4) ∧ Aside0 (Below w.heap.size w w'))
      case atStart => exact ⟨((⟨#[]⟩ : ByteArray)), (0), (by first | rfl | (simp; done) | (simp [*]; done)), (by first | rfl | (simp; done) | (simp [*]; done)), H', ⟨Nat.le_refl _⟩, ⟨by repeat (first | (with_reducible first | exact HB.out | apply below_alloc | apply pw_below_drewN | apply below_drew1) | exact HB.out)⟩⟩
      case round =>
        clear H'
        try clear c1
        try clear p2
        try clear c4
        try clear c6
        try clear p2
        obtain ⟨x5_2, x6_2, rfl, rfl, HA, HK2, HB⟩ := hrel
        cases gk with
        | zero => exact absurd HA.out (by simp [carafelaw2_DescrMany.l0])
        | succ k2 =>
          have H := HA.out
          clear HA
          simp only [carafelaw2_DescrMany.l0] at H
          by_cases c7 : x6_2 < t153
          · rw [if_pos c7] at H
            have c7b0 : decide (x6_2 < t153) = true := decide_eq_true c7
            clear c7
            by_cases c8 : 1 + x1_4.size ≤ 9223372036854775807
            · rw [if_pos c8] at H
              have c8b0 := eq_true c8
              have c8b1 : decide (1 + x1_4.size ≤ 9223372036854775807) = true := decide_eq_true c8
              try have c8b2 : (9223372036854775807 < 1 + x1_4.size) = False := eq_false (Nat.not_lt.2 c8)
              by_cases c9 : ((⟨#[76]⟩ : ByteArray) ++ x1_4).size + 1 ≤ 9223372036854775807
              · rw [if_pos c9] at H
                have c9b0 := eq_true c9
                have c9b1 : decide (((⟨#[76]⟩ : ByteArray) ++ x1_4).size + 1 ≤ 9223372036854775807) = true := decide_eq_true c9
                try have c9b2 : (9223372036854775807 < ((⟨#[76]⟩ : ByteArray) ++ x1_4).size + 1) = False := eq_false (Nat.not_lt.2 c9)
                obtain ⟨y155, hy155⟩ : ∃ y_ : List ByteArray, y_ = (([(⟨#[73]⟩ : ByteArray), ((⟨#[76]⟩ : ByteArray) ++ x1_4) ++ (⟨#[59]⟩ : ByteArray), (⟨#[91, 73]⟩ : ByteArray)] : List ByteArray)) := ⟨_, rfl⟩
                replace H : (if 0 ≤ (Int.tmod x6_2 3) then (if (Int.tmod x6_2 3) < (y155.length : Int) then (if x5_2.size + (rdOf ByteArray.empty y155 (Int.tmod x6_2 3)).size ≤ 9223372036854775807 then (carafelaw2_DescrMany.l0 k2 t153 x1_4 (x5_2 ++ (rdOf ByteArray.empty y155 (Int.tmod x6_2 3))) (wrap64 (x6_2 + 1))) else (none)) else (none)) else (none)) = some r := by first | (rw [hy155]; with_reducible exact H) | (have H2_ := (Option.bind_some _ _).symm.trans H; rw [hy155]; with_reducible exact H2_) | (have H2_ := (Option.bind_some _ _).symm.trans H; with_reducible exact H2_) | with_reducible exact H | (rw [hy155]; exact H) | exact H
                have Ny155 := Aside0.mk hy155
                clear hy155
                obtain ⟨ji10, hji10⟩ : ∃ j_ : Int, (Int.tmod x6_2 3) = j_ := ⟨_, rfl⟩
                replace H : (if 0 ≤ (ji10) then (if (ji10) < (y155.length : Int) then (if x5_2.size + (rdOf ByteArray.empty y155 (ji10)).size ≤ 9223372036854775807 then (carafelaw2_DescrMany.l0 k2 t153 x1_4 (x5_2 ++ (rdOf ByteArray.empty y155 (ji10))) (wrap64 (x6_2 + 1))) else (none)) else (none)) else (none)) = some r := by first | (rw [hji10] at H; exact H) | (simp only [hji10] at H ⊢; exact H)
                by_cases c11 : 0 ≤ (ji10)
                · rw [if_pos c11] at H
                  have c11b0 : decide (0 ≤ (ji10)) = true := decide_eq_true c11
                  clear c11
                  by_cases c12 : (ji10) < (y155.length : Int)
                  · rw [if_pos c12] at H
                    have c12b0 : decide ((ji10) < (y155.length : Int)) = true := decide_eq_true c12
                    clear c12
                    by_cases c13 : x5_2.size + (rdOf ByteArray.empty y155 (ji10)).size ≤ 9223372036854775807
                    · rw [if_pos c13] at H
                      have c13b0 := eq_true c13
                      have c13b1 : decide (x5_2.size + (rdOf ByteArray.empty y155 (ji10)).size ≤ 9223372036854775807) = true := decide_eq_true c13
                      try have c13b2 : (9223372036854775807 < x5_2.size + (rdOf ByteArray.empty y155 (ji10)).size) = False := eq_false (Nat.not_lt.2 c13)
                      have H' := Aside0.mk H
                      clear H
                      go_wp2_with (first | ((with_reducible refine gate_dst (N := 25) rfl ?_); (try (refine gate_guard (by rfl) ?_; dsimp only)); refine Kd.R_lit Kd.string _ 9 ?hg (N := 25) ?hd (xs := ([(⟨#[73]⟩ : ByteArray), ((⟨#[76]⟩ : ByteArray) ++ x1_4) ++ (⟨#[59]⟩ : ByteArray), (⟨#[91, 73]⟩ : ByteArray)] : List ByteArray)) (inner := [.string (⟨#[73]⟩ : ByteArray), .string (((⟨#[76]⟩ : ByteArray) ++ x1_4) ++ (⟨#[59]⟩ : ByteArray)), .string (⟨#[91, 73]⟩ : ByteArray)]) (ok := fun _ => True) (okp := fun _ => True) ?hr ?hp (fun _ hk => hk) trivial (Below.refl _ _) (Nat.le_refl _) (by simp) ?_; (case hd => rfl); (case hg => rfl); (case hr => first | (go_simp; done) | (go_simp; rfl)); (case hp => exact (Reps.one (show Kd.M Kd.string _ _ _ (⟨#[73]⟩ : ByteArray) [.string (⟨#[73]⟩ : ByteArray)] from rfl) (Reps.one (show Kd.M Kd.string _ _ _ (((⟨#[76]⟩ : ByteArray) ++ x1_4) ++ (⟨#[59]⟩ : ByteArray)) [.string (((⟨#[76]⟩ : ByteArray) ++ x1_4) ++ (⟨#[59]⟩ : ByteArray))] from rfl) (Reps.one (show Kd.M Kd.string _ _ _ (⟨#[91, 73]⟩ : ByteArray) [.string (⟨#[91, 73]⟩ : ByteArray)] from rfl) (Reps.none _ _))))); intro v156 w14 ho15 hb hg_ hnew_; clear hg_ hnew_; (first | rw [← Ny155.out] at ho15 | (simp only [Int.reduceToNat] at ho15; rw [← Ny155.out] at ho15)); have n0_ := Aside0.mk (Kd.R_lower ho15 (below_size (by repeat (first | (with_reducible first | exact HB.out | apply below_alloc | apply pw_below_drewN | apply below_drew1) | exact HB.out)))); have n1_ := Aside0.mk (below_step (by repeat (first | (with_reducible first | exact HB.out | apply below_alloc | apply pw_below_drewN | apply below_drew1) | exact HB.out)) hb); clear HB; have HO157 := n0_; have HB := n1_; clear n0_ n1_; clear hb ho15; obtain ⟨Ao16, co16, eo16⟩ := Kd.R_slice HO157.out; subst eo16; have p158 : 0 ≤ ((ji10) : Int) := of_decide_eq_true (by first | (with_reducible assumption) | assumption); have q158 : (ji10) < (y155.length : Int) := of_decide_eq_true (by first | (with_reducible assumption) | assumption); obtain ⟨ad158, e158, hx158_0⟩ := Kd.at_string (Kd.R_reads' HO157.out).2.2 (ji10) p158 q158; cases e158; replace p158 := eq_true p158; replace q158 := eq_true q158))
                      try any_goals first | (exfalso; have c3s := 0; have : (⟨#[40]⟩ : ByteArray).size = 1 := rfl; have : (⟨#[59]⟩ : ByteArray).size = 1 := rfl; have : (⟨#[76]⟩ : ByteArray).size = 1 := rfl; have : (⟨#[91, 76]⟩ : ByteArray).size = 2 := rfl; have := @ByteArray.size_append (⟨#[76]⟩ : ByteArray) x1_4; have := @ByteArray.size_append (⟨#[91, 76]⟩ : ByteArray) x1_4; have := @ByteArray.size_append ((⟨#[91, 76]⟩ : ByteArray) ++ x1_4) (⟨#[59]⟩ : ByteArray); omega) | (exfalso; have c3s := 0; have : (⟨#[40]⟩ : ByteArray).size = 1 := rfl; have : (⟨#[59]⟩ : ByteArray).size = 1 := rfl; have : (⟨#[76]⟩ : ByteArray).size = 1 := rfl; have : (⟨#[91, 76]⟩ : ByteArray).size = 2 := rfl; have := @ByteArray.size_append (⟨#[40]⟩ : ByteArray) x5_2; omega)
                      go_roundg k2
                      case measure => have := HJ4.out; have := HK2.out; omega
                      case rel => exact ⟨(x5_2 ++ (rdOf ByteArray.empty y155 (ji10))), (wrap64 (x6_2 + 1)), (by first | rfl | (simp; done) | (simp only [← hji10] <;> (first | rfl | simp)) | (simp [*]; done)), (by first | rfl | (simp; done) | (simp [*]; done)), H', ⟨by have := HJ4.out; have := HK2.out; omega⟩, ⟨by repeat (first | (with_reducible first | exact HB.out | apply below_alloc | apply pw_below_drewN | apply below_drew1) | exact HB.out)⟩⟩
                    · rw [if_neg c13] at H
                      exact absurd H (by simp)
                  · rw [if_neg c12] at H
                    exact absurd H (by simp)
                · rw [if_neg c11] at H
                  exact absurd H (by simp)
              · rw [if_neg c9] at H
                exact absurd H (by simp)
            · rw [if_neg c8] at H
              exact absurd H (by simp)
          · rw [if_neg c7] at H
            have c7b0 : decide (x6_2 < t153) = false := decide_eq_false c7
            clear c7
            by_cases c17 : 1 + x5_2.size ≤ 9223372036854775807
            · rw [if_pos c17] at H
              have c17b0 := eq_true c17
              have c17b1 : decide (1 + x5_2.size ≤ 9223372036854775807) = true := decide_eq_true c17
              try have c17b2 : (9223372036854775807 < 1 + x5_2.size) = False := eq_false (Nat.not_lt.2 c17)
              by_cases c18 : ((⟨#[40]⟩ : ByteArray) ++ x5_2).size + 2 ≤ 9223372036854775807
              · rw [if_pos c18] at H
                have c18b0 := eq_true c18
                have c18b1 : decide (((⟨#[40]⟩ : ByteArray) ++ x5_2).size + 2 ≤ 9223372036854775807) = true := decide_eq_true c18
                try have c18b2 : (9223372036854775807 < ((⟨#[40]⟩ : ByteArray) ++ x5_2).size + 2) = False := eq_false (Nat.not_lt.2 c18)
                replace H := Option.bind_eq_some_iff.mp H
                obtain ⟨⟨t159, t160, t161⟩, A190, H⟩ := H
                replace H : (if (t161 != (decide (t153 ≤ 8))) = true then (carafelaw2_DescrMany.j2 k2 x1_4 true) else (if t161 = true then (if (t159.length : Int) = t153 then (carafelaw2_DescrMany.j2 k2 x1_4 (t160.toList != ([86] : List UInt8))) else (carafelaw2_DescrMany.j2 k2 x1_4 true)) else (carafelaw2_DescrMany.j2 k2 x1_4 false))) = some r := H
                have A19 := Aside0.mk A190
                clear A190
                have HC20 := Aside0.mk H
                clear H
                go_upto_region 10 with (first | ((with_reducible refine gate_callee (f := 8) rfl ?_); refine goesL_ (some 35) rfl rfl Try.func8 (by kernel_rfl) rfl #[.string (((⟨#[40]⟩ : ByteArray) ++ x5_2) ++ (⟨#[41, 86]⟩ : ByteArray))] rfl (by (try simp only [List.map_toArray, List.map_cons, List.map_nil]); first | done | rfl | (simp only [List.length_drop, List.length_take]; rfl)) ?_; (with_reducible refine (descr_Method.calls k2 (((⟨#[40]⟩ : ByteArray) ++ x5_2) ++ (⟨#[41, 86]⟩ : ByteArray)) t159 t160 t161 _ A19.out).mono ?_); rintro e w21 ⟨v162, rfl, ho0, hb⟩; refine ⟨_, rfl, ?_⟩; have n0_ := Aside0.mk (Kd.R_lower ho0 (below_size (by repeat (first | (with_reducible first | exact HB.out | apply below_alloc | apply pw_below_drewN | apply below_drew1) | exact HB.out)))); have n1_ := Aside0.mk (below_step (by repeat (first | (with_reducible first | exact HB.out | apply below_alloc | apply pw_below_drewN | apply below_drew1) | exact HB.out)) hb); clear HB; have HO163 := n0_; have HB := n1_; clear n0_ n1_; (try clear hb); (try clear hb2); (try clear hk); (try clear hi); (try clear ho0)))
                try any_goals first | (exfalso; have c3s := 0; have : (⟨#[40]⟩ : ByteArray).size = 1 := rfl; have : (⟨#[59]⟩ : ByteArray).size = 1 := rfl; have : (⟨#[76]⟩ : ByteArray).size = 1 := rfl; have : (⟨#[91, 76]⟩ : ByteArray).size = 2 := rfl; have := @ByteArray.size_append (⟨#[76]⟩ : ByteArray) x1_4; have := @ByteArray.size_append (⟨#[91, 76]⟩ : ByteArray) x1_4; have := @ByteArray.size_append ((⟨#[91, 76]⟩ : ByteArray) ++ x1_4) (⟨#[59]⟩ : ByteArray); omega) | (exfalso; have c3s := 0; have : (⟨#[40]⟩ : ByteArray).size = 1 := rfl; have : (⟨#[59]⟩ : ByteArray).size = 1 := rfl; have : (⟨#[76]⟩ : ByteArray).size = 1 := rfl; have : (⟨#[91, 76]⟩ : ByteArray).size = 2 := rfl; have := @ByteArray.size_append (⟨#[40]⟩ : ByteArray) x5_2; omega)
                (try simp only [Act.put, List.setIfInBounds_toArray, List.set_cons_zero, List.set_cons_succ])
                go_cut [55] (fun v55 wc => ∃ (kq : Nat) (x55_19 : Bool), v55 = .bool x55_19 ∧ Aside0 (carafelaw2_DescrMany.j2 kq x1_4 x55_19 = some r) ∧ Aside0 (kq ≤ k2) ∧ Aside0 (Below w.heap.size w wc))
                case first =>
                  have H := HC20.out
                  clear HC20
                  by_cases c22 : (t161 != (decide (t153 ≤ 8))) = true
                  · rw [if_pos c22] at H
                    have c22b0 : (t161 != (decide (t153 ≤ 8))) = true := c22
                    (try (have c22b1 : decide (t161 = (decide (t153 ≤ 8))) = false := by simpa using c22))
                    (try (have c22b2 : (t161 == (decide (t153 ≤ 8))) = false := by simpa using c22))
                    (try (have c22b3 : ¬ (t161 = (decide (t153 ≤ 8))) := by simpa using c22))
                    clear c22
                    (first | rw [c22b0] | (simp only [i64_w, i32_w]; rw [c22b0]) | skip)
                    have H' := Aside0.mk H
                    clear H
                    go_wp2
                    try any_goals first | (exfalso; have c3s := 0; have : (⟨#[40]⟩ : ByteArray).size = 1 := rfl; have : (⟨#[59]⟩ : ByteArray).size = 1 := rfl; have : (⟨#[76]⟩ : ByteArray).size = 1 := rfl; have : (⟨#[91, 76]⟩ : ByteArray).size = 2 := rfl; have := @ByteArray.size_append (⟨#[76]⟩ : ByteArray) x1_4; have := @ByteArray.size_append (⟨#[91, 76]⟩ : ByteArray) x1_4; have := @ByteArray.size_append ((⟨#[91, 76]⟩ : ByteArray) ++ x1_4) (⟨#[59]⟩ : ByteArray); omega) | (exfalso; have c3s := 0; have : (⟨#[40]⟩ : ByteArray).size = 1 := rfl; have : (⟨#[59]⟩ : ByteArray).size = 1 := rfl; have : (⟨#[76]⟩ : ByteArray).size = 1 := rfl; have : (⟨#[91, 76]⟩ : ByteArray).size = 2 := rfl; have := @ByteArray.size_append (⟨#[40]⟩ : ByteArray) x5_2; omega)
                    go_meet
                    case rel => exact ⟨_, (true), (by first | rfl | (simp; done) | (simp [*]; done)), H', ⟨by have := HJ4.out; have := HK2.out; first | omega | exact Nat.le_refl _⟩, ⟨by repeat (first | (with_reducible first | exact HB.out | apply below_alloc | apply pw_below_drewN | apply below_drew1) | exact HB.out)⟩⟩
                  · rw [if_neg c22] at H
                    have c22b0 : (t161 != (decide (t153 ≤ 8))) = false := by simpa using c22
                    (try (have c22b1 : decide (t161 = (decide (t153 ≤ 8))) = true := by simpa using c22))
                    (try (have c22b2 : (t161 == (decide (t153 ≤ 8))) = true := by simpa using c22))
                    clear c22
                    (first | rw [c22b0] | (simp only [i64_w, i32_w]; rw [c22b0]) | skip)
                    by_cases c23 : t161 = true
                    · subst c23
                      have H1 : (if (t159.length : Int) = t153 then (carafelaw2_DescrMany.j2 k2 x1_4 (t160.toList != ([86] : List UInt8))) else (carafelaw2_DescrMany.j2 k2 x1_4 true)) = some r := by rw [if_pos rfl] at H; exact H
                      clear H
                      have H := H1
                      clear H1
                      by_cases c24 : (t159.length : Int) = t153
                      · rw [if_pos c24] at H
                        have c24b0 : ((t159.length : Int) == t153) = true := beq_iff_eq.mpr c24
                        have c24b1 : ((t159.length : Int) != t153) = false := bne_eq_false_iff_eq.mpr c24
                        clear c24
                        have H' := Aside0.mk H
                        clear H
                        obtain ⟨Ao25, co25, eo25⟩ := Kd.R_slice HO163.out
                        subst eo25
                        go_wp2
                        try any_goals first | (exfalso; have c3s := 0; have : (⟨#[40]⟩ : ByteArray).size = 1 := rfl; have : (⟨#[59]⟩ : ByteArray).size = 1 := rfl; have : (⟨#[76]⟩ : ByteArray).size = 1 := rfl; have : (⟨#[91, 76]⟩ : ByteArray).size = 2 := rfl; have := @ByteArray.size_append (⟨#[76]⟩ : ByteArray) x1_4; have := @ByteArray.size_append (⟨#[91, 76]⟩ : ByteArray) x1_4; have := @ByteArray.size_append ((⟨#[91, 76]⟩ : ByteArray) ++ x1_4) (⟨#[59]⟩ : ByteArray); omega) | (exfalso; have c3s := 0; have : (⟨#[40]⟩ : ByteArray).size = 1 := rfl; have : (⟨#[59]⟩ : ByteArray).size = 1 := rfl; have : (⟨#[76]⟩ : ByteArray).size = 1 := rfl; have : (⟨#[91, 76]⟩ : ByteArray).size = 2 := rfl; have := @ByteArray.size_append (⟨#[40]⟩ : ByteArray) x5_2; omega)
                        go_meet
                        case rel => exact ⟨_, ((t160.toList != ([86] : List UInt8))), (by first | rfl | (simp; done) | (simp [*]; done)), H', ⟨by have := HJ4.out; have := HK2.out; first | omega | exact Nat.le_refl _⟩, ⟨by repeat (first | (with_reducible first | exact HB.out | apply below_alloc | apply pw_below_drewN | apply below_drew1) | exact HB.out)⟩⟩
                      · rw [if_neg c24] at H
                        have c24b0 : ((t159.length : Int) == t153) = false := beq_eq_false_iff_ne.mpr c24
                        have c24b1 : ((t159.length : Int) != t153) = true := bne_iff_ne.mpr c24
                        have H' := Aside0.mk H
                        clear H
                        obtain ⟨Ao26, co26, eo26⟩ := Kd.R_slice HO163.out
                        subst eo26
                        go_wp2
                        try any_goals first | (exfalso; have c3s := 0; have : (⟨#[40]⟩ : ByteArray).size = 1 := rfl; have : (⟨#[59]⟩ : ByteArray).size = 1 := rfl; have : (⟨#[76]⟩ : ByteArray).size = 1 := rfl; have : (⟨#[91, 76]⟩ : ByteArray).size = 2 := rfl; have := @ByteArray.size_append (⟨#[76]⟩ : ByteArray) x1_4; have := @ByteArray.size_append (⟨#[91, 76]⟩ : ByteArray) x1_4; have := @ByteArray.size_append ((⟨#[91, 76]⟩ : ByteArray) ++ x1_4) (⟨#[59]⟩ : ByteArray); omega) | (exfalso; have c3s := 0; have : (⟨#[40]⟩ : ByteArray).size = 1 := rfl; have : (⟨#[59]⟩ : ByteArray).size = 1 := rfl; have : (⟨#[76]⟩ : ByteArray).size = 1 := rfl; have : (⟨#[91, 76]⟩ : ByteArray).size = 2 := rfl; have := @ByteArray.size_append (⟨#[40]⟩ : ByteArray) x5_2; omega)
                        go_meet
                        case rel => exact ⟨_, (true), (by first | rfl | (simp; done) | (simp [*]; done)), H', ⟨by have := HJ4.out; have := HK2.out; first | omega | exact Nat.le_refl _⟩, ⟨by repeat (first | (with_reducible first | exact HB.out | apply below_alloc | apply pw_below_drewN | apply below_drew1) | exact HB.out)⟩⟩
                    · replace c23 := Bool.eq_false_iff.mpr c23
                      subst c23
                      have H1 : (carafelaw2_DescrMany.j2 k2 x1_4 false) = some r := by rw [if_neg (show ¬ (false = true) by decide)] at H; exact H
                      clear H
                      have H := H1
                      clear H1
                      have H' := Aside0.mk H
                      clear H
                      go_wp2
                      try any_goals first | (exfalso; have c3s := 0; have : (⟨#[40]⟩ : ByteArray).size = 1 := rfl; have : (⟨#[59]⟩ : ByteArray).size = 1 := rfl; have : (⟨#[76]⟩ : ByteArray).size = 1 := rfl; have : (⟨#[91, 76]⟩ : ByteArray).size = 2 := rfl; have := @ByteArray.size_append (⟨#[76]⟩ : ByteArray) x1_4; have := @ByteArray.size_append (⟨#[91, 76]⟩ : ByteArray) x1_4; have := @ByteArray.size_append ((⟨#[91, 76]⟩ : ByteArray) ++ x1_4) (⟨#[59]⟩ : ByteArray); omega) | (exfalso; have c3s := 0; have : (⟨#[40]⟩ : ByteArray).size = 1 := rfl; have : (⟨#[59]⟩ : ByteArray).size = 1 := rfl; have : (⟨#[76]⟩ : ByteArray).size = 1 := rfl; have : (⟨#[91, 76]⟩ : ByteArray).size = 2 := rfl; have := @ByteArray.size_append (⟨#[40]⟩ : ByteArray) x5_2; omega)
                      go_meet
                      case rel => exact ⟨_, (false), (by first | rfl | (simp; done) | (simp [*]; done)), H', ⟨by have := HJ4.out; have := HK2.out; first | omega | exact Nat.le_refl _⟩, ⟨by repeat (first | (with_reducible first | exact HB.out | apply below_alloc | apply pw_below_drewN | apply below_drew1) | exact HB.out)⟩⟩
                case rest =>
                  clear HC20
                  try clear c1
                  try clear p1
                  try clear q1
                  try clear hx1
                  try clear c2
                  try clear p2
                  try clear c4
                  try clear c6
                  try clear p6
                  try clear c7
                  try clear c7b0
                  try clear c8
                  try clear c8b0
                  try clear c8b1
                  try clear c8b2
                  try clear c9
                  try clear c9b0
                  try clear c9b1
                  try clear c9b2
                  try clear c11
                  try clear c11b0
                  try clear c12
                  try clear c12b0
                  try clear c13
                  try clear c13b0
                  try clear c13b1
                  try clear c13b2
                  try clear c14
                  try clear p15
                  try clear q15
                  try clear hx15
                  try clear c17
                  try clear c17b0
                  try clear c17b1
                  try clear c17b2
                  try clear c18
                  try clear c18b0
                  try clear c18b1
                  try clear c18b2
                  try clear c22
                  try clear c22b0
                  try clear c22b1
                  try clear c22b2
                  try clear c23
                  try clear c24
                  try clear c24b0
                  try clear c24b1
                  try clear hx158_0
                  try clear p158
                  try clear p2
                  try clear q158
                  obtain ⟨kq, x55_19, rfl, HA, HJ19, HB⟩ := hcut
                  cases kq with
                  | zero => exact absurd HA.out (by simp [carafelaw2_DescrMany.j2])
                  | succ kj19 =>
                    have H := HA.out
                    clear HA
                    simp only [carafelaw2_DescrMany.j2] at H
                    by_cases c27 : x55_19 = true
                    · subst c27
                      have H1 : (some false) = some r := by rw [if_pos rfl] at H; exact H
                      clear H
                      have H := H1
                      clear H1
                      obtain rfl := Option.some.inj H
                      go_wp2
                      try any_goals first | (exfalso; have c3s := 0; have : (⟨#[40]⟩ : ByteArray).size = 1 := rfl; have : (⟨#[59]⟩ : ByteArray).size = 1 := rfl; have : (⟨#[76]⟩ : ByteArray).size = 1 := rfl; have : (⟨#[91, 76]⟩ : ByteArray).size = 2 := rfl; have := @ByteArray.size_append (⟨#[76]⟩ : ByteArray) x1_4; have := @ByteArray.size_append (⟨#[91, 76]⟩ : ByteArray) x1_4; have := @ByteArray.size_append ((⟨#[91, 76]⟩ : ByteArray) ++ x1_4) (⟨#[59]⟩ : ByteArray); omega) | (exfalso; have c3s := 0; have : (⟨#[40]⟩ : ByteArray).size = 1 := rfl; have : (⟨#[59]⟩ : ByteArray).size = 1 := rfl; have : (⟨#[76]⟩ : ByteArray).size = 1 := rfl; have : (⟨#[91, 76]⟩ : ByteArray).size = 2 := rfl; have := @ByteArray.size_append (⟨#[40]⟩ : ByteArray) x5_2; omega)
                      go_ret
                      exact ⟨by first | rfl | (simp [errW_none, errW_some] <;> rfl) | (simp [*, errW_none, errW_some] <;> rfl), by repeat (first | (with_reducible first | exact HB.out | apply below_alloc | apply pw_below_drewN | apply below_drew1) | exact HB.out)⟩
                    · replace c27 := Bool.eq_false_iff.mpr c27
                      subst c27
                      have H1 : (if 2 + x1_4.size ≤ 9223372036854775807 then (if ((⟨#[91, 76]⟩ : ByteArray) ++ x1_4).size + 1 ≤ 9223372036854775807 then ((descr_Field.f kj19 (((⟨#[91, 76]⟩ : ByteArray) ++ x1_4) ++ (⟨#[59]⟩ : ByteArray))).bind fun t164 => (if t164 = true then (if (((⟨#[91, 76]⟩ : ByteArray) ++ x1_4) ++ (⟨#[59]⟩ : ByteArray)).size + 1 ≤ 9223372036854775807 then ((descr_Field.f kj19 ((((⟨#[91, 76]⟩ : ByteArray) ++ x1_4) ++ (⟨#[59]⟩ : ByteArray)) ++ (⟨#[73]⟩ : ByteArray))).bind fun t165 => (if t165 = true then (some false) else (if 0 ≤ (wrap64 (((((⟨#[91, 76]⟩ : ByteArray) ++ x1_4) ++ (⟨#[59]⟩ : ByteArray)).size : Int) - 1)) then (if (wrap64 (((((⟨#[91, 76]⟩ : ByteArray) ++ x1_4) ++ (⟨#[59]⟩ : ByteArray)).size : Int) - 1)) ≤ ((((⟨#[91, 76]⟩ : ByteArray) ++ x1_4) ++ (⟨#[59]⟩ : ByteArray)).size : Int) then ((descr_Field.f kj19 ((((⟨#[91, 76]⟩ : ByteArray) ++ x1_4) ++ (⟨#[59]⟩ : ByteArray)).extract 0 ((wrap64 (((((⟨#[91, 76]⟩ : ByteArray) ++ x1_4) ++ (⟨#[59]⟩ : ByteArray)).size : Int) - 1)) : Int).toNat)).bind fun t166 => (if t166 = true then (some false) else (if 1 + (((⟨#[91, 76]⟩ : ByteArray) ++ x1_4) ++ (⟨#[59]⟩ : ByteArray)).size ≤ 9223372036854775807 then ((descr_Field.f kj19 ((⟨#[91]⟩ : ByteArray) ++ (((⟨#[91, 76]⟩ : ByteArray) ++ x1_4) ++ (⟨#[59]⟩ : ByteArray)))).bind fun t167 => (if t167 = true then (some false) else (if 1 ≤ ((((⟨#[91, 76]⟩ : ByteArray) ++ x1_4) ++ (⟨#[59]⟩ : ByteArray)).size : Int) then ((descr_Field.f kj19 ((((⟨#[91, 76]⟩ : ByteArray) ++ x1_4) ++ (⟨#[59]⟩ : ByteArray)).extract 1 (((⟨#[91, 76]⟩ : ByteArray) ++ x1_4) ++ (⟨#[59]⟩ : ByteArray)).size)).bind fun t168 => (if t168 = true then ((carafelaw2_known.f kj19).bind fun t169 => (some t169)) else (some false))) else (none)))) else (none)))) else (none)) else (none)))) else (none)) else (some false))) else (none)) else (none)) = some r := by rw [if_neg (show ¬ (false = true) by decide)] at H; exact H
                      clear H
                      have H := H1
                      clear H1
                      by_cases c28 : 2 + x1_4.size ≤ 9223372036854775807
                      · rw [if_pos c28] at H
                        have c28b0 := eq_true c28
                        have c28b1 : decide (2 + x1_4.size ≤ 9223372036854775807) = true := decide_eq_true c28
                        try have c28b2 : (9223372036854775807 < 2 + x1_4.size) = False := eq_false (Nat.not_lt.2 c28)
                        by_cases c29 : ((⟨#[91, 76]⟩ : ByteArray) ++ x1_4).size + 1 ≤ 9223372036854775807
                        · rw [if_pos c29] at H
                          have c29b0 := eq_true c29
                          have c29b1 : decide (((⟨#[91, 76]⟩ : ByteArray) ++ x1_4).size + 1 ≤ 9223372036854775807) = true := decide_eq_true c29
                          try have c29b2 : (9223372036854775807 < ((⟨#[91, 76]⟩ : ByteArray) ++ x1_4).size + 1) = False := eq_false (Nat.not_lt.2 c29)
                          replace H := Option.bind_eq_some_iff.mp H
                          obtain ⟨t164, A300, H⟩ := H
                          replace H : (if t164 = true then (if (((⟨#[91, 76]⟩ : ByteArray) ++ x1_4) ++ (⟨#[59]⟩ : ByteArray)).size + 1 ≤ 9223372036854775807 then ((descr_Field.f kj19 ((((⟨#[91, 76]⟩ : ByteArray) ++ x1_4) ++ (⟨#[59]⟩ : ByteArray)) ++ (⟨#[73]⟩ : ByteArray))).bind fun t165 => (if t165 = true then (some false) else (if 0 ≤ (wrap64 (((((⟨#[91, 76]⟩ : ByteArray) ++ x1_4) ++ (⟨#[59]⟩ : ByteArray)).size : Int) - 1)) then (if (wrap64 (((((⟨#[91, 76]⟩ : ByteArray) ++ x1_4) ++ (⟨#[59]⟩ : ByteArray)).size : Int) - 1)) ≤ ((((⟨#[91, 76]⟩ : ByteArray) ++ x1_4) ++ (⟨#[59]⟩ : ByteArray)).size : Int) then ((descr_Field.f kj19 ((((⟨#[91, 76]⟩ : ByteArray) ++ x1_4) ++ (⟨#[59]⟩ : ByteArray)).extract 0 ((wrap64 (((((⟨#[91, 76]⟩ : ByteArray) ++ x1_4) ++ (⟨#[59]⟩ : ByteArray)).size : Int) - 1)) : Int).toNat)).bind fun t166 => (if t166 = true then (some false) else (if 1 + (((⟨#[91, 76]⟩ : ByteArray) ++ x1_4) ++ (⟨#[59]⟩ : ByteArray)).size ≤ 9223372036854775807 then ((descr_Field.f kj19 ((⟨#[91]⟩ : ByteArray) ++ (((⟨#[91, 76]⟩ : ByteArray) ++ x1_4) ++ (⟨#[59]⟩ : ByteArray)))).bind fun t167 => (if t167 = true then (some false) else (if 1 ≤ ((((⟨#[91, 76]⟩ : ByteArray) ++ x1_4) ++ (⟨#[59]⟩ : ByteArray)).size : Int) then ((descr_Field.f kj19 ((((⟨#[91, 76]⟩ : ByteArray) ++ x1_4) ++ (⟨#[59]⟩ : ByteArray)).extract 1 (((⟨#[91, 76]⟩ : ByteArray) ++ x1_4) ++ (⟨#[59]⟩ : ByteArray)).size)).bind fun t168 => (if t168 = true then ((carafelaw2_known.f kj19).bind fun t169 => (some t169)) else (some false))) else (none)))) else (none)))) else (none)) else (none)))) else (none)) else (some false)) = some r := H
                          have A30 := Aside0.mk A300
                          clear A300
                          by_cases c31 : t164 = true
                          · subst c31
                            have H1 : (if (((⟨#[91, 76]⟩ : ByteArray) ++ x1_4) ++ (⟨#[59]⟩ : ByteArray)).size + 1 ≤ 9223372036854775807 then ((descr_Field.f kj19 ((((⟨#[91, 76]⟩ : ByteArray) ++ x1_4) ++ (⟨#[59]⟩ : ByteArray)) ++ (⟨#[73]⟩ : ByteArray))).bind fun t165 => (if t165 = true then (some false) else (if 0 ≤ (wrap64 (((((⟨#[91, 76]⟩ : ByteArray) ++ x1_4) ++ (⟨#[59]⟩ : ByteArray)).size : Int) - 1)) then (if (wrap64 (((((⟨#[91, 76]⟩ : ByteArray) ++ x1_4) ++ (⟨#[59]⟩ : ByteArray)).size : Int) - 1)) ≤ ((((⟨#[91, 76]⟩ : ByteArray) ++ x1_4) ++ (⟨#[59]⟩ : ByteArray)).size : Int) then ((descr_Field.f kj19 ((((⟨#[91, 76]⟩ : ByteArray) ++ x1_4) ++ (⟨#[59]⟩ : ByteArray)).extract 0 ((wrap64 (((((⟨#[91, 76]⟩ : ByteArray) ++ x1_4) ++ (⟨#[59]⟩ : ByteArray)).size : Int) - 1)) : Int).toNat)).bind fun t166 => (if t166 = true then (some false) else (if 1 + (((⟨#[91, 76]⟩ : ByteArray) ++ x1_4) ++ (⟨#[59]⟩ : ByteArray)).size ≤ 9223372036854775807 then ((descr_Field.f kj19 ((⟨#[91]⟩ : ByteArray) ++ (((⟨#[91, 76]⟩ : ByteArray) ++ x1_4) ++ (⟨#[59]⟩ : ByteArray)))).bind fun t167 => (if t167 = true then (some false) else (if 1 ≤ ((((⟨#[91, 76]⟩ : ByteArray) ++ x1_4) ++ (⟨#[59]⟩ : ByteArray)).size : Int) then ((descr_Field.f kj19 ((((⟨#[91, 76]⟩ : ByteArray) ++ x1_4) ++ (⟨#[59]⟩ : ByteArray)).extract 1 (((⟨#[91, 76]⟩ : ByteArray) ++ x1_4) ++ (⟨#[59]⟩ : ByteArray)).size)).bind fun t168 => (if t168 = true then ((carafelaw2_known.f kj19).bind fun t169 => (some t169)) else (some false))) else (none)))) else (none)))) else (none)) else (none)))) else (none)) = some r := by rw [if_pos rfl] at H; exact H
                            clear H
                            have H := H1
                            clear H1
                            by_cases c32 : (((⟨#[91, 76]⟩ : ByteArray) ++ x1_4) ++ (⟨#[59]⟩ : ByteArray)).size + 1 ≤ 9223372036854775807
                            · rw [if_pos c32] at H
                              have c32b0 := eq_true c32
                              have c32b1 : decide ((((⟨#[91, 76]⟩ : ByteArray) ++ x1_4) ++ (⟨#[59]⟩ : ByteArray)).size + 1 ≤ 9223372036854775807) = true := decide_eq_true c32
                              try have c32b2 : (9223372036854775807 < (((⟨#[91, 76]⟩ : ByteArray) ++ x1_4) ++ (⟨#[59]⟩ : ByteArray)).size + 1) = False := eq_false (Nat.not_lt.2 c32)
                              replace H := Option.bind_eq_some_iff.mp H
                              obtain ⟨t165, A330, H⟩ := H
                              replace H : (if t165 = true then (some false) else (if 0 ≤ (wrap64 (((((⟨#[91, 76]⟩ : ByteArray) ++ x1_4) ++ (⟨#[59]⟩ : ByteArray)).size : Int) - 1)) then (if (wrap64 (((((⟨#[91, 76]⟩ : ByteArray) ++ x1_4) ++ (⟨#[59]⟩ : ByteArray)).size : Int) - 1)) ≤ ((((⟨#[91, 76]⟩ : ByteArray) ++ x1_4) ++ (⟨#[59]⟩ : ByteArray)).size : Int) then ((descr_Field.f kj19 ((((⟨#[91, 76]⟩ : ByteArray) ++ x1_4) ++ (⟨#[59]⟩ : ByteArray)).extract 0 ((wrap64 (((((⟨#[91, 76]⟩ : ByteArray) ++ x1_4) ++ (⟨#[59]⟩ : ByteArray)).size : Int) - 1)) : Int).toNat)).bind fun t166 => (if t166 = true then (some false) else (if 1 + (((⟨#[91, 76]⟩ : ByteArray) ++ x1_4) ++ (⟨#[59]⟩ : ByteArray)).size ≤ 9223372036854775807 then ((descr_Field.f kj19 ((⟨#[91]⟩ : ByteArray) ++ (((⟨#[91, 76]⟩ : ByteArray) ++ x1_4) ++ (⟨#[59]⟩ : ByteArray)))).bind fun t167 => (if t167 = true then (some false) else (if 1 ≤ ((((⟨#[91, 76]⟩ : ByteArray) ++ x1_4) ++ (⟨#[59]⟩ : ByteArray)).size : Int) then ((descr_Field.f kj19 ((((⟨#[91, 76]⟩ : ByteArray) ++ x1_4) ++ (⟨#[59]⟩ : ByteArray)).extract 1 (((⟨#[91, 76]⟩ : ByteArray) ++ x1_4) ++ (⟨#[59]⟩ : ByteArray)).size)).bind fun t168 => (if t168 = true then ((carafelaw2_known.f kj19).bind fun t169 => (some t169)) else (some false))) else (none)))) else (none)))) else (none)) else (none))) = some r := H
                              have A33 := Aside0.mk A330
                              clear A330
                              by_cases c34 : t165 = true
                              · subst c34
                                have H1 : (some false) = some r := by rw [if_pos rfl] at H; exact H
                                clear H
                                have H := H1
                                clear H1
                                obtain rfl := Option.some.inj H
                                go_wp2_with (first | ((with_reducible refine gate_callee (f := 15) rfl ?_); refine goesL_ (some 60) rfl rfl Try.func15 (by kernel_rfl) rfl #[.string (((⟨#[91, 76]⟩ : ByteArray) ++ x1_4) ++ (⟨#[59]⟩ : ByteArray))] rfl (by (try simp only [List.map_toArray, List.map_cons, List.map_nil]); first | done | rfl | (simp only [List.length_drop, List.length_take]; rfl)) ?_; (with_reducible refine (descr_Field.calls kj19 (((⟨#[91, 76]⟩ : ByteArray) ++ x1_4) ++ (⟨#[59]⟩ : ByteArray)) true _ A30.out).mono ?_); rintro e w' ⟨rfl, ⟨nd, rfl⟩⟩; refine ⟨_, rfl, ?_⟩) | (go_at_call 15; (with_reducible refine (descr_Field.calls kj19 ((((⟨#[91, 76]⟩ : ByteArray) ++ x1_4) ++ (⟨#[59]⟩ : ByteArray)) ++ (⟨#[73]⟩ : ByteArray)) true _ A33.out).mono ?_); rintro e w' ⟨rfl, ⟨nd, rfl⟩⟩))
                                try any_goals first | (exfalso; have c3s := 0; have : (⟨#[40]⟩ : ByteArray).size = 1 := rfl; have : (⟨#[59]⟩ : ByteArray).size = 1 := rfl; have : (⟨#[76]⟩ : ByteArray).size = 1 := rfl; have : (⟨#[91, 76]⟩ : ByteArray).size = 2 := rfl; have := @ByteArray.size_append (⟨#[76]⟩ : ByteArray) x1_4; have := @ByteArray.size_append (⟨#[91, 76]⟩ : ByteArray) x1_4; have := @ByteArray.size_append ((⟨#[91, 76]⟩ : ByteArray) ++ x1_4) (⟨#[59]⟩ : ByteArray); omega) | (exfalso; have c3s := 0; have : (⟨#[40]⟩ : ByteArray).size = 1 := rfl; have : (⟨#[59]⟩ : ByteArray).size = 1 := rfl; have : (⟨#[76]⟩ : ByteArray).size = 1 := rfl; have : (⟨#[91, 76]⟩ : ByteArray).size = 2 := rfl; have := @ByteArray.size_append (⟨#[40]⟩ : ByteArray) x5_2; omega)
                                go_ret
                                exact ⟨by first | rfl | (simp [errW_none, errW_some] <;> rfl) | (simp [*, errW_none, errW_some] <;> rfl), by repeat (first | (with_reducible first | exact HB.out | apply below_alloc | apply pw_below_drewN | apply below_drew1) | exact HB.out)⟩
                              · replace c34 := Bool.eq_false_iff.mpr c34
                                subst c34
                                have H1 : (if 0 ≤ (wrap64 (((((⟨#[91, 76]⟩ : ByteArray) ++ x1_4) ++ (⟨#[59]⟩ : ByteArray)).size : Int) - 1)) then (if (wrap64 (((((⟨#[91, 76]⟩ : ByteArray) ++ x1_4) ++ (⟨#[59]⟩ : ByteArray)).size : Int) - 1)) ≤ ((((⟨#[91, 76]⟩ : ByteArray) ++ x1_4) ++ (⟨#[59]⟩ : ByteArray)).size : Int) then ((descr_Field.f kj19 ((((⟨#[91, 76]⟩ : ByteArray) ++ x1_4) ++ (⟨#[59]⟩ : ByteArray)).extract 0 ((wrap64 (((((⟨#[91, 76]⟩ : ByteArray) ++ x1_4) ++ (⟨#[59]⟩ : ByteArray)).size : Int) - 1)) : Int).toNat)).bind fun t166 => (if t166 = true then (some false) else (if 1 + (((⟨#[91, 76]⟩ : ByteArray) ++ x1_4) ++ (⟨#[59]⟩ : ByteArray)).size ≤ 9223372036854775807 then ((descr_Field.f kj19 ((⟨#[91]⟩ : ByteArray) ++ (((⟨#[91, 76]⟩ : ByteArray) ++ x1_4) ++ (⟨#[59]⟩ : ByteArray)))).bind fun t167 => (if t167 = true then (some false) else (if 1 ≤ ((((⟨#[91, 76]⟩ : ByteArray) ++ x1_4) ++ (⟨#[59]⟩ : ByteArray)).size : Int) then ((descr_Field.f kj19 ((((⟨#[91, 76]⟩ : ByteArray) ++ x1_4) ++ (⟨#[59]⟩ : ByteArray)).extract 1 (((⟨#[91, 76]⟩ : ByteArray) ++ x1_4) ++ (⟨#[59]⟩ : ByteArray)).size)).bind fun t168 => (if t168 = true then ((carafelaw2_known.f kj19).bind fun t169 => (some t169)) else (some false))) else (none)))) else (none)))) else (none)) else (none)) = some r := by rw [if_neg (show ¬ (false = true) by decide)] at H; exact H
                                clear H
                                have H := H1
                                clear H1
                                obtain ⟨ji35, hji35⟩ : ∃ j_ : Int, (wrap64 (((((⟨#[91, 76]⟩ : ByteArray) ++ x1_4) ++ (⟨#[59]⟩ : ByteArray)).size : Int) - 1)) = j_ := ⟨_, rfl⟩
                                replace H : (if 0 ≤ (ji35) then (if (ji35) ≤ ((((⟨#[91, 76]⟩ : ByteArray) ++ x1_4) ++ (⟨#[59]⟩ : ByteArray)).size : Int) then ((descr_Field.f kj19 ((((⟨#[91, 76]⟩ : ByteArray) ++ x1_4) ++ (⟨#[59]⟩ : ByteArray)).extract 0 ((ji35) : Int).toNat)).bind fun t166 => (if t166 = true then (some false) else (if 1 + (((⟨#[91, 76]⟩ : ByteArray) ++ x1_4) ++ (⟨#[59]⟩ : ByteArray)).size ≤ 9223372036854775807 then ((descr_Field.f kj19 ((⟨#[91]⟩ : ByteArray) ++ (((⟨#[91, 76]⟩ : ByteArray) ++ x1_4) ++ (⟨#[59]⟩ : ByteArray)))).bind fun t167 => (if t167 = true then (some false) else (if 1 ≤ ((((⟨#[91, 76]⟩ : ByteArray) ++ x1_4) ++ (⟨#[59]⟩ : ByteArray)).size : Int) then ((descr_Field.f kj19 ((((⟨#[91, 76]⟩ : ByteArray) ++ x1_4) ++ (⟨#[59]⟩ : ByteArray)).extract 1 (((⟨#[91, 76]⟩ : ByteArray) ++ x1_4) ++ (⟨#[59]⟩ : ByteArray)).size)).bind fun t168 => (if t168 = true then ((carafelaw2_known.f kj19).bind fun t169 => (some t169)) else (some false))) else (none)))) else (none)))) else (none)) else (none)) = some r := by first | (rw [hji35] at H; exact H) | (simp only [hji35] at H ⊢; exact H)
                                (try rw [hji35] at A30)
                                (try rw [hji35] at A33)
                                have hji35w : (IntKind.i64.wrap (((((⟨#[91, 76]⟩ : ByteArray) ++ x1_4) ++ (⟨#[59]⟩ : ByteArray)).size : Int) - 1)) = ji35 := (i64_w _).trans hji35
                                by_cases c36 : 0 ≤ (ji35)
                                · rw [if_pos c36] at H
                                  have c36b0 := eq_true c36
                                  have c36b1 : decide (0 ≤ (ji35)) = true := decide_eq_true c36
                                  clear c36
                                  by_cases c37 : (ji35) ≤ ((((⟨#[91, 76]⟩ : ByteArray) ++ x1_4) ++ (⟨#[59]⟩ : ByteArray)).size : Int)
                                  · rw [if_pos c37] at H
                                    have c37b0 := eq_true c37
                                    have c37b1 : decide ((ji35) ≤ ((((⟨#[91, 76]⟩ : ByteArray) ++ x1_4) ++ (⟨#[59]⟩ : ByteArray)).size : Int)) = true := decide_eq_true c37
                                    replace H := Option.bind_eq_some_iff.mp H
                                    obtain ⟨t166, A380, H⟩ := H
                                    replace H : (if t166 = true then (some false) else (if 1 + (((⟨#[91, 76]⟩ : ByteArray) ++ x1_4) ++ (⟨#[59]⟩ : ByteArray)).size ≤ 9223372036854775807 then ((descr_Field.f kj19 ((⟨#[91]⟩ : ByteArray) ++ (((⟨#[91, 76]⟩ : ByteArray) ++ x1_4) ++ (⟨#[59]⟩ : ByteArray)))).bind fun t167 => (if t167 = true then (some false) else (if 1 ≤ ((((⟨#[91, 76]⟩ : ByteArray) ++ x1_4) ++ (⟨#[59]⟩ : ByteArray)).size : Int) then ((descr_Field.f kj19 ((((⟨#[91, 76]⟩ : ByteArray) ++ x1_4) ++ (⟨#[59]⟩ : ByteArray)).extract 1 (((⟨#[91, 76]⟩ : ByteArray) ++ x1_4) ++ (⟨#[59]⟩ : ByteArray)).size)).bind fun t168 => (if t168 = true then ((carafelaw2_known.f kj19).bind fun t169 => (some t169)) else (some false))) else (none)))) else (none))) = some r := H
                                    have hj35 : ((ji35) : Int).toNat = 2 + x1_4.size := by
                                      have e1 : ((⟨#[91, 76]⟩ : ByteArray) ++ x1_4).size = 2 + x1_4.size := ByteArray.size_append
                                      have e2 : (((⟨#[91, 76]⟩ : ByteArray) ++ x1_4) ++ (⟨#[59]⟩ : ByteArray)).size = ((⟨#[91, 76]⟩ : ByteArray) ++ x1_4).size + 1 := ByteArray.size_append
                                      have b := of_eq_true c29b0
                                      rw [← hji35]; unfold wrap64; omega
                                    rw [hj35] at A380
                                    have A38 := Aside0.mk A380
                                    clear A380
                                    by_cases c39 : t166 = true
                                    · subst c39
                                      have H1 : (some false) = some r := by rw [if_pos rfl] at H; exact H
                                      clear H
                                      have H := H1
                                      clear H1
                                      obtain rfl := Option.some.inj H
                                      go_wp2_with (first | ((with_reducible refine gate_callee (f := 15) rfl ?_); refine goesL_ (some 60) rfl rfl Try.func15 (by kernel_rfl) rfl #[.string (((⟨#[91, 76]⟩ : ByteArray) ++ x1_4) ++ (⟨#[59]⟩ : ByteArray))] rfl (by (try simp only [List.map_toArray, List.map_cons, List.map_nil]); first | done | rfl | (simp only [List.length_drop, List.length_take]; rfl)) ?_; (with_reducible refine (descr_Field.calls kj19 (((⟨#[91, 76]⟩ : ByteArray) ++ x1_4) ++ (⟨#[59]⟩ : ByteArray)) true _ A30.out).mono ?_); rintro e w' ⟨rfl, ⟨nd, rfl⟩⟩; refine ⟨_, rfl, ?_⟩) | (go_at_call 15; (with_reducible refine (descr_Field.calls kj19 ((((⟨#[91, 76]⟩ : ByteArray) ++ x1_4) ++ (⟨#[59]⟩ : ByteArray)) ++ (⟨#[73]⟩ : ByteArray)) false _ A33.out).mono ?_); rintro e w' ⟨rfl, ⟨nd, rfl⟩⟩) | (go_at_call 15; (with_reducible refine (descr_Field.calls kj19 ((((⟨#[91, 76]⟩ : ByteArray) ++ x1_4) ++ (⟨#[59]⟩ : ByteArray)).extract 0 (2 + x1_4.size)) true _ A38.out).mono ?_); rintro e w' ⟨rfl, ⟨nd, rfl⟩⟩))
                                      try any_goals first | (exfalso; have c3s := 0; have : (⟨#[40]⟩ : ByteArray).size = 1 := rfl; have : (⟨#[59]⟩ : ByteArray).size = 1 := rfl; have : (⟨#[76]⟩ : ByteArray).size = 1 := rfl; have : (⟨#[91, 76]⟩ : ByteArray).size = 2 := rfl; have := @ByteArray.size_append (⟨#[76]⟩ : ByteArray) x1_4; have := @ByteArray.size_append (⟨#[91, 76]⟩ : ByteArray) x1_4; have := @ByteArray.size_append ((⟨#[91, 76]⟩ : ByteArray) ++ x1_4) (⟨#[59]⟩ : ByteArray); omega) | (exfalso; have c3s := 0; have : (⟨#[40]⟩ : ByteArray).size = 1 := rfl; have : (⟨#[59]⟩ : ByteArray).size = 1 := rfl; have : (⟨#[76]⟩ : ByteArray).size = 1 := rfl; have : (⟨#[91, 76]⟩ : ByteArray).size = 2 := rfl; have := @ByteArray.size_append (⟨#[40]⟩ : ByteArray) x5_2; omega)
                                      go_ret
                                      exact ⟨by first | rfl | (simp [errW_none, errW_some] <;> rfl) | (simp only [← hji35]; first | rfl | (simp [errW_none, errW_some] <;> rfl)) | (simp [*, errW_none, errW_some] <;> rfl), by repeat (first | (with_reducible first | exact HB.out | apply below_alloc | apply pw_below_drewN | apply below_drew1) | exact HB.out)⟩
                                    · replace c39 := Bool.eq_false_iff.mpr c39
                                      subst c39
                                      have H1 : (if 1 + (((⟨#[91, 76]⟩ : ByteArray) ++ x1_4) ++ (⟨#[59]⟩ : ByteArray)).size ≤ 9223372036854775807 then ((descr_Field.f kj19 ((⟨#[91]⟩ : ByteArray) ++ (((⟨#[91, 76]⟩ : ByteArray) ++ x1_4) ++ (⟨#[59]⟩ : ByteArray)))).bind fun t167 => (if t167 = true then (some false) else (if 1 ≤ ((((⟨#[91, 76]⟩ : ByteArray) ++ x1_4) ++ (⟨#[59]⟩ : ByteArray)).size : Int) then ((descr_Field.f kj19 ((((⟨#[91, 76]⟩ : ByteArray) ++ x1_4) ++ (⟨#[59]⟩ : ByteArray)).extract 1 (((⟨#[91, 76]⟩ : ByteArray) ++ x1_4) ++ (⟨#[59]⟩ : ByteArray)).size)).bind fun t168 => (if t168 = true then ((carafelaw2_known.f kj19).bind fun t169 => (some t169)) else (some false))) else (none)))) else (none)) = some r := by rw [if_neg (show ¬ (false = true) by decide)] at H; exact H
                                      clear H
                                      have H := H1
                                      clear H1
                                      by_cases c40 : 1 + (((⟨#[91, 76]⟩ : ByteArray) ++ x1_4) ++ (⟨#[59]⟩ : ByteArray)).size ≤ 9223372036854775807
                                      · rw [if_pos c40] at H
                                        have c40b0 := eq_true c40
                                        have c40b1 : decide (1 + (((⟨#[91, 76]⟩ : ByteArray) ++ x1_4) ++ (⟨#[59]⟩ : ByteArray)).size ≤ 9223372036854775807) = true := decide_eq_true c40
                                        try have c40b2 : (9223372036854775807 < 1 + (((⟨#[91, 76]⟩ : ByteArray) ++ x1_4) ++ (⟨#[59]⟩ : ByteArray)).size) = False := eq_false (Nat.not_lt.2 c40)
                                        replace H := Option.bind_eq_some_iff.mp H
                                        obtain ⟨t167, A410, H⟩ := H
                                        replace H : (if t167 = true then (some false) else (if 1 ≤ ((((⟨#[91, 76]⟩ : ByteArray) ++ x1_4) ++ (⟨#[59]⟩ : ByteArray)).size : Int) then ((descr_Field.f kj19 ((((⟨#[91, 76]⟩ : ByteArray) ++ x1_4) ++ (⟨#[59]⟩ : ByteArray)).extract 1 (((⟨#[91, 76]⟩ : ByteArray) ++ x1_4) ++ (⟨#[59]⟩ : ByteArray)).size)).bind fun t168 => (if t168 = true then ((carafelaw2_known.f kj19).bind fun t169 => (some t169)) else (some false))) else (none))) = some r := H
                                        have A41 := Aside0.mk A410
                                        clear A410
                                        by_cases c42 : t167 = true
                                        · subst c42
                                          have H1 : (some false) = some r := by rw [if_pos rfl] at H; exact H
                                          clear H
                                          have H := H1
                                          clear H1
                                          obtain rfl := Option.some.inj H
                                          go_wp2_with (first | ((with_reducible refine gate_callee (f := 15) rfl ?_); refine goesL_ (some 60) rfl rfl Try.func15 (by kernel_rfl) rfl #[.string (((⟨#[91, 76]⟩ : ByteArray) ++ x1_4) ++ (⟨#[59]⟩ : ByteArray))] rfl (by (try simp only [List.map_toArray, List.map_cons, List.map_nil]); first | done | rfl | (simp only [List.length_drop, List.length_take]; rfl)) ?_; (with_reducible refine (descr_Field.calls kj19 (((⟨#[91, 76]⟩ : ByteArray) ++ x1_4) ++ (⟨#[59]⟩ : ByteArray)) true _ A30.out).mono ?_); rintro e w' ⟨rfl, ⟨nd, rfl⟩⟩; refine ⟨_, rfl, ?_⟩) | (go_at_call 15; (with_reducible refine (descr_Field.calls kj19 ((((⟨#[91, 76]⟩ : ByteArray) ++ x1_4) ++ (⟨#[59]⟩ : ByteArray)) ++ (⟨#[73]⟩ : ByteArray)) false _ A33.out).mono ?_); rintro e w' ⟨rfl, ⟨nd, rfl⟩⟩) | (go_at_call 15; (with_reducible refine (descr_Field.calls kj19 ((((⟨#[91, 76]⟩ : ByteArray) ++ x1_4) ++ (⟨#[59]⟩ : ByteArray)).extract 0 (2 + x1_4.size)) false _ A38.out).mono ?_); rintro e w' ⟨rfl, ⟨nd, rfl⟩⟩) | (go_at_call 15; (with_reducible refine (descr_Field.calls kj19 ((⟨#[91]⟩ : ByteArray) ++ (((⟨#[91, 76]⟩ : ByteArray) ++ x1_4) ++ (⟨#[59]⟩ : ByteArray))) true _ A41.out).mono ?_); rintro e w' ⟨rfl, ⟨nd, rfl⟩⟩))
                                          try any_goals first | (exfalso; have c3s := 0; have : (⟨#[40]⟩ : ByteArray).size = 1 := rfl; have : (⟨#[59]⟩ : ByteArray).size = 1 := rfl; have : (⟨#[76]⟩ : ByteArray).size = 1 := rfl; have : (⟨#[91, 76]⟩ : ByteArray).size = 2 := rfl; have := @ByteArray.size_append (⟨#[76]⟩ : ByteArray) x1_4; have := @ByteArray.size_append (⟨#[91, 76]⟩ : ByteArray) x1_4; have := @ByteArray.size_append ((⟨#[91, 76]⟩ : ByteArray) ++ x1_4) (⟨#[59]⟩ : ByteArray); omega) | (exfalso; have c3s := 0; have : (⟨#[40]⟩ : ByteArray).size = 1 := rfl; have : (⟨#[59]⟩ : ByteArray).size = 1 := rfl; have : (⟨#[76]⟩ : ByteArray).size = 1 := rfl; have : (⟨#[91, 76]⟩ : ByteArray).size = 2 := rfl; have := @ByteArray.size_append (⟨#[40]⟩ : ByteArray) x5_2; omega)
                                          go_ret
                                          exact ⟨by first | rfl | (simp [errW_none, errW_some] <;> rfl) | (simp only [← hji35]; first | rfl | (simp [errW_none, errW_some] <;> rfl)) | (simp [*, errW_none, errW_some] <;> rfl), by repeat (first | (with_reducible first | exact HB.out | apply below_alloc | apply pw_below_drewN | apply below_drew1) | exact HB.out)⟩
                                        · replace c42 := Bool.eq_false_iff.mpr c42
                                          subst c42
                                          have H1 : (if 1 ≤ ((((⟨#[91, 76]⟩ : ByteArray) ++ x1_4) ++ (⟨#[59]⟩ : ByteArray)).size : Int) then ((descr_Field.f kj19 ((((⟨#[91, 76]⟩ : ByteArray) ++ x1_4) ++ (⟨#[59]⟩ : ByteArray)).extract 1 (((⟨#[91, 76]⟩ : ByteArray) ++ x1_4) ++ (⟨#[59]⟩ : ByteArray)).size)).bind fun t168 => (if t168 = true then ((carafelaw2_known.f kj19).bind fun t169 => (some t169)) else (some false))) else (none)) = some r := by rw [if_neg (show ¬ (false = true) by decide)] at H; exact H
                                          clear H
                                          have H := H1
                                          clear H1
                                          by_cases c43 : 1 ≤ ((((⟨#[91, 76]⟩ : ByteArray) ++ x1_4) ++ (⟨#[59]⟩ : ByteArray)).size : Int)
                                          · rw [if_pos c43] at H
                                            have c43b0 := eq_true c43
                                            have c43b1 : decide (1 ≤ ((((⟨#[91, 76]⟩ : ByteArray) ++ x1_4) ++ (⟨#[59]⟩ : ByteArray)).size : Int)) = true := decide_eq_true c43
                                            replace H := Option.bind_eq_some_iff.mp H
                                            obtain ⟨t168, A440, H⟩ := H
                                            replace H : (if t168 = true then ((carafelaw2_known.f kj19).bind fun t169 => (some t169)) else (some false)) = some r := H
                                            have hsz : (((⟨#[91, 76]⟩ : ByteArray) ++ x1_4) ++ (⟨#[59]⟩ : ByteArray)).size = 2 + x1_4.size + 1 := by rw [ByteArray.size_append, ByteArray.size_append]; rfl
                                            rw [hsz] at A440
                                            have A44 := Aside0.mk A440
                                            clear A440
                                            by_cases c45 : t168 = true
                                            · subst c45
                                              have H1 : ((carafelaw2_known.f kj19).bind fun t169 => (some t169)) = some r := by rw [if_pos rfl] at H; exact H
                                              clear H
                                              have H := H1
                                              clear H1
                                              replace H := Option.bind_eq_some_iff.mp H
                                              obtain ⟨t169, A460, H⟩ := H
                                              replace H : (some t169) = some r := H
                                              have A46 := Aside0.mk A460
                                              clear A460
                                              obtain rfl := Option.some.inj H
                                              go_wp2_with (first | ((with_reducible refine gate_callee (f := 15) rfl ?_); refine goesL_ (some 60) rfl rfl Try.func15 (by kernel_rfl) rfl #[.string (((⟨#[91, 76]⟩ : ByteArray) ++ x1_4) ++ (⟨#[59]⟩ : ByteArray))] rfl (by (try simp only [List.map_toArray, List.map_cons, List.map_nil]); first | done | rfl | (simp only [List.length_drop, List.length_take]; rfl)) ?_; (with_reducible refine (descr_Field.calls kj19 (((⟨#[91, 76]⟩ : ByteArray) ++ x1_4) ++ (⟨#[59]⟩ : ByteArray)) true _ A30.out).mono ?_); rintro e w' ⟨rfl, ⟨nd, rfl⟩⟩; refine ⟨_, rfl, ?_⟩) | (go_at_call 15; (with_reducible refine (descr_Field.calls kj19 ((((⟨#[91, 76]⟩ : ByteArray) ++ x1_4) ++ (⟨#[59]⟩ : ByteArray)) ++ (⟨#[73]⟩ : ByteArray)) false _ A33.out).mono ?_); rintro e w' ⟨rfl, ⟨nd, rfl⟩⟩) | (go_at_call 15; (with_reducible refine (descr_Field.calls kj19 ((((⟨#[91, 76]⟩ : ByteArray) ++ x1_4) ++ (⟨#[59]⟩ : ByteArray)).extract 0 (2 + x1_4.size)) false _ A38.out).mono ?_); rintro e w' ⟨rfl, ⟨nd, rfl⟩⟩) | (go_at_call 15; (with_reducible refine (descr_Field.calls kj19 ((⟨#[91]⟩ : ByteArray) ++ (((⟨#[91, 76]⟩ : ByteArray) ++ x1_4) ++ (⟨#[59]⟩ : ByteArray))) false _ A41.out).mono ?_); rintro e w' ⟨rfl, ⟨nd, rfl⟩⟩) | (go_at_call 15; (with_reducible refine (descr_Field.calls kj19 ((((⟨#[91, 76]⟩ : ByteArray) ++ x1_4) ++ (⟨#[59]⟩ : ByteArray)).extract 1 (2 + x1_4.size + 1)) true _ A44.out).mono ?_); rintro e w' ⟨rfl, ⟨nd, rfl⟩⟩) | (go_at_call 12; (with_reducible refine (carafelaw2_known.calls kj19  t169 _ A46.out).mono ?_); rintro e w47 ⟨rfl, hb⟩; have n0_ := Aside0.mk (below_step (by repeat (first | (with_reducible first | exact HB.out | apply below_alloc | apply pw_below_drewN | apply below_drew1) | exact HB.out)) hb); clear HB; have HB := n0_; clear n0_; (try clear hb); (try clear hb2); (try clear hk); (try clear hi)))
                                              try any_goals first | (exfalso; have c3s := 0; have : (⟨#[40]⟩ : ByteArray).size = 1 := rfl; have : (⟨#[59]⟩ : ByteArray).size = 1 := rfl; have : (⟨#[76]⟩ : ByteArray).size = 1 := rfl; have : (⟨#[91, 76]⟩ : ByteArray).size = 2 := rfl; have := @ByteArray.size_append (⟨#[76]⟩ : ByteArray) x1_4; have := @ByteArray.size_append (⟨#[91, 76]⟩ : ByteArray) x1_4; have := @ByteArray.size_append ((⟨#[91, 76]⟩ : ByteArray) ++ x1_4) (⟨#[59]⟩ : ByteArray); omega) | (exfalso; have c3s := 0; have : (⟨#[40]⟩ : ByteArray).size = 1 := rfl; have : (⟨#[59]⟩ : ByteArray).size = 1 := rfl; have : (⟨#[76]⟩ : ByteArray).size = 1 := rfl; have : (⟨#[91, 76]⟩ : ByteArray).size = 2 := rfl; have := @ByteArray.size_append (⟨#[40]⟩ : ByteArray) x5_2; omega)
                                              go_ret
                                              exact ⟨by first | rfl | (simp [errW_none, errW_some] <;> rfl) | (simp only [← hji35]; first | rfl | (simp [errW_none, errW_some] <;> rfl)) | (simp [*, errW_none, errW_some] <;> rfl), by repeat (first | (with_reducible first | exact HB.out | apply below_alloc | apply pw_below_drewN | apply below_drew1) | exact HB.out)⟩
                                            · replace c45 := Bool.eq_false_iff.mpr c45
                                              subst c45
                                              have H1 : (some false) = some r := by rw [if_neg (show ¬ (false = true) by decide)] at H; exact H
                                              clear H
                                              have H := H1
                                              clear H1
                                              obtain rfl := Option.some.inj H
                                              go_wp2_with (first | ((with_reducible refine gate_callee (f := 15) rfl ?_); refine goesL_ (some 60) rfl rfl Try.func15 (by kernel_rfl) rfl #[.string (((⟨#[91, 76]⟩ : ByteArray) ++ x1_4) ++ (⟨#[59]⟩ : ByteArray))] rfl (by (try simp only [List.map_toArray, List.map_cons, List.map_nil]); first | done | rfl | (simp only [List.length_drop, List.length_take]; rfl)) ?_; (with_reducible refine (descr_Field.calls kj19 (((⟨#[91, 76]⟩ : ByteArray) ++ x1_4) ++ (⟨#[59]⟩ : ByteArray)) true _ A30.out).mono ?_); rintro e w' ⟨rfl, ⟨nd, rfl⟩⟩; refine ⟨_, rfl, ?_⟩) | (go_at_call 15; (with_reducible refine (descr_Field.calls kj19 ((((⟨#[91, 76]⟩ : ByteArray) ++ x1_4) ++ (⟨#[59]⟩ : ByteArray)) ++ (⟨#[73]⟩ : ByteArray)) false _ A33.out).mono ?_); rintro e w' ⟨rfl, ⟨nd, rfl⟩⟩) | (go_at_call 15; (with_reducible refine (descr_Field.calls kj19 ((((⟨#[91, 76]⟩ : ByteArray) ++ x1_4) ++ (⟨#[59]⟩ : ByteArray)).extract 0 (2 + x1_4.size)) false _ A38.out).mono ?_); rintro e w' ⟨rfl, ⟨nd, rfl⟩⟩) | (go_at_call 15; (with_reducible refine (descr_Field.calls kj19 ((⟨#[91]⟩ : ByteArray) ++ (((⟨#[91, 76]⟩ : ByteArray) ++ x1_4) ++ (⟨#[59]⟩ : ByteArray))) false _ A41.out).mono ?_); rintro e w' ⟨rfl, ⟨nd, rfl⟩⟩) | (go_at_call 15; (with_reducible refine (descr_Field.calls kj19 ((((⟨#[91, 76]⟩ : ByteArray) ++ x1_4) ++ (⟨#[59]⟩ : ByteArray)).extract 1 (2 + x1_4.size + 1)) false _ A44.out).mono ?_); rintro e w' ⟨rfl, ⟨nd, rfl⟩⟩))
                                              try any_goals first | (exfalso; have c3s := 0; have : (⟨#[40]⟩ : ByteArray).size = 1 := rfl; have : (⟨#[59]⟩ : ByteArray).size = 1 := rfl; have : (⟨#[76]⟩ : ByteArray).size = 1 := rfl; have : (⟨#[91, 76]⟩ : ByteArray).size = 2 := rfl; have := @ByteArray.size_append (⟨#[76]⟩ : ByteArray) x1_4; have := @ByteArray.size_append (⟨#[91, 76]⟩ : ByteArray) x1_4; have := @ByteArray.size_append ((⟨#[91, 76]⟩ : ByteArray) ++ x1_4) (⟨#[59]⟩ : ByteArray); omega) | (exfalso; have c3s := 0; have : (⟨#[40]⟩ : ByteArray).size = 1 := rfl; have : (⟨#[59]⟩ : ByteArray).size = 1 := rfl; have : (⟨#[76]⟩ : ByteArray).size = 1 := rfl; have : (⟨#[91, 76]⟩ : ByteArray).size = 2 := rfl; have := @ByteArray.size_append (⟨#[40]⟩ : ByteArray) x5_2; omega)
                                              go_ret
                                              exact ⟨by first | rfl | (simp [errW_none, errW_some] <;> rfl) | (simp only [← hji35]; first | rfl | (simp [errW_none, errW_some] <;> rfl)) | (simp [*, errW_none, errW_some] <;> rfl), by repeat (first | (with_reducible first | exact HB.out | apply below_alloc | apply pw_below_drewN | apply below_drew1) | exact HB.out)⟩
                                          · rw [if_neg c43] at H
                                            exact absurd H (by simp)
                                      · rw [if_neg c40] at H
                                        exact absurd H (by simp)
                                  · rw [if_neg c37] at H
                                    exact absurd H (by simp)
                                · rw [if_neg c36] at H
                                  exact absurd H (by simp)
                            · rw [if_neg c32] at H
                              exact absurd H (by simp)
                          · replace c31 := Bool.eq_false_iff.mpr c31
                            subst c31
                            have H1 : (some false) = some r := by rw [if_neg (show ¬ (false = true) by decide)] at H; exact H
                            clear H
                            have H := H1
                            clear H1
                            obtain rfl := Option.some.inj H
                            go_wp2_with (first | ((with_reducible refine gate_callee (f := 15) rfl ?_); refine goesL_ (some 60) rfl rfl Try.func15 (by kernel_rfl) rfl #[.string (((⟨#[91, 76]⟩ : ByteArray) ++ x1_4) ++ (⟨#[59]⟩ : ByteArray))] rfl (by (try simp only [List.map_toArray, List.map_cons, List.map_nil]); first | done | rfl | (simp only [List.length_drop, List.length_take]; rfl)) ?_; (with_reducible refine (descr_Field.calls kj19 (((⟨#[91, 76]⟩ : ByteArray) ++ x1_4) ++ (⟨#[59]⟩ : ByteArray)) false _ A30.out).mono ?_); rintro e w' ⟨rfl, ⟨nd, rfl⟩⟩; refine ⟨_, rfl, ?_⟩))
                            try any_goals first | (exfalso; have c3s := 0; have : (⟨#[40]⟩ : ByteArray).size = 1 := rfl; have : (⟨#[59]⟩ : ByteArray).size = 1 := rfl; have : (⟨#[76]⟩ : ByteArray).size = 1 := rfl; have : (⟨#[91, 76]⟩ : ByteArray).size = 2 := rfl; have := @ByteArray.size_append (⟨#[76]⟩ : ByteArray) x1_4; have := @ByteArray.size_append (⟨#[91, 76]⟩ : ByteArray) x1_4; have := @ByteArray.size_append ((⟨#[91, 76]⟩ : ByteArray) ++ x1_4) (⟨#[59]⟩ : ByteArray); omega) | (exfalso; have c3s := 0; have : (⟨#[40]⟩ : ByteArray).size = 1 := rfl; have : (⟨#[59]⟩ : ByteArray).size = 1 := rfl; have : (⟨#[76]⟩ : ByteArray).size = 1 := rfl; have : (⟨#[91, 76]⟩ : ByteArray).size = 2 := rfl; have := @ByteArray.size_append (⟨#[40]⟩ : ByteArray) x5_2; omega)
                            go_ret
                            exact ⟨by first | rfl | (simp [errW_none, errW_some] <;> rfl) | (simp [*, errW_none, errW_some] <;> rfl), by repeat (first | (with_reducible first | exact HB.out | apply below_alloc | apply pw_below_drewN | apply below_drew1) | exact HB.out)⟩
                        · rw [if_neg c29] at H
                          exact absurd H (by simp)
                      · rw [if_neg c28] at H
                        exact absurd H (by simp)
              · rw [if_neg c18] at H
                exact absurd H (by simp)
            · rw [if_neg c17] at H
              exact absurd H (by simp)

/-- THE ONE PURE STATEMENT of carafelaw2_DescrMany: yours. -/
def carafelaw2_DescrMany.Pure : Prop := ∀ (a0 : Int) (a1 : ByteArray), (Lit.int .i64 a0).wf = true → a1.size ≤ 140737488351232 → ∃ k, carafelaw2_DescrMany.f k a0 a1 = some true
theorem carafelaw2_DescrMany.walk (P : carafelaw2_DescrMany.Pure) (a0 : Int) (a1 : ByteArray) (w : World) (w0 : (Lit.int .i64 a0).wf = true) (w1 : a1.size ≤ 140737488351232) :
    Calls Try.prog 4 #[.int .i64 a0, .string a1] w fun e w' => e = .returned (.bool true) ∧ Below w.heap.size w w' := by
  obtain ⟨k, h⟩ := P a0 a1 w0 w1
  refine (carafelaw2_DescrMany.calls k a0 a1 true w h).mono ?_
  rintro e w' ⟨rfl, hd⟩
  exact ⟨rfl, hd⟩

end Go.Proofs.Ytdhfjkikoiifcaa.PDescrMany
