-- Printed by a changed copy of the printer (wip/printpatch.py). Not trusted: Lean checks it.
import Derived.Test.YtdhfjkikoiifcaaPDescrBackx0
import Derived.Test.YtdhfjkikoiifcaaPDescrBackx3
import Derived.Test.YtdhfjkikoiifcaaPDescrBackx4
namespace Go.Proofs.Ytdhfjkikoiifcaa.PDescrBack
open Go.RowKit Go.Proofs.YtdhfjkikoiifcaaW.PrintWords Go.Proofs.YtdhfjkikoiifcaaW.PrintLast Go.Proofs.YtdhfjkikoiifcaaW.PrintMore
attribute [local go_sem] max2_int min2_int max_two min_two max_three min_three max_four min_four   -- for this text's walks alone
set_option linter.unusedVariables false
set_option linter.unusedSimpArgs false

/-! ### carafelaw2_DescrBack: function 6 -/
mutual
def carafelaw2_DescrBack.l0 : Nat → List ByteArray → List Int → Int → ByteArray → List ByteArray → Int → Option (Bool)
  | 0, _, _, _, _, _, _ => none
  | k + 1, x0, x1, x2, x3, x9, x10 => if x10 < (x1.length : Int) then (carafelaw2_DescrBack.j1 k x0 x1 x2 x3 x9 x10 (decide (x10 < 8))) else (carafelaw2_DescrBack.j1 k x0 x1 x2 x3 x9 x10 false)
def carafelaw2_DescrBack.j1 : Nat → List ByteArray → List Int → Int → ByteArray → List ByteArray → Int → Bool → Option (Bool)
  | 0, _, _, _, _, _, _, _ => none
  | k + 1, x0, x1, x2, x3, x9, x10, x26 => if x26 = true then (if x10 < (x0.length : Int) then (if 0 ≤ x10 then ((caraferef2_Name.f k (rdOf ByteArray.empty x0 x10)).bind fun t155 => (carafelaw2_DescrBack.j2 k x0 x1 x2 x3 x9 x10 (⟨#[97]⟩ : ByteArray) t155)) else (none)) else (carafelaw2_DescrBack.j2 k x0 x1 x2 x3 x9 x10 (⟨#[97]⟩ : ByteArray) false)) else ((some (([(⟨#[86]⟩ : ByteArray), (⟨#[73]⟩ : ByteArray), (⟨#[76, 65, 59]⟩ : ByteArray)] : List ByteArray) : List ByteArray)).bind fun y179 => ((carafebook_Within.f x2 0 2).bind fun t182 => (if 0 ≤ t182 then (if t182 < (y179.length : Int) then ((descr_Join.f x9 (rdOf ByteArray.empty y179 t182)).bind fun t184 => ((descr_Method.f k t184).bind fun bt185 => (if bt185.2.2 = true then ((carafebook_Same_string.f k x9 bt185.1).bind fun t190 => (if t190 = true then (carafelaw2_DescrBack.j3 k x3 (bt185.2.1.toList != (rdOf ByteArray.empty y179 t182).toList)) else (carafelaw2_DescrBack.j3 k x3 true))) else (carafelaw2_DescrBack.j3 k x3 true)))) else (none)) else (none))))
def carafelaw2_DescrBack.j2 : Nat → List ByteArray → List Int → Int → ByteArray → List ByteArray → Int → ByteArray → Bool → Option (Bool)
  | 0, _, _, _, _, _, _, _, _ => none
  | k + 1, x0, x1, x2, x3, x9, x10, x11, x39 => if x39 = true then (if 0 ≤ x10 then (if x10 < (x0.length : Int) then ((descr_Ref.f (rdOf ByteArray.empty x0 x10)).bind fun t157 => ((descr_Ref.f (rdOf ByteArray.empty x0 x10)).bind fun t158 => (if 1 + t158.size ≤ 9223372036854775807 then ((some (([(⟨#[73]⟩ : ByteArray), t157, (⟨#[91, 73]⟩ : ByteArray), (⟨#[91]⟩ : ByteArray) ++ t158] : List ByteArray) : List ByteArray)).bind fun y159 => (if x10 < (x1.length : Int) then ((carafebook_Within.f (rd x1 x10) 0 3).bind fun t163 => (if 0 ≤ t163 then (if t163 < (y159.length : Int) then (if x9.length < 8796093022208 then (carafelaw2_DescrBack.l0 k x0 x1 x2 x3 (x9 ++ [rdOf ByteArray.empty y159 t163]) (wrap64 (x10 + 1))) else (none)) else (none)) else (none))) else (none))) else (none)))) else (none)) else (none)) else ((descr_Ref.f x11).bind fun t168 => ((descr_Ref.f x11).bind fun t169 => (if 1 + t169.size ≤ 9223372036854775807 then ((some (([(⟨#[73]⟩ : ByteArray), t168, (⟨#[91, 73]⟩ : ByteArray), (⟨#[91]⟩ : ByteArray) ++ t169] : List ByteArray) : List ByteArray)).bind fun y170 => (if 0 ≤ x10 then (if x10 < (x1.length : Int) then ((carafebook_Within.f (rd x1 x10) 0 3).bind fun t174 => (if 0 ≤ t174 then (if t174 < (y170.length : Int) then (if x9.length < 8796093022208 then (carafelaw2_DescrBack.l0 k x0 x1 x2 x3 (x9 ++ [rdOf ByteArray.empty y170 t174]) (wrap64 (x10 + 1))) else (none)) else (none)) else (none))) else (none)) else (none))) else (none))))
def carafelaw2_DescrBack.j3 : Nat → ByteArray → Bool → Option (Bool)
  | 0, _, _ => none
  | k + 1, x3, x85 => if x85 = true then (some false) else ((descr_Method.f k x3).bind fun bt191 => (if bt191.2.2 = true then ((descr_Join.f bt191.1 bt191.2.1).bind fun t196 => (if t196.toList = x3.toList then ((carafelaw2_known.f k).bind fun t197 => (some t197)) else (some false))) else ((carafelaw2_known.f k).bind fun t198 => (some t198))))
end
def carafelaw2_DescrBack.f (k : Nat) (l0 : List ByteArray) (l1 : List Int) (a2 : Int) (a3 : ByteArray) : Option (Bool) := carafelaw2_DescrBack.l0 k l0 l1 a2 a3 ([] : List ByteArray) 0
theorem carafelaw2_DescrBack.mono_l : ∀ k, (∀ y0 y1 y2 y3 y4 y5, LeO (carafelaw2_DescrBack.l0 k y0 y1 y2 y3 y4 y5) (carafelaw2_DescrBack.l0 (k + 1) y0 y1 y2 y3 y4 y5)) ∧ (∀ y0 y1 y2 y3 y4 y5 y6, LeO (carafelaw2_DescrBack.j1 k y0 y1 y2 y3 y4 y5 y6) (carafelaw2_DescrBack.j1 (k + 1) y0 y1 y2 y3 y4 y5 y6)) ∧ (∀ y0 y1 y2 y3 y4 y5 y6 y7, LeO (carafelaw2_DescrBack.j2 k y0 y1 y2 y3 y4 y5 y6 y7) (carafelaw2_DescrBack.j2 (k + 1) y0 y1 y2 y3 y4 y5 y6 y7)) ∧ (∀ y0 y1, LeO (carafelaw2_DescrBack.j3 k y0 y1) (carafelaw2_DescrBack.j3 (k + 1) y0 y1))
  | 0 => ⟨fun _ _ _ _ _ _ r h => by simp [carafelaw2_DescrBack.l0] at h, fun _ _ _ _ _ _ _ r h => by simp [carafelaw2_DescrBack.j1] at h, fun _ _ _ _ _ _ _ _ r h => by simp [carafelaw2_DescrBack.j2] at h, fun _ _ r h => by simp [carafelaw2_DescrBack.j3] at h⟩
  | k + 1 => by
    obtain ⟨ih0, ih1, ih2, ih3⟩ := carafelaw2_DescrBack.mono_l k
    refine ⟨?_, ?_, ?_, ?_⟩
    · intro y0 y1 y2 y3 y4 y5
      unfold carafelaw2_DescrBack.l0
      repeat' first
      | (with_reducible exact ih0 _ _ _ _ _ _)
      | (with_reducible exact ih1 _ _ _ _ _ _ _)
      | (with_reducible exact ih2 _ _ _ _ _ _ _ _)
      | (with_reducible exact ih3 _ _)
      | (with_reducible exact carafebook_Same_string.mono _ _ _)
      | (with_reducible exact carafelaw2_known.mono _)
      | (with_reducible exact caraferef2_Name.mono _ _)
      | (with_reducible exact descr_Method.mono _ _)
      | (with_reducible exact LeO.refl _)
      | (with_reducible exact LeO.none _)
      | (with_reducible refine LeO.ite ?_ ?_)
      | (with_reducible refine LeO.bind ?_ (fun _ => ?_))
      | exact ih0 _ _ _ _ _ _
      | exact ih1 _ _ _ _ _ _ _
      | exact ih2 _ _ _ _ _ _ _ _
      | exact ih3 _ _
      | exact carafebook_Same_string.mono _ _ _
      | exact carafelaw2_known.mono _
      | exact caraferef2_Name.mono _ _
      | exact descr_Method.mono _ _
      | exact LeO.none _
      | refine LeO.ite ?_ ?_
      | refine LeO.bind ?_ (fun _ => ?_)
    · intro y0 y1 y2 y3 y4 y5 y6
      unfold carafelaw2_DescrBack.j1
      repeat' first
      | (with_reducible exact ih0 _ _ _ _ _ _)
      | (with_reducible exact ih1 _ _ _ _ _ _ _)
      | (with_reducible exact ih2 _ _ _ _ _ _ _ _)
      | (with_reducible exact ih3 _ _)
      | (with_reducible exact carafebook_Same_string.mono _ _ _)
      | (with_reducible exact carafelaw2_known.mono _)
      | (with_reducible exact caraferef2_Name.mono _ _)
      | (with_reducible exact descr_Method.mono _ _)
      | (with_reducible exact LeO.refl _)
      | (with_reducible exact LeO.none _)
      | (with_reducible refine LeO.ite ?_ ?_)
      | (with_reducible refine LeO.bind ?_ (fun _ => ?_))
      | exact ih0 _ _ _ _ _ _
      | exact ih1 _ _ _ _ _ _ _
      | exact ih2 _ _ _ _ _ _ _ _
      | exact ih3 _ _
      | exact carafebook_Same_string.mono _ _ _
      | exact carafelaw2_known.mono _
      | exact caraferef2_Name.mono _ _
      | exact descr_Method.mono _ _
      | exact LeO.none _
      | refine LeO.ite ?_ ?_
      | refine LeO.bind ?_ (fun _ => ?_)
    · intro y0 y1 y2 y3 y4 y5 y6 y7
      unfold carafelaw2_DescrBack.j2
      repeat' first
      | (with_reducible exact ih0 _ _ _ _ _ _)
      | (with_reducible exact ih1 _ _ _ _ _ _ _)
      | (with_reducible exact ih2 _ _ _ _ _ _ _ _)
      | (with_reducible exact ih3 _ _)
      | (with_reducible exact carafebook_Same_string.mono _ _ _)
      | (with_reducible exact carafelaw2_known.mono _)
      | (with_reducible exact caraferef2_Name.mono _ _)
      | (with_reducible exact descr_Method.mono _ _)
      | (with_reducible exact LeO.refl _)
      | (with_reducible exact LeO.none _)
      | (with_reducible refine LeO.ite ?_ ?_)
      | (with_reducible refine LeO.bind ?_ (fun _ => ?_))
      | exact ih0 _ _ _ _ _ _
      | exact ih1 _ _ _ _ _ _ _
      | exact ih2 _ _ _ _ _ _ _ _
      | exact ih3 _ _
      | exact carafebook_Same_string.mono _ _ _
      | exact carafelaw2_known.mono _
      | exact caraferef2_Name.mono _ _
      | exact descr_Method.mono _ _
      | exact LeO.none _
      | refine LeO.ite ?_ ?_
      | refine LeO.bind ?_ (fun _ => ?_)
    · intro y0 y1
      unfold carafelaw2_DescrBack.j3
      repeat' first
      | (with_reducible exact ih0 _ _ _ _ _ _)
      | (with_reducible exact ih1 _ _ _ _ _ _ _)
      | (with_reducible exact ih2 _ _ _ _ _ _ _ _)
      | (with_reducible exact ih3 _ _)
      | (with_reducible exact carafebook_Same_string.mono _ _ _)
      | (with_reducible exact carafelaw2_known.mono _)
      | (with_reducible exact caraferef2_Name.mono _ _)
      | (with_reducible exact descr_Method.mono _ _)
      | (with_reducible exact LeO.refl _)
      | (with_reducible exact LeO.none _)
      | (with_reducible refine LeO.ite ?_ ?_)
      | (with_reducible refine LeO.bind ?_ (fun _ => ?_))
      | exact ih0 _ _ _ _ _ _
      | exact ih1 _ _ _ _ _ _ _
      | exact ih2 _ _ _ _ _ _ _ _
      | exact ih3 _ _
      | exact carafebook_Same_string.mono _ _ _
      | exact carafelaw2_known.mono _
      | exact caraferef2_Name.mono _ _
      | exact descr_Method.mono _ _
      | exact LeO.none _
      | refine LeO.ite ?_ ?_
      | refine LeO.bind ?_ (fun _ => ?_)
theorem carafelaw2_DescrBack.mono : ∀ a0 a1 a2 a3 k, LeO (carafelaw2_DescrBack.f k a0 a1 a2 a3) (carafelaw2_DescrBack.f (k + 1) a0 a1 a2 a3) := by
  intro a0 a1 a2 a3 k
  obtain ⟨ih0, ih1, ih2, ih3⟩ := carafelaw2_DescrBack.mono_l k
  unfold carafelaw2_DescrBack.f
  repeat' first
      | (with_reducible exact ih0 _ _ _ _ _ _)
      | (with_reducible exact ih1 _ _ _ _ _ _ _)
      | (with_reducible exact ih2 _ _ _ _ _ _ _ _)
      | (with_reducible exact ih3 _ _)
      | (with_reducible exact carafebook_Same_string.mono _ _ _)
      | (with_reducible exact carafelaw2_known.mono _)
      | (with_reducible exact caraferef2_Name.mono _ _)
      | (with_reducible exact descr_Method.mono _ _)
      | (with_reducible exact LeO.refl _)
      | (with_reducible exact LeO.none _)
      | (with_reducible refine LeO.ite ?_ ?_)
      | (with_reducible refine LeO.bind ?_ (fun _ => ?_))
      | exact ih0 _ _ _ _ _ _
      | exact ih1 _ _ _ _ _ _ _
      | exact ih2 _ _ _ _ _ _ _ _
      | exact ih3 _ _
      | exact carafebook_Same_string.mono _ _ _
      | exact carafelaw2_known.mono _
      | exact caraferef2_Name.mono _ _
      | exact descr_Method.mono _ _
      | exact LeO.none _
      | refine LeO.ite ?_ ?_
      | refine LeO.bind ?_ (fun _ => ?_)
def carafelaw2_DescrBack.T8 : Bool × List (List Nat × List Nat) := (true, [([], []), ([], []), ([1], [1]), ([], []), ([3, 2], [3]), ([4], [4]), ([2, 5], [2, 5]), ([], []), ([], []), ([7, 8], [7, 8]), ([9], [9]), ([10, 4], [10]), ([6, 11], [6, 11]), ([12], [12]), ([13], [13]), ([0, 14, 11], [0, 14]), ([15, 15, 0, 1, 2, 3, 4, 5, 6, 7, 8, 9, 10, 11, 12, 13, 14, 15], [0, 15])])
def carafelaw2_DescrBack.B8 : List Nat := [0, 0, 2, 0, 14, 30, 62, 0, 0, 384, 896, 1950, 4094, 8190, 16382, 32767, 65535]
theorem carafelaw2_DescrBack.tab8 : rtab .any (opsOf Try.f6 8) = carafelaw2_DescrBack.T8 := by kernel_rfl
theorem carafelaw2_DescrBack.bits8 : waitsOk carafelaw2_DescrBack.T8.2 carafelaw2_DescrBack.B8 = true := by kernel_rfl
set_option maxHeartbeats 8000000 in
set_option maxRecDepth 100000 in
theorem carafelaw2_DescrBack.calls (k : Nat) (A0 : Option Addr) (c0 : Nat) (l0 : List ByteArray) (A1 : Option Addr) (c1 : Nat) (l1 : List Int) (a2 : Int) (a3 : ByteArray) (r : Bool) (w : World) (hr0 : Kd.C Kd.string w A0 l0.length l0) (hc0 : l0.length ≤ c0) (hr1 : Kd.C (Kd.int .i64) w A1 l1.length l1) (hc1 : l1.length ≤ c1) (h : carafelaw2_DescrBack.f k l0 l1 a2 a3 = some r) :
    Calls Try.prog 6 #[.slice A0 l0.length c0, .slice A1 l1.length c1, .int .i64 a2, .string a3] w fun e w' => e = .returned (.bool r) ∧ Below w.heap.size w w' := by
  have HR0 := Aside0.mk hr0
  have HC0 := Aside0.mk hc0
  clear hr0 hc0
  have HR1 := Aside0.mk hr1
  have HC1 := Aside0.mk hc1
  clear hr1 hc1
  have HB := Aside0.mk (Below.refl w.heap.size w)
  have H : (carafelaw2_DescrBack.l0 k l0 l1 a2 a3 ([] : List ByteArray) 0) = some r := h
  clear h
  have H' := Aside0.mk H
  clear H
  go_enter Try.func6, Try.ntmps6
  go_wp2
  try any_goals first | 
  go_loopg [9, 10] k (fun kq v9 v10 w' => ∃ (x9_1 : List ByteArray) (x10_1 : Int), v10 = .int .i64 x10_1 ∧ Aside0 (carafelaw2_DescrBack.l0 kq l0 l1 a2 a3 x9_1 x10_1 = some r) ∧ Aside0 (kq ≤ k) ∧ Aside0 (Kd.R Kd.string 9 w' w.heap.size (fun _ => True) v9 x9_1) ∧ Aside0 (Below w.heap.size w w'))
  case atStart => exact ⟨(([] : List ByteArray)), (0), (by first | rfl | (simp; done) | (simp [*]; done)), H', ⟨Nat.le_refl _⟩, ⟨by first | exact Kd.R_nil _ _ _ _ _ | exact Kd.N_nil _ _ _ _ _ | exact Kd.V_nil _ _ _ _ _ | exact Kd.Q_nil _ _ _ _ _ | exact Kd.S_nil _ _ _ _ _⟩, ⟨by repeat (first | (with_reducible first | exact HB.out | apply below_alloc | apply pw_below_drewN | apply below_drew1) | exact HB.out)⟩⟩
  case round =>
    clear H'
    try clear c1
    try clear p2
    obtain ⟨x9_1, x10_1, rfl, HA, HK1, HO_9, HB⟩ := hrel
    cases gk with
    | zero => exact absurd HA.out (by simp [carafelaw2_DescrBack.l0])
    | succ k1 =>
      have H := HA.out
      clear HA
      simp only [carafelaw2_DescrBack.l0] at H
      have HC5 := Aside0.mk H
      clear H
      go_upto_region 3 with (fail)
      try any_goals first | 
      go_cut [26] (fun v26 wc => ∃ (kq : Nat) (x26_4 : Bool), v26 = .bool x26_4 ∧ Aside0 (carafelaw2_DescrBack.j1 kq l0 l1 a2 a3 x9_1 x10_1 x26_4 = some r) ∧ Aside0 (kq ≤ k1) ∧ Aside0 (Kd.R Kd.string 9 wc w.heap.size (fun _ => True) u9 x9_1) ∧ Aside0 (Below w.heap.size w wc))
      case first =>
        have H := HC5.out
        clear HC5
        by_cases c6 : x10_1 < (l1.length : Int)
        · rw [if_pos c6] at H
          have c6b0 : decide (x10_1 < (l1.length : Int)) = true := decide_eq_true c6
          clear c6
          (first | rw [c6b0] | (simp only [i64_w, i32_w]; rw [c6b0]) | skip)
          have H' := Aside0.mk H
          clear H
          go_wp2
          try any_goals first | 
          go_meet
          case rel => exact ⟨_, (decide (x10_1 < 8)), (by first | rfl | (simp; done) | (simp [*]; done)), H', ⟨by have := HK1.out; first | omega | exact Nat.le_refl _⟩, ⟨by (with_reducible repeat (first | apply Kd.R_alloc | apply Kd.R_drewN | apply Kd.R_drew)); exact HO_9.out⟩, ⟨by repeat (first | (with_reducible first | exact HB.out | apply below_alloc | apply pw_below_drewN | apply below_drew1) | exact HB.out)⟩⟩
        · rw [if_neg c6] at H
          have c6b0 : decide (x10_1 < (l1.length : Int)) = false := decide_eq_false c6
          clear c6
          (first | rw [c6b0] | (simp only [i64_w, i32_w]; rw [c6b0]) | skip)
          have H' := Aside0.mk H
          clear H
          go_wp2
          try any_goals first | 
          go_meet
          case rel => exact ⟨_, (false), (by first | rfl | (simp; done) | (simp [*]; done)), H', ⟨by have := HK1.out; first | omega | exact Nat.le_refl _⟩, ⟨by (with_reducible repeat (first | apply Kd.R_alloc | apply Kd.R_drewN | apply Kd.R_drew)); exact HO_9.out⟩, ⟨by repeat (first | (with_reducible first | exact HB.out | apply below_alloc | apply pw_below_drewN | apply below_drew1) | exact HB.out)⟩⟩
      case rest =>
        clear HC5
        try clear c1
        try clear p2
        try clear c6
        try clear c6b0
        try clear p2
        obtain ⟨kq, x26_4, rfl, HA, HJ4, HO_9, HB⟩ := hcut
        cases kq with
        | zero => exact absurd HA.out (by simp [carafelaw2_DescrBack.j1])
        | succ kj4 =>
          have H := HA.out
          clear HA
          simp only [carafelaw2_DescrBack.j1] at H
          by_cases c7 : x26_4 = true
          · subst c7
            have H1 : (if x10_1 < (l0.length : Int) then (if 0 ≤ x10_1 then ((caraferef2_Name.f kj4 (rdOf ByteArray.empty l0 x10_1)).bind fun t155 => (carafelaw2_DescrBack.j2 kj4 l0 l1 a2 a3 x9_1 x10_1 (⟨#[97]⟩ : ByteArray) t155)) else (none)) else (carafelaw2_DescrBack.j2 kj4 l0 l1 a2 a3 x9_1 x10_1 (⟨#[97]⟩ : ByteArray) false)) = some r := by rw [if_pos rfl] at H; exact H
            clear H
            have H := H1
            clear H1
            have HC8 := Aside0.mk H
            clear H
            go_upto_region 6 with (fail)
            try any_goals first | 
            go_cut [39] (fun v39 wc => ∃ (kq : Nat) (x39_7 : Bool), v39 = .bool x39_7 ∧ Aside0 (carafelaw2_DescrBack.j2 kq l0 l1 a2 a3 x9_1 x10_1 (⟨#[97]⟩ : ByteArray) x39_7 = some r) ∧ Aside0 (kq ≤ kj4) ∧ Aside0 (Kd.R Kd.string 9 wc w.heap.size (fun _ => True) u9 x9_1) ∧ Aside0 (Below w.heap.size w wc))
            case first =>
              have H := HC8.out
              clear HC8
              by_cases c9 : x10_1 < (l0.length : Int)
              · rw [if_pos c9] at H
                have c9b0 : decide (x10_1 < (l0.length : Int)) = true := decide_eq_true c9
                clear c9
                (first | rw [c9b0] | (simp only [i64_w, i32_w]; rw [c9b0]) | skip)
                by_cases c10 : 0 ≤ x10_1
                · rw [if_pos c10] at H
                  have c10b0 : decide (0 ≤ x10_1) = true := decide_eq_true c10
                  clear c10
                  replace H := Option.bind_eq_some_iff.mp H
                  obtain ⟨t155, A110, H⟩ := H
                  replace H : (carafelaw2_DescrBack.j2 kj4 l0 l1 a2 a3 x9_1 x10_1 (⟨#[97]⟩ : ByteArray) t155) = some r := H
                  have A11 := Aside0.mk A110
                  clear A110
                  have H' := Aside0.mk H
                  clear H
                  have p154 : 0 ≤ (x10_1 : Int) := of_decide_eq_true (by first | (with_reducible assumption) | assumption)
                  have q154 : x10_1 < (l0.length : Int) := of_decide_eq_true (by first | (with_reducible assumption) | assumption)
                  obtain ⟨ad154, e154, hx154_0⟩ := Kd.at_string HR0.out x10_1 p154 q154
                  cases e154
                  replace hx154_0 := (HB.out.cell (World.block_lt_of_cell? w _ hx154_0)).trans hx154_0
                  replace p154 := eq_true p154
                  replace q154 := eq_true q154
                  go_wp2_with (first | (go_at_call 14; (with_reducible refine (caraferef2_Name.calls kj4 (rdOf ByteArray.empty l0 x10_1) t155 _ A11.out).mono ?_); rintro e w' ⟨rfl, ⟨nd, rfl⟩⟩))
                  try any_goals first | 
                  go_meet
                  case rel => exact ⟨_, (t155), (by first | rfl | (simp; done) | (simp [*]; done)), H', ⟨by have := HK1.out; have := HJ4.out; first | omega | exact Nat.le_refl _⟩, ⟨by (with_reducible repeat (first | apply Kd.R_alloc | apply Kd.R_drewN | apply Kd.R_drew)); exact HO_9.out⟩, ⟨by repeat (first | (with_reducible first | exact HB.out | apply below_alloc | apply pw_below_drewN | apply below_drew1) | exact HB.out)⟩⟩
                · rw [if_neg c10] at H
                  exact absurd H (by simp)
              · rw [if_neg c9] at H
                have c9b0 : decide (x10_1 < (l0.length : Int)) = false := decide_eq_false c9
                clear c9
                (first | rw [c9b0] | (simp only [i64_w, i32_w]; rw [c9b0]) | skip)
                have H' := Aside0.mk H
                clear H
                go_wp2
                try any_goals first | 
                go_meet
                case rel => exact ⟨_, (false), (by first | rfl | (simp; done) | (simp [*]; done)), H', ⟨by have := HK1.out; have := HJ4.out; first | omega | exact Nat.le_refl _⟩, ⟨by (with_reducible repeat (first | apply Kd.R_alloc | apply Kd.R_drewN | apply Kd.R_drew)); exact HO_9.out⟩, ⟨by repeat (first | (with_reducible first | exact HB.out | apply below_alloc | apply pw_below_drewN | apply below_drew1) | exact HB.out)⟩⟩
            case rest =>
              clear HC8
              try clear c1
              try clear p1
              try clear q1
              try clear hx1
              try clear p2
              try clear c6
              try clear c6b0
              try clear c7
              try clear c9
              try clear c9b0
              try clear c10
              try clear c10b0
              try clear hx154_0
              try clear p154
              try clear p2
              try clear q154
              obtain ⟨kq, x39_7, rfl, HA, HJ7, HO_9, HB⟩ := hcut
              cases kq with
              | zero => exact absurd HA.out (by simp [carafelaw2_DescrBack.j2])
              | succ kj7 =>
                have H := HA.out
                clear HA
                simp only [carafelaw2_DescrBack.j2] at H
                by_cases c12 : x39_7 = true
                · subst c12
                  have H1 : (if 0 ≤ x10_1 then (if x10_1 < (l0.length : Int) then ((descr_Ref.f (rdOf ByteArray.empty l0 x10_1)).bind fun t157 => ((descr_Ref.f (rdOf ByteArray.empty l0 x10_1)).bind fun t158 => (if 1 + t158.size ≤ 9223372036854775807 then ((some (([(⟨#[73]⟩ : ByteArray), t157, (⟨#[91, 73]⟩ : ByteArray), (⟨#[91]⟩ : ByteArray) ++ t158] : List ByteArray) : List ByteArray)).bind fun y159 => (if x10_1 < (l1.length : Int) then ((carafebook_Within.f (rd l1 x10_1) 0 3).bind fun t163 => (if 0 ≤ t163 then (if t163 < (y159.length : Int) then (if x9_1.length < 8796093022208 then (carafelaw2_DescrBack.l0 kj7 l0 l1 a2 a3 (x9_1 ++ [rdOf ByteArray.empty y159 t163]) (wrap64 (x10_1 + 1))) else (none)) else (none)) else (none))) else (none))) else (none)))) else (none)) else (none)) = some r := by rw [if_pos rfl] at H; exact H
                  clear H
                  have H := H1
                  clear H1
                  by_cases c13 : 0 ≤ x10_1
                  · rw [if_pos c13] at H
                    have c13b0 : decide (0 ≤ x10_1) = true := decide_eq_true c13
                    clear c13
                    by_cases c14 : x10_1 < (l0.length : Int)
                    · rw [if_pos c14] at H
                      have c14b0 : decide (x10_1 < (l0.length : Int)) = true := decide_eq_true c14
                      clear c14
                      replace H := Option.bind_eq_some_iff.mp H
                      obtain ⟨t157, A150, H⟩ := H
                      replace H : ((descr_Ref.f (rdOf ByteArray.empty l0 x10_1)).bind fun t158 => (if 1 + t158.size ≤ 9223372036854775807 then ((some (([(⟨#[73]⟩ : ByteArray), t157, (⟨#[91, 73]⟩ : ByteArray), (⟨#[91]⟩ : ByteArray) ++ t158] : List ByteArray) : List ByteArray)).bind fun y159 => (if x10_1 < (l1.length : Int) then ((carafebook_Within.f (rd l1 x10_1) 0 3).bind fun t163 => (if 0 ≤ t163 then (if t163 < (y159.length : Int) then (if x9_1.length < 8796093022208 then (carafelaw2_DescrBack.l0 kj7 l0 l1 a2 a3 (x9_1 ++ [rdOf ByteArray.empty y159 t163]) (wrap64 (x10_1 + 1))) else (none)) else (none)) else (none))) else (none))) else (none))) = some r := H
                      have A15 := Aside0.mk A150
                      clear A150
                      replace H := Option.bind_eq_some_iff.mp H
                      obtain ⟨t158, A160, H⟩ := H
                      replace H : (if 1 + t158.size ≤ 9223372036854775807 then ((some (([(⟨#[73]⟩ : ByteArray), t157, (⟨#[91, 73]⟩ : ByteArray), (⟨#[91]⟩ : ByteArray) ++ t158] : List ByteArray) : List ByteArray)).bind fun y159 => (if x10_1 < (l1.length : Int) then ((carafebook_Within.f (rd l1 x10_1) 0 3).bind fun t163 => (if 0 ≤ t163 then (if t163 < (y159.length : Int) then (if x9_1.length < 8796093022208 then (carafelaw2_DescrBack.l0 kj7 l0 l1 a2 a3 (x9_1 ++ [rdOf ByteArray.empty y159 t163]) (wrap64 (x10_1 + 1))) else (none)) else (none)) else (none))) else (none))) else (none)) = some r := H
                      have A16 := Aside0.mk A160
                      clear A160
                      by_cases c17 : 1 + t158.size ≤ 9223372036854775807
                      · rw [if_pos c17] at H
                        have c17b0 := eq_true c17
                        have c17b1 : decide (1 + t158.size ≤ 9223372036854775807) = true := decide_eq_true c17
                        try have c17b2 : (9223372036854775807 < 1 + t158.size) = False := eq_false (Nat.not_lt.2 c17)
                        obtain ⟨y159, hy159⟩ : ∃ y_ : List ByteArray, y_ = (([(⟨#[73]⟩ : ByteArray), t157, (⟨#[91, 73]⟩ : ByteArray), (⟨#[91]⟩ : ByteArray) ++ t158] : List ByteArray)) := ⟨_, rfl⟩
                        replace H : (if x10_1 < (l1.length : Int) then ((carafebook_Within.f (rd l1 x10_1) 0 3).bind fun t163 => (if 0 ≤ t163 then (if t163 < (y159.length : Int) then (if x9_1.length < 8796093022208 then (carafelaw2_DescrBack.l0 kj7 l0 l1 a2 a3 (x9_1 ++ [rdOf ByteArray.empty y159 t163]) (wrap64 (x10_1 + 1))) else (none)) else (none)) else (none))) else (none)) = some r := by first | (rw [hy159]; with_reducible exact H) | (have H2_ := (Option.bind_some _ _).symm.trans H; rw [hy159]; with_reducible exact H2_) | (have H2_ := (Option.bind_some _ _).symm.trans H; with_reducible exact H2_) | with_reducible exact H | (rw [hy159]; exact H) | exact H
                        have Ny159 := Aside0.mk hy159
                        clear hy159
                        by_cases c18 : x10_1 < (l1.length : Int)
                        · rw [if_pos c18] at H
                          have c18b0 : decide (x10_1 < (l1.length : Int)) = true := decide_eq_true c18
                          clear c18
                          replace H := Option.bind_eq_some_iff.mp H
                          obtain ⟨t163, A190, H⟩ := H
                          replace H : (if 0 ≤ t163 then (if t163 < (y159.length : Int) then (if x9_1.length < 8796093022208 then (carafelaw2_DescrBack.l0 kj7 l0 l1 a2 a3 (x9_1 ++ [rdOf ByteArray.empty y159 t163]) (wrap64 (x10_1 + 1))) else (none)) else (none)) else (none)) = some r := H
                          have A19 := Aside0.mk A190
                          clear A190
                          by_cases c20 : 0 ≤ t163
                          · rw [if_pos c20] at H
                            have c20b0 : decide (0 ≤ t163) = true := decide_eq_true c20
                            clear c20
                            by_cases c21 : t163 < (y159.length : Int)
                            · rw [if_pos c21] at H
                              have c21b0 : decide (t163 < (y159.length : Int)) = true := decide_eq_true c21
                              clear c21
                              by_cases c22 : x9_1.length < 8796093022208
                              · rw [if_pos c22] at H
                                have LMc22 := Aside0.mk c22
                                clear c22
                                obtain ⟨y165, hy165⟩ : ∃ y_ : List ByteArray, y_ = (x9_1 ++ [rdOf ByteArray.empty y159 t163]) := ⟨_, rfl⟩
                                replace H : (carafelaw2_DescrBack.l0 kj7 l0 l1 a2 a3 y165 (wrap64 (x10_1 + 1))) = some r := by first | (rw [hy165]; with_reducible exact H) | (have H2_ := (Option.bind_some _ _).symm.trans H; rw [hy165]; with_reducible exact H2_) | (have H2_ := (Option.bind_some _ _).symm.trans H; with_reducible exact H2_) | with_reducible exact H | (rw [hy165]; exact H) | exact H
                                have Ny165 := Aside0.mk hy165
                                clear hy165
                                have H' := Aside0.mk H
                                clear H
                                have p156 : 0 ≤ (x10_1 : Int) := of_decide_eq_true (by first | (with_reducible assumption) | assumption)
                                have q156 : x10_1 < (l0.length : Int) := of_decide_eq_true (by first | (with_reducible assumption) | assumption)
                                obtain ⟨ad156, e156, hx156_0⟩ := Kd.at_string HR0.out x10_1 p156 q156
                                cases e156
                                replace hx156_0 := (HB.out.cell (World.block_lt_of_cell? w _ hx156_0)).trans hx156_0
                                replace p156 := eq_true p156
                                replace q156 := eq_true q156
                                obtain ⟨Ao23, co23, eo23⟩ := Kd.R_slice HO_9.out
                                subst eo23
                                try go_wp2
                                have pi164 : (0 ≤ (t163 : Int)) = True := eq_true (of_decide_eq_true (by first | (with_reducible assumption) | assumption))
                                have qi164 : (t163 < (y159.length : Int)) = True := eq_true (of_decide_eq_true (by first | (with_reducible assumption) | assumption))
                                have n0_ := Aside0.mk (Kd.R_drew HO_9.out)
                                have n1_ := Aside0.mk (below_drew1 HB.out)
                                clear HO_9
                                clear HB
                                have HO_9 := n0_
                                have HB := n1_
                                clear n0_ n1_
                                have p162 : 0 ≤ (x10_1 : Int) := of_decide_eq_true (by first | (with_reducible assumption) | assumption)
                                have q162 : x10_1 < (l1.length : Int) := of_decide_eq_true (by first | (with_reducible assumption) | assumption)
                                obtain ⟨ad162, e162, hx162_0⟩ := Kd.at_int HR1.out x10_1 p162 q162
                                have hw162_0 := hx162_0
                                cases e162
                                replace hx162_0 := (HB.out.cell (World.block_lt_of_cell? w _ hx162_0)).trans hx162_0
                                replace p162 := eq_true p162
                                replace q162 := eq_true q162
                                refine start_ (n := 17) (S := fun w' => w'.cell? (ad162.add (x10_1).toNat) = some (.int .i64 (rd l1 x10_1))) (ds := []) #[false, false, false, false, false, false, false, false, false, false, false, false, false, false, false, false, false] (by kernel_rfl) rfl rfl (((HB.out.cell (World.block_lt_of_cell? w _ hw162_0)).trans hw162_0)) (fun hHeld => ?_); refine with_tabW carafelaw2_DescrBack.tab8 carafelaw2_DescrBack.bits8 (fun HT_ HW_ => ?_)
                                generalize wc.drew = w24 at HO_9 HB hx162_0 hHeld ⊢
                                refine pure_ (i := 0) (N := some 44) (v := ?_) (a' := ?_) #[true, false, false, false, false, false, false, false, false, false, false, false, false, false, false, false, false] rfl rfl (any_of HT_.out (by kernel_rfl)) (fun _ _ _ h => h) (Or.inl ⟨by rfl, ?_⟩) ?_ ?_
                                rotate_left
                                · intro w'
                                  go_simp
                                  with_reducible rfl
                                rotate_left
                                · simp only [Act.put, List.setIfInBounds_toArray, List.set_cons_zero, List.set_cons_succ, i64_w, i32_w]
                                  rfl
                                refine pure_ (i := 1) (N := some 45) (v := ?_) (a' := ?_) #[true, true, false, false, false, false, false, false, false, false, false, false, false, false, false, false, false] rfl rfl (any_of HT_.out (by kernel_rfl)) (fun _ _ _ h => h) (Or.inl ⟨by rfl, ?_⟩) ?_ ?_
                                rotate_left
                                · intro w'
                                  go_simp
                                  with_reducible rfl
                                rotate_left
                                · simp only [Act.put, List.setIfInBounds_toArray, List.set_cons_zero, List.set_cons_succ, i64_w, i32_w]
                                  rfl
                                refine pure_ (i := 3) (N := some 47) (v := ?_) (a' := ?_) #[true, true, false, true, false, false, false, false, false, false, false, false, false, false, false, false, false] rfl rfl (any_of HT_.out (by kernel_rfl)) (fun _ _ _ h => h) (Or.inl ⟨by rfl, ?_⟩) ?_ ?_
                                rotate_left
                                · intro w'
                                  go_simp
                                  with_reducible rfl
                                rotate_left
                                · simp only [Act.put, List.setIfInBounds_toArray, List.set_cons_zero, List.set_cons_succ, i64_w, i32_w]
                                  rfl
                                refine pure_ (i := 7) (N := some 51) (v := ?_) (a' := ?_) #[true, true, false, true, false, false, false, true, false, false, false, false, false, false, false, false, false] rfl rfl (any_of HT_.out (by kernel_rfl)) (fun _ _ _ h => h) (Or.inl ⟨by rfl, ?_⟩) ?_ ?_
                                rotate_left
                                · intro w'
                                  go_simp
                                  with_reducible rfl
                                rotate_left
                                · simp only [Act.put, List.setIfInBounds_toArray, List.set_cons_zero, List.set_cons_succ, i64_w, i32_w]
                                  rfl
                                refine pure_ (i := 8) (N := some 52) (v := ?_) (a' := ?_) #[true, true, false, true, false, false, false, true, true, false, false, false, false, false, false, false, false] rfl rfl (any_of HT_.out (by kernel_rfl)) (fun _ _ _ h => h) (Or.inl ⟨by rfl, ?_⟩) ?_ ?_
                                rotate_left
                                · intro w'
                                  go_simp
                                  with_reducible rfl
                                rotate_left
                                · simp only [Act.put, List.setIfInBounds_toArray, List.set_cons_zero, List.set_cons_succ, i64_w, i32_w]
                                  rfl
                                refine pure_ (i := 9) (N := some 53) (v := ?_) (a' := ?_) #[true, true, false, true, false, false, false, true, true, true, false, false, false, false, false, false, false] rfl rfl (any_of HT_.out (by kernel_rfl)) (fun _ _ _ h => h) (Or.inl ⟨by rfl, ?_⟩) ?_ ?_
                                rotate_left
                                · intro w'
                                  go_simp
                                  with_reducible rfl
                                rotate_left
                                · simp only [Act.put, List.setIfInBounds_toArray, List.set_cons_zero, List.set_cons_succ, i64_w, i32_w]
                                  rfl
                                refine take_ (i := 10) (N := some 54) (v := ?_) (a' := ?_) #[true, true, false, true, false, false, false, true, true, true, true, false, false, false, false, false, false] rfl rfl (take_ofW HT_.out HW_.out (by kernel_rfl)) (fun _ _ _ h => h) (Or.inl ⟨by rfl, ?_⟩) hHeld ?_ ?_
                                rotate_left
                                · intro w' s0
                                  go_simp
                                  with_reducible rfl
                                rotate_left
                                · simp only [Act.put, List.setIfInBounds_toArray, List.set_cons_zero, List.set_cons_succ, i64_w, i32_w]
                                  rfl
                                refine one_ (i := 2) (N := some 46) #[true, true, true, true, false, false, false, true, true, true, true, false, false, false, false, false, false] rfl rfl (one_of HT_.out (by kernel_rfl)) (by decide) (fun K hK => ?_)
                                refine goes_ Try.func24 (by kernel_rfl) rfl #[.string (rdOf ByteArray.empty l0 x10_1)] (by rfl) rfl rfl (by (try simp only [List.map_toArray, List.map_cons, List.map_nil]); first | done | rfl | (simp only [List.length_drop, List.length_take]; rfl)) ?_
                                with_reducible refine (descr_Ref.calls (rdOf ByteArray.empty l0 x10_1) t157 _ A15.out).mono ?_
                                rintro e w' ⟨rfl, ⟨nd, rfl⟩⟩
                                refine ⟨_, rfl, ?_⟩
                                refine hK.out _ _ (((HB.out.cell (World.block_lt_of_cell? w _ hw162_0)).trans hw162_0)) (fun hHeld => ?_)
                                clear hK K
                                refine norm_ (a' := ?_) ?_ ?_
                                rotate_left
                                · show Act.put _ (some 46) _ = _
                                  simp only [Act.put, List.setIfInBounds_toArray, List.set_cons_zero, List.set_cons_succ, i64_w, i32_w]
                                  rfl
                                refine one_ (i := 4) (N := some 48) #[true, true, true, true, true, false, false, true, true, true, true, false, false, false, false, false, false] rfl rfl (one_of HT_.out (by kernel_rfl)) (by decide) (fun K hK => ?_)
                                refine goes_ Try.func24 (by kernel_rfl) rfl #[.string (rdOf ByteArray.empty l0 x10_1)] (by rfl) rfl rfl (by (try simp only [List.map_toArray, List.map_cons, List.map_nil]); first | done | rfl | (simp only [List.length_drop, List.length_take]; rfl)) ?_
                                with_reducible refine (descr_Ref.calls (rdOf ByteArray.empty l0 x10_1) t158 _ A16.out).mono ?_
                                rintro e w' ⟨rfl, ⟨nd, rfl⟩⟩
                                refine ⟨_, rfl, ?_⟩
                                refine hK.out _ _ (((HB.out.cell (World.block_lt_of_cell? w _ hw162_0)).trans hw162_0)) (fun hHeld => ?_)
                                clear hK K
                                refine norm_ (a' := ?_) ?_ ?_
                                rotate_left
                                · show Act.put _ (some 48) _ = _
                                  simp only [Act.put, List.setIfInBounds_toArray, List.set_cons_zero, List.set_cons_succ, i64_w, i32_w]
                                  rfl
                                refine pure_ (i := 5) (N := some 49) (v := ?_) (a' := ?_) #[true, true, true, true, true, true, false, true, true, true, true, false, false, false, false, false, false] rfl rfl (any_of HT_.out (by kernel_rfl)) (fun _ _ _ h => h) (Or.inl ⟨by rfl, ?_⟩) ?_ ?_
                                rotate_left
                                · intro w'
                                  go_simp
                                  with_reducible rfl
                                rotate_left
                                · simp only [Act.put, List.setIfInBounds_toArray, List.set_cons_zero, List.set_cons_succ, i64_w, i32_w]
                                  rfl
                                refine join_ (σ := Value × Addr) 5 #[true, true, true, true, true, true, true, true, true, true, true, true, false, false, false, false, false] (fun s_ => [(50, s_.1), (55, .int .i64 t163)]) (fun s_ w' => (w'.cell? (ad162.add (x10_1).toNat) = some (.int .i64 (rd l1 x10_1))) ∧ (Kd.R Kd.string 9 w' w.heap.size (fun k_ => some k_ ≠ (.slice Ao23 x9_1.length co23 : Value).ownBlock) s_.1 y159) ∧ (Kd.R Kd.string 9 w' w.heap.size (fun k_ => some k_ ≠ (s_.1 : Value).ownBlock) (.slice Ao23 x9_1.length co23) x9_1) ∧ (∃ c_, (s_.1 : Value) = .slice (some s_.2) y159.length c_) ∧ (Below w.heap.size w w')) ?_ ?_
                                rotate_left
                                · intro hCont
                                  refine two_ (i := 6) (j := 11) (Ni := some 50) (Nj := some 55) #[true, true, true, true, true, true, true, true, true, true, true, false, false, false, false, false, false] #[true, true, true, true, true, true, false, true, true, true, true, true, false, false, false, false, false] rfl rfl rfl rfl (two_of HT_.out (by kernel_rfl)) (by decide) (by decide) (fun K hK => ?_) (fun K hK => ?_)
                                  · skip
                                    refine Kd.R_lit_step Kd.string _ 9 ?hg (N := 50) ?hd (xs := ([(⟨#[73]⟩ : ByteArray), t157, (⟨#[91, 73]⟩ : ByteArray), (⟨#[91]⟩ : ByteArray) ++ t158] : List ByteArray)) (inner := [.string (⟨#[73]⟩ : ByteArray), .string t157, .string (⟨#[91, 73]⟩ : ByteArray), .string ((⟨#[91]⟩ : ByteArray) ++ t158)]) (ok := fun _ => True) (okp := fun _ => True) ?hr ?hp (fun _ hk => hk) trivial (Below.refl _ _) (Nat.le_refl _) (by simp) ?_; (case hd => rfl); (case hg => rfl); (case hr => first | (go_simp; done) | (go_simp; rfl)); (case hp => exact (Reps.one (show Kd.M Kd.string _ _ _ (⟨#[73]⟩ : ByteArray) [.string (⟨#[73]⟩ : ByteArray)] from rfl) (Reps.one (show Kd.M Kd.string _ _ _ t157 [.string t157] from rfl) (Reps.one (show Kd.M Kd.string _ _ _ (⟨#[91, 73]⟩ : ByteArray) [.string (⟨#[91, 73]⟩ : ByteArray)] from rfl) (Reps.one (show Kd.M Kd.string _ _ _ ((⟨#[91]⟩ : ByteArray) ++ t158) [.string ((⟨#[91]⟩ : ByteArray) ++ t158)] from rfl) (Reps.none _ _))))))
                                    intro v160 w25 ho26 hb hg_ hnew_
                                    clear hg_ hnew_
                                    (first | rw [← Ny159.out] at ho26 | (simp only [Int.reduceToNat] at ho26; rw [← Ny159.out] at ho26))
                                    have n0_ := Aside0.mk (Kd.R_elder' (by (with_reducible repeat (first | apply Kd.R_alloc | apply Kd.R_drewN | apply Kd.R_drew)); exact HO_9.out) (Kd.R_base ho26) hb)
                                    have n1_ := Aside0.mk (Kd.R_lower (Kd.R_new' ho26 (Kd.R_lt (by (with_reducible repeat (first | apply Kd.R_alloc | apply Kd.R_drewN | apply Kd.R_drew)); exact HO_9.out))) (below_size (by repeat (first | (with_reducible first | exact HB.out | apply below_alloc | apply pw_below_drewN | apply below_drew1) | exact HB.out))))
                                    have n2_ := Aside0.mk (below_step (by repeat (first | (with_reducible first | exact HB.out | apply below_alloc | apply pw_below_drewN | apply below_drew1) | exact HB.out)) hb)
                                    clear HO_9
                                    clear HB
                                    have HO_9 := n0_
                                    have HO161 := n1_
                                    have HB := n2_
                                    clear n0_ n1_ n2_
                                    clear hb ho26
                                    obtain ⟨Ao27, co27, eo27⟩ := Kd.R_slice HO161.out
                                    subst eo27
                                    obtain ⟨ado27, fo27, _⟩ := Kd.at_string (Kd.R_reads' HO161.out).2.2 0 (by decide) (by rw [Ny159.out]; simp)
                                    cases fo27
                                    refine hK.out _ _ (((HB.out.cell (World.block_lt_of_cell? w _ hw162_0)).trans hw162_0)) (fun hHeld => ?_)
                                    clear hK K
                                    refine norm_ (a' := ?_) ?_ ?_
                                    rotate_left
                                    · show Act.put _ (some 50) _ = _
                                      simp only [Act.put, List.setIfInBounds_toArray, List.set_cons_zero, List.set_cons_succ, i64_w, i32_w]
                                      rfl
                                    refine one_ (i := 11) (N := some 55) #[true, true, true, true, true, true, true, true, true, true, true, true, false, false, false, false, false] rfl rfl (one_of HT_.out (by kernel_rfl)) (by decide) (fun K hK => ?_)
                                    refine goes_ Try.func13 (by kernel_rfl) rfl #[.int .i64 (rd l1 x10_1), .int .i64 0, .int .i64 3] (by rfl) rfl rfl (by (try simp only [List.map_toArray, List.map_cons, List.map_nil]); first | done | rfl | (simp only [List.length_drop, List.length_take]; rfl)) ?_
                                    with_reducible refine (carafebook_Within.calls (rd l1 x10_1) 0 3 t163 _ A19.out).mono ?_
                                    rintro e w' ⟨rfl, ⟨nd, rfl⟩⟩
                                    refine ⟨_, rfl, ?_⟩
                                    refine hK.out _ _ (((HB.out.cell (World.block_lt_of_cell? w _ hw162_0)).trans hw162_0)) (fun hHeld => ?_)
                                    clear hK K
                                    refine norm_ (a' := ?_) ?_ ?_
                                    rotate_left
                                    · show Act.put _ (some 55) _ = _
                                      simp only [Act.put, List.setIfInBounds_toArray, List.set_cons_zero, List.set_cons_succ, i64_w, i32_w]
                                      rfl
                                    exact norm_ (by simp only [putAll, Act.put, List.setIfInBounds_toArray, List.set_cons_zero, List.set_cons_succ]) (hCont (.slice (some ado27) y159.length co27, ado27) _ ⟨hHeld, (by (with_reducible repeat (first | apply Kd.R_alloc | apply Kd.R_drewN | apply Kd.R_drew)); exact Kd.R_mono HO161.out (fun _ hk => hk.2)), (by (with_reducible repeat (first | apply Kd.R_alloc | apply Kd.R_drewN | apply Kd.R_drew)); exact Kd.R_mono HO_9.out (fun _ hk => hk.2)), ⟨_, rfl⟩, (by repeat (first | (with_reducible first | exact HB.out | apply below_alloc | apply pw_below_drewN | apply below_drew1) | exact HB.out))⟩)
                                  · skip
                                    refine goes_ Try.func13 (by kernel_rfl) rfl #[.int .i64 (rd l1 x10_1), .int .i64 0, .int .i64 3] (by rfl) rfl rfl (by (try simp only [List.map_toArray, List.map_cons, List.map_nil]); first | done | rfl | (simp only [List.length_drop, List.length_take]; rfl)) ?_
                                    with_reducible refine (carafebook_Within.calls (rd l1 x10_1) 0 3 t163 _ A19.out).mono ?_
                                    rintro e w' ⟨rfl, ⟨nd, rfl⟩⟩
                                    refine ⟨_, rfl, ?_⟩
                                    refine hK.out _ _ (((HB.out.cell (World.block_lt_of_cell? w _ hw162_0)).trans hw162_0)) (fun hHeld => ?_)
                                    clear hK K
                                    refine norm_ (a' := ?_) ?_ ?_
                                    rotate_left
                                    · show Act.put _ (some 55) _ = _
                                      simp only [Act.put, List.setIfInBounds_toArray, List.set_cons_zero, List.set_cons_succ, i64_w, i32_w]
                                      rfl
                                    refine one_ (i := 6) (N := some 50) #[true, true, true, true, true, true, true, true, true, true, true, true, false, false, false, false, false] rfl rfl (one_of HT_.out (by kernel_rfl)) (by decide) (fun K hK => ?_)
                                    refine Kd.R_lit_step Kd.string _ 9 ?hg (N := 50) ?hd (xs := ([(⟨#[73]⟩ : ByteArray), t157, (⟨#[91, 73]⟩ : ByteArray), (⟨#[91]⟩ : ByteArray) ++ t158] : List ByteArray)) (inner := [.string (⟨#[73]⟩ : ByteArray), .string t157, .string (⟨#[91, 73]⟩ : ByteArray), .string ((⟨#[91]⟩ : ByteArray) ++ t158)]) (ok := fun _ => True) (okp := fun _ => True) ?hr ?hp (fun _ hk => hk) trivial (Below.refl _ _) (Nat.le_refl _) (by simp) ?_; (case hd => rfl); (case hg => rfl); (case hr => first | (go_simp; done) | (go_simp; rfl)); (case hp => exact (Reps.one (show Kd.M Kd.string _ _ _ (⟨#[73]⟩ : ByteArray) [.string (⟨#[73]⟩ : ByteArray)] from rfl) (Reps.one (show Kd.M Kd.string _ _ _ t157 [.string t157] from rfl) (Reps.one (show Kd.M Kd.string _ _ _ (⟨#[91, 73]⟩ : ByteArray) [.string (⟨#[91, 73]⟩ : ByteArray)] from rfl) (Reps.one (show Kd.M Kd.string _ _ _ ((⟨#[91]⟩ : ByteArray) ++ t158) [.string ((⟨#[91]⟩ : ByteArray) ++ t158)] from rfl) (Reps.none _ _))))))
                                    intro v160 w25 ho26 hb hg_ hnew_
                                    clear hg_ hnew_
                                    (first | rw [← Ny159.out] at ho26 | (simp only [Int.reduceToNat] at ho26; rw [← Ny159.out] at ho26))
                                    have n0_ := Aside0.mk (Kd.R_elder' (by (with_reducible repeat (first | apply Kd.R_alloc | apply Kd.R_drewN | apply Kd.R_drew)); exact HO_9.out) (Kd.R_base ho26) hb)
                                    have n1_ := Aside0.mk (Kd.R_lower (Kd.R_new' ho26 (Kd.R_lt (by (with_reducible repeat (first | apply Kd.R_alloc | apply Kd.R_drewN | apply Kd.R_drew)); exact HO_9.out))) (below_size (by repeat (first | (with_reducible first | exact HB.out | apply below_alloc | apply pw_below_drewN | apply below_drew1) | exact HB.out))))
                                    have n2_ := Aside0.mk (below_step (by repeat (first | (with_reducible first | exact HB.out | apply below_alloc | apply pw_below_drewN | apply below_drew1) | exact HB.out)) hb)
                                    clear HO_9
                                    clear HB
                                    have HO_9 := n0_
                                    have HO161 := n1_
                                    have HB := n2_
                                    clear n0_ n1_ n2_
                                    clear hb ho26
                                    obtain ⟨Ao27, co27, eo27⟩ := Kd.R_slice HO161.out
                                    subst eo27
                                    obtain ⟨ado27, fo27, _⟩ := Kd.at_string (Kd.R_reads' HO161.out).2.2 0 (by decide) (by rw [Ny159.out]; simp)
                                    cases fo27
                                    refine hK.out _ _ (((HB.out.cell (World.block_lt_of_cell? w _ hw162_0)).trans hw162_0)) (fun hHeld => ?_)
                                    clear hK K
                                    refine norm_ (a' := ?_) ?_ ?_
                                    rotate_left
                                    · show Act.put _ (some 50) _ = _
                                      simp only [Act.put, List.setIfInBounds_toArray, List.set_cons_zero, List.set_cons_succ, i64_w, i32_w]
                                      rfl
                                    exact norm_ (by simp only [putAll, Act.put, List.setIfInBounds_toArray, List.set_cons_zero, List.set_cons_succ]) (hCont (.slice (some ado27) y159.length co27, ado27) _ ⟨hHeld, (by (with_reducible repeat (first | apply Kd.R_alloc | apply Kd.R_drewN | apply Kd.R_drew)); exact Kd.R_mono HO161.out (fun _ hk => hk.2)), (by (with_reducible repeat (first | apply Kd.R_alloc | apply Kd.R_drewN | apply Kd.R_drew)); exact Kd.R_mono HO_9.out (fun _ hk => hk.2)), ⟨_, rfl⟩, (by repeat (first | (with_reducible first | exact HB.out | apply below_alloc | apply pw_below_drewN | apply below_drew1) | exact HB.out))⟩)
                                rintro ⟨v160, adz_v160⟩ w28 ⟨hS_, h0_, h1_, h2_, h3_⟩
                                have n0_ : Aside0 (Kd.R Kd.string 9 w28 w.heap.size (fun k_ => some k_ ≠ (.slice Ao23 x9_1.length co23 : Value).ownBlock) v160 y159) := ⟨h0_⟩
                                have n1_ : Aside0 (Kd.R Kd.string 9 w28 w.heap.size (fun k_ => some k_ ≠ (v160 : Value).ownBlock) (.slice Ao23 x9_1.length co23) x9_1) := ⟨h1_⟩
                                have n2_ : Aside0 (∃ c_, (v160 : Value) = .slice (some adz_v160) y159.length c_) := ⟨h2_⟩
                                have n3_ : Aside0 (Below w.heap.size w w28) := ⟨h3_⟩
                                clear HO_9
                                clear HB
                                clear h0_ h1_ h2_ h3_
                                have HO161 := n0_
                                have HO_9 := n1_
                                have HA_HO161 := n2_
                                have HB := n3_
                                clear n0_ n1_ n2_ n3_
                                have hHeld : w28.cell? (ad162.add (x10_1).toNat) = some (.int .i64 (rd l1 x10_1)) := hS_
                                obtain ⟨co29, eo29⟩ := HA_HO161.out
                                clear HA_HO161
                                subst eo29
                                refine norm_ (a' := ?_) ?_ ?_
                                rotate_left
                                · simp only [putAll, Act.put, List.setIfInBounds_toArray, List.set_cons_zero, List.set_cons_succ]
                                  rfl
                                refine pure_ (i := 12) (N := some 56) (v := ?_) (a' := ?_) #[true, true, true, true, true, true, true, true, true, true, true, true, true, false, false, false, false] rfl rfl (any_of HT_.out (by kernel_rfl)) (fun _ _ _ h => h) (Or.inl ⟨by rfl, ?_⟩) ?_ ?_
                                rotate_left
                                · intro w'
                                  go_simp
                                  with_reducible rfl
                                rotate_left
                                · simp only [Act.put, List.setIfInBounds_toArray, List.set_cons_zero, List.set_cons_succ, i64_w, i32_w]
                                  rfl
                                refine one_ (i := 13) (N := some 57) #[true, true, true, true, true, true, true, true, true, true, true, true, true, true, false, false, false] rfl rfl (one_of HT_.out (by kernel_rfl)) (by decide) (fun K hK => ?_)
                                (have p164 : 0 ≤ (t163 : Int) := of_decide_eq_true (by first | (with_reducible assumption) | assumption); have q164 : t163 < (y159.length : Int) := of_decide_eq_true (by first | (with_reducible assumption) | assumption); obtain ⟨ad164, e164, hx164_0⟩ := Kd.at_string (Kd.R_reads' HO161.out).2.2 t163 p164 q164; obtain rfl : adz_v160 = ad164 := (by injection e164))
                                refine value_ (w1 := ?_) (v := ?_) (by rfl) rfl ?_ ?_
                                rotate_left 2
                                · go_simp
                                  constructor
                                  · rfl
                                  · rfl
                                clear hx164_0
                                refine hK.out _ _ (((HB.out.cell (World.block_lt_of_cell? w _ hw162_0)).trans hw162_0)) (fun hHeld => ?_)
                                clear hK K
                                refine norm_ (a' := ?_) ?_ ?_
                                rotate_left
                                · show Act.put _ (some 57) _ = _
                                  simp only [Act.put, List.setIfInBounds_toArray, List.set_cons_zero, List.set_cons_succ, i64_w, i32_w]
                                  rfl
                                refine one_ (i := 14) (N := some 58) #[true, true, true, true, true, true, true, true, true, true, true, true, true, true, true, false, false] rfl rfl (one_of HT_.out (by kernel_rfl)) (by decide) (fun K hK => ?_)
                                refine value_ (w1 := ?_) (v := ?_) (by rfl) rfl ?_ ?_
                                rotate_left 2
                                · go_simp
                                  constructor
                                  · rfl
                                  · rfl
                                refine hK.out _ _ ((World.cell?_alloc_lt _ _ _ (World.block_lt_of_cell? _ _ (((HB.out.cell (World.block_lt_of_cell? w _ hw162_0)).trans hw162_0)))).trans (((HB.out.cell (World.block_lt_of_cell? w _ hw162_0)).trans hw162_0))) (fun hHeld => ?_)
                                clear hK K
                                refine norm_ (a' := ?_) ?_ ?_
                                rotate_left
                                · show Act.put _ (some 58) _ = _
                                  simp only [Act.put, List.setIfInBounds_toArray, List.set_cons_zero, List.set_cons_succ, i64_w, i32_w]
                                  rfl
                                refine one_ (i := 15) (N := some 59) #[true, true, true, true, true, true, true, true, true, true, true, true, true, true, true, true, false] rfl rfl (one_of HT_.out (by kernel_rfl)) (by decide) (fun K hK => ?_)
                                refine Kd.R_append_step Kd.string (w0 := w) w.heap.size (by rfl) (.tmp 44) (.tmp 58) 25 9 (.string ⟨#[]⟩) 16 rfl Try.underlying25 info9 rfl (by decide) (by omega) (.slice Ao23 x9_1.length co23) x9_1 (rdOf ByteArray.empty y159 t163) [.string (rdOf ByteArray.empty y159 t163)] (fun k_ => some k_ ≠ (.slice (some adz_v160) y159.length co29 : Value).ownBlock) (fun _ => False) rfl rfl ?aP (fun _ hk => hk.elim) ?aF ?aO ?aB ?aS ?aL ?_
                                (case aP => exact rfl)
                                (case aB => exact (by repeat (first | (with_reducible first | exact HB.out | apply below_alloc | apply pw_below_drewN | apply below_drew1) | exact HB.out)))
                                (case aF => exact (fun k_ hk => Kd.fresh' (Kd.R_lt (by (with_reducible repeat (first | apply Kd.R_alloc | apply Kd.R_drewN | apply Kd.R_drew)); exact HO161.out)) k_ hk))
                                (case aO => exact (by (with_reducible repeat (first | apply Kd.R_alloc | apply Kd.R_drewN | apply Kd.R_drew)); exact HO_9.out))
                                (case aS => exact (below_size (by repeat (first | (with_reducible first | exact HB.out | apply below_alloc | apply pw_below_drewN | apply below_drew1) | exact HB.out))))
                                (case aL => have := LMc22.out; omega)
                                intro v166 w30 ho hb hg hat
                                rw [← Ny165.out] at ho
                                have n0_ := Aside0.mk (Kd.R_after (ok := (fun _ => True)) (by (with_reducible repeat (first | apply Kd.R_alloc | apply Kd.R_drewN | apply Kd.R_drew)); exact Kd.R_mono HO161.out (fun _ hk => ⟨trivial, hk⟩)) hg hat)
                                have n1_ := Aside0.mk (hb)
                                have n2_ := Aside0.mk (ho)
                                clear HO161
                                clear HB
                                clear HO_9
                                have HO161 := n0_
                                have HB := n1_
                                have HO167 := n2_
                                clear n0_ n1_ n2_
                                clear ho hb hg hat
                                refine hK.out _ _ (((HB.out.cell (World.block_lt_of_cell? w _ hw162_0)).trans hw162_0)) (fun hHeld => ?_)
                                clear hK K
                                refine norm_ (a' := ?_) ?_ ?_
                                rotate_left
                                · show Act.put _ (some 59) _ = _
                                  simp only [Act.put, List.setIfInBounds_toArray, List.set_cons_zero, List.set_cons_succ, i64_w, i32_w]
                                  rfl
                                refine pure_ (i := 16) (N := some 9) (v := ?_) (a' := ?_) #[true, true, true, true, true, true, true, true, true, true, true, true, true, true, true, true, true] rfl rfl (any_of HT_.out (by kernel_rfl)) (fun _ _ _ h => h) (Or.inl ⟨by rfl, ?_⟩) ?_ ?_
                                rotate_left
                                · intro w'
                                  go_simp
                                  with_reducible rfl
                                rotate_left
                                · simp only [Act.put, List.setIfInBounds_toArray, List.set_cons_zero, List.set_cons_succ, i64_w, i32_w]
                                  rfl
                                refine done_ (done_of HT_.out (by kernel_rfl)) ?_
                                try go_wp2
                                go_roundg kj7
                                case measure => have := HK1.out; have := HJ4.out; have := HJ7.out; omega
                                case rel => exact ⟨(y165), (wrap64 (x10_1 + 1)), (by first | rfl | (simp; done) | (simp [*]; done)), H', ⟨by have := HK1.out; have := HJ4.out; have := HJ7.out; omega⟩, ⟨by (with_reducible repeat (first | apply Kd.R_alloc | apply Kd.R_drewN | apply Kd.R_drew)); exact Kd.R_mono HO167.out (fun _ hk => trivial)⟩, ⟨by repeat (first | (with_reducible first | exact HB.out | apply below_alloc | apply pw_below_drewN | apply below_drew1) | exact HB.out)⟩⟩
                              · rw [if_neg c22] at H
                                exact absurd H (by simp)
                            · rw [if_neg c21] at H
                              exact absurd H (by simp)
                          · rw [if_neg c20] at H
                            exact absurd H (by simp)
                        · rw [if_neg c18] at H
                          exact absurd H (by simp)
                      · rw [if_neg c17] at H
                        exact absurd H (by simp)
                    · rw [if_neg c14] at H
                      exact absurd H (by simp)
                  · rw [if_neg c13] at H
                    exact absurd H (by simp)
                · replace c12 := Bool.eq_false_iff.mpr c12
                  subst c12
                  have H1 : ((descr_Ref.f (⟨#[97]⟩ : ByteArray)).bind fun t168 => ((descr_Ref.f (⟨#[97]⟩ : ByteArray)).bind fun t169 => (if 1 + t169.size ≤ 9223372036854775807 then ((some (([(⟨#[73]⟩ : ByteArray), t168, (⟨#[91, 73]⟩ : ByteArray), (⟨#[91]⟩ : ByteArray) ++ t169] : List ByteArray) : List ByteArray)).bind fun y170 => (if 0 ≤ x10_1 then (if x10_1 < (l1.length : Int) then ((carafebook_Within.f (rd l1 x10_1) 0 3).bind fun t174 => (if 0 ≤ t174 then (if t174 < (y170.length : Int) then (if x9_1.length < 8796093022208 then (carafelaw2_DescrBack.l0 kj7 l0 l1 a2 a3 (x9_1 ++ [rdOf ByteArray.empty y170 t174]) (wrap64 (x10_1 + 1))) else (none)) else (none)) else (none))) else (none)) else (none))) else (none)))) = some r := by rw [if_neg (show ¬ (false = true) by decide)] at H; exact H
                  clear H
                  have H := H1
                  clear H1
                  replace H := Option.bind_eq_some_iff.mp H
                  obtain ⟨t168, A310, H⟩ := H
                  replace H : ((descr_Ref.f (⟨#[97]⟩ : ByteArray)).bind fun t169 => (if 1 + t169.size ≤ 9223372036854775807 then ((some (([(⟨#[73]⟩ : ByteArray), t168, (⟨#[91, 73]⟩ : ByteArray), (⟨#[91]⟩ : ByteArray) ++ t169] : List ByteArray) : List ByteArray)).bind fun y170 => (if 0 ≤ x10_1 then (if x10_1 < (l1.length : Int) then ((carafebook_Within.f (rd l1 x10_1) 0 3).bind fun t174 => (if 0 ≤ t174 then (if t174 < (y170.length : Int) then (if x9_1.length < 8796093022208 then (carafelaw2_DescrBack.l0 kj7 l0 l1 a2 a3 (x9_1 ++ [rdOf ByteArray.empty y170 t174]) (wrap64 (x10_1 + 1))) else (none)) else (none)) else (none))) else (none)) else (none))) else (none))) = some r := H
                  have A31 := Aside0.mk A310
                  clear A310
                  replace H := Option.bind_eq_some_iff.mp H
                  obtain ⟨t169, A320, H⟩ := H
                  replace H : (if 1 + t169.size ≤ 9223372036854775807 then ((some (([(⟨#[73]⟩ : ByteArray), t168, (⟨#[91, 73]⟩ : ByteArray), (⟨#[91]⟩ : ByteArray) ++ t169] : List ByteArray) : List ByteArray)).bind fun y170 => (if 0 ≤ x10_1 then (if x10_1 < (l1.length : Int) then ((carafebook_Within.f (rd l1 x10_1) 0 3).bind fun t174 => (if 0 ≤ t174 then (if t174 < (y170.length : Int) then (if x9_1.length < 8796093022208 then (carafelaw2_DescrBack.l0 kj7 l0 l1 a2 a3 (x9_1 ++ [rdOf ByteArray.empty y170 t174]) (wrap64 (x10_1 + 1))) else (none)) else (none)) else (none))) else (none)) else (none))) else (none)) = some r := H
                  have A32 := Aside0.mk A320
                  clear A320
                  by_cases c33 : 1 + t169.size ≤ 9223372036854775807
                  · rw [if_pos c33] at H
                    have c33b0 := eq_true c33
                    have c33b1 : decide (1 + t169.size ≤ 9223372036854775807) = true := decide_eq_true c33
                    try have c33b2 : (9223372036854775807 < 1 + t169.size) = False := eq_false (Nat.not_lt.2 c33)
                    obtain ⟨y170, hy170⟩ : ∃ y_ : List ByteArray, y_ = (([(⟨#[73]⟩ : ByteArray), t168, (⟨#[91, 73]⟩ : ByteArray), (⟨#[91]⟩ : ByteArray) ++ t169] : List ByteArray)) := ⟨_, rfl⟩
                    replace H : (if 0 ≤ x10_1 then (if x10_1 < (l1.length : Int) then ((carafebook_Within.f (rd l1 x10_1) 0 3).bind fun t174 => (if 0 ≤ t174 then (if t174 < (y170.length : Int) then (if x9_1.length < 8796093022208 then (carafelaw2_DescrBack.l0 kj7 l0 l1 a2 a3 (x9_1 ++ [rdOf ByteArray.empty y170 t174]) (wrap64 (x10_1 + 1))) else (none)) else (none)) else (none))) else (none)) else (none)) = some r := by first | (rw [hy170]; with_reducible exact H) | (have H2_ := (Option.bind_some _ _).symm.trans H; rw [hy170]; with_reducible exact H2_) | (have H2_ := (Option.bind_some _ _).symm.trans H; with_reducible exact H2_) | with_reducible exact H | (rw [hy170]; exact H) | exact H
                    have Ny170 := Aside0.mk hy170
                    clear hy170
                    by_cases c34 : 0 ≤ x10_1
                    · rw [if_pos c34] at H
                      have c34b0 : decide (0 ≤ x10_1) = true := decide_eq_true c34
                      clear c34
                      by_cases c35 : x10_1 < (l1.length : Int)
                      · rw [if_pos c35] at H
                        have c35b0 : decide (x10_1 < (l1.length : Int)) = true := decide_eq_true c35
                        clear c35
                        replace H := Option.bind_eq_some_iff.mp H
                        obtain ⟨t174, A360, H⟩ := H
                        replace H : (if 0 ≤ t174 then (if t174 < (y170.length : Int) then (if x9_1.length < 8796093022208 then (carafelaw2_DescrBack.l0 kj7 l0 l1 a2 a3 (x9_1 ++ [rdOf ByteArray.empty y170 t174]) (wrap64 (x10_1 + 1))) else (none)) else (none)) else (none)) = some r := H
                        have A36 := Aside0.mk A360
                        clear A360
                        by_cases c37 : 0 ≤ t174
                        · rw [if_pos c37] at H
                          have c37b0 : decide (0 ≤ t174) = true := decide_eq_true c37
                          clear c37
                          by_cases c38 : t174 < (y170.length : Int)
                          · rw [if_pos c38] at H
                            have c38b0 : decide (t174 < (y170.length : Int)) = true := decide_eq_true c38
                            clear c38
                            by_cases c39 : x9_1.length < 8796093022208
                            · rw [if_pos c39] at H
                              have LMc39 := Aside0.mk c39
                              clear c39
                              obtain ⟨y176, hy176⟩ : ∃ y_ : List ByteArray, y_ = (x9_1 ++ [rdOf ByteArray.empty y170 t174]) := ⟨_, rfl⟩
                              replace H : (carafelaw2_DescrBack.l0 kj7 l0 l1 a2 a3 y176 (wrap64 (x10_1 + 1))) = some r := by first | (rw [hy176]; with_reducible exact H) | (have H2_ := (Option.bind_some _ _).symm.trans H; rw [hy176]; with_reducible exact H2_) | (have H2_ := (Option.bind_some _ _).symm.trans H; with_reducible exact H2_) | with_reducible exact H | (rw [hy176]; exact H) | exact H
                              have Ny176 := Aside0.mk hy176
                              clear hy176
                              have H' := Aside0.mk H
                              clear H
                              obtain ⟨Ao40, co40, eo40⟩ := Kd.R_slice HO_9.out
                              subst eo40
                              try go_wp2
                              have pi175 : (0 ≤ (t174 : Int)) = True := eq_true (of_decide_eq_true (by first | (with_reducible assumption) | assumption))
                              have qi175 : (t174 < (y170.length : Int)) = True := eq_true (of_decide_eq_true (by first | (with_reducible assumption) | assumption))
                              have n0_ := Aside0.mk (Kd.R_drew HO_9.out)
                              have n1_ := Aside0.mk (below_drew1 HB.out)
                              clear HO_9
                              clear HB
                              have HO_9 := n0_
                              have HB := n1_
                              clear n0_ n1_
                              have p173 : 0 ≤ (x10_1 : Int) := of_decide_eq_true (by first | (with_reducible assumption) | assumption)
                              have q173 : x10_1 < (l1.length : Int) := of_decide_eq_true (by first | (with_reducible assumption) | assumption)
                              obtain ⟨ad173, e173, hx173_0⟩ := Kd.at_int HR1.out x10_1 p173 q173
                              have hw173_0 := hx173_0
                              cases e173
                              replace hx173_0 := (HB.out.cell (World.block_lt_of_cell? w _ hx173_0)).trans hx173_0
                              replace p173 := eq_true p173
                              replace q173 := eq_true q173
                              refine start_ (n := 17) (S := fun w' => w'.cell? (ad173.add (x10_1).toNat) = some (.int .i64 (rd l1 x10_1))) (ds := []) #[false, false, false, false, false, false, false, false, false, false, false, false, false, false, false, false, false] (by kernel_rfl) rfl rfl (((HB.out.cell (World.block_lt_of_cell? w _ hw173_0)).trans hw173_0)) (fun hHeld => ?_); refine with_tabW carafelaw2_DescrBack.tab8 carafelaw2_DescrBack.bits8 (fun HT_ HW_ => ?_)
                              generalize wc.drew = w41 at HO_9 HB hx173_0 hHeld ⊢
                              refine pure_ (i := 0) (N := some 44) (v := ?_) (a' := ?_) #[true, false, false, false, false, false, false, false, false, false, false, false, false, false, false, false, false] rfl rfl (any_of HT_.out (by kernel_rfl)) (fun _ _ _ h => h) (Or.inl ⟨by rfl, ?_⟩) ?_ ?_
                              rotate_left
                              · intro w'
                                go_simp
                                with_reducible rfl
                              rotate_left
                              · simp only [Act.put, List.setIfInBounds_toArray, List.set_cons_zero, List.set_cons_succ, i64_w, i32_w]
                                rfl
                              refine pure_ (i := 1) (N := some 45) (v := ?_) (a' := ?_) #[true, true, false, false, false, false, false, false, false, false, false, false, false, false, false, false, false] rfl rfl (any_of HT_.out (by kernel_rfl)) (fun _ _ _ h => h) (Or.inl ⟨by rfl, ?_⟩) ?_ ?_
                              rotate_left
                              · intro w'
                                go_simp
                                with_reducible rfl
                              rotate_left
                              · simp only [Act.put, List.setIfInBounds_toArray, List.set_cons_zero, List.set_cons_succ, i64_w, i32_w]
                                rfl
                              refine pure_ (i := 3) (N := some 47) (v := ?_) (a' := ?_) #[true, true, false, true, false, false, false, false, false, false, false, false, false, false, false, false, false] rfl rfl (any_of HT_.out (by kernel_rfl)) (fun _ _ _ h => h) (Or.inl ⟨by rfl, ?_⟩) ?_ ?_
                              rotate_left
                              · intro w'
                                go_simp
                                with_reducible rfl
                              rotate_left
                              · simp only [Act.put, List.setIfInBounds_toArray, List.set_cons_zero, List.set_cons_succ, i64_w, i32_w]
                                rfl
                              refine pure_ (i := 7) (N := some 51) (v := ?_) (a' := ?_) #[true, true, false, true, false, false, false, true, false, false, false, false, false, false, false, false, false] rfl rfl (any_of HT_.out (by kernel_rfl)) (fun _ _ _ h => h) (Or.inl ⟨by rfl, ?_⟩) ?_ ?_
                              rotate_left
                              · intro w'
                                go_simp
                                with_reducible rfl
                              rotate_left
                              · simp only [Act.put, List.setIfInBounds_toArray, List.set_cons_zero, List.set_cons_succ, i64_w, i32_w]
                                rfl
                              refine pure_ (i := 8) (N := some 52) (v := ?_) (a' := ?_) #[true, true, false, true, false, false, false, true, true, false, false, false, false, false, false, false, false] rfl rfl (any_of HT_.out (by kernel_rfl)) (fun _ _ _ h => h) (Or.inl ⟨by rfl, ?_⟩) ?_ ?_
                              rotate_left
                              · intro w'
                                go_simp
                                with_reducible rfl
                              rotate_left
                              · simp only [Act.put, List.setIfInBounds_toArray, List.set_cons_zero, List.set_cons_succ, i64_w, i32_w]
                                rfl
                              refine pure_ (i := 9) (N := some 53) (v := ?_) (a' := ?_) #[true, true, false, true, false, false, false, true, true, true, false, false, false, false, false, false, false] rfl rfl (any_of HT_.out (by kernel_rfl)) (fun _ _ _ h => h) (Or.inl ⟨by rfl, ?_⟩) ?_ ?_
                              rotate_left
                              · intro w'
                                go_simp
                                with_reducible rfl
                              rotate_left
                              · simp only [Act.put, List.setIfInBounds_toArray, List.set_cons_zero, List.set_cons_succ, i64_w, i32_w]
                                rfl
                              refine take_ (i := 10) (N := some 54) (v := ?_) (a' := ?_) #[true, true, false, true, false, false, false, true, true, true, true, false, false, false, false, false, false] rfl rfl (take_ofW HT_.out HW_.out (by kernel_rfl)) (fun _ _ _ h => h) (Or.inl ⟨by rfl, ?_⟩) hHeld ?_ ?_
                              rotate_left
                              · intro w' s0
                                go_simp
                                with_reducible rfl
                              rotate_left
                              · simp only [Act.put, List.setIfInBounds_toArray, List.set_cons_zero, List.set_cons_succ, i64_w, i32_w]
                                rfl
                              refine one_ (i := 2) (N := some 46) #[true, true, true, true, false, false, false, true, true, true, true, false, false, false, false, false, false] rfl rfl (one_of HT_.out (by kernel_rfl)) (by decide) (fun K hK => ?_)
                              refine goes_ Try.func24 (by kernel_rfl) rfl #[.string (⟨#[97]⟩ : ByteArray)] (by rfl) rfl rfl (by (try simp only [List.map_toArray, List.map_cons, List.map_nil]); first | done | rfl | (simp only [List.length_drop, List.length_take]; rfl)) ?_
                              with_reducible refine (descr_Ref.calls (⟨#[97]⟩ : ByteArray) t168 _ A31.out).mono ?_
                              rintro e w' ⟨rfl, ⟨nd, rfl⟩⟩
                              refine ⟨_, rfl, ?_⟩
                              refine hK.out _ _ (((HB.out.cell (World.block_lt_of_cell? w _ hw173_0)).trans hw173_0)) (fun hHeld => ?_)
                              clear hK K
                              refine norm_ (a' := ?_) ?_ ?_
                              rotate_left
                              · show Act.put _ (some 46) _ = _
                                simp only [Act.put, List.setIfInBounds_toArray, List.set_cons_zero, List.set_cons_succ, i64_w, i32_w]
                                rfl
                              refine one_ (i := 4) (N := some 48) #[true, true, true, true, true, false, false, true, true, true, true, false, false, false, false, false, false] rfl rfl (one_of HT_.out (by kernel_rfl)) (by decide) (fun K hK => ?_)
                              refine goes_ Try.func24 (by kernel_rfl) rfl #[.string (⟨#[97]⟩ : ByteArray)] (by rfl) rfl rfl (by (try simp only [List.map_toArray, List.map_cons, List.map_nil]); first | done | rfl | (simp only [List.length_drop, List.length_take]; rfl)) ?_
                              with_reducible refine (descr_Ref.calls (⟨#[97]⟩ : ByteArray) t169 _ A32.out).mono ?_
                              rintro e w' ⟨rfl, ⟨nd, rfl⟩⟩
                              refine ⟨_, rfl, ?_⟩
                              refine hK.out _ _ (((HB.out.cell (World.block_lt_of_cell? w _ hw173_0)).trans hw173_0)) (fun hHeld => ?_)
                              clear hK K
                              refine norm_ (a' := ?_) ?_ ?_
                              rotate_left
                              · show Act.put _ (some 48) _ = _
                                simp only [Act.put, List.setIfInBounds_toArray, List.set_cons_zero, List.set_cons_succ, i64_w, i32_w]
                                rfl
                              refine pure_ (i := 5) (N := some 49) (v := ?_) (a' := ?_) #[true, true, true, true, true, true, false, true, true, true, true, false, false, false, false, false, false] rfl rfl (any_of HT_.out (by kernel_rfl)) (fun _ _ _ h => h) (Or.inl ⟨by rfl, ?_⟩) ?_ ?_
                              rotate_left
                              · intro w'
                                go_simp
                                with_reducible rfl
                              rotate_left
                              · simp only [Act.put, List.setIfInBounds_toArray, List.set_cons_zero, List.set_cons_succ, i64_w, i32_w]
                                rfl
                              refine join_ (σ := Value × Addr) 5 #[true, true, true, true, true, true, true, true, true, true, true, true, false, false, false, false, false] (fun s_ => [(50, s_.1), (55, .int .i64 t174)]) (fun s_ w' => (w'.cell? (ad173.add (x10_1).toNat) = some (.int .i64 (rd l1 x10_1))) ∧ (Kd.R Kd.string 9 w' w.heap.size (fun k_ => some k_ ≠ (.slice Ao40 x9_1.length co40 : Value).ownBlock) s_.1 y170) ∧ (Kd.R Kd.string 9 w' w.heap.size (fun k_ => some k_ ≠ (s_.1 : Value).ownBlock) (.slice Ao40 x9_1.length co40) x9_1) ∧ (∃ c_, (s_.1 : Value) = .slice (some s_.2) y170.length c_) ∧ (Below w.heap.size w w')) ?_ ?_
                              rotate_left
                              · intro hCont
                                refine two_ (i := 6) (j := 11) (Ni := some 50) (Nj := some 55) #[true, true, true, true, true, true, true, true, true, true, true, false, false, false, false, false, false] #[true, true, true, true, true, true, false, true, true, true, true, true, false, false, false, false, false] rfl rfl rfl rfl (two_of HT_.out (by kernel_rfl)) (by decide) (by decide) (fun K hK => ?_) (fun K hK => ?_)
                                · skip
                                  refine Kd.R_lit_step Kd.string _ 9 ?hg (N := 50) ?hd (xs := ([(⟨#[73]⟩ : ByteArray), t168, (⟨#[91, 73]⟩ : ByteArray), (⟨#[91]⟩ : ByteArray) ++ t169] : List ByteArray)) (inner := [.string (⟨#[73]⟩ : ByteArray), .string t168, .string (⟨#[91, 73]⟩ : ByteArray), .string ((⟨#[91]⟩ : ByteArray) ++ t169)]) (ok := fun _ => True) (okp := fun _ => True) ?hr ?hp (fun _ hk => hk) trivial (Below.refl _ _) (Nat.le_refl _) (by simp) ?_; (case hd => rfl); (case hg => rfl); (case hr => first | (go_simp; done) | (go_simp; rfl)); (case hp => exact (Reps.one (show Kd.M Kd.string _ _ _ (⟨#[73]⟩ : ByteArray) [.string (⟨#[73]⟩ : ByteArray)] from rfl) (Reps.one (show Kd.M Kd.string _ _ _ t168 [.string t168] from rfl) (Reps.one (show Kd.M Kd.string _ _ _ (⟨#[91, 73]⟩ : ByteArray) [.string (⟨#[91, 73]⟩ : ByteArray)] from rfl) (Reps.one (show Kd.M Kd.string _ _ _ ((⟨#[91]⟩ : ByteArray) ++ t169) [.string ((⟨#[91]⟩ : ByteArray) ++ t169)] from rfl) (Reps.none _ _))))))
                                  intro v171 w42 ho43 hb hg_ hnew_
                                  clear hg_ hnew_
                                  (first | rw [← Ny170.out] at ho43 | (simp only [Int.reduceToNat] at ho43; rw [← Ny170.out] at ho43))
                                  have n0_ := Aside0.mk (Kd.R_elder' (by (with_reducible repeat (first | apply Kd.R_alloc | apply Kd.R_drewN | apply Kd.R_drew)); exact HO_9.out) (Kd.R_base ho43) hb)
                                  have n1_ := Aside0.mk (Kd.R_lower (Kd.R_new' ho43 (Kd.R_lt (by (with_reducible repeat (first | apply Kd.R_alloc | apply Kd.R_drewN | apply Kd.R_drew)); exact HO_9.out))) (below_size (by repeat (first | (with_reducible first | exact HB.out | apply below_alloc | apply pw_below_drewN | apply below_drew1) | exact HB.out))))
                                  have n2_ := Aside0.mk (below_step (by repeat (first | (with_reducible first | exact HB.out | apply below_alloc | apply pw_below_drewN | apply below_drew1) | exact HB.out)) hb)
                                  clear HO_9
                                  clear HB
                                  have HO_9 := n0_
                                  have HO172 := n1_
                                  have HB := n2_
                                  clear n0_ n1_ n2_
                                  clear hb ho43
                                  obtain ⟨Ao44, co44, eo44⟩ := Kd.R_slice HO172.out
                                  subst eo44
                                  obtain ⟨ado44, fo44, _⟩ := Kd.at_string (Kd.R_reads' HO172.out).2.2 0 (by decide) (by rw [Ny170.out]; simp)
                                  cases fo44
                                  refine hK.out _ _ (((HB.out.cell (World.block_lt_of_cell? w _ hw173_0)).trans hw173_0)) (fun hHeld => ?_)
                                  clear hK K
                                  refine norm_ (a' := ?_) ?_ ?_
                                  rotate_left
                                  · show Act.put _ (some 50) _ = _
                                    simp only [Act.put, List.setIfInBounds_toArray, List.set_cons_zero, List.set_cons_succ, i64_w, i32_w]
                                    rfl
                                  refine one_ (i := 11) (N := some 55) #[true, true, true, true, true, true, true, true, true, true, true, true, false, false, false, false, false] rfl rfl (one_of HT_.out (by kernel_rfl)) (by decide) (fun K hK => ?_)
                                  refine goes_ Try.func13 (by kernel_rfl) rfl #[.int .i64 (rd l1 x10_1), .int .i64 0, .int .i64 3] (by rfl) rfl rfl (by (try simp only [List.map_toArray, List.map_cons, List.map_nil]); first | done | rfl | (simp only [List.length_drop, List.length_take]; rfl)) ?_
                                  with_reducible refine (carafebook_Within.calls (rd l1 x10_1) 0 3 t174 _ A36.out).mono ?_
                                  rintro e w' ⟨rfl, ⟨nd, rfl⟩⟩
                                  refine ⟨_, rfl, ?_⟩
                                  refine hK.out _ _ (((HB.out.cell (World.block_lt_of_cell? w _ hw173_0)).trans hw173_0)) (fun hHeld => ?_)
                                  clear hK K
                                  refine norm_ (a' := ?_) ?_ ?_
                                  rotate_left
                                  · show Act.put _ (some 55) _ = _
                                    simp only [Act.put, List.setIfInBounds_toArray, List.set_cons_zero, List.set_cons_succ, i64_w, i32_w]
                                    rfl
                                  exact norm_ (by simp only [putAll, Act.put, List.setIfInBounds_toArray, List.set_cons_zero, List.set_cons_succ]) (hCont (.slice (some ado44) y170.length co44, ado44) _ ⟨hHeld, (by (with_reducible repeat (first | apply Kd.R_alloc | apply Kd.R_drewN | apply Kd.R_drew)); exact Kd.R_mono HO172.out (fun _ hk => hk.2)), (by (with_reducible repeat (first | apply Kd.R_alloc | apply Kd.R_drewN | apply Kd.R_drew)); exact Kd.R_mono HO_9.out (fun _ hk => hk.2)), ⟨_, rfl⟩, (by repeat (first | (with_reducible first | exact HB.out | apply below_alloc | apply pw_below_drewN | apply below_drew1) | exact HB.out))⟩)
                                · skip
                                  refine goes_ Try.func13 (by kernel_rfl) rfl #[.int .i64 (rd l1 x10_1), .int .i64 0, .int .i64 3] (by rfl) rfl rfl (by (try simp only [List.map_toArray, List.map_cons, List.map_nil]); first | done | rfl | (simp only [List.length_drop, List.length_take]; rfl)) ?_
                                  with_reducible refine (carafebook_Within.calls (rd l1 x10_1) 0 3 t174 _ A36.out).mono ?_
                                  rintro e w' ⟨rfl, ⟨nd, rfl⟩⟩
                                  refine ⟨_, rfl, ?_⟩
                                  refine hK.out _ _ (((HB.out.cell (World.block_lt_of_cell? w _ hw173_0)).trans hw173_0)) (fun hHeld => ?_)
                                  clear hK K
                                  refine norm_ (a' := ?_) ?_ ?_
                                  rotate_left
                                  · show Act.put _ (some 55) _ = _
                                    simp only [Act.put, List.setIfInBounds_toArray, List.set_cons_zero, List.set_cons_succ, i64_w, i32_w]
                                    rfl
                                  refine one_ (i := 6) (N := some 50) #[true, true, true, true, true, true, true, true, true, true, true, true, false, false, false, false, false] rfl rfl (one_of HT_.out (by kernel_rfl)) (by decide) (fun K hK => ?_)
                                  refine Kd.R_lit_step Kd.string _ 9 ?hg (N := 50) ?hd (xs := ([(⟨#[73]⟩ : ByteArray), t168, (⟨#[91, 73]⟩ : ByteArray), (⟨#[91]⟩ : ByteArray) ++ t169] : List ByteArray)) (inner := [.string (⟨#[73]⟩ : ByteArray), .string t168, .string (⟨#[91, 73]⟩ : ByteArray), .string ((⟨#[91]⟩ : ByteArray) ++ t169)]) (ok := fun _ => True) (okp := fun _ => True) ?hr ?hp (fun _ hk => hk) trivial (Below.refl _ _) (Nat.le_refl _) (by simp) ?_; (case hd => rfl); (case hg => rfl); (case hr => first | (go_simp; done) | (go_simp; rfl)); (case hp => exact (Reps.one (show Kd.M Kd.string _ _ _ (⟨#[73]⟩ : ByteArray) [.string (⟨#[73]⟩ : ByteArray)] from rfl) (Reps.one (show Kd.M Kd.string _ _ _ t168 [.string t168] from rfl) (Reps.one (show Kd.M Kd.string _ _ _ (⟨#[91, 73]⟩ : ByteArray) [.string (⟨#[91, 73]⟩ : ByteArray)] from rfl) (Reps.one (show Kd.M Kd.string _ _ _ ((⟨#[91]⟩ : ByteArray) ++ t169) [.string ((⟨#[91]⟩ : ByteArray) ++ t169)] from rfl) (Reps.none _ _))))))
                                  intro v171 w42 ho43 hb hg_ hnew_
                                  clear hg_ hnew_
                                  (first | rw [← Ny170.out] at ho43 | (simp only [Int.reduceToNat] at ho43; rw [← Ny170.out] at ho43))
                                  have n0_ := Aside0.mk (Kd.R_elder' (by (with_reducible repeat (first | apply Kd.R_alloc | apply Kd.R_drewN | apply Kd.R_drew)); exact HO_9.out) (Kd.R_base ho43) hb)
                                  have n1_ := Aside0.mk (Kd.R_lower (Kd.R_new' ho43 (Kd.R_lt (by (with_reducible repeat (first | apply Kd.R_alloc | apply Kd.R_drewN | apply Kd.R_drew)); exact HO_9.out))) (below_size (by repeat (first | (with_reducible first | exact HB.out | apply below_alloc | apply pw_below_drewN | apply below_drew1) | exact HB.out))))
                                  have n2_ := Aside0.mk (below_step (by repeat (first | (with_reducible first | exact HB.out | apply below_alloc | apply pw_below_drewN | apply below_drew1) | exact HB.out)) hb)
                                  clear HO_9
                                  clear HB
                                  have HO_9 := n0_
                                  have HO172 := n1_
                                  have HB := n2_
                                  clear n0_ n1_ n2_
                                  clear hb ho43
                                  obtain ⟨Ao44, co44, eo44⟩ := Kd.R_slice HO172.out
                                  subst eo44
                                  obtain ⟨ado44, fo44, _⟩ := Kd.at_string (Kd.R_reads' HO172.out).2.2 0 (by decide) (by rw [Ny170.out]; simp)
                                  cases fo44
                                  refine hK.out _ _ (((HB.out.cell (World.block_lt_of_cell? w _ hw173_0)).trans hw173_0)) (fun hHeld => ?_)
                                  clear hK K
                                  refine norm_ (a' := ?_) ?_ ?_
                                  rotate_left
                                  · show Act.put _ (some 50) _ = _
                                    simp only [Act.put, List.setIfInBounds_toArray, List.set_cons_zero, List.set_cons_succ, i64_w, i32_w]
                                    rfl
                                  exact norm_ (by simp only [putAll, Act.put, List.setIfInBounds_toArray, List.set_cons_zero, List.set_cons_succ]) (hCont (.slice (some ado44) y170.length co44, ado44) _ ⟨hHeld, (by (with_reducible repeat (first | apply Kd.R_alloc | apply Kd.R_drewN | apply Kd.R_drew)); exact Kd.R_mono HO172.out (fun _ hk => hk.2)), (by (with_reducible repeat (first | apply Kd.R_alloc | apply Kd.R_drewN | apply Kd.R_drew)); exact Kd.R_mono HO_9.out (fun _ hk => hk.2)), ⟨_, rfl⟩, (by repeat (first | (with_reducible first | exact HB.out | apply below_alloc | apply pw_below_drewN | apply below_drew1) | exact HB.out))⟩)
                              rintro ⟨v171, adz_v171⟩ w45 ⟨hS_, h0_, h1_, h2_, h3_⟩
                              have n0_ : Aside0 (Kd.R Kd.string 9 w45 w.heap.size (fun k_ => some k_ ≠ (.slice Ao40 x9_1.length co40 : Value).ownBlock) v171 y170) := ⟨h0_⟩
                              have n1_ : Aside0 (Kd.R Kd.string 9 w45 w.heap.size (fun k_ => some k_ ≠ (v171 : Value).ownBlock) (.slice Ao40 x9_1.length co40) x9_1) := ⟨h1_⟩
                              have n2_ : Aside0 (∃ c_, (v171 : Value) = .slice (some adz_v171) y170.length c_) := ⟨h2_⟩
                              have n3_ : Aside0 (Below w.heap.size w w45) := ⟨h3_⟩
                              clear HO_9
                              clear HB
                              clear h0_ h1_ h2_ h3_
                              have HO172 := n0_
                              have HO_9 := n1_
                              have HA_HO172 := n2_
                              have HB := n3_
                              clear n0_ n1_ n2_ n3_
                              have hHeld : w45.cell? (ad173.add (x10_1).toNat) = some (.int .i64 (rd l1 x10_1)) := hS_
                              obtain ⟨co46, eo46⟩ := HA_HO172.out
                              clear HA_HO172
                              subst eo46
                              refine norm_ (a' := ?_) ?_ ?_
                              rotate_left
                              · simp only [putAll, Act.put, List.setIfInBounds_toArray, List.set_cons_zero, List.set_cons_succ]
                                rfl
                              refine pure_ (i := 12) (N := some 56) (v := ?_) (a' := ?_) #[true, true, true, true, true, true, true, true, true, true, true, true, true, false, false, false, false] rfl rfl (any_of HT_.out (by kernel_rfl)) (fun _ _ _ h => h) (Or.inl ⟨by rfl, ?_⟩) ?_ ?_
                              rotate_left
                              · intro w'
                                go_simp
                                with_reducible rfl
                              rotate_left
                              · simp only [Act.put, List.setIfInBounds_toArray, List.set_cons_zero, List.set_cons_succ, i64_w, i32_w]
                                rfl
                              refine one_ (i := 13) (N := some 57) #[true, true, true, true, true, true, true, true, true, true, true, true, true, true, false, false, false] rfl rfl (one_of HT_.out (by kernel_rfl)) (by decide) (fun K hK => ?_)
                              (have p175 : 0 ≤ (t174 : Int) := of_decide_eq_true (by first | (with_reducible assumption) | assumption); have q175 : t174 < (y170.length : Int) := of_decide_eq_true (by first | (with_reducible assumption) | assumption); obtain ⟨ad175, e175, hx175_0⟩ := Kd.at_string (Kd.R_reads' HO172.out).2.2 t174 p175 q175; obtain rfl : adz_v171 = ad175 := (by injection e175))
                              refine value_ (w1 := ?_) (v := ?_) (by rfl) rfl ?_ ?_
                              rotate_left 2
                              · go_simp
                                constructor
                                · rfl
                                · rfl
                              clear hx175_0
                              refine hK.out _ _ (((HB.out.cell (World.block_lt_of_cell? w _ hw173_0)).trans hw173_0)) (fun hHeld => ?_)
                              clear hK K
                              refine norm_ (a' := ?_) ?_ ?_
                              rotate_left
                              · show Act.put _ (some 57) _ = _
                                simp only [Act.put, List.setIfInBounds_toArray, List.set_cons_zero, List.set_cons_succ, i64_w, i32_w]
                                rfl
                              refine one_ (i := 14) (N := some 58) #[true, true, true, true, true, true, true, true, true, true, true, true, true, true, true, false, false] rfl rfl (one_of HT_.out (by kernel_rfl)) (by decide) (fun K hK => ?_)
                              refine value_ (w1 := ?_) (v := ?_) (by rfl) rfl ?_ ?_
                              rotate_left 2
                              · go_simp
                                constructor
                                · rfl
                                · rfl
                              refine hK.out _ _ ((World.cell?_alloc_lt _ _ _ (World.block_lt_of_cell? _ _ (((HB.out.cell (World.block_lt_of_cell? w _ hw173_0)).trans hw173_0)))).trans (((HB.out.cell (World.block_lt_of_cell? w _ hw173_0)).trans hw173_0))) (fun hHeld => ?_)
                              clear hK K
                              refine norm_ (a' := ?_) ?_ ?_
                              rotate_left
                              · show Act.put _ (some 58) _ = _
                                simp only [Act.put, List.setIfInBounds_toArray, List.set_cons_zero, List.set_cons_succ, i64_w, i32_w]
                                rfl
                              refine one_ (i := 15) (N := some 59) #[true, true, true, true, true, true, true, true, true, true, true, true, true, true, true, true, false] rfl rfl (one_of HT_.out (by kernel_rfl)) (by decide) (fun K hK => ?_)
                              refine Kd.R_append_step Kd.string (w0 := w) w.heap.size (by rfl) (.tmp 44) (.tmp 58) 25 9 (.string ⟨#[]⟩) 16 rfl Try.underlying25 info9 rfl (by decide) (by omega) (.slice Ao40 x9_1.length co40) x9_1 (rdOf ByteArray.empty y170 t174) [.string (rdOf ByteArray.empty y170 t174)] (fun k_ => some k_ ≠ (.slice (some adz_v171) y170.length co46 : Value).ownBlock) (fun _ => False) rfl rfl ?aP (fun _ hk => hk.elim) ?aF ?aO ?aB ?aS ?aL ?_
                              (case aP => exact rfl)
                              (case aB => exact (by repeat (first | (with_reducible first | exact HB.out | apply below_alloc | apply pw_below_drewN | apply below_drew1) | exact HB.out)))
                              (case aF => exact (fun k_ hk => Kd.fresh' (Kd.R_lt (by (with_reducible repeat (first | apply Kd.R_alloc | apply Kd.R_drewN | apply Kd.R_drew)); exact HO172.out)) k_ hk))
                              (case aO => exact (by (with_reducible repeat (first | apply Kd.R_alloc | apply Kd.R_drewN | apply Kd.R_drew)); exact HO_9.out))
                              (case aS => exact (below_size (by repeat (first | (with_reducible first | exact HB.out | apply below_alloc | apply pw_below_drewN | apply below_drew1) | exact HB.out))))
                              (case aL => have := LMc39.out; omega)
                              intro v177 w47 ho hb hg hat
                              rw [← Ny176.out] at ho
                              have n0_ := Aside0.mk (Kd.R_after (ok := (fun _ => True)) (by (with_reducible repeat (first | apply Kd.R_alloc | apply Kd.R_drewN | apply Kd.R_drew)); exact Kd.R_mono HO172.out (fun _ hk => ⟨trivial, hk⟩)) hg hat)
                              have n1_ := Aside0.mk (hb)
                              have n2_ := Aside0.mk (ho)
                              clear HO172
                              clear HB
                              clear HO_9
                              have HO172 := n0_
                              have HB := n1_
                              have HO178 := n2_
                              clear n0_ n1_ n2_
                              clear ho hb hg hat
                              refine hK.out _ _ (((HB.out.cell (World.block_lt_of_cell? w _ hw173_0)).trans hw173_0)) (fun hHeld => ?_)
                              clear hK K
                              refine norm_ (a' := ?_) ?_ ?_
                              rotate_left
                              · show Act.put _ (some 59) _ = _
                                simp only [Act.put, List.setIfInBounds_toArray, List.set_cons_zero, List.set_cons_succ, i64_w, i32_w]
                                rfl
                              refine pure_ (i := 16) (N := some 9) (v := ?_) (a' := ?_) #[true, true, true, true, true, true, true, true, true, true, true, true, true, true, true, true, true] rfl rfl (any_of HT_.out (by kernel_rfl)) (fun _ _ _ h => h) (Or.inl ⟨by rfl, ?_⟩) ?_ ?_
                              rotate_left
                              · intro w'
                                go_simp
                                with_reducible rfl
                              rotate_left
                              · simp only [Act.put, List.setIfInBounds_toArray, List.set_cons_zero, List.set_cons_succ, i64_w, i32_w]
                                rfl
                              refine done_ (done_of HT_.out (by kernel_rfl)) ?_
                              try go_wp2
                              go_roundg kj7
                              case measure => have := HK1.out; have := HJ4.out; have := HJ7.out; omega
                              case rel => exact ⟨(y176), (wrap64 (x10_1 + 1)), (by first | rfl | (simp; done) | (simp [*]; done)), H', ⟨by have := HK1.out; have := HJ4.out; have := HJ7.out; omega⟩, ⟨by (with_reducible repeat (first | apply Kd.R_alloc | apply Kd.R_drewN | apply Kd.R_drew)); exact Kd.R_mono HO178.out (fun _ hk => trivial)⟩, ⟨by repeat (first | (with_reducible first | exact HB.out | apply below_alloc | apply pw_below_drewN | apply below_drew1) | exact HB.out)⟩⟩
                            · rw [if_neg c39] at H
                              exact absurd H (by simp)
                          · rw [if_neg c38] at H
                            exact absurd H (by simp)
                        · rw [if_neg c37] at H
                          exact absurd H (by simp)
                      · rw [if_neg c35] at H
                        exact absurd H (by simp)
                    · rw [if_neg c34] at H
                      exact absurd H (by simp)
                  · rw [if_neg c33] at H
                    exact absurd H (by simp)
          · replace c7 := Bool.eq_false_iff.mpr c7
            subst c7
            have H1 : ((some (([(⟨#[86]⟩ : ByteArray), (⟨#[73]⟩ : ByteArray), (⟨#[76, 65, 59]⟩ : ByteArray)] : List ByteArray) : List ByteArray)).bind fun y179 => ((carafebook_Within.f a2 0 2).bind fun t182 => (if 0 ≤ t182 then (if t182 < (y179.length : Int) then ((descr_Join.f x9_1 (rdOf ByteArray.empty y179 t182)).bind fun t184 => ((descr_Method.f kj4 t184).bind fun bt185 => (if bt185.2.2 = true then ((carafebook_Same_string.f kj4 x9_1 bt185.1).bind fun t190 => (if t190 = true then (carafelaw2_DescrBack.j3 kj4 a3 (bt185.2.1.toList != (rdOf ByteArray.empty y179 t182).toList)) else (carafelaw2_DescrBack.j3 kj4 a3 true))) else (carafelaw2_DescrBack.j3 kj4 a3 true)))) else (none)) else (none)))) = some r := by rw [if_neg (show ¬ (false = true) by decide)] at H; exact H
            clear H
            have H := H1
            clear H1
            obtain ⟨y179, hy179⟩ : ∃ y_ : List ByteArray, y_ = (([(⟨#[86]⟩ : ByteArray), (⟨#[73]⟩ : ByteArray), (⟨#[76, 65, 59]⟩ : ByteArray)] : List ByteArray)) := ⟨_, rfl⟩
            replace H : ((carafebook_Within.f a2 0 2).bind fun t182 => (if 0 ≤ t182 then (if t182 < (y179.length : Int) then ((descr_Join.f x9_1 (rdOf ByteArray.empty y179 t182)).bind fun t184 => ((descr_Method.f kj4 t184).bind fun bt185 => (if bt185.2.2 = true then ((carafebook_Same_string.f kj4 x9_1 bt185.1).bind fun t190 => (if t190 = true then (carafelaw2_DescrBack.j3 kj4 a3 (bt185.2.1.toList != (rdOf ByteArray.empty y179 t182).toList)) else (carafelaw2_DescrBack.j3 kj4 a3 true))) else (carafelaw2_DescrBack.j3 kj4 a3 true)))) else (none)) else (none))) = some r := by first | (rw [hy179]; with_reducible exact H) | (have H2_ := (Option.bind_some _ _).symm.trans H; rw [hy179]; with_reducible exact H2_) | (have H2_ := (Option.bind_some _ _).symm.trans H; with_reducible exact H2_) | with_reducible exact H | (rw [hy179]; exact H) | exact H
            have Ny179 := Aside0.mk hy179
            clear hy179
            replace H := Option.bind_eq_some_iff.mp H
            obtain ⟨t182, A480, H⟩ := H
            replace H : (if 0 ≤ t182 then (if t182 < (y179.length : Int) then ((descr_Join.f x9_1 (rdOf ByteArray.empty y179 t182)).bind fun t184 => ((descr_Method.f kj4 t184).bind fun bt185 => (if bt185.2.2 = true then ((carafebook_Same_string.f kj4 x9_1 bt185.1).bind fun t190 => (if t190 = true then (carafelaw2_DescrBack.j3 kj4 a3 (bt185.2.1.toList != (rdOf ByteArray.empty y179 t182).toList)) else (carafelaw2_DescrBack.j3 kj4 a3 true))) else (carafelaw2_DescrBack.j3 kj4 a3 true)))) else (none)) else (none)) = some r := H
            have A48 := Aside0.mk A480
            clear A480
            by_cases c49 : 0 ≤ t182
            · rw [if_pos c49] at H
              have c49b0 : decide (0 ≤ t182) = true := decide_eq_true c49
              clear c49
              by_cases c50 : t182 < (y179.length : Int)
              · rw [if_pos c50] at H
                have c50b0 : decide (t182 < (y179.length : Int)) = true := decide_eq_true c50
                clear c50
                replace H := Option.bind_eq_some_iff.mp H
                obtain ⟨t184, A510, H⟩ := H
                replace H : ((descr_Method.f kj4 t184).bind fun bt185 => (if bt185.2.2 = true then ((carafebook_Same_string.f kj4 x9_1 bt185.1).bind fun t190 => (if t190 = true then (carafelaw2_DescrBack.j3 kj4 a3 (bt185.2.1.toList != (rdOf ByteArray.empty y179 t182).toList)) else (carafelaw2_DescrBack.j3 kj4 a3 true))) else (carafelaw2_DescrBack.j3 kj4 a3 true))) = some r := H
                have A51 := Aside0.mk A510
                clear A510
                replace H := Option.bind_eq_some_iff.mp H
                obtain ⟨⟨t185, t186, t187⟩, A520, H⟩ := H
                replace H : (if t187 = true then ((carafebook_Same_string.f kj4 x9_1 t185).bind fun t190 => (if t190 = true then (carafelaw2_DescrBack.j3 kj4 a3 (t186.toList != (rdOf ByteArray.empty y179 t182).toList)) else (carafelaw2_DescrBack.j3 kj4 a3 true))) else (carafelaw2_DescrBack.j3 kj4 a3 true)) = some r := H
                have A52 := Aside0.mk A520
                clear A520
                have HC53 := Aside0.mk H
                clear H
                go_upto_region 11 with (first | ((with_reducible refine gate_dst (N := 60) rfl ?_); refine Kd.R_lit Kd.string _ 9 ?hg (N := 60) ?hd (xs := ([(⟨#[86]⟩ : ByteArray), (⟨#[73]⟩ : ByteArray), (⟨#[76, 65, 59]⟩ : ByteArray)] : List ByteArray)) (inner := [.string (⟨#[86]⟩ : ByteArray), .string (⟨#[73]⟩ : ByteArray), .string (⟨#[76, 65, 59]⟩ : ByteArray)]) (ok := fun _ => True) (okp := fun _ => True) ?hr ?hp (fun _ hk => hk) trivial (Below.refl _ _) (Nat.le_refl _) (by simp) ?_; (case hd => rfl); (case hg => rfl); (case hr => first | (go_simp; done) | (go_simp; rfl)); (case hp => exact (Reps.one (show Kd.M Kd.string _ _ _ (⟨#[86]⟩ : ByteArray) [.string (⟨#[86]⟩ : ByteArray)] from rfl) (Reps.one (show Kd.M Kd.string _ _ _ (⟨#[73]⟩ : ByteArray) [.string (⟨#[73]⟩ : ByteArray)] from rfl) (Reps.one (show Kd.M Kd.string _ _ _ (⟨#[76, 65, 59]⟩ : ByteArray) [.string (⟨#[76, 65, 59]⟩ : ByteArray)] from rfl) (Reps.none _ _))))); intro v180 w54 ho55 hb hg_ hnew_; clear hg_ hnew_; (first | rw [← Ny179.out] at ho55 | (simp only [Int.reduceToNat] at ho55; rw [← Ny179.out] at ho55)); have n0_ := Aside0.mk (Kd.R_elder' (by (with_reducible repeat (first | apply Kd.R_alloc | apply Kd.R_drewN | apply Kd.R_drew)); exact HO_9.out) (Kd.R_base ho55) hb); have n1_ := Aside0.mk (Kd.R_lower (Kd.R_new' ho55 (Kd.R_lt (by (with_reducible repeat (first | apply Kd.R_alloc | apply Kd.R_drewN | apply Kd.R_drew)); exact HO_9.out))) (below_size (by repeat (first | (with_reducible first | exact HB.out | apply below_alloc | apply pw_below_drewN | apply below_drew1) | exact HB.out)))); have n2_ := Aside0.mk (below_step (by repeat (first | (with_reducible first | exact HB.out | apply below_alloc | apply pw_below_drewN | apply below_drew1) | exact HB.out)) hb); clear HO_9; clear HB; have HO_9 := n0_; have HO181 := n1_; have HB := n2_; clear n0_ n1_ n2_; clear hb ho55) | ((with_reducible refine gate_callee (f := 13) rfl ?_); refine goesL_ (some 62) rfl rfl Try.func13 (by kernel_rfl) rfl #[.int .i64 a2, .int .i64 0, .int .i64 2] rfl (by (try simp only [List.map_toArray, List.map_cons, List.map_nil]); first | done | rfl | (simp only [List.length_drop, List.length_take]; rfl)) ?_; (with_reducible refine (carafebook_Within.calls a2 0 2 t182 _ A48.out).mono ?_); rintro e w' ⟨rfl, ⟨nd, rfl⟩⟩; refine ⟨_, rfl, ?_⟩; obtain ⟨Ao56, co56, eo56⟩ := Kd.R_slice HO181.out; subst eo56; have p183 : 0 ≤ (t182 : Int) := of_decide_eq_true (by first | (with_reducible assumption) | assumption); have q183 : t182 < (y179.length : Int) := of_decide_eq_true (by first | (with_reducible assumption) | assumption); obtain ⟨ad183, e183, hx183_0⟩ := Kd.at_string (Kd.R_reads' HO181.out).2.2 t182 p183 q183; cases e183; replace p183 := eq_true p183; replace q183 := eq_true q183; obtain ⟨Ao57, co57, eo57⟩ := Kd.R_slice HO_9.out; subst eo57) | ((with_reducible refine gate_callee (f := 26) rfl ?_); refine goesL_ (some 68) rfl rfl Try.func26 (by kernel_rfl) rfl #[.slice Ao57 x9_1.length co57, .string (rdOf ByteArray.empty y179 t182)] rfl (by (try simp only [List.map_toArray, List.map_cons, List.map_nil]); first | done | rfl | (simp only [List.length_drop, List.length_take]; rfl)) ?_; (with_reducible refine (descr_Join.calls _ _ x9_1 (rdOf ByteArray.empty y179 t182) t184 _ ?side1 ?side2 A51.out).mono ?_); (case side1 => repeat (first | exact (Kd.R_reads' HO_9.out).2.2 | (with_reducible refine Kd.C_alloc ?_ _) | (with_reducible refine Kd.C_drewN ?_ _) | (with_reducible refine Kd.C_drew ?_))); (case side2 => exact (Kd.R_reads' HO_9.out).2.1); rintro e w58 ⟨rfl, hb⟩; refine ⟨_, rfl, ?_⟩; have n0_ := Aside0.mk (Kd.R_below (by (with_reducible repeat (first | apply Kd.R_alloc | apply Kd.R_drewN | apply Kd.R_drew)); exact HO_9.out) hb); have n1_ := Aside0.mk (Kd.R_below (by (with_reducible repeat (first | apply Kd.R_alloc | apply Kd.R_drewN | apply Kd.R_drew)); exact HO181.out) hb); have n2_ := Aside0.mk (below_step (by repeat (first | (with_reducible first | exact HB.out | apply below_alloc | apply pw_below_drewN | apply below_drew1) | exact HB.out)) hb); clear HO_9; clear HO181; clear HB; have HO_9 := n0_; have HO181 := n1_; have HB := n2_; clear n0_ n1_ n2_; (try clear hb); (try clear hb2); (try clear hk); (try clear hi)) | ((with_reducible refine gate_callee (f := 8) rfl ?_); refine goesL_ (some 69) rfl rfl Try.func8 (by kernel_rfl) rfl #[.string t184] rfl (by (try simp only [List.map_toArray, List.map_cons, List.map_nil]); first | done | rfl | (simp only [List.length_drop, List.length_take]; rfl)) ?_; (with_reducible refine (descr_Method.calls kj4 t184 t185 t186 t187 _ A52.out).mono ?_); rintro e w59 ⟨v188, rfl, ho0, hb⟩; refine ⟨_, rfl, ?_⟩; have n0_ := Aside0.mk (Kd.R_elder' (by (with_reducible repeat (first | apply Kd.R_alloc | apply Kd.R_drewN | apply Kd.R_drew)); exact HO_9.out) (Kd.R_base ho0) hb); have n1_ := Aside0.mk (Kd.R_elder' (by (with_reducible repeat (first | apply Kd.R_alloc | apply Kd.R_drewN | apply Kd.R_drew)); exact HO181.out) (Kd.R_base ho0) hb); have n2_ := Aside0.mk (Kd.R_lower (Kd.R_new' (Kd.R_new' ho0 (Kd.R_lt (by (with_reducible repeat (first | apply Kd.R_alloc | apply Kd.R_drewN | apply Kd.R_drew)); exact HO_9.out))) (Kd.R_lt (by (with_reducible repeat (first | apply Kd.R_alloc | apply Kd.R_drewN | apply Kd.R_drew)); exact HO181.out))) (below_size (by repeat (first | (with_reducible first | exact HB.out | apply below_alloc | apply pw_below_drewN | apply below_drew1) | exact HB.out)))); have n3_ := Aside0.mk (below_step (by repeat (first | (with_reducible first | exact HB.out | apply below_alloc | apply pw_below_drewN | apply below_drew1) | exact HB.out)) hb); clear HO_9; clear HO181; clear HB; have HO_9 := n0_; have HO181 := n1_; have HO189 := n2_; have HB := n3_; clear n0_ n1_ n2_ n3_; (try clear hb); (try clear hb2); (try clear hk); (try clear hi); (try clear ho0)))
                try any_goals first | 
                (try simp only [Act.put, List.setIfInBounds_toArray, List.set_cons_zero, List.set_cons_succ])
                go_cut [85] (fun v85 wc => ∃ (kq : Nat) (x85_52 : Bool), v85 = .bool x85_52 ∧ Aside0 (carafelaw2_DescrBack.j3 kq a3 x85_52 = some r) ∧ Aside0 (kq ≤ kj4) ∧ Aside0 (Below w.heap.size w wc))
                case first =>
                  have H := HC53.out
                  clear HC53
                  by_cases c60 : t187 = true
                  · subst c60
                    have H1 : ((carafebook_Same_string.f kj4 x9_1 t185).bind fun t190 => (if t190 = true then (carafelaw2_DescrBack.j3 kj4 a3 (t186.toList != (rdOf ByteArray.empty y179 t182).toList)) else (carafelaw2_DescrBack.j3 kj4 a3 true))) = some r := by rw [if_pos rfl] at H; exact H
                    clear H
                    have H := H1
                    clear H1
                    replace H := Option.bind_eq_some_iff.mp H
                    obtain ⟨t190, A610, H⟩ := H
                    replace H : (if t190 = true then (carafelaw2_DescrBack.j3 kj4 a3 (t186.toList != (rdOf ByteArray.empty y179 t182).toList)) else (carafelaw2_DescrBack.j3 kj4 a3 true)) = some r := H
                    have A61 := Aside0.mk A610
                    clear A610
                    by_cases c62 : t190 = true
                    · subst c62
                      have H1 : (carafelaw2_DescrBack.j3 kj4 a3 (t186.toList != (rdOf ByteArray.empty y179 t182).toList)) = some r := by rw [if_pos rfl] at H; exact H
                      clear H
                      have H := H1
                      clear H1
                      have H' := Aside0.mk H
                      clear H
                      obtain ⟨Ao63, co63, eo63⟩ := Kd.R_slice HO189.out
                      subst eo63
                      go_wp2_with (first | (go_at_call 21; (with_reducible refine (carafebook_Same_string.calls kj4 _ _ x9_1 _ _ t185 true _ ?side1 ?side2 ?side3 ?side4 A61.out).mono ?_); (case side1 => repeat (first | exact (Kd.R_reads' HO_9.out).2.2 | (with_reducible refine Kd.C_alloc ?_ _) | (with_reducible refine Kd.C_drewN ?_ _) | (with_reducible refine Kd.C_drew ?_))); (case side2 => exact (Kd.R_reads' HO_9.out).2.1); (case side3 => repeat (first | exact (Kd.R_reads' HO189.out).2.2 | (with_reducible refine Kd.C_alloc ?_ _) | (with_reducible refine Kd.C_drewN ?_ _) | (with_reducible refine Kd.C_drew ?_))); (case side4 => exact (Kd.R_reads' HO189.out).2.1); rintro e w' ⟨rfl, ⟨nd, rfl⟩⟩))
                      try any_goals first | 
                      go_meet
                      case rel => exact ⟨_, ((t186.toList != (rdOf ByteArray.empty y179 t182).toList)), (by first | rfl | (simp; done) | (simp [*]; done)), H', ⟨by have := HK1.out; have := HJ4.out; first | omega | exact Nat.le_refl _⟩, ⟨by repeat (first | (with_reducible first | exact HB.out | apply below_alloc | apply pw_below_drewN | apply below_drew1) | exact HB.out)⟩⟩
                    · replace c62 := Bool.eq_false_iff.mpr c62
                      subst c62
                      have H1 : (carafelaw2_DescrBack.j3 kj4 a3 true) = some r := by rw [if_neg (show ¬ (false = true) by decide)] at H; exact H
                      clear H
                      have H := H1
                      clear H1
                      have H' := Aside0.mk H
                      clear H
                      obtain ⟨Ao64, co64, eo64⟩ := Kd.R_slice HO189.out
                      subst eo64
                      go_wp2_with (first | (go_at_call 21; (with_reducible refine (carafebook_Same_string.calls kj4 _ _ x9_1 _ _ t185 false _ ?side1 ?side2 ?side3 ?side4 A61.out).mono ?_); (case side1 => repeat (first | exact (Kd.R_reads' HO_9.out).2.2 | (with_reducible refine Kd.C_alloc ?_ _) | (with_reducible refine Kd.C_drewN ?_ _) | (with_reducible refine Kd.C_drew ?_))); (case side2 => exact (Kd.R_reads' HO_9.out).2.1); (case side3 => repeat (first | exact (Kd.R_reads' HO189.out).2.2 | (with_reducible refine Kd.C_alloc ?_ _) | (with_reducible refine Kd.C_drewN ?_ _) | (with_reducible refine Kd.C_drew ?_))); (case side4 => exact (Kd.R_reads' HO189.out).2.1); rintro e w' ⟨rfl, ⟨nd, rfl⟩⟩))
                      try any_goals first | 
                      go_meet
                      case rel => exact ⟨_, (true), (by first | rfl | (simp; done) | (simp [*]; done)), H', ⟨by have := HK1.out; have := HJ4.out; first | omega | exact Nat.le_refl _⟩, ⟨by repeat (first | (with_reducible first | exact HB.out | apply below_alloc | apply pw_below_drewN | apply below_drew1) | exact HB.out)⟩⟩
                  · replace c60 := Bool.eq_false_iff.mpr c60
                    subst c60
                    have H1 : (carafelaw2_DescrBack.j3 kj4 a3 true) = some r := by rw [if_neg (show ¬ (false = true) by decide)] at H; exact H
                    clear H
                    have H := H1
                    clear H1
                    have H' := Aside0.mk H
                    clear H
                    go_wp2
                    try any_goals first | 
                    go_meet
                    case rel => exact ⟨_, (true), (by first | rfl | (simp; done) | (simp [*]; done)), H', ⟨by have := HK1.out; have := HJ4.out; first | omega | exact Nat.le_refl _⟩, ⟨by repeat (first | (with_reducible first | exact HB.out | apply below_alloc | apply pw_below_drewN | apply below_drew1) | exact HB.out)⟩⟩
                case rest =>
                  clear HC53
                  try clear c1
                  try clear p1
                  try clear q1
                  try clear hx1
                  try clear qi1
                  try clear c2
                  try clear p2
                  try clear c3
                  try clear c4
                  try clear c5
                  try clear c6
                  try clear p6
                  try clear c7
                  try clear c8
                  try clear c12
                  try clear c13
                  try clear c14
                  try clear p16
                  try clear q16
                  try clear hx16
                  try clear c17
                  try clear p17
                  try clear q17
                  try clear hx17
                  try clear qi17
                  try clear c18
                  try clear p18
                  try clear q18
                  try clear hx18
                  try clear c20
                  try clear c21
                  try clear c22
                  try clear c24
                  try clear c26
                  try clear c33
                  try clear c33b0
                  try clear c33b1
                  try clear c33b2
                  try clear c34
                  try clear c34b0
                  try clear c35
                  try clear c35b0
                  try clear c37
                  try clear c37b0
                  try clear c38
                  try clear c38b0
                  try clear c39
                  try clear c49
                  try clear c49b0
                  try clear c50
                  try clear c50b0
                  try clear c60
                  try clear c62
                  try clear p64
                  try clear hx164_0
                  try clear hx173_0
                  try clear hx175_0
                  try clear hx183_0
                  try clear p164
                  try clear p173
                  try clear p175
                  try clear p183
                  try clear q164
                  try clear q173
                  try clear q175
                  try clear q183
                  obtain ⟨kq, x85_52, rfl, HA, HJ52, HB⟩ := hcut
                  cases kq with
                  | zero => exact absurd HA.out (by simp [carafelaw2_DescrBack.j3])
                  | succ kj52 =>
                    have H := HA.out
                    clear HA
                    simp only [carafelaw2_DescrBack.j3] at H
                    by_cases c65 : x85_52 = true
                    · subst c65
                      have H1 : (some false) = some r := by rw [if_pos rfl] at H; exact H
                      clear H
                      have H := H1
                      clear H1
                      obtain rfl := Option.some.inj H
                      go_wp2
                      try any_goals first | 
                      go_ret
                      exact ⟨by first | rfl | (simp [errW_none, errW_some] <;> rfl) | (simp [*, errW_none, errW_some] <;> rfl), by repeat (first | (with_reducible first | exact HB.out | apply below_alloc | apply pw_below_drewN | apply below_drew1) | exact HB.out)⟩
                    · replace c65 := Bool.eq_false_iff.mpr c65
                      subst c65
                      have H1 : ((descr_Method.f kj52 a3).bind fun bt191 => (if bt191.2.2 = true then ((descr_Join.f bt191.1 bt191.2.1).bind fun t196 => (if t196.toList = a3.toList then ((carafelaw2_known.f kj52).bind fun t197 => (some t197)) else (some false))) else ((carafelaw2_known.f kj52).bind fun t198 => (some t198)))) = some r := by rw [if_neg (show ¬ (false = true) by decide)] at H; exact H
                      clear H
                      have H := H1
                      clear H1
                      replace H := Option.bind_eq_some_iff.mp H
                      obtain ⟨⟨t191, t192, t193⟩, A660, H⟩ := H
                      replace H : (if t193 = true then ((descr_Join.f t191 t192).bind fun t196 => (if t196.toList = a3.toList then ((carafelaw2_known.f kj52).bind fun t197 => (some t197)) else (some false))) else ((carafelaw2_known.f kj52).bind fun t198 => (some t198))) = some r := H
                      have A66 := Aside0.mk A660
                      clear A660
                      by_cases c67 : t193 = true
                      · subst c67
                        have H1 : ((descr_Join.f t191 t192).bind fun t196 => (if t196.toList = a3.toList then ((carafelaw2_known.f kj52).bind fun t197 => (some t197)) else (some false))) = some r := by rw [if_pos rfl] at H; exact H
                        clear H
                        have H := H1
                        clear H1
                        replace H := Option.bind_eq_some_iff.mp H
                        obtain ⟨t196, A680, H⟩ := H
                        replace H : (if t196.toList = a3.toList then ((carafelaw2_known.f kj52).bind fun t197 => (some t197)) else (some false)) = some r := H
                        have A68 := Aside0.mk A680
                        clear A680
                        by_cases c69 : t196.toList = a3.toList
                        · rw [if_pos c69] at H
                          have c69b0 : (t196.toList == a3.toList) = true := beq_iff_eq.mpr c69
                          have c69b1 : (t196.toList != a3.toList) = false := bne_eq_false_iff_eq.mpr c69
                          clear c69
                          replace H := Option.bind_eq_some_iff.mp H
                          obtain ⟨t197, A700, H⟩ := H
                          replace H : (some t197) = some r := H
                          have A70 := Aside0.mk A700
                          clear A700
                          obtain rfl := Option.some.inj H
                          go_wp2_with (first | ((with_reducible refine gate_callee (f := 8) rfl ?_); refine goesL_ (some 88) rfl rfl Try.func8 (by kernel_rfl) rfl #[.string a3] rfl (by (try simp only [List.map_toArray, List.map_cons, List.map_nil]); first | done | rfl | (simp only [List.length_drop, List.length_take]; rfl)) ?_; (with_reducible refine (descr_Method.calls kj52 a3 t191 t192 true _ A66.out).mono ?_); rintro e w71 ⟨v194, rfl, ho0, hb⟩; refine ⟨_, rfl, ?_⟩; have n0_ := Aside0.mk (Kd.R_lower ho0 (below_size (by repeat (first | (with_reducible first | exact HB.out | apply below_alloc | apply pw_below_drewN | apply below_drew1) | exact HB.out)))); have n1_ := Aside0.mk (below_step (by repeat (first | (with_reducible first | exact HB.out | apply below_alloc | apply pw_below_drewN | apply below_drew1) | exact HB.out)) hb); clear HB; have HO195 := n0_; have HB := n1_; clear n0_ n1_; (try clear hb); (try clear hb2); (try clear hk); (try clear hi); (try clear ho0); obtain ⟨Ao72, co72, eo72⟩ := Kd.R_slice HO195.out; subst eo72) | (go_at_call 26; (with_reducible refine (descr_Join.calls _ _ t191 t192 t196 _ ?side1 ?side2 A68.out).mono ?_); (case side1 => repeat (first | exact (Kd.R_reads' HO195.out).2.2 | (with_reducible refine Kd.C_alloc ?_ _) | (with_reducible refine Kd.C_drewN ?_ _) | (with_reducible refine Kd.C_drew ?_))); (case side2 => exact (Kd.R_reads' HO195.out).2.1); rintro e w73 ⟨rfl, hb⟩; have n0_ := Aside0.mk (Kd.R_below (by (with_reducible repeat (first | apply Kd.R_alloc | apply Kd.R_drewN | apply Kd.R_drew)); exact HO195.out) hb); have n1_ := Aside0.mk (below_step (by repeat (first | (with_reducible first | exact HB.out | apply below_alloc | apply pw_below_drewN | apply below_drew1) | exact HB.out)) hb); clear HO195; clear HB; have HO195 := n0_; have HB := n1_; clear n0_ n1_; (try clear hb); (try clear hb2); (try clear hk); (try clear hi)) | (go_at_call 12; (with_reducible refine (carafelaw2_known.calls kj52  t197 _ A70.out).mono ?_); rintro e w74 ⟨rfl, hb⟩; have n0_ := Aside0.mk (Kd.R_below (by (with_reducible repeat (first | apply Kd.R_alloc | apply Kd.R_drewN | apply Kd.R_drew)); exact HO195.out) hb); have n1_ := Aside0.mk (below_step (by repeat (first | (with_reducible first | exact HB.out | apply below_alloc | apply pw_below_drewN | apply below_drew1) | exact HB.out)) hb); clear HO195; clear HB; have HO195 := n0_; have HB := n1_; clear n0_ n1_; (try clear hb); (try clear hb2); (try clear hk); (try clear hi)))
                          try any_goals first | 
                          go_ret
                          exact ⟨by first | rfl | (simp [errW_none, errW_some] <;> rfl) | (simp [*, errW_none, errW_some] <;> rfl), by repeat (first | (with_reducible first | exact HB.out | apply below_alloc | apply pw_below_drewN | apply below_drew1) | exact HB.out)⟩
                        · rw [if_neg c69] at H
                          have c69b0 : (t196.toList == a3.toList) = false := beq_eq_false_iff_ne.mpr c69
                          have c69b1 : (t196.toList != a3.toList) = true := bne_iff_ne.mpr c69
                          obtain rfl := Option.some.inj H
                          go_wp2_with (first | ((with_reducible refine gate_callee (f := 8) rfl ?_); refine goesL_ (some 88) rfl rfl Try.func8 (by kernel_rfl) rfl #[.string a3] rfl (by (try simp only [List.map_toArray, List.map_cons, List.map_nil]); first | done | rfl | (simp only [List.length_drop, List.length_take]; rfl)) ?_; (with_reducible refine (descr_Method.calls kj52 a3 t191 t192 true _ A66.out).mono ?_); rintro e w75 ⟨v194, rfl, ho0, hb⟩; refine ⟨_, rfl, ?_⟩; have n0_ := Aside0.mk (Kd.R_lower ho0 (below_size (by repeat (first | (with_reducible first | exact HB.out | apply below_alloc | apply pw_below_drewN | apply below_drew1) | exact HB.out)))); have n1_ := Aside0.mk (below_step (by repeat (first | (with_reducible first | exact HB.out | apply below_alloc | apply pw_below_drewN | apply below_drew1) | exact HB.out)) hb); clear HB; have HO195 := n0_; have HB := n1_; clear n0_ n1_; (try clear hb); (try clear hb2); (try clear hk); (try clear hi); (try clear ho0); obtain ⟨Ao76, co76, eo76⟩ := Kd.R_slice HO195.out; subst eo76) | (go_at_call 26; (with_reducible refine (descr_Join.calls _ _ t191 t192 t196 _ ?side1 ?side2 A68.out).mono ?_); (case side1 => repeat (first | exact (Kd.R_reads' HO195.out).2.2 | (with_reducible refine Kd.C_alloc ?_ _) | (with_reducible refine Kd.C_drewN ?_ _) | (with_reducible refine Kd.C_drew ?_))); (case side2 => exact (Kd.R_reads' HO195.out).2.1); rintro e w77 ⟨rfl, hb⟩; have n0_ := Aside0.mk (Kd.R_below (by (with_reducible repeat (first | apply Kd.R_alloc | apply Kd.R_drewN | apply Kd.R_drew)); exact HO195.out) hb); have n1_ := Aside0.mk (below_step (by repeat (first | (with_reducible first | exact HB.out | apply below_alloc | apply pw_below_drewN | apply below_drew1) | exact HB.out)) hb); clear HO195; clear HB; have HO195 := n0_; have HB := n1_; clear n0_ n1_; (try clear hb); (try clear hb2); (try clear hk); (try clear hi)))
                          try any_goals first | 
                          go_ret
                          exact ⟨by first | rfl | (simp [errW_none, errW_some] <;> rfl) | (simp [*, errW_none, errW_some] <;> rfl), by repeat (first | (with_reducible first | exact HB.out | apply below_alloc | apply pw_below_drewN | apply below_drew1) | exact HB.out)⟩
                      · replace c67 := Bool.eq_false_iff.mpr c67
                        subst c67
                        have H1 : ((carafelaw2_known.f kj52).bind fun t198 => (some t198)) = some r := by rw [if_neg (show ¬ (false = true) by decide)] at H; exact H
                        clear H
                        have H := H1
                        clear H1
                        replace H := Option.bind_eq_some_iff.mp H
                        obtain ⟨t198, A780, H⟩ := H
                        replace H : (some t198) = some r := H
                        have A78 := Aside0.mk A780
                        clear A780
                        obtain rfl := Option.some.inj H
                        go_wp2_with (first | ((with_reducible refine gate_callee (f := 8) rfl ?_); refine goesL_ (some 88) rfl rfl Try.func8 (by kernel_rfl) rfl #[.string a3] rfl (by (try simp only [List.map_toArray, List.map_cons, List.map_nil]); first | done | rfl | (simp only [List.length_drop, List.length_take]; rfl)) ?_; (with_reducible refine (descr_Method.calls kj52 a3 t191 t192 false _ A66.out).mono ?_); rintro e w79 ⟨v194, rfl, ho0, hb⟩; refine ⟨_, rfl, ?_⟩; have n0_ := Aside0.mk (Kd.R_lower ho0 (below_size (by repeat (first | (with_reducible first | exact HB.out | apply below_alloc | apply pw_below_drewN | apply below_drew1) | exact HB.out)))); have n1_ := Aside0.mk (below_step (by repeat (first | (with_reducible first | exact HB.out | apply below_alloc | apply pw_below_drewN | apply below_drew1) | exact HB.out)) hb); clear HB; have HO195 := n0_; have HB := n1_; clear n0_ n1_; (try clear hb); (try clear hb2); (try clear hk); (try clear hi); (try clear ho0)) | (go_at_call 12; (with_reducible refine (carafelaw2_known.calls kj52  t198 _ A78.out).mono ?_); rintro e w80 ⟨rfl, hb⟩; have n0_ := Aside0.mk (Kd.R_below (by (with_reducible repeat (first | apply Kd.R_alloc | apply Kd.R_drewN | apply Kd.R_drew)); exact HO195.out) hb); have n1_ := Aside0.mk (below_step (by repeat (first | (with_reducible first | exact HB.out | apply below_alloc | apply pw_below_drewN | apply below_drew1) | exact HB.out)) hb); clear HO195; clear HB; have HO195 := n0_; have HB := n1_; clear n0_ n1_; (try clear hb); (try clear hb2); (try clear hk); (try clear hi)))
                        try any_goals first | 
                        go_ret
                        exact ⟨by first | rfl | (simp [errW_none, errW_some] <;> rfl) | (simp [*, errW_none, errW_some] <;> rfl), by repeat (first | (with_reducible first | exact HB.out | apply below_alloc | apply pw_below_drewN | apply below_drew1) | exact HB.out)⟩
              · rw [if_neg c50] at H
                exact absurd H (by simp)
            · rw [if_neg c49] at H
              exact absurd H (by simp)

end Go.Proofs.Ytdhfjkikoiifcaa.PDescrBack
