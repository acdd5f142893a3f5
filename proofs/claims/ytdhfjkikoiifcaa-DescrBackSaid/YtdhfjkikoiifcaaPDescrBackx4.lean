-- Printed by a changed copy of the printer (wip/printpatch.py). Not trusted: Lean checks it.
import Derived.Test.YtdhfjkikoiifcaaPDescrBackx0
namespace Go.Proofs.Ytdhfjkikoiifcaa.PDescrBack
open Go.RowKit Go.Proofs.YtdhfjkikoiifcaaW.PrintWords Go.Proofs.YtdhfjkikoiifcaaW.PrintLast Go.Proofs.YtdhfjkikoiifcaaW.PrintMore
attribute [local go_sem] max2_int min2_int max_two min_two max_three min_three max_four min_four   -- for this text's walks alone
set_option linter.unusedVariables false
set_option linter.unusedSimpArgs false

/-! ### caraferef2_Name: function 14 -/
def caraferef2_Name.l0 : Nat → ByteArray → Int → Option (Bool)
  | 0, _, _ => none
  | k + 1, x0, x3 => if x3 < (x0.size : Int) then (if 0 ≤ x3 then (if (bt x0 x3) ≥ 48 then (if (bt x0 x3) ≥ 97 then (if (bt x0 x3) ≤ 122 then (caraferef2_Name.l0 k x0 (wrap64 (x3 + 1))) else (if (bt x0 x3) ≥ 65 then (if (bt x0 x3) ≤ 90 then (caraferef2_Name.l0 k x0 (wrap64 (x3 + 1))) else (if (bt x0 x3) = 95 then (caraferef2_Name.l0 k x0 (wrap64 (x3 + 1))) else (if (bt x0 x3) = 36 then (caraferef2_Name.l0 k x0 (wrap64 (x3 + 1))) else (if (bt x0 x3) ≤ 57 then (if x3 > 0 then (caraferef2_Name.l0 k x0 (wrap64 (x3 + 1))) else (some false)) else (some false))))) else (if (bt x0 x3) = 95 then (caraferef2_Name.l0 k x0 (wrap64 (x3 + 1))) else (if (bt x0 x3) = 36 then (caraferef2_Name.l0 k x0 (wrap64 (x3 + 1))) else (if (bt x0 x3) ≤ 57 then (if x3 > 0 then (caraferef2_Name.l0 k x0 (wrap64 (x3 + 1))) else (some false)) else (some false)))))) else (if (bt x0 x3) ≥ 65 then (if (bt x0 x3) ≤ 90 then (caraferef2_Name.l0 k x0 (wrap64 (x3 + 1))) else (if (bt x0 x3) = 95 then (caraferef2_Name.l0 k x0 (wrap64 (x3 + 1))) else (if (bt x0 x3) = 36 then (caraferef2_Name.l0 k x0 (wrap64 (x3 + 1))) else (if (bt x0 x3) ≤ 57 then (if x3 > 0 then (caraferef2_Name.l0 k x0 (wrap64 (x3 + 1))) else (some false)) else (some false))))) else (if (bt x0 x3) = 95 then (caraferef2_Name.l0 k x0 (wrap64 (x3 + 1))) else (if (bt x0 x3) = 36 then (caraferef2_Name.l0 k x0 (wrap64 (x3 + 1))) else (if (bt x0 x3) ≤ 57 then (if x3 > 0 then (caraferef2_Name.l0 k x0 (wrap64 (x3 + 1))) else (some false)) else (some false)))))) else (if (bt x0 x3) ≥ 97 then (if (bt x0 x3) ≤ 122 then (caraferef2_Name.l0 k x0 (wrap64 (x3 + 1))) else (if (bt x0 x3) ≥ 65 then (if (bt x0 x3) ≤ 90 then (caraferef2_Name.l0 k x0 (wrap64 (x3 + 1))) else (if (bt x0 x3) = 95 then (caraferef2_Name.l0 k x0 (wrap64 (x3 + 1))) else (if (bt x0 x3) = 36 then (caraferef2_Name.l0 k x0 (wrap64 (x3 + 1))) else (some false)))) else (if (bt x0 x3) = 95 then (caraferef2_Name.l0 k x0 (wrap64 (x3 + 1))) else (if (bt x0 x3) = 36 then (caraferef2_Name.l0 k x0 (wrap64 (x3 + 1))) else (some false))))) else (if (bt x0 x3) ≥ 65 then (if (bt x0 x3) ≤ 90 then (caraferef2_Name.l0 k x0 (wrap64 (x3 + 1))) else (if (bt x0 x3) = 95 then (caraferef2_Name.l0 k x0 (wrap64 (x3 + 1))) else (if (bt x0 x3) = 36 then (caraferef2_Name.l0 k x0 (wrap64 (x3 + 1))) else (some false)))) else (if (bt x0 x3) = 95 then (caraferef2_Name.l0 k x0 (wrap64 (x3 + 1))) else (if (bt x0 x3) = 36 then (caraferef2_Name.l0 k x0 (wrap64 (x3 + 1))) else (some false)))))) else (none)) else (if (x0.size : Int) ≥ 1 then (some (decide ((x0.size : Int) ≤ 64))) else (some false))
def caraferef2_Name.f (k : Nat) (a0 : ByteArray) : Option (Bool) := caraferef2_Name.l0 k a0 0
theorem caraferef2_Name.mono_l : ∀ k, (∀ y0 y1, LeO (caraferef2_Name.l0 k y0 y1) (caraferef2_Name.l0 (k + 1) y0 y1))
  | 0 => fun _ _ r h => by simp [caraferef2_Name.l0] at h
  | k + 1 => by
    have ih0 := caraferef2_Name.mono_l k
    · intro y0 y1
      unfold caraferef2_Name.l0
      repeat' first
      | (with_reducible exact ih0 _ _)
      | (with_reducible exact LeO.refl _)
      | (with_reducible exact LeO.none _)
      | (with_reducible refine LeO.ite ?_ ?_)
      | (with_reducible refine LeO.bind ?_ (fun _ => ?_))
      | exact ih0 _ _
      | exact LeO.none _
      | refine LeO.ite ?_ ?_
      | refine LeO.bind ?_ (fun _ => ?_)
theorem caraferef2_Name.mono : ∀ a0 k, LeO (caraferef2_Name.f k a0) (caraferef2_Name.f (k + 1) a0) := by
  intro a0 k
  have ih0 := caraferef2_Name.mono_l k
  unfold caraferef2_Name.f
  repeat' first
      | (with_reducible exact ih0 _ _)
      | (with_reducible exact LeO.refl _)
      | (with_reducible exact LeO.none _)
      | (with_reducible refine LeO.ite ?_ ?_)
      | (with_reducible refine LeO.bind ?_ (fun _ => ?_))
      | exact ih0 _ _
      | exact LeO.none _
      | refine LeO.ite ?_ ?_
      | refine LeO.bind ?_ (fun _ => ?_)
set_option maxHeartbeats 8000000 in
set_option maxRecDepth 100000 in
theorem caraferef2_Name.calls (k : Nat) (a0 : ByteArray) (r : Bool) (w : World) (h : caraferef2_Name.f k a0 = some r) :
    Calls Try.prog 14 #[.string a0] w fun e w' => e = .returned (.bool r) ∧ Drawn0 w w' := by
  have H : (caraferef2_Name.l0 k a0 0) = some r := h
  clear h
  have H' := Aside0.mk H
  clear H
  go_enter Try.func14, Try.ntmps14
  go_wp2
  go_loopg [3] k (fun kq v3 w' => ∃ (x3_1 : Int), v3 = .int .i64 x3_1 ∧ Aside0 (caraferef2_Name.l0 kq a0 x3_1 = some r) ∧ Aside0 (kq ≤ k) ∧ Drawn0 w w')
  case atStart => exact ⟨(0), (by first | rfl | (simp; done) | (simp [*]; done)), H', ⟨Nat.le_refl _⟩, by repeat (first | exact Drawn0.refl _ | apply Drawn0.step)⟩
  case round =>
    clear H'
    try clear c1
    obtain ⟨x3_1, rfl, HA, HK1, ⟨m1, rfl⟩⟩ := hrel
    cases gk with
    | zero => exact absurd HA.out (by simp [caraferef2_Name.l0])
    | succ k1 =>
      have H := HA.out
      clear HA
      simp only [caraferef2_Name.l0] at H
      by_cases c2 : x3_1 < (a0.size : Int)
      · rw [if_pos c2] at H
        have c2b0 : decide (x3_1 < (a0.size : Int)) = true := decide_eq_true c2
        clear c2
        by_cases c3 : 0 ≤ x3_1
        · rw [if_pos c3] at H
          have c3b0 : decide (0 ≤ x3_1) = true := decide_eq_true c3
          clear c3
          by_cases c5 : (bt a0 x3_1) ≥ 48
          · rw [if_pos c5] at H
            have c5b0 : decide (48 ≤ (bt a0 x3_1)) = true := decide_eq_true c5
            clear c5
            by_cases c6 : (bt a0 x3_1) ≥ 97
            · rw [if_pos c6] at H
              have c6b0 : decide (97 ≤ (bt a0 x3_1)) = true := decide_eq_true c6
              clear c6
              by_cases c7 : (bt a0 x3_1) ≤ 122
              · rw [if_pos c7] at H
                have c7b0 : decide ((bt a0 x3_1) ≤ 122) = true := decide_eq_true c7
                clear c7
                have H' := Aside0.mk H
                clear H
                have p4 : 0 ≤ (x3_1 : Int) := of_decide_eq_true (by first | (with_reducible assumption) | assumption)
                have q4 : x3_1 < (a0.size : Int) := of_decide_eq_true (by first | (with_reducible assumption) | assumption)
                have hx4 := bt_at a0 x3_1
                replace p4 := eq_true p4
                replace q4 := eq_true q4
                go_wp2
                go_roundg k1
                case measure => have := HK1.out; omega
                case rel => exact ⟨(wrap64 (x3_1 + 1)), (by first | rfl | (simp; done) | (simp [*]; done)), H', ⟨by have := HK1.out; omega⟩, by repeat (first | exact Drawn0.refl _ | apply Drawn0.step)⟩
              · rw [if_neg c7] at H
                have c7b0 : decide ((bt a0 x3_1) ≤ 122) = false := decide_eq_false c7
                clear c7
                by_cases c8 : (bt a0 x3_1) ≥ 65
                · rw [if_pos c8] at H
                  have c8b0 : decide (65 ≤ (bt a0 x3_1)) = true := decide_eq_true c8
                  clear c8
                  by_cases c9 : (bt a0 x3_1) ≤ 90
                  · rw [if_pos c9] at H
                    have c9b0 : decide ((bt a0 x3_1) ≤ 90) = true := decide_eq_true c9
                    clear c9
                    have H' := Aside0.mk H
                    clear H
                    have p4 : 0 ≤ (x3_1 : Int) := of_decide_eq_true (by first | (with_reducible assumption) | assumption)
                    have q4 : x3_1 < (a0.size : Int) := of_decide_eq_true (by first | (with_reducible assumption) | assumption)
                    have hx4 := bt_at a0 x3_1
                    replace p4 := eq_true p4
                    replace q4 := eq_true q4
                    go_wp2
                    go_roundg k1
                    case measure => have := HK1.out; omega
                    case rel => exact ⟨(wrap64 (x3_1 + 1)), (by first | rfl | (simp; done) | (simp [*]; done)), H', ⟨by have := HK1.out; omega⟩, by repeat (first | exact Drawn0.refl _ | apply Drawn0.step)⟩
                  · rw [if_neg c9] at H
                    have c9b0 : decide ((bt a0 x3_1) ≤ 90) = false := decide_eq_false c9
                    clear c9
                    by_cases c10 : (bt a0 x3_1) = 95
                    · rw [if_pos c10] at H
                      have c10b0 : ((bt a0 x3_1) == 95) = true := beq_iff_eq.mpr c10
                      have c10b1 : ((bt a0 x3_1) != 95) = false := bne_eq_false_iff_eq.mpr c10
                      clear c10
                      have H' := Aside0.mk H
                      clear H
                      have p4 : 0 ≤ (x3_1 : Int) := of_decide_eq_true (by first | (with_reducible assumption) | assumption)
                      have q4 : x3_1 < (a0.size : Int) := of_decide_eq_true (by first | (with_reducible assumption) | assumption)
                      have hx4 := bt_at a0 x3_1
                      replace p4 := eq_true p4
                      replace q4 := eq_true q4
                      go_wp2
                      go_roundg k1
                      case measure => have := HK1.out; omega
                      case rel => exact ⟨(wrap64 (x3_1 + 1)), (by first | rfl | (simp; done) | (simp [*]; done)), H', ⟨by have := HK1.out; omega⟩, by repeat (first | exact Drawn0.refl _ | apply Drawn0.step)⟩
                    · rw [if_neg c10] at H
                      have c10b0 : ((bt a0 x3_1) == 95) = false := beq_eq_false_iff_ne.mpr c10
                      have c10b1 : ((bt a0 x3_1) != 95) = true := bne_iff_ne.mpr c10
                      by_cases c11 : (bt a0 x3_1) = 36
                      · rw [if_pos c11] at H
                        have c11b0 : ((bt a0 x3_1) == 36) = true := beq_iff_eq.mpr c11
                        have c11b1 : ((bt a0 x3_1) != 36) = false := bne_eq_false_iff_eq.mpr c11
                        clear c11
                        have H' := Aside0.mk H
                        clear H
                        have p4 : 0 ≤ (x3_1 : Int) := of_decide_eq_true (by first | (with_reducible assumption) | assumption)
                        have q4 : x3_1 < (a0.size : Int) := of_decide_eq_true (by first | (with_reducible assumption) | assumption)
                        have hx4 := bt_at a0 x3_1
                        replace p4 := eq_true p4
                        replace q4 := eq_true q4
                        go_wp2
                        go_roundg k1
                        case measure => have := HK1.out; omega
                        case rel => exact ⟨(wrap64 (x3_1 + 1)), (by first | rfl | (simp; done) | (simp [*]; done)), H', ⟨by have := HK1.out; omega⟩, by repeat (first | exact Drawn0.refl _ | apply Drawn0.step)⟩
                      · rw [if_neg c11] at H
                        have c11b0 : ((bt a0 x3_1) == 36) = false := beq_eq_false_iff_ne.mpr c11
                        have c11b1 : ((bt a0 x3_1) != 36) = true := bne_iff_ne.mpr c11
                        by_cases c12 : (bt a0 x3_1) ≤ 57
                        · rw [if_pos c12] at H
                          have c12b0 : decide ((bt a0 x3_1) ≤ 57) = true := decide_eq_true c12
                          clear c12
                          by_cases c13 : x3_1 > 0
                          · rw [if_pos c13] at H
                            have c13b0 : decide (0 < x3_1) = true := decide_eq_true c13
                            clear c13
                            have H' := Aside0.mk H
                            clear H
                            have p4 : 0 ≤ (x3_1 : Int) := of_decide_eq_true (by first | (with_reducible assumption) | assumption)
                            have q4 : x3_1 < (a0.size : Int) := of_decide_eq_true (by first | (with_reducible assumption) | assumption)
                            have hx4 := bt_at a0 x3_1
                            replace p4 := eq_true p4
                            replace q4 := eq_true q4
                            go_wp2
                            go_roundg k1
                            case measure => have := HK1.out; omega
                            case rel => exact ⟨(wrap64 (x3_1 + 1)), (by first | rfl | (simp; done) | (simp [*]; done)), H', ⟨by have := HK1.out; omega⟩, by repeat (first | exact Drawn0.refl _ | apply Drawn0.step)⟩
                          · rw [if_neg c13] at H
                            have c13b0 : decide (0 < x3_1) = false := decide_eq_false c13
                            clear c13
                            obtain rfl := Option.some.inj H
                            have p4 : 0 ≤ (x3_1 : Int) := of_decide_eq_true (by first | (with_reducible assumption) | assumption)
                            have q4 : x3_1 < (a0.size : Int) := of_decide_eq_true (by first | (with_reducible assumption) | assumption)
                            have hx4 := bt_at a0 x3_1
                            replace p4 := eq_true p4
                            replace q4 := eq_true q4
                            go_wp2
                            go_ret
                            exact ⟨by first | rfl | (simp; done) | (simp [*]; done) | (simp; generalize ByteArray.toList _ = l_; cases l_ <;> rfl), by repeat (first | exact Drawn0.refl _ | apply Drawn0.step)⟩
                        · rw [if_neg c12] at H
                          have c12b0 : decide ((bt a0 x3_1) ≤ 57) = false := decide_eq_false c12
                          clear c12
                          obtain rfl := Option.some.inj H
                          have p4 : 0 ≤ (x3_1 : Int) := of_decide_eq_true (by first | (with_reducible assumption) | assumption)
                          have q4 : x3_1 < (a0.size : Int) := of_decide_eq_true (by first | (with_reducible assumption) | assumption)
                          have hx4 := bt_at a0 x3_1
                          replace p4 := eq_true p4
                          replace q4 := eq_true q4
                          go_wp2
                          go_ret
                          exact ⟨by first | rfl | (simp; done) | (simp [*]; done) | (simp; generalize ByteArray.toList _ = l_; cases l_ <;> rfl), by repeat (first | exact Drawn0.refl _ | apply Drawn0.step)⟩
                · rw [if_neg c8] at H
                  have c8b0 : decide (65 ≤ (bt a0 x3_1)) = false := decide_eq_false c8
                  clear c8
                  by_cases c14 : (bt a0 x3_1) = 95
                  · rw [if_pos c14] at H
                    have c14b0 : ((bt a0 x3_1) == 95) = true := beq_iff_eq.mpr c14
                    have c14b1 : ((bt a0 x3_1) != 95) = false := bne_eq_false_iff_eq.mpr c14
                    clear c14
                    have H' := Aside0.mk H
                    clear H
                    have p4 : 0 ≤ (x3_1 : Int) := of_decide_eq_true (by first | (with_reducible assumption) | assumption)
                    have q4 : x3_1 < (a0.size : Int) := of_decide_eq_true (by first | (with_reducible assumption) | assumption)
                    have hx4 := bt_at a0 x3_1
                    replace p4 := eq_true p4
                    replace q4 := eq_true q4
                    go_wp2
                    go_roundg k1
                    case measure => have := HK1.out; omega
                    case rel => exact ⟨(wrap64 (x3_1 + 1)), (by first | rfl | (simp; done) | (simp [*]; done)), H', ⟨by have := HK1.out; omega⟩, by repeat (first | exact Drawn0.refl _ | apply Drawn0.step)⟩
                  · rw [if_neg c14] at H
                    have c14b0 : ((bt a0 x3_1) == 95) = false := beq_eq_false_iff_ne.mpr c14
                    have c14b1 : ((bt a0 x3_1) != 95) = true := bne_iff_ne.mpr c14
                    by_cases c15 : (bt a0 x3_1) = 36
                    · rw [if_pos c15] at H
                      have c15b0 : ((bt a0 x3_1) == 36) = true := beq_iff_eq.mpr c15
                      have c15b1 : ((bt a0 x3_1) != 36) = false := bne_eq_false_iff_eq.mpr c15
                      clear c15
                      have H' := Aside0.mk H
                      clear H
                      have p4 : 0 ≤ (x3_1 : Int) := of_decide_eq_true (by first | (with_reducible assumption) | assumption)
                      have q4 : x3_1 < (a0.size : Int) := of_decide_eq_true (by first | (with_reducible assumption) | assumption)
                      have hx4 := bt_at a0 x3_1
                      replace p4 := eq_true p4
                      replace q4 := eq_true q4
                      go_wp2
                      go_roundg k1
                      case measure => have := HK1.out; omega
                      case rel => exact ⟨(wrap64 (x3_1 + 1)), (by first | rfl | (simp; done) | (simp [*]; done)), H', ⟨by have := HK1.out; omega⟩, by repeat (first | exact Drawn0.refl _ | apply Drawn0.step)⟩
                    · rw [if_neg c15] at H
                      have c15b0 : ((bt a0 x3_1) == 36) = false := beq_eq_false_iff_ne.mpr c15
                      have c15b1 : ((bt a0 x3_1) != 36) = true := bne_iff_ne.mpr c15
                      by_cases c16 : (bt a0 x3_1) ≤ 57
                      · rw [if_pos c16] at H
                        have c16b0 : decide ((bt a0 x3_1) ≤ 57) = true := decide_eq_true c16
                        clear c16
                        by_cases c17 : x3_1 > 0
                        · rw [if_pos c17] at H
                          have c17b0 : decide (0 < x3_1) = true := decide_eq_true c17
                          clear c17
                          have H' := Aside0.mk H
                          clear H
                          have p4 : 0 ≤ (x3_1 : Int) := of_decide_eq_true (by first | (with_reducible assumption) | assumption)
                          have q4 : x3_1 < (a0.size : Int) := of_decide_eq_true (by first | (with_reducible assumption) | assumption)
                          have hx4 := bt_at a0 x3_1
                          replace p4 := eq_true p4
                          replace q4 := eq_true q4
                          go_wp2
                          go_roundg k1
                          case measure => have := HK1.out; omega
                          case rel => exact ⟨(wrap64 (x3_1 + 1)), (by first | rfl | (simp; done) | (simp [*]; done)), H', ⟨by have := HK1.out; omega⟩, by repeat (first | exact Drawn0.refl _ | apply Drawn0.step)⟩
                        · rw [if_neg c17] at H
                          have c17b0 : decide (0 < x3_1) = false := decide_eq_false c17
                          clear c17
                          obtain rfl := Option.some.inj H
                          have p4 : 0 ≤ (x3_1 : Int) := of_decide_eq_true (by first | (with_reducible assumption) | assumption)
                          have q4 : x3_1 < (a0.size : Int) := of_decide_eq_true (by first | (with_reducible assumption) | assumption)
                          have hx4 := bt_at a0 x3_1
                          replace p4 := eq_true p4
                          replace q4 := eq_true q4
                          go_wp2
                          go_ret
                          exact ⟨by first | rfl | (simp; done) | (simp [*]; done) | (simp; generalize ByteArray.toList _ = l_; cases l_ <;> rfl), by repeat (first | exact Drawn0.refl _ | apply Drawn0.step)⟩
                      · rw [if_neg c16] at H
                        have c16b0 : decide ((bt a0 x3_1) ≤ 57) = false := decide_eq_false c16
                        clear c16
                        obtain rfl := Option.some.inj H
                        have p4 : 0 ≤ (x3_1 : Int) := of_decide_eq_true (by first | (with_reducible assumption) | assumption)
                        have q4 : x3_1 < (a0.size : Int) := of_decide_eq_true (by first | (with_reducible assumption) | assumption)
                        have hx4 := bt_at a0 x3_1
                        replace p4 := eq_true p4
                        replace q4 := eq_true q4
                        go_wp2
                        go_ret
                        exact ⟨by first | rfl | (simp; done) | (simp [*]; done) | (simp; generalize ByteArray.toList _ = l_; cases l_ <;> rfl), by repeat (first | exact Drawn0.refl _ | apply Drawn0.step)⟩
            · rw [if_neg c6] at H
              have c6b0 : decide (97 ≤ (bt a0 x3_1)) = false := decide_eq_false c6
              clear c6
              by_cases c18 : (bt a0 x3_1) ≥ 65
              · rw [if_pos c18] at H
                have c18b0 : decide (65 ≤ (bt a0 x3_1)) = true := decide_eq_true c18
                clear c18
                by_cases c19 : (bt a0 x3_1) ≤ 90
                · rw [if_pos c19] at H
                  have c19b0 : decide ((bt a0 x3_1) ≤ 90) = true := decide_eq_true c19
                  clear c19
                  have H' := Aside0.mk H
                  clear H
                  have p4 : 0 ≤ (x3_1 : Int) := of_decide_eq_true (by first | (with_reducible assumption) | assumption)
                  have q4 : x3_1 < (a0.size : Int) := of_decide_eq_true (by first | (with_reducible assumption) | assumption)
                  have hx4 := bt_at a0 x3_1
                  replace p4 := eq_true p4
                  replace q4 := eq_true q4
                  go_wp2
                  go_roundg k1
                  case measure => have := HK1.out; omega
                  case rel => exact ⟨(wrap64 (x3_1 + 1)), (by first | rfl | (simp; done) | (simp [*]; done)), H', ⟨by have := HK1.out; omega⟩, by repeat (first | exact Drawn0.refl _ | apply Drawn0.step)⟩
                · rw [if_neg c19] at H
                  have c19b0 : decide ((bt a0 x3_1) ≤ 90) = false := decide_eq_false c19
                  clear c19
                  by_cases c20 : (bt a0 x3_1) = 95
                  · rw [if_pos c20] at H
                    have c20b0 : ((bt a0 x3_1) == 95) = true := beq_iff_eq.mpr c20
                    have c20b1 : ((bt a0 x3_1) != 95) = false := bne_eq_false_iff_eq.mpr c20
                    clear c20
                    have H' := Aside0.mk H
                    clear H
                    have p4 : 0 ≤ (x3_1 : Int) := of_decide_eq_true (by first | (with_reducible assumption) | assumption)
                    have q4 : x3_1 < (a0.size : Int) := of_decide_eq_true (by first | (with_reducible assumption) | assumption)
                    have hx4 := bt_at a0 x3_1
                    replace p4 := eq_true p4
                    replace q4 := eq_true q4
                    go_wp2
                    go_roundg k1
                    case measure => have := HK1.out; omega
                    case rel => exact ⟨(wrap64 (x3_1 + 1)), (by first | rfl | (simp; done) | (simp [*]; done)), H', ⟨by have := HK1.out; omega⟩, by repeat (first | exact Drawn0.refl _ | apply Drawn0.step)⟩
                  · rw [if_neg c20] at H
                    have c20b0 : ((bt a0 x3_1) == 95) = false := beq_eq_false_iff_ne.mpr c20
                    have c20b1 : ((bt a0 x3_1) != 95) = true := bne_iff_ne.mpr c20
                    by_cases c21 : (bt a0 x3_1) = 36
                    · rw [if_pos c21] at H
                      have c21b0 : ((bt a0 x3_1) == 36) = true := beq_iff_eq.mpr c21
                      have c21b1 : ((bt a0 x3_1) != 36) = false := bne_eq_false_iff_eq.mpr c21
                      clear c21
                      have H' := Aside0.mk H
                      clear H
                      have p4 : 0 ≤ (x3_1 : Int) := of_decide_eq_true (by first | (with_reducible assumption) | assumption)
                      have q4 : x3_1 < (a0.size : Int) := of_decide_eq_true (by first | (with_reducible assumption) | assumption)
                      have hx4 := bt_at a0 x3_1
                      replace p4 := eq_true p4
                      replace q4 := eq_true q4
                      go_wp2
                      go_roundg k1
                      case measure => have := HK1.out; omega
                      case rel => exact ⟨(wrap64 (x3_1 + 1)), (by first | rfl | (simp; done) | (simp [*]; done)), H', ⟨by have := HK1.out; omega⟩, by repeat (first | exact Drawn0.refl _ | apply Drawn0.step)⟩
                    · rw [if_neg c21] at H
                      have c21b0 : ((bt a0 x3_1) == 36) = false := beq_eq_false_iff_ne.mpr c21
                      have c21b1 : ((bt a0 x3_1) != 36) = true := bne_iff_ne.mpr c21
                      by_cases c22 : (bt a0 x3_1) ≤ 57
                      · rw [if_pos c22] at H
                        have c22b0 : decide ((bt a0 x3_1) ≤ 57) = true := decide_eq_true c22
                        clear c22
                        by_cases c23 : x3_1 > 0
                        · rw [if_pos c23] at H
                          have c23b0 : decide (0 < x3_1) = true := decide_eq_true c23
                          clear c23
                          have H' := Aside0.mk H
                          clear H
                          have p4 : 0 ≤ (x3_1 : Int) := of_decide_eq_true (by first | (with_reducible assumption) | assumption)
                          have q4 : x3_1 < (a0.size : Int) := of_decide_eq_true (by first | (with_reducible assumption) | assumption)
                          have hx4 := bt_at a0 x3_1
                          replace p4 := eq_true p4
                          replace q4 := eq_true q4
                          go_wp2
                          go_roundg k1
                          case measure => have := HK1.out; omega
                          case rel => exact ⟨(wrap64 (x3_1 + 1)), (by first | rfl | (simp; done) | (simp [*]; done)), H', ⟨by have := HK1.out; omega⟩, by repeat (first | exact Drawn0.refl _ | apply Drawn0.step)⟩
                        · rw [if_neg c23] at H
                          have c23b0 : decide (0 < x3_1) = false := decide_eq_false c23
                          clear c23
                          obtain rfl := Option.some.inj H
                          have p4 : 0 ≤ (x3_1 : Int) := of_decide_eq_true (by first | (with_reducible assumption) | assumption)
                          have q4 : x3_1 < (a0.size : Int) := of_decide_eq_true (by first | (with_reducible assumption) | assumption)
                          have hx4 := bt_at a0 x3_1
                          replace p4 := eq_true p4
                          replace q4 := eq_true q4
                          go_wp2
                          go_ret
                          exact ⟨by first | rfl | (simp; done) | (simp [*]; done) | (simp; generalize ByteArray.toList _ = l_; cases l_ <;> rfl), by repeat (first | exact Drawn0.refl _ | apply Drawn0.step)⟩
                      · rw [if_neg c22] at H
                        have c22b0 : decide ((bt a0 x3_1) ≤ 57) = false := decide_eq_false c22
                        clear c22
                        obtain rfl := Option.some.inj H
                        have p4 : 0 ≤ (x3_1 : Int) := of_decide_eq_true (by first | (with_reducible assumption) | assumption)
                        have q4 : x3_1 < (a0.size : Int) := of_decide_eq_true (by first | (with_reducible assumption) | assumption)
                        have hx4 := bt_at a0 x3_1
                        replace p4 := eq_true p4
                        replace q4 := eq_true q4
                        go_wp2
                        go_ret
                        exact ⟨by first | rfl | (simp; done) | (simp [*]; done) | (simp; generalize ByteArray.toList _ = l_; cases l_ <;> rfl), by repeat (first | exact Drawn0.refl _ | apply Drawn0.step)⟩
              · rw [if_neg c18] at H
                have c18b0 : decide (65 ≤ (bt a0 x3_1)) = false := decide_eq_false c18
                clear c18
                by_cases c24 : (bt a0 x3_1) = 95
                · rw [if_pos c24] at H
                  have c24b0 : ((bt a0 x3_1) == 95) = true := beq_iff_eq.mpr c24
                  have c24b1 : ((bt a0 x3_1) != 95) = false := bne_eq_false_iff_eq.mpr c24
                  clear c24
                  have H' := Aside0.mk H
                  clear H
                  have p4 : 0 ≤ (x3_1 : Int) := of_decide_eq_true (by first | (with_reducible assumption) | assumption)
                  have q4 : x3_1 < (a0.size : Int) := of_decide_eq_true (by first | (with_reducible assumption) | assumption)
                  have hx4 := bt_at a0 x3_1
                  replace p4 := eq_true p4
                  replace q4 := eq_true q4
                  go_wp2
                  go_roundg k1
                  case measure => have := HK1.out; omega
                  case rel => exact ⟨(wrap64 (x3_1 + 1)), (by first | rfl | (simp; done) | (simp [*]; done)), H', ⟨by have := HK1.out; omega⟩, by repeat (first | exact Drawn0.refl _ | apply Drawn0.step)⟩
                · rw [if_neg c24] at H
                  have c24b0 : ((bt a0 x3_1) == 95) = false := beq_eq_false_iff_ne.mpr c24
                  have c24b1 : ((bt a0 x3_1) != 95) = true := bne_iff_ne.mpr c24
                  by_cases c25 : (bt a0 x3_1) = 36
                  · rw [if_pos c25] at H
                    have c25b0 : ((bt a0 x3_1) == 36) = true := beq_iff_eq.mpr c25
                    have c25b1 : ((bt a0 x3_1) != 36) = false := bne_eq_false_iff_eq.mpr c25
                    clear c25
                    have H' := Aside0.mk H
                    clear H
                    have p4 : 0 ≤ (x3_1 : Int) := of_decide_eq_true (by first | (with_reducible assumption) | assumption)
                    have q4 : x3_1 < (a0.size : Int) := of_decide_eq_true (by first | (with_reducible assumption) | assumption)
                    have hx4 := bt_at a0 x3_1
                    replace p4 := eq_true p4
                    replace q4 := eq_true q4
                    go_wp2
                    go_roundg k1
                    case measure => have := HK1.out; omega
                    case rel => exact ⟨(wrap64 (x3_1 + 1)), (by first | rfl | (simp; done) | (simp [*]; done)), H', ⟨by have := HK1.out; omega⟩, by repeat (first | exact Drawn0.refl _ | apply Drawn0.step)⟩
                  · rw [if_neg c25] at H
                    have c25b0 : ((bt a0 x3_1) == 36) = false := beq_eq_false_iff_ne.mpr c25
                    have c25b1 : ((bt a0 x3_1) != 36) = true := bne_iff_ne.mpr c25
                    by_cases c26 : (bt a0 x3_1) ≤ 57
                    · rw [if_pos c26] at H
                      have c26b0 : decide ((bt a0 x3_1) ≤ 57) = true := decide_eq_true c26
                      clear c26
                      by_cases c27 : x3_1 > 0
                      · rw [if_pos c27] at H
                        have c27b0 : decide (0 < x3_1) = true := decide_eq_true c27
                        clear c27
                        have H' := Aside0.mk H
                        clear H
                        have p4 : 0 ≤ (x3_1 : Int) := of_decide_eq_true (by first | (with_reducible assumption) | assumption)
                        have q4 : x3_1 < (a0.size : Int) := of_decide_eq_true (by first | (with_reducible assumption) | assumption)
                        have hx4 := bt_at a0 x3_1
                        replace p4 := eq_true p4
                        replace q4 := eq_true q4
                        go_wp2
                        go_roundg k1
                        case measure => have := HK1.out; omega
                        case rel => exact ⟨(wrap64 (x3_1 + 1)), (by first | rfl | (simp; done) | (simp [*]; done)), H', ⟨by have := HK1.out; omega⟩, by repeat (first | exact Drawn0.refl _ | apply Drawn0.step)⟩
                      · rw [if_neg c27] at H
                        have c27b0 : decide (0 < x3_1) = false := decide_eq_false c27
                        clear c27
                        obtain rfl := Option.some.inj H
                        have p4 : 0 ≤ (x3_1 : Int) := of_decide_eq_true (by first | (with_reducible assumption) | assumption)
                        have q4 : x3_1 < (a0.size : Int) := of_decide_eq_true (by first | (with_reducible assumption) | assumption)
                        have hx4 := bt_at a0 x3_1
                        replace p4 := eq_true p4
                        replace q4 := eq_true q4
                        go_wp2
                        go_ret
                        exact ⟨by first | rfl | (simp; done) | (simp [*]; done) | (simp; generalize ByteArray.toList _ = l_; cases l_ <;> rfl), by repeat (first | exact Drawn0.refl _ | apply Drawn0.step)⟩
                    · rw [if_neg c26] at H
                      have c26b0 : decide ((bt a0 x3_1) ≤ 57) = false := decide_eq_false c26
                      clear c26
                      obtain rfl := Option.some.inj H
                      have p4 : 0 ≤ (x3_1 : Int) := of_decide_eq_true (by first | (with_reducible assumption) | assumption)
                      have q4 : x3_1 < (a0.size : Int) := of_decide_eq_true (by first | (with_reducible assumption) | assumption)
                      have hx4 := bt_at a0 x3_1
                      replace p4 := eq_true p4
                      replace q4 := eq_true q4
                      go_wp2
                      go_ret
                      exact ⟨by first | rfl | (simp; done) | (simp [*]; done) | (simp; generalize ByteArray.toList _ = l_; cases l_ <;> rfl), by repeat (first | exact Drawn0.refl _ | apply Drawn0.step)⟩
          · rw [if_neg c5] at H
            have c5b0 : decide (48 ≤ (bt a0 x3_1)) = false := decide_eq_false c5
            clear c5
            by_cases c28 : (bt a0 x3_1) ≥ 97
            · rw [if_pos c28] at H
              have c28b0 : decide (97 ≤ (bt a0 x3_1)) = true := decide_eq_true c28
              clear c28
              by_cases c29 : (bt a0 x3_1) ≤ 122
              · rw [if_pos c29] at H
                have c29b0 : decide ((bt a0 x3_1) ≤ 122) = true := decide_eq_true c29
                clear c29
                have H' := Aside0.mk H
                clear H
                have p4 : 0 ≤ (x3_1 : Int) := of_decide_eq_true (by first | (with_reducible assumption) | assumption)
                have q4 : x3_1 < (a0.size : Int) := of_decide_eq_true (by first | (with_reducible assumption) | assumption)
                have hx4 := bt_at a0 x3_1
                replace p4 := eq_true p4
                replace q4 := eq_true q4
                go_wp2
                go_roundg k1
                case measure => have := HK1.out; omega
                case rel => exact ⟨(wrap64 (x3_1 + 1)), (by first | rfl | (simp; done) | (simp [*]; done)), H', ⟨by have := HK1.out; omega⟩, by repeat (first | exact Drawn0.refl _ | apply Drawn0.step)⟩
              · rw [if_neg c29] at H
                have c29b0 : decide ((bt a0 x3_1) ≤ 122) = false := decide_eq_false c29
                clear c29
                by_cases c30 : (bt a0 x3_1) ≥ 65
                · rw [if_pos c30] at H
                  have c30b0 : decide (65 ≤ (bt a0 x3_1)) = true := decide_eq_true c30
                  clear c30
                  by_cases c31 : (bt a0 x3_1) ≤ 90
                  · rw [if_pos c31] at H
                    have c31b0 : decide ((bt a0 x3_1) ≤ 90) = true := decide_eq_true c31
                    clear c31
                    have H' := Aside0.mk H
                    clear H
                    have p4 : 0 ≤ (x3_1 : Int) := of_decide_eq_true (by first | (with_reducible assumption) | assumption)
                    have q4 : x3_1 < (a0.size : Int) := of_decide_eq_true (by first | (with_reducible assumption) | assumption)
                    have hx4 := bt_at a0 x3_1
                    replace p4 := eq_true p4
                    replace q4 := eq_true q4
                    go_wp2
                    go_roundg k1
                    case measure => have := HK1.out; omega
                    case rel => exact ⟨(wrap64 (x3_1 + 1)), (by first | rfl | (simp; done) | (simp [*]; done)), H', ⟨by have := HK1.out; omega⟩, by repeat (first | exact Drawn0.refl _ | apply Drawn0.step)⟩
                  · rw [if_neg c31] at H
                    have c31b0 : decide ((bt a0 x3_1) ≤ 90) = false := decide_eq_false c31
                    clear c31
                    by_cases c32 : (bt a0 x3_1) = 95
                    · rw [if_pos c32] at H
                      have c32b0 : ((bt a0 x3_1) == 95) = true := beq_iff_eq.mpr c32
                      have c32b1 : ((bt a0 x3_1) != 95) = false := bne_eq_false_iff_eq.mpr c32
                      clear c32
                      have H' := Aside0.mk H
                      clear H
                      have p4 : 0 ≤ (x3_1 : Int) := of_decide_eq_true (by first | (with_reducible assumption) | assumption)
                      have q4 : x3_1 < (a0.size : Int) := of_decide_eq_true (by first | (with_reducible assumption) | assumption)
                      have hx4 := bt_at a0 x3_1
                      replace p4 := eq_true p4
                      replace q4 := eq_true q4
                      go_wp2
                      go_roundg k1
                      case measure => have := HK1.out; omega
                      case rel => exact ⟨(wrap64 (x3_1 + 1)), (by first | rfl | (simp; done) | (simp [*]; done)), H', ⟨by have := HK1.out; omega⟩, by repeat (first | exact Drawn0.refl _ | apply Drawn0.step)⟩
                    · rw [if_neg c32] at H
                      have c32b0 : ((bt a0 x3_1) == 95) = false := beq_eq_false_iff_ne.mpr c32
                      have c32b1 : ((bt a0 x3_1) != 95) = true := bne_iff_ne.mpr c32
                      by_cases c33 : (bt a0 x3_1) = 36
                      · rw [if_pos c33] at H
                        have c33b0 : ((bt a0 x3_1) == 36) = true := beq_iff_eq.mpr c33
                        have c33b1 : ((bt a0 x3_1) != 36) = false := bne_eq_false_iff_eq.mpr c33
                        clear c33
                        have H' := Aside0.mk H
                        clear H
                        have p4 : 0 ≤ (x3_1 : Int) := of_decide_eq_true (by first | (with_reducible assumption) | assumption)
                        have q4 : x3_1 < (a0.size : Int) := of_decide_eq_true (by first | (with_reducible assumption) | assumption)
                        have hx4 := bt_at a0 x3_1
                        replace p4 := eq_true p4
                        replace q4 := eq_true q4
                        go_wp2
                        go_roundg k1
                        case measure => have := HK1.out; omega
                        case rel => exact ⟨(wrap64 (x3_1 + 1)), (by first | rfl | (simp; done) | (simp [*]; done)), H', ⟨by have := HK1.out; omega⟩, by repeat (first | exact Drawn0.refl _ | apply Drawn0.step)⟩
                      · rw [if_neg c33] at H
                        have c33b0 : ((bt a0 x3_1) == 36) = false := beq_eq_false_iff_ne.mpr c33
                        have c33b1 : ((bt a0 x3_1) != 36) = true := bne_iff_ne.mpr c33
                        obtain rfl := Option.some.inj H
                        have p4 : 0 ≤ (x3_1 : Int) := of_decide_eq_true (by first | (with_reducible assumption) | assumption)
                        have q4 : x3_1 < (a0.size : Int) := of_decide_eq_true (by first | (with_reducible assumption) | assumption)
                        have hx4 := bt_at a0 x3_1
                        replace p4 := eq_true p4
                        replace q4 := eq_true q4
                        go_wp2
                        go_ret
                        exact ⟨by first | rfl | (simp; done) | (simp [*]; done) | (simp; generalize ByteArray.toList _ = l_; cases l_ <;> rfl), by repeat (first | exact Drawn0.refl _ | apply Drawn0.step)⟩
                · rw [if_neg c30] at H
                  have c30b0 : decide (65 ≤ (bt a0 x3_1)) = false := decide_eq_false c30
                  clear c30
                  by_cases c34 : (bt a0 x3_1) = 95
                  · rw [if_pos c34] at H
                    have c34b0 : ((bt a0 x3_1) == 95) = true := beq_iff_eq.mpr c34
                    have c34b1 : ((bt a0 x3_1) != 95) = false := bne_eq_false_iff_eq.mpr c34
                    clear c34
                    have H' := Aside0.mk H
                    clear H
                    have p4 : 0 ≤ (x3_1 : Int) := of_decide_eq_true (by first | (with_reducible assumption) | assumption)
                    have q4 : x3_1 < (a0.size : Int) := of_decide_eq_true (by first | (with_reducible assumption) | assumption)
                    have hx4 := bt_at a0 x3_1
                    replace p4 := eq_true p4
                    replace q4 := eq_true q4
                    go_wp2
                    go_roundg k1
                    case measure => have := HK1.out; omega
                    case rel => exact ⟨(wrap64 (x3_1 + 1)), (by first | rfl | (simp; done) | (simp [*]; done)), H', ⟨by have := HK1.out; omega⟩, by repeat (first | exact Drawn0.refl _ | apply Drawn0.step)⟩
                  · rw [if_neg c34] at H
                    have c34b0 : ((bt a0 x3_1) == 95) = false := beq_eq_false_iff_ne.mpr c34
                    have c34b1 : ((bt a0 x3_1) != 95) = true := bne_iff_ne.mpr c34
                    by_cases c35 : (bt a0 x3_1) = 36
                    · rw [if_pos c35] at H
                      have c35b0 : ((bt a0 x3_1) == 36) = true := beq_iff_eq.mpr c35
                      have c35b1 : ((bt a0 x3_1) != 36) = false := bne_eq_false_iff_eq.mpr c35
                      clear c35
                      have H' := Aside0.mk H
                      clear H
                      have p4 : 0 ≤ (x3_1 : Int) := of_decide_eq_true (by first | (with_reducible assumption) | assumption)
                      have q4 : x3_1 < (a0.size : Int) := of_decide_eq_true (by first | (with_reducible assumption) | assumption)
                      have hx4 := bt_at a0 x3_1
                      replace p4 := eq_true p4
                      replace q4 := eq_true q4
                      go_wp2
                      go_roundg k1
                      case measure => have := HK1.out; omega
                      case rel => exact ⟨(wrap64 (x3_1 + 1)), (by first | rfl | (simp; done) | (simp [*]; done)), H', ⟨by have := HK1.out; omega⟩, by repeat (first | exact Drawn0.refl _ | apply Drawn0.step)⟩
                    · rw [if_neg c35] at H
                      have c35b0 : ((bt a0 x3_1) == 36) = false := beq_eq_false_iff_ne.mpr c35
                      have c35b1 : ((bt a0 x3_1) != 36) = true := bne_iff_ne.mpr c35
                      obtain rfl := Option.some.inj H
                      have p4 : 0 ≤ (x3_1 : Int) := of_decide_eq_true (by first | (with_reducible assumption) | assumption)
                      have q4 : x3_1 < (a0.size : Int) := of_decide_eq_true (by first | (with_reducible assumption) | assumption)
                      have hx4 := bt_at a0 x3_1
                      replace p4 := eq_true p4
                      replace q4 := eq_true q4
                      go_wp2
                      go_ret
                      exact ⟨by first | rfl | (simp; done) | (simp [*]; done) | (simp; generalize ByteArray.toList _ = l_; cases l_ <;> rfl), by repeat (first | exact Drawn0.refl _ | apply Drawn0.step)⟩
            · rw [if_neg c28] at H
              have c28b0 : decide (97 ≤ (bt a0 x3_1)) = false := decide_eq_false c28
              clear c28
              by_cases c36 : (bt a0 x3_1) ≥ 65
              · rw [if_pos c36] at H
                have c36b0 : decide (65 ≤ (bt a0 x3_1)) = true := decide_eq_true c36
                clear c36
                by_cases c37 : (bt a0 x3_1) ≤ 90
                · rw [if_pos c37] at H
                  have c37b0 : decide ((bt a0 x3_1) ≤ 90) = true := decide_eq_true c37
                  clear c37
                  have H' := Aside0.mk H
                  clear H
                  have p4 : 0 ≤ (x3_1 : Int) := of_decide_eq_true (by first | (with_reducible assumption) | assumption)
                  have q4 : x3_1 < (a0.size : Int) := of_decide_eq_true (by first | (with_reducible assumption) | assumption)
                  have hx4 := bt_at a0 x3_1
                  replace p4 := eq_true p4
                  replace q4 := eq_true q4
                  go_wp2
                  go_roundg k1
                  case measure => have := HK1.out; omega
                  case rel => exact ⟨(wrap64 (x3_1 + 1)), (by first | rfl | (simp; done) | (simp [*]; done)), H', ⟨by have := HK1.out; omega⟩, by repeat (first | exact Drawn0.refl _ | apply Drawn0.step)⟩
                · rw [if_neg c37] at H
                  have c37b0 : decide ((bt a0 x3_1) ≤ 90) = false := decide_eq_false c37
                  clear c37
                  by_cases c38 : (bt a0 x3_1) = 95
                  · rw [if_pos c38] at H
                    have c38b0 : ((bt a0 x3_1) == 95) = true := beq_iff_eq.mpr c38
                    have c38b1 : ((bt a0 x3_1) != 95) = false := bne_eq_false_iff_eq.mpr c38
                    clear c38
                    have H' := Aside0.mk H
                    clear H
                    have p4 : 0 ≤ (x3_1 : Int) := of_decide_eq_true (by first | (with_reducible assumption) | assumption)
                    have q4 : x3_1 < (a0.size : Int) := of_decide_eq_true (by first | (with_reducible assumption) | assumption)
                    have hx4 := bt_at a0 x3_1
                    replace p4 := eq_true p4
                    replace q4 := eq_true q4
                    go_wp2
                    go_roundg k1
                    case measure => have := HK1.out; omega
                    case rel => exact ⟨(wrap64 (x3_1 + 1)), (by first | rfl | (simp; done) | (simp [*]; done)), H', ⟨by have := HK1.out; omega⟩, by repeat (first | exact Drawn0.refl _ | apply Drawn0.step)⟩
                  · rw [if_neg c38] at H
                    have c38b0 : ((bt a0 x3_1) == 95) = false := beq_eq_false_iff_ne.mpr c38
                    have c38b1 : ((bt a0 x3_1) != 95) = true := bne_iff_ne.mpr c38
                    by_cases c39 : (bt a0 x3_1) = 36
                    · rw [if_pos c39] at H
                      have c39b0 : ((bt a0 x3_1) == 36) = true := beq_iff_eq.mpr c39
                      have c39b1 : ((bt a0 x3_1) != 36) = false := bne_eq_false_iff_eq.mpr c39
                      clear c39
                      have H' := Aside0.mk H
                      clear H
                      have p4 : 0 ≤ (x3_1 : Int) := of_decide_eq_true (by first | (with_reducible assumption) | assumption)
                      have q4 : x3_1 < (a0.size : Int) := of_decide_eq_true (by first | (with_reducible assumption) | assumption)
                      have hx4 := bt_at a0 x3_1
                      replace p4 := eq_true p4
                      replace q4 := eq_true q4
                      go_wp2
                      go_roundg k1
                      case measure => have := HK1.out; omega
                      case rel => exact ⟨(wrap64 (x3_1 + 1)), (by first | rfl | (simp; done) | (simp [*]; done)), H', ⟨by have := HK1.out; omega⟩, by repeat (first | exact Drawn0.refl _ | apply Drawn0.step)⟩
                    · rw [if_neg c39] at H
                      have c39b0 : ((bt a0 x3_1) == 36) = false := beq_eq_false_iff_ne.mpr c39
                      have c39b1 : ((bt a0 x3_1) != 36) = true := bne_iff_ne.mpr c39
                      obtain rfl := Option.some.inj H
                      have p4 : 0 ≤ (x3_1 : Int) := of_decide_eq_true (by first | (with_reducible assumption) | assumption)
                      have q4 : x3_1 < (a0.size : Int) := of_decide_eq_true (by first | (with_reducible assumption) | assumption)
                      have hx4 := bt_at a0 x3_1
                      replace p4 := eq_true p4
                      replace q4 := eq_true q4
                      go_wp2
                      go_ret
                      exact ⟨by first | rfl | (simp; done) | (simp [*]; done) | (simp; generalize ByteArray.toList _ = l_; cases l_ <;> rfl), by repeat (first | exact Drawn0.refl _ | apply Drawn0.step)⟩
              · rw [if_neg c36] at H
                have c36b0 : decide (65 ≤ (bt a0 x3_1)) = false := decide_eq_false c36
                clear c36
                by_cases c40 : (bt a0 x3_1) = 95
                · rw [if_pos c40] at H
                  have c40b0 : ((bt a0 x3_1) == 95) = true := beq_iff_eq.mpr c40
                  have c40b1 : ((bt a0 x3_1) != 95) = false := bne_eq_false_iff_eq.mpr c40
                  clear c40
                  have H' := Aside0.mk H
                  clear H
                  have p4 : 0 ≤ (x3_1 : Int) := of_decide_eq_true (by first | (with_reducible assumption) | assumption)
                  have q4 : x3_1 < (a0.size : Int) := of_decide_eq_true (by first | (with_reducible assumption) | assumption)
                  have hx4 := bt_at a0 x3_1
                  replace p4 := eq_true p4
                  replace q4 := eq_true q4
                  go_wp2
                  go_roundg k1
                  case measure => have := HK1.out; omega
                  case rel => exact ⟨(wrap64 (x3_1 + 1)), (by first | rfl | (simp; done) | (simp [*]; done)), H', ⟨by have := HK1.out; omega⟩, by repeat (first | exact Drawn0.refl _ | apply Drawn0.step)⟩
                · rw [if_neg c40] at H
                  have c40b0 : ((bt a0 x3_1) == 95) = false := beq_eq_false_iff_ne.mpr c40
                  have c40b1 : ((bt a0 x3_1) != 95) = true := bne_iff_ne.mpr c40
                  by_cases c41 : (bt a0 x3_1) = 36
                  · rw [if_pos c41] at H
                    have c41b0 : ((bt a0 x3_1) == 36) = true := beq_iff_eq.mpr c41
                    have c41b1 : ((bt a0 x3_1) != 36) = false := bne_eq_false_iff_eq.mpr c41
                    clear c41
                    have H' := Aside0.mk H
                    clear H
                    have p4 : 0 ≤ (x3_1 : Int) := of_decide_eq_true (by first | (with_reducible assumption) | assumption)
                    have q4 : x3_1 < (a0.size : Int) := of_decide_eq_true (by first | (with_reducible assumption) | assumption)
                    have hx4 := bt_at a0 x3_1
                    replace p4 := eq_true p4
                    replace q4 := eq_true q4
                    go_wp2
                    go_roundg k1
                    case measure => have := HK1.out; omega
                    case rel => exact ⟨(wrap64 (x3_1 + 1)), (by first | rfl | (simp; done) | (simp [*]; done)), H', ⟨by have := HK1.out; omega⟩, by repeat (first | exact Drawn0.refl _ | apply Drawn0.step)⟩
                  · rw [if_neg c41] at H
                    have c41b0 : ((bt a0 x3_1) == 36) = false := beq_eq_false_iff_ne.mpr c41
                    have c41b1 : ((bt a0 x3_1) != 36) = true := bne_iff_ne.mpr c41
                    obtain rfl := Option.some.inj H
                    have p4 : 0 ≤ (x3_1 : Int) := of_decide_eq_true (by first | (with_reducible assumption) | assumption)
                    have q4 : x3_1 < (a0.size : Int) := of_decide_eq_true (by first | (with_reducible assumption) | assumption)
                    have hx4 := bt_at a0 x3_1
                    replace p4 := eq_true p4
                    replace q4 := eq_true q4
                    go_wp2
                    go_ret
                    exact ⟨by first | rfl | (simp; done) | (simp [*]; done) | (simp; generalize ByteArray.toList _ = l_; cases l_ <;> rfl), by repeat (first | exact Drawn0.refl _ | apply Drawn0.step)⟩
        · rw [if_neg c3] at H
          exact absurd H (by simp)
      · rw [if_neg c2] at H
        have c2b0 : decide (x3_1 < (a0.size : Int)) = false := decide_eq_false c2
        clear c2
        by_cases c42 : (a0.size : Int) ≥ 1
        · rw [if_pos c42] at H
          have c42b0 : decide (1 ≤ (a0.size : Int)) = true := decide_eq_true c42
          have c42b1 : decide (1 ≤ a0.size) = true := decide_eq_true (by omega)
          clear c42
          obtain rfl := Option.some.inj H
          go_wp2
          go_ret
          exact ⟨by first | rfl | (simp; done) | (simp [*]; done) | (simp; generalize ByteArray.toList _ = l_; cases l_ <;> rfl), by repeat (first | exact Drawn0.refl _ | apply Drawn0.step)⟩
        · rw [if_neg c42] at H
          have c42b0 : decide (1 ≤ (a0.size : Int)) = false := decide_eq_false c42
          have c42b1 : decide (1 ≤ a0.size) = false := decide_eq_false (by omega)
          clear c42
          obtain rfl := Option.some.inj H
          go_wp2
          go_ret
          exact ⟨by first | rfl | (simp; done) | (simp [*]; done) | (simp; generalize ByteArray.toList _ = l_; cases l_ <;> rfl), by repeat (first | exact Drawn0.refl _ | apply Drawn0.step)⟩

/-! ### descr_Ref: function 24 -/
def descr_Ref.f (a0 : ByteArray) : Option (ByteArray) := if 1 + a0.size ≤ 9223372036854775807 then (if ((⟨#[76]⟩ : ByteArray) ++ a0).size + 1 ≤ 9223372036854775807 then (some (((⟨#[76]⟩ : ByteArray) ++ a0) ++ (⟨#[59]⟩ : ByteArray))) else (none)) else (none)
set_option maxHeartbeats 8000000 in
set_option maxRecDepth 100000 in
theorem descr_Ref.calls (a0 : ByteArray) (r : ByteArray) (w : World) (h : descr_Ref.f a0 = some r) :
    Calls Try.prog 24 #[.string a0] w fun e w' => e = .returned (.string r) ∧ Drawn0 w w' := by
  have H : (if 1 + a0.size ≤ 9223372036854775807 then (if ((⟨#[76]⟩ : ByteArray) ++ a0).size + 1 ≤ 9223372036854775807 then (some (((⟨#[76]⟩ : ByteArray) ++ a0) ++ (⟨#[59]⟩ : ByteArray))) else (none)) else (none)) = some r := h
  clear h
  by_cases c2 : 1 + a0.size ≤ 9223372036854775807
  · rw [if_pos c2] at H
    have c2b0 := eq_true c2
    have c2b1 : decide (1 + a0.size ≤ 9223372036854775807) = true := decide_eq_true c2
    try have c2b2 : (9223372036854775807 < 1 + a0.size) = False := eq_false (Nat.not_lt.2 c2)
    by_cases c3 : ((⟨#[76]⟩ : ByteArray) ++ a0).size + 1 ≤ 9223372036854775807
    · rw [if_pos c3] at H
      have c3b0 := eq_true c3
      have c3b1 : decide (((⟨#[76]⟩ : ByteArray) ++ a0).size + 1 ≤ 9223372036854775807) = true := decide_eq_true c3
      try have c3b2 : (9223372036854775807 < ((⟨#[76]⟩ : ByteArray) ++ a0).size + 1) = False := eq_false (Nat.not_lt.2 c3)
      obtain rfl := Option.some.inj H
      go_enter Try.func24, Try.ntmps24
      go_wp2
      try any_goals first | (exfalso; have c3s := 0; have : (⟨#[76]⟩ : ByteArray).size = 1 := rfl; have := @ByteArray.size_append (⟨#[76]⟩ : ByteArray) a0; omega)
      go_ret
      exact ⟨by first | rfl | (simp; done) | (simp [*]; done) | (simp; generalize ByteArray.toList _ = l_; cases l_ <;> rfl), by repeat (first | exact Drawn0.refl _ | apply Drawn0.step)⟩
    · rw [if_neg c3] at H
      exact absurd H (by simp)
  · rw [if_neg c2] at H
    exact absurd H (by simp)

/-! ### strings_Join: function 34 (given) -/
def strings_Join.f (l0 : List ByteArray) (a1 : ByteArray) : Option (ByteArray) := if l0.length ≤ 140737488355328 ∧ (Lib.join (l0.map (·.data.toList)) a1.data.toList).length ≤ 140737488355328 then some ⟨(Lib.join (l0.map (·.data.toList)) a1.data.toList).toArray⟩ else none
theorem strings_Join.calls (A0 : Option Addr) (c0 : Nat) (l0 : List ByteArray) (a1 : ByteArray) (r : ByteArray) (w : World) (hr0 : Kd.C Kd.string w A0 l0.length l0) (hc0 : l0.length ≤ c0) (h : strings_Join.f l0 a1 = some r) :
    Calls Try.prog 34 #[.slice A0 l0.length c0, .string a1] w fun e w' => e = .returned (.string r) ∧ Below w.heap.size w w' := by
  unfold strings_Join.f at h
  split at h
  · rename_i hc
    obtain rfl := Option.some.inj h
    cases l0 with
    | nil =>
      refine (Go.Proofs.Try.strings_Join_none A0 c0 a1 w).mono ?_
      rintro e w' ⟨rfl, rfl⟩
      exact ⟨rfl, Below.refl _ _⟩
    | cons x xs =>
      obtain ⟨ad, rfl, hcell⟩ := hr0.2.2 (by simp)
      have cell : ∀ (j : Nat) y, (x :: xs)[j]? = some y → w.cell? (ad.add j) = some (.string y) := by
        intro j y hj
        obtain ⟨c, _, hK, hcu⟩ := hcell j y hj
        have hK' : c = [.string y] := hK
        subst hK'
        have := hcu 0 (.string y) rfl
        rwa [show j * Kd.string.sz + 0 = j from Nat.mul_one j] at this
      have h0 := cell 0 x rfl
      obtain ⟨b, o, sp⟩ := ad
      have hsp : sp = none := by
        cases sp with
        | none => rfl
        | some s =>
          exfalso
          rw [show (⟨b, o, some s⟩ : Addr).add 0 = ⟨b, o, some s⟩ from rfl] at h0
          unfold World.cell? at h0
          split at h0 <;> simp at h0
      subst hsp
      have hb : b < w.heap.size := by
        rw [show (⟨b, o, none⟩ : Addr).add 0 = ⟨b, o, none⟩ from rfl] at h0
        rcases Nat.lt_or_ge b w.heap.size with h' | h'
        · exact h'
        · simp [World.cell?, Array.getElem?_eq_none h'] at h0
      have e : ∀ j : Nat, (⟨b, o, none⟩ : Addr).add j = ⟨b, o + j, none⟩ := by
        intro j; unfold Addr.add; split
        · rename_i hj; subst hj; rfl
        · rfl
      refine (Go.Proofs.Try.strings_Join b o c0 (x :: xs) a1 w (fun j y hj => by rw [← e]; exact cell j y hj) hb hc.1 hc0 hc.2).mono ?_
      rintro e w' ⟨rfl, hbw⟩
      exact ⟨rfl, hbw⟩
  · cases h

/-! ### descr_Join: function 26 -/
def descr_Join.f (l0 : List ByteArray) (a1 : ByteArray) : Option (ByteArray) := (strings_Join.f l0 (⟨#[]⟩ : ByteArray)).bind fun t153 => (if 1 + t153.size ≤ 9223372036854775807 then (if ((⟨#[40]⟩ : ByteArray) ++ t153).size + 1 ≤ 9223372036854775807 then (if (((⟨#[40]⟩ : ByteArray) ++ t153) ++ (⟨#[41]⟩ : ByteArray)).size + a1.size ≤ 9223372036854775807 then (some ((((⟨#[40]⟩ : ByteArray) ++ t153) ++ (⟨#[41]⟩ : ByteArray)) ++ a1)) else (none)) else (none)) else (none))
set_option maxHeartbeats 8000000 in
set_option maxRecDepth 100000 in
theorem descr_Join.calls (A0 : Option Addr) (c0 : Nat) (l0 : List ByteArray) (a1 : ByteArray) (r : ByteArray) (w : World) (hr0 : Kd.C Kd.string w A0 l0.length l0) (hc0 : l0.length ≤ c0) (h : descr_Join.f l0 a1 = some r) :
    Calls Try.prog 26 #[.slice A0 l0.length c0, .string a1] w fun e w' => e = .returned (.string r) ∧ Below w.heap.size w w' := by
  have HR0 := Aside0.mk hr0
  have HC0 := Aside0.mk hc0
  clear hr0 hc0
  have HB := Aside0.mk (Below.refl w.heap.size w)
  have H : ((strings_Join.f l0 (⟨#[]⟩ : ByteArray)).bind fun t153 => (if 1 + t153.size ≤ 9223372036854775807 then (if ((⟨#[40]⟩ : ByteArray) ++ t153).size + 1 ≤ 9223372036854775807 then (if (((⟨#[40]⟩ : ByteArray) ++ t153) ++ (⟨#[41]⟩ : ByteArray)).size + a1.size ≤ 9223372036854775807 then (some ((((⟨#[40]⟩ : ByteArray) ++ t153) ++ (⟨#[41]⟩ : ByteArray)) ++ a1)) else (none)) else (none)) else (none))) = some r := h
  clear h
  replace H := Option.bind_eq_some_iff.mp H
  obtain ⟨t153, A30, H⟩ := H
  replace H : (if 1 + t153.size ≤ 9223372036854775807 then (if ((⟨#[40]⟩ : ByteArray) ++ t153).size + 1 ≤ 9223372036854775807 then (if (((⟨#[40]⟩ : ByteArray) ++ t153) ++ (⟨#[41]⟩ : ByteArray)).size + a1.size ≤ 9223372036854775807 then (some ((((⟨#[40]⟩ : ByteArray) ++ t153) ++ (⟨#[41]⟩ : ByteArray)) ++ a1)) else (none)) else (none)) else (none)) = some r := H
  have A3 := Aside0.mk A30
  clear A30
  by_cases c4 : 1 + t153.size ≤ 9223372036854775807
  · rw [if_pos c4] at H
    have c4b0 := eq_true c4
    have c4b1 : decide (1 + t153.size ≤ 9223372036854775807) = true := decide_eq_true c4
    try have c4b2 : (9223372036854775807 < 1 + t153.size) = False := eq_false (Nat.not_lt.2 c4)
    by_cases c5 : ((⟨#[40]⟩ : ByteArray) ++ t153).size + 1 ≤ 9223372036854775807
    · rw [if_pos c5] at H
      have c5b0 := eq_true c5
      have c5b1 : decide (((⟨#[40]⟩ : ByteArray) ++ t153).size + 1 ≤ 9223372036854775807) = true := decide_eq_true c5
      try have c5b2 : (9223372036854775807 < ((⟨#[40]⟩ : ByteArray) ++ t153).size + 1) = False := eq_false (Nat.not_lt.2 c5)
      by_cases c6 : (((⟨#[40]⟩ : ByteArray) ++ t153) ++ (⟨#[41]⟩ : ByteArray)).size + a1.size ≤ 9223372036854775807
      · rw [if_pos c6] at H
        have c6b0 := eq_true c6
        have c6b1 : decide ((((⟨#[40]⟩ : ByteArray) ++ t153) ++ (⟨#[41]⟩ : ByteArray)).size + a1.size ≤ 9223372036854775807) = true := decide_eq_true c6
        try have c6b2 : (9223372036854775807 < (((⟨#[40]⟩ : ByteArray) ++ t153) ++ (⟨#[41]⟩ : ByteArray)).size + a1.size) = False := eq_false (Nat.not_lt.2 c6)
        obtain rfl := Option.some.inj H
        go_enter Try.func26, Try.ntmps26
        go_wp2_with (first | ((with_reducible refine gate_callee (f := 34) rfl ?_); refine goesL_ (some 6) rfl rfl Try.func34 (by kernel_rfl) rfl #[.slice A0 l0.length c0, .string (⟨#[]⟩ : ByteArray)] rfl (by (try simp only [List.map_toArray, List.map_cons, List.map_nil]); first | done | rfl | (simp only [List.length_drop, List.length_take]; rfl)) ?_; (with_reducible refine (strings_Join.calls _ _ l0 (⟨#[]⟩ : ByteArray) t153 _ ?side1 ?side2 A3.out).mono ?_); (case side1 => repeat (first | exact HR0.out | (with_reducible refine Kd.C_alloc ?_ _) | (with_reducible refine Kd.C_drewN ?_ _) | (with_reducible refine Kd.C_drew ?_))); (case side2 => exact HC0.out); rintro e w7 ⟨rfl, hb⟩; refine ⟨_, rfl, ?_⟩; have n0_ := Aside0.mk (below_step (by repeat (first | (with_reducible first | exact HB.out | apply below_alloc | apply pw_below_drewN | apply below_drew1) | exact HB.out)) hb); clear HB; have HB := n0_; clear n0_; (try clear hb); (try clear hb2); (try clear hk); (try clear hi)))
        try any_goals first | (exfalso; have c3s := 0; have : (⟨#[40]⟩ : ByteArray).size = 1 := rfl; have : (⟨#[41]⟩ : ByteArray).size = 1 := rfl; have := @ByteArray.size_append (⟨#[40]⟩ : ByteArray) t153; have := @ByteArray.size_append ((⟨#[40]⟩ : ByteArray) ++ t153) (⟨#[41]⟩ : ByteArray); omega)
        go_ret
        exact ⟨by first | rfl | (simp [errW_none, errW_some] <;> rfl) | (simp [*, errW_none, errW_some] <;> rfl), by repeat (first | (with_reducible first | exact HB.out | apply below_alloc | apply pw_below_drewN | apply below_drew1) | exact HB.out)⟩
      · rw [if_neg c6] at H
        exact absurd H (by simp)
    · rw [if_neg c5] at H
      exact absurd H (by simp)
  · rw [if_neg c4] at H
    exact absurd H (by simp)

end Go.Proofs.Ytdhfjkikoiifcaa.PDescrBack
