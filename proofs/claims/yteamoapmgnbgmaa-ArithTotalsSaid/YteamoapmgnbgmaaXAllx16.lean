-- Written for this claim by a program of this session (around the kit's print).
import Derived.Test.YteamoapmgnbgmaaXAllx0
namespace Go.Proofs.Yteamoapmgnbgmaa.XAll
open Go.RowKit Go.Proofs.YteamoapmgnbgmaaW.PrintWords Go.Proofs.YteamoapmgnbgmaaW.PrintLast Go.Proofs.YteamoapmgnbgmaaW.PrintMore
attribute [local go_sem] max2_int min2_int max_two min_two max_three min_three max_four min_four   -- for this text's walks alone
set_option linter.unusedVariables false
set_option linter.unusedSimpArgs false

/-! ### arith_Sum: function 17 -/
def arith_Sum.l0 : Nat → Int → Int → List Int → Int → Int → Option (Int × Bool)
  | 0, _, _, _, _, _ => none
  | k + 1, x4, x5, x9, x10, x11 => if x11 < x10 then (if 0 ≤ x11 then (if x11 < (x9.length : Int) then (if (IntKind.u64.wrap (x5 + (IntKind.u64.wrap (rd x9 x11)))) < x5 then (if (rd x9 x11) < 0 then (arith_Sum.l0 k (wrap64 ((wrap64 (x4 + 1)) - 1)) (IntKind.u64.wrap (x5 + (IntKind.u64.wrap (rd x9 x11)))) x9 x10 (wrap64 (x11 + 1))) else (arith_Sum.l0 k (wrap64 (x4 + 1)) (IntKind.u64.wrap (x5 + (IntKind.u64.wrap (rd x9 x11)))) x9 x10 (wrap64 (x11 + 1)))) else (if (rd x9 x11) < 0 then (arith_Sum.l0 k (wrap64 (x4 - 1)) (IntKind.u64.wrap (x5 + (IntKind.u64.wrap (rd x9 x11)))) x9 x10 (wrap64 (x11 + 1))) else (arith_Sum.l0 k x4 (IntKind.u64.wrap (x5 + (IntKind.u64.wrap (rd x9 x11)))) x9 x10 (wrap64 (x11 + 1))))) else (none)) else (none)) else (if x4 = 0 then (if x5 ≤ 9223372036854775807 then (some (wrap64 (x5), true)) else (if x4 = (-1) then (if x5 > 9223372036854775807 then (some (wrap64 (x5), true)) else (some (0, false))) else (some (0, false)))) else (if x4 = (-1) then (if x5 > 9223372036854775807 then (some (wrap64 (x5), true)) else (some (0, false))) else (some (0, false))))
def arith_Sum.f (k : Nat) (l0 : List Int) : Option (Int × Bool) := arith_Sum.l0 k 0 0 l0 (l0.length : Int) 0
theorem arith_Sum.mono_l : ∀ k, (∀ y0 y1 y2 y3 y4, LeO (arith_Sum.l0 k y0 y1 y2 y3 y4) (arith_Sum.l0 (k + 1) y0 y1 y2 y3 y4))
  | 0 => fun _ _ _ _ _ r h => by simp [arith_Sum.l0] at h
  | k + 1 => by
    have ih0 := arith_Sum.mono_l k
    · intro y0 y1 y2 y3 y4
      unfold arith_Sum.l0
      repeat' first
      | (with_reducible exact ih0 _ _ _ _ _)
      | (with_reducible exact LeO.refl _)
      | (with_reducible exact LeO.none _)
      | (with_reducible refine LeO.ite ?_ ?_)
      | (with_reducible refine LeO.bind ?_ (fun _ => ?_))
      | exact ih0 _ _ _ _ _
      | exact LeO.none _
      | refine LeO.ite ?_ ?_
      | refine LeO.bind ?_ (fun _ => ?_)
theorem arith_Sum.mono : ∀ a0 k, LeO (arith_Sum.f k a0) (arith_Sum.f (k + 1) a0) := by
  intro a0 k
  have ih0 := arith_Sum.mono_l k
  unfold arith_Sum.f
  repeat' first
      | (with_reducible exact ih0 _ _ _ _ _)
      | (with_reducible exact LeO.refl _)
      | (with_reducible exact LeO.none _)
      | (with_reducible refine LeO.ite ?_ ?_)
      | (with_reducible refine LeO.bind ?_ (fun _ => ?_))
      | exact ih0 _ _ _ _ _
      | exact LeO.none _
      | refine LeO.ite ?_ ?_
      | refine LeO.bind ?_ (fun _ => ?_)
set_option maxHeartbeats 8000000 in
set_option maxRecDepth 100000 in
theorem arith_Sum.calls (k : Nat) (A0 : Option Addr) (c0 : Nat) (l0 : List Int) (r1 : Int) (r2 : Bool) (w : World) (hr0 : Kd.C (Kd.int .i64) w A0 l0.length l0) (hc0 : l0.length ≤ c0) (h : arith_Sum.f k l0 = some (r1, r2)) :
    Calls Try.prog 17 #[.slice A0 l0.length c0] w fun e w' => e = .returned (.tuple #[.int .i64 r1, .bool r2]) ∧ Drawn0 w w' := by
  have HR0 := Aside0.mk hr0
  have HC0 := Aside0.mk hc0
  clear hr0 hc0
  have H : (arith_Sum.l0 k 0 0 l0 (l0.length : Int) 0) = some (r1, r2) := h
  clear h
  have H' := Aside0.mk H
  clear H
  go_enter Try.func17, Try.ntmps17
  go_wp2
  go_loopg [4, 5, 11] k (fun kq v4 v5 v11 w' => ∃ (x4_1 : Int) (x5_1 : Int) (x11_1 : Int), v4 = .int .i64 x4_1 ∧ v5 = .int .u64 x5_1 ∧ v11 = .int .i64 x11_1 ∧ Aside0 (arith_Sum.l0 kq x4_1 x5_1 l0 (l0.length : Int) x11_1 = some (r1, r2)) ∧ Aside0 (kq ≤ k) ∧ Drawn0 w w')
  case atStart => exact ⟨(0), (0), (0), (by first | rfl | (simp; done) | (simp [*]; done)), (by first | rfl | (simp; done) | (simp [*]; done)), (by first | rfl | (simp; done) | (simp [*]; done)), H', ⟨Nat.le_refl _⟩, by repeat (first | exact Drawn0.refl _ | apply Drawn0.step)⟩
  case round =>
    clear H'
    try clear c1
    obtain ⟨x4_1, x5_1, x11_1, rfl, rfl, rfl, HA, HK1, ⟨m1, rfl⟩⟩ := hrel
    cases gk with
    | zero => exact absurd HA.out (by simp [arith_Sum.l0])
    | succ k1 =>
      have H := HA.out
      clear HA
      simp only [arith_Sum.l0] at H
      by_cases c2 : x11_1 < (l0.length : Int)
      · rw [if_pos c2] at H
        have c2b0 : decide (x11_1 < (l0.length : Int)) = true := decide_eq_true c2
        clear c2
        by_cases c3 : 0 ≤ x11_1
        · rw [if_pos c3] at H
          have c3b0 : decide (0 ≤ x11_1) = true := decide_eq_true c3
          clear c3
          by_cases c4 : x11_1 < (l0.length : Int)
          · rw [if_pos c4] at H
            have c4b0 : decide (x11_1 < (l0.length : Int)) = true := decide_eq_true c4
            clear c4
            by_cases c5 : (IntKind.u64.wrap (x5_1 + (IntKind.u64.wrap (rd l0 x11_1)))) < x5_1
            · rw [if_pos c5] at H
              have c5b0 : decide ((IntKind.u64.wrap (x5_1 + (IntKind.u64.wrap (rd l0 x11_1)))) < x5_1) = true := decide_eq_true c5
              clear c5
              by_cases c6 : (rd l0 x11_1) < 0
              · rw [if_pos c6] at H
                have c6b0 : decide ((rd l0 x11_1) < 0) = true := decide_eq_true c6
                clear c6
                have H' := Aside0.mk H
                clear H
                have p203 : 0 ≤ (x11_1 : Int) := of_decide_eq_true (by first | (with_reducible assumption) | assumption)
                have q203 : x11_1 < (l0.length : Int) := of_decide_eq_true (by first | (with_reducible assumption) | assumption)
                obtain ⟨ad203, e203, hx203_0⟩ := Kd.at_int HR0.out x11_1 p203 q203
                cases e203
                replace p203 := eq_true p203
                replace q203 := eq_true q203
                go_wp2
                go_roundg k1
                case measure => have := HK1.out; omega
                case rel => exact ⟨(wrap64 ((wrap64 (x4_1 + 1)) - 1)), (IntKind.u64.wrap (x5_1 + (IntKind.u64.wrap (rd l0 x11_1)))), (wrap64 (x11_1 + 1)), (by first | rfl | (simp; done) | (simp [*]; done)), (by first | rfl | (simp; done) | (simp [*]; done)), (by first | rfl | (simp; done) | (simp [*]; done)), H', ⟨by have := HK1.out; omega⟩, by repeat (first | exact Drawn0.refl _ | apply Drawn0.step)⟩
              · rw [if_neg c6] at H
                have c6b0 : decide ((rd l0 x11_1) < 0) = false := decide_eq_false c6
                clear c6
                have H' := Aside0.mk H
                clear H
                have p203 : 0 ≤ (x11_1 : Int) := of_decide_eq_true (by first | (with_reducible assumption) | assumption)
                have q203 : x11_1 < (l0.length : Int) := of_decide_eq_true (by first | (with_reducible assumption) | assumption)
                obtain ⟨ad203, e203, hx203_0⟩ := Kd.at_int HR0.out x11_1 p203 q203
                cases e203
                replace p203 := eq_true p203
                replace q203 := eq_true q203
                go_wp2
                go_roundg k1
                case measure => have := HK1.out; omega
                case rel => exact ⟨(wrap64 (x4_1 + 1)), (IntKind.u64.wrap (x5_1 + (IntKind.u64.wrap (rd l0 x11_1)))), (wrap64 (x11_1 + 1)), (by first | rfl | (simp; done) | (simp [*]; done)), (by first | rfl | (simp; done) | (simp [*]; done)), (by first | rfl | (simp; done) | (simp [*]; done)), H', ⟨by have := HK1.out; omega⟩, by repeat (first | exact Drawn0.refl _ | apply Drawn0.step)⟩
            · rw [if_neg c5] at H
              have c5b0 : decide ((IntKind.u64.wrap (x5_1 + (IntKind.u64.wrap (rd l0 x11_1)))) < x5_1) = false := decide_eq_false c5
              clear c5
              by_cases c7 : (rd l0 x11_1) < 0
              · rw [if_pos c7] at H
                have c7b0 : decide ((rd l0 x11_1) < 0) = true := decide_eq_true c7
                clear c7
                have H' := Aside0.mk H
                clear H
                have p203 : 0 ≤ (x11_1 : Int) := of_decide_eq_true (by first | (with_reducible assumption) | assumption)
                have q203 : x11_1 < (l0.length : Int) := of_decide_eq_true (by first | (with_reducible assumption) | assumption)
                obtain ⟨ad203, e203, hx203_0⟩ := Kd.at_int HR0.out x11_1 p203 q203
                cases e203
                replace p203 := eq_true p203
                replace q203 := eq_true q203
                go_wp2
                go_roundg k1
                case measure => have := HK1.out; omega
                case rel => exact ⟨(wrap64 (x4_1 - 1)), (IntKind.u64.wrap (x5_1 + (IntKind.u64.wrap (rd l0 x11_1)))), (wrap64 (x11_1 + 1)), (by first | rfl | (simp; done) | (simp [*]; done)), (by first | rfl | (simp; done) | (simp [*]; done)), (by first | rfl | (simp; done) | (simp [*]; done)), H', ⟨by have := HK1.out; omega⟩, by repeat (first | exact Drawn0.refl _ | apply Drawn0.step)⟩
              · rw [if_neg c7] at H
                have c7b0 : decide ((rd l0 x11_1) < 0) = false := decide_eq_false c7
                clear c7
                have H' := Aside0.mk H
                clear H
                have p203 : 0 ≤ (x11_1 : Int) := of_decide_eq_true (by first | (with_reducible assumption) | assumption)
                have q203 : x11_1 < (l0.length : Int) := of_decide_eq_true (by first | (with_reducible assumption) | assumption)
                obtain ⟨ad203, e203, hx203_0⟩ := Kd.at_int HR0.out x11_1 p203 q203
                cases e203
                replace p203 := eq_true p203
                replace q203 := eq_true q203
                go_wp2
                go_roundg k1
                case measure => have := HK1.out; omega
                case rel => exact ⟨(x4_1), (IntKind.u64.wrap (x5_1 + (IntKind.u64.wrap (rd l0 x11_1)))), (wrap64 (x11_1 + 1)), (by first | rfl | (simp; done) | (simp [*]; done)), (by first | rfl | (simp; done) | (simp [*]; done)), (by first | rfl | (simp; done) | (simp [*]; done)), H', ⟨by have := HK1.out; omega⟩, by repeat (first | exact Drawn0.refl _ | apply Drawn0.step)⟩
          · rw [if_neg c4] at H
            exact absurd H (by simp)
        · rw [if_neg c3] at H
          exact absurd H (by simp)
      · rw [if_neg c2] at H
        have c2b0 : decide (x11_1 < (l0.length : Int)) = false := decide_eq_false c2
        clear c2
        by_cases c8 : x4_1 = 0
        · rw [if_pos c8] at H
          have c8b0 : (x4_1 == 0) = true := beq_iff_eq.mpr c8
          have c8b1 : (x4_1 != 0) = false := bne_eq_false_iff_eq.mpr c8
          clear c8
          by_cases c9 : x5_1 ≤ 9223372036854775807
          · rw [if_pos c9] at H
            have c9b0 : decide (x5_1 ≤ 9223372036854775807) = true := decide_eq_true c9
            clear c9
            simp only [Option.some.injEq, Prod.mk.injEq] at H
            obtain ⟨rfl, rfl⟩ := H
            go_wp2
            go_ret2
            exact ⟨by first | rfl | (simp; done) | (simp [*]; done), by repeat (first | exact Drawn0.refl _ | apply Drawn0.step)⟩
          · rw [if_neg c9] at H
            have c9b0 : decide (x5_1 ≤ 9223372036854775807) = false := decide_eq_false c9
            clear c9
            by_cases c10 : x4_1 = (-1)
            · rw [if_pos c10] at H
              have c10b0 : (x4_1 == (-1)) = true := beq_iff_eq.mpr c10
              have c10b1 : (x4_1 != (-1)) = false := bne_eq_false_iff_eq.mpr c10
              clear c10
              by_cases c11 : x5_1 > 9223372036854775807
              · rw [if_pos c11] at H
                have c11b0 : decide (9223372036854775807 < x5_1) = true := decide_eq_true c11
                clear c11
                simp only [Option.some.injEq, Prod.mk.injEq] at H
                obtain ⟨rfl, rfl⟩ := H
                go_wp2
                go_ret2
                exact ⟨by first | rfl | (simp; done) | (simp [*]; done), by repeat (first | exact Drawn0.refl _ | apply Drawn0.step)⟩
              · rw [if_neg c11] at H
                have c11b0 : decide (9223372036854775807 < x5_1) = false := decide_eq_false c11
                clear c11
                simp only [Option.some.injEq, Prod.mk.injEq] at H
                obtain ⟨rfl, rfl⟩ := H
                go_wp2
                go_ret2
                exact ⟨by first | rfl | (simp; done) | (simp [*]; done), by repeat (first | exact Drawn0.refl _ | apply Drawn0.step)⟩
            · rw [if_neg c10] at H
              have c10b0 : (x4_1 == (-1)) = false := beq_eq_false_iff_ne.mpr c10
              have c10b1 : (x4_1 != (-1)) = true := bne_iff_ne.mpr c10
              simp only [Option.some.injEq, Prod.mk.injEq] at H
              obtain ⟨rfl, rfl⟩ := H
              go_wp2
              go_ret2
              exact ⟨by first | rfl | (simp; done) | (simp [*]; done), by repeat (first | exact Drawn0.refl _ | apply Drawn0.step)⟩
        · rw [if_neg c8] at H
          have c8b0 : (x4_1 == 0) = false := beq_eq_false_iff_ne.mpr c8
          have c8b1 : (x4_1 != 0) = true := bne_iff_ne.mpr c8
          by_cases c12 : x4_1 = (-1)
          · rw [if_pos c12] at H
            have c12b0 : (x4_1 == (-1)) = true := beq_iff_eq.mpr c12
            have c12b1 : (x4_1 != (-1)) = false := bne_eq_false_iff_eq.mpr c12
            clear c12
            by_cases c13 : x5_1 > 9223372036854775807
            · rw [if_pos c13] at H
              have c13b0 : decide (9223372036854775807 < x5_1) = true := decide_eq_true c13
              clear c13
              simp only [Option.some.injEq, Prod.mk.injEq] at H
              obtain ⟨rfl, rfl⟩ := H
              go_wp2
              go_ret2
              exact ⟨by first | rfl | (simp; done) | (simp [*]; done), by repeat (first | exact Drawn0.refl _ | apply Drawn0.step)⟩
            · rw [if_neg c13] at H
              have c13b0 : decide (9223372036854775807 < x5_1) = false := decide_eq_false c13
              clear c13
              simp only [Option.some.injEq, Prod.mk.injEq] at H
              obtain ⟨rfl, rfl⟩ := H
              go_wp2
              go_ret2
              exact ⟨by first | rfl | (simp; done) | (simp [*]; done), by repeat (first | exact Drawn0.refl _ | apply Drawn0.step)⟩
          · rw [if_neg c12] at H
            have c12b0 : (x4_1 == (-1)) = false := beq_eq_false_iff_ne.mpr c12
            have c12b1 : (x4_1 != (-1)) = true := bne_iff_ne.mpr c12
            simp only [Option.some.injEq, Prod.mk.injEq] at H
            obtain ⟨rfl, rfl⟩ := H
            go_wp2
            go_ret2
            exact ⟨by first | rfl | (simp; done) | (simp [*]; done), by repeat (first | exact Drawn0.refl _ | apply Drawn0.step)⟩

end Go.Proofs.Yteamoapmgnbgmaa.XAll
