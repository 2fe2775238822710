-- Written for this claim by a program of this session (around the kit's print).
import Derived.Test.YtpponaflfpafnaaXAllx0
import Derived.Test.YtpponaflfpafnaaXAllx17
import Derived.Test.YtpponaflfpafnaaXAllx18
import Derived.Test.YtpponaflfpafnaaXAllx19
namespace Go.Proofs.Ytpponaflfpafnaa.XAll
open Go.RowKit Go.Proofs.YtpponaflfpafnaaW.PrintWords Go.Proofs.YtpponaflfpafnaaW.PrintLast Go.Proofs.YtpponaflfpafnaaW.PrintMore
attribute [local go_sem] max2_int min2_int max_two min_two max_three min_three max_four min_four   -- for this text's walks alone
set_option linter.unusedVariables false
set_option linter.unusedSimpArgs false

/-! ### arith_Do: function 19 -/
def arith_Do.j0 : Nat → Int → Int → Int → Bool → Option (Int × Bool)
  | 0, _, _, _, _ => none
  | k + 1, x0, x1, x2, x30 => if x30 = true then (if x2 = 0 then (some (0, false)) else (if x2 = (-1) then (if x0 = 4 then (some (0, true)) else ((arith_sub.f 0 x1).bind fun bt282 => (some (bt282.1, bt282.2)))) else (if x0 = 3 then (some (wrap64 (Int.tdiv x1 x2), true)) else (some (Int.tmod x1 x2, true))))) else (some (0, false))
def arith_Do.f (k : Nat) (a0 : Int) (a1 : Int) (a2 : Int) : Option (Int × Bool) := if a0 = 0 then ((arith_add.f a1 a2).bind fun bt276 => (some (bt276.1, bt276.2))) else (if a0 = 1 then ((arith_sub.f a1 a2).bind fun bt278 => (some (bt278.1, bt278.2))) else (if a0 = 2 then ((arith_mul.f k a1 a2).bind fun bt280 => (some (bt280.1, bt280.2))) else (if a0 = 3 then (arith_Do.j0 k a0 a1 a2 (a0 == 3)) else (arith_Do.j0 k a0 a1 a2 (a0 == 4)))))
theorem arith_Do.mono_l : ∀ k, (∀ y0 y1 y2 y3, LeO (arith_Do.j0 k y0 y1 y2 y3) (arith_Do.j0 (k + 1) y0 y1 y2 y3))
  | 0 => fun _ _ _ _ r h => by simp [arith_Do.j0] at h
  | k + 1 => by
    have ih0 := arith_Do.mono_l k
    · intro y0 y1 y2 y3
      unfold arith_Do.j0
      repeat' first
      | (with_reducible exact ih0 _ _ _ _)
      | (with_reducible exact arith_mul.mono _ _ _)
      | (with_reducible exact LeO.refl _)
      | (with_reducible exact LeO.none _)
      | (with_reducible refine LeO.ite ?_ ?_)
      | (with_reducible refine LeO.bind ?_ (fun _ => ?_))
      | exact ih0 _ _ _ _
      | exact arith_mul.mono _ _ _
      | exact LeO.none _
      | refine LeO.ite ?_ ?_
      | refine LeO.bind ?_ (fun _ => ?_)
theorem arith_Do.mono : ∀ a0 a1 a2 k, LeO (arith_Do.f k a0 a1 a2) (arith_Do.f (k + 1) a0 a1 a2) := by
  intro a0 a1 a2 k
  have ih0 := arith_Do.mono_l k
  unfold arith_Do.f
  repeat' first
      | (with_reducible exact ih0 _ _ _ _)
      | (with_reducible exact arith_mul.mono _ _ _)
      | (with_reducible exact LeO.refl _)
      | (with_reducible exact LeO.none _)
      | (with_reducible refine LeO.ite ?_ ?_)
      | (with_reducible refine LeO.bind ?_ (fun _ => ?_))
      | exact ih0 _ _ _ _
      | exact arith_mul.mono _ _ _
      | exact LeO.none _
      | refine LeO.ite ?_ ?_
      | refine LeO.bind ?_ (fun _ => ?_)
set_option maxHeartbeats 8000000 in
set_option maxRecDepth 100000 in
theorem arith_Do.calls (k : Nat) (a0 : Int) (a1 : Int) (a2 : Int) (r1 : Int) (r2 : Bool) (w : World) (h : arith_Do.f k a0 a1 a2 = some (r1, r2)) :
    Calls Try.prog 19 #[.int .i64 a0, .int .i64 a1, .int .i64 a2] w fun e w' => e = .returned (.tuple #[.int .i64 r1, .bool r2]) ∧ Drawn0 w w' := by
  have H : (if a0 = 0 then ((arith_add.f a1 a2).bind fun bt276 => (some (bt276.1, bt276.2))) else (if a0 = 1 then ((arith_sub.f a1 a2).bind fun bt278 => (some (bt278.1, bt278.2))) else (if a0 = 2 then ((arith_mul.f k a1 a2).bind fun bt280 => (some (bt280.1, bt280.2))) else (if a0 = 3 then (arith_Do.j0 k a0 a1 a2 (a0 == 3)) else (arith_Do.j0 k a0 a1 a2 (a0 == 4)))))) = some (r1, r2) := h
  clear h
  by_cases c4 : a0 = 0
  · rw [if_pos c4] at H
    have c4b0 : (a0 == 0) = true := beq_iff_eq.mpr c4
    have c4b1 : (a0 != 0) = false := bne_eq_false_iff_eq.mpr c4
    clear c4
    replace H := Option.bind_eq_some_iff.mp H
    obtain ⟨⟨t276, t277⟩, A50, H⟩ := H
    replace H : (some (t276, t277)) = some (r1, r2) := H
    have A5 := Aside0.mk A50
    clear A50
    simp only [Option.some.injEq, Prod.mk.injEq] at H
    obtain ⟨rfl, rfl⟩ := H
    go_enter Try.func19, Try.ntmps19
    go_wp2_with (first | ((with_reducible refine gate_callee (f := 22) rfl ?_); refine goesL_ (some 13) rfl rfl Try.func22 (by kernel_rfl) rfl #[.int .i64 a1, .int .i64 a2] rfl (by (try simp only [List.map_toArray, List.map_cons, List.map_nil]); first | done | rfl | (simp only [List.length_drop, List.length_take]; rfl)) ?_; (with_reducible refine (arith_add.calls a1 a2 t276 t277 _ A5.out).mono ?_); rintro e w' ⟨rfl, ⟨nd, rfl⟩⟩; refine ⟨_, rfl, ?_⟩))
    go_ret2
    exact ⟨by first | rfl | (simp; done) | (simp [*]; done), by repeat (first | exact Drawn0.refl _ | apply Drawn0.step)⟩
  · rw [if_neg c4] at H
    have c4b0 : (a0 == 0) = false := beq_eq_false_iff_ne.mpr c4
    have c4b1 : (a0 != 0) = true := bne_iff_ne.mpr c4
    by_cases c6 : a0 = 1
    · rw [if_pos c6] at H
      have c6b0 : (a0 == 1) = true := beq_iff_eq.mpr c6
      have c6b1 : (a0 != 1) = false := bne_eq_false_iff_eq.mpr c6
      clear c6
      replace H := Option.bind_eq_some_iff.mp H
      obtain ⟨⟨t278, t279⟩, A70, H⟩ := H
      replace H : (some (t278, t279)) = some (r1, r2) := H
      have A7 := Aside0.mk A70
      clear A70
      simp only [Option.some.injEq, Prod.mk.injEq] at H
      obtain ⟨rfl, rfl⟩ := H
      go_enter Try.func19, Try.ntmps19
      go_wp2_with (first | ((with_reducible refine gate_callee (f := 23) rfl ?_); refine goesL_ (some 20) rfl rfl Try.func23 (by kernel_rfl) rfl #[.int .i64 a1, .int .i64 a2] rfl (by (try simp only [List.map_toArray, List.map_cons, List.map_nil]); first | done | rfl | (simp only [List.length_drop, List.length_take]; rfl)) ?_; (with_reducible refine (arith_sub.calls a1 a2 t278 t279 _ A7.out).mono ?_); rintro e w' ⟨rfl, ⟨nd, rfl⟩⟩; refine ⟨_, rfl, ?_⟩))
      go_ret2
      exact ⟨by first | rfl | (simp; done) | (simp [*]; done), by repeat (first | exact Drawn0.refl _ | apply Drawn0.step)⟩
    · rw [if_neg c6] at H
      have c6b0 : (a0 == 1) = false := beq_eq_false_iff_ne.mpr c6
      have c6b1 : (a0 != 1) = true := bne_iff_ne.mpr c6
      by_cases c8 : a0 = 2
      · rw [if_pos c8] at H
        have c8b0 : (a0 == 2) = true := beq_iff_eq.mpr c8
        have c8b1 : (a0 != 2) = false := bne_eq_false_iff_eq.mpr c8
        clear c8
        replace H := Option.bind_eq_some_iff.mp H
        obtain ⟨⟨t280, t281⟩, A90, H⟩ := H
        replace H : (some (t280, t281)) = some (r1, r2) := H
        have A9 := Aside0.mk A90
        clear A90
        simp only [Option.some.injEq, Prod.mk.injEq] at H
        obtain ⟨rfl, rfl⟩ := H
        go_enter Try.func19, Try.ntmps19
        go_wp2_with (first | ((with_reducible refine gate_callee (f := 24) rfl ?_); refine goesL_ (some 27) rfl rfl Try.func24 (by kernel_rfl) rfl #[.int .i64 a1, .int .i64 a2] rfl (by (try simp only [List.map_toArray, List.map_cons, List.map_nil]); first | done | rfl | (simp only [List.length_drop, List.length_take]; rfl)) ?_; (with_reducible refine (arith_mul.calls k a1 a2 t280 t281 _ A9.out).mono ?_); rintro e w' ⟨rfl, ⟨nd, rfl⟩⟩; refine ⟨_, rfl, ?_⟩))
        go_ret2
        exact ⟨by first | rfl | (simp; done) | (simp [*]; done), by repeat (first | exact Drawn0.refl _ | apply Drawn0.step)⟩
      · rw [if_neg c8] at H
        have c8b0 : (a0 == 2) = false := beq_eq_false_iff_ne.mpr c8
        have c8b1 : (a0 != 2) = true := bne_iff_ne.mpr c8
        have HC10 := Aside0.mk H
        clear H
        go_enter Try.func19, Try.ntmps19
        go_upto_if 30 with (fail)
        go_cut [30] (fun v30 wc => ∃ (kq : Nat) (x30_9 : Bool), v30 = .bool x30_9 ∧ Aside0 (arith_Do.j0 kq a0 a1 a2 x30_9 = some (r1, r2)) ∧ Aside0 (kq ≤ k) ∧ Drawn0 w wc)
        case first =>
          have H := HC10.out
          clear HC10
          by_cases c11 : a0 = 3
          · rw [if_pos c11] at H
            have c11b0 : (a0 == 3) = true := beq_iff_eq.mpr c11
            have c11b1 : (a0 != 3) = false := bne_eq_false_iff_eq.mpr c11
            clear c11
            (first | rw [c11b0] | (simp only [i64_w, i32_w]; rw [c11b0]) | skip)
            have H' := Aside0.mk H
            clear H
            go_wp2
            go_meet
            case rel => exact ⟨_, ((a0 == 3)), (by first | rfl | (simp; done) | (simp [*]; done)), H', ⟨by first | omega | exact Nat.le_refl _⟩, by repeat (first | exact Drawn0.refl _ | apply Drawn0.step)⟩
          · rw [if_neg c11] at H
            have c11b0 : (a0 == 3) = false := beq_eq_false_iff_ne.mpr c11
            have c11b1 : (a0 != 3) = true := bne_iff_ne.mpr c11
            (first | rw [c11b0] | (simp only [i64_w, i32_w]; rw [c11b0]) | skip)
            have H' := Aside0.mk H
            clear H
            go_wp2
            go_meet
            case rel => exact ⟨_, ((a0 == 4)), (by first | rfl | (simp; done) | (simp [*]; done)), H', ⟨by first | omega | exact Nat.le_refl _⟩, by repeat (first | exact Drawn0.refl _ | apply Drawn0.step)⟩
        case rest =>
          clear HC10
          try clear c1
          try clear c2
          try clear p2
          try clear c4
          try clear c4b0
          try clear c4b1
          try clear c6
          try clear c6b0
          try clear c6b1
          try clear c8
          try clear c8b0
          try clear c8b1
          try clear c11
          try clear c11b0
          try clear c11b1
          obtain ⟨kq, x30_9, rfl, HA, HJ9, ⟨mc9, rfl⟩⟩ := hcut
          cases kq with
          | zero => exact absurd HA.out (by simp [arith_Do.j0])
          | succ kj9 =>
            have H := HA.out
            clear HA
            simp only [arith_Do.j0] at H
            by_cases c12 : x30_9 = true
            · subst c12
              have H1 : (if a2 = 0 then (some (0, false)) else (if a2 = (-1) then (if a0 = 4 then (some (0, true)) else ((arith_sub.f 0 a1).bind fun bt282 => (some (bt282.1, bt282.2)))) else (if a0 = 3 then (some (wrap64 (Int.tdiv a1 a2), true)) else (some (Int.tmod a1 a2, true))))) = some (r1, r2) := by rw [if_pos rfl] at H; exact H
              clear H
              have H := H1
              clear H1
              by_cases c13 : a2 = 0
              · rw [if_pos c13] at H
                have c13b0 : (a2 == 0) = true := beq_iff_eq.mpr c13
                have c13b1 : (a2 != 0) = false := bne_eq_false_iff_eq.mpr c13
                clear c13
                simp only [Option.some.injEq, Prod.mk.injEq] at H
                obtain ⟨rfl, rfl⟩ := H
                go_wp2
                go_ret2
                exact ⟨by first | rfl | (simp; done) | (simp [*]; done), by repeat (first | exact Drawn0.refl _ | apply Drawn0.step)⟩
              · rw [if_neg c13] at H
                have c13b0 : (a2 == 0) = false := beq_eq_false_iff_ne.mpr c13
                have c13b1 : (a2 != 0) = true := bne_iff_ne.mpr c13
                by_cases c14 : a2 = (-1)
                · rw [if_pos c14] at H
                  have c14b0 : (a2 == (-1)) = true := beq_iff_eq.mpr c14
                  have c14b1 : (a2 != (-1)) = false := bne_eq_false_iff_eq.mpr c14
                  clear c14
                  by_cases c15 : a0 = 4
                  · rw [if_pos c15] at H
                    have c15b0 : (a0 == 4) = true := beq_iff_eq.mpr c15
                    have c15b1 : (a0 != 4) = false := bne_eq_false_iff_eq.mpr c15
                    clear c15
                    simp only [Option.some.injEq, Prod.mk.injEq] at H
                    obtain ⟨rfl, rfl⟩ := H
                    go_wp2
                    go_ret2
                    exact ⟨by first | rfl | (simp; done) | (simp [*]; done), by repeat (first | exact Drawn0.refl _ | apply Drawn0.step)⟩
                  · rw [if_neg c15] at H
                    have c15b0 : (a0 == 4) = false := beq_eq_false_iff_ne.mpr c15
                    have c15b1 : (a0 != 4) = true := bne_iff_ne.mpr c15
                    replace H := Option.bind_eq_some_iff.mp H
                    obtain ⟨⟨t282, t283⟩, A160, H⟩ := H
                    replace H : (some (t282, t283)) = some (r1, r2) := H
                    have A16 := Aside0.mk A160
                    clear A160
                    simp only [Option.some.injEq, Prod.mk.injEq] at H
                    obtain ⟨rfl, rfl⟩ := H
                    go_wp2_with (first | ((with_reducible refine gate_callee (f := 23) rfl ?_); refine goesL_ (some 40) rfl rfl Try.func23 (by kernel_rfl) rfl #[.int .i64 0, .int .i64 a1] rfl (by (try simp only [List.map_toArray, List.map_cons, List.map_nil]); first | done | rfl | (simp only [List.length_drop, List.length_take]; rfl)) ?_; (with_reducible refine (arith_sub.calls 0 a1 t282 t283 _ A16.out).mono ?_); rintro e w' ⟨rfl, ⟨nd, rfl⟩⟩; refine ⟨_, rfl, ?_⟩))
                    go_ret2
                    exact ⟨by first | rfl | (simp; done) | (simp [*]; done), by repeat (first | exact Drawn0.refl _ | apply Drawn0.step)⟩
                · rw [if_neg c14] at H
                  have c14b0 : (a2 == (-1)) = false := beq_eq_false_iff_ne.mpr c14
                  have c14b1 : (a2 != (-1)) = true := bne_iff_ne.mpr c14
                  by_cases c17 : a0 = 3
                  · rw [if_pos c17] at H
                    have c17b0 : (a0 == 3) = true := beq_iff_eq.mpr c17
                    have c17b1 : (a0 != 3) = false := bne_eq_false_iff_eq.mpr c17
                    clear c17
                    simp only [Option.some.injEq, Prod.mk.injEq] at H
                    obtain ⟨rfl, rfl⟩ := H
                    go_wp2
                    go_ret2
                    exact ⟨by first | rfl | (simp; done) | (simp [*]; done), by repeat (first | exact Drawn0.refl _ | apply Drawn0.step)⟩
                  · rw [if_neg c17] at H
                    have c17b0 : (a0 == 3) = false := beq_eq_false_iff_ne.mpr c17
                    have c17b1 : (a0 != 3) = true := bne_iff_ne.mpr c17
                    simp only [Option.some.injEq, Prod.mk.injEq] at H
                    obtain ⟨rfl, rfl⟩ := H
                    go_wp2
                    go_ret2
                    exact ⟨by first | rfl | (simp; done) | (simp [*]; done), by repeat (first | exact Drawn0.refl _ | apply Drawn0.step)⟩
            · replace c12 := Bool.eq_false_iff.mpr c12
              subst c12
              have H1 : (some (0, false)) = some (r1, r2) := by rw [if_neg (show ¬ (false = true) by decide)] at H; exact H
              clear H
              have H := H1
              clear H1
              simp only [Option.some.injEq, Prod.mk.injEq] at H
              obtain ⟨rfl, rfl⟩ := H
              go_wp2
              go_ret2
              exact ⟨by first | rfl | (simp; done) | (simp [*]; done), by repeat (first | exact Drawn0.refl _ | apply Drawn0.step)⟩

end Go.Proofs.Ytpponaflfpafnaa.XAll
