-- Written for this claim by a program of this session (around the kit's print).
import Derived.Test.YteamoapmgnbgmaaXAllx0
import Derived.Test.YteamoapmgnbgmaaXAllx4
import Derived.Test.YteamoapmgnbgmaaXAllx5
import Derived.Test.YteamoapmgnbgmaaXAllx12
namespace Go.Proofs.Yteamoapmgnbgmaa.XAll
open Go.RowKit Go.Proofs.YteamoapmgnbgmaaW.PrintWords Go.Proofs.YteamoapmgnbgmaaW.PrintLast Go.Proofs.YteamoapmgnbgmaaW.PrintMore
attribute [local go_sem] max2_int min2_int max_two min_two max_three min_three max_four min_four   -- for this text's walks alone
set_option linter.unusedVariables false
set_option linter.unusedSimpArgs false

/-! ### ergolaw02_ArithSums: function 7 -/
def ergolaw02_ArithSums.j0 : Nat → Int → Int → Bool → Option (Bool)
  | 0, _, _, _ => none
  | k + 1, x0, x1, x34 => if x34 = true then (some false) else ((arith_Do.f k 1 x0 x1).bind fun bt178 => (if x1 = (-9223372036854775808) then (if (bt178.2 == (decide (x0 < 0))) = true then (if bt178.2 = true then (some ((wrap64 (bt178.1 - 1)) == (wrap64 (x0 + 9223372036854775807)))) else (if bt178.1 = 0 then (some true) else (some false))) else (some false)) else ((ergolaw02_sum.f x0 (wrap64 (-x1))).bind fun bt180 => (if (bt178.2 == bt180.2) = true then (some (bt178.1 == bt180.1)) else (some false)))))
def ergolaw02_ArithSums.f (k : Nat) (a0 : Int) (a1 : Int) : Option (Bool) := (ergolaw02_head.f).bind fun t173 => (if t173 = true then ((arith_Do.f k 0 a0 a1).bind fun bt174 => ((ergolaw02_sum.f a0 a1).bind fun bt176 => (if (bt174.2 != bt176.2) = true then (ergolaw02_ArithSums.j0 k a0 a1 true) else (ergolaw02_ArithSums.j0 k a0 a1 (bt174.1 != bt176.1))))) else (some false))
theorem ergolaw02_ArithSums.mono_l : ∀ k, (∀ y0 y1 y2, LeO (ergolaw02_ArithSums.j0 k y0 y1 y2) (ergolaw02_ArithSums.j0 (k + 1) y0 y1 y2))
  | 0 => fun _ _ _ r h => by simp [ergolaw02_ArithSums.j0] at h
  | k + 1 => by
    have ih0 := ergolaw02_ArithSums.mono_l k
    · intro y0 y1 y2
      unfold ergolaw02_ArithSums.j0
      repeat' first
      | (with_reducible exact ih0 _ _ _)
      | (with_reducible exact arith_Do.mono _ _ _ _)
      | (with_reducible exact LeO.refl _)
      | (with_reducible exact LeO.none _)
      | (with_reducible refine LeO.ite ?_ ?_)
      | (with_reducible refine LeO.bind ?_ (fun _ => ?_))
      | exact ih0 _ _ _
      | exact arith_Do.mono _ _ _ _
      | exact LeO.none _
      | refine LeO.ite ?_ ?_
      | refine LeO.bind ?_ (fun _ => ?_)
theorem ergolaw02_ArithSums.mono : ∀ a0 a1 k, LeO (ergolaw02_ArithSums.f k a0 a1) (ergolaw02_ArithSums.f (k + 1) a0 a1) := by
  intro a0 a1 k
  have ih0 := ergolaw02_ArithSums.mono_l k
  unfold ergolaw02_ArithSums.f
  repeat' first
      | (with_reducible exact ih0 _ _ _)
      | (with_reducible exact arith_Do.mono _ _ _ _)
      | (with_reducible exact LeO.refl _)
      | (with_reducible exact LeO.none _)
      | (with_reducible refine LeO.ite ?_ ?_)
      | (with_reducible refine LeO.bind ?_ (fun _ => ?_))
      | exact ih0 _ _ _
      | exact arith_Do.mono _ _ _ _
      | exact LeO.none _
      | refine LeO.ite ?_ ?_
      | refine LeO.bind ?_ (fun _ => ?_)
set_option maxHeartbeats 8000000 in
set_option maxRecDepth 100000 in
theorem ergolaw02_ArithSums.calls (k : Nat) (a0 : Int) (a1 : Int) (r : Bool) (w : World) (h : ergolaw02_ArithSums.f k a0 a1 = some r) :
    Calls Try.prog 7 #[.int .i64 a0, .int .i64 a1] w fun e w' => e = .returned (.bool r) ∧ Below w.heap.size w w' := by
  have HB := Aside0.mk (Below.refl w.heap.size w)
  have H : ((ergolaw02_head.f).bind fun t173 => (if t173 = true then ((arith_Do.f k 0 a0 a1).bind fun bt174 => ((ergolaw02_sum.f a0 a1).bind fun bt176 => (if (bt174.2 != bt176.2) = true then (ergolaw02_ArithSums.j0 k a0 a1 true) else (ergolaw02_ArithSums.j0 k a0 a1 (bt174.1 != bt176.1))))) else (some false))) = some r := h
  clear h
  replace H := Option.bind_eq_some_iff.mp H
  obtain ⟨t173, A30, H⟩ := H
  replace H : (if t173 = true then ((arith_Do.f k 0 a0 a1).bind fun bt174 => ((ergolaw02_sum.f a0 a1).bind fun bt176 => (if (bt174.2 != bt176.2) = true then (ergolaw02_ArithSums.j0 k a0 a1 true) else (ergolaw02_ArithSums.j0 k a0 a1 (bt174.1 != bt176.1))))) else (some false)) = some r := H
  have A3 := Aside0.mk A30
  clear A30
  by_cases c4 : t173 = true
  · subst c4
    have H1 : ((arith_Do.f k 0 a0 a1).bind fun bt174 => ((ergolaw02_sum.f a0 a1).bind fun bt176 => (if (bt174.2 != bt176.2) = true then (ergolaw02_ArithSums.j0 k a0 a1 true) else (ergolaw02_ArithSums.j0 k a0 a1 (bt174.1 != bt176.1))))) = some r := by rw [if_pos rfl] at H; exact H
    clear H
    have H := H1
    clear H1
    replace H := Option.bind_eq_some_iff.mp H
    obtain ⟨⟨t174, t175⟩, A50, H⟩ := H
    replace H : ((ergolaw02_sum.f a0 a1).bind fun bt176 => (if (t175 != bt176.2) = true then (ergolaw02_ArithSums.j0 k a0 a1 true) else (ergolaw02_ArithSums.j0 k a0 a1 (t174 != bt176.1)))) = some r := H
    have A5 := Aside0.mk A50
    clear A50
    replace H := Option.bind_eq_some_iff.mp H
    obtain ⟨⟨t176, t177⟩, A60, H⟩ := H
    replace H : (if (t175 != t177) = true then (ergolaw02_ArithSums.j0 k a0 a1 true) else (ergolaw02_ArithSums.j0 k a0 a1 (t174 != t176))) = some r := H
    have A6 := Aside0.mk A60
    clear A60
    have HC7 := Aside0.mk H
    clear H
    go_enter Try.func7, Try.ntmps7
    go_upto_region 5 with (first | ((with_reducible refine gate_callee (f := 10) rfl ?_); refine goesL_ (some 13) rfl rfl Try.func10 (by kernel_rfl) rfl #[] rfl (by (try simp only [List.map_toArray, List.map_cons, List.map_nil]); first | done | rfl | (simp only [List.length_drop, List.length_take]; rfl)) ?_; (with_reducible refine (ergolaw02_head.calls  true _ A3.out).mono ?_); rintro e w8 ⟨rfl, hb⟩; refine ⟨_, rfl, ?_⟩; have n0_ := Aside0.mk (below_step (by repeat (first | (with_reducible first | exact HB.out | apply below_alloc | apply pw_below_drewN | apply below_drew1) | exact HB.out)) hb); clear HB; have HB := n0_; clear n0_; (try clear hb); (try clear hb2); (try clear hk); (try clear hi)) | ((with_reducible refine gate_callee (f := 11) rfl ?_); refine goesL_ (some 18) rfl rfl Try.func11 (by kernel_rfl) rfl #[.int .i64 0, .int .i64 a0, .int .i64 a1] rfl (by (try simp only [List.map_toArray, List.map_cons, List.map_nil]); first | done | rfl | (simp only [List.length_drop, List.length_take]; rfl)) ?_; (with_reducible refine (arith_Do.calls k 0 a0 a1 t174 t175 _ A5.out).mono ?_); rintro e w' ⟨rfl, ⟨nd, rfl⟩⟩; refine ⟨_, rfl, ?_⟩) | ((with_reducible refine gate_callee (f := 15) rfl ?_); refine goesL_ (some 24) rfl rfl Try.func15 (by kernel_rfl) rfl #[.int .i64 a0, .int .i64 a1] rfl (by (try simp only [List.map_toArray, List.map_cons, List.map_nil]); first | done | rfl | (simp only [List.length_drop, List.length_take]; rfl)) ?_; (with_reducible refine (ergolaw02_sum.calls a0 a1 t176 t177 _ A6.out).mono ?_); rintro e w' ⟨rfl, ⟨nd, rfl⟩⟩; refine ⟨_, rfl, ?_⟩))
    (try simp only [Act.put, List.setIfInBounds_toArray, List.set_cons_zero, List.set_cons_succ])
    go_cut [34] (fun v34 wc => ∃ (kq : Nat) (x34_6 : Bool), v34 = .bool x34_6 ∧ Aside0 (ergolaw02_ArithSums.j0 kq a0 a1 x34_6 = some r) ∧ Aside0 (kq ≤ k) ∧ Aside0 (Below w.heap.size w wc))
    case first =>
      have H := HC7.out
      clear HC7
      by_cases c9 : (t175 != t177) = true
      · rw [if_pos c9] at H
        have c9b0 : (t175 != t177) = true := c9
        (try (have c9b1 : decide (t175 = t177) = false := by simpa using c9))
        (try (have c9b2 : (t175 == t177) = false := by simpa using c9))
        (try (have c9b3 : ¬ (t175 = t177) := by simpa using c9))
        clear c9
        (first | rw [c9b0] | (simp only [i64_w, i32_w]; rw [c9b0]) | skip)
        have H' := Aside0.mk H
        clear H
        go_wp2
        go_meet
        case rel => exact ⟨_, (true), (by first | rfl | (simp; done) | (simp [*]; done)), H', ⟨by first | omega | exact Nat.le_refl _⟩, ⟨by repeat (first | (with_reducible first | exact HB.out | apply below_alloc | apply pw_below_drewN | apply below_drew1) | exact HB.out)⟩⟩
      · rw [if_neg c9] at H
        have c9b0 : (t175 != t177) = false := by simpa using c9
        (try (have c9b1 : decide (t175 = t177) = true := by simpa using c9))
        (try (have c9b2 : (t175 == t177) = true := by simpa using c9))
        clear c9
        (first | rw [c9b0] | (simp only [i64_w, i32_w]; rw [c9b0]) | skip)
        have H' := Aside0.mk H
        clear H
        go_wp2
        go_meet
        case rel => exact ⟨_, ((t174 != t176)), (by first | rfl | (simp; done) | (simp [*]; done)), H', ⟨by first | omega | exact Nat.le_refl _⟩, ⟨by repeat (first | (with_reducible first | exact HB.out | apply below_alloc | apply pw_below_drewN | apply below_drew1) | exact HB.out)⟩⟩
    case rest =>
      clear HC7
      try clear c1
      try clear p2
      try clear c4
      try clear c7
      try clear c9
      try clear c9b0
      try clear c9b1
      try clear c9b2
      obtain ⟨kq, x34_6, rfl, HA, HJ6, HB⟩ := hcut
      cases kq with
      | zero => exact absurd HA.out (by simp [ergolaw02_ArithSums.j0])
      | succ kj6 =>
        have H := HA.out
        clear HA
        simp only [ergolaw02_ArithSums.j0] at H
        by_cases c10 : x34_6 = true
        · subst c10
          have H1 : (some false) = some r := by rw [if_pos rfl] at H; exact H
          clear H
          have H := H1
          clear H1
          obtain rfl := Option.some.inj H
          go_wp2
          go_ret
          exact ⟨by first | rfl | (simp [errW_none, errW_some] <;> rfl) | (simp [*, errW_none, errW_some] <;> rfl), by repeat (first | (with_reducible first | exact HB.out | apply below_alloc | apply pw_below_drewN | apply below_drew1) | exact HB.out)⟩
        · replace c10 := Bool.eq_false_iff.mpr c10
          subst c10
          have H1 : ((arith_Do.f kj6 1 a0 a1).bind fun bt178 => (if a1 = (-9223372036854775808) then (if (bt178.2 == (decide (a0 < 0))) = true then (if bt178.2 = true then (some ((wrap64 (bt178.1 - 1)) == (wrap64 (a0 + 9223372036854775807)))) else (if bt178.1 = 0 then (some true) else (some false))) else (some false)) else ((ergolaw02_sum.f a0 (wrap64 (-a1))).bind fun bt180 => (if (bt178.2 == bt180.2) = true then (some (bt178.1 == bt180.1)) else (some false))))) = some r := by rw [if_neg (show ¬ (false = true) by decide)] at H; exact H
          clear H
          have H := H1
          clear H1
          replace H := Option.bind_eq_some_iff.mp H
          obtain ⟨⟨t178, t179⟩, A110, H⟩ := H
          replace H : (if a1 = (-9223372036854775808) then (if (t179 == (decide (a0 < 0))) = true then (if t179 = true then (some ((wrap64 (t178 - 1)) == (wrap64 (a0 + 9223372036854775807)))) else (if t178 = 0 then (some true) else (some false))) else (some false)) else ((ergolaw02_sum.f a0 (wrap64 (-a1))).bind fun bt180 => (if (t179 == bt180.2) = true then (some (t178 == bt180.1)) else (some false)))) = some r := H
          have A11 := Aside0.mk A110
          clear A110
          by_cases c12 : a1 = (-9223372036854775808)
          · rw [if_pos c12] at H
            have c12b0 : (a1 == (-9223372036854775808)) = true := beq_iff_eq.mpr c12
            have c12b1 : (a1 != (-9223372036854775808)) = false := bne_eq_false_iff_eq.mpr c12
            clear c12
            by_cases c13 : (t179 == (decide (a0 < 0))) = true
            · rw [if_pos c13] at H
              have c13b0 : (t179 == (decide (a0 < 0))) = true := c13
              (try (have c13b1 : decide (t179 = (decide (a0 < 0))) = true := by simpa using c13))
              (try (have c13b2 : (t179 == (decide (a0 < 0))) = true := by simpa using c13))
              clear c13
              by_cases c14 : t179 = true
              · subst c14
                have H1 : (some ((wrap64 (t178 - 1)) == (wrap64 (a0 + 9223372036854775807)))) = some r := by rw [if_pos rfl] at H; exact H
                clear H
                have H := H1
                clear H1
                obtain rfl := Option.some.inj H
                go_wp2_with (first | ((with_reducible refine gate_callee (f := 11) rfl ?_); refine goesL_ (some 38) rfl rfl Try.func11 (by kernel_rfl) rfl #[.int .i64 1, .int .i64 a0, .int .i64 a1] rfl (by (try simp only [List.map_toArray, List.map_cons, List.map_nil]); first | done | rfl | (simp only [List.length_drop, List.length_take]; rfl)) ?_; (with_reducible refine (arith_Do.calls kj6 1 a0 a1 t178 true _ A11.out).mono ?_); rintro e w' ⟨rfl, ⟨nd, rfl⟩⟩; refine ⟨_, rfl, ?_⟩))
                go_ret
                exact ⟨by first | rfl | (simp [errW_none, errW_some] <;> rfl) | (simp [*, errW_none, errW_some] <;> rfl), by repeat (first | (with_reducible first | exact HB.out | apply below_alloc | apply pw_below_drewN | apply below_drew1) | exact HB.out)⟩
              · replace c14 := Bool.eq_false_iff.mpr c14
                subst c14
                have H1 : (if t178 = 0 then (some true) else (some false)) = some r := by rw [if_neg (show ¬ (false = true) by decide)] at H; exact H
                clear H
                have H := H1
                clear H1
                by_cases c15 : t178 = 0
                · rw [if_pos c15] at H
                  have c15b0 : (t178 == 0) = true := beq_iff_eq.mpr c15
                  have c15b1 : (t178 != 0) = false := bne_eq_false_iff_eq.mpr c15
                  clear c15
                  obtain rfl := Option.some.inj H
                  go_wp2_with (first | ((with_reducible refine gate_callee (f := 11) rfl ?_); refine goesL_ (some 38) rfl rfl Try.func11 (by kernel_rfl) rfl #[.int .i64 1, .int .i64 a0, .int .i64 a1] rfl (by (try simp only [List.map_toArray, List.map_cons, List.map_nil]); first | done | rfl | (simp only [List.length_drop, List.length_take]; rfl)) ?_; (with_reducible refine (arith_Do.calls kj6 1 a0 a1 t178 false _ A11.out).mono ?_); rintro e w' ⟨rfl, ⟨nd, rfl⟩⟩; refine ⟨_, rfl, ?_⟩))
                  go_ret
                  exact ⟨by first | rfl | (simp [errW_none, errW_some] <;> rfl) | (simp [*, errW_none, errW_some] <;> rfl), by repeat (first | (with_reducible first | exact HB.out | apply below_alloc | apply pw_below_drewN | apply below_drew1) | exact HB.out)⟩
                · rw [if_neg c15] at H
                  have c15b0 : (t178 == 0) = false := beq_eq_false_iff_ne.mpr c15
                  have c15b1 : (t178 != 0) = true := bne_iff_ne.mpr c15
                  obtain rfl := Option.some.inj H
                  go_wp2_with (first | ((with_reducible refine gate_callee (f := 11) rfl ?_); refine goesL_ (some 38) rfl rfl Try.func11 (by kernel_rfl) rfl #[.int .i64 1, .int .i64 a0, .int .i64 a1] rfl (by (try simp only [List.map_toArray, List.map_cons, List.map_nil]); first | done | rfl | (simp only [List.length_drop, List.length_take]; rfl)) ?_; (with_reducible refine (arith_Do.calls kj6 1 a0 a1 t178 false _ A11.out).mono ?_); rintro e w' ⟨rfl, ⟨nd, rfl⟩⟩; refine ⟨_, rfl, ?_⟩))
                  go_ret
                  exact ⟨by first | rfl | (simp [errW_none, errW_some] <;> rfl) | (simp [*, errW_none, errW_some] <;> rfl), by repeat (first | (with_reducible first | exact HB.out | apply below_alloc | apply pw_below_drewN | apply below_drew1) | exact HB.out)⟩
            · rw [if_neg c13] at H
              have c13b0 : (t179 == (decide (a0 < 0))) = false := by simpa using c13
              (try (have c13b1 : decide (t179 = (decide (a0 < 0))) = false := by simpa using c13))
              (try (have c13b2 : (t179 == (decide (a0 < 0))) = false := by simpa using c13))
              (try (have c13b3 : ¬ (t179 = (decide (a0 < 0))) := by simpa using c13))
              clear c13
              obtain rfl := Option.some.inj H
              go_wp2_with (first | ((with_reducible refine gate_callee (f := 11) rfl ?_); refine goesL_ (some 38) rfl rfl Try.func11 (by kernel_rfl) rfl #[.int .i64 1, .int .i64 a0, .int .i64 a1] rfl (by (try simp only [List.map_toArray, List.map_cons, List.map_nil]); first | done | rfl | (simp only [List.length_drop, List.length_take]; rfl)) ?_; (with_reducible refine (arith_Do.calls kj6 1 a0 a1 t178 t179 _ A11.out).mono ?_); rintro e w' ⟨rfl, ⟨nd, rfl⟩⟩; refine ⟨_, rfl, ?_⟩))
              go_ret
              exact ⟨by first | rfl | (simp [errW_none, errW_some] <;> rfl) | (simp [*, errW_none, errW_some] <;> rfl), by repeat (first | (with_reducible first | exact HB.out | apply below_alloc | apply pw_below_drewN | apply below_drew1) | exact HB.out)⟩
          · rw [if_neg c12] at H
            have c12b0 : (a1 == (-9223372036854775808)) = false := beq_eq_false_iff_ne.mpr c12
            have c12b1 : (a1 != (-9223372036854775808)) = true := bne_iff_ne.mpr c12
            replace H := Option.bind_eq_some_iff.mp H
            obtain ⟨⟨t180, t181⟩, A160, H⟩ := H
            replace H : (if (t179 == t181) = true then (some (t178 == t180)) else (some false)) = some r := H
            have A16 := Aside0.mk A160
            clear A160
            by_cases c17 : (t179 == t181) = true
            · rw [if_pos c17] at H
              have c17b0 : (t179 == t181) = true := c17
              (try (have c17b1 : decide (t179 = t181) = true := by simpa using c17))
              (try (have c17b2 : (t179 == t181) = true := by simpa using c17))
              clear c17
              obtain rfl := Option.some.inj H
              go_wp2_with (first | ((with_reducible refine gate_callee (f := 11) rfl ?_); refine goesL_ (some 38) rfl rfl Try.func11 (by kernel_rfl) rfl #[.int .i64 1, .int .i64 a0, .int .i64 a1] rfl (by (try simp only [List.map_toArray, List.map_cons, List.map_nil]); first | done | rfl | (simp only [List.length_drop, List.length_take]; rfl)) ?_; (with_reducible refine (arith_Do.calls kj6 1 a0 a1 t178 t179 _ A11.out).mono ?_); rintro e w' ⟨rfl, ⟨nd, rfl⟩⟩; refine ⟨_, rfl, ?_⟩) | ((with_reducible refine gate_callee (f := 15) rfl ?_); refine goesL_ (some 69) rfl rfl Try.func15 (by kernel_rfl) rfl #[.int .i64 a0, .int .i64 (wrap64 (-a1))] rfl (by (try simp only [List.map_toArray, List.map_cons, List.map_nil]); first | done | rfl | (simp only [List.length_drop, List.length_take]; rfl)) ?_; (with_reducible refine (ergolaw02_sum.calls a0 (wrap64 (-a1)) t180 t181 _ A16.out).mono ?_); rintro e w' ⟨rfl, ⟨nd, rfl⟩⟩; refine ⟨_, rfl, ?_⟩))
              go_ret
              exact ⟨by first | rfl | (simp [errW_none, errW_some] <;> rfl) | (simp [*, errW_none, errW_some] <;> rfl), by repeat (first | (with_reducible first | exact HB.out | apply below_alloc | apply pw_below_drewN | apply below_drew1) | exact HB.out)⟩
            · rw [if_neg c17] at H
              have c17b0 : (t179 == t181) = false := by simpa using c17
              (try (have c17b1 : decide (t179 = t181) = false := by simpa using c17))
              (try (have c17b2 : (t179 == t181) = false := by simpa using c17))
              (try (have c17b3 : ¬ (t179 = t181) := by simpa using c17))
              clear c17
              obtain rfl := Option.some.inj H
              go_wp2_with (first | ((with_reducible refine gate_callee (f := 11) rfl ?_); refine goesL_ (some 38) rfl rfl Try.func11 (by kernel_rfl) rfl #[.int .i64 1, .int .i64 a0, .int .i64 a1] rfl (by (try simp only [List.map_toArray, List.map_cons, List.map_nil]); first | done | rfl | (simp only [List.length_drop, List.length_take]; rfl)) ?_; (with_reducible refine (arith_Do.calls kj6 1 a0 a1 t178 t179 _ A11.out).mono ?_); rintro e w' ⟨rfl, ⟨nd, rfl⟩⟩; refine ⟨_, rfl, ?_⟩) | ((with_reducible refine gate_callee (f := 15) rfl ?_); refine goesL_ (some 69) rfl rfl Try.func15 (by kernel_rfl) rfl #[.int .i64 a0, .int .i64 (wrap64 (-a1))] rfl (by (try simp only [List.map_toArray, List.map_cons, List.map_nil]); first | done | rfl | (simp only [List.length_drop, List.length_take]; rfl)) ?_; (with_reducible refine (ergolaw02_sum.calls a0 (wrap64 (-a1)) t180 t181 _ A16.out).mono ?_); rintro e w' ⟨rfl, ⟨nd, rfl⟩⟩; refine ⟨_, rfl, ?_⟩))
              go_ret
              exact ⟨by first | rfl | (simp [errW_none, errW_some] <;> rfl) | (simp [*, errW_none, errW_some] <;> rfl), by repeat (first | (with_reducible first | exact HB.out | apply below_alloc | apply pw_below_drewN | apply below_drew1) | exact HB.out)⟩
  · replace c4 := Bool.eq_false_iff.mpr c4
    subst c4
    have H1 : (some false) = some r := by rw [if_neg (show ¬ (false = true) by decide)] at H; exact H
    clear H
    have H := H1
    clear H1
    obtain rfl := Option.some.inj H
    go_enter Try.func7, Try.ntmps7
    go_wp2_with (first | ((with_reducible refine gate_callee (f := 10) rfl ?_); refine goesL_ (some 13) rfl rfl Try.func10 (by kernel_rfl) rfl #[] rfl (by (try simp only [List.map_toArray, List.map_cons, List.map_nil]); first | done | rfl | (simp only [List.length_drop, List.length_take]; rfl)) ?_; (with_reducible refine (ergolaw02_head.calls  false _ A3.out).mono ?_); rintro e w18 ⟨rfl, hb⟩; refine ⟨_, rfl, ?_⟩; have n0_ := Aside0.mk (below_step (by repeat (first | (with_reducible first | exact HB.out | apply below_alloc | apply pw_below_drewN | apply below_drew1) | exact HB.out)) hb); clear HB; have HB := n0_; clear n0_; (try clear hb); (try clear hb2); (try clear hk); (try clear hi)))
    go_ret
    exact ⟨by first | rfl | (simp [errW_none, errW_some] <;> rfl) | (simp [*, errW_none, errW_some] <;> rfl), by repeat (first | (with_reducible first | exact HB.out | apply below_alloc | apply pw_below_drewN | apply below_drew1) | exact HB.out)⟩

/-- THE ONE PURE STATEMENT of ergolaw02_ArithSums: yours. -/
def ergolaw02_ArithSums.Pure : Prop := ∀ (a0 : Int) (a1 : Int), (Lit.int .i64 a0).wf = true → (Lit.int .i64 a1).wf = true → ∃ k, ergolaw02_ArithSums.f k a0 a1 = some true
theorem ergolaw02_ArithSums.walk (P : ergolaw02_ArithSums.Pure) (a0 : Int) (a1 : Int) (w : World) (w0 : (Lit.int .i64 a0).wf = true) (w1 : (Lit.int .i64 a1).wf = true) :
    Calls Try.prog 7 #[.int .i64 a0, .int .i64 a1] w fun e w' => e = .returned (.bool true) ∧ Below w.heap.size w w' := by
  obtain ⟨k, h⟩ := P a0 a1 w0 w1
  refine (ergolaw02_ArithSums.calls k a0 a1 true w h).mono ?_
  rintro e w' ⟨rfl, hd⟩
  exact ⟨rfl, hd⟩

end Go.Proofs.Yteamoapmgnbgmaa.XAll
