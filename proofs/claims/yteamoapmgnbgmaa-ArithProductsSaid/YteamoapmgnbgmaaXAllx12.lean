-- Written for this claim by a program of this session (around the kit's print).
import Derived.Test.YteamoapmgnbgmaaXAllx0
import Derived.Test.YteamoapmgnbgmaaXAllx5
import Derived.Test.YteamoapmgnbgmaaXAllx6
namespace Go.Proofs.Yteamoapmgnbgmaa.XAll
open Go.RowKit Go.Proofs.YteamoapmgnbgmaaW.PrintWords Go.Proofs.YteamoapmgnbgmaaW.PrintLast Go.Proofs.YteamoapmgnbgmaaW.PrintMore
attribute [local go_sem] max2_int min2_int max_two min_two max_three min_three max_four min_four   -- for this text's walks alone
set_option linter.unusedVariables false
set_option linter.unusedSimpArgs false

/-! ### ergolaw02_sum: function 15 -/
theorem add64_run (x y : Int) (hx : 0 ≤ x) (hy : 0 ≤ y) (w : World) :
    (callFunc 21 #[.int .u64 x, .int .u64 y, .int .u64 0]).run Try.prog w = .ok (.value (.tuple #[.int .u64 ((x + y + 0) % 18446744073709551616), .int .u64 ((x + y + 0) / 18446744073709551616)])) w := by
  rw [run_callFunc_extern Try.func21 (by kernel_rfl) (by kernel_rfl) (by kernel_rfl) (e := add64Entry) (by kernel_rfl), run_add64 x y 0 hx hy (by omega) (by omega)]
  rfl
theorem size_nn (a : Int) (h : 0 ≤ a) (h1 : a ≤ 9223372036854775807) : ergolaw02_size.f a = some a := by
  unfold ergolaw02_size.f
  rw [if_neg (by omega)]
  congr 1
  rw [IntKind.wrap_u64]
  omega
theorem size_neg (a : Int) (h : a < 0) (h1 : -9223372036854775808 ≤ a) : ergolaw02_size.f a = some (-a) := by
  unfold ergolaw02_size.f
  rw [if_pos h]
  congr 1
  unfold wrap64
  rw [IntKind.wrap_u64, IntKind.wrap_u64]
  omega
theorem fit_nn (n : Int) (h : 0 ≤ n) : ergolaw02_fit.f false n = some (if n ≤ 9223372036854775807 then (n, true) else (0, false)) := by
  unfold ergolaw02_fit.f
  rw [if_neg (by decide)]
  by_cases c : n > 9223372036854775807
  · rw [if_pos c, if_neg (by omega)]
  · rw [if_neg c, if_pos (by omega)]
    congr 2
    unfold wrap64
    omega
theorem fit_neg (n : Int) (h : 0 ≤ n) (h1 : n ≤ 18446744073709551615) : ergolaw02_fit.f true n = some (if n ≤ 9223372036854775808 then (-n, true) else (0, false)) := by
  unfold ergolaw02_fit.f
  rw [if_pos rfl]
  by_cases c : n > 9223372036854775808
  · rw [if_pos c, if_neg (by omega)]
  · rw [if_neg c, if_pos (by omega)]
    congr 2
    unfold wrap64
    rw [IntKind.wrap_u64]
    omega
def sumOf (a b : Int) : Int × Bool := if -9223372036854775808 ≤ a + b ∧ a + b ≤ 9223372036854775807 then (a + b, true) else (0, false)
def In64 (a : Int) : Prop := -9223372036854775808 ≤ a ∧ a ≤ 9223372036854775807
instance (a : Int) : Decidable (In64 a) := by unfold In64; infer_instance
def ergolaw02_sum.f (a0 : Int) (a1 : Int) : Option (Int × Bool) := if In64 a0 ∧ In64 a1 then some (sumOf a0 a1) else none
set_option maxHeartbeats 400000 in
set_option maxRecDepth 100000 in
theorem sum_apart (a b : Int) (d0 d1 : Bool) (hd : d0 ≠ d1) (w : World) (h0 : decide (a < 0) = d0) (h1 : decide (b < 0) = d1) (ha : -9223372036854775808 ≤ a) (hb : -9223372036854775808 ≤ b) (ha' : a ≤ 9223372036854775807) (hb' : b ≤ 9223372036854775807) :
    Calls Try.prog 15 #[.int .i64 a, .int .i64 b] w fun e w' => e = .returned (.tuple #[.int .i64 (a + b), .bool true]) ∧ Drawn0 w w' := by
  cases d0 <;> cases d1 <;> first | exact absurd rfl hd | skip
  all_goals
    clear hd
    have g0 := of_decide_eq_true (show decide (decide (a < 0) = decide (a < 0)) = true from by simp)
    clear g0
    by_cases x0 : a < 0 <;> by_cases x1 : b < 0 <;> (first | (exfalso; simp [x0, x1] at h0 h1; done) | skip)
    go_enter Try.func15, Try.ntmps15
    go_wp2_with fail
    go_ret2
    exact ⟨rfl, by repeat (first | exact Drawn0.refl _ | apply Drawn0.step)⟩
set_option maxHeartbeats 400000 in
set_option maxRecDepth 100000 in
theorem sum_pp (a b : Int) (r1 : Int) (r2 : Bool) (w : World) (h0 : 0 ≤ a) (h1 : 0 ≤ b) (ha : a ≤ 9223372036854775807) (hb : b ≤ 9223372036854775807) (hf : ergolaw02_fit.f false ((a + b) % 18446744073709551616) = some (r1, r2)) :
    Calls Try.prog 15 #[.int .i64 a, .int .i64 b] w fun e w' => e = .returned (.tuple #[.int .i64 r1, .bool r2]) ∧ Drawn0 w w' := by
  have d0 : decide (a < 0) = false := by simpa using h0
  have d1 : decide (b < 0) = false := by simpa using h1
  have ca := fun w => ergolaw02_size.calls a a w (size_nn a h0 ha)
  have cb := fun w => ergolaw02_size.calls b b w (size_nn b h1 hb)
  have cf := fun w => ergolaw02_fit.calls false _ r1 r2 w hf
  have ra := fun w => add64_run a b h0 h1 w
  have Ca := Aside0.mk ca
  have Cb := Aside0.mk cb
  have Cf := Aside0.mk cf
  clear ca cb cf hf
  go_enter Try.func15, Try.ntmps15
  go_wp2_with (first | (go_at_call 12; (with_reducible refine (Ca.out _).mono ?_); rintro e w' ⟨rfl, ⟨nd, rfl⟩⟩) | (go_at_call 12; (with_reducible refine (Cb.out _).mono ?_); rintro e w' ⟨rfl, ⟨nd, rfl⟩⟩) | (go_at_call 13; (with_reducible refine (Cf.out _).mono ?_); rintro e w' ⟨rfl, ⟨nd, rfl⟩⟩))
  go_ret2
  exact ⟨rfl, by repeat (first | exact Drawn0.refl _ | apply Drawn0.step)⟩
set_option maxHeartbeats 400000 in
set_option maxRecDepth 100000 in
theorem sum_nn (a b : Int) (r1 : Int) (r2 : Bool) (w : World) (h0 : a < 0) (h1 : b < 0) (ha : -9223372036854775808 ≤ a) (hb : -9223372036854775808 ≤ b) (hc : -18446744073709551616 < a + b) (hf : ergolaw02_fit.f true ((-a + -b) % 18446744073709551616) = some (r1, r2)) :
    Calls Try.prog 15 #[.int .i64 a, .int .i64 b] w fun e w' => e = .returned (.tuple #[.int .i64 r1, .bool r2]) ∧ Drawn0 w w' := by
  have d0 : decide (a < 0) = true := by simpa using h0
  have d1 : decide (b < 0) = true := by simpa using h1
  have ca := fun w => ergolaw02_size.calls a (-a) w (size_neg a h0 ha)
  have cb := fun w => ergolaw02_size.calls b (-b) w (size_neg b h1 hb)
  have cf := fun w => ergolaw02_fit.calls true _ r1 r2 w hf
  have ra := fun w => add64_run (-a) (-b) (by omega) (by omega) w
  have Ca := Aside0.mk ca
  have Cb := Aside0.mk cb
  have Cf := Aside0.mk cf
  clear ca cb cf hf
  go_enter Try.func15, Try.ntmps15
  go_wp2_with (first | (go_at_call 12; (with_reducible refine (Ca.out _).mono ?_); rintro e w' ⟨rfl, ⟨nd, rfl⟩⟩) | (go_at_call 12; (with_reducible refine (Cb.out _).mono ?_); rintro e w' ⟨rfl, ⟨nd, rfl⟩⟩) | (go_at_call 13; (with_reducible refine (Cf.out _).mono ?_); rintro e w' ⟨rfl, ⟨nd, rfl⟩⟩))
  go_ret2
  exact ⟨rfl, by repeat (first | exact Drawn0.refl _ | apply Drawn0.step)⟩
set_option maxHeartbeats 400000 in
set_option maxRecDepth 100000 in
theorem sum_nn0 (a b : Int) (w : World) (h0 : a < 0) (h1 : b < 0) (ha : -9223372036854775808 ≤ a) (hb : -9223372036854775808 ≤ b) (hc : a + b ≤ -18446744073709551616) :
    Calls Try.prog 15 #[.int .i64 a, .int .i64 b] w fun e w' => e = .returned (.tuple #[.int .i64 0, .bool false]) ∧ Drawn0 w w' := by
  have d0 : decide (a < 0) = true := by simpa using h0
  have d1 : decide (b < 0) = true := by simpa using h1
  have ca := fun w => ergolaw02_size.calls a (-a) w (size_neg a h0 ha)
  have cb := fun w => ergolaw02_size.calls b (-b) w (size_neg b h1 hb)
  have ra := fun w => add64_run (-a) (-b) (by omega) (by omega) w
  have Ca := Aside0.mk ca
  have Cb := Aside0.mk cb
  clear ca cb
  go_enter Try.func15, Try.ntmps15
  go_wp2_with (first | (go_at_call 12; (with_reducible refine (Ca.out _).mono ?_); rintro e w' ⟨rfl, ⟨nd, rfl⟩⟩) | (go_at_call 12; (with_reducible refine (Cb.out _).mono ?_); rintro e w' ⟨rfl, ⟨nd, rfl⟩⟩))
  go_ret2
  exact ⟨rfl, by repeat (first | exact Drawn0.refl _ | apply Drawn0.step)⟩
theorem ergolaw02_sum.calls (a0 : Int) (a1 : Int) (r1 : Int) (r2 : Bool) (w : World) (h : ergolaw02_sum.f a0 a1 = some (r1, r2)) :
    Calls Try.prog 15 #[.int .i64 a0, .int .i64 a1] w fun e w' => e = .returned (.tuple #[.int .i64 r1, .bool r2]) ∧ Drawn0 w w' := by
  unfold ergolaw02_sum.f at h
  by_cases c : In64 a0 ∧ In64 a1
  · rw [if_pos c] at h
    obtain ⟨⟨g0, g1⟩, g2, g3⟩ := c
    by_cases n0 : a0 < 0
    · by_cases n1 : a1 < 0
      · by_cases hc : a0 + a1 ≤ -18446744073709551616
        · unfold sumOf at h
          rw [if_neg (by omega)] at h
          simp only [Option.some.injEq, Prod.mk.injEq] at h
          obtain ⟨rfl, rfl⟩ := h
          exact sum_nn0 a0 a1 w n0 n1 g0 g2 hc
        · refine sum_nn a0 a1 r1 r2 w n0 n1 g0 g2 (by omega) ?_
          rw [show (-a0 + -a1) % 18446744073709551616 = -a0 + -a1 from by omega, fit_neg _ (by omega) (by omega), ← h]
          unfold sumOf
          by_cases k : -9223372036854775808 ≤ a0 + a1
          · rw [if_pos (by omega), if_pos (by omega)]
            congr 2
            omega
          · rw [if_neg (by omega), if_neg (by omega)]
      · unfold sumOf at h
        rw [if_pos (by omega)] at h
        simp only [Option.some.injEq, Prod.mk.injEq] at h
        obtain ⟨rfl, rfl⟩ := h
        exact sum_apart a0 a1 true false (by decide) w (by simpa using n0) (by simpa using n1) g0 g2 g1 g3
    · by_cases n1 : a1 < 0
      · unfold sumOf at h
        rw [if_pos (by omega)] at h
        simp only [Option.some.injEq, Prod.mk.injEq] at h
        obtain ⟨rfl, rfl⟩ := h
        exact sum_apart a0 a1 false true (by decide) w (by simpa using n0) (by simpa using n1) g0 g2 g1 g3
      · refine sum_pp a0 a1 r1 r2 w (by omega) (by omega) g1 g3 ?_
        rw [show (a0 + a1) % 18446744073709551616 = a0 + a1 from by omega, fit_nn _ (by omega), ← h]
        unfold sumOf
        by_cases k : a0 + a1 ≤ 9223372036854775807
        · rw [if_pos k, if_pos (by omega)]
        · rw [if_neg k, if_neg (by omega)]
  · rw [if_neg c] at h
    cases h

end Go.Proofs.Yteamoapmgnbgmaa.XAll
