-- Written for this claim by a program of this session (around the kit's print).
import Derived.Test.YteamoapmgnbgmaaXAllx0
namespace Go.Proofs.Yteamoapmgnbgmaa.XAll
open Go.RowKit Go.Proofs.YteamoapmgnbgmaaW.PrintWords Go.Proofs.YteamoapmgnbgmaaW.PrintLast Go.Proofs.YteamoapmgnbgmaaW.PrintMore
attribute [local go_sem] max2_int min2_int max_two min_two max_three min_three max_four min_four   -- for this text's walks alone
set_option linter.unusedVariables false
set_option linter.unusedSimpArgs false

/-! ### arith_Op_Sign: function 14 -/
def arith_Op_Sign.f (a0 : Int) : Option (ByteArray) := if a0 = 0 then (some (⟨#[43]⟩ : ByteArray)) else (if a0 = 1 then (some (⟨#[45]⟩ : ByteArray)) else (if a0 = 2 then (some (⟨#[42]⟩ : ByteArray)) else (if a0 = 3 then (some (⟨#[47]⟩ : ByteArray)) else (if a0 = 4 then (some (⟨#[37]⟩ : ByteArray)) else (some (⟨#[]⟩ : ByteArray))))))
set_option maxHeartbeats 1000000 in
set_option maxRecDepth 100000 in
theorem arith_Op_Sign.calls (a0 : Int) (r : ByteArray) (w : World) (h : arith_Op_Sign.f a0 = some r) :
    Calls Try.prog 14 #[.int .i64 a0] w fun e w' => e = .returned (.string r) ∧ Below w.heap.size w w' := by
  by_cases c0 : a0 = 0
  · subst c0
    obtain rfl := Option.some.inj (show some (⟨#[43]⟩ : ByteArray) = some r from h)
    go_enter Try.func14, Try.ntmps14
    go_wp2
    go_ret
    exact ⟨rfl, (Below.refl _ _).alloc (Nat.le_refl _) _⟩
  by_cases c1 : a0 = 1
  · subst c1
    obtain rfl := Option.some.inj (show some (⟨#[45]⟩ : ByteArray) = some r from h)
    go_enter Try.func14, Try.ntmps14
    go_wp2
    go_ret
    exact ⟨rfl, (Below.refl _ _).alloc (Nat.le_refl _) _⟩
  by_cases c2 : a0 = 2
  · subst c2
    obtain rfl := Option.some.inj (show some (⟨#[42]⟩ : ByteArray) = some r from h)
    go_enter Try.func14, Try.ntmps14
    go_wp2
    go_ret
    exact ⟨rfl, (Below.refl _ _).alloc (Nat.le_refl _) _⟩
  by_cases c3 : a0 = 3
  · subst c3
    obtain rfl := Option.some.inj (show some (⟨#[47]⟩ : ByteArray) = some r from h)
    go_enter Try.func14, Try.ntmps14
    go_wp2
    go_ret
    exact ⟨rfl, (Below.refl _ _).alloc (Nat.le_refl _) _⟩
  by_cases c4 : a0 = 4
  · subst c4
    obtain rfl := Option.some.inj (show some (⟨#[37]⟩ : ByteArray) = some r from h)
    go_enter Try.func14, Try.ntmps14
    go_wp2
    go_ret
    exact ⟨rfl, (Below.refl _ _).alloc (Nat.le_refl _) _⟩
  have h' : some (⟨#[]⟩ : ByteArray) = some r := by unfold arith_Op_Sign.f at h; rw [if_neg c0, if_neg c1, if_neg c2, if_neg c3, if_neg c4] at h; exact h
  obtain rfl := Option.some.inj h'
  clear h h'
  by_cases d0 : a0 < 0
  · clear c0 c1 c2 c3 c4
    go_enter Try.func14, Try.ntmps14
    go_wp2
    go_ret
    exact ⟨rfl, (Below.refl _ _).alloc (Nat.le_refl _) _⟩
  · have d1 : 4 < a0 := by omega
    have d2 : decide (a0 < 0) = false := by simpa using d0
    clear d0 c0 c1 c2 c3 c4
    go_enter Try.func14, Try.ntmps14
    go_wp2
    go_ret
    exact ⟨rfl, (Below.refl _ _).alloc (Nat.le_refl _) _⟩

/-! ### ergolaw02_head: function 10 -/
def ergolaw02_head.f : Option (Bool) := some true
set_option maxHeartbeats 1000000 in
set_option maxRecDepth 100000 in
theorem ergolaw02_head.calls (r : Bool) (w : World) (h : ergolaw02_head.f = some r) :
    Calls Try.prog 10 #[] w fun e w' => e = .returned (.bool r) ∧ Below w.heap.size w w' := by
  obtain rfl := Option.some.inj h
  go_enter Try.func10, Try.ntmps10
  go_wp2
  go_ret
  exact ⟨rfl, (Below.refl _ _).alloc (Nat.le_refl _) _⟩

/-! ### ergolaw02_size: function 12 -/
def ergolaw02_size.f (a0 : Int) : Option (Int) := if a0 < 0 then (some (IntKind.u64.wrap ((IntKind.u64.wrap (wrap64 (-(wrap64 (a0 + 1))))) + 1))) else (some (IntKind.u64.wrap (a0)))
set_option maxHeartbeats 8000000 in
set_option maxRecDepth 100000 in
theorem ergolaw02_size.calls (a0 : Int) (r : Int) (w : World) (h : ergolaw02_size.f a0 = some r) :
    Calls Try.prog 12 #[.int .i64 a0] w fun e w' => e = .returned (.int .u64 r) ∧ Drawn0 w w' := by
  have H : (if a0 < 0 then (some (IntKind.u64.wrap ((IntKind.u64.wrap (wrap64 (-(wrap64 (a0 + 1))))) + 1))) else (some (IntKind.u64.wrap (a0)))) = some r := h
  clear h
  by_cases c2 : a0 < 0
  · rw [if_pos c2] at H
    have c2b0 : decide (a0 < 0) = true := decide_eq_true c2
    clear c2
    obtain rfl := Option.some.inj H
    go_enter Try.func12, Try.ntmps12
    go_wp2
    go_ret
    exact ⟨by first | rfl | (simp; done) | (simp [*]; done), by repeat (first | exact Drawn0.refl _ | apply Drawn0.step)⟩
  · rw [if_neg c2] at H
    have c2b0 : decide (a0 < 0) = false := decide_eq_false c2
    clear c2
    obtain rfl := Option.some.inj H
    go_enter Try.func12, Try.ntmps12
    go_wp2
    go_ret
    exact ⟨by first | rfl | (simp; done) | (simp [*]; done), by repeat (first | exact Drawn0.refl _ | apply Drawn0.step)⟩

end Go.Proofs.Yteamoapmgnbgmaa.XAll
