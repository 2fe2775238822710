-- Written for this claim by a program of this session (around the kit's print).
import Derived.Test.YtpponaflfpafnaaXAllx0
namespace Go.Proofs.Ytpponaflfpafnaa.XAll
open Go.RowKit Go.Proofs.YtpponaflfpafnaaW.PrintWords Go.Proofs.YtpponaflfpafnaaW.PrintLast Go.Proofs.YtpponaflfpafnaaW.PrintMore
attribute [local go_sem] max2_int min2_int max_two min_two max_three min_three max_four min_four   -- for this text's walks alone
set_option linter.unusedVariables false
set_option linter.unusedSimpArgs false

/-! ### column_Op_Sign: function 11 -/
def column_Op_Sign.f (a0 : Int) : Option (ByteArray) := if a0 = 0 then (some (⟨#[61]⟩ : ByteArray)) else (if a0 = 1 then (some (⟨#[33, 61]⟩ : ByteArray)) else (if a0 = 2 then (some (⟨#[60]⟩ : ByteArray)) else (if a0 = 3 then (some (⟨#[60, 61]⟩ : ByteArray)) else (if a0 = 4 then (some (⟨#[62]⟩ : ByteArray)) else (if a0 = 5 then (some (⟨#[62, 61]⟩ : ByteArray)) else (some (⟨#[]⟩ : ByteArray)))))))
set_option maxHeartbeats 1000000 in
set_option maxRecDepth 100000 in
theorem column_Op_Sign.calls (a0 : Int) (r : ByteArray) (w : World) (h : column_Op_Sign.f a0 = some r) :
    Calls Try.prog 11 #[.int .i64 a0] w fun e w' => e = .returned (.string r) ∧ Below w.heap.size w w' := by
  by_cases c0 : a0 = 0
  · subst c0
    obtain rfl := Option.some.inj (show some (⟨#[61]⟩ : ByteArray) = some r from h)
    go_enter Try.func11, Try.ntmps11
    go_wp2
    go_ret
    exact ⟨rfl, (Below.refl _ _).alloc (Nat.le_refl _) _⟩
  by_cases c1 : a0 = 1
  · subst c1
    obtain rfl := Option.some.inj (show some (⟨#[33, 61]⟩ : ByteArray) = some r from h)
    go_enter Try.func11, Try.ntmps11
    go_wp2
    go_ret
    exact ⟨rfl, (Below.refl _ _).alloc (Nat.le_refl _) _⟩
  by_cases c2 : a0 = 2
  · subst c2
    obtain rfl := Option.some.inj (show some (⟨#[60]⟩ : ByteArray) = some r from h)
    go_enter Try.func11, Try.ntmps11
    go_wp2
    go_ret
    exact ⟨rfl, (Below.refl _ _).alloc (Nat.le_refl _) _⟩
  by_cases c3 : a0 = 3
  · subst c3
    obtain rfl := Option.some.inj (show some (⟨#[60, 61]⟩ : ByteArray) = some r from h)
    go_enter Try.func11, Try.ntmps11
    go_wp2
    go_ret
    exact ⟨rfl, (Below.refl _ _).alloc (Nat.le_refl _) _⟩
  by_cases c4 : a0 = 4
  · subst c4
    obtain rfl := Option.some.inj (show some (⟨#[62]⟩ : ByteArray) = some r from h)
    go_enter Try.func11, Try.ntmps11
    go_wp2
    go_ret
    exact ⟨rfl, (Below.refl _ _).alloc (Nat.le_refl _) _⟩
  by_cases c5 : a0 = 5
  · subst c5
    obtain rfl := Option.some.inj (show some (⟨#[62, 61]⟩ : ByteArray) = some r from h)
    go_enter Try.func11, Try.ntmps11
    go_wp2
    go_ret
    exact ⟨rfl, (Below.refl _ _).alloc (Nat.le_refl _) _⟩
  have h' : some (⟨#[]⟩ : ByteArray) = some r := by unfold column_Op_Sign.f at h; rw [if_neg c0, if_neg c1, if_neg c2, if_neg c3, if_neg c4, if_neg c5] at h; exact h
  obtain rfl := Option.some.inj h'
  clear h h'
  by_cases d0 : a0 < 0
  · clear c0 c1 c2 c3 c4 c5
    go_enter Try.func11, Try.ntmps11
    go_wp2
    go_ret
    exact ⟨rfl, (Below.refl _ _).alloc (Nat.le_refl _) _⟩
  · have d1 : 5 < a0 := by omega
    have d2 : decide (a0 < 0) = false := by simpa using d0
    clear d0 c0 c1 c2 c3 c4 c5
    go_enter Try.func11, Try.ntmps11
    go_wp2
    go_ret
    exact ⟨rfl, (Below.refl _ _).alloc (Nat.le_refl _) _⟩

end Go.Proofs.Ytpponaflfpafnaa.XAll
