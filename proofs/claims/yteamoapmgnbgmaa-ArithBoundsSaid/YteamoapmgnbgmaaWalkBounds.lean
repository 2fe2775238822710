/- ArithBounds: for any operation number and any two numbers its Go code answers true: the signs, and what has no result. No condition. -/
import Derived.Test.YteamoapmgnbgmaaWalkK
namespace Go.Proofs.Yteamoapmgnbgmaa.Pure
open Go.RowKit Go.Proofs.Yteamoapmgnbgmaa.XAll Go.Proofs.YteamoapmgnbgmaaW.PrintWords Go.Proofs.YteamoapmgnbgmaaW.PrintLast Go.Proofs.YteamoapmgnbgmaaW.PrintMore
set_option linter.unusedVariables false
set_option linter.unusedSimpArgs false
attribute [local go_sem] max2_int min2_int max_two min_two max_three min_three max_four min_four

theorem sign_ret (n : Int) (s : ByteArray) (h : arith_Op_Sign.f n = some s) : ∀ w, Calls Try.prog 14 #[.int .i64 n] w fun e w' => e = .returned (.string s) ∧ Below w.heap.size w w' := fun w => arith_Op_Sign.calls n s w h
set_option maxHeartbeats 400000 in
set_option maxRecDepth 100000 in
theorem bounds_0t (a b : Int) (q : Int) (w : World) (c : Ret 11 #[.int .i64 0, .int .i64 a, .int .i64 b] (.tuple #[.int .i64 q, .bool true])) :
    Calls Try.prog 4 #[.int .i64 0, .int .i64 a, .int .i64 b] w fun e w' => e = .returned (.bool true) ∧ Below w.heap.size w w' := by
  have hs := sign_ret 0 (⟨#[43]⟩ : ByteArray) (by decide)
  go_enter Try.func4, Try.ntmps4
  go_wp2_with (first | (go_at_call 10; (with_reducible refine (head_ret _).mono ?_); rintro e w1 ⟨rfl, HB⟩) | (go_at_call 11; (with_reducible refine (c.out _).mono ?_); rintro e w' ⟨rfl, ⟨nd, rfl⟩⟩; (try first | exact ⟨rfl, _, World.drewN_drewN _ _ _⟩ | exact ⟨rfl, _, Eq.trans (World.drewN_drewN _ _ _) (congrArg (World.drewN _) (Nat.add_assoc _ _ _))⟩)) | (go_at_call 14; (with_reducible refine (hs _).mono ?_); rintro e w2 ⟨rfl, HB2⟩))
  repeat (go_quiet (first | (go_at_call 10; (with_reducible refine (head_ret _).mono ?_); rintro e w1 ⟨rfl, HB⟩) | (go_at_call 11; (with_reducible refine (c.out _).mono ?_); rintro e w' ⟨rfl, ⟨nd, rfl⟩⟩; (try first | exact ⟨rfl, _, World.drewN_drewN _ _ _⟩ | exact ⟨rfl, _, Eq.trans (World.drewN_drewN _ _ _) (congrArg (World.drewN _) (Nat.add_assoc _ _ _))⟩)) | (go_at_call 14; (with_reducible refine (hs _).mono ?_); rintro e w2 ⟨rfl, HB2⟩)); go_wp2_with (first | (go_at_call 10; (with_reducible refine (head_ret _).mono ?_); rintro e w1 ⟨rfl, HB⟩) | (go_at_call 11; (with_reducible refine (c.out _).mono ?_); rintro e w' ⟨rfl, ⟨nd, rfl⟩⟩; (try first | exact ⟨rfl, _, World.drewN_drewN _ _ _⟩ | exact ⟨rfl, _, Eq.trans (World.drewN_drewN _ _ _) (congrArg (World.drewN _) (Nat.add_assoc _ _ _))⟩)) | (go_at_call 14; (with_reducible refine (hs _).mono ?_); rintro e w2 ⟨rfl, HB2⟩)))
  go_ret
  refine ⟨rfl, ?_⟩
  refine below_then ?bb ?ss HB2
  case bb => repeat (first | exact HB | apply pw_below_drewN | apply below_alloc)
  case ss => exact Below.size (show Below w.heap.size w _ from by repeat (first | exact HB | apply pw_below_drewN | apply below_alloc))

set_option maxHeartbeats 400000 in
set_option maxRecDepth 100000 in
theorem bounds_0f (a b : Int) (w : World) (c : Ret 11 #[.int .i64 0, .int .i64 a, .int .i64 b] (.tuple #[.int .i64 0, .bool false])) :
    Calls Try.prog 4 #[.int .i64 0, .int .i64 a, .int .i64 b] w fun e w' => e = .returned (.bool true) ∧ Below w.heap.size w w' := by
  have hs := sign_ret 0 (⟨#[43]⟩ : ByteArray) (by decide)
  go_enter Try.func4, Try.ntmps4
  go_wp2_with (first | (go_at_call 10; (with_reducible refine (head_ret _).mono ?_); rintro e w1 ⟨rfl, HB⟩) | (go_at_call 11; (with_reducible refine (c.out _).mono ?_); rintro e w' ⟨rfl, ⟨nd, rfl⟩⟩; (try first | exact ⟨rfl, _, World.drewN_drewN _ _ _⟩ | exact ⟨rfl, _, Eq.trans (World.drewN_drewN _ _ _) (congrArg (World.drewN _) (Nat.add_assoc _ _ _))⟩)) | (go_at_call 14; (with_reducible refine (hs _).mono ?_); rintro e w2 ⟨rfl, HB2⟩))
  repeat (go_quiet (first | (go_at_call 10; (with_reducible refine (head_ret _).mono ?_); rintro e w1 ⟨rfl, HB⟩) | (go_at_call 11; (with_reducible refine (c.out _).mono ?_); rintro e w' ⟨rfl, ⟨nd, rfl⟩⟩; (try first | exact ⟨rfl, _, World.drewN_drewN _ _ _⟩ | exact ⟨rfl, _, Eq.trans (World.drewN_drewN _ _ _) (congrArg (World.drewN _) (Nat.add_assoc _ _ _))⟩)) | (go_at_call 14; (with_reducible refine (hs _).mono ?_); rintro e w2 ⟨rfl, HB2⟩)); go_wp2_with (first | (go_at_call 10; (with_reducible refine (head_ret _).mono ?_); rintro e w1 ⟨rfl, HB⟩) | (go_at_call 11; (with_reducible refine (c.out _).mono ?_); rintro e w' ⟨rfl, ⟨nd, rfl⟩⟩; (try first | exact ⟨rfl, _, World.drewN_drewN _ _ _⟩ | exact ⟨rfl, _, Eq.trans (World.drewN_drewN _ _ _) (congrArg (World.drewN _) (Nat.add_assoc _ _ _))⟩)) | (go_at_call 14; (with_reducible refine (hs _).mono ?_); rintro e w2 ⟨rfl, HB2⟩)))
  go_ret
  refine ⟨rfl, ?_⟩
  refine below_then ?bb ?ss HB2
  case bb => repeat (first | exact HB | apply pw_below_drewN | apply below_alloc)
  case ss => exact Below.size (show Below w.heap.size w _ from by repeat (first | exact HB | apply pw_below_drewN | apply below_alloc))

set_option maxHeartbeats 400000 in
set_option maxRecDepth 100000 in
theorem bounds_1t (a b : Int) (q : Int) (w : World) (c : Ret 11 #[.int .i64 1, .int .i64 a, .int .i64 b] (.tuple #[.int .i64 q, .bool true])) :
    Calls Try.prog 4 #[.int .i64 1, .int .i64 a, .int .i64 b] w fun e w' => e = .returned (.bool true) ∧ Below w.heap.size w w' := by
  have hs := sign_ret 1 (⟨#[45]⟩ : ByteArray) (by decide)
  go_enter Try.func4, Try.ntmps4
  go_wp2_with (first | (go_at_call 10; (with_reducible refine (head_ret _).mono ?_); rintro e w1 ⟨rfl, HB⟩) | (go_at_call 11; (with_reducible refine (c.out _).mono ?_); rintro e w' ⟨rfl, ⟨nd, rfl⟩⟩; (try first | exact ⟨rfl, _, World.drewN_drewN _ _ _⟩ | exact ⟨rfl, _, Eq.trans (World.drewN_drewN _ _ _) (congrArg (World.drewN _) (Nat.add_assoc _ _ _))⟩)) | (go_at_call 14; (with_reducible refine (hs _).mono ?_); rintro e w2 ⟨rfl, HB2⟩))
  repeat (go_quiet (first | (go_at_call 10; (with_reducible refine (head_ret _).mono ?_); rintro e w1 ⟨rfl, HB⟩) | (go_at_call 11; (with_reducible refine (c.out _).mono ?_); rintro e w' ⟨rfl, ⟨nd, rfl⟩⟩; (try first | exact ⟨rfl, _, World.drewN_drewN _ _ _⟩ | exact ⟨rfl, _, Eq.trans (World.drewN_drewN _ _ _) (congrArg (World.drewN _) (Nat.add_assoc _ _ _))⟩)) | (go_at_call 14; (with_reducible refine (hs _).mono ?_); rintro e w2 ⟨rfl, HB2⟩)); go_wp2_with (first | (go_at_call 10; (with_reducible refine (head_ret _).mono ?_); rintro e w1 ⟨rfl, HB⟩) | (go_at_call 11; (with_reducible refine (c.out _).mono ?_); rintro e w' ⟨rfl, ⟨nd, rfl⟩⟩; (try first | exact ⟨rfl, _, World.drewN_drewN _ _ _⟩ | exact ⟨rfl, _, Eq.trans (World.drewN_drewN _ _ _) (congrArg (World.drewN _) (Nat.add_assoc _ _ _))⟩)) | (go_at_call 14; (with_reducible refine (hs _).mono ?_); rintro e w2 ⟨rfl, HB2⟩)))
  go_ret
  refine ⟨rfl, ?_⟩
  refine below_then ?bb ?ss HB2
  case bb => repeat (first | exact HB | apply pw_below_drewN | apply below_alloc)
  case ss => exact Below.size (show Below w.heap.size w _ from by repeat (first | exact HB | apply pw_below_drewN | apply below_alloc))

set_option maxHeartbeats 400000 in
set_option maxRecDepth 100000 in
theorem bounds_1f (a b : Int) (w : World) (c : Ret 11 #[.int .i64 1, .int .i64 a, .int .i64 b] (.tuple #[.int .i64 0, .bool false])) :
    Calls Try.prog 4 #[.int .i64 1, .int .i64 a, .int .i64 b] w fun e w' => e = .returned (.bool true) ∧ Below w.heap.size w w' := by
  have hs := sign_ret 1 (⟨#[45]⟩ : ByteArray) (by decide)
  go_enter Try.func4, Try.ntmps4
  go_wp2_with (first | (go_at_call 10; (with_reducible refine (head_ret _).mono ?_); rintro e w1 ⟨rfl, HB⟩) | (go_at_call 11; (with_reducible refine (c.out _).mono ?_); rintro e w' ⟨rfl, ⟨nd, rfl⟩⟩; (try first | exact ⟨rfl, _, World.drewN_drewN _ _ _⟩ | exact ⟨rfl, _, Eq.trans (World.drewN_drewN _ _ _) (congrArg (World.drewN _) (Nat.add_assoc _ _ _))⟩)) | (go_at_call 14; (with_reducible refine (hs _).mono ?_); rintro e w2 ⟨rfl, HB2⟩))
  repeat (go_quiet (first | (go_at_call 10; (with_reducible refine (head_ret _).mono ?_); rintro e w1 ⟨rfl, HB⟩) | (go_at_call 11; (with_reducible refine (c.out _).mono ?_); rintro e w' ⟨rfl, ⟨nd, rfl⟩⟩; (try first | exact ⟨rfl, _, World.drewN_drewN _ _ _⟩ | exact ⟨rfl, _, Eq.trans (World.drewN_drewN _ _ _) (congrArg (World.drewN _) (Nat.add_assoc _ _ _))⟩)) | (go_at_call 14; (with_reducible refine (hs _).mono ?_); rintro e w2 ⟨rfl, HB2⟩)); go_wp2_with (first | (go_at_call 10; (with_reducible refine (head_ret _).mono ?_); rintro e w1 ⟨rfl, HB⟩) | (go_at_call 11; (with_reducible refine (c.out _).mono ?_); rintro e w' ⟨rfl, ⟨nd, rfl⟩⟩; (try first | exact ⟨rfl, _, World.drewN_drewN _ _ _⟩ | exact ⟨rfl, _, Eq.trans (World.drewN_drewN _ _ _) (congrArg (World.drewN _) (Nat.add_assoc _ _ _))⟩)) | (go_at_call 14; (with_reducible refine (hs _).mono ?_); rintro e w2 ⟨rfl, HB2⟩)))
  go_ret
  refine ⟨rfl, ?_⟩
  refine below_then ?bb ?ss HB2
  case bb => repeat (first | exact HB | apply pw_below_drewN | apply below_alloc)
  case ss => exact Below.size (show Below w.heap.size w _ from by repeat (first | exact HB | apply pw_below_drewN | apply below_alloc))

set_option maxHeartbeats 400000 in
set_option maxRecDepth 100000 in
theorem bounds_2t (a b : Int) (q : Int) (w : World) (c : Ret 11 #[.int .i64 2, .int .i64 a, .int .i64 b] (.tuple #[.int .i64 q, .bool true])) :
    Calls Try.prog 4 #[.int .i64 2, .int .i64 a, .int .i64 b] w fun e w' => e = .returned (.bool true) ∧ Below w.heap.size w w' := by
  have hs := sign_ret 2 (⟨#[42]⟩ : ByteArray) (by decide)
  go_enter Try.func4, Try.ntmps4
  go_wp2_with (first | (go_at_call 10; (with_reducible refine (head_ret _).mono ?_); rintro e w1 ⟨rfl, HB⟩) | (go_at_call 11; (with_reducible refine (c.out _).mono ?_); rintro e w' ⟨rfl, ⟨nd, rfl⟩⟩; (try first | exact ⟨rfl, _, World.drewN_drewN _ _ _⟩ | exact ⟨rfl, _, Eq.trans (World.drewN_drewN _ _ _) (congrArg (World.drewN _) (Nat.add_assoc _ _ _))⟩)) | (go_at_call 14; (with_reducible refine (hs _).mono ?_); rintro e w2 ⟨rfl, HB2⟩))
  repeat (go_quiet (first | (go_at_call 10; (with_reducible refine (head_ret _).mono ?_); rintro e w1 ⟨rfl, HB⟩) | (go_at_call 11; (with_reducible refine (c.out _).mono ?_); rintro e w' ⟨rfl, ⟨nd, rfl⟩⟩; (try first | exact ⟨rfl, _, World.drewN_drewN _ _ _⟩ | exact ⟨rfl, _, Eq.trans (World.drewN_drewN _ _ _) (congrArg (World.drewN _) (Nat.add_assoc _ _ _))⟩)) | (go_at_call 14; (with_reducible refine (hs _).mono ?_); rintro e w2 ⟨rfl, HB2⟩)); go_wp2_with (first | (go_at_call 10; (with_reducible refine (head_ret _).mono ?_); rintro e w1 ⟨rfl, HB⟩) | (go_at_call 11; (with_reducible refine (c.out _).mono ?_); rintro e w' ⟨rfl, ⟨nd, rfl⟩⟩; (try first | exact ⟨rfl, _, World.drewN_drewN _ _ _⟩ | exact ⟨rfl, _, Eq.trans (World.drewN_drewN _ _ _) (congrArg (World.drewN _) (Nat.add_assoc _ _ _))⟩)) | (go_at_call 14; (with_reducible refine (hs _).mono ?_); rintro e w2 ⟨rfl, HB2⟩)))
  go_ret
  refine ⟨rfl, ?_⟩
  refine below_then ?bb ?ss HB2
  case bb => repeat (first | exact HB | apply pw_below_drewN | apply below_alloc)
  case ss => exact Below.size (show Below w.heap.size w _ from by repeat (first | exact HB | apply pw_below_drewN | apply below_alloc))

set_option maxHeartbeats 400000 in
set_option maxRecDepth 100000 in
theorem bounds_2f (a b : Int) (w : World) (c : Ret 11 #[.int .i64 2, .int .i64 a, .int .i64 b] (.tuple #[.int .i64 0, .bool false])) :
    Calls Try.prog 4 #[.int .i64 2, .int .i64 a, .int .i64 b] w fun e w' => e = .returned (.bool true) ∧ Below w.heap.size w w' := by
  have hs := sign_ret 2 (⟨#[42]⟩ : ByteArray) (by decide)
  go_enter Try.func4, Try.ntmps4
  go_wp2_with (first | (go_at_call 10; (with_reducible refine (head_ret _).mono ?_); rintro e w1 ⟨rfl, HB⟩) | (go_at_call 11; (with_reducible refine (c.out _).mono ?_); rintro e w' ⟨rfl, ⟨nd, rfl⟩⟩; (try first | exact ⟨rfl, _, World.drewN_drewN _ _ _⟩ | exact ⟨rfl, _, Eq.trans (World.drewN_drewN _ _ _) (congrArg (World.drewN _) (Nat.add_assoc _ _ _))⟩)) | (go_at_call 14; (with_reducible refine (hs _).mono ?_); rintro e w2 ⟨rfl, HB2⟩))
  repeat (go_quiet (first | (go_at_call 10; (with_reducible refine (head_ret _).mono ?_); rintro e w1 ⟨rfl, HB⟩) | (go_at_call 11; (with_reducible refine (c.out _).mono ?_); rintro e w' ⟨rfl, ⟨nd, rfl⟩⟩; (try first | exact ⟨rfl, _, World.drewN_drewN _ _ _⟩ | exact ⟨rfl, _, Eq.trans (World.drewN_drewN _ _ _) (congrArg (World.drewN _) (Nat.add_assoc _ _ _))⟩)) | (go_at_call 14; (with_reducible refine (hs _).mono ?_); rintro e w2 ⟨rfl, HB2⟩)); go_wp2_with (first | (go_at_call 10; (with_reducible refine (head_ret _).mono ?_); rintro e w1 ⟨rfl, HB⟩) | (go_at_call 11; (with_reducible refine (c.out _).mono ?_); rintro e w' ⟨rfl, ⟨nd, rfl⟩⟩; (try first | exact ⟨rfl, _, World.drewN_drewN _ _ _⟩ | exact ⟨rfl, _, Eq.trans (World.drewN_drewN _ _ _) (congrArg (World.drewN _) (Nat.add_assoc _ _ _))⟩)) | (go_at_call 14; (with_reducible refine (hs _).mono ?_); rintro e w2 ⟨rfl, HB2⟩)))
  go_ret
  refine ⟨rfl, ?_⟩
  refine below_then ?bb ?ss HB2
  case bb => repeat (first | exact HB | apply pw_below_drewN | apply below_alloc)
  case ss => exact Below.size (show Below w.heap.size w _ from by repeat (first | exact HB | apply pw_below_drewN | apply below_alloc))

set_option maxHeartbeats 400000 in
set_option maxRecDepth 100000 in
theorem bounds_3t (a b : Int) (q : Int) (w : World) (c : Ret 11 #[.int .i64 3, .int .i64 a, .int .i64 b] (.tuple #[.int .i64 q, .bool true])) :
    Calls Try.prog 4 #[.int .i64 3, .int .i64 a, .int .i64 b] w fun e w' => e = .returned (.bool true) ∧ Below w.heap.size w w' := by
  have hs := sign_ret 3 (⟨#[47]⟩ : ByteArray) (by decide)
  go_enter Try.func4, Try.ntmps4
  go_wp2_with (first | (go_at_call 10; (with_reducible refine (head_ret _).mono ?_); rintro e w1 ⟨rfl, HB⟩) | (go_at_call 11; (with_reducible refine (c.out _).mono ?_); rintro e w' ⟨rfl, ⟨nd, rfl⟩⟩; (try first | exact ⟨rfl, _, World.drewN_drewN _ _ _⟩ | exact ⟨rfl, _, Eq.trans (World.drewN_drewN _ _ _) (congrArg (World.drewN _) (Nat.add_assoc _ _ _))⟩)) | (go_at_call 14; (with_reducible refine (hs _).mono ?_); rintro e w2 ⟨rfl, HB2⟩))
  repeat (go_quiet (first | (go_at_call 10; (with_reducible refine (head_ret _).mono ?_); rintro e w1 ⟨rfl, HB⟩) | (go_at_call 11; (with_reducible refine (c.out _).mono ?_); rintro e w' ⟨rfl, ⟨nd, rfl⟩⟩; (try first | exact ⟨rfl, _, World.drewN_drewN _ _ _⟩ | exact ⟨rfl, _, Eq.trans (World.drewN_drewN _ _ _) (congrArg (World.drewN _) (Nat.add_assoc _ _ _))⟩)) | (go_at_call 14; (with_reducible refine (hs _).mono ?_); rintro e w2 ⟨rfl, HB2⟩)); go_wp2_with (first | (go_at_call 10; (with_reducible refine (head_ret _).mono ?_); rintro e w1 ⟨rfl, HB⟩) | (go_at_call 11; (with_reducible refine (c.out _).mono ?_); rintro e w' ⟨rfl, ⟨nd, rfl⟩⟩; (try first | exact ⟨rfl, _, World.drewN_drewN _ _ _⟩ | exact ⟨rfl, _, Eq.trans (World.drewN_drewN _ _ _) (congrArg (World.drewN _) (Nat.add_assoc _ _ _))⟩)) | (go_at_call 14; (with_reducible refine (hs _).mono ?_); rintro e w2 ⟨rfl, HB2⟩)))
  go_ret
  refine ⟨rfl, ?_⟩
  refine below_then ?bb ?ss HB2
  case bb => repeat (first | exact HB | apply pw_below_drewN | apply below_alloc)
  case ss => exact Below.size (show Below w.heap.size w _ from by repeat (first | exact HB | apply pw_below_drewN | apply below_alloc))

set_option maxHeartbeats 400000 in
set_option maxRecDepth 100000 in
theorem bounds_3f (a b : Int) (w : World) (c : Ret 11 #[.int .i64 3, .int .i64 a, .int .i64 b] (.tuple #[.int .i64 0, .bool false])) :
    Calls Try.prog 4 #[.int .i64 3, .int .i64 a, .int .i64 b] w fun e w' => e = .returned (.bool true) ∧ Below w.heap.size w w' := by
  have hs := sign_ret 3 (⟨#[47]⟩ : ByteArray) (by decide)
  go_enter Try.func4, Try.ntmps4
  go_wp2_with (first | (go_at_call 10; (with_reducible refine (head_ret _).mono ?_); rintro e w1 ⟨rfl, HB⟩) | (go_at_call 11; (with_reducible refine (c.out _).mono ?_); rintro e w' ⟨rfl, ⟨nd, rfl⟩⟩; (try first | exact ⟨rfl, _, World.drewN_drewN _ _ _⟩ | exact ⟨rfl, _, Eq.trans (World.drewN_drewN _ _ _) (congrArg (World.drewN _) (Nat.add_assoc _ _ _))⟩)) | (go_at_call 14; (with_reducible refine (hs _).mono ?_); rintro e w2 ⟨rfl, HB2⟩))
  repeat (go_quiet (first | (go_at_call 10; (with_reducible refine (head_ret _).mono ?_); rintro e w1 ⟨rfl, HB⟩) | (go_at_call 11; (with_reducible refine (c.out _).mono ?_); rintro e w' ⟨rfl, ⟨nd, rfl⟩⟩; (try first | exact ⟨rfl, _, World.drewN_drewN _ _ _⟩ | exact ⟨rfl, _, Eq.trans (World.drewN_drewN _ _ _) (congrArg (World.drewN _) (Nat.add_assoc _ _ _))⟩)) | (go_at_call 14; (with_reducible refine (hs _).mono ?_); rintro e w2 ⟨rfl, HB2⟩)); go_wp2_with (first | (go_at_call 10; (with_reducible refine (head_ret _).mono ?_); rintro e w1 ⟨rfl, HB⟩) | (go_at_call 11; (with_reducible refine (c.out _).mono ?_); rintro e w' ⟨rfl, ⟨nd, rfl⟩⟩; (try first | exact ⟨rfl, _, World.drewN_drewN _ _ _⟩ | exact ⟨rfl, _, Eq.trans (World.drewN_drewN _ _ _) (congrArg (World.drewN _) (Nat.add_assoc _ _ _))⟩)) | (go_at_call 14; (with_reducible refine (hs _).mono ?_); rintro e w2 ⟨rfl, HB2⟩)))
  go_ret
  refine ⟨rfl, ?_⟩
  refine below_then ?bb ?ss HB2
  case bb => repeat (first | exact HB | apply pw_below_drewN | apply below_alloc)
  case ss => exact Below.size (show Below w.heap.size w _ from by repeat (first | exact HB | apply pw_below_drewN | apply below_alloc))

set_option maxHeartbeats 400000 in
set_option maxRecDepth 100000 in
theorem bounds_4t (a b : Int) (q : Int) (w : World) (c : Ret 11 #[.int .i64 4, .int .i64 a, .int .i64 b] (.tuple #[.int .i64 q, .bool true])) :
    Calls Try.prog 4 #[.int .i64 4, .int .i64 a, .int .i64 b] w fun e w' => e = .returned (.bool true) ∧ Below w.heap.size w w' := by
  have hs := sign_ret 4 (⟨#[37]⟩ : ByteArray) (by decide)
  go_enter Try.func4, Try.ntmps4
  go_wp2_with (first | (go_at_call 10; (with_reducible refine (head_ret _).mono ?_); rintro e w1 ⟨rfl, HB⟩) | (go_at_call 11; (with_reducible refine (c.out _).mono ?_); rintro e w' ⟨rfl, ⟨nd, rfl⟩⟩; (try first | exact ⟨rfl, _, World.drewN_drewN _ _ _⟩ | exact ⟨rfl, _, Eq.trans (World.drewN_drewN _ _ _) (congrArg (World.drewN _) (Nat.add_assoc _ _ _))⟩)) | (go_at_call 14; (with_reducible refine (hs _).mono ?_); rintro e w2 ⟨rfl, HB2⟩))
  repeat (go_quiet (first | (go_at_call 10; (with_reducible refine (head_ret _).mono ?_); rintro e w1 ⟨rfl, HB⟩) | (go_at_call 11; (with_reducible refine (c.out _).mono ?_); rintro e w' ⟨rfl, ⟨nd, rfl⟩⟩; (try first | exact ⟨rfl, _, World.drewN_drewN _ _ _⟩ | exact ⟨rfl, _, Eq.trans (World.drewN_drewN _ _ _) (congrArg (World.drewN _) (Nat.add_assoc _ _ _))⟩)) | (go_at_call 14; (with_reducible refine (hs _).mono ?_); rintro e w2 ⟨rfl, HB2⟩)); go_wp2_with (first | (go_at_call 10; (with_reducible refine (head_ret _).mono ?_); rintro e w1 ⟨rfl, HB⟩) | (go_at_call 11; (with_reducible refine (c.out _).mono ?_); rintro e w' ⟨rfl, ⟨nd, rfl⟩⟩; (try first | exact ⟨rfl, _, World.drewN_drewN _ _ _⟩ | exact ⟨rfl, _, Eq.trans (World.drewN_drewN _ _ _) (congrArg (World.drewN _) (Nat.add_assoc _ _ _))⟩)) | (go_at_call 14; (with_reducible refine (hs _).mono ?_); rintro e w2 ⟨rfl, HB2⟩)))
  go_ret
  refine ⟨rfl, ?_⟩
  refine below_then ?bb ?ss HB2
  case bb => repeat (first | exact HB | apply pw_below_drewN | apply below_alloc)
  case ss => exact Below.size (show Below w.heap.size w _ from by repeat (first | exact HB | apply pw_below_drewN | apply below_alloc))

set_option maxHeartbeats 400000 in
set_option maxRecDepth 100000 in
theorem bounds_4f (a b : Int) (w : World) (c : Ret 11 #[.int .i64 4, .int .i64 a, .int .i64 b] (.tuple #[.int .i64 0, .bool false])) :
    Calls Try.prog 4 #[.int .i64 4, .int .i64 a, .int .i64 b] w fun e w' => e = .returned (.bool true) ∧ Below w.heap.size w w' := by
  have hs := sign_ret 4 (⟨#[37]⟩ : ByteArray) (by decide)
  go_enter Try.func4, Try.ntmps4
  go_wp2_with (first | (go_at_call 10; (with_reducible refine (head_ret _).mono ?_); rintro e w1 ⟨rfl, HB⟩) | (go_at_call 11; (with_reducible refine (c.out _).mono ?_); rintro e w' ⟨rfl, ⟨nd, rfl⟩⟩; (try first | exact ⟨rfl, _, World.drewN_drewN _ _ _⟩ | exact ⟨rfl, _, Eq.trans (World.drewN_drewN _ _ _) (congrArg (World.drewN _) (Nat.add_assoc _ _ _))⟩)) | (go_at_call 14; (with_reducible refine (hs _).mono ?_); rintro e w2 ⟨rfl, HB2⟩))
  repeat (go_quiet (first | (go_at_call 10; (with_reducible refine (head_ret _).mono ?_); rintro e w1 ⟨rfl, HB⟩) | (go_at_call 11; (with_reducible refine (c.out _).mono ?_); rintro e w' ⟨rfl, ⟨nd, rfl⟩⟩; (try first | exact ⟨rfl, _, World.drewN_drewN _ _ _⟩ | exact ⟨rfl, _, Eq.trans (World.drewN_drewN _ _ _) (congrArg (World.drewN _) (Nat.add_assoc _ _ _))⟩)) | (go_at_call 14; (with_reducible refine (hs _).mono ?_); rintro e w2 ⟨rfl, HB2⟩)); go_wp2_with (first | (go_at_call 10; (with_reducible refine (head_ret _).mono ?_); rintro e w1 ⟨rfl, HB⟩) | (go_at_call 11; (with_reducible refine (c.out _).mono ?_); rintro e w' ⟨rfl, ⟨nd, rfl⟩⟩; (try first | exact ⟨rfl, _, World.drewN_drewN _ _ _⟩ | exact ⟨rfl, _, Eq.trans (World.drewN_drewN _ _ _) (congrArg (World.drewN _) (Nat.add_assoc _ _ _))⟩)) | (go_at_call 14; (with_reducible refine (hs _).mono ?_); rintro e w2 ⟨rfl, HB2⟩)))
  go_ret
  refine ⟨rfl, ?_⟩
  refine below_then ?bb ?ss HB2
  case bb => repeat (first | exact HB | apply pw_below_drewN | apply below_alloc)
  case ss => exact Below.size (show Below w.heap.size w _ from by repeat (first | exact HB | apply pw_below_drewN | apply below_alloc))

set_option maxHeartbeats 400000 in
set_option maxRecDepth 100000 in
theorem bounds_lof (n : Int) (hn : n < 0) (a b : Int) (w : World) (c : Ret 11 #[.int .i64 n, .int .i64 a, .int .i64 b] (.tuple #[.int .i64 0, .bool false])) :
    Calls Try.prog 4 #[.int .i64 n, .int .i64 a, .int .i64 b] w fun e w' => e = .returned (.bool true) ∧ Below w.heap.size w w' := by
  have hs := sign_ret n (⟨#[]⟩ : ByteArray) (by unfold arith_Op_Sign.f; rw [if_neg (by omega), if_neg (by omega), if_neg (by omega), if_neg (by omega), if_neg (by omega)])
  go_enter Try.func4, Try.ntmps4
  go_wp2_with (first | (go_at_call 10; (with_reducible refine (head_ret _).mono ?_); rintro e w1 ⟨rfl, HB⟩) | (go_at_call 11; (with_reducible refine (c.out _).mono ?_); rintro e w' ⟨rfl, ⟨nd, rfl⟩⟩; (try first | exact ⟨rfl, _, World.drewN_drewN _ _ _⟩ | exact ⟨rfl, _, Eq.trans (World.drewN_drewN _ _ _) (congrArg (World.drewN _) (Nat.add_assoc _ _ _))⟩)) | (go_at_call 14; (with_reducible refine (hs _).mono ?_); rintro e w2 ⟨rfl, HB2⟩))
  repeat (go_quiet (first | (go_at_call 10; (with_reducible refine (head_ret _).mono ?_); rintro e w1 ⟨rfl, HB⟩) | (go_at_call 11; (with_reducible refine (c.out _).mono ?_); rintro e w' ⟨rfl, ⟨nd, rfl⟩⟩; (try first | exact ⟨rfl, _, World.drewN_drewN _ _ _⟩ | exact ⟨rfl, _, Eq.trans (World.drewN_drewN _ _ _) (congrArg (World.drewN _) (Nat.add_assoc _ _ _))⟩)) | (go_at_call 14; (with_reducible refine (hs _).mono ?_); rintro e w2 ⟨rfl, HB2⟩)); go_wp2_with (first | (go_at_call 10; (with_reducible refine (head_ret _).mono ?_); rintro e w1 ⟨rfl, HB⟩) | (go_at_call 11; (with_reducible refine (c.out _).mono ?_); rintro e w' ⟨rfl, ⟨nd, rfl⟩⟩; (try first | exact ⟨rfl, _, World.drewN_drewN _ _ _⟩ | exact ⟨rfl, _, Eq.trans (World.drewN_drewN _ _ _) (congrArg (World.drewN _) (Nat.add_assoc _ _ _))⟩)) | (go_at_call 14; (with_reducible refine (hs _).mono ?_); rintro e w2 ⟨rfl, HB2⟩)))
  go_ret
  refine ⟨rfl, ?_⟩
  refine below_then ?bb ?ss HB2
  case bb => repeat (first | exact HB | apply pw_below_drewN | apply below_alloc)
  case ss => exact Below.size (show Below w.heap.size w _ from by repeat (first | exact HB | apply pw_below_drewN | apply below_alloc))

set_option maxHeartbeats 400000 in
set_option maxRecDepth 100000 in
theorem bounds_hif (n : Int) (hn : 4 < n) (a b : Int) (w : World) (c : Ret 11 #[.int .i64 n, .int .i64 a, .int .i64 b] (.tuple #[.int .i64 0, .bool false])) :
    Calls Try.prog 4 #[.int .i64 n, .int .i64 a, .int .i64 b] w fun e w' => e = .returned (.bool true) ∧ Below w.heap.size w w' := by
  have hs := sign_ret n (⟨#[]⟩ : ByteArray) (by unfold arith_Op_Sign.f; rw [if_neg (by omega), if_neg (by omega), if_neg (by omega), if_neg (by omega), if_neg (by omega)])
  go_enter Try.func4, Try.ntmps4
  go_wp2_with (first | (go_at_call 10; (with_reducible refine (head_ret _).mono ?_); rintro e w1 ⟨rfl, HB⟩) | (go_at_call 11; (with_reducible refine (c.out _).mono ?_); rintro e w' ⟨rfl, ⟨nd, rfl⟩⟩; (try first | exact ⟨rfl, _, World.drewN_drewN _ _ _⟩ | exact ⟨rfl, _, Eq.trans (World.drewN_drewN _ _ _) (congrArg (World.drewN _) (Nat.add_assoc _ _ _))⟩)) | (go_at_call 14; (with_reducible refine (hs _).mono ?_); rintro e w2 ⟨rfl, HB2⟩))
  repeat (go_quiet (first | (go_at_call 10; (with_reducible refine (head_ret _).mono ?_); rintro e w1 ⟨rfl, HB⟩) | (go_at_call 11; (with_reducible refine (c.out _).mono ?_); rintro e w' ⟨rfl, ⟨nd, rfl⟩⟩; (try first | exact ⟨rfl, _, World.drewN_drewN _ _ _⟩ | exact ⟨rfl, _, Eq.trans (World.drewN_drewN _ _ _) (congrArg (World.drewN _) (Nat.add_assoc _ _ _))⟩)) | (go_at_call 14; (with_reducible refine (hs _).mono ?_); rintro e w2 ⟨rfl, HB2⟩)); go_wp2_with (first | (go_at_call 10; (with_reducible refine (head_ret _).mono ?_); rintro e w1 ⟨rfl, HB⟩) | (go_at_call 11; (with_reducible refine (c.out _).mono ?_); rintro e w' ⟨rfl, ⟨nd, rfl⟩⟩; (try first | exact ⟨rfl, _, World.drewN_drewN _ _ _⟩ | exact ⟨rfl, _, Eq.trans (World.drewN_drewN _ _ _) (congrArg (World.drewN _) (Nat.add_assoc _ _ _))⟩)) | (go_at_call 14; (with_reducible refine (hs _).mono ?_); rintro e w2 ⟨rfl, HB2⟩)))
  go_ret
  refine ⟨rfl, ?_⟩
  refine below_then ?bb ?ss HB2
  case bb => repeat (first | exact HB | apply pw_below_drewN | apply below_alloc)
  case ss => exact Below.size (show Below w.heap.size w _ from by repeat (first | exact HB | apply pw_below_drewN | apply below_alloc))

theorem ArithBounds_walk (n a b : Int) (w : World) (wn : (Lit.int .i64 n).wf = true) (wa : (Lit.int .i64 a).wf = true) (wb : (Lit.int .i64 b).wf = true) :
    Calls Try.prog 4 #[.int .i64 n, .int .i64 a, .int .i64 b] w fun e w' => e = .returned (.bool true) ∧ Below w.heap.size w w' := by
  have ha := i64_of_wf wa
  have hb := i64_of_wf wb
  clear wa wb wn
  have hc : doF n a b = (0, false) ∨ ∃ q, doF n a b = (q, true) := by
    unfold doF chk
    repeat' split
    all_goals first | exact .inl rfl | exact .inr ⟨_, rfl⟩
  by_cases h1 : n < 0
  · exact bounds_lof n h1 a b w (do_ret n a b ha hb _ _ (by unfold doF; rw [if_neg (by omega), if_neg (by omega), if_neg (by omega), if_neg (by omega), if_neg (by omega)]))
  by_cases h2 : 4 < n
  · exact bounds_hif n h2 a b w (do_ret n a b ha hb _ _ (by unfold doF; rw [if_neg (by omega), if_neg (by omega), if_neg (by omega), if_neg (by omega), if_neg (by omega)]))
  have h3 : n = 0 ∨ n = 1 ∨ n = 2 ∨ n = 3 ∨ n = 4 := by omega
  rcases h3 with rfl | rfl | rfl | rfl | rfl
  · rcases hc with h | ⟨q, h⟩
    · exact bounds_0f a b w (do_ret 0 a b ha hb _ _ h)
    · exact bounds_0t a b q w (do_ret 0 a b ha hb _ _ h)
  · rcases hc with h | ⟨q, h⟩
    · exact bounds_1f a b w (do_ret 1 a b ha hb _ _ h)
    · exact bounds_1t a b q w (do_ret 1 a b ha hb _ _ h)
  · rcases hc with h | ⟨q, h⟩
    · exact bounds_2f a b w (do_ret 2 a b ha hb _ _ h)
    · exact bounds_2t a b q w (do_ret 2 a b ha hb _ _ h)
  · rcases hc with h | ⟨q, h⟩
    · exact bounds_3f a b w (do_ret 3 a b ha hb _ _ h)
    · exact bounds_3t a b q w (do_ret 3 a b ha hb _ _ h)
  · rcases hc with h | ⟨q, h⟩
    · exact bounds_4f a b w (do_ret 4 a b ha hb _ _ h)
    · exact bounds_4t a b q w (do_ret 4 a b ha hb _ _ h)

end Go.Proofs.Yteamoapmgnbgmaa.Pure
