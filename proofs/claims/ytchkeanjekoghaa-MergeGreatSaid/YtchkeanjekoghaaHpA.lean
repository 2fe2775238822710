import Derived.Test.YtchkeanjekoghaaLib
namespace Go.Proofs.Ytchkeanjekoghaa.Hp
open Go.RowKit Go.Shelf
set_option linter.unusedVariables false
set_option linter.unusedSimpArgs false

theorem less_any (a b : Int) (w : World) : Calls Try.prog 13 #[.int .i64 a, .int .i64 b] w fun e w' => e = .returned (.bool (decide (a < b))) ∧ w' = w := by
  go_enter Try.func13, Try.ntmps13
  go_wp2
  go_ret
  exact ⟨rfl, rfl⟩
theorem less_ret (a b : Int) (r : Bool) (w : World) (h : decide (a < b) = r) : Calls Try.prog 13 #[.int .i64 a, .int .i64 b] w fun e w' => e = .returned (.bool r) ∧ w' = w := by
  subst h
  exact less_any a b w

theorem more_any (a b : Int) (w : World) : Calls Try.prog 17 #[.int .i64 a, .int .i64 b] w fun e w' => e = .returned (.bool (decide (b < a))) ∧ w' = w := by
  go_enter Try.func17, Try.ntmps17
  go_wp2
  go_ret
  exact ⟨rfl, rfl⟩
theorem more_ret (a b : Int) (r : Bool) (w : World) (h : decide (b < a) = r) : Calls Try.prog 17 #[.int .i64 a, .int .i64 b] w fun e w' => e = .returned (.bool r) ∧ w' = w := by
  subst h
  exact more_any a b w

set_option maxHeartbeats 1000000 in
set_option maxRecDepth 100000 in
theorem before_less0 (g b n cap : Nat) (i j : Int) (xi ci xj cj came : Int) (w : World) (hi0 : 0 ≤ i) (hin : i < n) (hj0 : 0 ≤ j) (hjn : j < n) (hn : n ≤ 9223372036854775807) (hgl : g < w.heap.size) (hbl : b < w.heap.size)
    (h0 : w.cell? ⟨g, 0, none⟩ = some (.func (.func 13) #[] #[])) (h1 : w.cell? ⟨g, 1, none⟩ = some (.slice (some ⟨b, 0, none⟩) n cap)) (h2 : w.cell? ⟨g, 2, none⟩ = some (.int .i64 came))
    (a0 : w.cell? ⟨b, i.toNat * 2, none⟩ = some (.int .i64 xi)) (a1 : w.cell? ⟨b, i.toNat * 2 + 1, none⟩ = some (.int .i64 ci)) (b0 : w.cell? ⟨b, j.toNat * 2, none⟩ = some (.int .i64 xj)) (b1 : w.cell? ⟨b, j.toNat * 2 + 1, none⟩ = some (.int .i64 cj))
    (t1 : decide (xi < xj) = true)  :
    Calls Try.prog 21 #[.pointer (some ⟨g, 0, none⟩), .int .i64 i, .int .i64 j] w fun e w' => e = .returned (.bool (true)) ∧ Below w.heap.size w w' := by
  have eg : ∀ args w, (callFunc 13 args).run Try.prog w = .ok (.enter 13 args) w := enters_of Try.func13 (by kernel_rfl) rfl
  have T1 := Aside0.mk t1
  clear t1
  go_enter Try.func21, Try.ntmps21
  go_wp2
  go_region
  all_goals go_wp2
  all_goals go_quiet ((go_at_call 13; exact quiet_add_same (less_ret _ _ true _ T1.out)))
  all_goals go_wp2
  all_goals go_ret
  all_goals exact ⟨rfl, by repeat (first | exact Below.refl _ _ | apply below_drewN | apply below_drew | apply below_alloc0)⟩

set_option maxHeartbeats 1000000 in
set_option maxRecDepth 100000 in
theorem before_less1 (g b n cap : Nat) (i j : Int) (xi ci xj cj came : Int) (w : World) (hi0 : 0 ≤ i) (hin : i < n) (hj0 : 0 ≤ j) (hjn : j < n) (hn : n ≤ 9223372036854775807) (hgl : g < w.heap.size) (hbl : b < w.heap.size)
    (h0 : w.cell? ⟨g, 0, none⟩ = some (.func (.func 13) #[] #[])) (h1 : w.cell? ⟨g, 1, none⟩ = some (.slice (some ⟨b, 0, none⟩) n cap)) (h2 : w.cell? ⟨g, 2, none⟩ = some (.int .i64 came))
    (a0 : w.cell? ⟨b, i.toNat * 2, none⟩ = some (.int .i64 xi)) (a1 : w.cell? ⟨b, i.toNat * 2 + 1, none⟩ = some (.int .i64 ci)) (b0 : w.cell? ⟨b, j.toNat * 2, none⟩ = some (.int .i64 xj)) (b1 : w.cell? ⟨b, j.toNat * 2 + 1, none⟩ = some (.int .i64 cj))
    (t1 : decide (xi < xj) = false) (t2 : decide (xj < xi) = true) :
    Calls Try.prog 21 #[.pointer (some ⟨g, 0, none⟩), .int .i64 i, .int .i64 j] w fun e w' => e = .returned (.bool (false)) ∧ Below w.heap.size w w' := by
  have eg : ∀ args w, (callFunc 13 args).run Try.prog w = .ok (.enter 13 args) w := enters_of Try.func13 (by kernel_rfl) rfl
  have T1 := Aside0.mk t1
  have T2 := Aside0.mk t2
  clear t1 t2
  go_enter Try.func21, Try.ntmps21
  go_wp2
  go_region
  all_goals go_wp2
  all_goals go_quiet ((go_at_call 13; exact quiet_add_same (less_ret _ _ false _ T1.out)))
  all_goals go_wp2
  all_goals go_quiet ((go_at_call 13; exact quiet_add_same (less_ret _ _ true _ T2.out)))
  all_goals go_wp2
  all_goals go_ret
  all_goals exact ⟨rfl, by repeat (first | exact Below.refl _ _ | apply below_drewN | apply below_drew | apply below_alloc0)⟩

set_option maxHeartbeats 1000000 in
set_option maxRecDepth 100000 in
theorem before_less2 (g b n cap : Nat) (i j : Int) (xi ci xj cj came : Int) (w : World) (hi0 : 0 ≤ i) (hin : i < n) (hj0 : 0 ≤ j) (hjn : j < n) (hn : n ≤ 9223372036854775807) (hgl : g < w.heap.size) (hbl : b < w.heap.size)
    (h0 : w.cell? ⟨g, 0, none⟩ = some (.func (.func 13) #[] #[])) (h1 : w.cell? ⟨g, 1, none⟩ = some (.slice (some ⟨b, 0, none⟩) n cap)) (h2 : w.cell? ⟨g, 2, none⟩ = some (.int .i64 came))
    (a0 : w.cell? ⟨b, i.toNat * 2, none⟩ = some (.int .i64 xi)) (a1 : w.cell? ⟨b, i.toNat * 2 + 1, none⟩ = some (.int .i64 ci)) (b0 : w.cell? ⟨b, j.toNat * 2, none⟩ = some (.int .i64 xj)) (b1 : w.cell? ⟨b, j.toNat * 2 + 1, none⟩ = some (.int .i64 cj))
    (t1 : decide (xi < xj) = false) (t2 : decide (xj < xi) = false) :
    Calls Try.prog 21 #[.pointer (some ⟨g, 0, none⟩), .int .i64 i, .int .i64 j] w fun e w' => e = .returned (.bool (decide (ci < cj))) ∧ Below w.heap.size w w' := by
  have eg : ∀ args w, (callFunc 13 args).run Try.prog w = .ok (.enter 13 args) w := enters_of Try.func13 (by kernel_rfl) rfl
  have T1 := Aside0.mk t1
  have T2 := Aside0.mk t2
  clear t1 t2
  go_enter Try.func21, Try.ntmps21
  go_wp2
  go_region
  all_goals go_wp2
  all_goals go_quiet ((go_at_call 13; exact quiet_add_same (less_ret _ _ false _ T1.out)))
  all_goals go_wp2
  all_goals go_quiet ((go_at_call 13; exact quiet_add_same (less_ret _ _ false _ T2.out)))
  all_goals go_wp2
  all_goals go_ret
  all_goals exact ⟨rfl, by repeat (first | exact Below.refl _ _ | apply below_drewN | apply below_drew | apply below_alloc0)⟩

end Go.Proofs.Ytchkeanjekoghaa.Hp
