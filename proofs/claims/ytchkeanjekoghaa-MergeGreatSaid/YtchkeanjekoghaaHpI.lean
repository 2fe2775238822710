/- The heap whose order is turned about. -/
import Derived.Test.YtchkeanjekoghaaHpF
namespace Go.Proofs.Ytchkeanjekoghaa.Hp
open Go.RowKit Go.Shelf
set_option linter.unusedVariables false
set_option linter.unusedSimpArgs false

set_option maxHeartbeats 1000000 in
set_option maxRecDepth 100000 in
theorem before_more0 (g b n cap : Nat) (i j : Int) (xi ci xj cj came : Int) (w : World) (hi0 : 0 ≤ i) (hin : i < n) (hj0 : 0 ≤ j) (hjn : j < n) (hn : n ≤ 9223372036854775807) (hgl : g < w.heap.size) (hbl : b < w.heap.size)
    (h0 : w.cell? ⟨g, 0, none⟩ = some (.func (.func 17) #[] #[])) (h1 : w.cell? ⟨g, 1, none⟩ = some (.slice (some ⟨b, 0, none⟩) n cap)) (h2 : w.cell? ⟨g, 2, none⟩ = some (.int .i64 came))
    (a0 : w.cell? ⟨b, i.toNat * 2, none⟩ = some (.int .i64 xi)) (a1 : w.cell? ⟨b, i.toNat * 2 + 1, none⟩ = some (.int .i64 ci)) (b0 : w.cell? ⟨b, j.toNat * 2, none⟩ = some (.int .i64 xj)) (b1 : w.cell? ⟨b, j.toNat * 2 + 1, none⟩ = some (.int .i64 cj))
    (t1 : decide (xj < xi) = true)  :
    Calls Try.prog 21 #[.pointer (some ⟨g, 0, none⟩), .int .i64 i, .int .i64 j] w fun e w' => e = .returned (.bool (true)) ∧ Below w.heap.size w w' := by
  have eg : ∀ args w, (callFunc 17 args).run Try.prog w = .ok (.enter 17 args) w := enters_of Try.func17 (by kernel_rfl) rfl
  have T1 := Aside0.mk t1
  clear t1
  go_enter Try.func21, Try.ntmps21
  go_wp2
  go_region
  all_goals go_wp2
  all_goals go_quiet ((go_at_call 17; exact quiet_add_same (more_ret _ _ true _ T1.out)))
  all_goals go_wp2
  all_goals go_ret
  all_goals exact ⟨rfl, by repeat (first | exact Below.refl _ _ | apply below_drewN | apply below_drew | apply below_alloc0)⟩

set_option maxHeartbeats 1000000 in
set_option maxRecDepth 100000 in
theorem before_more1 (g b n cap : Nat) (i j : Int) (xi ci xj cj came : Int) (w : World) (hi0 : 0 ≤ i) (hin : i < n) (hj0 : 0 ≤ j) (hjn : j < n) (hn : n ≤ 9223372036854775807) (hgl : g < w.heap.size) (hbl : b < w.heap.size)
    (h0 : w.cell? ⟨g, 0, none⟩ = some (.func (.func 17) #[] #[])) (h1 : w.cell? ⟨g, 1, none⟩ = some (.slice (some ⟨b, 0, none⟩) n cap)) (h2 : w.cell? ⟨g, 2, none⟩ = some (.int .i64 came))
    (a0 : w.cell? ⟨b, i.toNat * 2, none⟩ = some (.int .i64 xi)) (a1 : w.cell? ⟨b, i.toNat * 2 + 1, none⟩ = some (.int .i64 ci)) (b0 : w.cell? ⟨b, j.toNat * 2, none⟩ = some (.int .i64 xj)) (b1 : w.cell? ⟨b, j.toNat * 2 + 1, none⟩ = some (.int .i64 cj))
    (t1 : decide (xj < xi) = false) (t2 : decide (xi < xj) = true) :
    Calls Try.prog 21 #[.pointer (some ⟨g, 0, none⟩), .int .i64 i, .int .i64 j] w fun e w' => e = .returned (.bool (false)) ∧ Below w.heap.size w w' := by
  have eg : ∀ args w, (callFunc 17 args).run Try.prog w = .ok (.enter 17 args) w := enters_of Try.func17 (by kernel_rfl) rfl
  have T1 := Aside0.mk t1
  have T2 := Aside0.mk t2
  clear t1 t2
  go_enter Try.func21, Try.ntmps21
  go_wp2
  go_region
  all_goals go_wp2
  all_goals go_quiet ((go_at_call 17; exact quiet_add_same (more_ret _ _ false _ T1.out)))
  all_goals go_wp2
  all_goals go_quiet ((go_at_call 17; exact quiet_add_same (more_ret _ _ true _ T2.out)))
  all_goals go_wp2
  all_goals go_ret
  all_goals exact ⟨rfl, by repeat (first | exact Below.refl _ _ | apply below_drewN | apply below_drew | apply below_alloc0)⟩

set_option maxHeartbeats 1000000 in
set_option maxRecDepth 100000 in
theorem before_more2 (g b n cap : Nat) (i j : Int) (xi ci xj cj came : Int) (w : World) (hi0 : 0 ≤ i) (hin : i < n) (hj0 : 0 ≤ j) (hjn : j < n) (hn : n ≤ 9223372036854775807) (hgl : g < w.heap.size) (hbl : b < w.heap.size)
    (h0 : w.cell? ⟨g, 0, none⟩ = some (.func (.func 17) #[] #[])) (h1 : w.cell? ⟨g, 1, none⟩ = some (.slice (some ⟨b, 0, none⟩) n cap)) (h2 : w.cell? ⟨g, 2, none⟩ = some (.int .i64 came))
    (a0 : w.cell? ⟨b, i.toNat * 2, none⟩ = some (.int .i64 xi)) (a1 : w.cell? ⟨b, i.toNat * 2 + 1, none⟩ = some (.int .i64 ci)) (b0 : w.cell? ⟨b, j.toNat * 2, none⟩ = some (.int .i64 xj)) (b1 : w.cell? ⟨b, j.toNat * 2 + 1, none⟩ = some (.int .i64 cj))
    (t1 : decide (xj < xi) = false) (t2 : decide (xi < xj) = false) :
    Calls Try.prog 21 #[.pointer (some ⟨g, 0, none⟩), .int .i64 i, .int .i64 j] w fun e w' => e = .returned (.bool (decide (ci < cj))) ∧ Below w.heap.size w w' := by
  have eg : ∀ args w, (callFunc 17 args).run Try.prog w = .ok (.enter 17 args) w := enters_of Try.func17 (by kernel_rfl) rfl
  have T1 := Aside0.mk t1
  have T2 := Aside0.mk t2
  clear t1 t2
  go_enter Try.func21, Try.ntmps21
  go_wp2
  go_region
  all_goals go_wp2
  all_goals go_quiet ((go_at_call 17; exact quiet_add_same (more_ret _ _ false _ T1.out)))
  all_goals go_wp2
  all_goals go_quiet ((go_at_call 17; exact quiet_add_same (more_ret _ _ false _ T2.out)))
  all_goals go_wp2
  all_goals go_ret
  all_goals exact ⟨rfl, by repeat (first | exact Below.refl _ _ | apply below_drewN | apply below_drew | apply below_alloc0)⟩

theorem before_any_more (g B : Nat) (es : List (Int × Int)) (came : Int) (v : Value) (i j : Int) (w : World) (h : HI w B g 17 es came v) (hi0 : 0 ≤ i) (hin : i < es.length) (hj0 : 0 ≤ j) (hjn : j < es.length) :
    Calls Try.prog 21 #[.pointer (some ⟨g, 0, none⟩), .int .i64 i, .int .i64 j] w fun e w' => e = .returned (.bool (bef (fun a b => decide (b < a)) (es.getD i.toNat (0, 0)) (es.getD j.toNat (0, 0)))) ∧ Below w.heap.size w w' := by
  obtain ⟨b, cap, rfl, hbl, hbg⟩ := h.form (by omega)
  have hi : i.toNat < es.length := by omega
  have hj : j.toNat < es.length := by omega
  have a0 : w.cell? ⟨b, i.toNat * 2, none⟩ = some (.int .i64 es[i.toNat].1) := by rw [h.own.cellAt _ (by omega)]; exact cells2_get0 es _ hi
  have a1 : w.cell? ⟨b, i.toNat * 2 + 1, none⟩ = some (.int .i64 es[i.toNat].2) := by rw [h.own.cellAt _ (by omega)]; exact cells2_get1 es _ hi
  have b0 : w.cell? ⟨b, j.toNat * 2, none⟩ = some (.int .i64 es[j.toNat].1) := by rw [h.own.cellAt _ (by omega)]; exact cells2_get0 es _ hj
  have b1 : w.cell? ⟨b, j.toNat * 2 + 1, none⟩ = some (.int .i64 es[j.toNat].2) := by rw [h.own.cellAt _ (by omega)]; exact cells2_get1 es _ hj
  rw [getD_at es _ hi, getD_at es _ hj]
  unfold bef
  by_cases c0 : es[j.toNat].1 < es[i.toNat].1
  · exact (before_more0 g b es.length cap i j _ _ _ _ came w hi0 hin hj0 hjn h.len h.lt hbl h.cell0 h.cell1 h.cell2 a0 a1 b0 b1 (by simpa using c0)).mono fun e w' ⟨he, hw⟩ => ⟨by rw [he]; simp [c0], hw⟩
  · by_cases c1 : es[i.toNat].1 < es[j.toNat].1
    · exact (before_more1 g b es.length cap i j _ _ _ _ came w hi0 hin hj0 hjn h.len h.lt hbl h.cell0 h.cell1 h.cell2 a0 a1 b0 b1 (by simpa using c0) (by simpa using c1)).mono fun e w' ⟨he, hw⟩ => ⟨by rw [he]; simp [c0, c1], hw⟩
    · exact (before_more2 g b es.length cap i j _ _ _ _ came w hi0 hin hj0 hjn h.len h.lt hbl h.cell0 h.cell1 h.cell2 a0 a1 b0 b1 (by simpa using c0) (by simpa using c1)).mono fun e w' ⟨he, hw⟩ => ⟨by rw [he]; simp [c0, c1], hw⟩

abbrev gtI (a b : Int) : Bool := decide (b < a)
theorem before_63 : BefOK 17 gtI := by
  intro g B es came v i j r w h hi0 hin hj0 hjn hr
  subst hr
  exact before_any_more g B es came v i j w h hi0 hin hj0 hjn
theorem good_gt : Good gtI := by
  refine ⟨?_, ?_, ?_⟩
  · intro x y h
    unfold Le
    unfold bef at *
    simp at *
    omega
  · intro x y z h1 h2
    unfold Le at *
    unfold bef at *
    simp at *
    omega
  · intro x
    unfold Le bef
    simp

end Go.Proofs.Ytchkeanjekoghaa.Hp
