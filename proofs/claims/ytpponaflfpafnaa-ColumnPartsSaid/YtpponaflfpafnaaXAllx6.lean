-- Written for this claim by a program of this session (around the kit's print).
import Derived.Test.YtpponaflfpafnaaXAllx0
namespace Go.Proofs.Ytpponaflfpafnaa.XAll
open Go.RowKit Go.Proofs.YtpponaflfpafnaaW.PrintWords Go.Proofs.YtpponaflfpafnaaW.PrintLast Go.Proofs.YtpponaflfpafnaaW.PrintMore
attribute [local go_sem] max2_int min2_int max_two min_two max_three min_three max_four min_four   -- for this text's walks alone
set_option linter.unusedVariables false
set_option linter.unusedSimpArgs false

/-! ### ergolaw03_Holds: function 14 -/
def ergolaw03_Holds.f (a0 : Int) (a1 : Int) (a2 : Int) : Option (Bool) := if a1 < a2 then ((some (([(a1 == a2), !(a1 == a2), decide (a1 < a2), true, false, !(decide (a1 < a2))] : List Bool) : List Bool)).bind fun y122 => (if 0 ≤ a0 then (if a0 < (y122.length : Int) then (some (rdOf false y122 a0)) else (none)) else (none))) else ((some (([(a1 == a2), !(a1 == a2), decide (a1 < a2), (a1 == a2), !(a1 == a2), !(decide (a1 < a2))] : List Bool) : List Bool)).bind fun y126 => (if 0 ≤ a0 then (if a0 < (y126.length : Int) then (some (rdOf false y126 a0)) else (none)) else (none)))
set_option maxHeartbeats 8000000 in
set_option maxRecDepth 100000 in
theorem ergolaw03_Holds.calls (a0 : Int) (a1 : Int) (a2 : Int) (r : Bool) (w : World) (h : ergolaw03_Holds.f a0 a1 a2 = some r) :
    Calls Try.prog 14 #[.int .i64 a0, .int .i64 a1, .int .i64 a2] w fun e w' => e = .returned (.bool r) ∧ Below w.heap.size w w' := by
  have HB := Aside0.mk (Below.refl w.heap.size w)
  have H : (if a1 < a2 then ((some (([(a1 == a2), !(a1 == a2), decide (a1 < a2), true, false, !(decide (a1 < a2))] : List Bool) : List Bool)).bind fun y122 => (if 0 ≤ a0 then (if a0 < (y122.length : Int) then (some (rdOf false y122 a0)) else (none)) else (none))) else ((some (([(a1 == a2), !(a1 == a2), decide (a1 < a2), (a1 == a2), !(a1 == a2), !(decide (a1 < a2))] : List Bool) : List Bool)).bind fun y126 => (if 0 ≤ a0 then (if a0 < (y126.length : Int) then (some (rdOf false y126 a0)) else (none)) else (none)))) = some r := h
  clear h
  by_cases c4 : a1 < a2
  · rw [if_pos c4] at H
    have c4b0 : decide (a1 < a2) = true := decide_eq_true c4
    clear c4
    obtain ⟨y122, hy122⟩ : ∃ y_ : List Bool, y_ = (([(a1 == a2), !(a1 == a2), decide (a1 < a2), true, false, !(decide (a1 < a2))] : List Bool)) := ⟨_, rfl⟩
    replace H : (if 0 ≤ a0 then (if a0 < (y122.length : Int) then (some (rdOf false y122 a0)) else (none)) else (none)) = some r := by first | (rw [hy122]; with_reducible exact H) | (have H2_ := (Option.bind_some _ _).symm.trans H; rw [hy122]; with_reducible exact H2_) | (have H2_ := (Option.bind_some _ _).symm.trans H; with_reducible exact H2_) | with_reducible exact H | (rw [hy122]; exact H) | exact H
    have Ny122 := Aside0.mk hy122
    clear hy122
    by_cases c5 : 0 ≤ a0
    · rw [if_pos c5] at H
      have c5b0 : decide (0 ≤ a0) = true := decide_eq_true c5
      clear c5
      by_cases c6 : a0 < (y122.length : Int)
      · rw [if_pos c6] at H
        have c6b0 : decide (a0 < (y122.length : Int)) = true := decide_eq_true c6
        clear c6
        obtain rfl := Option.some.inj H
        go_enter Try.func14, Try.ntmps14
        go_wp2_with (first | ((with_reducible refine gate_dst (N := 31) rfl ?_); refine Kd.R_lit Kd.bool _ 4 ?hg (N := 31) ?hd (xs := ([(a1 == a2), !(a1 == a2), decide (a1 < a2), true, false, !(decide (a1 < a2))] : List Bool)) (inner := [.bool (a1 == a2), .bool (!(a1 == a2)), .bool (decide (a1 < a2)), .bool true, .bool false, .bool (!(decide (a1 < a2)))]) (ok := fun _ => True) (okp := fun _ => True) ?hr ?hp (fun _ hk => hk) trivial (Below.refl _ _) (Nat.le_refl _) (by simp) ?_; (case hd => rfl); (case hg => rfl); (case hr => first | (go_simp; done) | (go_simp; rfl)); (case hp => exact (Reps.one (show Kd.M Kd.bool _ _ _ (a1 == a2) [.bool (a1 == a2)] from rfl) (Reps.one (show Kd.M Kd.bool _ _ _ (!(a1 == a2)) [.bool (!(a1 == a2))] from rfl) (Reps.one (show Kd.M Kd.bool _ _ _ (decide (a1 < a2)) [.bool (decide (a1 < a2))] from rfl) (Reps.one (show Kd.M Kd.bool _ _ _ true [.bool true] from rfl) (Reps.one (show Kd.M Kd.bool _ _ _ false [.bool false] from rfl) (Reps.one (show Kd.M Kd.bool _ _ _ (!(decide (a1 < a2))) [.bool (!(decide (a1 < a2)))] from rfl) (Reps.none _ _)))))))); intro v123 w7 ho8 hb hg_ hnew_; clear hg_ hnew_; (first | rw [← Ny122.out] at ho8 | (simp only [Int.reduceToNat] at ho8; rw [← Ny122.out] at ho8)); have n0_ := Aside0.mk (Kd.R_lower ho8 (below_size (by repeat (first | (with_reducible first | exact HB.out | apply below_alloc | apply pw_below_drewN | apply below_drew1) | exact HB.out)))); have n1_ := Aside0.mk (below_step (by repeat (first | (with_reducible first | exact HB.out | apply below_alloc | apply pw_below_drewN | apply below_drew1) | exact HB.out)) hb); clear HB; have HO124 := n0_; have HB := n1_; clear n0_ n1_; clear hb ho8; obtain ⟨Ao9, co9, eo9⟩ := Kd.R_slice HO124.out; subst eo9; have p125 : 0 ≤ (a0 : Int) := of_decide_eq_true (by first | (with_reducible assumption) | assumption); have q125 : a0 < (y122.length : Int) := of_decide_eq_true (by first | (with_reducible assumption) | assumption); obtain ⟨ad125, e125, hx125_0⟩ := Kd.at_bool (Kd.R_reads' HO124.out).2.2 a0 p125 q125; cases e125; replace p125 := eq_true p125; replace q125 := eq_true q125))
        go_ret
        exact ⟨by first | rfl | (simp [errW_none, errW_some] <;> rfl) | (simp [*, errW_none, errW_some] <;> rfl), by repeat (first | (with_reducible first | exact HB.out | apply below_alloc | apply pw_below_drewN | apply below_drew1) | exact HB.out)⟩
      · rw [if_neg c6] at H
        exact absurd H (by simp)
    · rw [if_neg c5] at H
      exact absurd H (by simp)
  · rw [if_neg c4] at H
    have c4b0 : decide (a1 < a2) = false := decide_eq_false c4
    clear c4
    obtain ⟨y126, hy126⟩ : ∃ y_ : List Bool, y_ = (([(a1 == a2), !(a1 == a2), decide (a1 < a2), (a1 == a2), !(a1 == a2), !(decide (a1 < a2))] : List Bool)) := ⟨_, rfl⟩
    replace H : (if 0 ≤ a0 then (if a0 < (y126.length : Int) then (some (rdOf false y126 a0)) else (none)) else (none)) = some r := by first | (rw [hy126]; with_reducible exact H) | (have H2_ := (Option.bind_some _ _).symm.trans H; rw [hy126]; with_reducible exact H2_) | (have H2_ := (Option.bind_some _ _).symm.trans H; with_reducible exact H2_) | with_reducible exact H | (rw [hy126]; exact H) | exact H
    have Ny126 := Aside0.mk hy126
    clear hy126
    by_cases c10 : 0 ≤ a0
    · rw [if_pos c10] at H
      have c10b0 : decide (0 ≤ a0) = true := decide_eq_true c10
      clear c10
      by_cases c11 : a0 < (y126.length : Int)
      · rw [if_pos c11] at H
        have c11b0 : decide (a0 < (y126.length : Int)) = true := decide_eq_true c11
        clear c11
        obtain rfl := Option.some.inj H
        go_enter Try.func14, Try.ntmps14
        go_wp2_with (first | ((with_reducible refine gate_dst (N := 31) rfl ?_); refine Kd.R_lit Kd.bool _ 4 ?hg (N := 31) ?hd (xs := ([(a1 == a2), !(a1 == a2), decide (a1 < a2), (a1 == a2), !(a1 == a2), !(decide (a1 < a2))] : List Bool)) (inner := [.bool (a1 == a2), .bool (!(a1 == a2)), .bool (decide (a1 < a2)), .bool (a1 == a2), .bool (!(a1 == a2)), .bool (!(decide (a1 < a2)))]) (ok := fun _ => True) (okp := fun _ => True) ?hr ?hp (fun _ hk => hk) trivial (Below.refl _ _) (Nat.le_refl _) (by simp) ?_; (case hd => rfl); (case hg => rfl); (case hr => first | (go_simp; done) | (go_simp; rfl)); (case hp => exact (Reps.one (show Kd.M Kd.bool _ _ _ (a1 == a2) [.bool (a1 == a2)] from rfl) (Reps.one (show Kd.M Kd.bool _ _ _ (!(a1 == a2)) [.bool (!(a1 == a2))] from rfl) (Reps.one (show Kd.M Kd.bool _ _ _ (decide (a1 < a2)) [.bool (decide (a1 < a2))] from rfl) (Reps.one (show Kd.M Kd.bool _ _ _ (a1 == a2) [.bool (a1 == a2)] from rfl) (Reps.one (show Kd.M Kd.bool _ _ _ (!(a1 == a2)) [.bool (!(a1 == a2))] from rfl) (Reps.one (show Kd.M Kd.bool _ _ _ (!(decide (a1 < a2))) [.bool (!(decide (a1 < a2)))] from rfl) (Reps.none _ _)))))))); intro v127 w12 ho13 hb hg_ hnew_; clear hg_ hnew_; (first | rw [← Ny126.out] at ho13 | (simp only [Int.reduceToNat] at ho13; rw [← Ny126.out] at ho13)); have n0_ := Aside0.mk (Kd.R_lower ho13 (below_size (by repeat (first | (with_reducible first | exact HB.out | apply below_alloc | apply pw_below_drewN | apply below_drew1) | exact HB.out)))); have n1_ := Aside0.mk (below_step (by repeat (first | (with_reducible first | exact HB.out | apply below_alloc | apply pw_below_drewN | apply below_drew1) | exact HB.out)) hb); clear HB; have HO128 := n0_; have HB := n1_; clear n0_ n1_; clear hb ho13; obtain ⟨Ao14, co14, eo14⟩ := Kd.R_slice HO128.out; subst eo14; have p129 : 0 ≤ (a0 : Int) := of_decide_eq_true (by first | (with_reducible assumption) | assumption); have q129 : a0 < (y126.length : Int) := of_decide_eq_true (by first | (with_reducible assumption) | assumption); obtain ⟨ad129, e129, hx129_0⟩ := Kd.at_bool (Kd.R_reads' HO128.out).2.2 a0 p129 q129; cases e129; replace p129 := eq_true p129; replace q129 := eq_true q129))
        go_ret
        exact ⟨by first | rfl | (simp [errW_none, errW_some] <;> rfl) | (simp [*, errW_none, errW_some] <;> rfl), by repeat (first | (with_reducible first | exact HB.out | apply below_alloc | apply pw_below_drewN | apply below_drew1) | exact HB.out)⟩
      · rw [if_neg c11] at H
        exact absurd H (by simp)
    · rw [if_neg c10] at H
      exact absurd H (by simp)

end Go.Proofs.Ytpponaflfpafnaa.XAll
