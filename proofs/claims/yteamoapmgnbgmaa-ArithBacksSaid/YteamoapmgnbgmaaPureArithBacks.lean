/- For any two numbers: what was added and taken off again, or multiplied and divided by, leaves the first one, wherever the first step has a result. No condition. -/
import Derived.Test.YteamoapmgnbgmaaPureA
import Derived.Test.YteamoapmgnbgmaaXAllx10
namespace Go.Proofs.Yteamoapmgnbgmaa.Pure
open Go.RowKit Go.Proofs.Yteamoapmgnbgmaa.XAll Go.Proofs.YteamoapmgnbgmaaW.PrintWords Go.Proofs.YteamoapmgnbgmaaW.PrintLast

theorem backs_tail (k : Nat) (a : Int) (ha : I64 a) : ((arith_Do.f (k + 1) 1 a a).bind fun bt => (if bt.2 = true then (some (bt.1 == 0)) else (some false))) = some true := by
  rw [do_f k 1 ha ha]
  simp only [Option.bind_some]
  rw [do1, Int.sub_self, chk_in (by decide)]
  rfl
theorem backs_j0 (a b : Int) (ha : I64 a) (hb : I64 b) : ergolaw02_ArithBacks.j0 3 a b = some true := by
  simp only [ergolaw02_ArithBacks.j0]
  rw [do_f 1 2 ha hb]
  simp only [Option.bind_some]
  rw [do2]
  by_cases m : (chk (a * b)).2 = true
  · rw [if_pos m]
    obtain ⟨m1, m2⟩ := chk_true m
    rw [m2]
    by_cases b0 : b = 0
    · rw [show (b != 0) = false from by simpa using b0]
      simp only [ergolaw02_ArithBacks.j1]
      rw [if_neg (by decide)]
      exact backs_tail 0 a ha
    · rw [show (b != 0) = true from by simpa using b0]
      simp only [ergolaw02_ArithBacks.j1]
      rw [if_pos trivial, do_f 0 3 m1 hb, do_f 0 4 m1 hb]
      simp only [Option.bind_some]
      rw [do3, do4, if_neg b0, if_neg b0, Int.mul_tdiv_cancel a b0, chk_in ha, Int.mul_tmod_left]
      rw [if_pos rfl, if_pos rfl, if_pos rfl, if_pos rfl]
      exact backs_tail 0 a ha
  · rw [if_neg m]
    simp only [ergolaw02_ArithBacks.j1]
    rw [if_neg (by decide)]
    exact backs_tail 0 a ha
theorem ArithBacks : ergolaw02_ArithBacks.Pure := by
  intro a b ha hb
  have ha := i64_of_wf ha
  have hb := i64_of_wf hb
  refine ⟨3, ?_⟩
  unfold ergolaw02_ArithBacks.f ergolaw02_head.f
  simp only [Option.bind_some, if_true]
  rw [do_f 2 0 ha hb]
  simp only [Option.bind_some]
  rw [do0]
  by_cases p : (chk (a + b)).2 = true
  · rw [if_pos p]
    obtain ⟨p1, p2⟩ := chk_true p
    rw [p2, do_f 2 1 p1 hb]
    simp only [Option.bind_some]
    rw [do1, show a + b - b = a from by omega, chk_in ha, if_pos rfl, if_pos rfl]
    exact backs_j0 a b ha hb
  · rw [if_neg p]
    exact backs_j0 a b ha hb

end Go.Proofs.Yteamoapmgnbgmaa.Pure
