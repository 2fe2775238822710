/- For any three numbers: sums do not depend on the order, and a product of a sum is the sum of the products where all of it is within the bounds of an int64. No condition. -/
import Derived.Test.YteamoapmgnbgmaaPureA
import Derived.Test.YteamoapmgnbgmaaXAllx9
namespace Go.Proofs.Yteamoapmgnbgmaa.Pure
open Go.RowKit Go.Proofs.Yteamoapmgnbgmaa.XAll Go.Proofs.YteamoapmgnbgmaaW.PrintWords Go.Proofs.YteamoapmgnbgmaaW.PrintLast

theorem ArithLaws : ergolaw02_ArithLaws.Pure := by
  intro a b c ha hb hc
  have ha := i64_of_wf ha
  have hb := i64_of_wf hb
  have hc := i64_of_wf hc
  refine ⟨2, ?_⟩
  unfold ergolaw02_ArithLaws.f ergolaw02_head.f
  simp only [Option.bind_some, if_true]
  rw [do_f 1 0 ha hb, do_f 1 0 hb ha]
  simp only [Option.bind_some]
  rw [do0, do0, Int.add_comm b a]
  rw [if_neg (by simp), show ((chk (a + b)).1 != (chk (a + b)).1) = false from by simp]
  simp only [ergolaw02_ArithLaws.j0]
  rw [if_neg (by decide), do_f 0 2 ha hb, do_f 0 2 ha hc, do_f 0 0 hb hc]
  simp only [Option.bind_some]
  rw [do0, do2, do2, do_f 0 2 ha (chk_range _)]
  simp only [Option.bind_some]
  rw [do2, do_f 0 0 (chk_range _) (chk_range _)]
  simp only [Option.bind_some]
  rw [do0]
  by_cases p : (chk (a * b)).2 = true
  · rw [if_pos p]
    by_cases q : (chk (a * c)).2 = true
    · rw [if_pos q]
      by_cases r : (chk (b + c)).2 = true
      · rw [if_pos r]
        by_cases s : (chk (a * (chk (b + c)).1)).2 = true
        · rw [if_pos s]
          obtain ⟨p1, p2⟩ := chk_true p
          obtain ⟨q1, q2⟩ := chk_true q
          obtain ⟨r1, r2⟩ := chk_true r
          obtain ⟨s1, s2⟩ := chk_true s
          rw [p2, q2, s2, r2]
          rw [r2, Int.mul_add] at s1
          rw [chk_in s1, Int.mul_add]
          simp
        · rw [if_neg s]
      · rw [if_neg r]
    · rw [if_neg q]
  · rw [if_neg p]

end Go.Proofs.Yteamoapmgnbgmaa.Pure
