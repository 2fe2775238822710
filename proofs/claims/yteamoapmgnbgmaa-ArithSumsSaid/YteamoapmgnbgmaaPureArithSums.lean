/- For any two numbers: the sum and the difference are those of mathematics where these are within the bounds of an int64, and there is none elsewhere. No condition. -/
import Derived.Test.YteamoapmgnbgmaaPureA
import Derived.Test.YteamoapmgnbgmaaXAllx13
namespace Go.Proofs.Yteamoapmgnbgmaa.Pure
open Go.RowKit Go.Proofs.Yteamoapmgnbgmaa.XAll Go.Proofs.YteamoapmgnbgmaaW.PrintWords Go.Proofs.YteamoapmgnbgmaaW.PrintLast

theorem sum_f {a b : Int} (ha : I64 a) (hb : I64 b) : ergolaw02_sum.f a b = some (chk (a + b)) := by
  unfold ergolaw02_sum.f
  rw [if_pos ⟨ha, hb⟩]
  rfl
theorem ArithSums : ergolaw02_ArithSums.Pure := by
  intro a b ha hb
  have ha := i64_of_wf ha
  have hb := i64_of_wf hb
  refine ⟨2, ?_⟩
  unfold ergolaw02_ArithSums.f ergolaw02_head.f
  simp only [Option.bind_some, if_true]
  rw [do_f 1 0 ha hb, sum_f ha hb]
  simp only [Option.bind_some]
  rw [do0, if_neg (by simp), show ((chk (a + b)).1 != (chk (a + b)).1) = false from by simp]
  simp only [ergolaw02_ArithSums.j0]
  rw [if_neg (by decide), do_f 0 1 ha hb]
  simp only [Option.bind_some]
  rw [do1]
  by_cases m : b = -9223372036854775808
  · rw [if_pos m]
    subst m
    by_cases n : a < 0
    · have h : I64 (a - -9223372036854775808) := by unfold I64 at *; omega
      rw [chk_in h, if_pos (by simpa using n), if_pos rfl, wrap_in (by unfold I64 at *; omega), wrap_in (by unfold I64 at *; omega)]
      congr 1
      simp
      omega
    · have h : ¬ I64 (a - -9223372036854775808) := by unfold I64 at *; omega
      rw [chk_out h, if_pos (by simpa using n), if_neg (by decide), if_pos rfl]
  · rw [if_neg m]
    have hn : I64 (-b) := by unfold I64 at *; omega
    rw [wrap_in hn, sum_f ha hn]
    simp only [Option.bind_some]
    rw [show a + -b = a - b from by omega, if_pos (by simp)]
    simp

end Go.Proofs.Yteamoapmgnbgmaa.Pure
