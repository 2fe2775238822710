/- For any comparison number and any two numbers: the comparison holds just when it should, its sign is the right one, and what is no comparison has no sign and never holds. No condition. -/
import Derived.Test.YtpponaflfpafnaaPureC
import Derived.Test.YtpponaflfpafnaaXAllx7
namespace Go.Proofs.Ytpponaflfpafnaa.Pure
open Go.RowKit Go.Proofs.Ytpponaflfpafnaa.XAll Go.Proofs.YtpponaflfpafnaaW.PrintWords Go.Proofs.YtpponaflfpafnaaW.PrintLast
set_option linter.unusedVariables false

theorem ColumnHolds : ergolaw03_ColumnHolds.Pure := by
  intro n a b hn ha hb
  clear hn ha hb
  refine ⟨9, ?_⟩
  unfold ergolaw03_ColumnHolds.f
  rw [head_f 9 (by omega)]
  simp only [Option.bind_some, if_true]
  have bad : (n < 0 ∨ 5 < n) → ergolaw03_ColumnHolds.j0 9 n a b n true = some true := by
    intro h
    simp only [ergolaw03_ColumnHolds.j0]
    rw [if_pos trivial]
    have hs : column_Op_Sign.f n = some ⟨#[]⟩ := by
      unfold column_Op_Sign.f
      rw [if_neg (by omega), if_neg (by omega), if_neg (by omega), if_neg (by omega), if_neg (by omega), if_neg (by omega)]
    have hh : ∀ x y, holdsB n x y = false := by
      intro x y
      unfold holdsB
      rw [if_neg (by omega), if_neg (by omega), if_neg (by omega), if_neg (by omega), if_neg (by omega), if_neg (by omega)]
    rw [hs, holds_f, hh, where_f n b [a] (by simp) 8 (by simp)]
    simp only [Option.bind_some]
    rw [if_pos (by decide +kernel), if_neg (by decide)]
    simp [selF, hh]
  by_cases c : n < 0
  · rw [if_pos c]
    exact bad (.inl c)
  · rw [if_neg c]
    by_cases c1 : n > 5
    · rw [decide_eq_true c1]
      exact bad (.inr c1)
    · rw [decide_eq_false c1]
      have h : n = 0 ∨ n = 1 ∨ n = 2 ∨ n = 3 ∨ n = 4 ∨ n = 5 := by omega
      simp only [ergolaw03_ColumnHolds.j0]
      rw [if_neg (by decide), holds_f, law_holds_f n a b (by omega) (by omega)]
      simp only [Option.bind_some, beq_self_eq_true]
      generalize holdsB n a b = r
      rcases h with rfl | rfl | rfl | rfl | rfl | rfl <;> decide +kernel

end Go.Proofs.Ytpponaflfpafnaa.Pure
