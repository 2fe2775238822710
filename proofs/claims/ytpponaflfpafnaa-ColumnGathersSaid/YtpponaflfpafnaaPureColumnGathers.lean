/- For any numbers and any places: exactly the numbers at these places, in their order, are gathered. No condition (the law itself asks nothing of more than 200). -/
import Derived.Test.YtpponaflfpafnaaPureC
import Derived.Test.YtpponaflfpafnaaXAllx12
namespace Go.Proofs.Ytpponaflfpafnaa.Pure
open Go.RowKit Go.Proofs.Ytpponaflfpafnaa.XAll Go.Proofs.YtpponaflfpafnaaW.PrintWords Go.Proofs.YtpponaflfpafnaaW.PrintLast
set_option linter.unusedVariables false

theorem gathers_l0 (l s : List Int) (hs : s.length ≤ 200) (d : Nat) : ∀ (k i : Nat), i + d = s.length → d + s.length + 2 < k →
    ergolaw03_ColumnGathers.l0 k l s (gath l (s.take i)) s (s.length : Int) (i : Int) = some true := by
  induction d with
  | zero =>
    intro k i hd hk
    obtain ⟨k, rfl⟩ : ∃ m, k = m + 1 := ⟨k - 1, by omega⟩
    have hle := gath_le l s
    simp only [ergolaw03_ColumnGathers.l0]
    rw [if_neg (by omega), List.take_of_length_le (by omega), gather_f l s hs k (by omega)]
    simp only [Option.bind_some]
    rw [same_f _ (by omega) k (by omega)]
    rfl
  | succ d ih =>
    intro k i hd hk
    obtain ⟨k, rfl⟩ : ∃ m, k = m + 1 := ⟨k - 1, by omega⟩
    have hw : wrap64 ((i : Int) + 1) = ((i + 1 : Nat) : Int) := by unfold wrap64; omega
    have hlt : i < s.length := by omega
    have hg := gath_take l s i hlt
    have hle := gath_le l (s.take i)
    have hlt2 : (s.take i).length ≤ i := List.length_take_le _ _
    simp only [ergolaw03_ColumnGathers.l0]
    rw [if_pos (by omega), if_pos (by omega), if_pos (by omega), rd_at s i hlt, hw]
    have ih' := ih k (i + 1) (by omega) (by omega)
    rw [hg] at ih'
    generalize s[i] = x at *
    by_cases c0 : x ≥ 0
    · rw [if_pos c0]
      by_cases c1 : x < (l.length : Int)
      · rw [if_pos c1, if_pos c0, if_pos (by omega)]
        rwa [show gath l [x] = [rd l x] from by simp only [gath]; rw [if_pos ⟨c0, c1⟩]] at ih'
      · rw [if_neg c1]
        rwa [show gath l [x] = [] from by simp only [gath]; rw [if_neg (by omega)], List.append_nil] at ih'
    · rw [if_neg c0]
      rwa [show gath l [x] = [] from by simp only [gath]; rw [if_neg (by omega)], List.append_nil] at ih'
theorem ColumnGathers : ergolaw03_ColumnGathers.Pure := by
  intro l s _ _ _ _ _ _
  refine ⟨2 * s.length + 12, ?_⟩
  unfold ergolaw03_ColumnGathers.f
  rw [head_f _ (by omega)]
  simp only [Option.bind_some, if_true]
  by_cases c : (l.length : Int) > 200
  · rw [if_pos c]
    simp only [ergolaw03_ColumnGathers.j0]
    rw [if_pos trivial]
  · rw [if_neg c]
    simp only [ergolaw03_ColumnGathers.j0]
    by_cases c1 : (s.length : Int) > 200
    · rw [decide_eq_true c1, if_pos rfl]
    · rw [decide_eq_false c1, if_neg (by decide)]
      exact gathers_l0 l s (by omega) s.length _ 0 (by omega) (by omega)

end Go.Proofs.Ytpponaflfpafnaa.Pure
