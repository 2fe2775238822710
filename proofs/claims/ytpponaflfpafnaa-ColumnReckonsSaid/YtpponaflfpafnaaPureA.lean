/- What the printed functions of package arith compute, in plain words. -/
import Derived.Test.YtpponaflfpafnaaPureC
import Derived.Test.YtpponaflfpafnaaXAllx20
import Derived.Test.YtpponaflfpafnaaXAllx21
import Derived.Laws.Bits64
namespace Go.Proofs.Ytpponaflfpafnaa.Pure
open Go.RowKit Go.Proofs.Ytpponaflfpafnaa.XAll Go.Proofs.YtpponaflfpafnaaW.PrintWords Go.Proofs.YtpponaflfpafnaaW.PrintLast
set_option linter.unusedVariables false

def chk (x : Int) : Int × Bool := if I64 x then (x, true) else (0, false)
theorem chk_in {x : Int} (h : I64 x) : chk x = (x, true) := by unfold chk; rw [if_pos h]
theorem chk_out {x : Int} (h : ¬ I64 x) : chk x = (0, false) := by unfold chk; rw [if_neg h]
theorem add_f {a b : Int} (ha : I64 a) (hb : I64 b) : arith_add.f a b = some (chk (a + b)) := by
  unfold I64 at ha hb
  unfold arith_add.f
  by_cases c : I64 (a + b)
  · rw [chk_in c, wrap_in c]
    unfold I64 at c
    repeat' split
    all_goals first
      | rfl
      | (exfalso; omega)
      | (exfalso; simp only [wrap64] at *; omega)
  · rw [chk_out c]
    unfold I64 at c
    repeat' split
    all_goals first
      | rfl
      | (exfalso; omega)
      | (exfalso; simp only [wrap64] at *; omega)

theorem sub_f {a b : Int} (ha : I64 a) (hb : I64 b) : arith_sub.f a b = some (chk (a - b)) := by
  unfold I64 at ha hb
  unfold arith_sub.f
  by_cases c : I64 (a - b)
  · rw [chk_in c, wrap_in c]
    unfold I64 at c
    repeat' split
    all_goals first
      | rfl
      | (exfalso; omega)
      | (exfalso; simp only [wrap64] at *; omega)
  · rw [chk_out c]
    unfold I64 at c
    repeat' split
    all_goals first
      | rfl
      | (exfalso; omega)
      | (exfalso; simp only [wrap64] at *; omega)

/-- A product within the bounds is just one that the quotient gives back. -/
theorem mul_back {a b : Int} (ha : I64 a) (hb : I64 b) (h0 : b ≠ 0) (h1 : ¬ (b = -1 ∧ a = -9223372036854775808)) (h : wrap64 ((wrap64 (a * b)).tdiv b) = a) : I64 (a * b) := by
  have hp := wrap_range (a * b)
  obtain ⟨t, ht⟩ : ∃ t, wrap64 (a * b) = a * b + t * 18446744073709551616 := by
    refine ⟨-((a * b + 9223372036854775808) / 18446744073709551616), ?_⟩
    unfold wrap64
    omega
  by_cases hm : b = -1
  · subst hm
    unfold I64 at *
    omega
  · have h2 : ((wrap64 (a * b)).tdiv b).natAbs = (wrap64 (a * b)).natAbs / b.natAbs := Int.natAbs_tdiv ..
    have h3 := Int.mul_tdiv_add_tmod (wrap64 (a * b)) b
    have h4 : ((wrap64 (a * b)).tmod b).natAbs = (wrap64 (a * b)).natAbs % b.natAbs := Int.natAbs_tmod ..
    have h5 : (wrap64 (a * b)).natAbs % b.natAbs < b.natAbs := Nat.mod_lt _ (by omega)
    have hq : wrap64 ((wrap64 (a * b)).tdiv b) = (wrap64 (a * b)).tdiv b := by
      refine wrap_in ?_
      generalize wrap64 (a * b) = p at *
      generalize p.tdiv b = q at *
      have h6 : 2 ≤ b.natAbs ∨ b = 1 := by omega
      rcases h6 with h6 | rfl
      · have h7 : p.natAbs / b.natAbs ≤ p.natAbs / 2 := Nat.div_le_div_left h6 (by omega)
        unfold I64 at *
        omega
      · unfold I64 at *
        simp at h2
        omega
    rw [hq] at h
    rw [h] at h3
    have h8 : (wrap64 (a * b)).tmod b = t * 18446744073709551616 := by
      have : b * a = a * b := Int.mul_comm ..
      omega
    unfold I64 at ha hb
    have h9 : t = 0 := by omega
    subst h9
    unfold I64 at *
    omega

/-- The product by way of the quotient: what the innermost test of mul says. -/
theorem mul_core {a b : Int} (ha : I64 a) (hb : I64 b) (h0 : b ≠ 0) (h1 : ¬ (b = -1 ∧ a = -9223372036854775808)) :
    (if b = 0 then (none : Option (Int × Bool)) else (if (wrap64 (Int.tdiv (wrap64 (a * b)) b)) = a then (some (wrap64 (a * b), true)) else (some (0, false)))) = some (chk (a * b)) := by
  rw [if_neg h0]
  by_cases c : I64 (a * b)
  · rw [wrap_in c, Int.mul_tdiv_cancel a h0, wrap_in ha, if_pos rfl, chk_in c]
  · rw [if_neg (fun h => c (mul_back ha hb h0 h1 h)), chk_out c]

theorem mul_f (k : Nat) {a b : Int} (ha : I64 a) (hb : I64 b) : arith_mul.f (k + 1) a b = some (chk (a * b)) := by
  unfold arith_mul.f
  by_cases a0 : a = 0
  · subst a0
    rw [if_pos rfl]
    simp only [arith_mul.j0]
    rw [if_pos trivial, Int.zero_mul, chk_in (by decide)]
  rw [if_neg a0]
  by_cases b0 : b = 0
  · subst b0
    simp only [arith_mul.j0]
    rw [if_pos (by decide), Int.mul_zero, chk_in (by decide)]
  rw [show (b == 0) = false from beq_eq_false_iff_ne.2 b0]
  simp only [arith_mul.j0]
  rw [if_neg (by decide)]
  by_cases m0 : a = -1
  · rw [if_pos m0]
    subst m0
    by_cases m1 : b = -9223372036854775808
    · subst m1
      rw [if_pos rfl, chk_out (by decide)]
    · rw [if_neg m1]
      by_cases m2 : b = -1
      · rw [if_pos m2, if_neg (by decide)]
        exact mul_core ha hb b0 (by omega)
      · rw [if_neg m2]
        exact mul_core ha hb b0 (by omega)
  · rw [if_neg m0]
    by_cases m2 : b = -1
    · rw [if_pos m2]
      subst m2
      by_cases m3 : a = -9223372036854775808
      · subst m3
        rw [if_pos rfl, chk_out (by decide)]
      · rw [if_neg m3]
        exact mul_core ha hb b0 (by omega)
    · rw [if_neg m2]
      exact mul_core ha hb b0 (by omega)

/-- What the operation numbered o makes of two numbers. -/
def doF (o a b : Int) : Int × Bool :=
  if o = 0 then chk (a + b) else if o = 1 then chk (a - b) else if o = 2 then chk (a * b)
  else if o = 3 then (if b = 0 then (0, false) else chk (a.tdiv b)) else if o = 4 then (if b = 0 then (0, false) else (a.tmod b, true)) else (0, false)

theorem tdiv_range {a b : Int} (ha : I64 a) (h : b ≠ -1) : I64 (a.tdiv b) := by
  by_cases b1 : b = 1
  · subst b1
    rw [Int.tdiv_one]
    exact ha
  have h2 : (a.tdiv b).natAbs = a.natAbs / b.natAbs := Int.natAbs_tdiv ..
  generalize a.tdiv b = q at *
  have h6 : 2 ≤ b.natAbs ∨ b = 0 := by omega
  rcases h6 with h6 | rfl
  · have h7 : a.natAbs / b.natAbs ≤ a.natAbs / 2 := Nat.div_le_div_left h6 (by omega)
    unfold I64 at *
    omega
  · unfold I64 at *
    simp at h2
    omega

theorem do_f (k : Nat) (o : Int) {a b : Int} (ha : I64 a) (hb : I64 b) : arith_Do.f (k + 1) o a b = some (doF o a b) := by
  unfold arith_Do.f doF
  by_cases o0 : o = 0
  · rw [if_pos o0, if_pos o0, add_f ha hb]; rfl
  rw [if_neg o0, if_neg o0]
  by_cases o1 : o = 1
  · rw [if_pos o1, if_pos o1, sub_f ha hb]; rfl
  rw [if_neg o1, if_neg o1]
  by_cases o2 : o = 2
  · rw [if_pos o2, if_pos o2, mul_f k ha hb]; rfl
  rw [if_neg o2, if_neg o2]
  have hj : ∀ y : Int, (y = 3 ∨ y = 4) → arith_Do.j0 (k + 1) y a b true = some (if y = 3 then (if b = 0 then (0, false) else chk (a.tdiv b)) else (if b = 0 then (0, false) else (a.tmod b, true))) := by
    intro y hy
    simp only [arith_Do.j0]
    rw [if_pos trivial]
    by_cases b0 : b = 0
    · rw [if_pos b0, if_pos b0, if_pos b0]; split <;> rfl
    rw [if_neg b0, if_neg b0, if_neg b0]
    by_cases b1 : b = -1
    · subst b1
      rw [if_pos rfl]
      rcases hy with rfl | rfl
      · rw [if_neg (by decide), if_pos rfl, sub_f (by decide) ha, show a.tdiv (-1) = 0 - a from by rw [Int.tdiv_neg, Int.tdiv_one]; omega]; rfl
      · rw [if_pos rfl, if_neg (by decide), show a.tmod (-1) = 0 from by rw [Int.tmod_neg, Int.tmod_one]]
    · rw [if_neg b1]
      by_cases y3 : y = 3
      · rw [if_pos y3, if_pos y3, chk_in (tdiv_range ha b1), wrap_in (tdiv_range ha b1)]
      · rw [if_neg y3, if_neg y3]
  by_cases o3 : o = 3
  · subst o3
    rw [if_pos rfl, if_pos rfl]
    exact hj 3 (.inl rfl)
  rw [if_neg o3, if_neg o3]
  by_cases o4 : o = 4
  · subst o4
    rw [if_pos rfl]
    exact hj 4 (.inr rfl)
  rw [if_neg o4, show (o == 4) = false from beq_eq_false_iff_ne.2 o4]
  simp only [arith_Do.j0]
  rw [if_neg (by decide)]


/-- Two columns reckoned place by place, or the first place at which there is no number. -/
def reck (o : Int) (l m : List Int) (i : Nat) (acc : List Int) : Nat → List Int × Int
  | 0 => (acc, -1)
  | d + 1 => if (doF o (rd l i) (rd m i)).2 = true then reck o l m (i + 1) (acc ++ [(doF o (rd l i) (rd m i)).1]) d else ([], (i : Int))
theorem reck_le (o : Int) (l m : List Int) (d : Nat) : ∀ i acc, (reck o l m i acc d).1.length ≤ acc.length + d := by
  induction d with
  | zero => intro i acc; simp [reck]
  | succ d ih =>
    intro i acc
    have := ih (i + 1) (acc ++ [(doF o (rd l i) (rd m i)).1])
    simp only [reck]
    split
    · simp at this
      omega
    · simp
theorem rd_range (l : List Int) (hl : ∀ x ∈ l, I64 x) (i : Nat) (h : i < l.length) : I64 (rd l i) := by
  rw [rd_at l i h]
  exact hl _ (List.getElem_mem h)
theorem cdo_l0 (o : Int) (l m : List Int) (hl : ∀ x ∈ l, I64 x) (hm : ∀ x ∈ m, I64 x) (hn : l.length ≤ 200) (n : Nat) (hmn : n = min l.length m.length) (d : Nat) : ∀ (k i : Nat) (acc : List Int), i + d = n → d + 1 < k → acc.length ≤ i →
    column_Do.l0 k o l m acc (n : Int) (i : Int) = some (reck o l m i acc d) := by
  induction d with
  | zero =>
    intro k i acc hd hk ha
    obtain ⟨k, rfl⟩ : ∃ m, k = m + 1 := ⟨k - 1, by omega⟩
    simp only [column_Do.l0]
    rw [if_neg (by omega)]
    rfl
  | succ d ih =>
    intro k i acc hd hk ha
    obtain ⟨k, rfl⟩ : ∃ m, k = m + 1 + 1 := ⟨k - 2, by omega⟩
    have hw : wrap64 ((i : Int) + 1) = ((i + 1 : Nat) : Int) := by unfold wrap64; omega
    simp only [column_Do.l0]
    rw [if_pos (by omega), if_pos (by omega), if_pos (by omega), if_pos (by omega), do_f k o (rd_range l hl i (by omega)) (rd_range m hm i (by omega)), hw]
    simp only [Option.bind_some, reck]
    by_cases c : (doF o (rd l i) (rd m i)).2 = true
    · rw [if_pos c, if_pos c, if_pos (by omega)]
      exact ih (k + 1) (i + 1) _ (by omega) (by omega) (by simp; omega)
    · rw [if_neg c, if_neg c]
theorem cdo_f (o : Int) (l m : List Int) (hl : ∀ x ∈ l, I64 x) (hm : ∀ x ∈ m, I64 x) (hn : l.length ≤ 200) (k : Nat) (hk : l.length + 1 < k) : column_Do.f k o l m = some (reck o l m 0 [] (min l.length m.length)) := by
  unfold column_Do.f
  rw [mn_nat]
  exact cdo_l0 o l m hl hm hn _ rfl _ k 0 [] (by omega) (by omega) (by simp)

end Go.Proofs.Ytpponaflfpafnaa.Pure
