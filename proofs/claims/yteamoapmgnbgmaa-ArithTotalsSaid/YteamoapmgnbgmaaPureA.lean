import Derived.Test.YteamoapmgnbgmaaXAllx4
import Derived.Laws.Bits64
/- What the printed functions of package arith compute, in plain words: sums, differences, products, quotients and remainders within the bounds of an int64. -/
namespace Go.Proofs.Yteamoapmgnbgmaa.Pure
open Go.RowKit Go.Proofs.Yteamoapmgnbgmaa.XAll

def I64 (x : Int) : Prop := -9223372036854775808 ≤ x ∧ x ≤ 9223372036854775807
instance (x : Int) : Decidable (I64 x) := by unfold I64; infer_instance
def chk (x : Int) : Int × Bool := if I64 x then (x, true) else (0, false)
theorem chk_in {x : Int} (h : I64 x) : chk x = (x, true) := by unfold chk; rw [if_pos h]
theorem chk_out {x : Int} (h : ¬ I64 x) : chk x = (0, false) := by unfold chk; rw [if_neg h]
theorem wrap_in {x : Int} (h : I64 x) : wrap64 x = x := by unfold I64 at h; unfold wrap64; omega
theorem wrap_range (x : Int) : I64 (wrap64 x) := by unfold I64 wrap64; omega
theorem i64_of_wf {a : Int} (h : (Lit.int .i64 a).wf = true) : I64 a := by
  simp only [Lit.wf, IntKind.min, IntKind.max, IntKind.signed, IntKind.bits, Bool.and_eq_true, decide_eq_true_eq, if_true] at h
  unfold I64
  omega

theorem add_f {a b : Int} (ha : I64 a) (hb : I64 b) : arith_add.f a b = some (chk (a + b)) := by
  unfold I64 at ha hb
  unfold arith_add.f
  by_cases c : I64 (a + b)
  · rw [chk_in c, wrap_in c]
    unfold I64 at c
    repeat' split
    all_goals first
      | rfl
      | (exfalso; omega)
      | (exfalso; simp only [wrap64] at *; omega)
  · rw [chk_out c]
    unfold I64 at c
    repeat' split
    all_goals first
      | rfl
      | (exfalso; omega)
      | (exfalso; simp only [wrap64] at *; omega)

theorem sub_f {a b : Int} (ha : I64 a) (hb : I64 b) : arith_sub.f a b = some (chk (a - b)) := by
  unfold I64 at ha hb
  unfold arith_sub.f
  by_cases c : I64 (a - b)
  · rw [chk_in c, wrap_in c]
    unfold I64 at c
    repeat' split
    all_goals first
      | rfl
      | (exfalso; omega)
      | (exfalso; simp only [wrap64] at *; omega)
  · rw [chk_out c]
    unfold I64 at c
    repeat' split
    all_goals first
      | rfl
      | (exfalso; omega)
      | (exfalso; simp only [wrap64] at *; omega)

/-- A product within the bounds is just one that the quotient gives back. -/
theorem mul_back {a b : Int} (ha : I64 a) (hb : I64 b) (h0 : b ≠ 0) (h1 : ¬ (b = -1 ∧ a = -9223372036854775808)) (h : wrap64 ((wrap64 (a * b)).tdiv b) = a) : I64 (a * b) := by
  have hp := wrap_range (a * b)
  obtain ⟨t, ht⟩ : ∃ t, wrap64 (a * b) = a * b + t * 18446744073709551616 := by
    refine ⟨-((a * b + 9223372036854775808) / 18446744073709551616), ?_⟩
    unfold wrap64
    omega
  by_cases hm : b = -1
  · subst hm
    unfold I64 at *
    omega
  · have h2 : ((wrap64 (a * b)).tdiv b).natAbs = (wrap64 (a * b)).natAbs / b.natAbs := Int.natAbs_tdiv ..
    have h3 := Int.mul_tdiv_add_tmod (wrap64 (a * b)) b
    have h4 : ((wrap64 (a * b)).tmod b).natAbs = (wrap64 (a * b)).natAbs % b.natAbs := Int.natAbs_tmod ..
    have h5 : (wrap64 (a * b)).natAbs % b.natAbs < b.natAbs := Nat.mod_lt _ (by omega)
    have hq : wrap64 ((wrap64 (a * b)).tdiv b) = (wrap64 (a * b)).tdiv b := by
      refine wrap_in ?_
      generalize wrap64 (a * b) = p at *
      generalize p.tdiv b = q at *
      have h6 : 2 ≤ b.natAbs ∨ b = 1 := by omega
      rcases h6 with h6 | rfl
      · have h7 : p.natAbs / b.natAbs ≤ p.natAbs / 2 := Nat.div_le_div_left h6 (by omega)
        unfold I64 at *
        omega
      · unfold I64 at *
        simp at h2
        omega
    rw [hq] at h
    rw [h] at h3
    have h8 : (wrap64 (a * b)).tmod b = t * 18446744073709551616 := by
      have : b * a = a * b := Int.mul_comm ..
      omega
    unfold I64 at ha hb
    have h9 : t = 0 := by omega
    subst h9
    unfold I64 at *
    omega

/-- The product by way of the quotient: what the innermost test of mul says. -/
theorem mul_core {a b : Int} (ha : I64 a) (hb : I64 b) (h0 : b ≠ 0) (h1 : ¬ (b = -1 ∧ a = -9223372036854775808)) :
    (if b = 0 then (none : Option (Int × Bool)) else (if (wrap64 (Int.tdiv (wrap64 (a * b)) b)) = a then (some (wrap64 (a * b), true)) else (some (0, false)))) = some (chk (a * b)) := by
  rw [if_neg h0]
  by_cases c : I64 (a * b)
  · rw [wrap_in c, Int.mul_tdiv_cancel a h0, wrap_in ha, if_pos rfl, chk_in c]
  · rw [if_neg (fun h => c (mul_back ha hb h0 h1 h)), chk_out c]

theorem mul_f (k : Nat) {a b : Int} (ha : I64 a) (hb : I64 b) : arith_mul.f (k + 1) a b = some (chk (a * b)) := by
  unfold arith_mul.f
  by_cases a0 : a = 0
  · subst a0
    rw [if_pos rfl]
    simp only [arith_mul.j0]
    rw [if_pos trivial, Int.zero_mul, chk_in (by decide)]
  rw [if_neg a0]
  by_cases b0 : b = 0
  · subst b0
    simp only [arith_mul.j0]
    rw [if_pos (by decide), Int.mul_zero, chk_in (by decide)]
  rw [show (b == 0) = false from beq_eq_false_iff_ne.2 b0]
  simp only [arith_mul.j0]
  rw [if_neg (by decide)]
  by_cases m0 : a = -1
  · rw [if_pos m0]
    subst m0
    by_cases m1 : b = -9223372036854775808
    · subst m1
      rw [if_pos rfl, chk_out (by decide)]
    · rw [if_neg m1]
      by_cases m2 : b = -1
      · rw [if_pos m2, if_neg (by decide)]
        exact mul_core ha hb b0 (by omega)
      · rw [if_neg m2]
        exact mul_core ha hb b0 (by omega)
  · rw [if_neg m0]
    by_cases m2 : b = -1
    · rw [if_pos m2]
      subst m2
      by_cases m3 : a = -9223372036854775808
      · subst m3
        rw [if_pos rfl, chk_out (by decide)]
      · rw [if_neg m3]
        exact mul_core ha hb b0 (by omega)
    · rw [if_neg m2]
      exact mul_core ha hb b0 (by omega)

/-- What the operation numbered o makes of two numbers. -/
def doF (o a b : Int) : Int × Bool :=
  if o = 0 then chk (a + b) else if o = 1 then chk (a - b) else if o = 2 then chk (a * b)
  else if o = 3 then (if b = 0 then (0, false) else chk (a.tdiv b)) else if o = 4 then (if b = 0 then (0, false) else (a.tmod b, true)) else (0, false)

theorem tdiv_range {a b : Int} (ha : I64 a) (h : b ≠ -1) : I64 (a.tdiv b) := by
  by_cases b1 : b = 1
  · subst b1
    rw [Int.tdiv_one]
    exact ha
  have h2 : (a.tdiv b).natAbs = a.natAbs / b.natAbs := Int.natAbs_tdiv ..
  generalize a.tdiv b = q at *
  have h6 : 2 ≤ b.natAbs ∨ b = 0 := by omega
  rcases h6 with h6 | rfl
  · have h7 : a.natAbs / b.natAbs ≤ a.natAbs / 2 := Nat.div_le_div_left h6 (by omega)
    unfold I64 at *
    omega
  · unfold I64 at *
    simp at h2
    omega

theorem do_f (k : Nat) (o : Int) {a b : Int} (ha : I64 a) (hb : I64 b) : arith_Do.f (k + 1) o a b = some (doF o a b) := by
  unfold arith_Do.f doF
  by_cases o0 : o = 0
  · rw [if_pos o0, if_pos o0, add_f ha hb]; rfl
  rw [if_neg o0, if_neg o0]
  by_cases o1 : o = 1
  · rw [if_pos o1, if_pos o1, sub_f ha hb]; rfl
  rw [if_neg o1, if_neg o1]
  by_cases o2 : o = 2
  · rw [if_pos o2, if_pos o2, mul_f k ha hb]; rfl
  rw [if_neg o2, if_neg o2]
  have hj : ∀ y : Int, (y = 3 ∨ y = 4) → arith_Do.j0 (k + 1) y a b true = some (if y = 3 then (if b = 0 then (0, false) else chk (a.tdiv b)) else (if b = 0 then (0, false) else (a.tmod b, true))) := by
    intro y hy
    simp only [arith_Do.j0]
    rw [if_pos trivial]
    by_cases b0 : b = 0
    · rw [if_pos b0, if_pos b0, if_pos b0]; split <;> rfl
    rw [if_neg b0, if_neg b0, if_neg b0]
    by_cases b1 : b = -1
    · subst b1
      rw [if_pos rfl]
      rcases hy with rfl | rfl
      · rw [if_neg (by decide), if_pos rfl, sub_f (by decide) ha, show a.tdiv (-1) = 0 - a from by rw [Int.tdiv_neg, Int.tdiv_one]; omega]; rfl
      · rw [if_pos rfl, if_neg (by decide), show a.tmod (-1) = 0 from by rw [Int.tmod_neg, Int.tmod_one]]
    · rw [if_neg b1]
      by_cases y3 : y = 3
      · rw [if_pos y3, if_pos y3, chk_in (tdiv_range ha b1), wrap_in (tdiv_range ha b1)]
      · rw [if_neg y3, if_neg y3]
  by_cases o3 : o = 3
  · subst o3
    rw [if_pos rfl, if_pos rfl]
    exact hj 3 (.inl rfl)
  rw [if_neg o3, if_neg o3]
  by_cases o4 : o = 4
  · subst o4
    rw [if_pos rfl]
    exact hj 4 (.inr rfl)
  rw [if_neg o4, show (o == 4) = false from beq_eq_false_iff_ne.2 o4]
  simp only [arith_Do.j0]
  rw [if_neg (by decide)]

theorem chk_range (x : Int) : I64 (chk x).1 := by
  unfold chk
  split
  · assumption
  · decide
theorem chk_true {x : Int} (h : (chk x).2 = true) : I64 x ∧ (chk x).1 = x := by
  by_cases c : I64 x
  · exact ⟨c, by rw [chk_in c]⟩
  · rw [chk_out c] at h
    cases h
theorem chk_false {x : Int} (h : ¬ (chk x).2 = true) : ¬ I64 x ∧ chk x = (0, false) := by
  by_cases c : I64 x
  · rw [chk_in c] at h
    exact absurd rfl h
  · exact ⟨c, chk_out c⟩
theorem do0 (a b : Int) : doF 0 a b = chk (a + b) := rfl
theorem do1 (a b : Int) : doF 1 a b = chk (a - b) := rfl
theorem do2 (a b : Int) : doF 2 a b = chk (a * b) := rfl
theorem do3 (a b : Int) : doF 3 a b = if b = 0 then (0, false) else chk (a.tdiv b) := rfl
theorem do4 (a b : Int) : doF 4 a b = if b = 0 then (0, false) else (a.tmod b, true) := rfl

end Go.Proofs.Yteamoapmgnbgmaa.Pure
