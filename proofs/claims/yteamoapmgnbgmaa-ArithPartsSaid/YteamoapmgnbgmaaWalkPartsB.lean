/- ArithParts: for any two numbers its Go code answers true: quotient and remainder make up the dividend. No condition. -/
import Derived.Test.YteamoapmgnbgmaaWalkParts
import Derived.Test.YteamoapmgnbgmaaPureA
import Derived.Test.YteamoapmgnbgmaaXAllx5
import Derived.Test.YteamoapmgnbgmaaXAllx6
import Derived.Test.YteamoapmgnbgmaaXAllx12
namespace Go.Proofs.Yteamoapmgnbgmaa.Pure
open Go.RowKit Go.Proofs.Yteamoapmgnbgmaa.XAll Go.Proofs.YteamoapmgnbgmaaW.PrintWords Go.Proofs.YteamoapmgnbgmaaW.PrintLast Go.Proofs.YteamoapmgnbgmaaW.PrintMore
set_option linter.unusedVariables false
set_option linter.unusedSimpArgs false
attribute [local go_sem] max2_int min2_int max_two min_two max_three min_three max_four min_four

theorem abs_tdiv (a b : Int) : a.tdiv b = if (a < 0) = (b < 0) then (a.natAbs : Int) / b.natAbs else -((a.natAbs : Int) / b.natAbs) := by
  have h : ∀ x y : Int, 0 ≤ x → 0 ≤ y → x.tdiv y = x / y := fun x y hx _ => Int.tdiv_eq_ediv_of_nonneg hx
  by_cases ha : a < 0 <;> by_cases hb : b < 0
  · rw [if_pos (by simp [ha, hb]), show (a.natAbs : Int) = -a from by omega, show (b.natAbs : Int) = -b from by omega, ← h _ _ (by omega) (by omega), Int.neg_tdiv, Int.tdiv_neg, Int.neg_neg]
  · rw [if_neg (by simp [ha, hb]), show (a.natAbs : Int) = -a from by omega, show (b.natAbs : Int) = b from by omega, ← h _ _ (by omega) (by omega), Int.neg_tdiv, Int.neg_neg]
  · rw [if_neg (by simp [ha, hb]), show (a.natAbs : Int) = a from by omega, show (b.natAbs : Int) = -b from by omega, ← h _ _ (by omega) (by omega), Int.tdiv_neg, Int.neg_neg]
  · rw [if_pos (by simp [ha, hb]), show (a.natAbs : Int) = a from by omega, show (b.natAbs : Int) = b from by omega, ← h _ _ (by omega) (by omega)]
theorem abs_tmod (a b : Int) : ((a.tmod b).natAbs : Int) = (a.natAbs : Int) % b.natAbs := by
  rw [Int.natAbs_tmod, Int.natCast_emod]
theorem tmod_sign (a b : Int) (h : a.tmod b ≠ 0) : (a.tmod b < 0) = (a < 0) := by
  by_cases ha : a < 0
  · have h1 : 0 ≤ (-a).tmod b := Int.tmod_nonneg _ (by omega)
    rw [Int.neg_tmod] at h1
    simp only [ha, eq_iff_iff, iff_true]
    omega
  · have h1 : 0 ≤ a.tmod b := Int.tmod_nonneg _ (by omega)
    simp only [ha, eq_iff_iff, iff_false]
    omega
theorem size_f {a : Int} (h : I64 a) : ergolaw02_size.f a = some (a.natAbs : Int) := by
  unfold I64 at h
  by_cases ha : a < 0
  · rw [size_neg a ha h.1, show (a.natAbs : Int) = -a from by omega]
  · rw [size_nn a (by omega) h.2, show (a.natAbs : Int) = a from by omega]
theorem fit_f {m : Int} (n : Bool) (h0 : 0 ≤ m) (h1 : m ≤ 18446744073709551615) : ergolaw02_fit.f n m = some (chk (if n = true then -m else m)) := by
  cases n
  · rw [fit_nn m h0]
    simp only [Bool.false_eq_true, if_false]
    by_cases c : m ≤ 9223372036854775807
    · rw [if_pos c, chk_in (by unfold I64; omega)]
    · rw [if_neg c, chk_out (by unfold I64; omega)]
  · rw [fit_neg m h0 h1]
    simp only [if_true]
    by_cases c : m ≤ 9223372036854775808
    · rw [if_pos c, chk_in (by unfold I64; omega)]
    · rw [if_neg c, chk_out (by unfold I64; omega)]

/-- The walk of ArithParts: whatever the two numbers, it answers true. -/
theorem ArithParts_walk (a b : Int) (w : World) (wa : (Lit.int .i64 a).wf = true) (wb : (Lit.int .i64 b).wf = true) :
    Calls Try.prog 3 #[.int .i64 a, .int .i64 b] w fun e w' => e = .returned (.bool true) ∧ Below w.heap.size w w' := by
  have ha := i64_of_wf wa
  have hb := i64_of_wf wb
  clear wa wb
  by_cases b0 : b = 0
  · subst b0
    exact parts_zero a w (do_ret 3 a 0 ha hb _ _ rfl) (do_ret 4 a 0 ha hb _ _ rfl)
  have c3 : Ret 11 #[.int .i64 3, .int .i64 a, .int .i64 b] (.tuple #[.int .i64 (chk (a.tdiv b)).1, .bool (chk (a.tdiv b)).2]) := do_ret 3 a b ha hb _ _ (by rw [do3, if_neg b0])
  have c4 : Ret 11 #[.int .i64 4, .int .i64 a, .int .i64 b] (.tuple #[.int .i64 (a.tmod b), .bool true]) := do_ret 4 a b ha hb _ _ (by rw [do4, if_neg b0])
  have e1 := abs_tdiv a b
  have e2 := abs_tmod a b
  have e3 := tmod_sign a b
  have hr : I64 (a.tmod b) := by
    have h5 : (a.tmod b).natAbs ≤ a.natAbs := by rw [Int.natAbs_tmod]; exact Nat.mod_le _ _
    by_cases h7 : a.tmod b = 0
    · rw [h7]; decide
    · have h8 := e3 h7
      by_cases h9 : a < 0
      · simp only [h9, eq_iff_iff, iff_true] at h8
        unfold I64 at *
        omega
      · simp only [h9, eq_iff_iff, iff_false] at h8
        unfold I64 at *
        omega
  have ka := size_ret a _ (size_f ha)
  have kb := size_ret b _ (size_f hb)
  have kr := size_ret (a.tmod b) _ (size_f hr)
  have hbn : (b == 0) = false := beq_eq_false_iff_ne.2 b0
  have h1 : decide ((b.natAbs : Int) ≤ ((a.tmod b).natAbs : Int)) = false := by
    have h6 : (a.natAbs : Int) % b.natAbs < b.natAbs := Int.emod_lt_of_pos _ (by omega)
    rw [decide_eq_false_iff_not]
    omega
  have h3 : (0 : Int) ≤ a.natAbs := by omega
  have h4 : (a.natAbs : Int) ≤ 9223372036854775808 := by unfold I64 at ha; omega
  have h5 : (1 : Int) ≤ b.natAbs := by omega
  have h6 : (((a.tmod b).natAbs : Int) == (a.natAbs : Int) % (b.natAbs : Int)) = true := by rw [e2]; exact beq_self_eq_true _
  have hq : ∀ n : Bool, (n = true → ((a < 0) = (b < 0)) = False) → (n = false → ((a < 0) = (b < 0)) ∨ (a.natAbs : Int) / b.natAbs = 0) →
      Ret 13 #[.bool n, .int .u64 ((a.natAbs : Int) / b.natAbs)] (.tuple #[.int .i64 (chk (a.tdiv b)).1, .bool (chk (a.tdiv b)).2]) := by
    intro n n1 n2
    have h8 : (0 : Int) ≤ (a.natAbs : Int) / b.natAbs := Int.ediv_nonneg h3 (by omega)
    have h9 : (a.natAbs : Int) / b.natAbs ≤ a.natAbs := Int.ediv_le_self _ h3
    refine fit_ret n _ _ _ ?_
    rw [fit_f n h8 (by omega)]
    congr 2
    cases n
    · simp only [Bool.false_eq_true, if_false]
      rcases n2 rfl with h | h
      · rw [e1, if_pos h]
      · rw [e1, h]
        simp
    · simp only [if_true]
      rw [e1, if_neg (by rw [n1 rfl]; exact id)]
  generalize (chk (a.tdiv b)).1 = q at *
  generalize (chk (a.tdiv b)).2 = ok at *
  generalize a.tmod b = r at *
  generalize hsa : (a.natAbs : Int) = sa at *
  generalize hsb : (b.natAbs : Int) = sb at *
  generalize hsr : (r.natAbs : Int) = sr at *
  have B0 : ∀ x : Int, x = 0 → (x == 0) = true ∧ (x != 0) = false := fun x h => ⟨by simpa using h, by simpa using h⟩
  have B1 : ∀ x : Int, x ≠ 0 → (x == 0) = false ∧ (x != 0) = true := fun x h => ⟨by simpa using h, by simpa using h⟩
  by_cases xa : a < 0
  · have da : decide (a < 0) = true := by simpa using xa
    by_cases xb : b < 0
    · have db : decide (b < 0) = true := by simpa using xb
      have kf := hq false (by intro h; cases h) (fun _ => .inl (by simp [xa, xb]))
      by_cases rz : r = 0
      · exact parts_tt0 a b w q r sa sb sr ok hbn c3 c4 ka kb kr kf h1 h3 h4 h5 h6 (B0 r rz).1 (B0 r rz).2 da db
      · exact parts_ttr a b w q r sa sb sr ok hbn c3 c4 ka kb kr kf h1 h3 h4 h5 h6 (B1 r rz).1 (B1 r rz).2 (by simp [e3 rz, xa]) da db
    · have db : decide (b < 0) = false := by simpa using xb
      by_cases z : sa / sb = 0
      · have kf := hq false (by intro h; cases h) (fun _ => .inr z)
        by_cases rz : r = 0
        · exact parts_tfz0 a b w q r sa sb sr ok hbn c3 c4 ka kb kr kf h1 h3 h4 h5 h6 (B0 r rz).1 (B0 r rz).2 (B0 _ z).1 (B0 _ z).2 da db
        · exact parts_tfzr a b w q r sa sb sr ok hbn c3 c4 ka kb kr kf h1 h3 h4 h5 h6 (B1 r rz).1 (B1 r rz).2 (by simp [e3 rz, xa]) (B0 _ z).1 (B0 _ z).2 da db
      · have kf := hq true (fun _ => by simp [xa, xb]) (by intro h; cases h)
        by_cases rz : r = 0
        · exact parts_tfn0 a b w q r sa sb sr ok hbn c3 c4 ka kb kr kf h1 h3 h4 h5 h6 (B0 r rz).1 (B0 r rz).2 (B1 _ z).1 (B1 _ z).2 da db
        · exact parts_tfnr a b w q r sa sb sr ok hbn c3 c4 ka kb kr kf h1 h3 h4 h5 h6 (B1 r rz).1 (B1 r rz).2 (by simp [e3 rz, xa]) (B1 _ z).1 (B1 _ z).2 da db
  · have da : decide (a < 0) = false := by simpa using xa
    by_cases xb : b < 0
    · have db : decide (b < 0) = true := by simpa using xb
      by_cases z : sa / sb = 0
      · have kf := hq false (by intro h; cases h) (fun _ => .inr z)
        by_cases rz : r = 0
        · exact parts_ftz0 a b w q r sa sb sr ok hbn c3 c4 ka kb kr kf h1 h3 h4 h5 h6 (B0 r rz).1 (B0 r rz).2 (B0 _ z).1 (B0 _ z).2 da db
        · exact parts_ftzr a b w q r sa sb sr ok hbn c3 c4 ka kb kr kf h1 h3 h4 h5 h6 (B1 r rz).1 (B1 r rz).2 (by simp [e3 rz, xa]) (B0 _ z).1 (B0 _ z).2 da db
      · have kf := hq true (fun _ => by simp [xa, xb]) (by intro h; cases h)
        by_cases rz : r = 0
        · exact parts_ftn0 a b w q r sa sb sr ok hbn c3 c4 ka kb kr kf h1 h3 h4 h5 h6 (B0 r rz).1 (B0 r rz).2 (B1 _ z).1 (B1 _ z).2 da db
        · exact parts_ftnr a b w q r sa sb sr ok hbn c3 c4 ka kb kr kf h1 h3 h4 h5 h6 (B1 r rz).1 (B1 r rz).2 (by simp [e3 rz, xa]) (B1 _ z).1 (B1 _ z).2 da db
    · have db : decide (b < 0) = false := by simpa using xb
      have kf := hq false (by intro h; cases h) (fun _ => .inl (by simp [xa, xb]))
      by_cases rz : r = 0
      · exact parts_ff0 a b w q r sa sb sr ok hbn c3 c4 ka kb kr kf h1 h3 h4 h5 h6 (B0 r rz).1 (B0 r rz).2 da db
      · exact parts_ffr a b w q r sa sb sr ok hbn c3 c4 ka kb kr kf h1 h3 h4 h5 h6 (B1 r rz).1 (B1 r rz).2 (by simp [e3 rz, xa]) da db

end Go.Proofs.Yteamoapmgnbgmaa.Pure
