import Derived.Test.YteamoapmgnbgmaaPureA
import Derived.Test.YteamoapmgnbgmaaXAllx5
import Derived.Test.YteamoapmgnbgmaaXAllx6
import Derived.Test.YteamoapmgnbgmaaXAllx12
namespace Go.Proofs.Yteamoapmgnbgmaa.Pure
open Go.RowKit Go.Proofs.Yteamoapmgnbgmaa.XAll Go.Proofs.YteamoapmgnbgmaaW.PrintWords Go.Proofs.YteamoapmgnbgmaaW.PrintLast Go.Proofs.YteamoapmgnbgmaaW.PrintMore
set_option linter.unusedVariables false
set_option linter.unusedSimpArgs false
attribute [local go_sem] max2_int min2_int max_two min_two max_three min_three max_four min_four

/-- A contract, hidden from the walk: the call hands back r whatever the world. -/
structure Ret (f : FuncId) (args : Array Value) (r : Value) : Prop where mk :: (out : ∀ w, Calls Try.prog f args w fun e w' => e = .returned r ∧ Drawn0 w w')

theorem do_ret (o a b : Int) (ha : I64 a) (hb : I64 b) (q : Int) (ok : Bool) (h : doF o a b = (q, ok)) : Ret 11 #[.int .i64 o, .int .i64 a, .int .i64 b] (.tuple #[.int .i64 q, .bool ok]) :=
  ⟨fun w => arith_Do.calls 1 o a b q ok w (by rw [do_f 0 o ha hb, h])⟩
theorem size_ret (a s : Int) (h : ergolaw02_size.f a = some s) : Ret 12 #[.int .i64 a] (.int .u64 s) := ⟨fun w => ergolaw02_size.calls a s w h⟩
theorem fit_ret (n : Bool) (a q : Int) (ok : Bool) (h : ergolaw02_fit.f n a = some (q, ok)) : Ret 13 #[.bool n, .int .u64 a] (.tuple #[.int .i64 q, .bool ok]) := ⟨fun w => ergolaw02_fit.calls n a q ok w h⟩
theorem head_ret : ∀ w, Calls Try.prog 10 #[] w fun e w' => e = .returned (.bool true) ∧ Below w.heap.size w w' := fun w => ergolaw02_head.calls true w rfl

theorem size_f {a : Int} (h : I64 a) : ergolaw02_size.f a = some (a.natAbs : Int) := by
  unfold I64 at h
  by_cases ha : a < 0
  · rw [size_neg a ha h.1, show (a.natAbs : Int) = -a from by omega]
  · rw [size_nn a (by omega) h.2, show (a.natAbs : Int) = a from by omega]
theorem fit_f {m : Int} (n : Bool) (h0 : 0 ≤ m) (h1 : m ≤ 18446744073709551615) : ergolaw02_fit.f n m = some (chk (if n = true then -m else m)) := by
  cases n
  · rw [fit_nn m h0]
    simp only [Bool.false_eq_true, if_false]
    by_cases c : m ≤ 9223372036854775807
    · rw [if_pos c, chk_in (by unfold I64; omega)]
    · rw [if_neg c, chk_out (by unfold I64; omega)]
  · rw [fit_neg m h0 h1]
    simp only [if_true]
    by_cases c : m ≤ 9223372036854775808
    · rw [if_pos c, chk_in (by unfold I64; omega)]
    · rw [if_neg c, chk_out (by unfold I64; omega)]

end Go.Proofs.Yteamoapmgnbgmaa.Pure
