/- What arith.Sum computes: the sum of all numbers, where it is within the bounds of an int64 (at most 1000 numbers). -/
import Derived.Test.YteamoapmgnbgmaaPureA
import Derived.Test.YteamoapmgnbgmaaXAllx16
import Derived.Laws.BitsLemmas
namespace Go.Proofs.Yteamoapmgnbgmaa.Pure
open Go.RowKit Go.Proofs.Yteamoapmgnbgmaa.XAll Go.Proofs.YteamoapmgnbgmaaW.PrintWords Go.Proofs.YteamoapmgnbgmaaW.PrintLast

theorem mask_i64 (j m : Nat) (hj : j ≤ 63) (hm : m = 2 ^ j - 1) (n : Int) : Go.bits .and .i64 n (m : Int) = n % ((2 ^ j : Nat) : Int) := by
  have hp : (2 : Nat) ^ j ∣ 2 ^ 64 := Nat.pow_dvd_pow 2 (by omega)
  have h127 : (BitVec.ofInt 64 (m : Int)).toNat = 2 ^ j - 1 := by
    have h2 : (2 : Nat) ^ j ≤ 2 ^ 63 := Nat.pow_le_pow_right (by decide) hj
    rw [BitVec.ofInt_natCast, BitVec.toNat_ofNat, hm]
    exact Nat.mod_eq_of_lt (by omega)
  have key : (BitVec.ofInt 64 n &&& BitVec.ofInt 64 (m : Int)).toNat = (n % ((2 ^ 64 : Nat) : Int)).toNat % 2 ^ j := by
    rw [BitVec.toNat_and, BitVec.toNat_ofInt, h127, Nat.and_two_pow_sub_one_eq_mod]
  show IntKind.i64.wrap ((BitVec.ofInt 64 n &&& BitVec.ofInt 64 (m : Int)).toNat : Nat) = _
  rw [key, IntKind.wrap_i64]
  have h3 : (((n % ((2 ^ 64 : Nat) : Int)).toNat % 2 ^ j : Nat) : Int) = n % ((2 ^ j : Nat) : Int) := by
    rw [Int.natCast_emod, Int.toNat_of_nonneg (by omega), Int.emod_emod_of_dvd]
    exact Int.natCast_dvd_natCast.2 hp
  rw [h3]
  have h4 : 0 ≤ n % ((2 ^ j : Nat) : Int) := Int.emod_nonneg _ (by have := Nat.two_pow_pos j; omega)
  have h5 : n % ((2 ^ j : Nat) : Int) < ((2 ^ j : Nat) : Int) := Int.emod_lt_of_pos _ (by have := Nat.two_pow_pos j; omega)
  have h6 : (2 : Nat) ^ j ≤ 2 ^ 63 := Nat.pow_le_pow_right (by decide) hj
  omega
theorem and32 (n : Int) : Go.bits .and .i64 n 4294967295 = n % 4294967296 := mask_i64 32 4294967295 (by decide) (by decide) n
theorem and16 (n : Int) : Go.bits .and .i64 n 65535 = n % 65536 := mask_i64 16 65535 (by decide) (by decide) n
theorem or32 (h low : Int) (h0 : 0 ≤ low) (h1 : low < 4294967296) (h2 : -2147483648 ≤ h) (h3 : h < 2147483648) : Go.bits .or .i64 (h * 4294967296) low = h * 4294967296 + low := by
  obtain ⟨l, rfl⟩ := Int.eq_ofNat_of_zero_le h0
  have key : (BitVec.ofInt 64 (h * 4294967296) ||| BitVec.ofInt 64 (l : Int)).toNat = (h % 4294967296).toNat * 4294967296 + l := by
    rw [BitVec.toNat_or, BitVec.toNat_ofInt, BitVec.ofInt_natCast, BitVec.toNat_ofNat, Nat.mod_eq_of_lt (a := l) (by omega)]
    rw [show (h * 4294967296 % ((2 ^ 64 : Nat) : Int)).toNat = 2 ^ 32 * (h % 4294967296).toNat from by omega]
    rw [← Nat.two_pow_add_eq_or_of_lt (by omega)]
    omega
  show IntKind.i64.wrap ((BitVec.ofInt 64 (h * 4294967296) ||| BitVec.ofInt 64 (l : Int)).toNat : Nat) = _
  rw [key, IntKind.wrap_i64]
  omega

theorem rd_at (l : List Int) (i : Nat) (h : i < l.length) : rd l (i : Int) = l[i] := by
  unfold rd
  rw [Int.toNat_natCast, List.getD_eq_getElem?_getD, List.getElem?_eq_getElem h]
  rfl
theorem sum_take (l : List Int) (i : Nat) (h : i < l.length) : (l.take (i + 1)).sum = (l.take i).sum + l[i] := by
  rw [List.take_succ_eq_append_getElem h, List.sum_append]
  simp

/-- From place i on, with what came before it parted into two halves. -/
theorem sum_l0 (l : List Int) (hl : ∀ x ∈ l, I64 x) (hn : l.length ≤ 1000) (d : Nat) : ∀ (k i : Nat) (hi lo : Int), i + d = l.length → d < k →
    0 ≤ lo → lo < 18446744073709551616 → -(i : Int) ≤ hi → hi ≤ (i : Int) → hi * 18446744073709551616 + lo = (l.take i).sum →
    arith_Sum.l0 k hi lo l (l.length : Int) (i : Int) = some (chk l.sum) := by
  induction d with
  | zero =>
    intro k i hi lo hd hk h0 h1 h2 h3 h4
    obtain ⟨k, rfl⟩ : ∃ m, k = m + 1 := ⟨k - 1, by omega⟩
    have hi' : i = l.length := by omega
    rw [hi', List.take_length] at h4
    simp only [arith_Sum.l0]
    rw [if_neg (by omega)]
    by_cases c0 : hi = 0
    · rw [if_pos c0]
      by_cases c1 : lo ≤ 9223372036854775807
      · rw [if_pos c1, wrap_in (by unfold I64; omega), ← h4, chk_in (by unfold I64; omega)]
        congr 2
        omega
      · rw [if_neg c1, if_neg (by omega), ← h4, chk_out (by unfold I64; omega)]
    · rw [if_neg c0]
      by_cases c1 : hi = -1
      · rw [if_pos c1]
        by_cases c2 : lo > 9223372036854775807
        · rw [if_pos c2, ← h4, chk_in (by unfold I64; omega)]
          congr 2
          unfold wrap64
          omega
        · rw [if_neg c2, ← h4, chk_out (by unfold I64; omega)]
      · rw [if_neg c1, ← h4, chk_out (by unfold I64; omega)]
  | succ d ih =>
    intro k i hi lo hd hk h0 h1 h2 h3 h4
    obtain ⟨k, rfl⟩ : ∃ m, k = m + 1 := ⟨k - 1, by omega⟩
    have hlt : i < l.length := by omega
    have hx := hl l[i] (List.getElem_mem hlt)
    have hs := sum_take l i hlt
    simp only [arith_Sum.l0]
    rw [if_pos (by omega), if_pos (by omega), if_pos (by omega), rd_at l i hlt]
    have hw : wrap64 ((i : Int) + 1) = ((i + 1 : Nat) : Int) := by unfold wrap64; omega
    generalize l[i] = x at *
    unfold I64 at hx
    rw [IntKind.wrap_u64, IntKind.wrap_u64, hw]
    by_cases c0 : (lo + x % 18446744073709551616) % 18446744073709551616 < lo
    · rw [if_pos c0]
      by_cases c1 : x < 0
      · rw [if_pos c1]
        refine ih k (i + 1) _ _ (by omega) (by omega) (by omega) (by omega) ?_ ?_ ?_ <;> (unfold wrap64; omega)
      · rw [if_neg c1]
        refine ih k (i + 1) _ _ (by omega) (by omega) (by omega) (by omega) ?_ ?_ ?_ <;> (unfold wrap64; omega)
    · rw [if_neg c0]
      by_cases c1 : x < 0
      · rw [if_pos c1]
        refine ih k (i + 1) _ _ (by omega) (by omega) (by omega) (by omega) ?_ ?_ ?_ <;> (unfold wrap64; omega)
      · rw [if_neg c1]
        refine ih k (i + 1) _ _ (by omega) (by omega) (by omega) (by omega) ?_ ?_ ?_ <;> omega
theorem sum_f' (l : List Int) (hl : ∀ x ∈ l, I64 x) (hn : l.length ≤ 1000) (k : Nat) (hk : l.length < k) : arith_Sum.f k l = some (chk l.sum) := by
  unfold arith_Sum.f
  exact sum_l0 l hl hn l.length k 0 0 0 (by omega) hk (by omega) (by omega) (by omega) (by omega) (by simp)

end Go.Proofs.Yteamoapmgnbgmaa.Pure
