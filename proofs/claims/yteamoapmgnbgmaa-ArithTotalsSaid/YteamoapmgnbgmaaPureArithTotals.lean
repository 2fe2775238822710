/- For any list of numbers and any turn of it: the sum is that of mathematics where this is within the bounds of an int64, and there is none elsewhere; the turned list has the same. No condition (the law itself asks nothing of lists of more than 1000 numbers). -/
import Derived.Test.YteamoapmgnbgmaaPureSum
import Derived.Test.YteamoapmgnbgmaaXAllx17
namespace Go.Proofs.Yteamoapmgnbgmaa.Pure
set_option linter.unusedVariables false
open Go.RowKit Go.Proofs.Yteamoapmgnbgmaa.XAll Go.Proofs.YteamoapmgnbgmaaW.PrintWords Go.Proofs.YteamoapmgnbgmaaW.PrintLast

def turn (l : List Int) (c i : Nat) : List Int := (List.range i).map fun j => l.getD ((j + c) % l.length) 0
theorem turn_succ (l : List Int) (c i : Nat) : turn l c (i + 1) = turn l c i ++ [l.getD ((i + c) % l.length) 0] := by
  unfold turn
  rw [List.range_succ, List.map_append]
  rfl
theorem turn_all (l : List Int) (c : Nat) (h : 0 < l.length) : turn l c l.length = l.drop (c % l.length) ++ l.take (c % l.length) := by
  have hc : c % l.length < l.length := Nat.mod_lt _ h
  refine List.ext_getElem ?_ ?_
  · simp [turn]
    omega
  · intro j h1 h2
    have h1' : j < l.length := by simpa [turn] using h1
    have e : (j + c) % l.length = if j + c % l.length < l.length then j + c % l.length else j + c % l.length - l.length := by
      rw [Nat.add_mod, Nat.mod_eq_of_lt h1']
      split
      · rw [Nat.mod_eq_of_lt]; assumption
      · rw [Nat.mod_eq_sub_mod (by omega), Nat.mod_eq_of_lt (by omega)]
    simp only [turn, List.getElem_map, List.getElem_range]
    rw [e, List.getElem_append]
    by_cases c1 : j + c % l.length < l.length
    · rw [if_pos c1, dif_pos (by simp; omega)]
      rw [List.getElem_drop, List.getD_eq_getElem?_getD, List.getElem?_eq_getElem c1]
      simp only [Option.getD_some]
      congr 1
      omega
    · rw [if_neg c1, dif_neg (by simp; omega)]
      rw [List.getElem_take, List.getD_eq_getElem?_getD, List.getElem?_eq_getElem (by omega)]
      simp only [Option.getD_some]
      congr 1
      simp
      omega
theorem turn_sum (l : List Int) (c : Nat) : (turn l c l.length).sum = l.sum := by
  rcases Nat.eq_zero_or_pos l.length with h | h
  · obtain rfl : l = [] := List.length_eq_zero_iff.1 h
    rfl
  · rw [turn_all l c h, List.sum_append, Int.add_comm, ← List.sum_append, List.take_append_drop]
theorem turn_mem (l : List Int) (hl : ∀ x ∈ l, I64 x) (c i : Nat) : ∀ x ∈ turn l c i, I64 x := by
  intro x hx
  obtain ⟨j, _, rfl⟩ := List.mem_map.1 hx
  rw [List.getD_eq_getElem?_getD]
  rcases h : l[(j + c) % l.length]? with _ | y
  · decide
  · exact hl y (List.mem_of_getElem? h)

/-- Behind the loop: what both sums say. -/
theorem totals_j1 (k : Nat) (l : List Int) (hl : ∀ x ∈ l, I64 x) (hn : l.length ≤ 1000) (c : Nat) (hk : l.length < k) (high low : Int) (h0 : 0 ≤ low) (h1 : low < 4294967296) (hT : high * 4294967296 + low = l.sum)
    (x12 : Bool) (hx : x12 = decide (-2147483648 ≤ high ∧ high < 2147483648)) : ergolaw02_ArithTotals.j1 (k + 1) l high low (turn l c l.length) 0 x12 = some true := by
  simp only [ergolaw02_ArithTotals.j1]
  rw [sum_f' l hl hn k hk, sum_f' (turn l c l.length) (turn_mem l hl c _) (by simp [turn]; omega) k (by simp [turn]; omega), turn_sum]
  simp only [Option.bind_some]
  subst hx
  by_cases hc : -2147483648 ≤ high ∧ high < 2147483648
  · rw [if_pos (by simpa using hc), chk_in (by unfold I64; omega)]
    rw [wrap_in (by unfold I64; omega), or32 high low h0 h1 hc.1 hc.2, if_pos (by simpa using hc), if_pos hT.symm]
    simp
  · rw [if_neg (by simpa using hc), chk_out (by unfold I64; omega)]
    rw [if_pos (by rw [beq_iff_eq, eq_comm, decide_eq_false_iff_not]; exact hc), if_pos rfl]
    simp

theorem totals_l0 (l : List Int) (hl : ∀ x ∈ l, I64 x) (hn : l.length ≤ 1000) (a : Int) (ha : I64 a) (d : Nat) : ∀ (k i : Nat) (high low : Int), i + d = l.length → d + l.length + 2 < k →
    0 ≤ low → low ≤ (i : Int) * 4294967296 → -((i : Int) * 2147483648) ≤ high → high ≤ (i : Int) * 2147483648 → high * 4294967296 + low = (l.take i).sum →
    ergolaw02_ArithTotals.l0 k l a high low (turn l (a % 65536).toNat i) (mx (l.length : Int) 1) l (l.length : Int) (i : Int) = some true := by
  induction d with
  | zero =>
    intro k i high low hd hk h0 h1 h2 h3 h4
    obtain ⟨k, rfl⟩ : ∃ m, k = m + 1 := ⟨k - 1, by omega⟩
    obtain ⟨k, rfl⟩ : ∃ m, k = m + 1 := ⟨k - 1, by omega⟩
    obtain rfl : i = l.length := by omega
    rw [List.take_length] at h4
    simp only [ergolaw02_ArithTotals.l0]
    rw [if_neg (by omega), and32, wrap_in (x := high + low / 4294967296) (by unfold I64; omega)]
    by_cases c : high + low / 4294967296 ≥ -2147483648
    · rw [if_pos c]
      refine totals_j1 k l hl hn _ (by omega) _ _ (by omega) (by omega) (by omega) _ ?_
      simp [c]
    · rw [if_neg c]
      refine totals_j1 k l hl hn _ (by omega) _ _ (by omega) (by omega) (by omega) _ ?_
      simp
      omega
  | succ d ih =>
    intro k i high low hd hk h0 h1 h2 h3 h4
    obtain ⟨k, rfl⟩ : ∃ m, k = m + 1 := ⟨k - 1, by omega⟩
    have hlt : i < l.length := by omega
    have hx := hl l[i] (List.getElem_mem hlt)
    have hs := sum_take l i hlt
    have hmx : mx (l.length : Int) 1 = (l.length : Int) := by unfold mx; omega
    have ht := turn_succ l (a % 65536).toNat i
    simp only [ergolaw02_ArithTotals.l0]
    rw [if_pos (by omega), if_pos (by omega), if_pos (by omega), rd_at l i hlt, and32, and16, wrap_in (x := (i : Int) + a % 65536) (by unfold I64; omega)]
    have hm : Int.tmod ((i : Int) + a % 65536) (mx (l.length : Int) 1) = (((i + (a % 65536).toNat) % l.length : Nat) : Int) := by
      rw [hmx, Int.tmod_eq_emod_of_nonneg (by omega), Int.natCast_emod]
      congr 1
      omega
    have hlt2 : (i + (a % 65536).toNat) % l.length < l.length := Nat.mod_lt _ (by omega)
    rw [hm, if_neg (by rw [hmx]; omega), if_pos (by omega), if_pos (by omega), if_pos (by simp [turn]; omega)]
    have hw : wrap64 ((i : Int) + 1) = ((i + 1 : Nat) : Int) := by unfold wrap64; omega
    rw [hw, show rd l (((i + (a % 65536).toNat) % l.length : Nat) : Int) = l.getD ((i + (a % 65536).toNat) % l.length) 0 from by unfold rd; rw [Int.toNat_natCast], ← ht]
    clear hm hlt2 ht hw hmx
    generalize l[i] = x at *
    unfold I64 at hx
    clear ha
    rw [wrap_in (x := high + x / 4294967296) (by unfold I64; omega), wrap_in (x := low + x % 4294967296) (by unfold I64; omega)]
    exact ih k (i + 1) _ _ (by omega) (by omega) (by omega) (by omega) (by omega) (by omega) (by omega)

theorem ArithTotals : ergolaw02_ArithTotals.Pure := by
  intro l a _ _ hl ha
  have hl' : ∀ x ∈ l, I64 x := fun x hx => i64_of_wf (hl x hx)
  refine ⟨2 * l.length + 4, ?_⟩
  unfold ergolaw02_ArithTotals.f ergolaw02_head.f
  simp only [Option.bind_some, if_true]
  by_cases c : (l.length : Int) > 1000
  · rw [if_pos c]
  · rw [if_neg c]
    exact totals_l0 l hl' (by omega) a (i64_of_wf ha) l.length _ 0 0 0 (by omega) (by omega) (by omega) (by omega) (by omega) (by omega) (by simp)

end Go.Proofs.Yteamoapmgnbgmaa.Pure
