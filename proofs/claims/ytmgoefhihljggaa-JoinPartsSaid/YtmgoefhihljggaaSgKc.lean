/- JoinMany: many rows of few unlike numbers, each with each of its number. The plain part and the walk. -/
import Derived.Test.YtmgoefhihljggaaSgKa
import Derived.Test.YtmgoefhihljggaaSgYf
import Derived.Test.YtmgoefhihljggaaSgXo
import Derived.Test.YtmgoefhihljggaaSgJb
namespace Go.Proofs.Ytmgoefhihljggaa.Sg
open Go.RowKit Go.Shelf
set_option linter.unusedVariables false
set_option linter.unusedSimpArgs false

theorem and_mask (x : Int) (c : Nat) (hc : c < 9223372036854775808) : ∃ m : Nat, m ≤ c ∧ bits .and .i64 x (c : Int) = (m : Int) := by
  refine ⟨(BitVec.ofInt 64 x &&& BitVec.ofInt 64 (c : Int)).toNat, ?_, ?_⟩
  · rw [BitVec.toNat_and]
    refine Nat.le_trans Nat.and_le_right ?_
    rw [BitVec.ofInt_natCast, BitVec.toNat_ofNat]
    exact Nat.mod_le _ _
  · have h : (BitVec.ofInt 64 x &&& BitVec.ofInt 64 (c : Int)).toNat ≤ c := by
      rw [BitVec.toNat_and]
      refine Nat.le_trans Nat.and_le_right ?_
      rw [BitVec.ofInt_natCast, BitVec.toNat_ofNat]
      exact Nat.mod_le _ _
    show IntKind.i64.wrap _ = _
    rw [IntKind.wrap_i64]
    have e : ∀ k : Nat, k ≤ c → ((k : Int) + 9223372036854775808) % 18446744073709551616 - 9223372036854775808 = (k : Int) := by intro k hk; omega
    exact e _ h
def rowsA (d n : Nat) : List Row := (List.range n).map fun i : Nat => ([(i : Int), ((i % d : Nat) : Int)] : Row)
def rowsB (d n : Nat) : List Row := (List.range n).map fun i : Nat => ([((i % d : Nat) : Int), (i : Int)] : Row)
theorem rowsA_succ (d n : Nat) : rowsA d (n + 1) = rowsA d n ++ [[(n : Int), ((n % d : Nat) : Int)]] := by unfold rowsA; rw [List.range_succ, List.map_append]; rfl
theorem rowsB_succ (d n : Nat) : rowsB d (n + 1) = rowsB d n ++ [[((n % d : Nat) : Int), (n : Int)]] := by unfold rowsB; rw [List.range_succ, List.map_append]; rfl
theorem rowsA_length (d n : Nat) : (rowsA d n).length = n := by simp [rowsA]
theorem rowsB_length (d n : Nat) : (rowsB d n).length = n := by simp [rowsB]
theorem rowsA_norm (d n : Nat) : norm 2 (rowsA d n) = rowsA d n := by
  symm
  refine norm_eq ?_ (fun x => ?_)
  · unfold rowsA
    rw [SS, List.pairwise_map]
    refine List.Pairwise.imp ?_ List.pairwise_lt_range
    intro i j h
    show rowCmp _ _ < 0
    rw [rowCmp, if_pos (by omega)]; omega
  · constructor
    · intro h
      refine ⟨h, ?_⟩
      unfold rowsA at h
      obtain ⟨i, _, rfl⟩ := List.mem_map.1 h
      rfl
    · exact fun h => h.1
theorem rowsB_norm (d n : Nat) : (norm 2 (rowsB d n)).Perm (rowsB d n) := by
  have nd : (rowsB d n).Nodup := by
    unfold rowsB List.Nodup
    rw [List.pairwise_map]
    refine List.nodup_range.imp ?_
    intro i j h e
    injection e with _ e
    injection e with e _
    omega
  refine (List.perm_ext_iff_of_nodup (SS_norm _ _).nodup nd).2 fun x => ?_
  rw [mem_norm]
  constructor
  · exact fun h => h.1
  · intro h
    refine ⟨h, ?_⟩
    unfold rowsB at h
    obtain ⟨i, _, rfl⟩ := List.mem_map.1 h
    rfl
theorem rowsA_keys (d n : Nat) : ((rowsA d n).map fun r => keyOf r [1]) = restK d n := by
  unfold rowsA restK
  rw [List.map_map]
  congr 1
theorem rowsB_keys (d n : Nat) : ((rowsB d n).map fun r => keyOf r [0]) = restK d n := by
  unfold rowsB restK
  rw [List.map_map]
  congr 1
theorem which_perm {KS KT : List Row} (h : KS.Perm KT) (k : Row) : (which KS k).length = (which KT k).length := by
  unfold which
  rw [whichFrom_length, whichFrom_length]
  exact h.countP_eq _
/-- How many pairs there are. -/
theorem many_count {d : Nat} (hd : 0 < d) (n m : Nat) : (prs ((rowsA d n).map fun r => keyOf r [1]) ((norm 2 (rowsB d m)).map fun r => keyOf r [0]) (rowsA d n).length).length = sumM (fun k => (n + (d - 1 - k)) / d * ((m + (d - 1 - k)) / d)) d := by
  rw [rowsA_keys, rowsA_length, ← many_pairs hd n m, prs_count, prs_count]
  refine sumM_congr n fun t ht => which_perm ?_ _
  rw [← rowsB_keys]
  exact (rowsB_norm d m).map _
theorem sum_le (f : Nat → Nat) (c : Nat) : ∀ d, (∀ k, k < d → f k ≤ c) → sumM f d ≤ d * c
  | 0, _ => Nat.zero_le _
  | d + 1, h => by
    have := sum_le f c d (fun k hk => h k (by omega))
    have := h d (by omega)
    rw [sumM, Nat.succ_mul]
    omega
end Go.Proofs.Ytmgoefhihljggaa.Sg
