/- IndexMany: plain law. -/
import Derived.Test.YtihilledbnnniaaSgXm
import Derived.Test.YtihilledbnnniaaSgXn
namespace Go.Proofs.Ytihilledbnnniaa.Sg
open Go.RowKit Go.Shelf
set_option linter.unusedVariables false
set_option linter.unusedSimpArgs false

def val (m s i : Nat) : Nat := i % m * s * 1048576
def manyRows (m s n : Nat) : List Row := (List.range n).map fun i : Nat => ([(i : Int), (val m s i : Int)] : Row)
theorem many_succ (m s n : Nat) : manyRows m s (n + 1) = manyRows m s n ++ [[(n : Int), (val m s n : Int)]] := by
  unfold manyRows
  rw [List.range_succ, List.map_append]; rfl
theorem many_norm (m s n : Nat) : norm 2 (manyRows m s n) = manyRows m s n := by
  symm
  refine norm_eq ?_ (fun x => ?_)
  · unfold manyRows
    rw [SS, List.pairwise_map]
    refine List.Pairwise.imp ?_ List.pairwise_lt_range
    intro i j h
    show rowCmp _ _ < 0
    rw [rowCmp, if_pos (by omega)]; omega
  · constructor
    · intro h
      refine ⟨h, ?_⟩
      unfold manyRows at h
      obtain ⟨i, _, rfl⟩ := List.mem_map.1 h
      rfl
    · exact fun h => h.1
def manyKeys (m s n : Nat) : List Row := (List.range n).map fun i : Nat => ([(val m s i : Int)] : Row)
theorem many_keys (m s n : Nat) : ((manyRows m s n).map fun r => keyOf r [1]) = manyKeys m s n := by
  unfold manyRows manyKeys
  rw [List.map_map]
  congr 1
theorem val_inj {m s i j : Nat} (hs : 0 < s) : ([(val m s i : Int)] : Row) = [(val m s j : Int)] ↔ i % m = j % m := by
  constructor
  · intro h
    have h1 : (val m s i : Int) = (val m s j : Int) := by injection h
    have h2 : val m s i = val m s j := by omega
    unfold val at h2
    have h3 : i % m * s = j % m * s := Nat.eq_of_mul_eq_mul_right (by omega) h2
    exact Nat.eq_of_mul_eq_mul_right hs h3
  · intro h; unfold val; rw [h]
theorem manyKeys_succ (m s n : Nat) : manyKeys m s (n + 1) = manyKeys m s n ++ [[(val m s n : Int)]] := by
  unfold manyKeys
  rw [List.range_succ, List.map_append]; rfl
theorem manyKeys_mem {m s n i : Nat} (hs : 0 < s) : ([(val m s i : Int)] : Row) ∈ manyKeys m s n ↔ ∃ j, j < n ∧ j % m = i % m := by
  unfold manyKeys
  rw [List.mem_map]
  constructor
  · rintro ⟨j, hj, h⟩
    exact ⟨j, List.mem_range.1 hj, (val_inj hs).1 h⟩
  · rintro ⟨j, hj, h⟩
    exact ⟨j, List.mem_range.2 hj, (val_inj hs).2 h⟩
theorem manyKeys_uniq (m s : Nat) (hm : 0 < m) (hs : 0 < s) : ∀ n, (uniq (manyKeys m s n)).length = min n m
  | 0 => by simp [manyKeys, uniq]
  | n + 1 => by
    have ih := manyKeys_uniq m s hm hs n
    rw [manyKeys_succ, uniq_snoc]
    by_cases h : m ≤ n
    · rw [if_pos ((mem_uniq _ _).2 ((manyKeys_mem hs).2 ⟨n - m, by omega, by rw [← Nat.add_mod_right (n - m) m]; congr 1; omega⟩)), ih]
      omega
    · rw [if_neg, List.length_append, ih]
      · simp; omega
      · intro hh
        obtain ⟨j, hj, he⟩ := (manyKeys_mem hs).1 ((mem_uniq _ _).1 hh)
        rw [Nat.mod_eq_of_lt (by omega), Nat.mod_eq_of_lt (by omega)] at he
        omega
theorem manyKeys_length (m s n : Nat) : (manyKeys m s n).length = n := by simp [manyKeys]
theorem manyKeys_get {m s n i : Nat} (h : i < (manyKeys m s n).length) : (manyKeys m s n)[i] = [(val m s i : Int)] := by simp [manyKeys]
theorem cntUp_beyond {KS : List Row} {k : Row} {i : Nat} (h : KS.length ≤ i) : cntUp KS k i = (which KS k).length := by
  unfold cntUp
  rw [List.take_of_length_le h, which_length]
theorem cntUp_many_no {m s n a i : Nat} (hs : 0 < s) (h : i % m ≠ a % m) : cntUp (manyKeys m s n) [(val m s a : Int)] (i + 1) = cntUp (manyKeys m s n) [(val m s a : Int)] i := by
  by_cases hi : i < (manyKeys m s n).length
  · exact cntUp_no hi (by rw [manyKeys_get hi]; exact fun e => h ((val_inj hs).1 e))
  · rw [cntUp_beyond (by omega), cntUp_beyond (by omega)]
theorem cntUp_many_run {m s n a i : Nat} (hs : 0 < s) (hi : i % m = a % m) : ∀ d, d < m → cntUp (manyKeys m s n) [(val m s a : Int)] (i + 1 + d) = cntUp (manyKeys m s n) [(val m s a : Int)] (i + 1)
  | 0, _ => rfl
  | d + 1, h => by
    rw [show i + 1 + (d + 1) = i + 1 + d + 1 from rfl, cntUp_many_no hs ?_, cntUp_many_run hs hi d (by omega)]
    rw [← hi]
    intro e
    have h1 := Nat.mod_lt i (show m > 0 by omega)
    have h2 : (i + 1 + d) % m = (i % m + (d + 1)) % m := by rw [Nat.add_assoc, Nat.add_mod, Nat.add_comm 1 d]; simp [Nat.add_mod]
    rw [h2] at e
    by_cases hl : i % m + (d + 1) < m
    · rw [Nat.mod_eq_of_lt hl] at e; omega
    · have : (i % m + (d + 1)) % m = i % m + (d + 1) - m := by
        rw [Nat.mod_eq_sub_mod (by omega), Nat.mod_eq_of_lt (by omega)]
      omega
/-- From one row of a key to its next. -/
theorem many_next {m s n a i : Nat} (hs : 0 < s) (hm : 0 < m) (hi : i < n) (ha : i % m = a % m) :
    cntUp (manyKeys m s n) [(val m s a : Int)] (i + m) = cntUp (manyKeys m s n) [(val m s a : Int)] i + 1 := by
  have hl : i < (manyKeys m s n).length := by rw [manyKeys_length]; exact hi
  have h1 := cntUp_yes (k := [(val m s a : Int)]) hl (by rw [manyKeys_get hl]; exact (val_inj hs).2 ha)
  have h2 := cntUp_many_run (n := n) hs ha (m - 1) (by omega)
  rw [show i + 1 + (m - 1) = i + m from by omega] at h2
  rw [h2, h1]
theorem many_first {m s n a : Nat} (hs : 0 < s) (hm : 0 < m) : ∀ i, i ≤ a % m → cntUp (manyKeys m s n) [(val m s a : Int)] i = 0
  | 0, _ => by unfold cntUp; rfl
  | i + 1, h => by
    have h1 := Nat.mod_lt a hm
    rw [cntUp_many_no hs (by rw [Nat.mod_eq_of_lt (by omega)]; omega), many_first hs hm i (by omega)]
theorem many_none (m s n : Nat) : which (manyKeys m s n) [-1] = [] := by
  rw [which_nil]
  intro h
  unfold manyKeys at h
  obtain ⟨i, _, he⟩ := List.mem_map.1 h
  have : (val m s i : Int) = -1 := by injection he
  omega
end Go.Proofs.Ytihilledbnnniaa.Sg
