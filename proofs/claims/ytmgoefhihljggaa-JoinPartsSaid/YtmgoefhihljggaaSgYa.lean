/- Contract: join.Semi. -/
import Derived.Test.YtmgoefhihljggaaSgXi
namespace Go.Proofs.Ytmgoefhihljggaa.Sg
open Go.RowKit Go.Shelf
set_option linter.unusedVariables false
set_option linter.unusedSimpArgs false

/-- The rows that have a partner, or those that have none. -/
def semi (KA KB : List Row) (has : Bool) (i : Nat) : List Int := ((List.range i).filter fun t => decide (KA.getD t [] ∈ KB) == has).map fun t : Nat => (t : Int)
theorem semi_yes {KA KB : List Row} {has : Bool} {i : Nat} (h : decide (KA.getD i [] ∈ KB) = has) : semi KA KB has (i + 1) = semi KA KB has i ++ [(i : Int)] := by
  unfold semi
  rw [List.range_succ, List.filter_append, List.map_append]
  have e : List.filter (fun t => decide (KA.getD t [] ∈ KB) == has) [i] = [i] := by rw [List.filter_cons, if_pos (by rw [h]; simp)]; rfl
  rw [e]; rfl
theorem semi_no {KA KB : List Row} {has : Bool} {i : Nat} (h : decide (KA.getD i [] ∈ KB) ≠ has) : semi KA KB has (i + 1) = semi KA KB has i := by
  unfold semi
  rw [List.range_succ, List.filter_append, List.map_append]
  have e : List.filter (fun t => decide (KA.getD t [] ∈ KB) == has) [i] = [] := by rw [List.filter_cons, if_neg (by simpa using h)]; rfl
  rw [e]; simp
theorem semi_length (KA KB : List Row) (has : Bool) (i : Nat) : (semi KA KB has i).length ≤ i := by
  unfold semi
  rw [List.length_map]
  have := List.length_filter_le (fun t => decide (KA.getD t [] ∈ KB) == has) (List.range i)
  simpa using this
theorem semi_mem {KA KB : List Row} {has : Bool} {i : Nat} {x : Int} (h : x ∈ semi KA KB has i) : 0 ≤ x ∧ x < i := by
  unfold semi at h
  obtain ⟨t, ht, rfl⟩ := List.mem_map.1 h
  have := List.mem_range.1 (List.mem_filter.1 ht).1
  omega

end Go.Proofs.Ytmgoefhihljggaa.Sg
