/- JoinSemis: the rows that have a partner, and those that have none: plain. -/
import Derived.Test.YtihilledbnnniaaSgYb
import Derived.Test.YtihilledbnnniaaSgYa
namespace Go.Proofs.Ytihilledbnnniaa.Sg
open Go.RowKit Go.Shelf
set_option linter.unusedVariables false
set_option linter.unusedSimpArgs false

def ddS (acc : List Int) (p : Int × Int) : List Int := if acc.getLast? = some p.1 then acc else acc ++ [p.1]
def dd (l : List (Int × Int)) : List Int := l.foldl ddS []
theorem dd_snoc (l : List (Int × Int)) (p : Int × Int) : dd (l ++ [p]) = ddS (dd l) p := by unfold dd; rw [List.foldl_append]; rfl
theorem dd_same (i : Int) : ∀ (xs acc : List Int), acc.getLast? = some i → (xs.map fun x => (i, x)).foldl ddS acc = acc
  | [], acc, _ => rfl
  | x :: xs, acc, h => by
    rw [List.map_cons, List.foldl_cons]
    have : ddS acc (i, x) = acc := if_pos h
    rw [this]
    exact dd_same i xs acc h
theorem dd_run (i : Int) (xs acc : List Int) (h : acc.getLast? ≠ some i) : (xs.map fun x => (i, x)).foldl ddS acc = if xs = [] then acc else acc ++ [i] := by
  cases xs with
  | nil => rfl
  | cons x xs =>
    rw [List.map_cons, List.foldl_cons, if_neg (by simp)]
    have : ddS acc (i, x) = acc ++ [i] := if_neg h
    rw [this]
    exact dd_same i xs _ (by simp)
theorem dd_prs (KA KB : List Row) (i : Nat) : dd (prs KA KB i) = semi KA KB true i := by
  induction i with
  | zero => rfl
  | succ i ih =>
    rw [prs_succ]
    unfold dd at ih ⊢
    rw [List.foldl_append, ih]
    have hn : (semi KA KB true i).getLast? ≠ some (i : Int) := fun h => by
      have := semi_mem (List.mem_of_getLast? h)
      omega
    have h1 := dd_run (i : Int) (which KB (KA.getD i [])) (semi KA KB true i) hn
    rw [show pairsIn KB (KA.getD i []) i = (which KB (KA.getD i [])).map (fun x => ((i : Int), x)) from rfl, h1]
    by_cases hm : KA.getD i [] ∈ KB
    · rw [if_neg (fun h => ((which_nil _ _).1 h) hm), semi_yes (by simpa using hm)]
    · rw [if_pos ((which_nil _ _).2 hm), semi_no (by simpa using hm)]
theorem semi_prefix (KA KB : List Row) (has : Bool) (k : Nat) : ∀ d, ∃ t, semi KA KB has (k + d) = semi KA KB has k ++ t
  | 0 => ⟨[], by simp⟩
  | d + 1 => by
    obtain ⟨t, ht⟩ := semi_prefix KA KB has k d
    by_cases h : decide (KA.getD (k + d) [] ∈ KB) = has
    · exact ⟨t ++ [((k + d : Nat) : Int)], by rw [← Nat.add_assoc, semi_yes h, ht, List.append_assoc]⟩
    · exact ⟨t, by rw [← Nat.add_assoc, semi_no h, ht]⟩
theorem semi_at {KA KB : List Row} {has : Bool} {k n : Nat} (h : k < n) (ht : decide (KA.getD k [] ∈ KB) = has) : (semi KA KB has n)[(semi KA KB has k).length]? = some (k : Int) := by
  obtain ⟨t, h1⟩ := semi_prefix KA KB has (k + 1) (n - (k + 1))
  rw [show k + 1 + (n - (k + 1)) = n from by omega] at h1
  rw [h1, semi_yes ht]
  simp
theorem semi_is {KA KB : List Row} {has : Bool} {n t : Nat} (h : (t : Int) ∈ semi KA KB has n) : decide (KA.getD t [] ∈ KB) = has := by
  unfold semi at h
  obtain ⟨q, hq, e⟩ := List.mem_map.1 h
  have := (List.mem_filter.1 hq).2
  have e2 : q = t := by omega
  subst e2
  simpa using this
theorem semi_not {KA KB : List Row} {has : Bool} {n t j : Nat} (ht : decide (KA.getD t [] ∈ KB) ≠ has) : (semi KA KB has n)[j]? ≠ some (t : Int) := fun h => ht (semi_is (List.mem_of_getElem? h))
theorem semi_both (KA KB : List Row) (i : Nat) : (semi KA KB true i).length + (semi KA KB false i).length = i := by
  induction i with
  | zero => rfl
  | succ i ih =>
    by_cases hm : KA.getD i [] ∈ KB
    · rw [semi_yes (has := true) (by simpa using hm), semi_no (has := false) (by simpa using hm), List.length_append]; simp; omega
    · rw [semi_no (has := true) (by simpa using hm), semi_yes (has := false) (by simpa using hm), List.length_append]; simp; omega
theorem dd_le (l : List (Int × Int)) : (dd l).length ≤ l.length := by
  have key : ∀ (l : List (Int × Int)) (acc : List Int), (l.foldl ddS acc).length ≤ acc.length + l.length := by
    intro l
    induction l with
    | nil => intro acc; simp
    | cons p l ih =>
      intro acc
      rw [List.foldl_cons]
      have h1 := ih (ddS acc p)
      have h2 : (ddS acc p).length ≤ acc.length + 1 := by unfold ddS; split <;> simp
      simp only [List.length_cons]; omega
  have := key l []
  simpa [dd] using this
end Go.Proofs.Ytihilledbnnniaa.Sg
