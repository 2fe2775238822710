/- IndexBare: by no place all rows are alike; of no rows nothing is found. -/
import Derived.Test.YtmgoefhihljggaaSgXk
import Derived.Test.YtmgoefhihljggaaSgL
namespace Go.Proofs.Ytmgoefhihljggaa.Sg
open Go.RowKit Go.Shelf
set_option linter.unusedVariables false
set_option linter.unusedSimpArgs false

theorem whichFrom_same (k : Row) (n a : Nat) : (whichFrom a (List.replicate n k) k).length = n ∧ ∀ j (h : j < (whichFrom a (List.replicate n k) k).length), (whichFrom a (List.replicate n k) k)[j] = ((a + j : Nat) : Int) := by
  induction n generalizing a with
  | zero => exact ⟨rfl, fun j h => by simp [whichFrom] at h⟩
  | succ n ih =>
    obtain ⟨h1, h2⟩ := ih (a + 1)
    simp only [List.replicate_succ, whichFrom, if_pos]
    refine ⟨by simp [h1], fun j h => ?_⟩
    cases j with
    | zero => simp
    | succ j =>
      rw [List.getElem_cons_succ, h2 j (by simpa using h)]
      congr 1; omega
theorem bare_keys (L : List Row) : (L.map fun r => keyOf r []) = List.replicate L.length [] := by
  induction L with
  | nil => rfl
  | cons a L ih => rw [List.map_cons, ih]; rfl

end Go.Proofs.Ytmgoefhihljggaa.Sg
