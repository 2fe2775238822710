/- Contract: the laws' own probe: are the rows that have some numbers just those that are found? -/
import Derived.Test.YtmgoefhihljggaaSgXl
namespace Go.Proofs.Ytmgoefhihljggaa.Sg
open Go.RowKit Go.Shelf
set_option linter.unusedVariables false
set_option linter.unusedSimpArgs false

def cntUp (KS : List Row) (k : Row) (i : Nat) : Nat := (KS.take i).countP fun q => decide (q = k)
theorem cntUp_yes {KS : List Row} {k : Row} {i : Nat} (h : i < KS.length) (e : KS[i] = k) : cntUp KS k (i + 1) = cntUp KS k i + 1 := by
  unfold cntUp
  rw [List.take_succ_eq_append_getElem h, List.countP_append, e]
  simp
theorem cntUp_no {KS : List Row} {k : Row} {i : Nat} (h : i < KS.length) (e : KS[i] ≠ k) : cntUp KS k (i + 1) = cntUp KS k i := by
  unfold cntUp
  rw [List.take_succ_eq_append_getElem h, List.countP_append]
  simp [e]
theorem cntUp_get {KS : List Row} {k : Row} {i : Nat} (h : i < KS.length) (e : KS[i] = k) : ∃ hl : cntUp KS k i < (which KS k).length, (which KS k)[cntUp KS k i] = (i : Int) := by
  have := which_get KS k i (by rw [List.getElem?_eq_getElem h, e])
  exact List.getElem?_eq_some_iff.1 this

end Go.Proofs.Ytmgoefhihljggaa.Sg
