/- Contract: the aggregate of a word. -/
import Derived.Test.YtihilledbnnniaaSgZa
namespace Go.Proofs.Ytihilledbnnniaa.Sg
open Go.RowKit Go.Shelf
set_option linter.unusedVariables false
set_option linter.unusedSimpArgs false

def ofWord (s : ByteArray) : Nat := if wordOf 1 = s then 1 else if wordOf 2 = s then 2 else if wordOf 3 = s then 3 else if wordOf 4 = s then 4 else 0
theorem ofWord_yes {s : ByteArray} {k : Nat} (h1 : 1 ≤ k) (h4 : k ≤ 4) (hn : ∀ j : Nat, 1 ≤ j → j < k → wordOf j ≠ s) (h : wordOf k = s) : ofWord s = k := by
  have hc : k = 1 ∨ k = 2 ∨ k = 3 ∨ k = 4 := by omega
  unfold ofWord
  rcases hc with rfl | rfl | rfl | rfl
  · rw [if_pos (by simpa using h)]
  · rw [if_neg (by simpa using hn 1 (by omega) (by omega)), if_pos (by simpa using h)]
  · rw [if_neg (by simpa using hn 1 (by omega) (by omega)), if_neg (by simpa using hn 2 (by omega) (by omega)), if_pos (by simpa using h)]
  · rw [if_neg (by simpa using hn 1 (by omega) (by omega)), if_neg (by simpa using hn 2 (by omega) (by omega)), if_neg (by simpa using hn 3 (by omega) (by omega)), if_pos (by simpa using h)]
theorem ofWord_no {s : ByteArray} (hn : ∀ j : Nat, 1 ≤ j → j < 5 → wordOf j ≠ s) : ofWord s = 0 := by
  unfold ofWord
  rw [if_neg (by simpa using hn 1 (by omega) (by omega)), if_neg (by simpa using hn 2 (by omega) (by omega)), if_neg (by simpa using hn 3 (by omega) (by omega)), if_neg (by simpa using hn 4 (by omega) (by omega))]
theorem str_ne {a b : ByteArray} (h : a ≠ b) : (a.toList == b.toList) = false := by
  rw [ByteArray.toList_eq, ByteArray.toList_eq, beq_eq_false_iff_ne]
  exact fun e => h (ByteArray.ext (Array.toList_inj.1 e))
end Go.Proofs.Ytihilledbnnniaa.Sg
