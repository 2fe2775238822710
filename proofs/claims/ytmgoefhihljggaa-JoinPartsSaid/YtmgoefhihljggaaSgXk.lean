/- The head of the laws of layer 7. -/
import Derived.Test.YtmgoefhihljggaaSgXj
import Derived.Test.YtmgoefhihljggaaSgK
namespace Go.Proofs.Ytmgoefhihljggaa.Sg
open Go.RowKit Go.Shelf
set_option linter.unusedVariables false
set_option linter.unusedSimpArgs false

theorem RowAt.newT (w : World) (r : Row) (e : Nat) (hl : r.length < 1000) (hi : ∀ x ∈ r, In64 x) : RowAt (w.alloc (.cells (r.map (Value.int .i64)).toArray e)) (w.heap.size ≤ ·) (.slice (some ⟨w.heap.size, 0, none⟩) r.length r.length) r :=
  RowAt.lit (heap_alloc_new w _) rfl (Nat.le_refl _) hl hi

end Go.Proofs.Ytmgoefhihljggaa.Sg
