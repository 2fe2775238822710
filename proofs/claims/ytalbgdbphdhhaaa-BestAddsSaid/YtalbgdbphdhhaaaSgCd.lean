/- BestPuts: any keys and costs: each key has the best cost. The walk. -/
import Derived.Test.YtalbgdbphdhhaaaSgCc
import Derived.Test.YtalbgdbphdhhaaaSgZm
import Derived.Test.YtalbgdbphdhhaaaSgN
import Derived.Test.YtalbgdbphdhhaaaSgM
import Derived.Test.YtalbgdbphdhhaaaSgL
import Derived.Test.YtalbgdbphdhhaaaSgOp
namespace Go.Proofs.Ytalbgdbphdhhaaa.Sg
open Go.RowKit Go.Shelf
set_option linter.unusedVariables false
set_option linter.unusedSimpArgs false

/-- Best, and the page's rows beside it. -/
structure Bp (w : World) (B g : Nat) (F : Nat → Prop) (W : Nat) (great : Bool) (R Q : List Row) (qv : Value) : Prop where
  best : BestS w B g F W great R
  rows : RowsAt w (fun b => ¬ F b) qv Q
  perm : Q.Perm R
theorem Bp.good {w : World} {B g W : Nat} {F : Nat → Prop} {great : Bool} {R Q : List Row} {qv : Value} (h : Bp w B g F W great R Q qv) : GoodB W Q := h.best.good.1.perm h.perm
theorem Bp.below {w w' : World} {B g W : Nat} {F : Nat → Prop} {great : Bool} {R Q : List Row} {qv : Value} (h : Bp w B g F W great R Q qv) (hb : Below w.heap.size w w') : Bp w' B g F W great R Q qv := ⟨h.best.below hb, h.rows.below reads_row hb, h.perm⟩
theorem Bp.fresh {w : World} {B g W : Nat} {F : Nat → Prop} {great : Bool} {R Q : List Row} {qv : Value} (h : Bp w B g F W great R Q qv) {b : Nat} (hb : w.heap.size ≤ b) : ¬ F b := fun hf => by have := h.best.2 b hf; omega
/-- Behind a Put of Best: rows beside it stay beside it. -/
theorem rows_put {w w' : World} {F : Nat → Prop} {α : Type} {E : World → (Nat → Prop) → Value → α → Prop} (H : Reads E) {x : α} {v : Value} (hx : E w (fun b => ¬ F b) v x) {F2 : Nat → Prop} (h1 : ∀ b, F2 b → F b ∨ w.heap.size ≤ b) (hk : Keeps (fun b => ¬ F b) w w') : E w' (fun b => ¬ F2 b) v x :=
  H.mono (H.stays (H.mono (ok2 := fun b => ¬ F b ∧ b < w.heap.size) hx (fun b hb hl => ⟨hb, hl⟩)) (hk.stays.mono (fun b hb _ => hb.1))) (fun b hb _ h2 => (h1 b h2).elim hb.1 (fun h3 => by have := hb.2; omega))
abbrev PutsAt := SlP RowAt IntAt
theorem reads_puts : Reads PutsAt := reads_slP reads_row reads_int
theorem placeB {W : Nat} {Q : List Row} {key : Row} (h : GoodB W Q) (hk : key.length = W) : placeI Q key = match idxB W Q key with | some i => (i : Int) | none => -1 := by
  unfold placeI; rw [idxP_idxB (fun r hr => (h.row r hr).1) hk]; cases idxB W Q key <;> rfl
theorem putX_eq {W : Nat} {great : Bool} {R : List Row} {key : Row} {cost : Int} (hk : key.length = W) : putX W great R key cost = putB W great R key cost := if_pos hk
theorem putX_no {W : Nat} {great : Bool} {R : List Row} {key : Row} {cost : Int} (hk : key.length ≠ W) : putX W great R key cost = (R, false) := if_neg hk
theorem norm_perm {n : Nat} {Q R : List Row} (p : Q.Perm R) : norm n Q = norm n R := SS.ext (SS_norm _ _) (SS_norm _ _) fun r => by rw [mem_norm, mem_norm, p.mem_iff]
end Go.Proofs.Ytalbgdbphdhhaaa.Sg
