/- MergeRows: the walk, by its name. -/
import Derived.Test.YtcaonlddhbgnjaaSgMe
namespace Go.Proofs.Ytcaonlddhbgnjaa.Sg
open Go.RowKit
theorem MergeRows_walk (x : Int) (lv : Value) (Ls : List (List Row)) (st : Int) (w : World) (hx : In64 x) (hl : SetsAt w (fun _ => True) lv Ls) (hst : In64 st) :
    Calls Try.prog 4 #[.int .i64 x, lv, .int .i64 st] w fun e w' => e = .returned (.bool true) ∧ Below w.heap.size w w' := Go.Proofs.Ytcaonlddhbgnjaa.Mg.MergeRows_walk0 x lv Ls st w hx hl hst
end Go.Proofs.Ytcaonlddhbgnjaa.Sg
