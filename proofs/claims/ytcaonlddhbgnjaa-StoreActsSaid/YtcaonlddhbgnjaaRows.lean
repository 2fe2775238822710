/-
  No cell of these rows narrows 'for every input' (looked for: loops, veiled, ifaces, maps, wideKeys, modest, calm, conditions, laid).
  DERIVED. THE GIVEN ROWS OF THIS SEAT. 6 by the template 'for every input the law returns true; each argument reads behind the call as it read before'; 0 by the template 'total and deterministic' (their statements: YtcaonlddhbgnjaaTotals.lean).
  GIVEN WITH THE SEED: the statements are not yours to turn. If you find one false, say at which input.
  Laid BY PROGRAM, IN A SANDBOX (cutbox-rows.mjs): the forced cells as the released guide's own fill.sh prints them over the translation d1fc9ee0bc29ee14… (all of the seat's roots in one cut). By AI agents, Wed Nov 11 2026. No macro, syntax, notation, axiom, sorry.
-/
import Derived.Test.YtcaonlddhbgnjaaChecked
import GoSem.Claim
import GoSem.ClaimJoined
import GoSem.ClaimMapViews
import Derived.JoinedTies
import Derived.KernelRfl
namespace Go.Proofs.Ytcaonlddhbgnjaa
/- THE CELL 'sum', in the pinned program and in every row, IS THE sha256 OF THE DUMP (.gsa) THAT YtcaonlddhbgnjaaProg.lean LOADS. Nothing in Lean hashes anything: it is a label: what it is worth is what the hold of that sum in a sandbox is worth. -/
noncomputable def Try.pinned : Pinned := { name := "ytcaonlddhbgnjaa", sum := "d1fc9ee0bc29ee147ceb26383dd1eed75405c6f45d64553b9270552060b6257c", checked := Try.checked }
namespace Rows
def none {H : Type} : Left H := { results := [], args := [] }

/-- 'ergolaw06.MergeHeap': WHATEVER THE INPUT: true; the input reads as it did. -/
def mergeHeapSpec : ChangeSpec := { name := "mergeHeap", fn := fun _ => fun
  | [d] => { results := [.lit (.bool true)], args := [d] }
  | _ => none }
def mergeHeapRow : OpenClaim := { program := "ytcaonlddhbgnjaa", sum := "d1fc9ee0bc29ee147ceb26383dd1eed75405c6f45d64553b9270552060b6257c", func := "ergo/ergolaw06.MergeHeap", spec := "mergeHeap", unfollowed := true, recurses := true, apart := false }
def MergeHeapSaid : Prop := mergeHeapRow.holds Try.pinned (OpenSpec.ofChange mergeHeapSpec)

/-- ITS FALSE NEIGHBOUR: 'it returns false'. Refute it at one input. -/
def mergeHeapWrong : ChangeSpec := { name := "mergeHeap", fn := fun _ => fun
  | [d] => { results := [.lit (.bool false)], args := [d] }
  | _ => none }
def MergeHeapWrongFalsely : Prop := mergeHeapRow.holds Try.pinned (OpenSpec.ofChange mergeHeapWrong)

/-- 'ergolaw06.MergeRows': WHATEVER THE INPUT: true; the input reads as it did. -/
def mergeRowsSpec : ChangeSpec := { name := "mergeRows", fn := fun _ => fun
  | [d1, d2, d3] => { results := [.lit (.bool true)], args := [d1, d2, d3] }
  | _ => none }
def mergeRowsRow : OpenClaim := { program := "ytcaonlddhbgnjaa", sum := "d1fc9ee0bc29ee147ceb26383dd1eed75405c6f45d64553b9270552060b6257c", func := "ergo/ergolaw06.MergeRows", spec := "mergeRows", unfollowed := true, recurses := true, apart := false }
def MergeRowsSaid : Prop := mergeRowsRow.holds Try.pinned (OpenSpec.ofChange mergeRowsSpec)

/-- ITS FALSE NEIGHBOUR: 'it returns false'. Refute it at one input. -/
def mergeRowsWrong : ChangeSpec := { name := "mergeRows", fn := fun _ => fun
  | [d1, d2, d3] => { results := [.lit (.bool false)], args := [d1, d2, d3] }
  | _ => none }
def MergeRowsWrongFalsely : Prop := mergeRowsRow.holds Try.pinned (OpenSpec.ofChange mergeRowsWrong)

/-- 'ergolaw11.StoreRuns': WHATEVER THE INPUT: true; the input reads as it did. -/
def storeRunsSpec : ChangeSpec := { name := "storeRuns", fn := fun _ => fun
  | [d1, d2, d3, d4] => { results := [.lit (.bool true)], args := [d1, d2, d3, d4] }
  | _ => none }
def storeRunsRow : OpenClaim := { program := "ytcaonlddhbgnjaa", sum := "d1fc9ee0bc29ee147ceb26383dd1eed75405c6f45d64553b9270552060b6257c", func := "ergo/ergolaw11.StoreRuns", spec := "storeRuns", unfollowed := true, recurses := true, apart := false }
def StoreRunsSaid : Prop := storeRunsRow.holds Try.pinned (OpenSpec.ofChange storeRunsSpec)

/-- ITS FALSE NEIGHBOUR: 'it returns false'. Refute it at one input. -/
def storeRunsWrong : ChangeSpec := { name := "storeRuns", fn := fun _ => fun
  | [d1, d2, d3, d4] => { results := [.lit (.bool false)], args := [d1, d2, d3, d4] }
  | _ => none }
def StoreRunsWrongFalsely : Prop := storeRunsRow.holds Try.pinned (OpenSpec.ofChange storeRunsWrong)

/-- 'ergolaw11.StoreWidths': WHATEVER THE INPUT: true; the input reads as it did. -/
def storeWidthsSpec : ChangeSpec := { name := "storeWidths", fn := fun _ => fun
  | [d1, d2, d3] => { results := [.lit (.bool true)], args := [d1, d2, d3] }
  | _ => none }
def storeWidthsRow : OpenClaim := { program := "ytcaonlddhbgnjaa", sum := "d1fc9ee0bc29ee147ceb26383dd1eed75405c6f45d64553b9270552060b6257c", func := "ergo/ergolaw11.StoreWidths", spec := "storeWidths", unfollowed := true, recurses := true, apart := false }
def StoreWidthsSaid : Prop := storeWidthsRow.holds Try.pinned (OpenSpec.ofChange storeWidthsSpec)

/-- ITS FALSE NEIGHBOUR: 'it returns false'. Refute it at one input. -/
def storeWidthsWrong : ChangeSpec := { name := "storeWidths", fn := fun _ => fun
  | [d1, d2, d3] => { results := [.lit (.bool false)], args := [d1, d2, d3] }
  | _ => none }
def StoreWidthsWrongFalsely : Prop := storeWidthsRow.holds Try.pinned (OpenSpec.ofChange storeWidthsWrong)

/-- 'ergolaw11.StoreDeltas': WHATEVER THE INPUT: true; the input reads as it did. -/
def storeDeltasSpec : ChangeSpec := { name := "storeDeltas", fn := fun _ => fun
  | [d1, d2, d3] => { results := [.lit (.bool true)], args := [d1, d2, d3] }
  | _ => none }
def storeDeltasRow : OpenClaim := { program := "ytcaonlddhbgnjaa", sum := "d1fc9ee0bc29ee147ceb26383dd1eed75405c6f45d64553b9270552060b6257c", func := "ergo/ergolaw11.StoreDeltas", spec := "storeDeltas", unfollowed := true, recurses := true, apart := false }
def StoreDeltasSaid : Prop := storeDeltasRow.holds Try.pinned (OpenSpec.ofChange storeDeltasSpec)

/-- ITS FALSE NEIGHBOUR: 'it returns false'. Refute it at one input. -/
def storeDeltasWrong : ChangeSpec := { name := "storeDeltas", fn := fun _ => fun
  | [d1, d2, d3] => { results := [.lit (.bool false)], args := [d1, d2, d3] }
  | _ => none }
def StoreDeltasWrongFalsely : Prop := storeDeltasRow.holds Try.pinned (OpenSpec.ofChange storeDeltasWrong)

/-- 'ergolaw11.StoreActs': WHATEVER THE INPUT: true; the input reads as it did. -/
def storeActsSpec : ChangeSpec := { name := "storeActs", fn := fun _ => fun
  | [d1, d2, d3, d4] => { results := [.lit (.bool true)], args := [d1, d2, d3, d4] }
  | _ => none }
def storeActsRow : OpenClaim := { program := "ytcaonlddhbgnjaa", sum := "d1fc9ee0bc29ee147ceb26383dd1eed75405c6f45d64553b9270552060b6257c", func := "ergo/ergolaw11.StoreActs", spec := "storeActs", unfollowed := true, recurses := true, apart := false }
def StoreActsSaid : Prop := storeActsRow.holds Try.pinned (OpenSpec.ofChange storeActsSpec)

/-- ITS FALSE NEIGHBOUR: 'it returns false'. Refute it at one input. -/
def storeActsWrong : ChangeSpec := { name := "storeActs", fn := fun _ => fun
  | [d1, d2, d3, d4] => { results := [.lit (.bool false)], args := [d1, d2, d3, d4] }
  | _ => none }
def StoreActsWrongFalsely : Prop := storeActsRow.holds Try.pinned (OpenSpec.ofChange storeActsWrong)

/- THE SECOND FORM. 'bulk': how many values and letters a reading holds, each counted each time it is reached (what is shared counts as often as it is met; a slice's spare places count too). A statement '..UptoSaid' is the law's where the arguments, and the package variables that the reading takes, are together of bulk at most 1048576: NARROWER than '..Said'. Prove '..Said' where nothing that the law and all that it calls make is longer than what came in: it says more and counts as full. Else prove '..UptoSaid'. A law counts once. -/
mutual
def uptoBulk {H : Type} : DataW H → Nat
  | .lit (.string bytes) => bytes.length + 1
  | .lit _ => 1
  | .nil => 1
  | .ptr d => uptoBulk d + 1
  | .slice elems spare => uptoBulkAll elems + uptoBulkAll spare + 1
  | .agg parts => uptoBulkAll parts + 1
  | .iface _ d => uptoBulk d + 1
  | .map entries => uptoBulkEntries entries + 1
  | .held _ => 1
def uptoBulkAll {H : Type} : List (DataW H) → Nat
  | [] => 0
  | d :: r => uptoBulk d + uptoBulkAll r
def uptoBulkEntries {H : Type} : List (Lit × DataW H) → Nat
  | [] => 0
  | x :: r => uptoBulkEntry x + uptoBulkEntries r
def uptoBulkEntry {H : Type} : Lit × DataW H → Nat
  | (.string bytes, d) => bytes.length + uptoBulk d + 1
  | (_, d) => uptoBulk d + 1
 end
def uptoSmall : (H : Type) → List (DataW H) → Bool := fun _ ds => decide (uptoBulkAll ds ≤ 1048576)
def OpenSpec.upto (s : _root_.Go.ChangeSpec) : _root_.Go.OpenSpec := { _root_.Go.OpenSpec.ofChange s with cond := some uptoSmall }

/-- 'ergolaw06.MergeHeap', WHERE WHAT IT READS IS OF BULK AT MOST 1048576: true; the input reads as it did. -/
def mergeHeapUptoRow : OpenClaim := { program := "ytcaonlddhbgnjaa", sum := "d1fc9ee0bc29ee147ceb26383dd1eed75405c6f45d64553b9270552060b6257c", func := "ergo/ergolaw06.MergeHeap", spec := "mergeHeap", unfollowed := true, recurses := true, apart := false, narrowed := true }
def MergeHeapUptoSaid : Prop := mergeHeapUptoRow.holds Try.pinned (OpenSpec.upto mergeHeapSpec)

/-- 'ergolaw06.MergeRows', WHERE WHAT IT READS IS OF BULK AT MOST 1048576: true; the input reads as it did. -/
def mergeRowsUptoRow : OpenClaim := { program := "ytcaonlddhbgnjaa", sum := "d1fc9ee0bc29ee147ceb26383dd1eed75405c6f45d64553b9270552060b6257c", func := "ergo/ergolaw06.MergeRows", spec := "mergeRows", unfollowed := true, recurses := true, apart := false, narrowed := true }
def MergeRowsUptoSaid : Prop := mergeRowsUptoRow.holds Try.pinned (OpenSpec.upto mergeRowsSpec)

/-- 'ergolaw11.StoreRuns', WHERE WHAT IT READS IS OF BULK AT MOST 1048576: true; the input reads as it did. -/
def storeRunsUptoRow : OpenClaim := { program := "ytcaonlddhbgnjaa", sum := "d1fc9ee0bc29ee147ceb26383dd1eed75405c6f45d64553b9270552060b6257c", func := "ergo/ergolaw11.StoreRuns", spec := "storeRuns", unfollowed := true, recurses := true, apart := false, narrowed := true }
def StoreRunsUptoSaid : Prop := storeRunsUptoRow.holds Try.pinned (OpenSpec.upto storeRunsSpec)

/-- 'ergolaw11.StoreWidths', WHERE WHAT IT READS IS OF BULK AT MOST 1048576: true; the input reads as it did. -/
def storeWidthsUptoRow : OpenClaim := { program := "ytcaonlddhbgnjaa", sum := "d1fc9ee0bc29ee147ceb26383dd1eed75405c6f45d64553b9270552060b6257c", func := "ergo/ergolaw11.StoreWidths", spec := "storeWidths", unfollowed := true, recurses := true, apart := false, narrowed := true }
def StoreWidthsUptoSaid : Prop := storeWidthsUptoRow.holds Try.pinned (OpenSpec.upto storeWidthsSpec)

/-- 'ergolaw11.StoreDeltas', WHERE WHAT IT READS IS OF BULK AT MOST 1048576: true; the input reads as it did. -/
def storeDeltasUptoRow : OpenClaim := { program := "ytcaonlddhbgnjaa", sum := "d1fc9ee0bc29ee147ceb26383dd1eed75405c6f45d64553b9270552060b6257c", func := "ergo/ergolaw11.StoreDeltas", spec := "storeDeltas", unfollowed := true, recurses := true, apart := false, narrowed := true }
def StoreDeltasUptoSaid : Prop := storeDeltasUptoRow.holds Try.pinned (OpenSpec.upto storeDeltasSpec)

/-- 'ergolaw11.StoreActs', WHERE WHAT IT READS IS OF BULK AT MOST 1048576: true; the input reads as it did. -/
def storeActsUptoRow : OpenClaim := { program := "ytcaonlddhbgnjaa", sum := "d1fc9ee0bc29ee147ceb26383dd1eed75405c6f45d64553b9270552060b6257c", func := "ergo/ergolaw11.StoreActs", spec := "storeActs", unfollowed := true, recurses := true, apart := false, narrowed := true }
def StoreActsUptoSaid : Prop := storeActsUptoRow.holds Try.pinned (OpenSpec.upto storeActsSpec)

end Rows
end Go.Proofs.Ytcaonlddhbgnjaa
