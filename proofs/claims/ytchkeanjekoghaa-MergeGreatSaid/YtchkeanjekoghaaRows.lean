/-
  No cell of these rows narrows 'for every input' (looked for: loops, veiled, ifaces, maps, wideKeys, modest, calm, conditions, laid).
  DERIVED. THE GIVEN ROWS OF THIS SEAT. 3 by the template 'for every input the law returns true; each argument reads behind the call as it read before'; 0 by the template 'total and deterministic' (their statements: YtchkeanjekoghaaTotals.lean).
  GIVEN WITH THE SEED: the statements are not yours to turn. If you find one false, say at which input.
  Laid BY PROGRAM, IN A SANDBOX (cutbox-rows.mjs): the forced cells as the released guide's own fill.sh prints them over the translation 0d23b26d62494b20… (all of the seat's roots in one cut). By AI agents, Wed Nov 11 2026. No macro, syntax, notation, axiom, sorry.
-/
import Derived.Test.YtchkeanjekoghaaChecked
import GoSem.Claim
import GoSem.ClaimJoined
import GoSem.ClaimMapViews
import Derived.JoinedTies
import Derived.KernelRfl
namespace Go.Proofs.Ytchkeanjekoghaa
/- THE CELL 'sum', in the pinned program and in every row, IS THE sha256 OF THE DUMP (.gsa) THAT YtchkeanjekoghaaProg.lean LOADS. Nothing in Lean hashes anything: it is a label: what it is worth is what the hold of that sum in a sandbox is worth. -/
noncomputable def Try.pinned : Pinned := { name := "ytchkeanjekoghaa", sum := "0d23b26d62494b2013a600cea8bf23f132d57f7e3a8fdd34468f8d4c3a056af5", checked := Try.checked }
namespace Rows
def none {H : Type} : Left H := { results := [], args := [] }

/-- 'ergolaw06.MergeHeap': WHATEVER THE INPUT: true; the input reads as it did. -/
def mergeHeapSpec : ChangeSpec := { name := "mergeHeap", fn := fun _ => fun
  | [d] => { results := [.lit (.bool true)], args := [d] }
  | _ => none }
def mergeHeapRow : OpenClaim := { program := "ytchkeanjekoghaa", sum := "0d23b26d62494b2013a600cea8bf23f132d57f7e3a8fdd34468f8d4c3a056af5", func := "ergo/ergolaw06.MergeHeap", spec := "mergeHeap", unfollowed := true, recurses := true, apart := false }
def MergeHeapSaid : Prop := mergeHeapRow.holds Try.pinned (OpenSpec.ofChange mergeHeapSpec)

/-- ITS FALSE NEIGHBOUR: 'it returns false'. Refute it at one input. -/
def mergeHeapWrong : ChangeSpec := { name := "mergeHeap", fn := fun _ => fun
  | [d] => { results := [.lit (.bool false)], args := [d] }
  | _ => none }
def MergeHeapWrongFalsely : Prop := mergeHeapRow.holds Try.pinned (OpenSpec.ofChange mergeHeapWrong)

/-- 'ergolaw06.MergeSorts': WHATEVER THE INPUT: true; the input reads as it did. -/
def mergeSortsSpec : ChangeSpec := { name := "mergeSorts", fn := fun _ => fun
  | [d] => { results := [.lit (.bool true)], args := [d] }
  | _ => none }
def mergeSortsRow : OpenClaim := { program := "ytchkeanjekoghaa", sum := "0d23b26d62494b2013a600cea8bf23f132d57f7e3a8fdd34468f8d4c3a056af5", func := "ergo/ergolaw06.MergeSorts", spec := "mergeSorts", unfollowed := true, recurses := true, apart := false }
def MergeSortsSaid : Prop := mergeSortsRow.holds Try.pinned (OpenSpec.ofChange mergeSortsSpec)

/-- ITS FALSE NEIGHBOUR: 'it returns false'. Refute it at one input. -/
def mergeSortsWrong : ChangeSpec := { name := "mergeSorts", fn := fun _ => fun
  | [d] => { results := [.lit (.bool false)], args := [d] }
  | _ => none }
def MergeSortsWrongFalsely : Prop := mergeSortsRow.holds Try.pinned (OpenSpec.ofChange mergeSortsWrong)

/-- 'ergolaw06.MergeGreat': WHATEVER THE INPUT: true; the input reads as it did. -/
def mergeGreatSpec : ChangeSpec := { name := "mergeGreat", fn := fun _ => fun
  | [d] => { results := [.lit (.bool true)], args := [d] }
  | _ => none }
def mergeGreatRow : OpenClaim := { program := "ytchkeanjekoghaa", sum := "0d23b26d62494b2013a600cea8bf23f132d57f7e3a8fdd34468f8d4c3a056af5", func := "ergo/ergolaw06.MergeGreat", spec := "mergeGreat", unfollowed := true, recurses := true, apart := false }
def MergeGreatSaid : Prop := mergeGreatRow.holds Try.pinned (OpenSpec.ofChange mergeGreatSpec)

/-- ITS FALSE NEIGHBOUR: 'it returns false'. Refute it at one input. -/
def mergeGreatWrong : ChangeSpec := { name := "mergeGreat", fn := fun _ => fun
  | [d] => { results := [.lit (.bool false)], args := [d] }
  | _ => none }
def MergeGreatWrongFalsely : Prop := mergeGreatRow.holds Try.pinned (OpenSpec.ofChange mergeGreatWrong)

/- THE SECOND FORM. 'bulk': how many values and letters a reading holds, each counted each time it is reached (what is shared counts as often as it is met; a slice's spare places count too). A statement '..UptoSaid' is the law's where the arguments, and the package variables that the reading takes, are together of bulk at most 1048576: NARROWER than '..Said'. Prove '..Said' where nothing that the law and all that it calls make is longer than what came in: it says more and counts as full. Else prove '..UptoSaid'. A law counts once. -/
mutual
def uptoBulk {H : Type} : DataW H → Nat
  | .lit (.string bytes) => bytes.length + 1
  | .lit _ => 1
  | .nil => 1
  | .ptr d => uptoBulk d + 1
  | .slice elems spare => uptoBulkAll elems + uptoBulkAll spare + 1
  | .agg parts => uptoBulkAll parts + 1
  | .iface _ d => uptoBulk d + 1
  | .map entries => uptoBulkEntries entries + 1
  | .held _ => 1
def uptoBulkAll {H : Type} : List (DataW H) → Nat
  | [] => 0
  | d :: r => uptoBulk d + uptoBulkAll r
def uptoBulkEntries {H : Type} : List (Lit × DataW H) → Nat
  | [] => 0
  | x :: r => uptoBulkEntry x + uptoBulkEntries r
def uptoBulkEntry {H : Type} : Lit × DataW H → Nat
  | (.string bytes, d) => bytes.length + uptoBulk d + 1
  | (_, d) => uptoBulk d + 1
 end
def uptoSmall : (H : Type) → List (DataW H) → Bool := fun _ ds => decide (uptoBulkAll ds ≤ 1048576)
def OpenSpec.upto (s : _root_.Go.ChangeSpec) : _root_.Go.OpenSpec := { _root_.Go.OpenSpec.ofChange s with cond := some uptoSmall }

/-- 'ergolaw06.MergeHeap', WHERE WHAT IT READS IS OF BULK AT MOST 1048576: true; the input reads as it did. -/
def mergeHeapUptoRow : OpenClaim := { program := "ytchkeanjekoghaa", sum := "0d23b26d62494b2013a600cea8bf23f132d57f7e3a8fdd34468f8d4c3a056af5", func := "ergo/ergolaw06.MergeHeap", spec := "mergeHeap", unfollowed := true, recurses := true, apart := false, narrowed := true }
def MergeHeapUptoSaid : Prop := mergeHeapUptoRow.holds Try.pinned (OpenSpec.upto mergeHeapSpec)

/-- 'ergolaw06.MergeSorts', WHERE WHAT IT READS IS OF BULK AT MOST 1048576: true; the input reads as it did. -/
def mergeSortsUptoRow : OpenClaim := { program := "ytchkeanjekoghaa", sum := "0d23b26d62494b2013a600cea8bf23f132d57f7e3a8fdd34468f8d4c3a056af5", func := "ergo/ergolaw06.MergeSorts", spec := "mergeSorts", unfollowed := true, recurses := true, apart := false, narrowed := true }
def MergeSortsUptoSaid : Prop := mergeSortsUptoRow.holds Try.pinned (OpenSpec.upto mergeSortsSpec)

/-- 'ergolaw06.MergeGreat', WHERE WHAT IT READS IS OF BULK AT MOST 1048576: true; the input reads as it did. -/
def mergeGreatUptoRow : OpenClaim := { program := "ytchkeanjekoghaa", sum := "0d23b26d62494b2013a600cea8bf23f132d57f7e3a8fdd34468f8d4c3a056af5", func := "ergo/ergolaw06.MergeGreat", spec := "mergeGreat", unfollowed := true, recurses := true, apart := false, narrowed := true }
def MergeGreatUptoSaid : Prop := mergeGreatUptoRow.holds Try.pinned (OpenSpec.upto mergeGreatSpec)

end Rows
end Go.Proofs.Ytchkeanjekoghaa
